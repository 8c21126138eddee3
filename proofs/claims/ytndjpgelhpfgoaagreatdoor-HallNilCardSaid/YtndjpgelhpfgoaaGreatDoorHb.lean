/-
  Part of the proof by an abstract machine (HNC HNW): what each theorem says stands at it; it asks what its own hypotheses say.
-/
import Derived.Test.YtndjpgelhpfgoaaGreatDoorNc
import Derived.Test.YtndjpgelhpfgoaaGreatDoorHa
namespace Go.VM
open Go
set_option maxRecDepth 100000
theorem Rs_tops {σ : Nat → Loc} {D : Nat → Prop} : ∀ {l : List Value}, (∀ v ∈ l, Sc v) → Rs σ D (List.replicate l.length .top) l
  | [], _ => .nil
  | v :: l, h => .cons _ _ _ _ (.top v (h v (by simp))) (Rs_tops fun u hu => h u (List.mem_cons_of_mem _ hu))
theorem reqA_eq (b : AV) : reqA b = .agg (List.replicate 38 .top ++ [b]) := rfl
theorem req_R {σ : Nat → Loc} {D : Nat → Prop} {l : List Value} {v : Value} {b : AV} (hl : l.length = 38) (hs : ∀ u ∈ l, Sc u) (hv : R σ D b v) : R σ D (reqA b) (.agg ⟨l ++ [v]⟩) := by
  rw [reqA_eq]
  refine .agg _ _ (Rs.append ?_ (.cons _ _ _ _ hv .nil))
  rw [← hl]; exact Rs_tops hs

theorem args_R {σ : Nat → Loc} {D : Nat → Prop} {la ha lb hb a b : Int} {x : AV} {y : Value} (h1 : la ≤ a) (h2 : a ≤ ha) (h3 : lb ≤ b) (h4 : b ≤ hb) (h : R σ D x y) : Rs σ D [rg la ha, rg lb hb, x] [.int .i64 a, .int .i64 b, y] :=
  .cons _ _ _ _ (.rng _ _ _ _ h1 h2) (.cons _ _ _ _ (.rng _ _ _ _ h3 h4) (.cons _ _ _ _ h .nil))
theorem hn_out {la ha' lb hb' a b : Int} {y : Value} {w : World} (h : outV 0 ((vm EN 100000).call 4 [rg la ha', rg lb hb', reqA .sle] s0) = some (.bool true, true))
    (hR : Rs (fun _ => ⟨0, 0, 0⟩) (fun _ => False) [rg la ha', rg lb hb', reqA .sle] [.int .i64 a, .int .i64 b, y]) :
    Calls Go.Proofs.Tryz.prog 4 #[.int .i64 a, .int .i64 b, y] w (fun e w' => e = .returned (.bool true) ∧ Left w w') := out_calls mixed_ok EN_fns EN_prims h hR Go.Proofs.Tryz.func4 rfl w
theorem hn_raw {la ha' lb hb' a b : Int} {y : Value} {w : World} {len blk off cap : Nat} {C : Array Value} {el : TypeId} {fr : Nat × Nat}
    (h : outV 1 ((vm EN 100000).call 4 [rg la ha', rg lb hb', reqA (.slo 0 0 len 1)] sR) = some (.bool true, true))
    (hC : w.heap[blk]? = some (.cells C el fr)) (hbig : cap ≤ 140737488351232) (hall : ∀ i, off ≤ i → i < off + cap → ∃ z, C[i]? = some (.int .u8 z))
    (hR : Rs (fun _ => ⟨blk, off, off + cap⟩) (fun x => x = 0) [rg la ha', rg lb hb', reqA (.slo 0 0 len 1)] [.int .i64 a, .int .i64 b, y]) :
    Calls Go.Proofs.Tryz.prog 4 #[.int .i64 a, .int .i64 b, y] w (fun e w' => e = .returned (.bool true) ∧ Left w w') := raw_calls mixed_ok EN_fns EN_prims h hC hbig hall hR Go.Proofs.Tryz.func4 rfl
theorem hallNil_any (a b : Int) (ha : (Lit.int .i64 a).wf = true) (hb : (Lit.int .i64 b).wf = true) (l : List Value) (hl : l.length = 38) (hs : ∀ u ∈ l, Sc u) (v : Value) (w : World) (hv : ByteSl w v) :
    Calls Go.Proofs.Tryz.prog 4 #[.int .i64 a, .int .i64 b, .agg ⟨l ++ [v]⟩] w (fun e w' => e = .returned (.bool true) ∧ Left w w') := by
  obtain ⟨a1, a2⟩ := i64_wf ha
  obtain ⟨b1, b2⟩ := i64_wf hb
  have e0 : nm1 = -1 := rfl
  have e3 : n0 = 0 := rfl
  have e4 : n1 = 1 := rfl
  have e5 : n6 = 6 := rfl
  have e6 : n7 = 7 := rfl
  have e7 : n20 = 1048576 := rfl
  have e8 : n21 = 1048577 := rfl
  rcases hv with ⟨x, cap, rfl⟩ | ⟨blk, off, len, cap, C, el, fr, rfl, hlen, hC, hbig, hall⟩
  · have key : ∀ {la ha' lb hb' : Int}, outV 0 ((vm EN 100000).call 4 [rg la ha', rg lb hb', reqA .sle] s0) = some (.bool true, true) → la ≤ a → a ≤ ha' → lb ≤ b → b ≤ hb' → Calls Go.Proofs.Tryz.prog 4 #[.int .i64 a, .int .i64 b, .agg ⟨l ++ [.slice x 0 cap]⟩] w (fun e w' => e = .returned (.bool true) ∧ Left w w') :=
      fun h h1 h2 h3 h4 => hn_out h (args_R h1 h2 h3 h4 (req_R hl hs (R.sle x cap)))
    rcases (by omega : a ≤ -1 ∨ (0 ≤ a ∧ a ≤ 6) ∨ 7 ≤ a) with h | h | h <;> rcases (by omega : b ≤ 0 ∨ (1 ≤ b ∧ b ≤ 1048576) ∨ 1048577 ≤ b) with k | k | k
    · exact key kH00b a1 (by rw [e0]; exact h) b1 (by rw [e3]; exact k)
    · exact key kH01b a1 (by rw [e0]; exact h) (by rw [e4]; exact k.1) (by rw [e7]; exact k.2)
    · exact key kH02b a1 (by rw [e0]; exact h) (by rw [e8]; exact k) b2
    · exact key kH10b (by rw [e3]; exact h.1) (by rw [e5]; exact h.2) b1 (by rw [e3]; exact k)
    · exact key kH11b (by rw [e3]; exact h.1) (by rw [e5]; exact h.2) (by rw [e4]; exact k.1) (by rw [e7]; exact k.2)
    · exact key kH12b (by rw [e3]; exact h.1) (by rw [e5]; exact h.2) (by rw [e8]; exact k) b2
    · exact key kH20b (by rw [e6]; exact h) a2 b1 (by rw [e3]; exact k)
    · exact key kH21b (by rw [e6]; exact h) a2 (by rw [e4]; exact k.1) (by rw [e7]; exact k.2)
    · exact key kH22b (by rw [e6]; exact h) a2 (by rw [e8]; exact k) b2
  · have key : ∀ {la ha' lb hb' : Int}, outV 1 ((vm EN 100000).call 4 [rg la ha', rg lb hb', reqA (.slo 0 0 len 1)] sR) = some (.bool true, true) → la ≤ a → a ≤ ha' → lb ≤ b → b ≤ hb' → Calls Go.Proofs.Tryz.prog 4 #[.int .i64 a, .int .i64 b, .agg ⟨l ++ [.slice (some ⟨blk, off, none⟩) len cap]⟩] w (fun e w' => e = .returned (.bool true) ∧ Left w w') :=
      fun h h1 h2 h3 h4 => hn_raw h hC hbig hall (args_R h1 h2 h3 h4 (req_R hl hs (R.slo 0 0 len 1 cap rfl hlen (by show off + 0 + cap * 1 ≤ off + cap; omega))))
    rcases (by omega : a ≤ -1 ∨ (0 ≤ a ∧ a ≤ 6) ∨ 7 ≤ a) with h | h | h <;> rcases (by omega : b ≤ 0 ∨ (1 ≤ b ∧ b ≤ 1048576) ∨ 1048577 ≤ b) with k | k | k
    · exact key (kH00a len) a1 (by rw [e0]; exact h) b1 (by rw [e3]; exact k)
    · exact key (kH01a len) a1 (by rw [e0]; exact h) (by rw [e4]; exact k.1) (by rw [e7]; exact k.2)
    · exact key (kH02a len) a1 (by rw [e0]; exact h) (by rw [e8]; exact k) b2
    · exact key (kH10a len) (by rw [e3]; exact h.1) (by rw [e5]; exact h.2) b1 (by rw [e3]; exact k)
    · exact key (kH11a len) (by rw [e3]; exact h.1) (by rw [e5]; exact h.2) (by rw [e4]; exact k.1) (by rw [e7]; exact k.2)
    · exact key (kH12a len) (by rw [e3]; exact h.1) (by rw [e5]; exact h.2) (by rw [e8]; exact k) b2
    · exact key (kH20a len) (by rw [e6]; exact h) a2 b1 (by rw [e3]; exact k)
    · exact key (kH21a len) (by rw [e6]; exact h) a2 (by rw [e4]; exact k.1) (by rw [e7]; exact k.2)
    · exact key (kH22a len) (by rw [e6]; exact h) a2 (by rw [e8]; exact k) b2

/-- a request, taken apart -/
theorem req_open {H : Type} {enc : TypeId × Value → H} {w : World} {base : Nat} {v : Value} {d : DataW H} {ps : List MemPlace} (hval : Value.okWide Go.Proofs.Tryz.prog w .any base 43 v)
    (hd : DataW.Trod enc Go.Proofs.Tryz.prog w 0 (fun _ => true) true 43 v d ps) (hsz : (DataW.weights Go.Proofs.Tryz.prog 43 d).all (· ≤ reachBytes) = true) :
    ∃ (l : List Value) (u : Value), v = .agg ⟨l ++ [u]⟩ ∧ l.length = 38 ∧ (∀ x ∈ l, Sc x) ∧ ByteSl w u := by
  simp only [Value.okWide, Go.Proofs.Tryz.underlying43] at hval
  obtain ⟨cs, rfl, hsize, ts, hts, _, hcell⟩ := hval
  rw [Go.Proofs.cellT43] at hts
  simp only [Option.some.injEq] at hts
  subst hts
  rw [Go.Proofs.cells43] at hsize
  have hlen : cs.toList.length = 39 := by simpa using hsize
  obtain ⟨l, u, hlu⟩ : ∃ (l : List Value) (u : Value), cs.toList = l ++ [u] := by
    have hne : cs.toList ≠ [] := by intro e; rw [e] at hlen; simp at hlen
    exact ⟨cs.toList.dropLast, cs.toList.getLast hne, (List.dropLast_concat_getLast hne).symm⟩
  have hl : l.length = 38 := by rw [hlu] at hlen; simpa using hlen
  have hcs : cs = ⟨l ++ [u]⟩ := by cases cs; simp at hlu; rw [hlu]
  refine ⟨l, u, by rw [hcs], hl, fun x hx => ?_, ?_⟩
  · obtain ⟨i, hi, hxi⟩ := List.mem_iff_getElem.1 hx
    have h1 : cs[i]? = some x := by
      rw [hcs]; simp [List.getElem?_append_left (by omega : i < l.length), List.getElem?_eq_getElem hi, hxi]
    obtain ⟨t, ht, hok⟩ := hcell i x h1
    have hi' : i < 38 := by omega
    have ht' : t = 3 ∨ t = 9 ∨ t = 5 := by
      rw [Nat.mod_eq_of_lt (by simp; omega)] at ht
      have hmem : t ∈ ([3, 9, 9] ++ List.replicate 32 5 ++ [3, 3, 3, 35] : List Nat).take 38 := by
        rw [List.mem_iff_getElem?]
        exact ⟨i, by rw [List.getElem?_take, if_pos hi']; exact ht⟩
      have : ([3, 9, 9] ++ List.replicate 32 5 ++ [3, 3, 3, 35] : List Nat).take 38 = [3, 9, 9] ++ List.replicate 32 5 ++ [3, 3, 3] := rfl
      rw [this] at hmem
      have hall : ∀ t ∈ ([3, 9, 9] ++ List.replicate 32 5 ++ [3, 3, 3] : List Nat), t = 3 ∨ t = 9 ∨ t = 5 := by decide
      exact hall t hmem
    cases x with
    | agg _ => rcases ht' with rfl | rfl | rfl <;> simp [Cell.okWide, Go.Proofs.Tryz.underlying3, Go.Proofs.Tryz.underlying9, Go.Proofs.Tryz.underlying5, Cell.ok] at hok
    | tuple _ => rcases ht' with rfl | rfl | rfl <;> simp [Cell.okWide, Go.Proofs.Tryz.underlying3, Go.Proofs.Tryz.underlying9, Go.Proofs.Tryz.underlying5, Cell.ok] at hok
    | _ => trivial
  · obtain ⟨fuel, hf⟩ := hd
    obtain ⟨xs, n, rfl, hx, _, hxl, hfield⟩ := DataW.trod_struct Go.Proofs.Tryz.underlying43 hf
    have h7 := hfield 7 { name := "Body", type := 35, offset := 38, embedded := false, tag := "", pkgPath := "", byteOffset := 96 } rfl
    dsimp only at h7
    have hxl' : xs.length = 8 := by simpa using hxl
    obtain ⟨y, hy⟩ : ∃ y, xs[7]? = some y := ⟨xs[7], List.getElem?_eq_getElem (by omega)⟩
    rw [hy, Go.Proofs.cells35] at h7
    have hdrop : List.take 1 (List.drop 38 (Value.agg cs).cells.toList) = [u] := by
      show List.take 1 (List.drop 38 cs.toList) = [u]
      rw [hlu, List.drop_left' hl]; rfl
    rw [hdrop] at h7
    obtain ⟨y1, y2⟩ := y
    refine byteSl_of h7 fun elems spare e => ?_
    subst e
    simp only [Prod.mk.injEq] at hx
    have hd : d = .agg (xs.map (·.1)) := hx.1
    subst hd
    have hw : DataW.weights Go.Proofs.Tryz.prog 43 (.agg (xs.map (·.1))) = DataW.weightsEach Go.Proofs.Tryz.prog [3, 9, 9, 27, 3, 3, 3, 35] (xs.map (·.1)) := by
      simp [DataW.weights, Go.Proofs.Tryz.underlying43]
    rw [hw] at hsz
    exact sized_slice hsz (j := 7) (t := 35) (e := 5) rfl (by simp [hy]) Go.Proofs.Tryz.underlying35
end Go.VM

namespace Go.Proofs.YtndjpgelhpfgoaaGreatDoor.hallNil
open Go.ChangeShapes Go.WideShapes Go.ChangeAt Go.RowKit
set_option maxRecDepth 100000 in
theorem contract (H : Type) (enc : TypeId × Value → H) (W : World) (base : Nat) (args : Array Value) (ds gs : List (DataW H)) (before : List MemPlace)
    (hval : ∀ (j : Nat) t v, Tryz.f4.params[j]? = some t → args[j]? = some v → Value.okWide Tryz.prog W .any base t v)
    (hW : DataW.Whole enc Tryz.prog Tryz.f4.params.toList Rows.hallNilSpec.vars false W args.toList ds gs before)
    (hsz0 : (DataW.weightsEach Tryz.prog (Tryz.f4.params.toList ++ (OpenSpec.ofChange Rows.hallNilSpec).bare.plain.varTypes Tryz.prog) (ds ++ gs)).all (· ≤ reachBytes) = true) :
    Calls Tryz.prog 4 args W fun e W' => ∃ v, e = .returned v ∧ Rows.hallNilSpec.post enc Tryz.prog Tryz.f4 false true false false W args v W' := by
  have hW' := hW
  have hsz := hsz0
  obtain ⟨p, q, hA0, hV, rfl, hfz, hnd⟩ := hW
  have hA : DataW.TrodAll enc Tryz.prog W 0 (fun _ => true) true Tryz.f4.params.toList args.toList ds p := hA0
  rw [Tryz.params4] at hA hval hsz
  obtain ⟨v0, vs0, d0, ds0, p0, q0, hargs, rfl, rfl, h0, r0⟩ := trodAll_cons hA
  obtain ⟨v1, vs1, d1, ds1, p1, q1, rfl, rfl, rfl, h1, r1⟩ := trodAll_cons r0
  obtain ⟨v2, vs2, d2, ds2, p2, q2, rfl, rfl, rfl, h2, r2⟩ := trodAll_cons r1
  obtain ⟨rfl, rfl, rfl⟩ := trodAll_nil r2
  obtain rfl : args = #[v0, v1, v2] := by cases args; simp_all
  obtain ⟨rfl, rfl⟩ := trodVars_none hV
  obtain ⟨a0, rfl, rfl, rfl, w0⟩ := open_int Tryz.underlying3 (hval 0 3 v0 rfl rfl) h0
  obtain ⟨a1, rfl, rfl, rfl, w1⟩ := open_int Tryz.underlying3 (hval 1 3 v1 rfl rfl) h1
  have hsz2 : (DataW.weights Tryz.prog 43 d2).all (· ≤ reachBytes) = true := by
    rw [List.all_eq_true] at hsz ⊢
    intro x hx
    exact hsz x (DataW.weights_mem_each (j := 2) rfl rfl x hx)
  obtain ⟨l, u, rfl, hl, hs, hb⟩ := Go.VM.req_open (hval 2 43 v2 rfl rfl) h2 hsz2
  have hlt : ∀ x ∈ p2, x.block < W.heap.size := fun x hx => hW'.lt x (by simp [hx])
  clear hA0
  refine (Go.VM.hallNil_any a0 a1 w0 w1 l hl hs u W hb).mono fun e W' ⟨he, hg⟩ => ?_
  subst he
  have hbel := Go.VM.below_of_left hg
  exact ⟨_, rfl, post_below (pr := []) (pv := []) hW' (trodAll_cons_mk (shut_bool Tryz.underlying4 _) trodAll_mk0)
    (trodAll_cons_mk (shut_int Tryz.underlying3 w0) (trodAll_cons_mk (shut_int Tryz.underlying3 w1) (trodAll_cons_mk (Below.trod laidOut rec43 lt43 h2 hbel hlt) trodAll_mk0))) rfl hbel⟩
end Go.Proofs.YtndjpgelhpfgoaaGreatDoor.hallNil

namespace Go.Proofs.YtndjpgelhpfgoaaGreatDoor.hallNil
set_option maxRecDepth 100000
def wReq : Value := .agg ⟨[.int .i64 0, txt [], txt []] ++ List.replicate 32 (.int .u8 0) ++ [.int .i64 0, .int .i64 0, .int .i64 0, .slice none 0 0]⟩
def rReq {H : Type} : DataW H := .agg [.lit (.int .i64 0), .lit (.string []), .lit (.string []), .agg (List.replicate 32 (.lit (.int .u8 0))), .lit (.int .i64 0), .lit (.int .i64 0), .lit (.int .i64 0), .nil]
theorem laid_met (os : Os) : laidMetH Tryz.prog Rows.hallNilRow.laid ((laidWorld os).forCall (fun _ _ => 0) ⟨#[], #[.int .i64 0, .int .i64 0, wReq], []⟩).memory :=
  laidMetH_of_parts3 (fuel := 8) (laidMet_of_run' 8 (by kernel_rfl) (by kernel_rfl)) (by kernel_rfl) (by kernel_rfl)
end Go.Proofs.YtndjpgelhpfgoaaGreatDoor.hallNil

