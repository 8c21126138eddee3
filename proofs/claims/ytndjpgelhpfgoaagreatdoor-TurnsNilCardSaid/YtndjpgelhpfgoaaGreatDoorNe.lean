/-
  Part of the proof by an abstract machine (TNC TNW): what each theorem says stands at it; it asks what its own hypotheses say.
-/
import Derived.Test.YtndjpgelhpfgoaaGreatDoorNc
import Derived.Test.YtndjpgelhpfgoaaGreatDoorNd
namespace Go.VM
open Go
theorem turnsNil_any (a b : Int) (ha : (Lit.int .i64 a).wf = true) (hb : (Lit.int .i64 b).wf = true) (v : Value) (w : World) (hv : ByteSl w v) :
    Calls Go.Proofs.Tryz.prog 6 #[.int .i64 a, .int .i64 b, v] w (fun e w' => e = .returned (.bool true) ∧ Left w w') := by
  obtain ⟨a1, a2⟩ := i64_wf ha
  obtain ⟨b1, b2⟩ := i64_wf hb
  have e0 : nm1 = -1 := rfl
  have e1 : n40 = 1099511627776 := rfl
  have e2 : n41 = 1099511627777 := rfl
  have e3 : n0 = 0 := rfl
  rcases hv with ⟨x, cap, rfl⟩ | ⟨blk, off, len, cap, C, el, fr, rfl, hlen, hC, hbig, hall⟩
  · have key : ∀ {lb hb' : Int}, outV 0 ((vm EN 100000).call 6 [rg lo64 hi64, rg lb hb', .sle] s0) = some (.bool true, true) → lb ≤ b → b ≤ hb' → Calls Go.Proofs.Tryz.prog 6 #[.int .i64 a, .int .i64 b, .slice x 0 cap] w (fun e w' => e = .returned (.bool true) ∧ Left w w') :=
      fun h h1 h2 => out_calls mixed_ok EN_fns EN_prims h (l := [.int .i64 a, .int .i64 b, .slice x 0 cap]) (.cons _ _ _ _ (.rng _ _ _ _ a1 a2) (.cons _ _ _ _ (.rng _ _ _ _ h1 h2) (.cons _ _ _ _ (.sle _ _) .nil))) Go.Proofs.Tryz.func6 rfl w
    rcases (by omega : b ≤ -1 ∨ (0 ≤ b ∧ b ≤ 1099511627776) ∨ 1099511627777 ≤ b) with h | h | h
    · exact key kN2 b1 (by rw [e0]; exact h)
    · exact key kN4 (by rw [e3]; exact h.1) (by rw [e1]; exact h.2)
    · exact key kN6 (by rw [e2]; exact h) b2
  · have key : ∀ {lb hb' : Int}, outV 1 ((vm EN 100000).call 6 [rg lo64 hi64, rg lb hb', .slo 0 0 len 1] sR) = some (.bool true, true) → lb ≤ b → b ≤ hb' → Calls Go.Proofs.Tryz.prog 6 #[.int .i64 a, .int .i64 b, .slice (some ⟨blk, off, none⟩) len cap] w (fun e w' => e = .returned (.bool true) ∧ Left w w') :=
      fun h h1 h2 => raw_calls mixed_ok EN_fns EN_prims h hC hbig hall (l := [.int .i64 a, .int .i64 b, .slice (some ⟨blk, off, none⟩) len cap])
        (.cons _ _ _ _ (.rng _ _ _ _ a1 a2) (.cons _ _ _ _ (.rng _ _ _ _ h1 h2) (.cons _ _ _ _ (.slo 0 0 len 1 cap rfl hlen (by show off + 0 + cap * 1 ≤ off + cap; omega)) .nil))) Go.Proofs.Tryz.func6 rfl
    rcases (by omega : b ≤ -1 ∨ (0 ≤ b ∧ b ≤ 1099511627776) ∨ 1099511627777 ≤ b) with h | h | h
    · exact key (kN1 len) b1 (by rw [e0]; exact h)
    · exact key (kN3 len) (by rw [e3]; exact h.1) (by rw [e1]; exact h.2)
    · exact key (kN5 len) (by rw [e2]; exact h) b2
end Go.VM

namespace Go.Proofs.YtndjpgelhpfgoaaGreatDoor.turnsNil
open Go.ChangeShapes Go.WideShapes Go.ChangeAt Go.RowKit
set_option maxRecDepth 100000 in
theorem contract (H : Type) (enc : TypeId × Value → H) (W : World) (base : Nat) (args : Array Value) (ds gs : List (DataW H)) (before : List MemPlace)
    (hval : ∀ (j : Nat) t v, Tryz.f6.params[j]? = some t → args[j]? = some v → Value.okWide Tryz.prog W .any base t v)
    (hW : DataW.Whole enc Tryz.prog Tryz.f6.params.toList Rows.turnsNilSpec.vars false W args.toList ds gs before)
    (hsz0 : (DataW.weightsEach Tryz.prog (Tryz.f6.params.toList ++ (OpenSpec.ofChange Rows.turnsNilSpec).bare.plain.varTypes Tryz.prog) (ds ++ gs)).all (· ≤ reachBytes) = true) :
    Calls Tryz.prog 6 args W fun e W' => ∃ v, e = .returned v ∧ Rows.turnsNilSpec.post enc Tryz.prog Tryz.f6 false true false false W args v W' := by
  have hW' := hW
  have hsz := hsz0
  obtain ⟨p, q, hA0, hV, rfl, hfz, hnd⟩ := hW
  have hA : DataW.TrodAll enc Tryz.prog W 0 (fun _ => true) true Tryz.f6.params.toList args.toList ds p := hA0
  rw [Tryz.params6] at hA hval hsz
  obtain ⟨v0, vs0, d0, ds0, p0, q0, hargs, rfl, rfl, h0, r0⟩ := trodAll_cons hA
  obtain ⟨v1, vs1, d1, ds1, p1, q1, rfl, rfl, rfl, h1, r1⟩ := trodAll_cons r0
  obtain ⟨v2, vs2, d2, ds2, p2, q2, rfl, rfl, rfl, h2, r2⟩ := trodAll_cons r1
  obtain ⟨rfl, rfl, rfl⟩ := trodAll_nil r2
  obtain rfl : args = #[v0, v1, v2] := by cases args; simp_all
  obtain ⟨rfl, rfl⟩ := trodVars_none hV
  obtain ⟨a0, rfl, rfl, rfl, w0⟩ := open_int Tryz.underlying3 (hval 0 3 v0 rfl rfl) h0
  obtain ⟨a1, rfl, rfl, rfl, w1⟩ := open_int Tryz.underlying3 (hval 1 3 v1 rfl rfl) h1
  obtain ⟨a2, len, cap, rfl⟩ := okWide_slice Tryz.underlying35 (hval 2 35 v2 rfl rfl)
  have h2k := h2
  obtain ⟨fuel, hf⟩ := h2
  have hb : Go.VM.ByteSl W (.slice a2 len cap) := Go.VM.byteSl_of hf fun elems spare e => by
    subst e
    exact sized_slice hsz (j := 2) (t := 35) (e := 5) rfl rfl Tryz.underlying35
  have hlt : ∀ x ∈ p2, x.block < W.heap.size := fun x hx => hW'.lt x (by simp [hx])
  clear hA0
  refine (Go.VM.turnsNil_any a0 a1 w0 w1 _ W hb).mono fun e W' ⟨he, hg⟩ => ?_
  subst he
  have hbel := Go.VM.below_of_left hg
  exact ⟨_, rfl, post_below (pr := []) (pv := []) hW' (trodAll_cons_mk (shut_bool Tryz.underlying4 _) trodAll_mk0)
    (trodAll_cons_mk (shut_int Tryz.underlying3 w0) (trodAll_cons_mk (shut_int Tryz.underlying3 w1) (trodAll_cons_mk (Below.trod laidOut rec35 lt35 h2k hbel hlt) trodAll_mk0))) rfl hbel⟩
end Go.Proofs.YtndjpgelhpfgoaaGreatDoor.turnsNil

namespace Go.Proofs.YtndjpgelhpfgoaaGreatDoor.turnsNil
set_option maxRecDepth 100000
theorem laid_met (os : Os) : laidMetH Tryz.prog Rows.turnsNilRow.laid ((laidWorld os).forCall (fun _ _ => 0) ⟨#[], #[.int .i64 0, .int .i64 0, .slice none 0 0], []⟩).memory :=
  laidMetH_of_parts3 (fuel := 8) (laidMet_of_run' 8 (by kernel_rfl) (by kernel_rfl)) (by kernel_rfl) (by kernel_rfl)
end Go.Proofs.YtndjpgelhpfgoaaGreatDoor.turnsNil

