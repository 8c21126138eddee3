/-
  Part of the proof by an abstract machine (MCal TM): what each theorem says stands at it; it asks what its own hypotheses say.
-/
import Derived.Test.YtndjpgelhpfgoaaGreatDoorMb
import Derived.Test.YtndjpgelhpfgoaaGreatDoorMc
import Derived.Test.YtndjpgelhpfgoaaGreatDoorMd
import Derived.Test.YtndjpgelhpfgoaaGreatDoorMe
import Derived.Test.YtndjpgelhpfgoaaGreatDoorCb
namespace Go.VM
open Go
section
variable {P : Program} {σ : Nat → Loc} {D : Nat → Prop}
theorem init_Rt {args : List AV} {l : List Value} (hl : Rs σ D args l) (k : Nat) : Rt σ D (setN args 0 .e) ((⟨l⟩ : Array Value) ++ Array.replicate k undef) := by
  intro t
  rw [gt_setN, Array.getD_eq_getD_getElem?, Array.getElem?_append]
  have hlen := hl.length
  by_cases hlt : t < args.length
  · rw [if_pos (by omega), if_pos (by simp; omega)]
    obtain ⟨y, hy, hr⟩ := hl.get t hlt
    simp only [Nat.sub_zero, List.getElem?_toArray, hy, Option.getD_some]
    exact hr
  · rw [if_neg (by omega), if_neg (by simp; omega), gt_e]
    have : (Array.replicate k undef)[t - (⟨l⟩ : Array Value).size]?.getD undef = undef := by
      rw [Array.getElem?_replicate]; split <;> rfl
    rw [this]
    exact .tup _ _ .nil

theorem body_of {fn : Func} {c : Code} {f : AFunc} (h : cFunc P fn = some f) (hb : fn.body = some c) : f.body = cCode P c ∧ dOk fn.ntmps (cCode P c) = true := by
  simp only [cFunc, hb, Option.bind_some] at h
  split at h
  · rename_i hok
    rw [Bool.and_eq_true] at hok
    simp only [Option.some.injEq] at h
    subst h
    exact ⟨rfl, hok.1⟩
  · cases h
end

theorem chkM_inv {i n : Nat} {x : Option (ACode × T AV × S)} (h : chkM i n x = true) : ∃ c tm s lo hi, x = some (c, tm, s) ∧ gt tm 13 = .rng .i64 lo hi ∧ 1 ≤ lo ∧ hi ≤ 64 ∧ ∀ v, i ≤ v → v < i + n → tailM c tm s v = true := by
  unfold chkM at h
  split at h
  · rename_i c tm s
    split at h
    · rename_i lo hi hg
      simp only [Bool.and_eq_true, ile_iff] at h
      exact ⟨c, tm, s, lo, hi, rfl, hg, h.1, h.2.1, fun v h1 h2 => allF_all h.2.2 v h1 h2⟩
    · cases h
  · cases h

theorem u8_wf {a : Int} (h : (Lit.int .u8 a).wf = true) : 0 ≤ a ∧ a ≤ 255 := by
  have e : IntKind.u8.min = 0 := by decide
  simp [Lit.wf] at h
  rw [e] at h
  exact ⟨by omega, by first | omega | exact h.2⟩

theorem many_any (a : Int) (ha : (Lit.int .u8 a).wf = true) (w : World) : Calls Go.Proofs.Tryz.prog 3 #[.int .u8 a] w (fun e w' => e = .returned (.bool true) ∧ Left w w') := by
  obtain ⟨a1, a2⟩ := u8_wf ha
  obtain ⟨c', tm1, s1, lo, hi, hs, hg, hlo, hhi, h1⟩ := chkM_inv kM1
  have h2 := kM17
  have h3 := kM33
  have h4 := kM49
  rw [hs] at h2 h3 h4
  obtain ⟨_, _, _, _, _, e2, _, _, _, h2⟩ := chkM_inv h2
  obtain ⟨_, _, _, _, _, e3, _, _, _, h3⟩ := chkM_inv h3
  obtain ⟨_, _, _, _, _, e4, _, _, _, h4⟩ := chkM_inv h4
  simp only [Option.some.injEq, Prod.mk.injEq] at e2 e3 e4
  obtain ⟨rfl, rfl, rfl⟩ := e2
  obtain ⟨rfl, rfl, rfl⟩ := e3
  obtain ⟨rfl, rfl, rfl⟩ := e4
  have hall : ∀ v, 1 ≤ v → v ≤ 64 → tailM c' tm1 s1 v = true := by
    intro v k1 k2
    rcases (by omega : v < 17 ∨ (17 ≤ v ∧ v < 33) ∨ (33 ≤ v ∧ v < 49) ∨ 49 ≤ v) with k | k | k | k
    · exact h1 v k1 (by omega)
    · exact h2 v k.1 (by omega)
    · exact h3 v k.1 (by omega)
    · exact h4 v k (by omega)
  obtain ⟨fn, c, k1, k2, k3, _⟩ := c3
  have hfn : fn = Go.Proofs.Tryz.f3 := Option.some.inj (k1.symm.trans Go.Proofs.Tryz.func3)
  subst hfn
  obtain ⟨hbody, hdk⟩ := body_of k3 k2
  have hbody' : a3.body = cCode Go.Proofs.Tryz.prog c := hbody
  rw [hbody'] at hs
  have hx := ex_of mixed_ok EM_fns EM_prims 100000
  obtain ⟨q, hq, hrun⟩ := segs_ok (w0 := w) hx (Q := EndT w 2 ((#[.int .u8 a] : Array Value) ++ Array.replicate (Go.Proofs.Tryz.f3.ntmps - (#[.int .u8 a] : Array Value).size) undef).size w.heap.size) 7 c _ s0 c' tm1 s1 hs
  refine calls_of_end Go.Proofs.Tryz.func3 k2 rfl ?_
  have hl : Rs (fun _ => ⟨0, 0, 0⟩) (fun _ => False) [full .u8] [.int .u8 a] := .cons _ _ _ _ (.rng _ _ _ _ (by show (0 : Int) ≤ a; exact a1) (by show a ≤ 255; exact a2)) .nil
  have hsz : Go.Proofs.Tryz.f3.ntmps ≤ ((#[.int .u8 a] : Array Value) ++ Array.replicate (Go.Proofs.Tryz.f3.ntmps - (#[.int .u8 a] : Array Value).size) undef).size := by simp
  refine hrun (fun _ => ⟨0, 0, 0⟩) (fun _ => False) _ w w.heap.size (St.start _ _ w) (init_Rt hl _) (dOk_mono hsz hdk) ⟨[], rfl, .nil, by simp⟩ (Nat.le_refl _) ?_
  intro σ' D' a' w' p1 p2 p3 p4 p5 p6
  obtain ⟨n, n1, n2, hsp⟩ := p2.split hg
  have hn : n = Int.ofNat n.toNat := by
    have : 0 ≤ n := by omega
    exact (Int.toNat_of_nonneg this).symm
  have ht := hall n.toNat (by omega) (by omega)
  unfold tailM at ht
  rw [← hn, hq] at ht
  have := retT_ok hx ht p1 hsp p4 p5 p6
  rw [p3] at this
  exact this
end Go.VM

namespace Go.Proofs.YtndjpgelhpfgoaaGreatDoor.turnsMany
open Go.ChangeShapes Go.WideShapes Go.ChangeAt Go.RowKit
set_option maxRecDepth 100000 in
theorem contract (H : Type) (enc : TypeId × Value → H) (W : World) (base : Nat) (args : Array Value) (ds gs : List (DataW H)) (before : List MemPlace)
    (hval : ∀ (j : Nat) t v, Tryz.f3.params[j]? = some t → args[j]? = some v → Value.okWide Tryz.prog W .any base t v)
    (hW : DataW.Whole enc Tryz.prog Tryz.f3.params.toList Rows.turnsManySpec.vars false W args.toList ds gs before) :
    Calls Tryz.prog 3 args W fun e W' => ∃ v, e = .returned v ∧ Rows.turnsManySpec.post enc Tryz.prog Tryz.f3 false true false false W args v W' := by
  have hW' := hW
  obtain ⟨p, q, hA0, hV, rfl, hfz, hnd⟩ := hW
  have hA : DataW.TrodAll enc Tryz.prog W 0 (fun _ => true) true Tryz.f3.params.toList args.toList ds p := hA0
  rw [Tryz.params3] at hA hval
  obtain ⟨v0, vs0, d0, ds0, p0, q0, hargs, rfl, rfl, h0, r0⟩ := trodAll_cons hA
  obtain ⟨rfl, rfl, rfl⟩ := trodAll_nil r0
  obtain rfl : args = #[v0] := by cases args; simp_all
  obtain ⟨rfl, rfl⟩ := trodVars_none hV
  obtain ⟨a0, rfl, rfl, rfl, w0⟩ := open_int Tryz.underlying5 (hval 0 5 v0 rfl rfl) h0
  clear hA0
  simp only [List.append_nil] at hW'
  refine (Go.VM.many_any a0 w0 W).mono fun e W' ⟨he, hg⟩ => ?_
  subst he
  exact ⟨_, rfl, post_below (pr := []) (pa := []) (pv := []) hW' (trodAll_cons_mk (shut_bool Tryz.underlying4 _) trodAll_mk0) (trodAll_cons_mk (shut_int Tryz.underlying5 w0) trodAll_mk0) rfl
    (Go.VM.below_of_left hg)⟩
theorem laid_met (os : Os) : laidMetH Tryz.prog Rows.turnsManyRow.laid ((laidWorld os).forCall (fun _ _ => 0) ⟨#[], #[.int .u8 0], []⟩).memory :=
  laidMetH_of_parts3 (fuel := 8) (laidMet_of_run' 8 (by kernel_rfl) (by kernel_rfl)) (by kernel_rfl) (by kernel_rfl)
end Go.Proofs.YtndjpgelhpfgoaaGreatDoor.turnsMany

