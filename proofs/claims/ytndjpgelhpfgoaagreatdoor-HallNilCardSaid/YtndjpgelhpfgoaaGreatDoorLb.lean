/-
  Part of the proof by an abstract machine (EnvC LC0 EnvC2): what each theorem says stands at it; it asks what its own hypotheses say.
-/
import Derived.Test.YtndjpgelhpfgoaaGreatDoorLa
import Derived.Test.YtndjpgelhpfgoaaGreatDoorPa
import Derived.Test.YtndjpgelhpfgoaaGreatDoorKb
namespace Go.VM
open Go
set_option maxRecDepth 100000
noncomputable def pSumE : Prim := fun a s => match a with
  | [.snil] => .ok dgE s
  | a => pSlice goX a s
theorem pSumE_ok {args : List AV} {s s' : S} {v : AV} (h : pSumE args s = .ok v s') : Syn s s' ∧ ∀ σ D w l, RW Go.Proofs.Tryz.prog σ D s w → Rs σ D args l → Off D s.nx s'.nx → Called Go.Proofs.Tryz.prog 68 l w (Aft Go.Proofs.Tryz.prog σ D s w v s') := by
  unfold pSumE at h
  split at h
  · simp only [RV.ok.injEq] at h
    obtain ⟨rfl, rfl⟩ := h
    obtain ⟨s2, hr, _⟩ := of_outV kxe
    refine ⟨Syn.refl _, fun σ D w l hw hl _ => pure_call mixed_ok EK0_fns EK0_prims hr (by kernel_rfl) ?_ hw⟩
    cases hl with
    | cons _ y _ m hx hr2 => cases hr2; cases hx; exact .cons _ _ _ _ .snil .nil
  · exact pSlice_ok goX_ok h
/-- the check sum of bytes that are not known -/
def goCrc (cs : List AV) : Option AV := match fitsL (uB cs.length) cs with
  | true => match Nat.beq cs.length 17 || (Nat.beq cs.length 40 || (Nat.beq cs.length 75 || Nat.beq cs.length 147)) with
    | true => some (full .u32)
    | false => none
  | false => none
theorem goCrc_ok : GoOk Go.Proofs.Tryz.prog 265 (fun n => .slo 0 0 n 1) goCrc := by
  refine ⟨fun cs v h => ?_⟩
  unfold goCrc at h
  split at h
  · rename_i hfit
    split at h
    · rename_i hn
      simp only [Option.some.injEq] at h
      subst h
      refine ⟨uB cs.length, by simp [uB], fun σ D σ1 D1 ys hy => fitsL_R hfit hy, ⟨fnsL, noPrims⟩, 100000, ?_⟩
      have key : ∀ n, n = cs.length → outV 1 ((vm ⟨fnsL, noPrims⟩ 100000).call 265 [.slo 0 0 n 1] (sV [uB n])) = some (full .u32, true) → ∃ s2, Go.Proofs.Tryz.prog.follows .mixedOrders = true ∧ FnsOk Go.Proofs.Tryz.prog ⟨fnsL, noPrims⟩ ∧ PrimsOk Go.Proofs.Tryz.prog ⟨fnsL, noPrims⟩ ∧
          (vm ⟨fnsL, noPrims⟩ 100000).call 265 [.slo 0 0 (uB cs.length).length 1] (sV [uB cs.length]) = .ok (full .u32) s2 ∧ closed (full .u32) = true ∧ noWs 1 s2 = true := by
        intro n hn h
        obtain ⟨s2, h1, h2⟩ := of_outV h
        subst hn
        refine ⟨s2, mixed_ok, fnsL_ok _, noPrims_ok _, ?_, rfl, h2⟩
        have e : (uB cs.length).length = cs.length := by simp [uB]
        rw [e]; exact h1
      simp only [Bool.or_eq_true] at hn
      rcases hn with h | h | h | h
      · exact key 17 (Nat.eq_of_beq_eq_true h).symm kc17
      · exact key 40 (Nat.eq_of_beq_eq_true h).symm kc40
      · exact key 75 (Nat.eq_of_beq_eq_true h).symm kc75
      · exact key 147 (Nat.eq_of_beq_eq_true h).symm kc147
    · cases h
  · cases h
noncomputable def primsC (f : Nat) : Option Prim := if Nat.beq f 18 = true then some (pPat [] (.bool true)) else if Nat.beq f 47 = true then some pSortedI else if Nat.beq f 68 = true then some pSumE else if Nat.beq f 265 = true then some (pSlice goCrc) else primsL f
noncomputable def EC : Env := ⟨fnsL, primsC⟩
theorem EC_fns : FnsOk Go.Proofs.Tryz.prog EC := fnsL_ok _
theorem EC_prims : PrimsOk Go.Proofs.Tryz.prog EC := by
  intro f p hp args s v s' h
  have hp' : primsC f = some p := hp
  unfold primsC at hp'
  split at hp'
  · rename_i hf
    have hf' := Nat.eq_of_beq_eq_true hf
    subst hf'
    simp only [Option.some.injEq] at hp'
    subst hp'
    exact pPat_ok (E := EL) mixed_ok EL_fns EL_prims kAwake rfl h
  · split at hp'
    · rename_i hf
      have hf' := Nat.eq_of_beq_eq_true hf
      subst hf'
      simp only [Option.some.injEq] at hp'
      subst hp'
      exact pSortedI_ok h
    · split at hp'
      · rename_i hf
        have hf' := Nat.eq_of_beq_eq_true hf
        subst hf'
        simp only [Option.some.injEq] at hp'
        subst hp'
        exact pSumE_ok h
      · split at hp'
        · rename_i hf
          have hf' := Nat.eq_of_beq_eq_true hf
          subst hf'
          simp only [Option.some.injEq] at hp'
          subst hp'
          exact pSlice_ok goCrc_ok h
        · exact EL_prims f p hp' args s v s' h
def rg (l h : Int) : AV := .rng .i64 l h
def lo64 : Int := .negSucc 9223372036854775807
def hi64 : Int := .ofNat 9223372036854775807
end Go.VM

namespace Go.VM
open Go
set_option maxRecDepth 100000
theorem kAwC : outV 0 ((vm EC 100000).call 32 [] s0) = some (.bool true, true) := by kernel_rfl
end Go.VM

namespace Go.VM
open Go
set_option maxRecDepth 100000
noncomputable def primsC2 (f : Nat) : Option Prim := if Nat.beq f 32 = true then some (pPat [] (.bool true)) else primsC f
noncomputable def EC2 : Env := ⟨fnsL, primsC2⟩
theorem EC2_fns : FnsOk Go.Proofs.Tryz.prog EC2 := fnsL_ok _
theorem EC2_prims : PrimsOk Go.Proofs.Tryz.prog EC2 := by
  intro f p hp args s v s' h
  have hp' : primsC2 f = some p := hp
  unfold primsC2 at hp'
  split at hp'
  · rename_i hf
    have hf' := Nat.eq_of_beq_eq_true hf
    subst hf'
    simp only [Option.some.injEq] at hp'
    subst hp'
    exact pPat_ok (E := EC) mixed_ok EC_fns EC_prims kAwC rfl h
  · exact EC_prims f p hp' args s v s' h
end Go.VM

