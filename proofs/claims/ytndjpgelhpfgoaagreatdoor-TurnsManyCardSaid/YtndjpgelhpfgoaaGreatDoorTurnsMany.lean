/-
  The law hallmarklaw22.TurnsMany returns true at every input, and leaves its argument as it was: the tied card. No condition.
-/
import Derived.Test.YtndjpgelhpfgoaaGreatDoorMi
import Derived.Test.YtndjpgelhpfgoaaGreatDoorMj
namespace Go.Proofs.YtndjpgelhpfgoaaGreatDoor.turnsMany
open Go.ChangeShapes Go.WideShapes Go.ChangeAt Go.RowKit
theorem named3 : Tryz.prog.funcNamed "hallmark/hallmarklaw22.TurnsMany" = some 3 := by kernel_rfl
theorem said : Rows.TurnsManySaid :=
  OpenClaim.holds_of_cond (p := Tryz.pinned) 3 Tryz.f3 rfl rfl rfl rfl rfl rfl rfl ⟨rfl, rfl, rfl, rfl, rfl⟩ rfl rfl rfl rfl rfl named3 Tryz.func3 joined
    (of_decide_eq_true (by kernel_rfl)) (by unfold Func.isWrapper; first | (rw [if_pos (by decide +kernel)]; kernel_rfl) | (rw [if_neg (by decide +kernel)]; exact ⟨rfl, rfl⟩))
    (fun os started H enc _ F => by rw [OpenClaim.pre_eq_preRow]; exact lifted os started H enc F)

theorem plain (f : FuncId) (fn : Func) (hf : Tryz.pinned.checked.prog.funcNamed "hallmark/hallmarklaw22.TurnsMany" = some f) (hfn : Tryz.pinned.checked.prog.funcs[f]? = some fn) :
    true = Tryz.pinned.checked.prog.looks [] ∧ ∀ (j : Nat) t, fn.params[j]? = some t → Tryz.pinned.checked.prog.wantsStandIn t = false := by
  obtain rfl : f = 3 := Option.some.inj (named3.symm.trans hf) |>.symm
  obtain rfl : fn = Tryz.f3 := (Option.some.inj (Tryz.func3.symm.trans hfn)).symm
  refine ⟨fx6.symm, fun j t ht => ?_⟩
  rw [Tryz.params3] at ht
  have hm : t ∈ [5] := by simpa using Array.mem_of_getElem? ht
  have hall : ([5].all fun u => !Tryz.prog.wantsStandIn u) = true := by kernel_rfl
  exact (show Tryz.prog.wantsStandIn t = false by simpa using List.all_eq_true.1 hall t hm)

theorem byText : Rows.turnsManyRow.wfByText (OpenSpec.ofChange Rows.turnsManySpec) = true := by kernel_rfl
/-- ████ THE CARD ████ -/
theorem card : Rows.TurnsManyCardSaid :=
  Claim7.holds_tied_plain_at .later [] _ _ _ _ said (fun _ h => by cases h) byText (fun _ h => by cases h) turnsMany_row_tie rfl ⟨rfl, rfl⟩ (by kernel_rfl) rfl plain fx5
#print axioms card
end Go.Proofs.YtndjpgelhpfgoaaGreatDoor.turnsMany

