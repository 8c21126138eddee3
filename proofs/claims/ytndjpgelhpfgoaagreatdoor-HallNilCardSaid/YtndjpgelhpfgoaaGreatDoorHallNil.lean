/-
  The law hallmarklaw20.HallNil returns true at every input, and leaves its arguments as they were: the tied card. No condition.
-/
import Derived.Test.YtndjpgelhpfgoaaGreatDoorHe
import Derived.Test.YtndjpgelhpfgoaaGreatDoorHf
namespace Go.Proofs.YtndjpgelhpfgoaaGreatDoor.hallNil
open Go.ChangeShapes Go.WideShapes Go.ChangeAt Go.RowKit
theorem named4 : Tryz.prog.funcNamed "hallmark/hallmarklaw20.HallNil" = some 4 := by kernel_rfl
theorem said : Rows.HallNilSaid :=
  OpenClaim.holds_of_cond (p := Tryz.pinned) 4 Tryz.f4 rfl rfl rfl rfl rfl rfl rfl ⟨rfl, rfl, rfl, rfl, rfl⟩ rfl rfl rfl rfl rfl named4 Tryz.func4 joined
    (of_decide_eq_true (by kernel_rfl)) (by unfold Func.isWrapper; first | (rw [if_pos (by decide +kernel)]; kernel_rfl) | (rw [if_neg (by decide +kernel)]; exact ⟨rfl, rfl⟩))
    (fun os started H enc _ F => by rw [OpenClaim.pre_eq_preRow]; exact lifted os started H enc F)

theorem plain (f : FuncId) (fn : Func) (hf : Tryz.pinned.checked.prog.funcNamed "hallmark/hallmarklaw20.HallNil" = some f) (hfn : Tryz.pinned.checked.prog.funcs[f]? = some fn) :
    true = Tryz.pinned.checked.prog.looks [] ∧ ∀ (j : Nat) t, fn.params[j]? = some t → Tryz.pinned.checked.prog.wantsStandIn t = false := by
  obtain rfl : f = 4 := Option.some.inj (named4.symm.trans hf) |>.symm
  obtain rfl : fn = Tryz.f4 := (Option.some.inj (Tryz.func4.symm.trans hfn)).symm
  refine ⟨fx6.symm, fun j t ht => ?_⟩
  rw [Tryz.params4] at ht
  have hm : t ∈ [3, 3, 43] := by simpa using Array.mem_of_getElem? ht
  have hall : ([3, 3, 43].all fun u => !Tryz.prog.wantsStandIn u) = true := by kernel_rfl
  exact (show Tryz.prog.wantsStandIn t = false by simpa using List.all_eq_true.1 hall t hm)

theorem byText : Rows.hallNilRow.wfByText (OpenSpec.ofChange Rows.hallNilSpec) = true := by kernel_rfl
/-- ████ THE CARD ████ -/
theorem card : Rows.HallNilCardSaid :=
  Claim7.holds_tied_plain_at .later [] _ _ _ _ said (fun _ h => by cases h) byText (fun _ h => by cases h) hallNil_row_tie rfl ⟨rfl, rfl⟩ (by kernel_rfl) rfl plain fx5
#print axioms card
end Go.Proofs.YtndjpgelhpfgoaaGreatDoor.hallNil

