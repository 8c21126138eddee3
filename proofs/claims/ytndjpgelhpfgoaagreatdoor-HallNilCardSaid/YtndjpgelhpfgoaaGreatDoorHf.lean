/-
  Part of the proof by an abstract machine (HN4): what each theorem says stands at it; it asks what its own hypotheses say.
-/
import Derived.Test.YtndjpgelhpfgoaaGreatDoorHb
namespace Go.Proofs.YtndjpgelhpfgoaaGreatDoor.hallNil
open Go.ChangeShapes Go.WideShapes Go.ChangeAt Go.RowKit
set_option maxRecDepth 100000
theorem reads (os : Os) {H : Type} (enc : TypeId × Value → H) : ∃ places, DataW.whole enc Tryz.prog ((laidWorld os).forCall (fun _ _ => 0) ⟨#[], #[.int .i64 0, .int .i64 0, wReq], []⟩).memory Tryz.f4.params.toList Rows.hallNilSpec.vars false (#[.int .i64 0, .int .i64 0, wReq] : Array Value).toList 8 = some ([.lit (.int .i64 0), .lit (.int .i64 0), rReq], [], places) :=
  ⟨[], by kernel_rfl⟩
theorem lifted (os : Os) (started : os.Started) (H : Type) (enc : TypeId × Value → H) (F : Stop.Interp) :
    ReturnsInHanded {} Tryz.checked os 4 .any ((OpenSpec.ofChange Rows.hallNilSpec).preRow enc Tryz.prog Tryz.f4 Rows.hallNilRow.domain false Rows.hallNilRow.laid) (((OpenSpec.ofChange Rows.hallNilSpec).at F).post enc Tryz.prog Tryz.f4 false true false false) := by
  obtain ⟨places, hx⟩ := reads os enc
  refine returnsInHanded_of_row (C := Tryz.checked) (s := OpenSpec.ofChange Rows.hallNilSpec) own started (by kernel_rfl) Tryz.func4
    (witness_row_atRef (enc := enc) (C := Tryz.checked) false (laidWorld os) #[.int .i64 0, .int .i64 0, wReq] rfl (by kernel_rfl) (by kernel_rfl) (by kernel_rfl)
      (OpenSpec.preRow_of_cond 8 hx (by kernel_rfl) (fun k hk => by cases hk) (by kernel_rfl) (laid_met os))) ?_
  intro W base args ds gs before hval hW _ _ hsz _ _ _
  exact contract H enc W base args ds gs before hval hW hsz
end Go.Proofs.YtndjpgelhpfgoaaGreatDoor.hallNil

