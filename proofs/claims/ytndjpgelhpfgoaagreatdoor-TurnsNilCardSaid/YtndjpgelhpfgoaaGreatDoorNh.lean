/-
  Part of the proof by an abstract machine (TN03): what each theorem says stands at it; it asks what its own hypotheses say.
-/
import Derived.Test.YtndjpgelhpfgoaaGreatDoorNe
import Derived.Test.YtndjpgelhpfgoaaGreatDoorNf
import Derived.Test.YtndjpgelhpfgoaaGreatDoorNg
import Derived.JoinedCond
namespace Go.Proofs.YtndjpgelhpfgoaaGreatDoor.turnsNil
open Go.ChangeShapes Go.WideShapes Go.ChangeAt Go.RowKit
set_option maxRecDepth 100000
theorem joined : joinedFacts Tryz.prog 6 Tryz.f6 (OpenSpec.ofChange Rows.turnsNilSpec).bare Rows.turnsNilRow = true := by
  unfold joinedFacts
  rw [fx1, fx2, fx3, fx4]
  kernel_rfl
end Go.Proofs.YtndjpgelhpfgoaaGreatDoor.turnsNil

