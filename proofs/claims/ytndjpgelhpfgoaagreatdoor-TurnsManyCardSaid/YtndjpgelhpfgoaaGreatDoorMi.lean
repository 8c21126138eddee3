/-
  Part of the proof by an abstract machine (TM3): what each theorem says stands at it; it asks what its own hypotheses say.
-/
import Derived.Test.YtndjpgelhpfgoaaGreatDoorMf
import Derived.Test.YtndjpgelhpfgoaaGreatDoorMg
import Derived.Test.YtndjpgelhpfgoaaGreatDoorMh
import Derived.JoinedCond
namespace Go.Proofs.YtndjpgelhpfgoaaGreatDoor.turnsMany
open Go.ChangeShapes Go.WideShapes Go.ChangeAt Go.RowKit
set_option maxRecDepth 100000
theorem joined : joinedFacts Tryz.prog 3 Tryz.f3 (OpenSpec.ofChange Rows.turnsManySpec).bare Rows.turnsManyRow = true := by
  unfold joinedFacts
  rw [fx1, fx2, fx3, fx4]
  kernel_rfl
end Go.Proofs.YtndjpgelhpfgoaaGreatDoor.turnsMany

