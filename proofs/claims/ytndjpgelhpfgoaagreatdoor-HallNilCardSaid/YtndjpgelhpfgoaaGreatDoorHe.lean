/-
  Part of the proof by an abstract machine (HN3): what each theorem says stands at it; it asks what its own hypotheses say.
-/
import Derived.Test.YtndjpgelhpfgoaaGreatDoorHb
import Derived.Test.YtndjpgelhpfgoaaGreatDoorHc
import Derived.Test.YtndjpgelhpfgoaaGreatDoorHd
import Derived.JoinedCond
namespace Go.Proofs.YtndjpgelhpfgoaaGreatDoor.hallNil
open Go.ChangeShapes Go.WideShapes Go.ChangeAt Go.RowKit
set_option maxRecDepth 100000
theorem joined : joinedFacts Tryz.prog 4 Tryz.f4 (OpenSpec.ofChange Rows.hallNilSpec).bare Rows.hallNilRow = true := by
  unfold joinedFacts
  rw [fx1, fx2, fx3, fx4]
  kernel_rfl
end Go.Proofs.YtndjpgelhpfgoaaGreatDoor.hallNil

