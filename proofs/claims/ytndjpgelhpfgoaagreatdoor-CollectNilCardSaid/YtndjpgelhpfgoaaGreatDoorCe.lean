/-
  Part of the proof by an abstract machine (CNil3): what each theorem says stands at it; it asks what its own hypotheses say.
-/
import Derived.Test.YtndjpgelhpfgoaaGreatDoorCb
import Derived.Test.YtndjpgelhpfgoaaGreatDoorCc
import Derived.Test.YtndjpgelhpfgoaaGreatDoorCd
import Derived.JoinedCond
namespace Go.Proofs.YtndjpgelhpfgoaaGreatDoor.collectNil
open Go.ChangeShapes Go.WideShapes Go.ChangeAt Go.RowKit
set_option maxRecDepth 100000
theorem joined : joinedFacts Tryz.prog 5 Tryz.f5 (OpenSpec.ofChange Rows.collectNilSpec).bare Rows.collectNilRow = true := by
  unfold joinedFacts
  rw [fx1, fx2, fx3, fx4]
  kernel_rfl
end Go.Proofs.YtndjpgelhpfgoaaGreatDoor.collectNil

