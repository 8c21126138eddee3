/-
  Part of the proof by an abstract machine (HX1 HX2 HX3): what each theorem says stands at it; it asks what its own hypotheses say.
-/
import Derived.Test.YtndjpgelhpfgoaaGreatDoorCards
import Derived.JoinedCond
namespace Go.Proofs.YtndjpgelhpfgoaaGreatDoor.hallNil
open Go
set_option maxRecDepth 100000

theorem fx1 : (Rows.hallNilRow.inPlace == Tryz.prog.inPlace 4) = true := by kernel_rfl
end Go.Proofs.YtndjpgelhpfgoaaGreatDoor.hallNil

namespace Go.Proofs.YtndjpgelhpfgoaaGreatDoor.hallNil
open Go
set_option maxRecDepth 100000

theorem fx2 : (Rows.hallNilRow.unfollowed == Tryz.prog.unfollowed 4) = true := by kernel_rfl
end Go.Proofs.YtndjpgelhpfgoaaGreatDoor.hallNil

namespace Go.Proofs.YtndjpgelhpfgoaaGreatDoor.hallNil
open Go
set_option maxRecDepth 100000

theorem fx3 : (Rows.hallNilRow.recurses == Tryz.prog.recurses 4) = true := by kernel_rfl
end Go.Proofs.YtndjpgelhpfgoaaGreatDoor.hallNil

