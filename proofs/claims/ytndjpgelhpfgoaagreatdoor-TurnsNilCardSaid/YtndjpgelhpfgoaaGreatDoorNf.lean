/-
  Part of the proof by an abstract machine (NX1 NX2 NX3): what each theorem says stands at it; it asks what its own hypotheses say.
-/
import Derived.Test.YtndjpgelhpfgoaaGreatDoorCards
import Derived.JoinedCond
namespace Go.Proofs.YtndjpgelhpfgoaaGreatDoor.turnsNil
open Go
set_option maxRecDepth 100000

theorem fx1 : (Rows.turnsNilRow.inPlace == Tryz.prog.inPlace 6) = true := by kernel_rfl
end Go.Proofs.YtndjpgelhpfgoaaGreatDoor.turnsNil

namespace Go.Proofs.YtndjpgelhpfgoaaGreatDoor.turnsNil
open Go
set_option maxRecDepth 100000

theorem fx2 : (Rows.turnsNilRow.unfollowed == Tryz.prog.unfollowed 6) = true := by kernel_rfl
end Go.Proofs.YtndjpgelhpfgoaaGreatDoor.turnsNil

namespace Go.Proofs.YtndjpgelhpfgoaaGreatDoor.turnsNil
open Go
set_option maxRecDepth 100000

theorem fx3 : (Rows.turnsNilRow.recurses == Tryz.prog.recurses 6) = true := by kernel_rfl
end Go.Proofs.YtndjpgelhpfgoaaGreatDoor.turnsNil

