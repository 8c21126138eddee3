/-
  Part of the proof by an abstract machine (MX1 MX2 MX3): what each theorem says stands at it; it asks what its own hypotheses say.
-/
import Derived.Test.YtndjpgelhpfgoaaGreatDoorCards
import Derived.JoinedCond
namespace Go.Proofs.YtndjpgelhpfgoaaGreatDoor.turnsMany
open Go
set_option maxRecDepth 100000

theorem fx1 : (Rows.turnsManyRow.inPlace == Tryz.prog.inPlace 3) = true := by kernel_rfl
end Go.Proofs.YtndjpgelhpfgoaaGreatDoor.turnsMany

namespace Go.Proofs.YtndjpgelhpfgoaaGreatDoor.turnsMany
open Go
set_option maxRecDepth 100000

theorem fx2 : (Rows.turnsManyRow.unfollowed == Tryz.prog.unfollowed 3) = true := by kernel_rfl
end Go.Proofs.YtndjpgelhpfgoaaGreatDoor.turnsMany

namespace Go.Proofs.YtndjpgelhpfgoaaGreatDoor.turnsMany
open Go
set_option maxRecDepth 100000

theorem fx3 : (Rows.turnsManyRow.recurses == Tryz.prog.recurses 3) = true := by kernel_rfl
end Go.Proofs.YtndjpgelhpfgoaaGreatDoor.turnsMany

