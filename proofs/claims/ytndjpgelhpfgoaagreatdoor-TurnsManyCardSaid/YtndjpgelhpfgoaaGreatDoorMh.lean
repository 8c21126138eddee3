/-
  Part of the proof by an abstract machine (MX4 MX5 MX6): what each theorem says stands at it; it asks what its own hypotheses say.
-/
import Derived.Test.YtndjpgelhpfgoaaGreatDoorCards
import Derived.JoinedCond
namespace Go.Proofs.YtndjpgelhpfgoaaGreatDoor.turnsMany
open Go
set_option maxRecDepth 100000

theorem fx4 : (Rows.turnsManyRow.named == Tryz.prog.varsNamed 3) = true := by kernel_rfl
end Go.Proofs.YtndjpgelhpfgoaaGreatDoor.turnsMany

namespace Go.Proofs.YtndjpgelhpfgoaaGreatDoor.turnsMany
open Go
set_option maxRecDepth 100000

theorem fx5 : false = Rows.turnsManyRow.goesBy Tryz.prog := by kernel_rfl
end Go.Proofs.YtndjpgelhpfgoaaGreatDoor.turnsMany

namespace Go.Proofs.YtndjpgelhpfgoaaGreatDoor.turnsMany
open Go
set_option maxRecDepth 100000

theorem fx6 : Tryz.prog.looks [] = true := by kernel_rfl
end Go.Proofs.YtndjpgelhpfgoaaGreatDoor.turnsMany

