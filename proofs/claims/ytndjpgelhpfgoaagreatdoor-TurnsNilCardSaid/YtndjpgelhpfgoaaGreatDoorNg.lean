/-
  Part of the proof by an abstract machine (NX4 NX5 NX6): what each theorem says stands at it; it asks what its own hypotheses say.
-/
import Derived.Test.YtndjpgelhpfgoaaGreatDoorCards
import Derived.JoinedCond
namespace Go.Proofs.YtndjpgelhpfgoaaGreatDoor.turnsNil
open Go
set_option maxRecDepth 100000

theorem fx4 : (Rows.turnsNilRow.named == Tryz.prog.varsNamed 6) = true := by kernel_rfl
end Go.Proofs.YtndjpgelhpfgoaaGreatDoor.turnsNil

namespace Go.Proofs.YtndjpgelhpfgoaaGreatDoor.turnsNil
open Go
set_option maxRecDepth 100000

theorem fx5 : false = Rows.turnsNilRow.goesBy Tryz.prog := by kernel_rfl
end Go.Proofs.YtndjpgelhpfgoaaGreatDoor.turnsNil

namespace Go.Proofs.YtndjpgelhpfgoaaGreatDoor.turnsNil
open Go
set_option maxRecDepth 100000

theorem fx6 : Tryz.prog.looks [] = true := by kernel_rfl
end Go.Proofs.YtndjpgelhpfgoaaGreatDoor.turnsNil

