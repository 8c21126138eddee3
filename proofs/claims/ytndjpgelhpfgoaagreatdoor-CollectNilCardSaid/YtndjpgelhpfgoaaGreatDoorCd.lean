/-
  Part of the proof by an abstract machine (FX4 FX5 FX6): what each theorem says stands at it; it asks what its own hypotheses say.
-/
import Derived.Test.YtndjpgelhpfgoaaGreatDoorCards
import Derived.JoinedCond
namespace Go.Proofs.YtndjpgelhpfgoaaGreatDoor.collectNil
open Go
set_option maxRecDepth 100000

theorem fx4 : (Rows.collectNilRow.named == Tryz.prog.varsNamed 5) = true := by kernel_rfl
end Go.Proofs.YtndjpgelhpfgoaaGreatDoor.collectNil

namespace Go.Proofs.YtndjpgelhpfgoaaGreatDoor.collectNil
open Go
set_option maxRecDepth 100000

theorem fx5 : false = Rows.collectNilRow.goesBy Tryz.prog := by kernel_rfl
end Go.Proofs.YtndjpgelhpfgoaaGreatDoor.collectNil

namespace Go.Proofs.YtndjpgelhpfgoaaGreatDoor.collectNil
open Go
set_option maxRecDepth 100000

theorem fx6 : Tryz.prog.looks [] = true := by kernel_rfl
end Go.Proofs.YtndjpgelhpfgoaaGreatDoor.collectNil

