/-
  Part of the proof by an abstract machine (HX4 HX5 HX6): what each theorem says stands at it; it asks what its own hypotheses say.
-/
import Derived.Test.YtndjpgelhpfgoaaGreatDoorCards
import Derived.JoinedCond
namespace Go.Proofs.YtndjpgelhpfgoaaGreatDoor.hallNil
open Go
set_option maxRecDepth 100000

theorem fx4 : (Rows.hallNilRow.named == Tryz.prog.varsNamed 4) = true := by kernel_rfl
end Go.Proofs.YtndjpgelhpfgoaaGreatDoor.hallNil

namespace Go.Proofs.YtndjpgelhpfgoaaGreatDoor.hallNil
open Go
set_option maxRecDepth 100000

theorem fx5 : false = Rows.hallNilRow.goesBy Tryz.prog := by kernel_rfl
end Go.Proofs.YtndjpgelhpfgoaaGreatDoor.hallNil

namespace Go.Proofs.YtndjpgelhpfgoaaGreatDoor.hallNil
open Go
set_option maxRecDepth 100000

theorem fx6 : Tryz.prog.looks [] = true := by kernel_rfl
end Go.Proofs.YtndjpgelhpfgoaaGreatDoor.hallNil

