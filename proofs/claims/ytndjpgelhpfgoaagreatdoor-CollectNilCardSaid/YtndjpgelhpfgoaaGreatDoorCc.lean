/-
  Part of the proof by an abstract machine (FX1 FX2 FX3): what each theorem says stands at it; it asks what its own hypotheses say.
-/
import Derived.Test.YtndjpgelhpfgoaaGreatDoorCards
import Derived.JoinedCond
namespace Go.Proofs.YtndjpgelhpfgoaaGreatDoor.collectNil
open Go
set_option maxRecDepth 100000

theorem fx1 : (Rows.collectNilRow.inPlace == Tryz.prog.inPlace 5) = true := by kernel_rfl
end Go.Proofs.YtndjpgelhpfgoaaGreatDoor.collectNil

namespace Go.Proofs.YtndjpgelhpfgoaaGreatDoor.collectNil
open Go
set_option maxRecDepth 100000

theorem fx2 : (Rows.collectNilRow.unfollowed == Tryz.prog.unfollowed 5) = true := by kernel_rfl
end Go.Proofs.YtndjpgelhpfgoaaGreatDoor.collectNil

namespace Go.Proofs.YtndjpgelhpfgoaaGreatDoor.collectNil
open Go
set_option maxRecDepth 100000

theorem fx3 : (Rows.collectNilRow.recurses == Tryz.prog.recurses 5) = true := by kernel_rfl
end Go.Proofs.YtndjpgelhpfgoaaGreatDoor.collectNil

