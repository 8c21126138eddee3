/-
  Part of the proof by an abstract machine (LC1): what each theorem says stands at it; it asks what its own hypotheses say.
-/
import Derived.Test.YtndjpgelhpfgoaaGreatDoorLb
namespace Go.VM
open Go
set_option maxRecDepth 100000
def m40 : Int := .ofNat 1099511627776
def m41 : Int := .ofNat 1099511627777
theorem kC1 : outV 0 ((vm EC2 100000).call 5 [rg lo64 (.negSucc 0), rg lo64 (.ofNat 0)] s0) = some (.bool true, true) := by kernel_rfl
theorem kC2 : outV 0 ((vm EC2 100000).call 5 [rg lo64 (.negSucc 0), rg (.ofNat 1) hi64] s0) = some (.bool true, true) := by kernel_rfl
theorem kC3 : outV 0 ((vm EC2 100000).call 5 [rg (.ofNat 0) m40, rg lo64 (.ofNat 0)] s0) = some (.bool true, true) := by kernel_rfl
theorem kC4 : outV 0 ((vm EC2 100000).call 5 [rg (.ofNat 0) m40, rg (.ofNat 1) hi64] s0) = some (.bool true, true) := by kernel_rfl
theorem kC5 : outV 0 ((vm EC2 100000).call 5 [rg m41 hi64, rg lo64 (.ofNat 0)] s0) = some (.bool true, true) := by kernel_rfl
theorem kC6 : outV 0 ((vm EC2 100000).call 5 [rg m41 hi64, rg (.ofNat 1) hi64] s0) = some (.bool true, true) := by kernel_rfl
end Go.VM

