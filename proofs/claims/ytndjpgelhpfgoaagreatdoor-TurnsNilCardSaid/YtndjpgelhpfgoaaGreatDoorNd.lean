/-
  Part of the proof by an abstract machine (TN0 TN1 TN2 TN3 TN4 TN5 TN6): what each theorem says stands at it; it asks what its own hypotheses say.
-/
import Derived.Test.YtndjpgelhpfgoaaGreatDoorNb
namespace Go.VM
open Go
def nm1 : Int := .negSucc 0
def n0 : Int := .ofNat 0
def n1 : Int := .ofNat 1
def n6 : Int := .ofNat 6
def n7 : Int := .ofNat 7
def n20 : Int := .ofNat 1048576
def n21 : Int := .ofNat 1048577
def n40 : Int := .ofNat 1099511627776
def n41 : Int := .ofNat 1099511627777
/-- a request of which nothing is known, but where its body lies -/
noncomputable def reqA (b : AV) : AV := .agg (.top :: .top :: .top :: (rz 32 .top ++ [.top, .top, .top, b]))
end Go.VM

namespace Go.VM
open Go
set_option maxRecDepth 100000
theorem kN1 (n : Nat) : outV 1 ((vm EN 100000).call 6 [rg lo64 hi64, rg lo64 nm1, (.slo 0 0 n 1)] sR) = some (.bool true, true) := by kernel_rfl
end Go.VM

namespace Go.VM
open Go
set_option maxRecDepth 100000
theorem kN2  : outV 0 ((vm EN 100000).call 6 [rg lo64 hi64, rg lo64 nm1, .sle] s0) = some (.bool true, true) := by kernel_rfl
end Go.VM

namespace Go.VM
open Go
set_option maxRecDepth 100000
theorem kN3 (n : Nat) : outV 1 ((vm EN 100000).call 6 [rg lo64 hi64, rg n0 n40, (.slo 0 0 n 1)] sR) = some (.bool true, true) := by kernel_rfl
end Go.VM

namespace Go.VM
open Go
set_option maxRecDepth 100000
theorem kN4  : outV 0 ((vm EN 100000).call 6 [rg lo64 hi64, rg n0 n40, .sle] s0) = some (.bool true, true) := by kernel_rfl
end Go.VM

namespace Go.VM
open Go
set_option maxRecDepth 100000
theorem kN5 (n : Nat) : outV 1 ((vm EN 100000).call 6 [rg lo64 hi64, rg n41 hi64, (.slo 0 0 n 1)] sR) = some (.bool true, true) := by kernel_rfl
end Go.VM

namespace Go.VM
open Go
set_option maxRecDepth 100000
theorem kN6  : outV 0 ((vm EN 100000).call 6 [rg lo64 hi64, rg n41 hi64, .sle] s0) = some (.bool true, true) := by kernel_rfl
end Go.VM

