/-
  Part of the proof by an abstract machine (TN0 HN00 HN01 HN02 HN10 HN11 HN12 HN20 HN21 HN22): what each theorem says stands at it; it asks what its own hypotheses say.
-/
import Derived.Test.YtndjpgelhpfgoaaGreatDoorNb
namespace Go.VM
open Go
def nm1 : Int := .negSucc 0
def n0 : Int := .ofNat 0
def n1 : Int := .ofNat 1
def n6 : Int := .ofNat 6
def n7 : Int := .ofNat 7
def n20 : Int := .ofNat 1048576
def n21 : Int := .ofNat 1048577
def n40 : Int := .ofNat 1099511627776
def n41 : Int := .ofNat 1099511627777
/-- a request of which nothing is known, but where its body lies -/
noncomputable def reqA (b : AV) : AV := .agg (.top :: .top :: .top :: (rz 32 .top ++ [.top, .top, .top, b]))
end Go.VM

namespace Go.VM
open Go
set_option maxRecDepth 100000
theorem kH00a (n : Nat) : outV 1 ((vm EN 100000).call 4 [rg lo64 nm1, rg lo64 n0, reqA (.slo 0 0 n 1)] sR) = some (.bool true, true) := by kernel_rfl
theorem kH00b : outV 0 ((vm EN 100000).call 4 [rg lo64 nm1, rg lo64 n0, reqA .sle] s0) = some (.bool true, true) := by kernel_rfl
end Go.VM

namespace Go.VM
open Go
set_option maxRecDepth 100000
theorem kH01a (n : Nat) : outV 1 ((vm EN 100000).call 4 [rg lo64 nm1, rg n1 n20, reqA (.slo 0 0 n 1)] sR) = some (.bool true, true) := by kernel_rfl
theorem kH01b : outV 0 ((vm EN 100000).call 4 [rg lo64 nm1, rg n1 n20, reqA .sle] s0) = some (.bool true, true) := by kernel_rfl
end Go.VM

namespace Go.VM
open Go
set_option maxRecDepth 100000
theorem kH02a (n : Nat) : outV 1 ((vm EN 100000).call 4 [rg lo64 nm1, rg n21 hi64, reqA (.slo 0 0 n 1)] sR) = some (.bool true, true) := by kernel_rfl
theorem kH02b : outV 0 ((vm EN 100000).call 4 [rg lo64 nm1, rg n21 hi64, reqA .sle] s0) = some (.bool true, true) := by kernel_rfl
end Go.VM

namespace Go.VM
open Go
set_option maxRecDepth 100000
theorem kH10a (n : Nat) : outV 1 ((vm EN 100000).call 4 [rg n0 n6, rg lo64 n0, reqA (.slo 0 0 n 1)] sR) = some (.bool true, true) := by kernel_rfl
theorem kH10b : outV 0 ((vm EN 100000).call 4 [rg n0 n6, rg lo64 n0, reqA .sle] s0) = some (.bool true, true) := by kernel_rfl
end Go.VM

namespace Go.VM
open Go
set_option maxRecDepth 100000
theorem kH11a (n : Nat) : outV 1 ((vm EN 100000).call 4 [rg n0 n6, rg n1 n20, reqA (.slo 0 0 n 1)] sR) = some (.bool true, true) := by kernel_rfl
theorem kH11b : outV 0 ((vm EN 100000).call 4 [rg n0 n6, rg n1 n20, reqA .sle] s0) = some (.bool true, true) := by kernel_rfl
end Go.VM

namespace Go.VM
open Go
set_option maxRecDepth 100000
theorem kH12a (n : Nat) : outV 1 ((vm EN 100000).call 4 [rg n0 n6, rg n21 hi64, reqA (.slo 0 0 n 1)] sR) = some (.bool true, true) := by kernel_rfl
theorem kH12b : outV 0 ((vm EN 100000).call 4 [rg n0 n6, rg n21 hi64, reqA .sle] s0) = some (.bool true, true) := by kernel_rfl
end Go.VM

namespace Go.VM
open Go
set_option maxRecDepth 100000
theorem kH20a (n : Nat) : outV 1 ((vm EN 100000).call 4 [rg n7 hi64, rg lo64 n0, reqA (.slo 0 0 n 1)] sR) = some (.bool true, true) := by kernel_rfl
theorem kH20b : outV 0 ((vm EN 100000).call 4 [rg n7 hi64, rg lo64 n0, reqA .sle] s0) = some (.bool true, true) := by kernel_rfl
end Go.VM

namespace Go.VM
open Go
set_option maxRecDepth 100000
theorem kH21a (n : Nat) : outV 1 ((vm EN 100000).call 4 [rg n7 hi64, rg n1 n20, reqA (.slo 0 0 n 1)] sR) = some (.bool true, true) := by kernel_rfl
theorem kH21b : outV 0 ((vm EN 100000).call 4 [rg n7 hi64, rg n1 n20, reqA .sle] s0) = some (.bool true, true) := by kernel_rfl
end Go.VM

namespace Go.VM
open Go
set_option maxRecDepth 100000
theorem kH22a (n : Nat) : outV 1 ((vm EN 100000).call 4 [rg n7 hi64, rg n21 hi64, reqA (.slo 0 0 n 1)] sR) = some (.bool true, true) := by kernel_rfl
theorem kH22b : outV 0 ((vm EN 100000).call 4 [rg n7 hi64, rg n21 hi64, reqA .sle] s0) = some (.bool true, true) := by kernel_rfl
end Go.VM

