/-
  Part of the proof by an abstract machine (LAw KC17 KC40 KC75 KC147): what each theorem says stands at it; it asks what its own hypotheses say.
-/
import Derived.Test.YtndjpgelhpfgoaaGreatDoorEnvL
namespace Go.VM
open Go
set_option maxRecDepth 100000
theorem kAwake : outV 0 ((vm EL 100000).call 18 [] s0) = some (.bool true, true) := by kernel_rfl
end Go.VM

namespace Go.VM
open Go
set_option maxRecDepth 100000
theorem kc17 : outV 1 ((vm ⟨fnsL, noPrims⟩ 100000).call 265 [.slo 0 0 17 1] (sV [uB 17])) = some (full .u32, true) := by kernel_rfl
end Go.VM

namespace Go.VM
open Go
set_option maxRecDepth 100000
theorem kc40 : outV 1 ((vm ⟨fnsL, noPrims⟩ 100000).call 265 [.slo 0 0 40 1] (sV [uB 40])) = some (full .u32, true) := by kernel_rfl
end Go.VM

namespace Go.VM
open Go
set_option maxRecDepth 100000
theorem kc75 : outV 1 ((vm ⟨fnsL, noPrims⟩ 100000).call 265 [.slo 0 0 75 1] (sV [uB 75])) = some (full .u32, true) := by kernel_rfl
end Go.VM

namespace Go.VM
open Go
set_option maxRecDepth 100000
theorem kc147 : outV 1 ((vm ⟨fnsL, noPrims⟩ 100000).call 265 [.slo 0 0 147 1] (sV [uB 147])) = some (full .u32, true) := by kernel_rfl
end Go.VM

