/-
  Part of the proof by an abstract machine (LM17): what each theorem says stands at it; it asks what its own hypotheses say.
-/
import Derived.Test.YtndjpgelhpfgoaaGreatDoorMa
namespace Go.VM
open Go
set_option maxRecDepth 100000
theorem kM17 : chkM 17 16 (segs (vm EM 100000) 7 a3.body (setN [full .u8] 0 .e) s0) = true := by kernel_rfl
end Go.VM

