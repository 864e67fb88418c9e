/- The law's abstract run says yes: these cases, by the kernel's reckoning. No condition. -/
import Derived.Test.YtpoojngeloajhaaGreatDoorParseWordsRun
namespace Go.Proofs.YtpoojngeloajhaaGreatDoor.parseWords
open Go Go.Vai
set_option maxRecDepth 1000000
theorem e0_0 : allN (fun i => G0 (i + 0)) 3 = true := by kernel_rfl
theorem e0_12 : allN (fun i => G0 (i + 12)) 3 = true := by kernel_rfl
theorem e1_6 : allN (fun i => G1 (i + 6)) 3 = true := by kernel_rfl
end Go.Proofs.YtpoojngeloajhaaGreatDoor.parseWords
