/- The law's abstract run says yes: these cases, by the kernel's reckoning. No condition. -/
import Derived.Test.YtpoojngeloajhaaGreatDoorParseWordsRun
namespace Go.Proofs.YtpoojngeloajhaaGreatDoor.parseWords
open Go Go.Vai
set_option maxRecDepth 1000000
theorem e0_9 : allN (fun i => G0 (i + 9)) 3 = true := by kernel_rfl
theorem e1_3 : allN (fun i => G1 (i + 3)) 3 = true := by kernel_rfl
theorem e1_15 : allN (fun i => G1 (i + 15)) 3 = true := by kernel_rfl
end Go.Proofs.YtpoojngeloajhaaGreatDoor.parseWords
