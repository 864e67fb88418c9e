/- The law's abstract run says yes: these cases, by the kernel's reckoning. No condition. -/
import Derived.Test.YtpoojngeloajhaaGreatDoorParseBindsRun
namespace Go.Proofs.YtpoojngeloajhaaGreatDoor.parseBinds
open Go Go.Vai
set_option maxRecDepth 1000000
theorem e00_2 : allN (fun i => G00 (i + 2)) 1 = true := by kernel_rfl
theorem e01_1 : allN (fun i => G01 (i + 1)) 1 = true := by kernel_rfl
theorem e10_0 : allN (fun i => G10 (i + 0)) 1 = true := by kernel_rfl
theorem e10_4 : allN (fun i => G10 (i + 4)) 1 = true := by kernel_rfl
theorem e11_3 : allN (fun i => G11 (i + 3)) 1 = true := by kernel_rfl
end Go.Proofs.YtpoojngeloajhaaGreatDoor.parseBinds
