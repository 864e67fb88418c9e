/- The law's abstract run says yes: these cases, by the kernel's reckoning. No condition. -/
import Derived.Test.YtpoojngeloajhaaGreatDoorParseComparesRun
namespace Go.Proofs.YtpoojngeloajhaaGreatDoor.parseCompares
open Go Go.Vai
set_option maxRecDepth 1000000
theorem eee_1_2 : allN (fun j => Lee 1 (j + 2)) 2 = true := by kernel_rfl
theorem eee_3_0 : allN (fun j => Lee 3 (j + 0)) 2 = true := by kernel_rfl
theorem eee_4_6 : allN (fun j => Lee 4 (j + 6)) 1 = true := by kernel_rfl
theorem eee_6_4 : allN (fun j => Lee 6 (j + 4)) 2 = true := by kernel_rfl
end Go.Proofs.YtpoojngeloajhaaGreatDoor.parseCompares
