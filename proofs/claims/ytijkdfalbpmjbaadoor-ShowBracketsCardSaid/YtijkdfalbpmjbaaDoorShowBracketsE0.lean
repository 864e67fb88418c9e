/- The law's abstract run says yes: these cases, by the kernel's reckoning. No condition. -/
import Derived.Test.YtijkdfalbpmjbaaDoorShowBracketsRun
namespace Go.Proofs.YtijkdfalbpmjbaaDoor.showBrackets
open Go Go.Vai
set_option maxRecDepth 1000000
theorem e00_0 : allN (fun i => G00 (i + 0)) 2 = true := by kernel_rfl
theorem e00_8 : allN (fun i => G00 (i + 8)) 2 = true := by kernel_rfl
theorem e10_0 : allN (fun i => G10 (i + 0)) 12 = true := by kernel_rfl
end Go.Proofs.YtijkdfalbpmjbaaDoor.showBrackets
