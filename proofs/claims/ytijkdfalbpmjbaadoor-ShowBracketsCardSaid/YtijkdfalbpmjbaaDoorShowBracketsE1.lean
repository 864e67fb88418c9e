/- The law's abstract run says yes: these cases, by the kernel's reckoning. No condition. -/
import Derived.Test.YtijkdfalbpmjbaaDoorShowBracketsRun
namespace Go.Proofs.YtijkdfalbpmjbaaDoor.showBrackets
open Go Go.Vai
set_option maxRecDepth 1000000
theorem e00_2 : allN (fun i => G00 (i + 2)) 2 = true := by kernel_rfl
theorem e00_10 : allN (fun i => G00 (i + 10)) 2 = true := by kernel_rfl
theorem e11_0 : allN (fun i => G11 (i + 0)) 12 = true := by kernel_rfl
end Go.Proofs.YtijkdfalbpmjbaaDoor.showBrackets
