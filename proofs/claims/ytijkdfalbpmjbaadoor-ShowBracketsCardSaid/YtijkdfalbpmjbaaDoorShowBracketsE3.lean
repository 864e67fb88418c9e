/- The law's abstract run says yes: these cases, by the kernel's reckoning. No condition. -/
import Derived.Test.YtijkdfalbpmjbaaDoorShowBracketsRun
namespace Go.Proofs.YtijkdfalbpmjbaaDoor.showBrackets
open Go Go.Vai
set_option maxRecDepth 1000000
theorem e00_6 : allN (fun i => G00 (i + 6)) 2 = true := by kernel_rfl
theorem e01_6 : allN (fun i => G01 (i + 6)) 6 = true := by kernel_rfl
end Go.Proofs.YtijkdfalbpmjbaaDoor.showBrackets
