/- The law's abstract run says yes: these cases, by the kernel's reckoning. No condition. -/
import Derived.Test.YtijkdfalbpmjbaaDoorShowChainsRun
namespace Go.Proofs.YtijkdfalbpmjbaaDoor.showChains
open Go Go.Vai
set_option maxRecDepth 1000000
theorem e00_0 : allN (fun i => G00 (i + 0)) 2 = true := by kernel_rfl
theorem e01_0 : allN (fun i => G01 (i + 0)) 4 = true := by kernel_rfl
theorem e11_0 : allN (fun i => G11 (i + 0)) 4 = true := by kernel_rfl
end Go.Proofs.YtijkdfalbpmjbaaDoor.showChains
