/- The law's abstract run says yes: these cases, by the kernel's reckoning. No condition. -/
import Derived.Test.YtijkdfalbpmjbaaDoorShowChainsRun
namespace Go.Proofs.YtijkdfalbpmjbaaDoor.showChains
open Go Go.Vai
set_option maxRecDepth 1000000
theorem e00_2 : allN (fun i => G00 (i + 2)) 2 = true := by kernel_rfl
theorem e10_0 : allN (fun i => G10 (i + 0)) 4 = true := by kernel_rfl
end Go.Proofs.YtijkdfalbpmjbaaDoor.showChains
