/- The law's abstract run, by the classes of its numbers. No condition. -/
import Derived.Test.YtijkdfalbpmjbaaDoorTab
namespace Go.Proofs.YtijkdfalbpmjbaaDoor.showChains
open Go Go.Vai
noncomputable def run (args : List AV) : Bool := isY (lawK tbl 100000 (toPa 5) c4 args H0)
noncomputable def G00 (r0 : Nat) : Bool := allN (fun r1 => and2 (run [.mp 4 r0 0, .mp 4 r1 0, .b true]) (run [.mp 4 r0 0, .mp 4 r1 0, .b false])) 4
noncomputable def G01 (r0 : Nat) : Bool := allN (fun r1 => and2 (run [.mp 4 r0 0, .mp 4 r1 1, .b true]) (run [.mp 4 r0 0, .mp 4 r1 1, .b false])) 4
noncomputable def G10 (r0 : Nat) : Bool := allN (fun r1 => and2 (run [.mp 4 r0 1, .mp 4 r1 0, .b true]) (run [.mp 4 r0 1, .mp 4 r1 0, .b false])) 4
noncomputable def G11 (r0 : Nat) : Bool := allN (fun r1 => and2 (run [.mp 4 r0 1, .mp 4 r1 1, .b true]) (run [.mp 4 r0 1, .mp 4 r1 1, .b false])) 4
end Go.Proofs.YtijkdfalbpmjbaaDoor.showChains
