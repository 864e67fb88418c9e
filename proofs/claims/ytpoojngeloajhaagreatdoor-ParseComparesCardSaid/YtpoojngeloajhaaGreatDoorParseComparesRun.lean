/- The law's abstract run, by the classes of its numbers. No condition. -/
import Derived.Test.YtpoojngeloajhaaGreatDoorTab
namespace Go.Proofs.YtpoojngeloajhaaGreatDoor.parseCompares
open Go Go.Vai
noncomputable def run (args : List AV) : Bool := isY (lawK tbl 100000 (toPa 7) B5 args H0)
noncomputable def Lee (r0 r1 : Nat) : Bool := run [.mp 7 r0 EU, .mp 7 r1 EU]
noncomputable def Gee (r0 : Nat) : Bool := allN (fun r1 => run [.mp 7 r0 EU, .mp 7 r1 EU]) 7
end Go.Proofs.YtpoojngeloajhaaGreatDoor.parseCompares
