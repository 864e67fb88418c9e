/- The law's abstract run, by the classes of its numbers. No condition. -/
import Derived.Test.YtpoojngeloajhaaGreatDoorTab
namespace Go.Proofs.YtpoojngeloajhaaGreatDoor.parseBinds
open Go Go.Vai
noncomputable def run (args : List AV) : Bool := isY (lawK tbl 100000 (toPa 7) c4 args H0)
noncomputable def G00 (r0 : Nat) : Bool := allN (fun r1 => run [.mp 5 r0 0, .mp 5 r1 0]) 5
noncomputable def G01 (r0 : Nat) : Bool := allN (fun r1 => run [.mp 5 r0 0, .mp 5 r1 1]) 5
noncomputable def G10 (r0 : Nat) : Bool := allN (fun r1 => run [.mp 5 r0 1, .mp 5 r1 0]) 5
noncomputable def G11 (r0 : Nat) : Bool := allN (fun r1 => run [.mp 5 r0 1, .mp 5 r1 1]) 5
end Go.Proofs.YtpoojngeloajhaaGreatDoor.parseBinds
