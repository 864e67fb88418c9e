/- The law's abstract run, by the classes of its numbers. No condition. -/
import Derived.Test.YtpoojngeloajhaaGreatDoorTab
namespace Go.Proofs.YtpoojngeloajhaaGreatDoor.parseWords
open Go Go.Vai
noncomputable def run (args : List AV) : Bool := isY (lawK tbl 100000 (toPa 7) c6 args H0)
noncomputable def G0 (r0 : Nat) : Bool := run [.mp 18 r0 0]
noncomputable def G1 (r0 : Nat) : Bool := run [.mp 18 r0 1]
end Go.Proofs.YtpoojngeloajhaaGreatDoor.parseWords
