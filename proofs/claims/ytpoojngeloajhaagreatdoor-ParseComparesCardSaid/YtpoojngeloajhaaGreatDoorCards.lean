/-
  DERIVED. GIVEN WITH THE SEED: THE CARDS: each row of YtpoojngeloajhaaGreatDoorRows.lean that lists a variable, with what it lists TIED to the program's text (the seventh form; the later family's looks); each row that meets fmt, with fmt's text TOLD by the authors' own Lean function (tested against real Go, not proved from fmt's source: count such statements apart). THE CARD IS WHAT COUNTS. Prove the row's statement (the work); the ties are given (YtpoojngeloajhaaGreatDoorTie.lean); close each card by the builder's one call (the guide's Derived/Test/ToyasCard.lean, 'card_holds'). Laid BY PROGRAM, IN A SANDBOX (cutbox-door.mjs). By AI agents, Wed Nov 11 2026. No macro, syntax, notation, axiom, sorry.
-/
import Derived.Test.YtpoojngeloajhaaGreatDoorRows
import GoSem.ClaimSeven
namespace Go.Proofs.YtpoojngeloajhaaGreatDoor
namespace Rows

/-- THE TIED CARD OF 'chancellaw5.ParseDeep'. -/
def parseDeepCard : Claim7 := { stood := { row := parseDeepRow, standIns := [], harness := (true, "67e45df7b7dacec5a940d1f01ddbf9930b337af84eb3e2f802a8fc47e3a53d7c"), looks := true }, kinds := [], alts := [], laidByText := true, laidKinds := [.data, .listed, .data, .pinned], laidTests := true, laidLooks := .later }
def ParseDeepCardSaid : Prop := Claim7.holds Tryz.pinned (.plain (OpenSpec.ofChange parseDeepSpec)) parseDeepCard

/-- THE TIED CARD OF 'chancellaw5.ParseBinds'. -/
def parseBindsCard : Claim7 := { stood := { row := parseBindsRow, standIns := [], harness := (true, "67e45df7b7dacec5a940d1f01ddbf9930b337af84eb3e2f802a8fc47e3a53d7c"), looks := true }, kinds := [], alts := [], laidByText := true, laidKinds := [.data, .listed, .data, .pinned], laidTests := true, laidLooks := .later }
def ParseBindsCardSaid : Prop := Claim7.holds Tryz.pinned (.plain (OpenSpec.ofChange parseBindsSpec)) parseBindsCard

/-- THE TIED CARD OF 'chancellaw5.ParseCompares'. -/
def parseComparesCard : Claim7 := { stood := { row := parseComparesRow, standIns := [], harness := (true, "67e45df7b7dacec5a940d1f01ddbf9930b337af84eb3e2f802a8fc47e3a53d7c"), looks := true }, kinds := [], alts := [], laidByText := true, laidKinds := [.data, .listed, .data, .pinned], laidTests := true, laidLooks := .later }
def ParseComparesCardSaid : Prop := Claim7.holds Tryz.pinned (.plain (OpenSpec.ofChange parseComparesSpec)) parseComparesCard

/-- THE TIED CARD OF 'chancellaw5.ParseWords'. -/
def parseWordsCard : Claim7 := { stood := { row := parseWordsRow, standIns := [], harness := (true, "67e45df7b7dacec5a940d1f01ddbf9930b337af84eb3e2f802a8fc47e3a53d7c"), looks := true }, kinds := [], alts := [], laidByText := true, laidKinds := [.data, .listed, .data, .pinned], laidTests := true, laidLooks := .later }
def ParseWordsCardSaid : Prop := Claim7.holds Tryz.pinned (.plain (OpenSpec.ofChange parseWordsSpec)) parseWordsCard

/-- THE SECOND FORM's CARD OF 'chancellaw5.ParseDeep'. -/
def parseDeepUptoCard : Claim7 := { stood := { row := parseDeepUptoRow, standIns := [], harness := (true, "67e45df7b7dacec5a940d1f01ddbf9930b337af84eb3e2f802a8fc47e3a53d7c"), looks := true }, kinds := [], alts := [], laidByText := true, laidKinds := [.data, .listed, .data, .pinned], laidTests := true, laidLooks := .later }
def ParseDeepUptoCardSaid : Prop := Claim7.holds Tryz.pinned (.plain (OpenSpec.upto parseDeepSpec)) parseDeepUptoCard

/-- THE SECOND FORM's CARD OF 'chancellaw5.ParseBinds'. -/
def parseBindsUptoCard : Claim7 := { stood := { row := parseBindsUptoRow, standIns := [], harness := (true, "67e45df7b7dacec5a940d1f01ddbf9930b337af84eb3e2f802a8fc47e3a53d7c"), looks := true }, kinds := [], alts := [], laidByText := true, laidKinds := [.data, .listed, .data, .pinned], laidTests := true, laidLooks := .later }
def ParseBindsUptoCardSaid : Prop := Claim7.holds Tryz.pinned (.plain (OpenSpec.upto parseBindsSpec)) parseBindsUptoCard

/-- THE SECOND FORM's CARD OF 'chancellaw5.ParseCompares'. -/
def parseComparesUptoCard : Claim7 := { stood := { row := parseComparesUptoRow, standIns := [], harness := (true, "67e45df7b7dacec5a940d1f01ddbf9930b337af84eb3e2f802a8fc47e3a53d7c"), looks := true }, kinds := [], alts := [], laidByText := true, laidKinds := [.data, .listed, .data, .pinned], laidTests := true, laidLooks := .later }
def ParseComparesUptoCardSaid : Prop := Claim7.holds Tryz.pinned (.plain (OpenSpec.upto parseComparesSpec)) parseComparesUptoCard

/-- THE SECOND FORM's CARD OF 'chancellaw5.ParseWords'. -/
def parseWordsUptoCard : Claim7 := { stood := { row := parseWordsUptoRow, standIns := [], harness := (true, "67e45df7b7dacec5a940d1f01ddbf9930b337af84eb3e2f802a8fc47e3a53d7c"), looks := true }, kinds := [], alts := [], laidByText := true, laidKinds := [.data, .listed, .data, .pinned], laidTests := true, laidLooks := .later }
def ParseWordsUptoCardSaid : Prop := Claim7.holds Tryz.pinned (.plain (OpenSpec.upto parseWordsSpec)) parseWordsUptoCard
end Rows
end Go.Proofs.YtpoojngeloajhaaGreatDoor
