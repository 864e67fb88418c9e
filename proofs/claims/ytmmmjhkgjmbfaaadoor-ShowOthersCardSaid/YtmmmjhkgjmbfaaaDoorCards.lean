/-
  DERIVED. GIVEN WITH THE SEED: THE CARDS: each row of YtmmmjhkgjmbfaaaDoorRows.lean that lists a variable, with what it lists TIED to the program's text (the seventh form; the later family's looks); each row that meets fmt, with fmt's text TOLD by the authors' own Lean function (tested against real Go, not proved from fmt's source: count such statements apart). THE CARD IS WHAT COUNTS. Prove the row's statement (the work); the ties are given (YtmmmjhkgjmbfaaaDoorTie.lean); close each card by the builder's one call (the guide's Derived/Test/ToyasCard.lean, 'card_holds'). Laid BY PROGRAM, IN A SANDBOX (cutbox-door.mjs). By AI agents, Wed Nov 11 2026. No macro, syntax, notation, axiom, sorry.
-/
import Derived.Test.YtmmmjhkgjmbfaaaDoorRows
import GoSem.ClaimSeven
namespace Go.Proofs.YtmmmjhkgjmbfaaaDoor
namespace Rows

/-- THE TIED CARD OF 'chancellaw6.ShowExprs'. -/
def showExprsCard : Claim7 := { stood := { row := showExprsRow, standIns := [], harness := (true, "a7478685225d79ba992fde9128abfaa0a7f8bc099c83e2e59a2e7403b9380cad"), looks := false }, kinds := [], alts := [], laidByText := true, laidKinds := [.data, .data, .data], laidTests := true, laidLooks := .later }
def ShowExprsCardSaid : Prop := Claim7.holds Tryd.pinned (.plain (OpenSpec.ofChange showExprsSpec)) showExprsCard

/-- THE TIED CARD OF 'chancellaw6.ShowParts'. -/
def showPartsCard : Claim7 := { stood := { row := showPartsRow, standIns := [], harness := (true, "a7478685225d79ba992fde9128abfaa0a7f8bc099c83e2e59a2e7403b9380cad"), looks := false }, kinds := [], alts := [], laidByText := true, laidKinds := [.data, .data, .data], laidTests := true, laidLooks := .later }
def ShowPartsCardSaid : Prop := Claim7.holds Tryd.pinned (.plain (OpenSpec.ofChange showPartsSpec)) showPartsCard

/-- THE TIED CARD OF 'chancellaw6.ShowOthers'. -/
def showOthersCard : Claim7 := { stood := { row := showOthersRow, standIns := [], harness := (true, "a7478685225d79ba992fde9128abfaa0a7f8bc099c83e2e59a2e7403b9380cad"), looks := false }, kinds := [], alts := [], laidByText := true, laidKinds := [.data, .data, .data], laidTests := true, laidLooks := .later }
def ShowOthersCardSaid : Prop := Claim7.holds Tryd.pinned (.plain (OpenSpec.ofChange showOthersSpec)) showOthersCard

/-- THE SECOND FORM's CARD OF 'chancellaw6.ShowExprs'. -/
def showExprsUptoCard : Claim7 := { stood := { row := showExprsUptoRow, standIns := [], harness := (true, "a7478685225d79ba992fde9128abfaa0a7f8bc099c83e2e59a2e7403b9380cad"), looks := false }, kinds := [], alts := [], laidByText := true, laidKinds := [.data, .data, .data], laidTests := true, laidLooks := .later }
def ShowExprsUptoCardSaid : Prop := Claim7.holds Tryd.pinned (.plain (OpenSpec.upto showExprsSpec)) showExprsUptoCard

/-- THE SECOND FORM's CARD OF 'chancellaw6.ShowParts'. -/
def showPartsUptoCard : Claim7 := { stood := { row := showPartsUptoRow, standIns := [], harness := (true, "a7478685225d79ba992fde9128abfaa0a7f8bc099c83e2e59a2e7403b9380cad"), looks := false }, kinds := [], alts := [], laidByText := true, laidKinds := [.data, .data, .data], laidTests := true, laidLooks := .later }
def ShowPartsUptoCardSaid : Prop := Claim7.holds Tryd.pinned (.plain (OpenSpec.upto showPartsSpec)) showPartsUptoCard

/-- THE SECOND FORM's CARD OF 'chancellaw6.ShowOthers'. -/
def showOthersUptoCard : Claim7 := { stood := { row := showOthersUptoRow, standIns := [], harness := (true, "a7478685225d79ba992fde9128abfaa0a7f8bc099c83e2e59a2e7403b9380cad"), looks := false }, kinds := [], alts := [], laidByText := true, laidKinds := [.data, .data, .data], laidTests := true, laidLooks := .later }
def ShowOthersUptoCardSaid : Prop := Claim7.holds Tryd.pinned (.plain (OpenSpec.upto showOthersSpec)) showOthersUptoCard
end Rows
end Go.Proofs.YtmmmjhkgjmbfaaaDoor
