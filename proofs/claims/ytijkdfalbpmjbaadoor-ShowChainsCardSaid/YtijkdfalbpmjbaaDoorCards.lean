/-
  DERIVED. GIVEN WITH THE SEED: THE CARDS: each row of YtijkdfalbpmjbaaDoorRows.lean that lists a variable, with what it lists TIED to the program's text (the seventh form; the later family's looks); each row that meets fmt, with fmt's text TOLD by the authors' own Lean function (tested against real Go, not proved from fmt's source: count such statements apart). THE CARD IS WHAT COUNTS. Prove the row's statement (the work); the ties are given (YtijkdfalbpmjbaaDoorTie.lean); close each card by the builder's one call (the guide's Derived/Test/ToyasCard.lean, 'card_holds'). Laid BY PROGRAM, IN A SANDBOX (cutbox-door.mjs). By AI agents, Wed Nov 11 2026. No macro, syntax, notation, axiom, sorry.
-/
import Derived.Test.YtijkdfalbpmjbaaDoorRows
import GoSem.ClaimSeven
namespace Go.Proofs.YtijkdfalbpmjbaaDoor
namespace Rows

/-- THE TIED CARD OF 'chancellaw6.ShowBrackets'. -/
def showBracketsCard : Claim7 := { stood := { row := showBracketsRow, standIns := [], harness := (true, "eef5104dddb2c7d2a9e2a77451abe3abe111e28b66ec9f68d7f70224452df551"), looks := false }, kinds := [], alts := [], laidByText := true, laidKinds := [.data, .data, .data], laidTests := true, laidLooks := .later }
def ShowBracketsCardSaid : Prop := Claim7.holds Tryd.pinned (.plain (OpenSpec.ofChange showBracketsSpec)) showBracketsCard

/-- THE TIED CARD OF 'chancellaw6.ShowChains'. -/
def showChainsCard : Claim7 := { stood := { row := showChainsRow, standIns := [], harness := (true, "eef5104dddb2c7d2a9e2a77451abe3abe111e28b66ec9f68d7f70224452df551"), looks := false }, kinds := [], alts := [], laidByText := true, laidKinds := [.data, .data, .data], laidTests := true, laidLooks := .later }
def ShowChainsCardSaid : Prop := Claim7.holds Tryd.pinned (.plain (OpenSpec.ofChange showChainsSpec)) showChainsCard

/-- THE SECOND FORM's CARD OF 'chancellaw6.ShowBrackets'. -/
def showBracketsUptoCard : Claim7 := { stood := { row := showBracketsUptoRow, standIns := [], harness := (true, "eef5104dddb2c7d2a9e2a77451abe3abe111e28b66ec9f68d7f70224452df551"), looks := false }, kinds := [], alts := [], laidByText := true, laidKinds := [.data, .data, .data], laidTests := true, laidLooks := .later }
def ShowBracketsUptoCardSaid : Prop := Claim7.holds Tryd.pinned (.plain (OpenSpec.upto showBracketsSpec)) showBracketsUptoCard

/-- THE SECOND FORM's CARD OF 'chancellaw6.ShowChains'. -/
def showChainsUptoCard : Claim7 := { stood := { row := showChainsUptoRow, standIns := [], harness := (true, "eef5104dddb2c7d2a9e2a77451abe3abe111e28b66ec9f68d7f70224452df551"), looks := false }, kinds := [], alts := [], laidByText := true, laidKinds := [.data, .data, .data], laidTests := true, laidLooks := .later }
def ShowChainsUptoCardSaid : Prop := Claim7.holds Tryd.pinned (.plain (OpenSpec.upto showChainsSpec)) showChainsUptoCard
end Rows
end Go.Proofs.YtijkdfalbpmjbaaDoor
