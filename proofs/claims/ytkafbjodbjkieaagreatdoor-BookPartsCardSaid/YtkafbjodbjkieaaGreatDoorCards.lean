/-
  DERIVED. GIVEN WITH THE SEED: THE CARDS: each row of YtkafbjodbjkieaaGreatDoorRows.lean that lists a variable, with what it lists TIED to the program's text (the seventh form; the later family's looks); each row that meets fmt, with fmt's text TOLD by the authors' own Lean function (tested against real Go, not proved from fmt's source: count such statements apart). THE CARD IS WHAT COUNTS. Prove the row's statement (the work); the ties are given (YtkafbjodbjkieaaGreatDoorTie.lean); close each card by the builder's one call (the guide's Derived/Test/ToyasCard.lean, 'card_holds'). Laid BY PROGRAM, IN A SANDBOX (cutbox-door.mjs). By AI agents, Wed Nov 11 2026. No macro, syntax, notation, axiom, sorry.
-/
import Derived.Test.YtkafbjodbjkieaaGreatDoorRows
import GoSem.ClaimSeven
namespace Go.Proofs.YtkafbjodbjkieaaGreatDoor
namespace Rows

/-- THE TIED CARD OF 'cashbooklaw22.BookAny'. -/
def bookAnyCard : Claim7 := { stood := { row := bookAnyRow, standIns := [], harness := (true, "020e668ef3ba47a8d131159ae894effd8d56bef963cd7bc3292c53b116590e53"), looks := false }, kinds := [], alts := [], laidByText := true, laidKinds := [.data, .pinned], laidTests := true, laidLooks := .later }
def BookAnyCardSaid : Prop := Claim7.holds Tryz.pinned (.plain (OpenSpec.ofChange bookAnySpec)) bookAnyCard

/-- THE TIED CARD OF 'cashbooklaw22.BookParts'. -/
def bookPartsCard : Claim7 := { stood := { row := bookPartsRow, standIns := [], harness := (true, "020e668ef3ba47a8d131159ae894effd8d56bef963cd7bc3292c53b116590e53"), looks := false }, kinds := [], alts := [], laidByText := true, laidKinds := [.data, .pinned], laidTests := true, laidLooks := .later }
def BookPartsCardSaid : Prop := Claim7.holds Tryz.pinned (.plain (OpenSpec.ofChange bookPartsSpec)) bookPartsCard

/-- THE TIED CARD OF 'cashbooklaw22.BookNodes'. -/
def bookNodesCard : Claim7 := { stood := { row := bookNodesRow, standIns := [], harness := (true, "020e668ef3ba47a8d131159ae894effd8d56bef963cd7bc3292c53b116590e53"), looks := false }, kinds := [], alts := [], laidByText := true, laidKinds := [.data, .pinned], laidTests := true, laidLooks := .later }
def BookNodesCardSaid : Prop := Claim7.holds Tryz.pinned (.plain (OpenSpec.ofChange bookNodesSpec)) bookNodesCard

/-- THE SECOND FORM's CARD OF 'cashbooklaw22.BookAny'. -/
def bookAnyUptoCard : Claim7 := { stood := { row := bookAnyUptoRow, standIns := [], harness := (true, "020e668ef3ba47a8d131159ae894effd8d56bef963cd7bc3292c53b116590e53"), looks := false }, kinds := [], alts := [], laidByText := true, laidKinds := [.data, .pinned], laidTests := true, laidLooks := .later }
def BookAnyUptoCardSaid : Prop := Claim7.holds Tryz.pinned (.plain (OpenSpec.upto bookAnySpec)) bookAnyUptoCard

/-- THE SECOND FORM's CARD OF 'cashbooklaw22.BookParts'. -/
def bookPartsUptoCard : Claim7 := { stood := { row := bookPartsUptoRow, standIns := [], harness := (true, "020e668ef3ba47a8d131159ae894effd8d56bef963cd7bc3292c53b116590e53"), looks := false }, kinds := [], alts := [], laidByText := true, laidKinds := [.data, .pinned], laidTests := true, laidLooks := .later }
def BookPartsUptoCardSaid : Prop := Claim7.holds Tryz.pinned (.plain (OpenSpec.upto bookPartsSpec)) bookPartsUptoCard

/-- THE SECOND FORM's CARD OF 'cashbooklaw22.BookNodes'. -/
def bookNodesUptoCard : Claim7 := { stood := { row := bookNodesUptoRow, standIns := [], harness := (true, "020e668ef3ba47a8d131159ae894effd8d56bef963cd7bc3292c53b116590e53"), looks := false }, kinds := [], alts := [], laidByText := true, laidKinds := [.data, .pinned], laidTests := true, laidLooks := .later }
def BookNodesUptoCardSaid : Prop := Claim7.holds Tryz.pinned (.plain (OpenSpec.upto bookNodesSpec)) bookNodesUptoCard
end Rows
end Go.Proofs.YtkafbjodbjkieaaGreatDoor
