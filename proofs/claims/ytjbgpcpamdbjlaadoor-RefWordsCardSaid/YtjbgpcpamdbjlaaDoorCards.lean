/-
  DERIVED. GIVEN WITH THE SEED: THE CARDS: each row of YtjbgpcpamdbjlaaDoorRows.lean that lists a variable, with what it lists TIED to the program's text (the seventh form; the later family's looks); each row that meets fmt, with fmt's text TOLD by the authors' own Lean function (tested against real Go, not proved from fmt's source: count such statements apart). THE CARD IS WHAT COUNTS. Prove the row's statement (the work); the ties are given (YtjbgpcpamdbjlaaDoorTie.lean); close each card by the builder's one call (the guide's Derived/Test/ToyasCard.lean, 'card_holds'). Laid BY PROGRAM, IN A SANDBOX (cutbox-door.mjs). By AI agents, Wed Nov 11 2026. No macro, syntax, notation, axiom, sorry.
-/
import Derived.Test.YtjbgpcpamdbjlaaDoorRows
import GoSem.ClaimSeven
namespace Go.Proofs.YtjbgpcpamdbjlaaDoor
namespace Rows

/-- THE TIED CARD OF 'cashbooklaw8.RefAny'. -/
def refAnyCard : Claim7 := { stood := { row := refAnyRow, standIns := [], harness := (true, "1b7c520643e9ec7542dbc3b9dfca912cecc4c0222ce1723846ea724a5d785090"), looks := false }, kinds := [], alts := [], laidByText := true, laidKinds := [.data, .data, .data], laidTests := true, laidLooks := .later }
def RefAnyCardSaid : Prop := Claim7.holds Tryd.pinned (.plain (OpenSpec.ofChange refAnySpec)) refAnyCard

/-- THE TIED CARD OF 'cashbooklaw8.RefAreas'. -/
def refAreasCard : Claim7 := { stood := { row := refAreasRow, standIns := [], harness := (true, "1b7c520643e9ec7542dbc3b9dfca912cecc4c0222ce1723846ea724a5d785090"), looks := false }, kinds := [], alts := [], laidByText := true, laidKinds := [.data, .data, .data], laidTests := true, laidLooks := .later }
def RefAreasCardSaid : Prop := Claim7.holds Tryd.pinned (.plain (OpenSpec.ofChange refAreasSpec)) refAreasCard

/-- THE TIED CARD OF 'cashbooklaw8.RefWords'. -/
def refWordsCard : Claim7 := { stood := { row := refWordsRow, standIns := [], harness := (true, "1b7c520643e9ec7542dbc3b9dfca912cecc4c0222ce1723846ea724a5d785090"), looks := false }, kinds := [], alts := [], laidByText := true, laidKinds := [.data, .data, .data], laidTests := true, laidLooks := .later }
def RefWordsCardSaid : Prop := Claim7.holds Tryd.pinned (.plain (OpenSpec.ofChange refWordsSpec)) refWordsCard

/-- THE TIED CARD OF 'cashbooklaw8.RefRound'. -/
def refRoundCard : Claim7 := { stood := { row := refRoundRow, standIns := [], harness := (true, "1b7c520643e9ec7542dbc3b9dfca912cecc4c0222ce1723846ea724a5d785090"), looks := false }, kinds := [], alts := [], laidByText := true, laidKinds := [.data, .data, .data], laidTests := true, laidLooks := .later }
def RefRoundCardSaid : Prop := Claim7.holds Tryd.pinned (.plain (OpenSpec.ofChange refRoundSpec)) refRoundCard

/-- THE TIED CARD OF 'cashbooklaw8.RefCells'. -/
def refCellsCard : Claim7 := { stood := { row := refCellsRow, standIns := [], harness := (true, "1b7c520643e9ec7542dbc3b9dfca912cecc4c0222ce1723846ea724a5d785090"), looks := false }, kinds := [], alts := [], laidByText := true, laidKinds := [.data, .data, .data], laidTests := true, laidLooks := .later }
def RefCellsCardSaid : Prop := Claim7.holds Tryd.pinned (.plain (OpenSpec.ofChange refCellsSpec)) refCellsCard

/-- THE TIED CARD OF 'cashbooklaw8.RefNames'. -/
def refNamesCard : Claim7 := { stood := { row := refNamesRow, standIns := [], harness := (true, "1b7c520643e9ec7542dbc3b9dfca912cecc4c0222ce1723846ea724a5d785090"), looks := false }, kinds := [], alts := [], laidByText := true, laidKinds := [.data, .data, .data], laidTests := true, laidLooks := .later }
def RefNamesCardSaid : Prop := Claim7.holds Tryd.pinned (.plain (OpenSpec.ofChange refNamesSpec)) refNamesCard

/-- THE SECOND FORM's CARD OF 'cashbooklaw8.RefAny'. -/
def refAnyUptoCard : Claim7 := { stood := { row := refAnyUptoRow, standIns := [], harness := (true, "1b7c520643e9ec7542dbc3b9dfca912cecc4c0222ce1723846ea724a5d785090"), looks := false }, kinds := [], alts := [], laidByText := true, laidKinds := [.data, .data, .data], laidTests := true, laidLooks := .later }
def RefAnyUptoCardSaid : Prop := Claim7.holds Tryd.pinned (.plain (OpenSpec.upto refAnySpec)) refAnyUptoCard

/-- THE SECOND FORM's CARD OF 'cashbooklaw8.RefAreas'. -/
def refAreasUptoCard : Claim7 := { stood := { row := refAreasUptoRow, standIns := [], harness := (true, "1b7c520643e9ec7542dbc3b9dfca912cecc4c0222ce1723846ea724a5d785090"), looks := false }, kinds := [], alts := [], laidByText := true, laidKinds := [.data, .data, .data], laidTests := true, laidLooks := .later }
def RefAreasUptoCardSaid : Prop := Claim7.holds Tryd.pinned (.plain (OpenSpec.upto refAreasSpec)) refAreasUptoCard

/-- THE SECOND FORM's CARD OF 'cashbooklaw8.RefWords'. -/
def refWordsUptoCard : Claim7 := { stood := { row := refWordsUptoRow, standIns := [], harness := (true, "1b7c520643e9ec7542dbc3b9dfca912cecc4c0222ce1723846ea724a5d785090"), looks := false }, kinds := [], alts := [], laidByText := true, laidKinds := [.data, .data, .data], laidTests := true, laidLooks := .later }
def RefWordsUptoCardSaid : Prop := Claim7.holds Tryd.pinned (.plain (OpenSpec.upto refWordsSpec)) refWordsUptoCard

/-- THE SECOND FORM's CARD OF 'cashbooklaw8.RefRound'. -/
def refRoundUptoCard : Claim7 := { stood := { row := refRoundUptoRow, standIns := [], harness := (true, "1b7c520643e9ec7542dbc3b9dfca912cecc4c0222ce1723846ea724a5d785090"), looks := false }, kinds := [], alts := [], laidByText := true, laidKinds := [.data, .data, .data], laidTests := true, laidLooks := .later }
def RefRoundUptoCardSaid : Prop := Claim7.holds Tryd.pinned (.plain (OpenSpec.upto refRoundSpec)) refRoundUptoCard

/-- THE SECOND FORM's CARD OF 'cashbooklaw8.RefCells'. -/
def refCellsUptoCard : Claim7 := { stood := { row := refCellsUptoRow, standIns := [], harness := (true, "1b7c520643e9ec7542dbc3b9dfca912cecc4c0222ce1723846ea724a5d785090"), looks := false }, kinds := [], alts := [], laidByText := true, laidKinds := [.data, .data, .data], laidTests := true, laidLooks := .later }
def RefCellsUptoCardSaid : Prop := Claim7.holds Tryd.pinned (.plain (OpenSpec.upto refCellsSpec)) refCellsUptoCard

/-- THE SECOND FORM's CARD OF 'cashbooklaw8.RefNames'. -/
def refNamesUptoCard : Claim7 := { stood := { row := refNamesUptoRow, standIns := [], harness := (true, "1b7c520643e9ec7542dbc3b9dfca912cecc4c0222ce1723846ea724a5d785090"), looks := false }, kinds := [], alts := [], laidByText := true, laidKinds := [.data, .data, .data], laidTests := true, laidLooks := .later }
def RefNamesUptoCardSaid : Prop := Claim7.holds Tryd.pinned (.plain (OpenSpec.upto refNamesSpec)) refNamesUptoCard
end Rows
end Go.Proofs.YtjbgpcpamdbjlaaDoor
