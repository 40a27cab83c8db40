/-
  DERIVED. GIVEN WITH THE SEED: THE CARDS: each row of YtdgpkbnnljblmaaGreatDoorRows.lean that lists a variable, with what it lists TIED to the program's text (the seventh form; the later family's looks); each row that meets fmt, with fmt's text TOLD by the authors' own Lean function (tested against real Go, not proved from fmt's source: count such statements apart). THE CARD IS WHAT COUNTS. Prove the row's statement (the work); the ties are given (YtdgpkbnnljblmaaGreatDoorTie.lean); close each card by the builder's one call (the guide's Derived/Test/ToyasCard.lean, 'card_holds'). Laid BY PROGRAM, IN A SANDBOX (cutbox-door.mjs). By AI agents, Wed Nov 11 2026. No macro, syntax, notation, axiom, sorry.
-/
import Derived.Test.YtdgpkbnnljblmaaGreatDoorRows
import GoSem.ClaimSeven
namespace Go.Proofs.YtdgpkbnnljblmaaGreatDoor
namespace Rows

/-- THE TIED CARD OF 'cashbooklaw11.FunApplies'. -/
def funAppliesCard : Claim7 := { stood := { row := funAppliesRow, standIns := [], harness := (true, "77b88d5647d88579fe249790164f29ba538a169e38f55a49c9c0a729a43cbb40"), looks := false }, kinds := [], alts := [], laidByText := true, laidKinds := [.data, .data, .data, .data, .pinned], laidTests := true, laidLooks := .later }
def FunAppliesCardSaid : Prop := Claim7.holds Tryz.pinned (.plain (OpenSpec.ofChange funAppliesSpec)) funAppliesCard

/-- THE TIED CARD OF 'cashbooklaw11.FunNames'. -/
def funNamesCard : Claim7 := { stood := { row := funNamesRow, standIns := [], harness := (true, "77b88d5647d88579fe249790164f29ba538a169e38f55a49c9c0a729a43cbb40"), looks := false }, kinds := [], alts := [], laidByText := true, laidKinds := [.data, .data, .data, .data, .pinned], laidTests := true, laidLooks := .later }
def FunNamesCardSaid : Prop := Claim7.holds Tryz.pinned (.plain (OpenSpec.ofChange funNamesSpec)) funNamesCard

/-- THE TIED CARD OF 'cashbooklaw11.FunFolds'. -/
def funFoldsCard : Claim7 := { stood := { row := funFoldsRow, standIns := [], harness := (true, "77b88d5647d88579fe249790164f29ba538a169e38f55a49c9c0a729a43cbb40"), looks := false }, kinds := [], alts := [], laidByText := true, laidKinds := [.data, .data, .data, .data, .pinned], laidTests := true, laidLooks := .later }
def FunFoldsCardSaid : Prop := Claim7.holds Tryz.pinned (.plain (OpenSpec.ofChange funFoldsSpec)) funFoldsCard

/-- THE TIED CARD OF 'cashbooklaw11.FunPieces'. -/
def funPiecesCard : Claim7 := { stood := { row := funPiecesRow, standIns := [], harness := (true, "77b88d5647d88579fe249790164f29ba538a169e38f55a49c9c0a729a43cbb40"), looks := false }, kinds := [], alts := [], laidByText := true, laidKinds := [.data, .data, .data, .data, .pinned], laidTests := true, laidLooks := .later }
def FunPiecesCardSaid : Prop := Claim7.holds Tryz.pinned (.plain (OpenSpec.ofChange funPiecesSpec)) funPiecesCard

/-- THE TIED CARD OF 'cashbooklaw11.FunMod'. -/
def funModCard : Claim7 := { stood := { row := funModRow, standIns := [], harness := (true, "77b88d5647d88579fe249790164f29ba538a169e38f55a49c9c0a729a43cbb40"), looks := false }, kinds := [], alts := [], laidByText := true, laidKinds := [.data, .data, .data, .data, .pinned], laidTests := true, laidLooks := .later }
def FunModCardSaid : Prop := Claim7.holds Tryz.pinned (.plain (OpenSpec.ofChange funModSpec)) funModCard

/-- THE TIED CARD OF 'cashbooklaw11.FunSigns'. -/
def funSignsCard : Claim7 := { stood := { row := funSignsRow, standIns := [], harness := (true, "77b88d5647d88579fe249790164f29ba538a169e38f55a49c9c0a729a43cbb40"), looks := false }, kinds := [], alts := [], laidByText := true, laidKinds := [.data, .data, .data, .data, .pinned], laidTests := true, laidLooks := .later }
def FunSignsCardSaid : Prop := Claim7.holds Tryz.pinned (.plain (OpenSpec.ofChange funSignsSpec)) funSignsCard

/-- THE TIED CARD OF 'cashbooklaw11.FunChooses'. -/
def funChoosesCard : Claim7 := { stood := { row := funChoosesRow, standIns := [], harness := (true, "77b88d5647d88579fe249790164f29ba538a169e38f55a49c9c0a729a43cbb40"), looks := false }, kinds := [], alts := [], laidByText := true, laidKinds := [.data, .data, .data, .data, .pinned], laidTests := true, laidLooks := .later }
def FunChoosesCardSaid : Prop := Claim7.holds Tryz.pinned (.plain (OpenSpec.ofChange funChoosesSpec)) funChoosesCard

/-- THE TIED CARD OF 'cashbooklaw11.FunTypes'. -/
def funTypesCard : Claim7 := { stood := { row := funTypesRow, standIns := [], harness := (true, "77b88d5647d88579fe249790164f29ba538a169e38f55a49c9c0a729a43cbb40"), looks := false }, kinds := [], alts := [], laidByText := true, laidKinds := [.data, .data, .data, .data, .pinned], laidTests := true, laidLooks := .later }
def FunTypesCardSaid : Prop := Claim7.holds Tryz.pinned (.plain (OpenSpec.ofChange funTypesSpec)) funTypesCard

/-- THE TIED CARD OF 'cashbooklaw15.EvalAny'. -/
def evalAnyCard : Claim7 := { stood := { row := evalAnyRow, standIns := [], harness := (true, "77b88d5647d88579fe249790164f29ba538a169e38f55a49c9c0a729a43cbb40"), looks := false }, kinds := [], alts := [], laidByText := true, laidKinds := [.data, .data, .data, .data, .pinned], laidTests := true, laidLooks := .later }
def EvalAnyCardSaid : Prop := Claim7.holds Tryz.pinned (.plain (OpenSpec.ofChange evalAnySpec)) evalAnyCard

/-- THE TIED CARD OF 'cashbooklaw15.EvalMoves'. -/
def evalMovesCard : Claim7 := { stood := { row := evalMovesRow, standIns := [], harness := (true, "77b88d5647d88579fe249790164f29ba538a169e38f55a49c9c0a729a43cbb40"), looks := false }, kinds := [], alts := [], laidByText := true, laidKinds := [.data, .data, .data, .data, .pinned], laidTests := true, laidLooks := .later }
def EvalMovesCardSaid : Prop := Claim7.holds Tryz.pinned (.plain (OpenSpec.ofChange evalMovesSpec)) evalMovesCard

/-- THE TIED CARD OF 'cashbooklaw15.EvalSums'. -/
def evalSumsCard : Claim7 := { stood := { row := evalSumsRow, standIns := [], harness := (true, "77b88d5647d88579fe249790164f29ba538a169e38f55a49c9c0a729a43cbb40"), looks := false }, kinds := [], alts := [], laidByText := true, laidKinds := [.data, .data, .data, .data, .pinned], laidTests := true, laidLooks := .later }
def EvalSumsCardSaid : Prop := Claim7.holds Tryz.pinned (.plain (OpenSpec.ofChange evalSumsSpec)) evalSumsCard

/-- THE TIED CARD OF 'cashbooklaw15.EvalNames'. -/
def evalNamesCard : Claim7 := { stood := { row := evalNamesRow, standIns := [], harness := (true, "77b88d5647d88579fe249790164f29ba538a169e38f55a49c9c0a729a43cbb40"), looks := false }, kinds := [], alts := [], laidByText := true, laidKinds := [.data, .data, .data, .data, .pinned], laidTests := true, laidLooks := .later }
def EvalNamesCardSaid : Prop := Claim7.holds Tryz.pinned (.plain (OpenSpec.ofChange evalNamesSpec)) evalNamesCard

/-- THE TIED CARD OF 'cashbooklaw15.EvalFaults'. -/
def evalFaultsCard : Claim7 := { stood := { row := evalFaultsRow, standIns := [], harness := (true, "77b88d5647d88579fe249790164f29ba538a169e38f55a49c9c0a729a43cbb40"), looks := false }, kinds := [], alts := [], laidByText := true, laidKinds := [.data, .data, .data, .data, .pinned], laidTests := true, laidLooks := .later }
def EvalFaultsCardSaid : Prop := Claim7.holds Tryz.pinned (.plain (OpenSpec.ofChange evalFaultsSpec)) evalFaultsCard

/-- THE SECOND FORM's CARD OF 'cashbooklaw11.FunApplies'. -/
def funAppliesUptoCard : Claim7 := { stood := { row := funAppliesUptoRow, standIns := [], harness := (true, "77b88d5647d88579fe249790164f29ba538a169e38f55a49c9c0a729a43cbb40"), looks := false }, kinds := [], alts := [], laidByText := true, laidKinds := [.data, .data, .data, .data, .pinned], laidTests := true, laidLooks := .later }
def FunAppliesUptoCardSaid : Prop := Claim7.holds Tryz.pinned (.plain (OpenSpec.upto funAppliesSpec)) funAppliesUptoCard

/-- THE SECOND FORM's CARD OF 'cashbooklaw11.FunNames'. -/
def funNamesUptoCard : Claim7 := { stood := { row := funNamesUptoRow, standIns := [], harness := (true, "77b88d5647d88579fe249790164f29ba538a169e38f55a49c9c0a729a43cbb40"), looks := false }, kinds := [], alts := [], laidByText := true, laidKinds := [.data, .data, .data, .data, .pinned], laidTests := true, laidLooks := .later }
def FunNamesUptoCardSaid : Prop := Claim7.holds Tryz.pinned (.plain (OpenSpec.upto funNamesSpec)) funNamesUptoCard

/-- THE SECOND FORM's CARD OF 'cashbooklaw11.FunFolds'. -/
def funFoldsUptoCard : Claim7 := { stood := { row := funFoldsUptoRow, standIns := [], harness := (true, "77b88d5647d88579fe249790164f29ba538a169e38f55a49c9c0a729a43cbb40"), looks := false }, kinds := [], alts := [], laidByText := true, laidKinds := [.data, .data, .data, .data, .pinned], laidTests := true, laidLooks := .later }
def FunFoldsUptoCardSaid : Prop := Claim7.holds Tryz.pinned (.plain (OpenSpec.upto funFoldsSpec)) funFoldsUptoCard

/-- THE SECOND FORM's CARD OF 'cashbooklaw11.FunPieces'. -/
def funPiecesUptoCard : Claim7 := { stood := { row := funPiecesUptoRow, standIns := [], harness := (true, "77b88d5647d88579fe249790164f29ba538a169e38f55a49c9c0a729a43cbb40"), looks := false }, kinds := [], alts := [], laidByText := true, laidKinds := [.data, .data, .data, .data, .pinned], laidTests := true, laidLooks := .later }
def FunPiecesUptoCardSaid : Prop := Claim7.holds Tryz.pinned (.plain (OpenSpec.upto funPiecesSpec)) funPiecesUptoCard

/-- THE SECOND FORM's CARD OF 'cashbooklaw11.FunMod'. -/
def funModUptoCard : Claim7 := { stood := { row := funModUptoRow, standIns := [], harness := (true, "77b88d5647d88579fe249790164f29ba538a169e38f55a49c9c0a729a43cbb40"), looks := false }, kinds := [], alts := [], laidByText := true, laidKinds := [.data, .data, .data, .data, .pinned], laidTests := true, laidLooks := .later }
def FunModUptoCardSaid : Prop := Claim7.holds Tryz.pinned (.plain (OpenSpec.upto funModSpec)) funModUptoCard

/-- THE SECOND FORM's CARD OF 'cashbooklaw11.FunSigns'. -/
def funSignsUptoCard : Claim7 := { stood := { row := funSignsUptoRow, standIns := [], harness := (true, "77b88d5647d88579fe249790164f29ba538a169e38f55a49c9c0a729a43cbb40"), looks := false }, kinds := [], alts := [], laidByText := true, laidKinds := [.data, .data, .data, .data, .pinned], laidTests := true, laidLooks := .later }
def FunSignsUptoCardSaid : Prop := Claim7.holds Tryz.pinned (.plain (OpenSpec.upto funSignsSpec)) funSignsUptoCard

/-- THE SECOND FORM's CARD OF 'cashbooklaw11.FunChooses'. -/
def funChoosesUptoCard : Claim7 := { stood := { row := funChoosesUptoRow, standIns := [], harness := (true, "77b88d5647d88579fe249790164f29ba538a169e38f55a49c9c0a729a43cbb40"), looks := false }, kinds := [], alts := [], laidByText := true, laidKinds := [.data, .data, .data, .data, .pinned], laidTests := true, laidLooks := .later }
def FunChoosesUptoCardSaid : Prop := Claim7.holds Tryz.pinned (.plain (OpenSpec.upto funChoosesSpec)) funChoosesUptoCard

/-- THE SECOND FORM's CARD OF 'cashbooklaw11.FunTypes'. -/
def funTypesUptoCard : Claim7 := { stood := { row := funTypesUptoRow, standIns := [], harness := (true, "77b88d5647d88579fe249790164f29ba538a169e38f55a49c9c0a729a43cbb40"), looks := false }, kinds := [], alts := [], laidByText := true, laidKinds := [.data, .data, .data, .data, .pinned], laidTests := true, laidLooks := .later }
def FunTypesUptoCardSaid : Prop := Claim7.holds Tryz.pinned (.plain (OpenSpec.upto funTypesSpec)) funTypesUptoCard

/-- THE SECOND FORM's CARD OF 'cashbooklaw15.EvalAny'. -/
def evalAnyUptoCard : Claim7 := { stood := { row := evalAnyUptoRow, standIns := [], harness := (true, "77b88d5647d88579fe249790164f29ba538a169e38f55a49c9c0a729a43cbb40"), looks := false }, kinds := [], alts := [], laidByText := true, laidKinds := [.data, .data, .data, .data, .pinned], laidTests := true, laidLooks := .later }
def EvalAnyUptoCardSaid : Prop := Claim7.holds Tryz.pinned (.plain (OpenSpec.upto evalAnySpec)) evalAnyUptoCard

/-- THE SECOND FORM's CARD OF 'cashbooklaw15.EvalMoves'. -/
def evalMovesUptoCard : Claim7 := { stood := { row := evalMovesUptoRow, standIns := [], harness := (true, "77b88d5647d88579fe249790164f29ba538a169e38f55a49c9c0a729a43cbb40"), looks := false }, kinds := [], alts := [], laidByText := true, laidKinds := [.data, .data, .data, .data, .pinned], laidTests := true, laidLooks := .later }
def EvalMovesUptoCardSaid : Prop := Claim7.holds Tryz.pinned (.plain (OpenSpec.upto evalMovesSpec)) evalMovesUptoCard

/-- THE SECOND FORM's CARD OF 'cashbooklaw15.EvalSums'. -/
def evalSumsUptoCard : Claim7 := { stood := { row := evalSumsUptoRow, standIns := [], harness := (true, "77b88d5647d88579fe249790164f29ba538a169e38f55a49c9c0a729a43cbb40"), looks := false }, kinds := [], alts := [], laidByText := true, laidKinds := [.data, .data, .data, .data, .pinned], laidTests := true, laidLooks := .later }
def EvalSumsUptoCardSaid : Prop := Claim7.holds Tryz.pinned (.plain (OpenSpec.upto evalSumsSpec)) evalSumsUptoCard

/-- THE SECOND FORM's CARD OF 'cashbooklaw15.EvalNames'. -/
def evalNamesUptoCard : Claim7 := { stood := { row := evalNamesUptoRow, standIns := [], harness := (true, "77b88d5647d88579fe249790164f29ba538a169e38f55a49c9c0a729a43cbb40"), looks := false }, kinds := [], alts := [], laidByText := true, laidKinds := [.data, .data, .data, .data, .pinned], laidTests := true, laidLooks := .later }
def EvalNamesUptoCardSaid : Prop := Claim7.holds Tryz.pinned (.plain (OpenSpec.upto evalNamesSpec)) evalNamesUptoCard

/-- THE SECOND FORM's CARD OF 'cashbooklaw15.EvalFaults'. -/
def evalFaultsUptoCard : Claim7 := { stood := { row := evalFaultsUptoRow, standIns := [], harness := (true, "77b88d5647d88579fe249790164f29ba538a169e38f55a49c9c0a729a43cbb40"), looks := false }, kinds := [], alts := [], laidByText := true, laidKinds := [.data, .data, .data, .data, .pinned], laidTests := true, laidLooks := .later }
def EvalFaultsUptoCardSaid : Prop := Claim7.holds Tryz.pinned (.plain (OpenSpec.upto evalFaultsSpec)) evalFaultsUptoCard
end Rows
end Go.Proofs.YtdgpkbnnljblmaaGreatDoor
