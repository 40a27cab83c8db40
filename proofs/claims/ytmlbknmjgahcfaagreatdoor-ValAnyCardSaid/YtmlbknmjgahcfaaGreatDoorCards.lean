/-
  DERIVED. GIVEN WITH THE SEED: THE CARDS: each row of YtmlbknmjgahcfaaGreatDoorRows.lean that lists a variable, with what it lists TIED to the program's text (the seventh form; the later family's looks); each row that meets fmt, with fmt's text TOLD by the authors' own Lean function (tested against real Go, not proved from fmt's source: count such statements apart). THE CARD IS WHAT COUNTS. Prove the row's statement (the work); the ties are given (YtmlbknmjgahcfaaGreatDoorTie.lean); close each card by the builder's one call (the guide's Derived/Test/ToyasCard.lean, 'card_holds'). Laid BY PROGRAM, IN A SANDBOX (cutbox-door.mjs). By AI agents, Wed Nov 11 2026. No macro, syntax, notation, axiom, sorry.
-/
import Derived.Test.YtmlbknmjgahcfaaGreatDoorRows
import GoSem.ClaimSeven
namespace Go.Proofs.YtmlbknmjgahcfaaGreatDoor
namespace Rows

/-- THE TIED CARD OF 'cashbooklaw9.ValAny'. -/
def valAnyCard : Claim7 := { stood := { row := valAnyRow, standIns := [], harness := (true, "68d74d55de6910bf9502f1f8310dd3ec3f9d4a184ee69d15ab11389e0e5098b0"), looks := false }, kinds := [], alts := [], laidByText := true, laidKinds := [.data, .data, .data, .data, .pinned], laidTests := true, laidLooks := .later }
def ValAnyCardSaid : Prop := Claim7.holds Tryz.pinned (.plain (OpenSpec.ofChange valAnySpec)) valAnyCard

/-- THE SECOND FORM's CARD OF 'cashbooklaw9.ValAny'. -/
def valAnyUptoCard : Claim7 := { stood := { row := valAnyUptoRow, standIns := [], harness := (true, "68d74d55de6910bf9502f1f8310dd3ec3f9d4a184ee69d15ab11389e0e5098b0"), looks := false }, kinds := [], alts := [], laidByText := true, laidKinds := [.data, .data, .data, .data, .pinned], laidTests := true, laidLooks := .later }
def ValAnyUptoCardSaid : Prop := Claim7.holds Tryz.pinned (.plain (OpenSpec.upto valAnySpec)) valAnyUptoCard
end Rows
end Go.Proofs.YtmlbknmjgahcfaaGreatDoor
