/-
  DERIVED. GIVEN WITH THE SEED: THE CARDS: each row of YtmkmofdnmllioaaGreatDoorRows.lean that lists a variable, with what it lists TIED to the program's text (the seventh form; the later family's looks); each row that meets fmt, with fmt's text TOLD by the authors' own Lean function (tested against real Go, not proved from fmt's source: count such statements apart). THE CARD IS WHAT COUNTS. Prove the row's statement (the work); the ties are given (YtmkmofdnmllioaaGreatDoorTie.lean); close each card by the builder's one call (the guide's Derived/Test/ToyasCard.lean, 'card_holds'). Laid BY PROGRAM, IN A SANDBOX (cutbox-door.mjs). By AI agents, Wed Nov 11 2026. No macro, syntax, notation, axiom, sorry.
-/
import Derived.Test.YtmkmofdnmllioaaGreatDoorRows
import GoSem.ClaimSeven
namespace Go.Proofs.YtmkmofdnmllioaaGreatDoor
namespace Rows

/-- THE TIED CARD OF 'cashbooklaw15.EvalAny'. -/
def evalAnyCard : Claim7 := { stood := { row := evalAnyRow, standIns := [], harness := (true, "5d976fbb15dcba9327042b5fd6d1b39e2380c1b948ea8b70d1fdb3db1e596927"), looks := false }, kinds := [], alts := [], laidByText := true, laidKinds := [.data, .data, .data, .data, .pinned], laidTests := true, laidLooks := .later }
def EvalAnyCardSaid : Prop := Claim7.holds Tryz.pinned (.plain (OpenSpec.ofChange evalAnySpec)) evalAnyCard

/-- THE SECOND FORM's CARD OF 'cashbooklaw15.EvalAny'. -/
def evalAnyUptoCard : Claim7 := { stood := { row := evalAnyUptoRow, standIns := [], harness := (true, "5d976fbb15dcba9327042b5fd6d1b39e2380c1b948ea8b70d1fdb3db1e596927"), looks := false }, kinds := [], alts := [], laidByText := true, laidKinds := [.data, .data, .data, .data, .pinned], laidTests := true, laidLooks := .later }
def EvalAnyUptoCardSaid : Prop := Claim7.holds Tryz.pinned (.plain (OpenSpec.upto evalAnySpec)) evalAnyUptoCard
end Rows
end Go.Proofs.YtmkmofdnmllioaaGreatDoor
