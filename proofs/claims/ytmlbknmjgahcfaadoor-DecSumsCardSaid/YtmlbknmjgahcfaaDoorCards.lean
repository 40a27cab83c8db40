/-
  DERIVED. GIVEN WITH THE SEED: THE CARDS: each row of YtmlbknmjgahcfaaDoorRows.lean that lists a variable, with what it lists TIED to the program's text (the seventh form; the later family's looks); each row that meets fmt, with fmt's text TOLD by the authors' own Lean function (tested against real Go, not proved from fmt's source: count such statements apart). THE CARD IS WHAT COUNTS. Prove the row's statement (the work); the ties are given (YtmlbknmjgahcfaaDoorTie.lean); close each card by the builder's one call (the guide's Derived/Test/ToyasCard.lean, 'card_holds'). Laid BY PROGRAM, IN A SANDBOX (cutbox-door.mjs). By AI agents, Wed Nov 11 2026. No macro, syntax, notation, axiom, sorry.
-/
import Derived.Test.YtmlbknmjgahcfaaDoorRows
import GoSem.ClaimSeven
namespace Go.Proofs.YtmlbknmjgahcfaaDoor
namespace Rows

/-- THE TIED CARD OF 'cashbooklaw4.DecSums'. -/
def decSumsCard : Claim7 := { stood := { row := decSumsRow, standIns := [], harness := (true, "3040425195c02a086e2b268355e88232b7ee9f980af2eb75597ffc2406adc7ee"), looks := false }, kinds := [], alts := [], laidByText := true, laidKinds := [.data, .data, .data], laidTests := true, laidLooks := .later }
def DecSumsCardSaid : Prop := Claim7.holds Tryd.pinned (.plain (OpenSpec.ofChange decSumsSpec)) decSumsCard

/-- THE TIED CARD OF 'cashbooklaw4.DecRounds'. -/
def decRoundsCard : Claim7 := { stood := { row := decRoundsRow, standIns := [], harness := (true, "3040425195c02a086e2b268355e88232b7ee9f980af2eb75597ffc2406adc7ee"), looks := false }, kinds := [], alts := [], laidByText := true, laidKinds := [.data, .data, .data], laidTests := true, laidLooks := .later }
def DecRoundsCardSaid : Prop := Claim7.holds Tryd.pinned (.plain (OpenSpec.ofChange decRoundsSpec)) decRoundsCard

/-- THE TIED CARD OF 'cashbooklaw4.DecLaws'. -/
def decLawsCard : Claim7 := { stood := { row := decLawsRow, standIns := [], harness := (true, "3040425195c02a086e2b268355e88232b7ee9f980af2eb75597ffc2406adc7ee"), looks := false }, kinds := [], alts := [], laidByText := true, laidKinds := [.data, .data, .data], laidTests := true, laidLooks := .later }
def DecLawsCardSaid : Prop := Claim7.holds Tryd.pinned (.plain (OpenSpec.ofChange decLawsSpec)) decLawsCard

/-- THE TIED CARD OF 'cashbooklaw4.DecFloors'. -/
def decFloorsCard : Claim7 := { stood := { row := decFloorsRow, standIns := [], harness := (true, "3040425195c02a086e2b268355e88232b7ee9f980af2eb75597ffc2406adc7ee"), looks := false }, kinds := [], alts := [], laidByText := true, laidKinds := [.data, .data, .data], laidTests := true, laidLooks := .later }
def DecFloorsCardSaid : Prop := Claim7.holds Tryd.pinned (.plain (OpenSpec.ofChange decFloorsSpec)) decFloorsCard

/-- THE TIED CARD OF 'cashbooklaw4.DecNear'. -/
def decNearCard : Claim7 := { stood := { row := decNearRow, standIns := [], harness := (true, "3040425195c02a086e2b268355e88232b7ee9f980af2eb75597ffc2406adc7ee"), looks := false }, kinds := [], alts := [], laidByText := true, laidKinds := [.data, .data, .data], laidTests := true, laidLooks := .later }
def DecNearCardSaid : Prop := Claim7.holds Tryd.pinned (.plain (OpenSpec.ofChange decNearSpec)) decNearCard

/-- THE TIED CARD OF 'cashbooklaw4.DecOrder'. -/
def decOrderCard : Claim7 := { stood := { row := decOrderRow, standIns := [], harness := (true, "3040425195c02a086e2b268355e88232b7ee9f980af2eb75597ffc2406adc7ee"), looks := false }, kinds := [], alts := [], laidByText := true, laidKinds := [.data, .data, .data], laidTests := true, laidLooks := .later }
def DecOrderCardSaid : Prop := Claim7.holds Tryd.pinned (.plain (OpenSpec.ofChange decOrderSpec)) decOrderCard

/-- THE TIED CARD OF 'cashbooklaw9.ValOrder'. -/
def valOrderCard : Claim7 := { stood := { row := valOrderRow, standIns := [], harness := (true, "3040425195c02a086e2b268355e88232b7ee9f980af2eb75597ffc2406adc7ee"), looks := false }, kinds := [], alts := [], laidByText := true, laidKinds := [.data, .data, .data, .data, .pinned], laidTests := true, laidLooks := .later }
def ValOrderCardSaid : Prop := Claim7.holds Tryd.pinned (.plain (OpenSpec.ofChange valOrderSpec)) valOrderCard

/-- THE TIED CARD OF 'cashbooklaw9.ValBlank'. -/
def valBlankCard : Claim7 := { stood := { row := valBlankRow, standIns := [], harness := (true, "3040425195c02a086e2b268355e88232b7ee9f980af2eb75597ffc2406adc7ee"), looks := false }, kinds := [], alts := [], laidByText := true, laidKinds := [.data, .data, .data, .data, .pinned], laidTests := true, laidLooks := .later }
def ValBlankCardSaid : Prop := Claim7.holds Tryd.pinned (.plain (OpenSpec.ofChange valBlankSpec)) valBlankCard

/-- THE TIED CARD OF 'cashbooklaw9.ValTruths'. -/
def valTruthsCard : Claim7 := { stood := { row := valTruthsRow, standIns := [], harness := (true, "3040425195c02a086e2b268355e88232b7ee9f980af2eb75597ffc2406adc7ee"), looks := false }, kinds := [], alts := [], laidByText := true, laidKinds := [.data, .data, .data, .data, .pinned], laidTests := true, laidLooks := .later }
def ValTruthsCardSaid : Prop := Claim7.holds Tryd.pinned (.plain (OpenSpec.ofChange valTruthsSpec)) valTruthsCard

/-- THE SECOND FORM's CARD OF 'cashbooklaw4.DecSums'. -/
def decSumsUptoCard : Claim7 := { stood := { row := decSumsUptoRow, standIns := [], harness := (true, "3040425195c02a086e2b268355e88232b7ee9f980af2eb75597ffc2406adc7ee"), looks := false }, kinds := [], alts := [], laidByText := true, laidKinds := [.data, .data, .data], laidTests := true, laidLooks := .later }
def DecSumsUptoCardSaid : Prop := Claim7.holds Tryd.pinned (.plain (OpenSpec.upto decSumsSpec)) decSumsUptoCard

/-- THE SECOND FORM's CARD OF 'cashbooklaw4.DecRounds'. -/
def decRoundsUptoCard : Claim7 := { stood := { row := decRoundsUptoRow, standIns := [], harness := (true, "3040425195c02a086e2b268355e88232b7ee9f980af2eb75597ffc2406adc7ee"), looks := false }, kinds := [], alts := [], laidByText := true, laidKinds := [.data, .data, .data], laidTests := true, laidLooks := .later }
def DecRoundsUptoCardSaid : Prop := Claim7.holds Tryd.pinned (.plain (OpenSpec.upto decRoundsSpec)) decRoundsUptoCard

/-- THE SECOND FORM's CARD OF 'cashbooklaw4.DecLaws'. -/
def decLawsUptoCard : Claim7 := { stood := { row := decLawsUptoRow, standIns := [], harness := (true, "3040425195c02a086e2b268355e88232b7ee9f980af2eb75597ffc2406adc7ee"), looks := false }, kinds := [], alts := [], laidByText := true, laidKinds := [.data, .data, .data], laidTests := true, laidLooks := .later }
def DecLawsUptoCardSaid : Prop := Claim7.holds Tryd.pinned (.plain (OpenSpec.upto decLawsSpec)) decLawsUptoCard

/-- THE SECOND FORM's CARD OF 'cashbooklaw4.DecFloors'. -/
def decFloorsUptoCard : Claim7 := { stood := { row := decFloorsUptoRow, standIns := [], harness := (true, "3040425195c02a086e2b268355e88232b7ee9f980af2eb75597ffc2406adc7ee"), looks := false }, kinds := [], alts := [], laidByText := true, laidKinds := [.data, .data, .data], laidTests := true, laidLooks := .later }
def DecFloorsUptoCardSaid : Prop := Claim7.holds Tryd.pinned (.plain (OpenSpec.upto decFloorsSpec)) decFloorsUptoCard

/-- THE SECOND FORM's CARD OF 'cashbooklaw4.DecNear'. -/
def decNearUptoCard : Claim7 := { stood := { row := decNearUptoRow, standIns := [], harness := (true, "3040425195c02a086e2b268355e88232b7ee9f980af2eb75597ffc2406adc7ee"), looks := false }, kinds := [], alts := [], laidByText := true, laidKinds := [.data, .data, .data], laidTests := true, laidLooks := .later }
def DecNearUptoCardSaid : Prop := Claim7.holds Tryd.pinned (.plain (OpenSpec.upto decNearSpec)) decNearUptoCard

/-- THE SECOND FORM's CARD OF 'cashbooklaw4.DecOrder'. -/
def decOrderUptoCard : Claim7 := { stood := { row := decOrderUptoRow, standIns := [], harness := (true, "3040425195c02a086e2b268355e88232b7ee9f980af2eb75597ffc2406adc7ee"), looks := false }, kinds := [], alts := [], laidByText := true, laidKinds := [.data, .data, .data], laidTests := true, laidLooks := .later }
def DecOrderUptoCardSaid : Prop := Claim7.holds Tryd.pinned (.plain (OpenSpec.upto decOrderSpec)) decOrderUptoCard

/-- THE SECOND FORM's CARD OF 'cashbooklaw9.ValOrder'. -/
def valOrderUptoCard : Claim7 := { stood := { row := valOrderUptoRow, standIns := [], harness := (true, "3040425195c02a086e2b268355e88232b7ee9f980af2eb75597ffc2406adc7ee"), looks := false }, kinds := [], alts := [], laidByText := true, laidKinds := [.data, .data, .data, .data, .pinned], laidTests := true, laidLooks := .later }
def ValOrderUptoCardSaid : Prop := Claim7.holds Tryd.pinned (.plain (OpenSpec.upto valOrderSpec)) valOrderUptoCard

/-- THE SECOND FORM's CARD OF 'cashbooklaw9.ValBlank'. -/
def valBlankUptoCard : Claim7 := { stood := { row := valBlankUptoRow, standIns := [], harness := (true, "3040425195c02a086e2b268355e88232b7ee9f980af2eb75597ffc2406adc7ee"), looks := false }, kinds := [], alts := [], laidByText := true, laidKinds := [.data, .data, .data, .data, .pinned], laidTests := true, laidLooks := .later }
def ValBlankUptoCardSaid : Prop := Claim7.holds Tryd.pinned (.plain (OpenSpec.upto valBlankSpec)) valBlankUptoCard

/-- THE SECOND FORM's CARD OF 'cashbooklaw9.ValTruths'. -/
def valTruthsUptoCard : Claim7 := { stood := { row := valTruthsUptoRow, standIns := [], harness := (true, "3040425195c02a086e2b268355e88232b7ee9f980af2eb75597ffc2406adc7ee"), looks := false }, kinds := [], alts := [], laidByText := true, laidKinds := [.data, .data, .data, .data, .pinned], laidTests := true, laidLooks := .later }
def ValTruthsUptoCardSaid : Prop := Claim7.holds Tryd.pinned (.plain (OpenSpec.upto valTruthsSpec)) valTruthsUptoCard
end Rows
end Go.Proofs.YtmlbknmjgahcfaaDoor
