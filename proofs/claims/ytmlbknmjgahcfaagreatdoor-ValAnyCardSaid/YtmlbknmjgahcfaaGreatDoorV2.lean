/- known: what the laws look at first is so. -/
import Derived.Test.YtmlbknmjgahcfaaGreatDoorV1
namespace Go.Proofs.YtmlbknmjgahcfaaGreatDoor
open Go Go.Ev
def law9_knownF (_ : Unit) : Option Bool := some true
def law9_knownS : FSpec tb := ⟨[], [(0, .val 4)], law9_knownF⟩
def law9_knownG : List (Nat × FSpec tb) := [(20, law9_SS), (9, val_NumberS), (12, val_WordsS), (21, val_FaultS), (14, val_TruthS), (22, dec_IntS), (16, val_TextS), (23, law9_NS), (18, val_CompareS), (6, val_CheckS), (8, val_SameS)]
theorem law9_known_eq : ∀ x, evFn Tryz.prog tb law9_knownG [] Tryz.f4 law9_knownS.ins law9_knownS.outs x = law9_knownS.f x := fun _ => by kernel_rfl
theorem law9_known_k : fnK Tryz.f4 law9_knownS.ins law9_knownS.outs = true := by kernel_rfl
theorem law9_known_sound : FnSound Tryz.prog tb 4 law9_knownS := fn_ev mixed Tryz.func4 law9_known_k (.cons law9_S_sound (.cons val_Number_sound (.cons val_Words_sound (.cons val_Fault_sound (.cons val_Truth_sound (.cons dec_Int_sound (.cons val_Text_sound (.cons law9_N_sound (.cons val_Compare_sound (.cons val_Check_sound (.cons val_Same_sound .nil))))))))))) rfl law9_known_eq
end Go.Proofs.YtmlbknmjgahcfaaGreatDoor
