/- known: what the laws look at first is so. -/
import Derived.Test.YtmlbknmjgahcfaaDoorV1
namespace Go.Proofs.YtmlbknmjgahcfaaDoor
open Go Go.Ev
def law9_knownF (_ : Unit) : Option Bool := some true
def law9_knownS : FSpec tb := ⟨[], [(0, .val 4)], law9_knownF⟩
def law9_knownG : List (Nat × FSpec tb) := [(41, law9_SS), (65, val_NumberS), (39, val_WordsS), (40, val_FaultS), (38, val_TruthS), (33, dec_IntS), (66, val_TextS), (67, law9_NS), (36, val_CompareS), (35, val_CheckS), (37, val_SameS)]
theorem law9_known_eq : ∀ x, evFn Tryd.prog tb law9_knownG [] Tryd.f34 law9_knownS.ins law9_knownS.outs x = law9_knownS.f x := fun _ => by kernel_rfl
theorem law9_known_k : fnK Tryd.f34 law9_knownS.ins law9_knownS.outs = true := by kernel_rfl
theorem law9_known_sound : FnSound Tryd.prog tb 34 law9_knownS := fn_ev mixed Tryd.func34 law9_known_k (.cons law9_S_sound (.cons val_Number_sound (.cons val_Words_sound (.cons val_Fault_sound (.cons val_Truth_sound (.cons dec_Int_sound (.cons val_Text_sound (.cons law9_N_sound (.cons val_Compare_sound (.cons val_Check_sound (.cons val_Same_sound .nil))))))))))) rfl law9_known_eq
end Go.Proofs.YtmlbknmjgahcfaaDoor
