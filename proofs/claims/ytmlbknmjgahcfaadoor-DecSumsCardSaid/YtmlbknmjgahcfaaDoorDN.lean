/- known: what the laws look at first is so. -/
import Derived.Test.YtmlbknmjgahcfaaDoorDF
namespace Go.Proofs.YtmlbknmjgahcfaaDoor
open Go Go.Ev
def law4_knownF (_ : Unit) : Option Bool := some true
def law4_knownS : FSpec tb := ⟨[], [(0, .val 4)], law4_knownF⟩
def law4_knownG : List (Nat × FSpec tb) := [(17, dec_AddS), (19, dec_SubS), (21, dec_MulS), (23, dec_DivS), (29, dec_RoundS), (31, dec_FloorS), (42, dec_ParseS), (33, dec_IntS), (43, dec_TextS), (25, dec_CompareS), (27, dec_NormS), (13, dec_CheckS)]
theorem law4_known_eq : ∀ x, evFn Tryd.prog tb law4_knownG [] Tryd.f12 law4_knownS.ins law4_knownS.outs x = law4_knownS.f x := fun _ => by kernel_rfl
theorem law4_known_k : fnK Tryd.f12 law4_knownS.ins law4_knownS.outs = true := by kernel_rfl
theorem law4_known_sound : FnSound Tryd.prog tb 12 law4_knownS := fn_ev mixed Tryd.func12 law4_known_k (.cons dec_Add_sound (.cons dec_Sub_sound (.cons dec_Mul_sound (.cons dec_Div_sound (.cons dec_Round_sound (.cons dec_Floor_sound (.cons dec_Parse_sound (.cons dec_Int_sound (.cons dec_Text_sound (.cons dec_Compare_sound (.cons dec_Norm_sound (.cons dec_Check_sound .nil)))))))))))) rfl law4_known_eq
end Go.Proofs.YtmlbknmjgahcfaaDoor
