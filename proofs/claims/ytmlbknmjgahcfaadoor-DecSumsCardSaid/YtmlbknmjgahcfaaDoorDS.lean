/- A law of the decimals: what its function computes. (by gen.py) -/
import Derived.Test.YtmlbknmjgahcfaaDoorDG
import Derived.Test.YtmlbknmjgahcfaaDoorDT
namespace Go.Proofs.YtmlbknmjgahcfaaDoor
open Go Go.Ev
set_option linter.unusedVariables false

/-! ### law4_DecSums -/
def law4_DecSums_b1J (x : Dec × Int × Dec × Int) : Option (Bool) :=
  brn (!decide (x.2.fst = x.2.2.snd)) (some true) (obnd (law4_OfF x.fst) fun y => some (bif decide (y.M = x.2.2.fst.M) && decide (y.S = x.2.2.fst.S) then false else true))
def law4_DecSums_b1C : CutSpec tb := ⟨80, [(5, .ro 23), (6, .val 25), (7, .ro 28), (8, .val 3)], [(.normal, [(43, .val 4)])], [35, 36, 37, 38, 39, 40, 41, 42, 43], law4_DecSums_b1J⟩
theorem law4_DecSums_b1_eq : ∀ x, evBlk Tryd.prog tb [(12, law4_knownS), (13, dec_CheckS), (15, law4_OfS), (14, ref7_CheckDecS), (16, law4_goodS), (17, dec_AddS), (18, ref7_AddDecS), (19, dec_SubS), (20, ref7_SubDecS), (21, dec_MulS), (22, ref7_MulDecS), (23, dec_DivS), (24, ref7_DivDecS), (25, dec_CompareS), (26, ref7_CompareDecS)] [] (codeAt 80 Tryd.f3) law4_DecSums_b1C.ins law4_DecSums_b1C.outs x = law4_DecSums_b1C.J x := fun x => by kernel_rfl
theorem law4_DecSums_b1_k : cutB Tryd.f3.ntmps law4_DecSums_b1C (codeAt 80 Tryd.f3) = true := by kernel_rfl
theorem law4_DecSums_b1_in : cutsOf ([] : List (CutSpec tb)) (codeAt 80 Tryd.f3) = [] := by kernel_rfl
theorem law4_DecSums_b1_cut : CutSound Tryd.prog tb Tryd.f3.ntmps (codeAt 80 Tryd.f3) law4_DecSums_b1C := blk_ev mixed law4_DecSums_b1_k (.cons law4_known_sound (.cons dec_Check_sound (.cons law4_Of_sound (.cons ref7_CheckDec_sound (.cons law4_good_sound (.cons dec_Add_sound (.cons ref7_AddDec_sound (.cons dec_Sub_sound (.cons ref7_SubDec_sound (.cons dec_Mul_sound (.cons ref7_MulDec_sound (.cons dec_Div_sound (.cons ref7_DivDec_sound (.cons dec_Compare_sound (.cons ref7_CompareDec_sound .nil))))))))))))))) rfl law4_DecSums_b1_in .nil law4_DecSums_b1_eq
def law4_DecSums_b2J (x : Dec × Int × Dec × Int) : Option (Bool) :=
  brn (!decide (x.2.fst = x.2.2.snd)) (some true) (obnd (law4_OfF x.fst) fun y => some (bif decide (y.M = x.2.2.fst.M) && decide (y.S = x.2.2.fst.S) then false else true))
def law4_DecSums_b2C : CutSpec tb := ⟨112, [(5, .ro 23), (6, .val 25), (7, .ro 28), (8, .val 3)], [(.normal, [(66, .val 4)])], [58, 59, 60, 61, 62, 63, 64, 65, 66], law4_DecSums_b2J⟩
theorem law4_DecSums_b2_eq : ∀ x, evBlk Tryd.prog tb [(12, law4_knownS), (13, dec_CheckS), (15, law4_OfS), (14, ref7_CheckDecS), (16, law4_goodS), (17, dec_AddS), (18, ref7_AddDecS), (19, dec_SubS), (20, ref7_SubDecS), (21, dec_MulS), (22, ref7_MulDecS), (23, dec_DivS), (24, ref7_DivDecS), (25, dec_CompareS), (26, ref7_CompareDecS)] [] (codeAt 112 Tryd.f3) law4_DecSums_b2C.ins law4_DecSums_b2C.outs x = law4_DecSums_b2C.J x := fun x => by kernel_rfl
theorem law4_DecSums_b2_k : cutB Tryd.f3.ntmps law4_DecSums_b2C (codeAt 112 Tryd.f3) = true := by kernel_rfl
theorem law4_DecSums_b2_in : cutsOf ([] : List (CutSpec tb)) (codeAt 112 Tryd.f3) = [] := by kernel_rfl
theorem law4_DecSums_b2_cut : CutSound Tryd.prog tb Tryd.f3.ntmps (codeAt 112 Tryd.f3) law4_DecSums_b2C := blk_ev mixed law4_DecSums_b2_k (.cons law4_known_sound (.cons dec_Check_sound (.cons law4_Of_sound (.cons ref7_CheckDec_sound (.cons law4_good_sound (.cons dec_Add_sound (.cons ref7_AddDec_sound (.cons dec_Sub_sound (.cons ref7_SubDec_sound (.cons dec_Mul_sound (.cons ref7_MulDec_sound (.cons dec_Div_sound (.cons ref7_DivDec_sound (.cons dec_Compare_sound (.cons ref7_CompareDec_sound .nil))))))))))))))) rfl law4_DecSums_b2_in .nil law4_DecSums_b2_eq
def law4_DecSumsF (x : Dec × Dec) : Option (Bool) :=
  obnd (law4_knownF ()) fun y =>
    brn (!y) (some false)
      (obnd (dec_CheckF x.fst) fun y =>
        obnd (law4_OfF x.fst) fun y_1 =>
          obnd (ref7_CheckDecF y_1) fun y_2 =>
            brn (!decide (y = y_2)) (some false)
              (obnd (law4_goodF x) fun y =>
                brn (!y) (some true)
                  (obnd (dec_AddF x) fun y =>
                    obnd (law4_OfF x.fst) fun y_3 =>
                      obnd (law4_OfF x.snd) fun y_4 =>
                        obnd (ref7_AddDecF (y_3, y_4)) fun y_5 =>
                          obnd (law4_DecSums_b1J (y.fst, y.snd, y_5)) fun y =>
                            brn y (some false)
                              (obnd (dec_SubF x) fun y =>
                                obnd (law4_OfF x.fst) fun y_6 =>
                                  obnd (law4_OfF x.snd) fun y_7 =>
                                    obnd (ref7_SubDecF (y_6, y_7)) fun y_8 =>
                                      obnd (law4_DecSums_b2J (y.fst, y.snd, y_8)) fun y =>
                                        brn y (some false)
                                          (obnd (dec_MulF x) fun y =>
                                            obnd (law4_OfF x.fst) fun y_9 =>
                                              obnd (law4_OfF x.snd) fun y_10 =>
                                                obnd (ref7_MulDecF (y_9, y_10)) fun y_11 =>
                                                  brn (!decide (y.snd = y_11.snd)) (some false)
                                                    (obnd (law4_OfF y.fst) fun y =>
                                                      brn
                                                        (bif true then !(decide (y.M = y_11.fst.M) && decide (y.S = y_11.fst.S))
                                                        else decide (y.M = y_11.fst.M) && decide (y.S = y_11.fst.S))
                                                        (some false)
                                                        (obnd (dec_DivF x) fun y =>
                                                          obnd (law4_OfF x.fst) fun y_12 =>
                                                            obnd (law4_OfF x.snd) fun y_13 =>
                                                              obnd (ref7_DivDecF (y_12, y_13)) fun y_14 =>
                                                                brn (decide (y.snd = y_14.snd))
                                                                  (obnd (law4_OfF y.fst) fun y =>
                                                                    brn
                                                                      (bif false then !(decide (y.M = y_14.fst.M) && decide (y.S = y_14.fst.S))
                                                                      else decide (y.M = y_14.fst.M) && decide (y.S = y_14.fst.S))
                                                                      (obnd (dec_CompareF x) fun y =>
                                                                        obnd (law4_OfF x.fst) fun y_15 =>
                                                                          obnd (law4_OfF x.snd) fun y_16 => obnd (ref7_CompareDecF (y_15, y_16)) fun y_17 => some (decide (y = y_17)))
                                                                      (some false))
                                                                  (some false))))))))
def law4_DecSumsS : FSpec tb := ⟨[(0, .val 23), (1, .val 23)], [(0, .val 4)], law4_DecSumsF⟩
theorem law4_DecSums_eq : ∀ x, evFn Tryd.prog tb [(12, law4_knownS), (13, dec_CheckS), (15, law4_OfS), (14, ref7_CheckDecS), (16, law4_goodS), (17, dec_AddS), (18, ref7_AddDecS), (19, dec_SubS), (20, ref7_SubDecS), (21, dec_MulS), (22, ref7_MulDecS), (23, dec_DivS), (24, ref7_DivDecS), (25, dec_CompareS), (26, ref7_CompareDecS)] [law4_DecSums_b1C, law4_DecSums_b2C] Tryd.f3 law4_DecSumsS.ins law4_DecSumsS.outs x = law4_DecSumsS.f x := fun x => by kernel_rfl
theorem law4_DecSums_k : fnK Tryd.f3 law4_DecSumsS.ins law4_DecSumsS.outs = true := by kernel_rfl
theorem law4_DecSums_in : cutsOf ([law4_DecSums_b1C, law4_DecSums_b2C] : List (CutSpec tb)) (bodyOf Tryd.f3) = [(80, codeAt 80 Tryd.f3), (112, codeAt 112 Tryd.f3)] := by kernel_rfl
theorem law4_DecSums_sound : FnSound Tryd.prog tb 3 law4_DecSumsS := fn_cut mixed Tryd.func3 law4_DecSums_k (.cons law4_known_sound (.cons dec_Check_sound (.cons law4_Of_sound (.cons ref7_CheckDec_sound (.cons law4_good_sound (.cons dec_Add_sound (.cons ref7_AddDec_sound (.cons dec_Sub_sound (.cons ref7_SubDec_sound (.cons dec_Mul_sound (.cons ref7_MulDec_sound (.cons dec_Div_sound (.cons ref7_DivDec_sound (.cons dec_Compare_sound (.cons ref7_CompareDec_sound .nil))))))))))))))) rfl law4_DecSums_in (.cons rfl law4_DecSums_b1_cut rfl (.cons rfl law4_DecSums_b2_cut rfl .nil)) law4_DecSums_eq
end Go.Proofs.YtmlbknmjgahcfaaDoor
