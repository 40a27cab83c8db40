/- The law on any two values: what it computes, and that it does. (by gen.py) -/
import Derived.Test.YtmlbknmjgahcfaaGreatDoorV2
namespace Go.Proofs.YtmlbknmjgahcfaaGreatDoor
open Go Go.Ev
set_option linter.unusedVariables false


/-! ### law9_ValAny -/
def law9_ValAny_b1J (x : Val × Val) : Option (Bool) :=
  brn (decide (3000 < (↑x.fst.S.length : Int))) (some true) (some (decide (3000 < (↑x.snd.S.length : Int))))
def law9_ValAny_b1C : CutSpec tb := ⟨32, [(2, .ro 25), (3, .ro 25)], [(.normal, [(30, .val 4)])], [21, 22, 23, 24, 25, 26, 27, 28, 29, 30], law9_ValAny_b1J⟩
theorem law9_ValAny_b1_eq : ∀ x, evBlk Tryz.prog tb [(4, law9_knownS), (5, law9_OfS), (6, val_CheckS), (7, ref13_CheckValS), (8, val_SameS), (9, val_NumberS), (10, ref13_NumberS), (11, law4_OfS), (12, val_WordsS), (13, ref13_WordsS), (14, val_TruthS), (15, ref13_TruthS), (16, val_TextS), (17, ref13_ValTextS), (18, val_CompareS), (19, ref13_CompareValsS)] [] (codeAt 32 Tryz.f3) law9_ValAny_b1C.ins law9_ValAny_b1C.outs x = law9_ValAny_b1C.J x := fun x => by kernel_rfl
theorem law9_ValAny_b1_k : cutB Tryz.f3.ntmps law9_ValAny_b1C (codeAt 32 Tryz.f3) = true := by kernel_rfl
theorem law9_ValAny_b1_in : cutsOf ([] : List (CutSpec tb)) (codeAt 32 Tryz.f3) = [] := by kernel_rfl
theorem law9_ValAny_b1_cut : CutSound Tryz.prog tb Tryz.f3.ntmps (codeAt 32 Tryz.f3) law9_ValAny_b1C := blk_ev mixed law9_ValAny_b1_k (.cons law9_known_sound (.cons law9_Of_sound (.cons val_Check_sound (.cons ref13_CheckVal_sound (.cons val_Same_sound (.cons val_Number_sound (.cons ref13_Number_sound (.cons law4_Of_sound (.cons val_Words_sound (.cons ref13_Words_sound (.cons val_Truth_sound (.cons ref13_Truth_sound (.cons val_Text_sound (.cons ref13_ValText_sound (.cons val_Compare_sound (.cons ref13_CompareVals_sound .nil)))))))))))))))) rfl law9_ValAny_b1_in .nil law9_ValAny_b1_eq
def law9_ValAny_b2J (x : Val × Val × Val × Val) : Option (Bool) :=
  obnd (val_CheckF x.fst) fun y =>
    obnd (ref13_CheckValF x.2.2.fst) fun y_1 =>
      brn (!decide (y = y_1)) (some true)
        (obnd (val_SameF (x.fst, x.2.fst)) fun y =>
          some
            (bif
                decide
                  (y =
                    bif false then
                      !(decide (x.2.2.fst.Kind = x.2.2.snd.Kind) &&
                          (decide (x.2.2.fst.N.M = x.2.2.snd.N.M) &&
                            (decide (x.2.2.fst.N.S = x.2.2.snd.N.S) &&
                              (decide (x.2.2.fst.S = x.2.2.snd.S) && (decide (x.2.2.fst.B = x.2.2.snd.B) && decide (x.2.2.fst.E = x.2.2.snd.E))))))
                    else
                      decide (x.2.2.fst.Kind = x.2.2.snd.Kind) &&
                        (decide (x.2.2.fst.N.M = x.2.2.snd.N.M) &&
                          (decide (x.2.2.fst.N.S = x.2.2.snd.N.S) &&
                            (decide (x.2.2.fst.S = x.2.2.snd.S) && (decide (x.2.2.fst.B = x.2.2.snd.B) && decide (x.2.2.fst.E = x.2.2.snd.E)))))) then
              false
            else true))
def law9_ValAny_b2C : CutSpec tb := ⟨56, [(2, .ro 25), (3, .ro 25), (5, .ro 29), (6, .ro 29)], [(.normal, [(48, .val 4)])], [35, 36, 37, 38, 39, 40, 41, 42, 43, 44, 45, 46, 47, 48], law9_ValAny_b2J⟩
theorem law9_ValAny_b2_eq : ∀ x, evBlk Tryz.prog tb [(4, law9_knownS), (5, law9_OfS), (6, val_CheckS), (7, ref13_CheckValS), (8, val_SameS), (9, val_NumberS), (10, ref13_NumberS), (11, law4_OfS), (12, val_WordsS), (13, ref13_WordsS), (14, val_TruthS), (15, ref13_TruthS), (16, val_TextS), (17, ref13_ValTextS), (18, val_CompareS), (19, ref13_CompareValsS)] [] (codeAt 56 Tryz.f3) law9_ValAny_b2C.ins law9_ValAny_b2C.outs x = law9_ValAny_b2C.J x := fun x => by kernel_rfl
theorem law9_ValAny_b2_k : cutB Tryz.f3.ntmps law9_ValAny_b2C (codeAt 56 Tryz.f3) = true := by kernel_rfl
theorem law9_ValAny_b2_in : cutsOf ([] : List (CutSpec tb)) (codeAt 56 Tryz.f3) = [] := by kernel_rfl
theorem law9_ValAny_b2_cut : CutSound Tryz.prog tb Tryz.f3.ntmps (codeAt 56 Tryz.f3) law9_ValAny_b2C := blk_ev mixed law9_ValAny_b2_k (.cons law9_known_sound (.cons law9_Of_sound (.cons val_Check_sound (.cons ref13_CheckVal_sound (.cons val_Same_sound (.cons val_Number_sound (.cons ref13_Number_sound (.cons law4_Of_sound (.cons val_Words_sound (.cons ref13_Words_sound (.cons val_Truth_sound (.cons ref13_Truth_sound (.cons val_Text_sound (.cons ref13_ValText_sound (.cons val_Compare_sound (.cons ref13_CompareVals_sound .nil)))))))))))))))) rfl law9_ValAny_b2_in .nil law9_ValAny_b2_eq
def law9_ValAny_b3J (x : Val × Val) : Option (Bool) :=
  obnd (ref13_CheckValF x.fst) fun y => brn (!decide (y = 0)) (some true) (obnd (ref13_CheckValF x.snd) fun y => some (bif decide (y = 0) then false else true))
def law9_ValAny_b3C : CutSpec tb := ⟨72, [(5, .ro 29), (6, .ro 29)], [(.normal, [(56, .val 4)])], [49, 50, 51, 52, 53, 54, 55, 56], law9_ValAny_b3J⟩
theorem law9_ValAny_b3_eq : ∀ x, evBlk Tryz.prog tb [(4, law9_knownS), (5, law9_OfS), (6, val_CheckS), (7, ref13_CheckValS), (8, val_SameS), (9, val_NumberS), (10, ref13_NumberS), (11, law4_OfS), (12, val_WordsS), (13, ref13_WordsS), (14, val_TruthS), (15, ref13_TruthS), (16, val_TextS), (17, ref13_ValTextS), (18, val_CompareS), (19, ref13_CompareValsS)] [] (codeAt 72 Tryz.f3) law9_ValAny_b3C.ins law9_ValAny_b3C.outs x = law9_ValAny_b3C.J x := fun x => by kernel_rfl
theorem law9_ValAny_b3_k : cutB Tryz.f3.ntmps law9_ValAny_b3C (codeAt 72 Tryz.f3) = true := by kernel_rfl
theorem law9_ValAny_b3_in : cutsOf ([] : List (CutSpec tb)) (codeAt 72 Tryz.f3) = [] := by kernel_rfl
theorem law9_ValAny_b3_cut : CutSound Tryz.prog tb Tryz.f3.ntmps (codeAt 72 Tryz.f3) law9_ValAny_b3C := blk_ev mixed law9_ValAny_b3_k (.cons law9_known_sound (.cons law9_Of_sound (.cons val_Check_sound (.cons ref13_CheckVal_sound (.cons val_Same_sound (.cons val_Number_sound (.cons ref13_Number_sound (.cons law4_Of_sound (.cons val_Words_sound (.cons ref13_Words_sound (.cons val_Truth_sound (.cons ref13_Truth_sound (.cons val_Text_sound (.cons ref13_ValText_sound (.cons val_Compare_sound (.cons ref13_CompareVals_sound .nil)))))))))))))))) rfl law9_ValAny_b3_in .nil law9_ValAny_b3_eq
def law9_ValAny_b4J (x : Dec × Val × Bool × Dec × Val × Bool) : Option (Bool) :=
  obnd (law4_OfF x.fst) fun y =>
    brn (bif true then !(decide (y.M = x.2.2.2.fst.M) && decide (y.S = x.2.2.2.fst.S)) else decide (y.M = x.2.2.2.fst.M) && decide (y.S = x.2.2.2.fst.S)) (some true)
      (obnd (law9_OfF x.2.fst) fun y =>
        brn
          (bif true then
            !(decide (y.Kind = x.2.2.2.2.fst.Kind) &&
                (decide (y.N.M = x.2.2.2.2.fst.N.M) &&
                  (decide (y.N.S = x.2.2.2.2.fst.N.S) && (decide (y.S = x.2.2.2.2.fst.S) && (decide (y.B = x.2.2.2.2.fst.B) && decide (y.E = x.2.2.2.2.fst.E))))))
          else
            decide (y.Kind = x.2.2.2.2.fst.Kind) &&
              (decide (y.N.M = x.2.2.2.2.fst.N.M) &&
                (decide (y.N.S = x.2.2.2.2.fst.N.S) && (decide (y.S = x.2.2.2.2.fst.S) && (decide (y.B = x.2.2.2.2.fst.B) && decide (y.E = x.2.2.2.2.fst.E))))))
          (some true) (some (bif decide (x.2.2.fst = x.2.2.2.2.snd) then false else true)))
def law9_ValAny_b4C : CutSpec tb := ⟨104, [(7, .ro 23), (8, .ro 25), (9, .val 4), (10, .ro 27), (11, .ro 29), (12, .val 4)], [(.normal, [(83, .val 4)])], [69, 70, 71, 72, 73, 74, 75, 76, 77, 78, 79, 80, 81, 82, 83], law9_ValAny_b4J⟩
theorem law9_ValAny_b4_eq : ∀ x, evBlk Tryz.prog tb [(4, law9_knownS), (5, law9_OfS), (6, val_CheckS), (7, ref13_CheckValS), (8, val_SameS), (9, val_NumberS), (10, ref13_NumberS), (11, law4_OfS), (12, val_WordsS), (13, ref13_WordsS), (14, val_TruthS), (15, ref13_TruthS), (16, val_TextS), (17, ref13_ValTextS), (18, val_CompareS), (19, ref13_CompareValsS)] [] (codeAt 104 Tryz.f3) law9_ValAny_b4C.ins law9_ValAny_b4C.outs x = law9_ValAny_b4C.J x := fun x => by kernel_rfl
theorem law9_ValAny_b4_k : cutB Tryz.f3.ntmps law9_ValAny_b4C (codeAt 104 Tryz.f3) = true := by kernel_rfl
theorem law9_ValAny_b4_in : cutsOf ([] : List (CutSpec tb)) (codeAt 104 Tryz.f3) = [] := by kernel_rfl
theorem law9_ValAny_b4_cut : CutSound Tryz.prog tb Tryz.f3.ntmps (codeAt 104 Tryz.f3) law9_ValAny_b4C := blk_ev mixed law9_ValAny_b4_k (.cons law9_known_sound (.cons law9_Of_sound (.cons val_Check_sound (.cons ref13_CheckVal_sound (.cons val_Same_sound (.cons val_Number_sound (.cons ref13_Number_sound (.cons law4_Of_sound (.cons val_Words_sound (.cons ref13_Words_sound (.cons val_Truth_sound (.cons ref13_Truth_sound (.cons val_Text_sound (.cons ref13_ValText_sound (.cons val_Compare_sound (.cons ref13_CompareVals_sound .nil)))))))))))))))) rfl law9_ValAny_b4_in .nil law9_ValAny_b4_eq
def law9_ValAny_b5J (x : Val × Bool × Val × List UInt8 × List UInt8 × Bool) : Option (Bool) :=
  brn (!decide (x.2.2.2.fst = x.2.2.2.2.fst)) (some true)
    (obnd (law9_OfF x.fst) fun y =>
      brn
        (bif true then
          !(decide (y.Kind = x.2.2.fst.Kind) &&
              (decide (y.N.M = x.2.2.fst.N.M) && (decide (y.N.S = x.2.2.fst.N.S) && (decide (y.S = x.2.2.fst.S) && (decide (y.B = x.2.2.fst.B) && decide (y.E = x.2.2.fst.E))))))
        else
          decide (y.Kind = x.2.2.fst.Kind) &&
            (decide (y.N.M = x.2.2.fst.N.M) && (decide (y.N.S = x.2.2.fst.N.S) && (decide (y.S = x.2.2.fst.S) && (decide (y.B = x.2.2.fst.B) && decide (y.E = x.2.2.fst.E))))))
        (some true) (some (bif decide (x.2.fst = x.2.2.2.2.snd) then false else true)))
def law9_ValAny_b5C : CutSpec tb := ⟨136, [(8, .ro 25), (9, .val 4), (11, .ro 29), (13, .val 9), (14, .val 9), (15, .val 4)], [(.normal, [(109, .val 4)])], [96, 97, 98, 99, 100, 101, 102, 103, 104, 105, 106, 107, 108, 109], law9_ValAny_b5J⟩
theorem law9_ValAny_b5_eq : ∀ x, evBlk Tryz.prog tb [(4, law9_knownS), (5, law9_OfS), (6, val_CheckS), (7, ref13_CheckValS), (8, val_SameS), (9, val_NumberS), (10, ref13_NumberS), (11, law4_OfS), (12, val_WordsS), (13, ref13_WordsS), (14, val_TruthS), (15, ref13_TruthS), (16, val_TextS), (17, ref13_ValTextS), (18, val_CompareS), (19, ref13_CompareValsS)] [] (codeAt 136 Tryz.f3) law9_ValAny_b5C.ins law9_ValAny_b5C.outs x = law9_ValAny_b5C.J x := fun x => by kernel_rfl
theorem law9_ValAny_b5_k : cutB Tryz.f3.ntmps law9_ValAny_b5C (codeAt 136 Tryz.f3) = true := by kernel_rfl
theorem law9_ValAny_b5_in : cutsOf ([] : List (CutSpec tb)) (codeAt 136 Tryz.f3) = [] := by kernel_rfl
theorem law9_ValAny_b5_cut : CutSound Tryz.prog tb Tryz.f3.ntmps (codeAt 136 Tryz.f3) law9_ValAny_b5C := blk_ev mixed law9_ValAny_b5_k (.cons law9_known_sound (.cons law9_Of_sound (.cons val_Check_sound (.cons ref13_CheckVal_sound (.cons val_Same_sound (.cons val_Number_sound (.cons ref13_Number_sound (.cons law4_Of_sound (.cons val_Words_sound (.cons ref13_Words_sound (.cons val_Truth_sound (.cons ref13_Truth_sound (.cons val_Text_sound (.cons ref13_ValText_sound (.cons val_Compare_sound (.cons ref13_CompareVals_sound .nil)))))))))))))))) rfl law9_ValAny_b5_in .nil law9_ValAny_b5_eq
def law9_ValAnyF (x : Val × Val) : Option (Bool) :=
  obnd (law9_knownF ()) fun y =>
    brn (!y) (some false)
      (obnd (law9_ValAny_b1J x) fun y =>
        brn y (some true)
          (obnd (law9_OfF x.fst) fun y =>
            obnd (law9_OfF x.snd) fun y_1 =>
              obnd (law9_ValAny_b2J (x.fst, x.snd, y, y_1)) fun y_2 =>
                brn y_2 (some false)
                  (obnd (law9_ValAny_b3J (y, y_1)) fun y_3 =>
                    brn y_3 (some true)
                      (obnd (val_NumberF x.fst) fun y_4 =>
                        obnd (ref13_NumberF y) fun y_5 =>
                          obnd (law9_ValAny_b4J (y_4.fst, y_4.2.fst, y_4.2.snd, y_5.fst, y_5.2)) fun y_6 =>
                            brn y_6 (some false)
                              (obnd (val_WordsF x.fst) fun y_7 =>
                                obnd (ref13_WordsF y) fun y_8 =>
                                  obnd (law9_ValAny_b5J (y_7.2.fst, y_7.2.snd, y_8.2.fst, y_7.fst, y_8.fst, y_8.2.snd)) fun y_9 =>
                                    brn y_9 (some false)
                                      (obnd (val_TruthF x.fst) fun y_10 =>
                                        obnd (ref13_TruthF y) fun y_11 =>
                                          brn (!decide (y_10.fst = y_11.fst)) (some false)
                                            (obnd (law9_OfF y_10.2.fst) fun y_12 =>
                                              brn
                                                (bif true then
                                                  !(decide (y_12.Kind = y_11.2.fst.Kind) &&
                                                      (decide (y_12.N.M = y_11.2.fst.N.M) &&
                                                        (decide (y_12.N.S = y_11.2.fst.N.S) &&
                                                          (decide (y_12.S = y_11.2.fst.S) && (decide (y_12.B = y_11.2.fst.B) && decide (y_12.E = y_11.2.fst.E))))))
                                                else
                                                  decide (y_12.Kind = y_11.2.fst.Kind) &&
                                                    (decide (y_12.N.M = y_11.2.fst.N.M) &&
                                                      (decide (y_12.N.S = y_11.2.fst.N.S) &&
                                                        (decide (y_12.S = y_11.2.fst.S) && (decide (y_12.B = y_11.2.fst.B) && decide (y_12.E = y_11.2.fst.E))))))
                                                (some false)
                                                (brn (!decide (y_10.2.snd = y_11.2.snd)) (some false)
                                                  (obnd (val_TextF x.fst) fun y_13 =>
                                                    obnd (ref13_ValTextF y) fun y_14 =>
                                                      brn (decide (y_13 = y_14))
                                                        (obnd (val_CompareF x) fun y_15 => obnd (ref13_CompareValsF (y, y_1)) fun y => some (decide (y_15 = y))) (some false))))))))))
def law9_ValAnyS : FSpec tb := ⟨[(0, .val 25), (1, .val 25)], [(0, .val 4)], law9_ValAnyF⟩
theorem law9_ValAny_eq : ∀ x, evFn Tryz.prog tb [(4, law9_knownS), (5, law9_OfS), (6, val_CheckS), (7, ref13_CheckValS), (8, val_SameS), (9, val_NumberS), (10, ref13_NumberS), (11, law4_OfS), (12, val_WordsS), (13, ref13_WordsS), (14, val_TruthS), (15, ref13_TruthS), (16, val_TextS), (17, ref13_ValTextS), (18, val_CompareS), (19, ref13_CompareValsS)] [law9_ValAny_b1C, law9_ValAny_b2C, law9_ValAny_b3C, law9_ValAny_b4C, law9_ValAny_b5C] Tryz.f3 law9_ValAnyS.ins law9_ValAnyS.outs x = law9_ValAnyS.f x := fun x => by kernel_rfl
theorem law9_ValAny_k : fnK Tryz.f3 law9_ValAnyS.ins law9_ValAnyS.outs = true := by kernel_rfl
theorem law9_ValAny_in : cutsOf ([law9_ValAny_b1C, law9_ValAny_b2C, law9_ValAny_b3C, law9_ValAny_b4C, law9_ValAny_b5C] : List (CutSpec tb)) (bodyOf Tryz.f3) = [(32, codeAt 32 Tryz.f3), (56, codeAt 56 Tryz.f3), (72, codeAt 72 Tryz.f3), (104, codeAt 104 Tryz.f3), (136, codeAt 136 Tryz.f3)] := by kernel_rfl
theorem law9_ValAny_sound : FnSound Tryz.prog tb 3 law9_ValAnyS := fn_cut mixed Tryz.func3 law9_ValAny_k (.cons law9_known_sound (.cons law9_Of_sound (.cons val_Check_sound (.cons ref13_CheckVal_sound (.cons val_Same_sound (.cons val_Number_sound (.cons ref13_Number_sound (.cons law4_Of_sound (.cons val_Words_sound (.cons ref13_Words_sound (.cons val_Truth_sound (.cons ref13_Truth_sound (.cons val_Text_sound (.cons ref13_ValText_sound (.cons val_Compare_sound (.cons ref13_CompareVals_sound .nil)))))))))))))))) rfl law9_ValAny_in (.cons rfl law9_ValAny_b1_cut rfl (.cons rfl law9_ValAny_b2_cut rfl (.cons rfl law9_ValAny_b3_cut rfl (.cons rfl law9_ValAny_b4_cut rfl (.cons rfl law9_ValAny_b5_cut rfl .nil))))) law9_ValAny_eq
end Go.Proofs.YtmlbknmjgahcfaaGreatDoor
