/- The laws on decimals: what each computes, and that it does. (by gen.py) -/
import Derived.Test.YtmlbknmjgahcfaaDoorDN
namespace Go.Proofs.YtmlbknmjgahcfaaDoor
open Go Go.Ev
set_option linter.unusedVariables false

/-! ### law4_DecLaws -/
def law4_DecLaws_b1J (x : Dec × Int × Dec × Int) : Option (Bool) :=
  brn (!decide (IntKind.i64.wrap (x.2.fst + x.2.2.snd) = 0)) (some true) (some (bif decide (x.fst.M = x.2.2.fst.M) && decide (x.fst.S = x.2.2.fst.S) then false else true))
def law4_DecLaws_b1C : CutSpec tb := ⟨56, [(14, .ro 23), (15, .val 25), (16, .ro 23), (17, .val 25)], [(.normal, [(67, .val 4)])], [59, 60, 61, 62, 63, 64, 65, 66, 67], law4_DecLaws_b1J⟩
theorem law4_DecLaws_b1_eq : ∀ x, evBlk Tryd.prog tb [(12, law4_knownS), (27, dec_NormS), (33, dec_IntS), (17, dec_AddS), (19, dec_SubS), (25, dec_CompareS), (21, dec_MulS), (23, dec_DivS)] [] (codeAt 56 Tryd.f5) law4_DecLaws_b1C.ins law4_DecLaws_b1C.outs x = law4_DecLaws_b1C.J x := fun x => by kernel_rfl
theorem law4_DecLaws_b1_k : cutB Tryd.f5.ntmps law4_DecLaws_b1C (codeAt 56 Tryd.f5) = true := by kernel_rfl
theorem law4_DecLaws_b1_in : cutsOf ([] : List (CutSpec tb)) (codeAt 56 Tryd.f5) = [] := by kernel_rfl
theorem law4_DecLaws_b1_cut : CutSound Tryd.prog tb Tryd.f5.ntmps (codeAt 56 Tryd.f5) law4_DecLaws_b1C := blk_ev mixed law4_DecLaws_b1_k (.cons law4_known_sound (.cons dec_Norm_sound (.cons dec_Int_sound (.cons dec_Add_sound (.cons dec_Sub_sound (.cons dec_Compare_sound (.cons dec_Mul_sound (.cons dec_Div_sound .nil)))))))) rfl law4_DecLaws_b1_in .nil law4_DecLaws_b1_eq
def law4_DecLaws_b2J (x : Dec × Dec × Dec × Int × Dec × Int) : Option (Bool) :=
  brn (!decide (IntKind.i64.wrap (x.2.2.2.fst + x.2.2.2.2.snd) = 0)) (some true)
    (brn (bif true then !(decide (x.2.2.fst.M = x.fst.M) && decide (x.2.2.fst.S = x.fst.S)) else decide (x.2.2.fst.M = x.fst.M) && decide (x.2.2.fst.S = x.fst.S)) (some true)
      (obnd (dec_CompareF (x.fst, x.2.fst)) fun y =>
        obnd (dec_IntF 0) fun y_1 =>
          obnd (dec_CompareF (x.2.2.2.2.fst, y_1)) fun y_2 =>
            brn (!decide (y = y_2)) (some true)
              (obnd (dec_CompareF (x.fst, x.2.fst)) fun y =>
                obnd (dec_CompareF (x.2.fst, x.fst)) fun y_3 => some (bif decide (y = IntKind.i64.wrap (0 - y_3)) then false else true))))
def law4_DecLaws_b2C : CutSpec tb := ⟨88, [(11, .ro 23), (12, .ro 23), (18, .ro 23), (19, .val 25), (20, .ro 23), (21, .val 25)], [(.normal, [(107, .val 4)])], [80, 81, 82, 83, 84, 85, 86, 87, 88, 89, 90, 91, 92, 93, 94, 95, 96, 97, 98, 99, 100, 101, 102, 103, 104, 105, 106, 107], law4_DecLaws_b2J⟩
theorem law4_DecLaws_b2_eq : ∀ x, evBlk Tryd.prog tb [(12, law4_knownS), (27, dec_NormS), (33, dec_IntS), (17, dec_AddS), (19, dec_SubS), (25, dec_CompareS), (21, dec_MulS), (23, dec_DivS)] [] (codeAt 88 Tryd.f5) law4_DecLaws_b2C.ins law4_DecLaws_b2C.outs x = law4_DecLaws_b2C.J x := fun x => by kernel_rfl
theorem law4_DecLaws_b2_k : cutB Tryd.f5.ntmps law4_DecLaws_b2C (codeAt 88 Tryd.f5) = true := by kernel_rfl
theorem law4_DecLaws_b2_in : cutsOf ([] : List (CutSpec tb)) (codeAt 88 Tryd.f5) = [] := by kernel_rfl
theorem law4_DecLaws_b2_cut : CutSound Tryd.prog tb Tryd.f5.ntmps (codeAt 88 Tryd.f5) law4_DecLaws_b2C := blk_ev mixed law4_DecLaws_b2_k (.cons law4_known_sound (.cons dec_Norm_sound (.cons dec_Int_sound (.cons dec_Add_sound (.cons dec_Sub_sound (.cons dec_Compare_sound (.cons dec_Mul_sound (.cons dec_Div_sound .nil)))))))) rfl law4_DecLaws_b2_in .nil law4_DecLaws_b2_eq
def law4_DecLawsF (x : Int × Int × Int × UInt8 × UInt8) : Option (Bool) :=
  obnd (law4_knownF ()) fun y =>
    brn (!y) (some false)
      (obnd (dec_NormF { M := IntKind.i64.wrap x.fst, S := IntKind.i64.wrap ((↑x.2.2.2.fst.toNat : Int).tmod 10) }) fun y =>
        obnd (dec_NormF { M := IntKind.i64.wrap x.2.fst, S := IntKind.i64.wrap ((↑x.2.2.2.snd.toNat : Int).tmod 10) }) fun y_1 =>
          obnd (dec_IntF (IntKind.i64.wrap x.2.2.fst)) fun y_2 =>
            obnd (dec_AddF (y, y_1)) fun y_3 =>
              obnd (dec_AddF (y_1, y)) fun y_4 =>
                obnd (law4_DecLaws_b1J (y_3.fst, y_3.snd, y_4)) fun y_5 =>
                  brn y_5 (some false)
                    (obnd (dec_SubF (y_3.fst, y_1)) fun y_6 =>
                      obnd (dec_SubF (y, y_1)) fun y_7 =>
                        obnd (law4_DecLaws_b2J (y, y_1, y_6.fst, y_6.snd, y_7)) fun y_8 =>
                          brn y_8 (some false)
                            (obnd (dec_MulF (y, y_2)) fun y_9 =>
                              obnd (dec_MulF (y_2, y)) fun y_10 =>
                                brn (!decide (y_9.snd = y_10.snd)) (some false)
                                  (brn
                                    (bif true then !(decide (y_9.fst.M = y_10.fst.M) && decide (y_9.fst.S = y_10.fst.S))
                                    else decide (y_9.fst.M = y_10.fst.M) && decide (y_9.fst.S = y_10.fst.S))
                                    (some false)
                                    (brn (!decide (y_9.snd = 0)) (some true)
                                      (brn (decide (x.2.2.fst = 0)) (some true)
                                        (obnd (dec_DivF (y_9.fst, y_2)) fun y_11 =>
                                          brn (decide (y_11.snd = 0))
                                            (some
                                              (match decide (y_11.fst.M = y.M) with
                                              | false => false
                                              | true => decide (y_11.fst.S = y.S)))
                                            (some false))))))))
def law4_DecLawsS : FSpec tb := ⟨[(0, .val 21), (1, .val 21), (2, .val 21), (3, .val 5), (4, .val 5)], [(0, .val 4)], law4_DecLawsF⟩
theorem law4_DecLaws_eq : ∀ x, evFn Tryd.prog tb [(12, law4_knownS), (27, dec_NormS), (33, dec_IntS), (17, dec_AddS), (19, dec_SubS), (25, dec_CompareS), (21, dec_MulS), (23, dec_DivS)] [law4_DecLaws_b1C, law4_DecLaws_b2C] Tryd.f5 law4_DecLawsS.ins law4_DecLawsS.outs x = law4_DecLawsS.f x := fun x => by kernel_rfl
theorem law4_DecLaws_k : fnK Tryd.f5 law4_DecLawsS.ins law4_DecLawsS.outs = true := by kernel_rfl
theorem law4_DecLaws_in : cutsOf ([law4_DecLaws_b1C, law4_DecLaws_b2C] : List (CutSpec tb)) (bodyOf Tryd.f5) = [(56, codeAt 56 Tryd.f5), (88, codeAt 88 Tryd.f5)] := by kernel_rfl
theorem law4_DecLaws_sound : FnSound Tryd.prog tb 5 law4_DecLawsS := fn_cut mixed Tryd.func5 law4_DecLaws_k (.cons law4_known_sound (.cons dec_Norm_sound (.cons dec_Int_sound (.cons dec_Add_sound (.cons dec_Sub_sound (.cons dec_Compare_sound (.cons dec_Mul_sound (.cons dec_Div_sound .nil)))))))) rfl law4_DecLaws_in (.cons rfl law4_DecLaws_b1_cut rfl (.cons rfl law4_DecLaws_b2_cut rfl .nil)) law4_DecLaws_eq

/-! ### law4_Of -/
def law4_OfF (x : Dec) : Option (Dec) :=
  some x
def law4_OfS : FSpec tb := ⟨[(0, .val 23)], [(0, .val 28)], law4_OfF⟩
theorem law4_Of_eq : ∀ x, evFn Tryd.prog tb [] [] Tryd.f15 law4_OfS.ins law4_OfS.outs x = law4_OfS.f x := fun x => by kernel_rfl
theorem law4_Of_k : fnK Tryd.f15 law4_OfS.ins law4_OfS.outs = true := by kernel_rfl
theorem law4_Of_sound : FnSound Tryd.prog tb 15 law4_OfS := fn_ev mixed Tryd.func15 law4_Of_k .nil rfl law4_Of_eq

/-! ### law4_DecFloors -/
def law4_DecFloorsF (x : Dec) : Option (Bool) :=
  obnd (law4_knownF ()) fun y =>
    brn (!y) (some false)
      (obnd (law4_OfF x) fun y =>
        obnd (ref7_CheckDecF y) fun y =>
          brn (!decide (y = 0)) (some true)
            (obnd (dec_FloorF x) fun y =>
              brn (!decide (y.snd = 0)) (some (decide (y.snd = 8)))
                (obnd (dec_SubF (x, y.fst)) fun y_1 =>
                  brn (!decide (y_1.snd = 0)) (some false)
                    (brn (!decide (y.fst.S = 0)) (some false)
                      (obnd (dec_IntF 0) fun y_2 =>
                        obnd (dec_CompareF (y_1.fst, y_2)) fun y_3 =>
                          brn (decide (y_3 < 0)) (some false)
                            (obnd (dec_IntF 1) fun y_4 =>
                              obnd (dec_CompareF (y_1.fst, y_4)) fun y_5 =>
                                brn (decide (0 ≤ y_5)) (some false)
                                  (obnd (dec_AddF (y.fst, y_1.fst)) fun y =>
                                    brn (decide (y.snd = 0))
                                      (some
                                        (match decide (y.fst.M = x.M) with
                                        | false => false
                                        | true => decide (y.fst.S = x.S)))
                                      (some false))))))))
def law4_DecFloorsS : FSpec tb := ⟨[(0, .val 23)], [(0, .val 4)], law4_DecFloorsF⟩
theorem law4_DecFloors_eq : ∀ x, evFn Tryd.prog tb [(12, law4_knownS), (15, law4_OfS), (14, ref7_CheckDecS), (31, dec_FloorS), (19, dec_SubS), (33, dec_IntS), (25, dec_CompareS), (17, dec_AddS)] [] Tryd.f6 law4_DecFloorsS.ins law4_DecFloorsS.outs x = law4_DecFloorsS.f x := fun x => by kernel_rfl
theorem law4_DecFloors_k : fnK Tryd.f6 law4_DecFloorsS.ins law4_DecFloorsS.outs = true := by kernel_rfl
theorem law4_DecFloors_sound : FnSound Tryd.prog tb 6 law4_DecFloorsS := fn_ev mixed Tryd.func6 law4_DecFloors_k (.cons law4_known_sound (.cons law4_Of_sound (.cons ref7_CheckDec_sound (.cons dec_Floor_sound (.cons dec_Sub_sound (.cons dec_Int_sound (.cons dec_Compare_sound (.cons dec_Add_sound .nil)))))))) rfl law4_DecFloors_eq

/-! ### law4_DecNear -/
def law4_DecNearF (x : Int × UInt8 × UInt8) : Option (Bool) :=
  obnd (law4_knownF ()) fun y =>
    brn (!y) (some false)
      (obnd (dec_NormF { M := IntKind.i64.wrap (x.fst.tdiv 1000), S := IntKind.i64.wrap ((↑x.2.fst.toNat : Int).tmod 10) }) fun y =>
        obnd (dec_RoundF (y, IntKind.i64.wrap ((↑x.2.snd.toNat : Int).tmod 10))) fun y_1 =>
          brn (!decide (y_1.snd = 0)) (some false)
            (obnd (dec_RoundF (y_1.fst, IntKind.i64.wrap ((↑x.2.snd.toNat : Int).tmod 10))) fun y_2 =>
              brn (!decide (y_2.snd = 0)) (some false)
                (brn (bif true then !(decide (y_2.fst.M = y_1.fst.M) && decide (y_2.fst.S = y_1.fst.S)) else decide (y_2.fst.M = y_1.fst.M) && decide (y_2.fst.S = y_1.fst.S))
                  (some false)
                  (brn (decide (IntKind.i64.wrap ((↑x.2.snd.toNat : Int).tmod 10) < y_1.fst.S)) (some false)
                    (obnd (dec_SubF (y_1.fst, y)) fun y =>
                      brn (!decide (y.snd = 0)) (some (decide (y.snd = 8)))
                        (brn (decide (y.fst.M < 0))
                          (brn (decide (IntKind.i64.wrap ((↑x.2.snd.toNat : Int).tmod 10) = 9)) (some (decide (IntKind.i64.wrap (0 - y.fst.M) = 0)))
                            (obnd
                              (dec_CompareF
                                ({ M := IntKind.i64.wrap (0 - y.fst.M), S := y.fst.S }, { M := 5, S := IntKind.i64.wrap (IntKind.i64.wrap ((↑x.2.snd.toNat : Int).tmod 10) + 1) }))
                              fun y => some (decide (y ≤ 0))))
                          (brn (decide (IntKind.i64.wrap ((↑x.2.snd.toNat : Int).tmod 10) = 9)) (some (decide (y.fst.M = 0)))
                            (obnd (dec_CompareF (y.fst, { M := 5, S := IntKind.i64.wrap (IntKind.i64.wrap ((↑x.2.snd.toNat : Int).tmod 10) + 1) })) fun y =>
                              some (decide (y ≤ 0))))))))))
def law4_DecNearS : FSpec tb := ⟨[(0, .val 2), (1, .val 5), (2, .val 5)], [(0, .val 4)], law4_DecNearF⟩
theorem law4_DecNear_eq : ∀ x, evFn Tryd.prog tb [(12, law4_knownS), (27, dec_NormS), (29, dec_RoundS), (19, dec_SubS), (25, dec_CompareS)] [] Tryd.f7 law4_DecNearS.ins law4_DecNearS.outs x = law4_DecNearS.f x := fun x => by kernel_rfl
theorem law4_DecNear_k : fnK Tryd.f7 law4_DecNearS.ins law4_DecNearS.outs = true := by kernel_rfl
theorem law4_DecNear_sound : FnSound Tryd.prog tb 7 law4_DecNearS := fn_ev mixed Tryd.func7 law4_DecNear_k (.cons law4_known_sound (.cons dec_Norm_sound (.cons dec_Round_sound (.cons dec_Sub_sound (.cons dec_Compare_sound .nil))))) rfl law4_DecNear_eq

/-! ### law4_good -/
def law4_goodF (x : Dec × Dec) : Option (Bool) :=
  obnd (law4_OfF x.fst) fun y =>
    obnd (ref7_CheckDecF y) fun y => brn (decide (y = 0)) (obnd (law4_OfF x.snd) fun y => obnd (ref7_CheckDecF y) fun y => some (decide (y = 0))) (some false)
def law4_goodS : FSpec tb := ⟨[(0, .val 23), (1, .val 23)], [(0, .val 4)], law4_goodF⟩
theorem law4_good_eq : ∀ x, evFn Tryd.prog tb [(15, law4_OfS), (14, ref7_CheckDecS)] [] Tryd.f16 law4_goodS.ins law4_goodS.outs x = law4_goodS.f x := fun x => by kernel_rfl
theorem law4_good_k : fnK Tryd.f16 law4_goodS.ins law4_goodS.outs = true := by kernel_rfl
theorem law4_good_sound : FnSound Tryd.prog tb 16 law4_goodS := fn_ev mixed Tryd.func16 law4_good_k (.cons law4_Of_sound (.cons ref7_CheckDec_sound .nil)) rfl law4_good_eq

/-! ### law4_DecOrder -/
def law4_DecOrder_b1J (x : Dec × Dec × Int × Int × Int) : Option (Bool) :=
  obnd (dec_CompareF (x.2.fst, x.fst)) fun y =>
    brn (!decide (y = IntKind.i64.wrap (0 - x.2.2.fst))) (some true)
      (brn
        (!decide
            (decide (x.2.2.fst = 0) =
              bif false then !(decide (x.fst.M = x.2.fst.M) && decide (x.fst.S = x.2.fst.S)) else decide (x.fst.M = x.2.fst.M) && decide (x.fst.S = x.2.fst.S)))
        (some true)
        (brn (decide (x.2.2.fst ≤ 0))
          (brn (decide (x.2.2.2.fst ≤ 0))
            (brn (decide (0 < x.2.2.2.snd)) (some true) (brn (decide (0 ≤ x.2.2.fst)) (brn (decide (0 ≤ x.2.2.2.fst)) (some (decide (x.2.2.2.snd < 0))) (some false)) (some false)))
            (brn (decide (0 ≤ x.2.2.fst)) (brn (decide (0 ≤ x.2.2.2.fst)) (some (decide (x.2.2.2.snd < 0))) (some false)) (some false)))
          (brn (decide (0 ≤ x.2.2.fst)) (brn (decide (0 ≤ x.2.2.2.fst)) (some (decide (x.2.2.2.snd < 0))) (some false)) (some false))))
def law4_DecOrder_b1C : CutSpec tb := ⟨56, [(3, .ro 23), (4, .ro 23), (7, .val 3), (8, .val 3), (9, .val 3)], [(.normal, [(72, .val 4)])], [35, 36, 37, 38, 39, 40, 41, 42, 43, 44, 45, 46, 47, 48, 49, 50, 51, 52, 53, 54, 55, 56, 57, 58, 59, 60, 61, 62, 63, 64, 65, 66, 67, 68, 69, 70, 71, 72], law4_DecOrder_b1J⟩
theorem law4_DecOrder_b1_eq : ∀ x, evBlk Tryd.prog tb [(12, law4_knownS), (16, law4_goodS), (25, dec_CompareS), (17, dec_AddS)] [] (codeAt 56 Tryd.f8) law4_DecOrder_b1C.ins law4_DecOrder_b1C.outs x = law4_DecOrder_b1C.J x := fun x => by kernel_rfl
theorem law4_DecOrder_b1_k : cutB Tryd.f8.ntmps law4_DecOrder_b1C (codeAt 56 Tryd.f8) = true := by kernel_rfl
theorem law4_DecOrder_b1_in : cutsOf ([] : List (CutSpec tb)) (codeAt 56 Tryd.f8) = [] := by kernel_rfl
theorem law4_DecOrder_b1_cut : CutSound Tryd.prog tb Tryd.f8.ntmps (codeAt 56 Tryd.f8) law4_DecOrder_b1C := blk_ev mixed law4_DecOrder_b1_k (.cons law4_known_sound (.cons law4_good_sound (.cons dec_Compare_sound (.cons dec_Add_sound .nil)))) rfl law4_DecOrder_b1_in .nil law4_DecOrder_b1_eq
def law4_DecOrderF (x : Dec × Dec × Dec) : Option (Bool) :=
  obnd (law4_knownF ()) fun y =>
    brn (!y) (some false)
      (obnd (law4_goodF (x.fst, x.2.fst)) fun y =>
        brn (!y) (some true)
          (obnd (law4_goodF x.2) fun y =>
            brn (!y) (some true)
              (obnd (dec_CompareF (x.fst, x.2.fst)) fun y =>
                obnd (dec_CompareF x.2) fun y_1 =>
                  obnd (dec_CompareF (x.fst, x.2.snd)) fun y_2 =>
                    obnd (law4_DecOrder_b1J (x.fst, x.2.fst, y, y_1, y_2)) fun y_3 =>
                      brn y_3 (some false)
                        (obnd (dec_AddF (x.fst, x.2.snd)) fun y_4 =>
                          obnd (dec_AddF x.2) fun y_5 =>
                            brn (!decide (y_4.snd = 0)) (some true)
                              (brn (!decide (y_5.snd = 0)) (some true) (obnd (dec_CompareF (y_4.fst, y_5.fst)) fun y_6 => some (decide (y_6 = y))))))))
def law4_DecOrderS : FSpec tb := ⟨[(0, .val 23), (1, .val 23), (2, .val 23)], [(0, .val 4)], law4_DecOrderF⟩
theorem law4_DecOrder_eq : ∀ x, evFn Tryd.prog tb [(12, law4_knownS), (16, law4_goodS), (25, dec_CompareS), (17, dec_AddS)] [law4_DecOrder_b1C] Tryd.f8 law4_DecOrderS.ins law4_DecOrderS.outs x = law4_DecOrderS.f x := fun x => by kernel_rfl
theorem law4_DecOrder_k : fnK Tryd.f8 law4_DecOrderS.ins law4_DecOrderS.outs = true := by kernel_rfl
theorem law4_DecOrder_in : cutsOf ([law4_DecOrder_b1C] : List (CutSpec tb)) (bodyOf Tryd.f8) = [(56, codeAt 56 Tryd.f8)] := by kernel_rfl
theorem law4_DecOrder_sound : FnSound Tryd.prog tb 8 law4_DecOrderS := fn_cut mixed Tryd.func8 law4_DecOrder_k (.cons law4_known_sound (.cons law4_good_sound (.cons dec_Compare_sound (.cons dec_Add_sound .nil)))) rfl law4_DecOrder_in (.cons rfl law4_DecOrder_b1_cut rfl .nil) law4_DecOrder_eq
end Go.Proofs.YtmlbknmjgahcfaaDoor
