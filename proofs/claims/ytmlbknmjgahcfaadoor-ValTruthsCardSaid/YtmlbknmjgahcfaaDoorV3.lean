/- The laws on values: what each computes, and that it does. (by gen.py) -/
import Derived.Test.YtmlbknmjgahcfaaDoorV2
namespace Go.Proofs.YtmlbknmjgahcfaaDoor
open Go Go.Ev
set_option linter.unusedVariables false


/-! ### law9_ValOrder -/
def law9_ValOrder_b1J (x : Val × Val × Val) : Option (Bool) :=
  brn (decide (1000 < (↑x.fst.S.length : Int))) (some true) (brn (decide (1000 < (↑x.2.fst.S.length : Int))) (some true) (some (decide (1000 < (↑x.2.snd.S.length : Int)))))
def law9_ValOrder_b1C : CutSpec tb := ⟨32, [(3, .ro 50), (4, .ro 50), (5, .ro 50)], [(.normal, [(27, .val 4)])], [12, 13, 14, 15, 16, 17, 18, 19, 20, 21, 22, 23, 24, 25, 26, 27], law9_ValOrder_b1J⟩
theorem law9_ValOrder_b1_eq : ∀ x, evBlk Tryd.prog tb [(34, law9_knownS), (35, val_CheckS), (36, val_CompareS), (37, val_SameS)] [] (codeAt 32 Tryd.f9) law9_ValOrder_b1C.ins law9_ValOrder_b1C.outs x = law9_ValOrder_b1C.J x := fun x => by kernel_rfl
theorem law9_ValOrder_b1_k : cutB Tryd.f9.ntmps law9_ValOrder_b1C (codeAt 32 Tryd.f9) = true := by kernel_rfl
theorem law9_ValOrder_b1_in : cutsOf ([] : List (CutSpec tb)) (codeAt 32 Tryd.f9) = [] := by kernel_rfl
theorem law9_ValOrder_b1_cut : CutSound Tryd.prog tb Tryd.f9.ntmps (codeAt 32 Tryd.f9) law9_ValOrder_b1C := blk_ev mixed law9_ValOrder_b1_k (.cons law9_known_sound (.cons val_Check_sound (.cons val_Compare_sound (.cons val_Same_sound .nil)))) rfl law9_ValOrder_b1_in .nil law9_ValOrder_b1_eq
def law9_ValOrder_b2J (x : Val × Val × Val) : Option (Bool) :=
  obnd (val_CheckF x.fst) fun y =>
    brn (!decide (y = 0)) (some true)
      (obnd (val_CheckF x.2.fst) fun y =>
        brn (!decide (y = 0)) (some true)
          (obnd (val_CheckF x.2.snd) fun y =>
            brn (!decide (y = 0)) (some true) (brn (decide (x.fst.Kind = 0)) (some true) (brn (decide (x.2.fst.Kind = 0)) (some true) (some (decide (x.2.snd.Kind = 0)))))))
def law9_ValOrder_b2C : CutSpec tb := ⟨48, [(3, .ro 50), (4, .ro 50), (5, .ro 50)], [(.normal, [(55, .val 4)])], [28, 29, 30, 31, 32, 33, 34, 35, 36, 37, 38, 39, 40, 41, 42, 43, 44, 45, 46, 47, 48, 49, 50, 51, 52, 53, 54, 55], law9_ValOrder_b2J⟩
theorem law9_ValOrder_b2_eq : ∀ x, evBlk Tryd.prog tb [(34, law9_knownS), (35, val_CheckS), (36, val_CompareS), (37, val_SameS)] [] (codeAt 48 Tryd.f9) law9_ValOrder_b2C.ins law9_ValOrder_b2C.outs x = law9_ValOrder_b2C.J x := fun x => by kernel_rfl
theorem law9_ValOrder_b2_k : cutB Tryd.f9.ntmps law9_ValOrder_b2C (codeAt 48 Tryd.f9) = true := by kernel_rfl
theorem law9_ValOrder_b2_in : cutsOf ([] : List (CutSpec tb)) (codeAt 48 Tryd.f9) = [] := by kernel_rfl
theorem law9_ValOrder_b2_cut : CutSound Tryd.prog tb Tryd.f9.ntmps (codeAt 48 Tryd.f9) law9_ValOrder_b2C := blk_ev mixed law9_ValOrder_b2_k (.cons law9_known_sound (.cons val_Check_sound (.cons val_Compare_sound (.cons val_Same_sound .nil)))) rfl law9_ValOrder_b2_in .nil law9_ValOrder_b2_eq
def law9_ValOrderF (x : Val × Val × Val) : Option (Bool) :=
  obnd (law9_knownF ()) fun y =>
    brn (!y) (some false)
      (obnd (law9_ValOrder_b1J (x.fst, x.2)) fun y =>
        brn y (some true)
          (obnd (law9_ValOrder_b2J (x.fst, x.2)) fun y =>
            brn y (some true)
              (obnd (val_CompareF (x.fst, x.2.fst)) fun y =>
                obnd (val_CompareF x.2) fun y_1 =>
                  obnd (val_CompareF (x.fst, x.2.snd)) fun y_2 =>
                    obnd (val_CompareF (x.2.fst, x.fst)) fun y_3 =>
                      brn (!decide (y_3 = IntKind.i64.wrap (0 - y))) (some false)
                        (obnd (val_SameF (x.fst, x.2.fst)) fun y_4 =>
                          brn (!decide (decide (y = 0) = y_4)) (some false)
                            (brn (decide (0 < y)) (some true)
                              (brn (decide (0 < y_1)) (some true)
                                (brn (decide (y_2 ≤ 0)) (brn (decide (y_2 < 0)) (some true) (brn (decide (y = 0)) (some (decide (y_1 = 0))) (some false))) (some false))))))))
def law9_ValOrderS : FSpec tb := ⟨[(0, .val 50), (1, .val 50), (2, .val 50)], [(0, .val 4)], law9_ValOrderF⟩
theorem law9_ValOrder_eq : ∀ x, evFn Tryd.prog tb [(34, law9_knownS), (35, val_CheckS), (36, val_CompareS), (37, val_SameS)] [law9_ValOrder_b1C, law9_ValOrder_b2C] Tryd.f9 law9_ValOrderS.ins law9_ValOrderS.outs x = law9_ValOrderS.f x := fun x => by kernel_rfl
theorem law9_ValOrder_k : fnK Tryd.f9 law9_ValOrderS.ins law9_ValOrderS.outs = true := by kernel_rfl
theorem law9_ValOrder_in : cutsOf ([law9_ValOrder_b1C, law9_ValOrder_b2C] : List (CutSpec tb)) (bodyOf Tryd.f9) = [(32, codeAt 32 Tryd.f9), (48, codeAt 48 Tryd.f9)] := by kernel_rfl
theorem law9_ValOrder_sound : FnSound Tryd.prog tb 9 law9_ValOrderS := fn_cut mixed Tryd.func9 law9_ValOrder_k (.cons law9_known_sound (.cons val_Check_sound (.cons val_Compare_sound (.cons val_Same_sound .nil)))) rfl law9_ValOrder_in (.cons rfl law9_ValOrder_b1_cut rfl (.cons rfl law9_ValOrder_b2_cut rfl .nil)) law9_ValOrder_eq

/-! ### law9_ValBlank -/
def law9_ValBlankF (x : Val) : Option (Bool) :=
  obnd (law9_knownF ()) fun y =>
    brn (!y) (some false)
      (brn (decide (1000 < (↑x.S.length : Int))) (some true)
        (obnd (val_CheckF x) fun y =>
          brn (!decide (y = 0)) (some true)
            (obnd (val_CompareF ({ Kind := 0, N := { M := 0, S := 0 }, S := [], B := false, E := 0 }, x)) fun y =>
              obnd (val_CompareF (x, { Kind := 0, N := { M := 0, S := 0 }, S := [], B := false, E := 0 })) fun y_1 =>
                brn (!decide (y_1 = IntKind.i64.wrap (0 - y))) (some false)
                  (brn (decide (x.Kind = 1)) (obnd (dec_IntF 0) fun y_2 => obnd (dec_CompareF (y_2, x.N)) fun y_3 => some (decide (y = y_3)))
                    (brn (decide (x.Kind = 2)) (brn (decide (decide (y = 0) = decide (x.S = []))) (some (decide (y ≤ 0))) (some false))
                      (brn (decide (x.Kind = 3)) (brn (decide (decide (y = 0) = !x.B)) (some (decide (y ≤ 0))) (some false))
                        (brn (decide (x.Kind = 4)) (some (decide (y = -1))) (some (decide (y = 0))))))))))
def law9_ValBlankS : FSpec tb := ⟨[(0, .val 50)], [(0, .val 4)], law9_ValBlankF⟩
theorem law9_ValBlank_eq : ∀ x, evFn Tryd.prog tb [(34, law9_knownS), (35, val_CheckS), (36, val_CompareS), (33, dec_IntS), (25, dec_CompareS)] [] Tryd.f10 law9_ValBlankS.ins law9_ValBlankS.outs x = law9_ValBlankS.f x := fun x => by kernel_rfl
theorem law9_ValBlank_k : fnK Tryd.f10 law9_ValBlankS.ins law9_ValBlankS.outs = true := by kernel_rfl
theorem law9_ValBlank_sound : FnSound Tryd.prog tb 10 law9_ValBlankS := fn_ev mixed Tryd.func10 law9_ValBlank_k (.cons law9_known_sound (.cons val_Check_sound (.cons val_Compare_sound (.cons dec_Int_sound (.cons dec_Compare_sound .nil))))) rfl law9_ValBlank_eq

/-! ### law9_ValTruths -/
def law9_ValTruths_b1J (x : Val) : Option (Bool) :=
  brn (decide (1000 < (↑x.S.length : Int))) (some true) (obnd (val_CheckF x) fun y => some (bif decide (y = 0) then false else true))
def law9_ValTruths_b1C : CutSpec tb := ⟨32, [(1, .ro 50)], [(.normal, [(22, .val 4)])], [14, 15, 16, 17, 18, 19, 20, 21, 22], law9_ValTruths_b1J⟩
theorem law9_ValTruths_b1_eq : ∀ x, evBlk Tryd.prog tb [(34, law9_knownS), (35, val_CheckS), (38, val_TruthS), (39, val_WordsS), (40, val_FaultS), (41, law9_SS)] [] (codeAt 32 Tryd.f11) law9_ValTruths_b1C.ins law9_ValTruths_b1C.outs x = law9_ValTruths_b1C.J x := fun x => by kernel_rfl
theorem law9_ValTruths_b1_k : cutB Tryd.f11.ntmps law9_ValTruths_b1C (codeAt 32 Tryd.f11) = true := by kernel_rfl
theorem law9_ValTruths_b1_in : cutsOf ([] : List (CutSpec tb)) (codeAt 32 Tryd.f11) = [] := by kernel_rfl
theorem law9_ValTruths_b1_cut : CutSound Tryd.prog tb Tryd.f11.ntmps (codeAt 32 Tryd.f11) law9_ValTruths_b1C := blk_ev mixed law9_ValTruths_b1_k (.cons law9_known_sound (.cons val_Check_sound (.cons val_Truth_sound (.cons val_Words_sound (.cons val_Fault_sound (.cons law9_S_sound .nil)))))) rfl law9_ValTruths_b1_in .nil law9_ValTruths_b1_eq
def law9_ValTruths_b2J (x : Val × Bool × Bool) : Option (Bool) :=
  brn (!x.2.fst) (some true)
    (brn (!x.2.snd) (some true)
      (some
        (bif decide (x.fst.Kind = 0) && (decide (x.fst.N.M = 0) && (decide (x.fst.N.S = 0) && (decide (x.fst.S = []) && (decide (x.fst.B = false) && decide (x.fst.E = 0))))) then
          false
        else true)))
def law9_ValTruths_b2C : CutSpec tb := ⟨96, [(4, .ro 50), (5, .val 4), (8, .val 4)], [(.normal, [(101, .val 4)])], [91, 92, 93, 94, 95, 96, 97, 98, 99, 100, 101], law9_ValTruths_b2J⟩
theorem law9_ValTruths_b2_eq : ∀ x, evBlk Tryd.prog tb [(34, law9_knownS), (35, val_CheckS), (38, val_TruthS), (39, val_WordsS), (40, val_FaultS), (41, law9_SS)] [] (codeAt 96 Tryd.f11) law9_ValTruths_b2C.ins law9_ValTruths_b2C.outs x = law9_ValTruths_b2C.J x := fun x => by kernel_rfl
theorem law9_ValTruths_b2_k : cutB Tryd.f11.ntmps law9_ValTruths_b2C (codeAt 96 Tryd.f11) = true := by kernel_rfl
theorem law9_ValTruths_b2_in : cutsOf ([] : List (CutSpec tb)) (codeAt 96 Tryd.f11) = [] := by kernel_rfl
theorem law9_ValTruths_b2_cut : CutSound Tryd.prog tb Tryd.f11.ntmps (codeAt 96 Tryd.f11) law9_ValTruths_b2C := blk_ev mixed law9_ValTruths_b2_k (.cons law9_known_sound (.cons val_Check_sound (.cons val_Truth_sound (.cons val_Words_sound (.cons val_Fault_sound (.cons law9_S_sound .nil)))))) rfl law9_ValTruths_b2_in .nil law9_ValTruths_b2_eq
def law9_ValTruthsF (x : Val) : Option (Bool) :=
  obnd (law9_knownF ()) fun y =>
    brn (!y) (some false)
      (obnd (law9_ValTruths_b1J x) fun y =>
        brn y (some true)
          (obnd (val_TruthF x) fun y =>
            obnd (val_WordsF x) fun y_1 =>
              brn (decide (x.Kind = 4))
                (brn (!y.2.snd)
                  (brn (!y_1.2.snd)
                    (brn
                      (bif false then
                        !(decide (y.2.fst.Kind = x.Kind) &&
                            (decide (y.2.fst.N.M = x.N.M) && (decide (y.2.fst.N.S = x.N.S) && (decide (y.2.fst.S = x.S) && (decide (y.2.fst.B = x.B) && decide (y.2.fst.E = x.E))))))
                      else
                        decide (y.2.fst.Kind = x.Kind) &&
                          (decide (y.2.fst.N.M = x.N.M) && (decide (y.2.fst.N.S = x.N.S) && (decide (y.2.fst.S = x.S) && (decide (y.2.fst.B = x.B) && decide (y.2.fst.E = x.E))))))
                      (brn (decide (y_1.fst = [])) (some (bif y.fst then false else true)) (some false)) (some false))
                    (some false))
                  (some false))
                (brn (decide (x.Kind = 2))
                  (brn y_1.2.snd
                    (brn (decide (y_1.fst = x.S))
                      (brn (decide (y_1.fst = [84, 82, 85, 69]))
                        (brn (decide (y.2.snd = true))
                          (brn (decide (y.fst = decide (y_1.fst = [84, 82, 85, 69])))
                            (brn y.2.snd (some true)
                              (obnd (val_FaultF 15) fun y_2 =>
                                some
                                  (match decide (y.2.fst.Kind = y_2.Kind) with
                                  | false => false
                                  | true =>
                                    decide (y.2.fst.N.M = y_2.N.M) &&
                                      (decide (y.2.fst.N.S = y_2.N.S) && (decide (y.2.fst.S = y_2.S) && (decide (y.2.fst.B = y_2.B) && decide (y.2.fst.E = y_2.E)))))))
                            (some false))
                          (some false))
                        (brn (decide (y.2.snd = decide (y_1.fst = U8s [70, 65, 76, 83, 69])))
                          (brn (decide (y.fst = decide (y_1.fst = [84, 82, 85, 69])))
                            (brn y.2.snd (some true)
                              (obnd (val_FaultF 15) fun y_2 =>
                                some
                                  (match decide (y.2.fst.Kind = y_2.Kind) with
                                  | false => false
                                  | true =>
                                    decide (y.2.fst.N.M = y_2.N.M) &&
                                      (decide (y.2.fst.N.S = y_2.N.S) && (decide (y.2.fst.S = y_2.S) && (decide (y.2.fst.B = y_2.B) && decide (y.2.fst.E = y_2.E)))))))
                            (some false))
                          (some false)))
                      (some false))
                    (some false))
                  (obnd (law9_ValTruths_b2J (y.2.fst, y.2.snd, y_1.2.snd)) fun y_2 =>
                    brn y_2 (some false)
                      (obnd (law9_SF y_1.fst) fun y_3 =>
                        obnd (val_TruthF y_3) fun y_4 =>
                          brn (decide (x.Kind = 3)) (brn (decide (y.fst = x.B)) (brn y_4.2.snd (some (decide (y_4.fst = y.fst))) (some false)) (some false))
                            (brn (decide (x.Kind = 1)) (brn (decide (y.fst = !decide (x.N.M = 0))) (some (bif y_4.2.snd then false else true)) (some false))
                              (brn (!y.fst) (some (bif y_4.2.snd then false else true)) (some false))))))))
def law9_ValTruthsS : FSpec tb := ⟨[(0, .val 50)], [(0, .val 4)], law9_ValTruthsF⟩
theorem law9_ValTruths_eq : ∀ x, evFn Tryd.prog tb [(34, law9_knownS), (35, val_CheckS), (38, val_TruthS), (39, val_WordsS), (40, val_FaultS), (41, law9_SS)] [law9_ValTruths_b1C, law9_ValTruths_b2C] Tryd.f11 law9_ValTruthsS.ins law9_ValTruthsS.outs x = law9_ValTruthsS.f x := fun x => by kernel_rfl
theorem law9_ValTruths_k : fnK Tryd.f11 law9_ValTruthsS.ins law9_ValTruthsS.outs = true := by kernel_rfl
theorem law9_ValTruths_in : cutsOf ([law9_ValTruths_b1C, law9_ValTruths_b2C] : List (CutSpec tb)) (bodyOf Tryd.f11) = [(32, codeAt 32 Tryd.f11), (96, codeAt 96 Tryd.f11)] := by kernel_rfl
theorem law9_ValTruths_sound : FnSound Tryd.prog tb 11 law9_ValTruthsS := fn_cut mixed Tryd.func11 law9_ValTruths_k (.cons law9_known_sound (.cons val_Check_sound (.cons val_Truth_sound (.cons val_Words_sound (.cons val_Fault_sound (.cons law9_S_sound .nil)))))) rfl law9_ValTruths_in (.cons rfl law9_ValTruths_b1_cut rfl (.cons rfl law9_ValTruths_b2_cut rfl .nil)) law9_ValTruths_eq
end Go.Proofs.YtmlbknmjgahcfaaDoor
