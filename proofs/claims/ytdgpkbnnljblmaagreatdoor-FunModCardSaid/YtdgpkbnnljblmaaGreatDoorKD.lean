/- KD -/
import Derived.Test.YtdgpkbnnljblmaaGreatDoorV2
namespace Go.Proofs.YtdgpkbnnljblmaaGreatDoor
open Go Go.Ev
set_option linter.unusedVariables false
abbrev law11_FunModG : List (Nat × FSpec tb) := [(16, law11_knownS), (31, dec_NormS), (25, fun_OneS), (19, fun_ApplyS), (32, val_FaultS), (33, dec_IntS), (34, dec_CompareS), (35, dec_SubS), (36, dec_DivS), (37, dec_MulS)]
theorem law11_FunModG_ok : AllSound Tryz.prog tb law11_FunModG := (.cons law11_known_sound (.cons dec_Norm_sound (.cons fun_One_sound (.cons fun_Apply_sound (.cons val_Fault_sound (.cons dec_Int_sound (.cons dec_Compare_sound (.cons dec_Sub_sound (.cons dec_Div_sound (.cons dec_Mul_sound .nil))))))))))
def law11_FunMod_b1J (x : Dec × Val × Dec) : Option (Bool) :=
  obnd (dec_CompareF (x.fst, x.2.snd)) fun y =>
    brn (decide (0 < y))
      (obnd (dec_CompareF (x.2.fst.N, x.fst)) fun y =>
        brn (decide (0 ≤ y)) (some true)
          (obnd (dec_CompareF (x.fst, x.2.snd)) fun y => brn (decide (y < 0)) (obnd (dec_CompareF (x.2.fst.N, x.fst)) fun y => some (decide (y ≤ 0))) (some false)))
      (obnd (dec_CompareF (x.fst, x.2.snd)) fun y => brn (decide (y < 0)) (obnd (dec_CompareF (x.2.fst.N, x.fst)) fun y => some (decide (y ≤ 0))) (some false))
def law11_FunMod_b1C : CutSpec tb := ⟨112, [(8, .ro 30), (9, .ro 32), (10, .ro 30)], [(.normal, [(90, .val 4)])], [67, 68, 69, 70, 71, 72, 73, 74, 75, 76, 77, 78, 79, 80, 81, 82, 83, 84, 85, 86, 87, 88, 89, 90], law11_FunMod_b1J⟩
theorem law11_FunMod_b1_eq : ∀ x, evBlk Tryz.prog tb law11_FunModG [] (codeAt 112 Tryz.f7) law11_FunMod_b1C.ins law11_FunMod_b1C.outs x = law11_FunMod_b1C.J x := fun x => by kernel_rfl
theorem law11_FunMod_b1_k : cutB Tryz.f7.ntmps law11_FunMod_b1C (codeAt 112 Tryz.f7) = true := by kernel_rfl
theorem law11_FunMod_b1_in : cutsOf ([] : List (CutSpec tb)) (codeAt 112 Tryz.f7) = [] := by kernel_rfl
theorem law11_FunMod_b1_cut : CutSound Tryz.prog tb Tryz.f7.ntmps (codeAt 112 Tryz.f7) law11_FunMod_b1C := blk_ev mixed law11_FunMod_b1_k law11_FunModG_ok rfl law11_FunMod_b1_in .nil law11_FunMod_b1_eq
def law11_FunModF (x : Int × Int × UInt8) : Option (Bool) :=
  obnd (law11_knownF ()) fun y =>
    brn (!y) (some false)
      (obnd (dec_NormF { M := IntKind.i64.wrap x.fst, S := IntKind.i64.wrap ((↑x.2.snd.toNat : Int).tmod 4) }) fun y =>
        obnd (dec_NormF { M := IntKind.i64.wrap x.2.fst, S := IntKind.i64.wrap ((IntKind.u8.wrap ((↑x.2.snd.toNat : Int).tdiv 4)).tmod 4) }) fun y_1 =>
          obnd (fun_OneF { Kind := 1, N := y, S := [], B := false, E := 0 }) fun y_2 =>
            obnd (fun_OneF { Kind := 1, N := y_1, S := [], B := false, E := 0 }) fun y_3 =>
              obnd (fun_ApplyF (8, [y_2, y_3])) fun y_4 =>
                brn (decide (y_1.M = 0))
                  (obnd (val_FaultF 7) fun y =>
                    some
                      (match decide (y_4.Kind = y.Kind) with
                      | false => false
                      | true => decide (y_4.N.M = y.N.M) && (decide (y_4.N.S = y.N.S) && (decide (y_4.S = y.S) && (decide (y_4.B = y.B) && decide (y_4.E = y.E))))))
                  (brn (!decide (y_4.Kind = 1)) (some false)
                    (obnd (dec_IntF 0) fun y_5 =>
                      obnd (dec_CompareF (y_4.N, y_5)) fun y_6 =>
                        brn (!decide (y_6 = 0))
                          (obnd (dec_CompareF (y_4.N, y_5)) fun y_7 =>
                            obnd (dec_CompareF (y_1, y_5)) fun y_8 =>
                              brn (!decide (y_7 = y_8)) (some false)
                                (obnd (law11_FunMod_b1J (y_1, y_4, y_5)) fun y_9 =>
                                  brn y_9 (some false)
                                    (obnd (dec_SubF (y, y_4.N)) fun y =>
                                      obnd (dec_DivF (y.fst, y_1)) fun y_10 =>
                                        obnd (dec_MulF (y_10.fst, y_1)) fun y_11 =>
                                          brn (decide (IntKind.i64.wrap (IntKind.i64.wrap (y.snd + y_10.snd) + y_11.snd) = 0))
                                            (brn (decide (y_10.fst.S = 0))
                                              (some
                                                (match decide (y_11.fst.M = y.fst.M) with
                                                | false => false
                                                | true => decide (y_11.fst.S = y.fst.S)))
                                              (some false))
                                            (some false))))
                          (obnd (law11_FunMod_b1J (y_1, y_4, y_5)) fun y_7 =>
                            brn y_7 (some false)
                              (obnd (dec_SubF (y, y_4.N)) fun y =>
                                obnd (dec_DivF (y.fst, y_1)) fun y_8 =>
                                  obnd (dec_MulF (y_8.fst, y_1)) fun y_9 =>
                                    brn (decide (IntKind.i64.wrap (IntKind.i64.wrap (y.snd + y_8.snd) + y_9.snd) = 0))
                                      (brn (decide (y_8.fst.S = 0))
                                        (some
                                          (match decide (y_9.fst.M = y.fst.M) with
                                          | false => false
                                          | true => decide (y_9.fst.S = y.fst.S)))
                                        (some false))
                                      (some false))))))
def law11_FunModS : FSpec tb := ⟨[(0, .val 21), (1, .val 21), (2, .val 5)], [(0, .val 4)], law11_FunModF⟩
theorem law11_FunMod_eq : ∀ x, evFn Tryz.prog tb law11_FunModG [law11_FunMod_b1C] Tryz.f7 law11_FunModS.ins law11_FunModS.outs x = law11_FunModS.f x := fun x => by kernel_rfl
theorem law11_FunMod_k : fnK Tryz.f7 law11_FunModS.ins law11_FunModS.outs = true := by kernel_rfl
theorem law11_FunMod_in : cutsOf ([law11_FunMod_b1C] : List (CutSpec tb)) (bodyOf Tryz.f7) = [(112, codeAt 112 Tryz.f7)] := by kernel_rfl
theorem law11_FunMod_sound : FnSound Tryz.prog tb 7 law11_FunModS := fn_cut mixed Tryz.func7 law11_FunMod_k law11_FunModG_ok rfl law11_FunMod_in (.cons rfl law11_FunMod_b1_cut rfl .nil) law11_FunMod_eq
end Go.Proofs.YtdgpkbnnljblmaaGreatDoor
