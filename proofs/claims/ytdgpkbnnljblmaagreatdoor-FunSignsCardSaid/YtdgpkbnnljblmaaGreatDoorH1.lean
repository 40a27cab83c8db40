/- H1 -/
import Derived.Test.YtdgpkbnnljblmaaGreatDoorG1
namespace Go.Proofs.YtdgpkbnnljblmaaGreatDoor
open Go Go.Ev
set_option linter.unusedVariables false
abbrev law11_twoG : List (Nat × FSpec tb) := [(26, law9_NS), (25, fun_OneS)]
theorem law11_twoG_ok : AllSound Tryz.prog tb law11_twoG := (.cons law9_N_sound (.cons fun_One_sound .nil))
def law11_two_l1F (back : List Int × List (Arg) × Int → Option (List (Arg))) (x : List Int × List (Arg) × Int) : Option (List (Arg)) :=
  brn (decide (x.2.snd < (↑x.fst.length : Int)))
    (obnd (idx x.fst x.2.snd) fun y => obnd (law9_NF y) fun y => obnd (fun_OneF y) fun y => obnd (app 32 x.2.fst [y]) fun zs => back (x.fst, zs, IntKind.i64.wrap (x.2.snd + 1)))
    (some x.2.1)
def law11_two_l1J : List Int × List (Arg) × Int → Option (List (Arg)) := iter law11_two_l1F big
def law11_two_l1C : CutSpec tb := ⟨36, [(0, .val 73), (3, .own 48), (4, .val 3)], [((.exit 0), [(3, .own 48)])], [5, 6, 7, 8, 11, 12, 13, 14, 15, 16, 17, 18, 19, 3, 9, 10, 4], law11_two_l1J⟩
theorem law11_two_l1_eq : ∀ back x, evLoop Tryz.prog tb law11_twoG [] (loopAt 36 Tryz.f56) law11_two_l1C.ins law11_two_l1C.outs back x = law11_two_l1F back x := fun back x => by kernel_rfl
theorem law11_two_l1_k : cutB Tryz.f56.ntmps law11_two_l1C (loopAt 36 Tryz.f56) = true := by kernel_rfl
theorem law11_two_l1_in : cutsOf ([] : List (CutSpec tb)) (loopAt 36 Tryz.f56) = [] := by kernel_rfl
theorem law11_two_l1_cut : CutSound Tryz.prog tb Tryz.f56.ntmps (.loop (loopAt 36 Tryz.f56)) law11_two_l1C := loop_it mixed law11_two_l1_k law11_twoG_ok rfl law11_two_l1_in .nil law11_two_l1F law11_two_l1_eq rfl
def law11_twoF (x : List Int) : Option (List (Arg)) :=
  obnd (law11_two_l1J (x, [], 0)) fun y => some y
def law11_twoS : FSpec tb := ⟨[(0, .val 73)], [(0, .own 48)], law11_twoF⟩
theorem law11_two_eq : ∀ x, evFn Tryz.prog tb law11_twoG [law11_two_l1C] Tryz.f56 law11_twoS.ins law11_twoS.outs x = law11_twoS.f x := fun x => by kernel_rfl
theorem law11_two_k : fnK Tryz.f56 law11_twoS.ins law11_twoS.outs = true := by kernel_rfl
theorem law11_two_in : cutsOf ([law11_two_l1C] : List (CutSpec tb)) (bodyOf Tryz.f56) = [(36, .loop (loopAt 36 Tryz.f56))] := by kernel_rfl
theorem law11_two_sound : FnSound Tryz.prog tb 56 law11_twoS := fn_cut mixed Tryz.func56 law11_two_k law11_twoG_ok rfl law11_two_in (.cons rfl law11_two_l1_cut rfl .nil) law11_two_eq
def ref13_OfNumF (x : Dec) : Option (Val) :=
  some { Kind := 1, N := x, S := [], B := false, E := 0 }
def ref13_OfNumS : FSpec tb := ⟨[(0, .val 26)], [(0, .val 28)], ref13_OfNumF⟩
theorem ref13_OfNum_eq : ∀ x, evFn Tryz.prog tb [] [] Tryz.f161 ref13_OfNumS.ins ref13_OfNumS.outs x = ref13_OfNumS.f x := fun x => by kernel_rfl
theorem ref13_OfNum_k : fnK Tryz.f161 ref13_OfNumS.ins ref13_OfNumS.outs = true := by kernel_rfl
theorem ref13_OfNum_sound : FnSound Tryz.prog tb 161 ref13_OfNumS := fn_ev mixed Tryz.func161 ref13_OfNum_k .nil rfl ref13_OfNum_eq
def ref13_OfDecF (x : Dec × Int) : Option (Val) :=
  brn (decide (x.snd = 0)) (obnd (ref13_OfNumF x.fst) fun y => some y) (brn (decide (x.snd = 9)) (obnd (ref13_FaultF 7) fun y => some y) (obnd (ref13_FaultF 36) fun y => some y))
def ref13_OfDecS : FSpec tb := ⟨[(0, .val 26), (1, .val 3)], [(0, .val 28)], ref13_OfDecF⟩
theorem ref13_OfDec_eq : ∀ x, evFn Tryz.prog tb [(161, ref13_OfNumS), (77, ref13_FaultS)] [] Tryz.f113 ref13_OfDecS.ins ref13_OfDecS.outs x = ref13_OfDecS.f x := fun x => by kernel_rfl
theorem ref13_OfDec_k : fnK Tryz.f113 ref13_OfDecS.ins ref13_OfDecS.outs = true := by kernel_rfl
theorem ref13_OfDec_sound : FnSound Tryz.prog tb 113 ref13_OfDecS := fn_ev mixed Tryz.func113 ref13_OfDec_k (.cons ref13_OfNum_sound (.cons ref13_Fault_sound .nil)) rfl ref13_OfDec_eq
def ref13_WholeF (x : Dec × Int × Int) : Option (Int × Bool) :=
  brn (decide (x.fst.S = 0)) (brn (decide (x.2.fst ≤ x.fst.M)) (some (x.fst.M, decide (x.fst.M ≤ x.2.snd))) (some (x.fst.M, false))) (some (x.fst.M, false))
def ref13_WholeS : FSpec tb := ⟨[(0, .val 26), (1, .val 2), (2, .val 2)], [(0, .val 3), (1, .val 4)], ref13_WholeF⟩
theorem ref13_Whole_eq : ∀ x, evFn Tryz.prog tb [] [] Tryz.f167 ref13_WholeS.ins ref13_WholeS.outs x = ref13_WholeS.f x := fun x => by kernel_rfl
theorem ref13_Whole_k : fnK Tryz.f167 ref13_WholeS.ins ref13_WholeS.outs = true := by kernel_rfl
theorem ref13_Whole_sound : FnSound Tryz.prog tb 167 ref13_WholeS := fn_ev mixed Tryz.func167 ref13_Whole_k .nil rfl ref13_Whole_eq
def ref13_OfBoolF (x : Bool) : Option (Val) :=
  some { Kind := 3, N := { M := 0, S := 0 }, S := [], B := x, E := 0 }
def ref13_OfBoolS : FSpec tb := ⟨[(0, .val 4)], [(0, .val 28)], ref13_OfBoolF⟩
theorem ref13_OfBool_eq : ∀ x, evFn Tryz.prog tb [] [] Tryz.f104 ref13_OfBoolS.ins ref13_OfBoolS.outs x = ref13_OfBoolS.f x := fun x => by kernel_rfl
theorem ref13_OfBool_k : fnK Tryz.f104 ref13_OfBoolS.ins ref13_OfBoolS.outs = true := by kernel_rfl
theorem ref13_OfBool_sound : FnSound Tryz.prog tb 104 ref13_OfBoolS := fn_ev mixed Tryz.func104 ref13_OfBool_k .nil rfl ref13_OfBool_eq
def ref13_OfStrF (x : List UInt8) : Option (Val) :=
  obnd (ref7_UnitsF x) fun y => brn (!decide (y.snd = 0)) (obnd (ref13_FaultF 15) fun y => some y) (some { Kind := 2, N := { M := 0, S := 0 }, S := x, B := false, E := 0 })
def ref13_OfStrS : FSpec tb := ⟨[(0, .val 9)], [(0, .val 28)], ref13_OfStrF⟩
theorem ref13_OfStr_eq : ∀ x, evFn Tryz.prog tb [(135, ref7_UnitsS), (77, ref13_FaultS)] [] Tryz.f105 ref13_OfStrS.ins ref13_OfStrS.outs x = ref13_OfStrS.f x := fun x => by kernel_rfl
theorem ref13_OfStr_k : fnK Tryz.f105 ref13_OfStrS.ins ref13_OfStrS.outs = true := by kernel_rfl
theorem ref13_OfStr_sound : FnSound Tryz.prog tb 105 ref13_OfStrS := fn_ev mixed Tryz.func105 ref13_OfStr_k (.cons ref7_Units_sound (.cons ref13_Fault_sound .nil)) rfl ref13_OfStr_eq
abbrev ref13_powerG : List (Nat × FSpec tb) := [(167, ref13_WholeS), (77, ref13_FaultS), (110, ref7_MulDecS), (113, ref13_OfDecS), (111, ref7_DivDecS), (161, ref13_OfNumS)]
theorem ref13_powerG_ok : AllSound Tryz.prog tb ref13_powerG := (.cons ref13_Whole_sound (.cons ref13_Fault_sound (.cons ref7_MulDec_sound (.cons ref13_OfDec_sound (.cons ref7_DivDec_sound (.cons ref13_OfNum_sound .nil))))))
def ref13_power_l1F (back : Dec × Val × Int × Dec × Int → Option (((Unit) × (Val × Dec)) ⊕ ((Unit) × (Val × Dec)))) (x : Dec × Val × Int × Dec × Int) : Option (((Unit) × (Val × Dec)) ⊕ ((Unit) × (Val × Dec))) :=
  brn (decide (x.2.2.2.snd < x.2.2.fst))
    (obnd (ref7_MulDecF (x.2.2.2.fst, x.fst)) fun y =>
      brn (!decide (y.snd = 0)) (obnd (ref13_OfDecF y) fun y => some (Sum.inr ((), y, x.2.2.2.fst))) (back (x.fst, x.2.fst, x.2.2.fst, y.fst, IntKind.i64.wrap (x.2.2.2.snd + 1))))
    (some (Sum.inl ((), x.2.fst, x.2.2.2.fst)))
def ref13_power_l1J : Dec × Val × Int × Dec × Int → Option (((Unit) × (Val × Dec)) ⊕ ((Unit) × (Val × Dec))) := iter ref13_power_l1F big
def ref13_power_l1C : CutSpec tb := ⟨84, [(2, .ro 26), (4, .ref 28), (7, .val 3), (8, .ref 26), (9, .val 3)], [((.exit 0), []), (.ret, [])], [28, 29, 30, 34, 35, 36, 33, 37, 38, 10, 11, 39, 40, 41, 42, 43, 44, 31, 32, 9], ref13_power_l1J⟩
theorem ref13_power_l1_eq : ∀ back x, evLoop Tryz.prog tb ref13_powerG [] (loopAt 84 Tryz.f112) ref13_power_l1C.ins ref13_power_l1C.outs back x = ref13_power_l1F back x := fun back x => by kernel_rfl
theorem ref13_power_l1_k : cutB Tryz.f112.ntmps ref13_power_l1C (loopAt 84 Tryz.f112) = true := by kernel_rfl
theorem ref13_power_l1_in : cutsOf ([] : List (CutSpec tb)) (loopAt 84 Tryz.f112) = [] := by kernel_rfl
theorem ref13_power_l1_cut : CutSound Tryz.prog tb Tryz.f112.ntmps (.loop (loopAt 84 Tryz.f112)) ref13_power_l1C := loop_it mixed ref13_power_l1_k ref13_powerG_ok rfl ref13_power_l1_in .nil ref13_power_l1F ref13_power_l1_eq rfl
def ref13_powerF (x : Dec × Dec) : Option (Val) :=
  obnd (ref13_WholeF (x.snd, -64, 64)) fun y =>
    brn (!y.snd) (obnd (ref13_FaultF 36) fun y => some y)
      (brn (decide (y.fst < 0))
        (obnd (ref13_power_l1J (x.fst, { Kind := 0, N := { M := 0, S := 0 }, S := [], B := false, E := 0 }, IntKind.i64.wrap (0 - y.fst), { M := 1, S := 0 }, 0)) fun y_1 =>
          osum y_1
            (fun y_2 =>
              brn (decide (y.fst < 0)) (obnd (ref7_DivDecF ({ M := 1, S := 0 }, y_2.2.snd)) fun y => obnd (ref13_OfDecF y) fun y => some y)
                (obnd (ref13_OfNumF y_2.2.snd) fun y => some y))
            fun y => some y.2.fst)
        (obnd (ref13_power_l1J (x.fst, { Kind := 0, N := { M := 0, S := 0 }, S := [], B := false, E := 0 }, y.fst, { M := 1, S := 0 }, 0)) fun y_1 =>
          osum y_1
            (fun y_2 =>
              brn (decide (y.fst < 0)) (obnd (ref7_DivDecF ({ M := 1, S := 0 }, y_2.2.snd)) fun y => obnd (ref13_OfDecF y) fun y => some y)
                (obnd (ref13_OfNumF y_2.2.snd) fun y => some y))
            fun y => some y.2.fst))
def ref13_powerS : FSpec tb := ⟨[(0, .val 26), (1, .val 26)], [(0, .val 28)], ref13_powerF⟩
theorem ref13_power_eq : ∀ x, evFn Tryz.prog tb ref13_powerG [ref13_power_l1C] Tryz.f112 ref13_powerS.ins ref13_powerS.outs x = ref13_powerS.f x := fun x => by kernel_rfl
theorem ref13_power_k : fnK Tryz.f112 ref13_powerS.ins ref13_powerS.outs = true := by kernel_rfl
theorem ref13_power_in : cutsOf ([ref13_power_l1C] : List (CutSpec tb)) (bodyOf Tryz.f112) = [(84, .loop (loopAt 84 Tryz.f112))] := by kernel_rfl
theorem ref13_power_sound : FnSound Tryz.prog tb 112 ref13_powerS := fn_cut mixed Tryz.func112 ref13_power_k ref13_powerG_ok rfl ref13_power_in (.cons rfl ref13_power_l1_cut rfl .nil) ref13_power_eq
abbrev ref13_BinaryG : List (Nat × FSpec tb) := [(77, ref13_FaultS), (103, ref13_CompareValsS), (104, ref13_OfBoolS), (106, ref13_ValTextS), (105, ref13_OfStrS), (107, ref13_NumberS), (108, ref7_AddDecS), (109, ref7_SubDecS), (110, ref7_MulDecS), (111, ref7_DivDecS), (112, ref13_powerS), (113, ref13_OfDecS)]
theorem ref13_BinaryG_ok : AllSound Tryz.prog tb ref13_BinaryG := (.cons ref13_Fault_sound (.cons ref13_CompareVals_sound (.cons ref13_OfBool_sound (.cons ref13_ValText_sound (.cons ref13_OfStr_sound (.cons ref13_Number_sound (.cons ref7_AddDec_sound (.cons ref7_SubDec_sound (.cons ref7_MulDec_sound (.cons ref7_DivDec_sound (.cons ref13_power_sound (.cons ref13_OfDec_sound .nil))))))))))))
def ref13_Binary_b1J (x : Int) : Option (Bool) :=
  brn (decide (x < 1)) (some true) (some (decide (12 < x)))
def ref13_Binary_b1C : CutSpec tb := ⟨48, [(0, .val 3)], [(.normal, [(29, .val 4)])], [24, 25, 26, 27, 28, 29], ref13_Binary_b1J⟩
theorem ref13_Binary_b1_eq : ∀ x, evBlk Tryz.prog tb ref13_BinaryG [] (codeAt 48 Tryz.f39) ref13_Binary_b1C.ins ref13_Binary_b1C.outs x = ref13_Binary_b1C.J x := fun x => by kernel_rfl
theorem ref13_Binary_b1_k : cutB Tryz.f39.ntmps ref13_Binary_b1C (codeAt 48 Tryz.f39) = true := by kernel_rfl
theorem ref13_Binary_b1_in : cutsOf ([] : List (CutSpec tb)) (codeAt 48 Tryz.f39) = [] := by kernel_rfl
theorem ref13_Binary_b1_cut : CutSound Tryz.prog tb Tryz.f39.ntmps (codeAt 48 Tryz.f39) ref13_Binary_b1C := blk_ev mixed ref13_Binary_b1_k ref13_BinaryG_ok rfl ref13_Binary_b1_in .nil ref13_Binary_b1_eq
def ref13_BinaryF (x : Int × Val × Val) : Option (Val) :=
  brn (decide (x.2.fst.Kind = 4)) (some x.2.fst)
    (brn (decide (x.2.snd.Kind = 4)) (some x.2.snd)
      (obnd (ref13_Binary_b1J x.fst) fun y =>
        brn y (obnd (ref13_FaultF 15) fun y => some y)
          (brn (decide (7 ≤ x.fst))
            (obnd (ref13_CompareValsF x.2) fun y =>
              brn (decide (x.fst = 7)) (obnd (ref13_OfBoolF (decide (y = 0))) fun y => some y)
                (brn (decide (x.fst = 8)) (obnd (ref13_OfBoolF !decide (y = 0)) fun y => some y)
                  (brn (decide (x.fst = 9)) (obnd (ref13_OfBoolF (decide (y < 0))) fun y => some y)
                    (brn (decide (x.fst = 10)) (obnd (ref13_OfBoolF (decide (y ≤ 0))) fun y => some y)
                      (brn (decide (x.fst = 11)) (obnd (ref13_OfBoolF (decide (0 < y))) fun y => some y) (obnd (ref13_OfBoolF (decide (0 ≤ y))) fun y => some y))))))
            (brn (decide (x.fst = 6))
              (obnd (ref13_ValTextF x.2.fst) fun y => obnd (ref13_ValTextF x.2.snd) fun y_1 => obnd (cat y y_1) fun z => obnd (ref13_OfStrF z) fun y => some y)
              (obnd (ref13_NumberF x.2.fst) fun y =>
                brn (!y.2.snd) (some y.2.fst)
                  (obnd (ref13_NumberF x.2.snd) fun y_1 =>
                    brn (!y_1.2.snd) (some y_1.2.fst)
                      (brn (decide (x.fst = 1)) (obnd (ref7_AddDecF (y.fst, y_1.fst)) fun y => obnd (ref13_OfDecF y) fun y => some y)
                        (brn (decide (x.fst = 2)) (obnd (ref7_SubDecF (y.fst, y_1.fst)) fun y => obnd (ref13_OfDecF y) fun y => some y)
                          (brn (decide (x.fst = 3)) (obnd (ref7_MulDecF (y.fst, y_1.fst)) fun y => obnd (ref13_OfDecF y) fun y => some y)
                            (brn (decide (x.fst = 4)) (obnd (ref7_DivDecF (y.fst, y_1.fst)) fun y => obnd (ref13_OfDecF y) fun y => some y)
                              (brn (decide (x.fst = 5)) (obnd (ref13_powerF (y.fst, y_1.fst)) fun y => some y)
                                (obnd (ref13_OfDecF ({ M := 0, S := 0 }, 0)) fun y => some y))))))))))))
def ref13_BinaryS : FSpec tb := ⟨[(0, .val 3), (1, .val 28), (2, .val 28)], [(0, .val 28)], ref13_BinaryF⟩
theorem ref13_Binary_eq : ∀ x, evFn Tryz.prog tb ref13_BinaryG [ref13_Binary_b1C] Tryz.f39 ref13_BinaryS.ins ref13_BinaryS.outs x = ref13_BinaryS.f x := fun x => by kernel_rfl
theorem ref13_Binary_k : fnK Tryz.f39 ref13_BinaryS.ins ref13_BinaryS.outs = true := by kernel_rfl
theorem ref13_Binary_in : cutsOf ([ref13_Binary_b1C] : List (CutSpec tb)) (bodyOf Tryz.f39) = [(48, codeAt 48 Tryz.f39)] := by kernel_rfl
theorem ref13_Binary_sound : FnSound Tryz.prog tb 39 ref13_BinaryS := fn_cut mixed Tryz.func39 ref13_Binary_k ref13_BinaryG_ok rfl ref13_Binary_in (.cons rfl ref13_Binary_b1_cut rfl .nil) ref13_Binary_eq
def ref13_UnaryF (x : Int × Val) : Option (Val) :=
  brn (decide (x.fst = 2)) (some x.snd)
    (obnd (ref13_NumberF x.snd) fun y =>
      brn (!decide (x.fst = 1))
        (brn (!decide (x.fst = 3)) (obnd (ref13_FaultF 15) fun y => some y)
          (brn (!y.2.snd) (some y.2.fst)
            (brn (decide (x.fst = 1)) (obnd (ref7_SubDecF ({ M := 0, S := 0 }, y.fst)) fun y => obnd (ref13_OfDecF y) fun y => some y)
              (obnd (ref7_DivDecF (y.fst, { M := 100, S := 0 })) fun y => obnd (ref13_OfDecF y) fun y => some y))))
        (brn (!y.2.snd) (some y.2.fst)
          (brn (decide (x.fst = 1)) (obnd (ref7_SubDecF ({ M := 0, S := 0 }, y.fst)) fun y => obnd (ref13_OfDecF y) fun y => some y)
            (obnd (ref7_DivDecF (y.fst, { M := 100, S := 0 })) fun y => obnd (ref13_OfDecF y) fun y => some y))))
def ref13_UnaryS : FSpec tb := ⟨[(0, .val 3), (1, .val 28)], [(0, .val 28)], ref13_UnaryF⟩
theorem ref13_Unary_eq : ∀ x, evFn Tryz.prog tb [(107, ref13_NumberS), (77, ref13_FaultS), (109, ref7_SubDecS), (113, ref13_OfDecS), (111, ref7_DivDecS)] [] Tryz.f41 ref13_UnaryS.ins ref13_UnaryS.outs x = ref13_UnaryS.f x := fun x => by kernel_rfl
theorem ref13_Unary_k : fnK Tryz.f41 ref13_UnaryS.ins ref13_UnaryS.outs = true := by kernel_rfl
theorem ref13_Unary_sound : FnSound Tryz.prog tb 41 ref13_UnaryS := fn_ev mixed Tryz.func41 ref13_Unary_k (.cons ref13_Number_sound (.cons ref13_Fault_sound (.cons ref7_SubDec_sound (.cons ref13_OfDec_sound (.cons ref7_DivDec_sound .nil))))) rfl ref13_Unary_eq
end Go.Proofs.YtdgpkbnnljblmaaGreatDoor
