/- The document's functions: what each computes, and that it does. (by gen.py) -/
import Derived.Test.YtdgpkbnnljblmaaGreatDoorG1
namespace Go.Proofs.YtdgpkbnnljblmaaGreatDoor
open Go Go.Ev
set_option linter.unusedVariables false


/-! ### law11_two -/
abbrev law11_twoG : List (Nat × FSpec tb) := [(26, law9_NS), (25, fun_OneS)]
theorem law11_twoG_ok : AllSound Tryz.prog tb law11_twoG := (.cons law9_N_sound (.cons fun_One_sound .nil))
def law11_two_l1F (back : List Int × List (Arg) × Int → Option (List (Arg))) (x : List Int × List (Arg) × Int) : Option (List (Arg)) :=
  brn (decide (x.2.snd < (↑x.fst.length : Int)))
    (obnd (idx x.fst x.2.snd) fun y => obnd (law9_NF y) fun y => obnd (fun_OneF y) fun y => obnd (app 32 x.2.fst [y]) fun zs => back (x.fst, zs, IntKind.i64.wrap (x.2.snd + 1)))
    (some x.2.1)
def law11_two_l1J : List Int × List (Arg) × Int → Option (List (Arg)) := iter law11_two_l1F big
def law11_two_l1C : CutSpec tb := ⟨36, [(0, .val 73), (3, .own 48), (4, .val 3)], [((.exit 0), [(3, .own 48)])], [5, 6, 7, 8, 11, 12, 13, 14, 15, 16, 17, 18, 19, 3, 9, 10, 4], law11_two_l1J⟩
theorem law11_two_l1_eq : ∀ back x, evLoop Tryz.prog tb law11_twoG [] (loopAt 36 Tryz.f56) law11_two_l1C.ins law11_two_l1C.outs back x = law11_two_l1F back x := fun back x => by kernel_rfl
theorem law11_two_l1_k : cutB Tryz.f56.ntmps law11_two_l1C (loopAt 36 Tryz.f56) = true := by kernel_rfl
theorem law11_two_l1_in : cutsOf ([] : List (CutSpec tb)) (loopAt 36 Tryz.f56) = [] := by kernel_rfl
theorem law11_two_l1_cut : CutSound Tryz.prog tb Tryz.f56.ntmps (.loop (loopAt 36 Tryz.f56)) law11_two_l1C := loop_it mixed law11_two_l1_k law11_twoG_ok rfl law11_two_l1_in .nil law11_two_l1F law11_two_l1_eq rfl
def law11_twoF (x : List Int) : Option (List (Arg)) :=
  obnd (law11_two_l1J (x, [], 0)) fun y => some y
def law11_twoS : FSpec tb := ⟨[(0, .val 73)], [(0, .own 48)], law11_twoF⟩
theorem law11_two_eq : ∀ x, evFn Tryz.prog tb law11_twoG [law11_two_l1C] Tryz.f56 law11_twoS.ins law11_twoS.outs x = law11_twoS.f x := fun x => by kernel_rfl
theorem law11_two_k : fnK Tryz.f56 law11_twoS.ins law11_twoS.outs = true := by kernel_rfl
theorem law11_two_in : cutsOf ([law11_two_l1C] : List (CutSpec tb)) (bodyOf Tryz.f56) = [(36, .loop (loopAt 36 Tryz.f56))] := by kernel_rfl
theorem law11_two_sound : FnSound Tryz.prog tb 56 law11_twoS := fn_cut mixed Tryz.func56 law11_two_k law11_twoG_ok rfl law11_two_in (.cons rfl law11_two_l1_cut rfl .nil) law11_two_eq

/-! ### law11_good -/
abbrev law11_goodG : List (Nat × FSpec tb) := [(57, ref13_CheckValS)]
theorem law11_goodG_ok : AllSound Tryz.prog tb law11_goodG := (.cons ref13_CheckVal_sound .nil)
def law11_good_l2F (back : List Arg × Int × Int → Option ((Unit) ⊕ (Bool))) (x : List Arg × Int × Int) : Option ((Unit) ⊕ (Bool)) :=
  obnd (idx x.fst x.2.fst) fun y =>
    brn (decide (x.2.snd < (↑y.L.length : Int)))
      (obnd (idx x.fst x.2.fst) fun y =>
        obnd (idx y.L x.2.snd) fun y =>
          brn (decide (3000 < (↑y.S.length : Int))) (some (Sum.inr false))
            (obnd (idx x.fst x.2.fst) fun y =>
              obnd (idx y.L x.2.snd) fun y => obnd (ref13_CheckValF y) fun y => brn (!decide (y = 0)) (some (Sum.inr false)) (back (x.fst, x.2.fst, IntKind.i64.wrap (x.2.snd + 1)))))
      (some (Sum.inl PUnit.unit))
def law11_good_l2J : List Arg × Int × Int → Option ((Unit) ⊕ (Bool)) := iter law11_good_l2F big
def law11_good_l2C : CutSpec tb := ⟨84, [(0, .val 22), (3, .val 3), (4, .val 3)], [((.exit 2), []), (.ret, [(2, .val 4)])], [21, 22, 23, 24, 25, 26, 27, 28, 31, 32, 33, 34, 35, 36, 37, 38, 39, 40, 41, 42, 43, 44, 45, 46, 47, 48, 49, 50, 51, 52, 53, 2, 29, 30, 4], law11_good_l2J⟩
theorem law11_good_l2_eq : ∀ back x, evLoop Tryz.prog tb law11_goodG [] (loopAt 84 Tryz.f17) law11_good_l2C.ins law11_good_l2C.outs back x = law11_good_l2F back x := fun back x => by kernel_rfl
theorem law11_good_l2_k : cutB Tryz.f17.ntmps law11_good_l2C (loopAt 84 Tryz.f17) = true := by kernel_rfl
theorem law11_good_l2_in : cutsOf ([] : List (CutSpec tb)) (loopAt 84 Tryz.f17) = [] := by kernel_rfl
theorem law11_good_l2_cut : CutSound Tryz.prog tb Tryz.f17.ntmps (.loop (loopAt 84 Tryz.f17)) law11_good_l2C := loop_it mixed law11_good_l2_k law11_goodG_ok rfl law11_good_l2_in .nil law11_good_l2F law11_good_l2_eq rfl
def law11_good_l1F (back : List Arg × Int → Option ((Unit) ⊕ (Bool))) (x : List Arg × Int) : Option ((Unit) ⊕ (Bool)) :=
  brn (decide (x.snd < (↑x.fst.length : Int)))
    (obnd (idx x.fst x.snd) fun y =>
      brn (decide (30 < (↑y.L.length : Int))) (some (Sum.inr false))
        (obnd (law11_good_l2J (x.fst, x.snd, 0)) fun y => osum y (fun y => back (x.fst, IntKind.i64.wrap (x.snd + 1))) fun y => some (Sum.inr y)))
    (some (Sum.inl PUnit.unit))
def law11_good_l1J : List Arg × Int → Option ((Unit) ⊕ (Bool)) := iter law11_good_l1F big
def law11_good_l1C : CutSpec tb := ⟨44, [(0, .val 22), (3, .val 3)], [((.exit 0), []), (.ret, [(2, .val 4)])], [8, 9, 10, 11, 14, 15, 16, 17, 18, 19, 20, 2, 4, 21, 22, 23, 24, 25, 26, 27, 28, 31, 32, 33, 34, 35, 36, 37, 38, 39, 40, 41, 42, 43, 44, 45, 46, 47, 48, 49, 50, 51, 52, 53, 29, 30, 12, 13, 3], law11_good_l1J⟩
theorem law11_good_l1_eq : ∀ back x, evLoop Tryz.prog tb law11_goodG [law11_good_l2C] (loopAt 44 Tryz.f17) law11_good_l1C.ins law11_good_l1C.outs back x = law11_good_l1F back x := fun back x => by kernel_rfl
theorem law11_good_l1_k : cutB Tryz.f17.ntmps law11_good_l1C (loopAt 44 Tryz.f17) = true := by kernel_rfl
theorem law11_good_l1_in : cutsOf ([law11_good_l2C] : List (CutSpec tb)) (loopAt 44 Tryz.f17) = [(84, .loop (loopAt 84 Tryz.f17))] := by kernel_rfl
theorem law11_good_l1_cut : CutSound Tryz.prog tb Tryz.f17.ntmps (.loop (loopAt 44 Tryz.f17)) law11_good_l1C := loop_it mixed law11_good_l1_k law11_goodG_ok rfl law11_good_l1_in (.cons rfl law11_good_l2_cut rfl .nil) law11_good_l1F law11_good_l1_eq rfl
def law11_goodF (x : List Arg) : Option (Bool) :=
  brn (decide (30 < (↑x.length : Int))) (some false) (obnd (law11_good_l1J (x, 0)) fun y => osum y (fun y => some true) fun y => some y)
def law11_goodS : FSpec tb := ⟨[(0, .val 22)], [(0, .val 4)], law11_goodF⟩
theorem law11_good_eq : ∀ x, evFn Tryz.prog tb law11_goodG [law11_good_l1C] Tryz.f17 law11_goodS.ins law11_goodS.outs x = law11_goodS.f x := fun x => by kernel_rfl
theorem law11_good_k : fnK Tryz.f17 law11_goodS.ins law11_goodS.outs = true := by kernel_rfl
theorem law11_good_in : cutsOf ([law11_good_l1C] : List (CutSpec tb)) (bodyOf Tryz.f17) = [(44, .loop (loopAt 44 Tryz.f17))] := by kernel_rfl
theorem law11_good_sound : FnSound Tryz.prog tb 17 law11_goodS := fn_cut mixed Tryz.func17 law11_good_k law11_goodG_ok rfl law11_good_in (.cons rfl law11_good_l1_cut rfl .nil) law11_good_eq

/-! ### law11_To -/
abbrev law11_ToG : List (Nat × FSpec tb) := [(68, law9_ToS)]
theorem law11_ToG_ok : AllSound Tryz.prog tb law11_ToG := (.cons law9_To_sound .nil)
def law11_To_l2F (back : List (Val) × List Arg × Int × Arg × Int → Option ((List (Val)) × Arg)) (x : List (Val) × List Arg × Int × Arg × Int) : Option ((List (Val)) × Arg) :=
  obnd (idx x.2.fst x.2.2.fst) fun y =>
    brn (decide (x.2.2.2.snd < (↑y.L.length : Int)))
      (obnd (idx x.2.fst x.2.2.fst) fun y =>
        obnd (idx y.L x.2.2.2.snd) fun y =>
          obnd (law9_ToF y) fun y => obnd (app 56 x.fst [y]) fun zs => back (zs, x.2.fst, x.2.2.fst, { Area := x.2.2.2.fst.Area, L := zs }, IntKind.i64.wrap (x.2.2.2.snd + 1)))
      (some (x.fst, { Area := x.2.2.2.fst.Area, L := x.fst }))
def law11_To_l2J : List (Val) × List Arg × Int × Arg × Int → Option ((List (Val)) × Arg) := iter law11_To_l2F big
def law11_To_l2C : CutSpec tb := ⟨68, [(8589934597, .own 32), (0, .val 22), (4, .val 3), (5, .ref 48), (6, .val 3)], [((.exit 2), [(8589934597, .own 32)])], [19, 20, 21, 22, 23, 24, 25, 26, 29, 30, 31, 32, 33, 34, 35, 36, 37, 38, 39, 40, 41, 42, 27, 28, 6], law11_To_l2J⟩
theorem law11_To_l2_eq : ∀ back x, evLoop Tryz.prog tb law11_ToG [] (loopAt 68 Tryz.f20) law11_To_l2C.ins law11_To_l2C.outs back x = law11_To_l2F back x := fun back x => by kernel_rfl
theorem law11_To_l2_k : cutB Tryz.f20.ntmps law11_To_l2C (loopAt 68 Tryz.f20) = true := by kernel_rfl
theorem law11_To_l2_in : cutsOf ([] : List (CutSpec tb)) (loopAt 68 Tryz.f20) = [] := by kernel_rfl
theorem law11_To_l2_cut : CutSound Tryz.prog tb Tryz.f20.ntmps (.loop (loopAt 68 Tryz.f20)) law11_To_l2C := loop_it mixed law11_To_l2_k law11_ToG_ok rfl law11_To_l2_in .nil law11_To_l2F law11_To_l2_eq rfl
def law11_To_l1F (back : List Arg × List (Arg) × Int → Option (List (Arg))) (x : List Arg × List (Arg) × Int) : Option (List (Arg)) :=
  brn (decide (x.2.snd < (↑x.fst.length : Int)))
    (obnd (idx x.fst x.2.snd) fun y =>
      obnd (law11_To_l2J ([], x.fst, x.2.snd, { Area := y.Area, L := [] }, 0)) fun y =>
        obnd (app 32 x.2.fst [{ Area := y.2.Area, L := y.1 }]) fun zs => back (x.fst, zs, IntKind.i64.wrap (x.2.snd + 1)))
    (some x.2.1)
def law11_To_l1J : List Arg × List (Arg) × Int → Option (List (Arg)) := iter law11_To_l1F big
def law11_To_l1C : CutSpec tb := ⟨36, [(0, .val 22), (3, .own 48), (4, .val 3)], [((.exit 0), [(3, .own 48)])], [7, 8, 9, 10, 13, 14, 15, 16, 17, 18, 5, 6, 19, 20, 21, 22, 23, 24, 25, 26, 29, 30, 31, 32, 33, 34, 35, 36, 37, 38, 39, 40, 41, 42, 27, 28, 43, 44, 45, 46, 3, 11, 12, 4], law11_To_l1J⟩
theorem law11_To_l1_eq : ∀ back x, evLoop Tryz.prog tb law11_ToG [law11_To_l2C] (loopAt 36 Tryz.f20) law11_To_l1C.ins law11_To_l1C.outs back x = law11_To_l1F back x := fun back x => by kernel_rfl
theorem law11_To_l1_k : cutB Tryz.f20.ntmps law11_To_l1C (loopAt 36 Tryz.f20) = true := by kernel_rfl
theorem law11_To_l1_in : cutsOf ([law11_To_l2C] : List (CutSpec tb)) (loopAt 36 Tryz.f20) = [(68, .loop (loopAt 68 Tryz.f20))] := by kernel_rfl
theorem law11_To_l1_cut : CutSound Tryz.prog tb Tryz.f20.ntmps (.loop (loopAt 36 Tryz.f20)) law11_To_l1C := loop_it mixed law11_To_l1_k law11_ToG_ok rfl law11_To_l1_in (.cons rfl law11_To_l2_cut rfl .nil) law11_To_l1F law11_To_l1_eq rfl
def law11_ToF (x : List Arg) : Option (List (Arg)) :=
  obnd (law11_To_l1J (x, [], 0)) fun y => some y
def law11_ToS : FSpec tb := ⟨[(0, .val 22)], [(0, .own 48)], law11_ToF⟩
theorem law11_To_eq : ∀ x, evFn Tryz.prog tb law11_ToG [law11_To_l1C] Tryz.f20 law11_ToS.ins law11_ToS.outs x = law11_ToS.f x := fun x => by kernel_rfl
theorem law11_To_k : fnK Tryz.f20 law11_ToS.ins law11_ToS.outs = true := by kernel_rfl
theorem law11_To_in : cutsOf ([law11_To_l1C] : List (CutSpec tb)) (bodyOf Tryz.f20) = [(36, .loop (loopAt 36 Tryz.f20))] := by kernel_rfl
theorem law11_To_sound : FnSound Tryz.prog tb 20 law11_ToS := fn_cut mixed Tryz.func20 law11_To_k law11_ToG_ok rfl law11_To_in (.cons rfl law11_To_l1_cut rfl .nil) law11_To_eq

/-! ### ref13_shaped -/
def ref13_shaped_l1F (back : List Arg × Int → Option ((Unit) ⊕ (Bool))) (x : List Arg × Int) : Option ((Unit) ⊕ (Bool)) :=
  brn (decide (x.snd < (↑x.fst.length : Int)))
    (obnd (idx x.fst x.snd) fun y =>
      brn (!y.Area) (obnd (idx x.fst x.snd) fun y => brn (!decide ((↑y.L.length : Int) = 1)) (some (Sum.inr false)) (back (x.fst, IntKind.i64.wrap (x.snd + 1))))
        (back (x.fst, IntKind.i64.wrap (x.snd + 1))))
    (some (Sum.inl PUnit.unit))
def ref13_shaped_l1J : List Arg × Int → Option ((Unit) ⊕ (Bool)) := iter ref13_shaped_l1F big
def ref13_shaped_l1C : CutSpec tb := ⟨28, [(0, .val 22), (3, .val 3)], [((.exit 0), []), (.ret, [(2, .val 4)])], [4, 5, 6, 7, 10, 11, 12, 13, 14, 15, 16, 17, 18, 19, 20, 21, 22, 23, 24, 2, 8, 9, 3], ref13_shaped_l1J⟩
theorem ref13_shaped_l1_eq : ∀ back x, evLoop Tryz.prog tb [] [] (loopAt 28 Tryz.f159) ref13_shaped_l1C.ins ref13_shaped_l1C.outs back x = ref13_shaped_l1F back x := fun back x => by kernel_rfl
theorem ref13_shaped_l1_k : cutB Tryz.f159.ntmps ref13_shaped_l1C (loopAt 28 Tryz.f159) = true := by kernel_rfl
theorem ref13_shaped_l1_in : cutsOf ([] : List (CutSpec tb)) (loopAt 28 Tryz.f159) = [] := by kernel_rfl
theorem ref13_shaped_l1_cut : CutSound Tryz.prog tb Tryz.f159.ntmps (.loop (loopAt 28 Tryz.f159)) ref13_shaped_l1C := loop_it mixed ref13_shaped_l1_k .nil rfl ref13_shaped_l1_in .nil ref13_shaped_l1F ref13_shaped_l1_eq rfl
def ref13_shapedF (x : List Arg) : Option (Bool) :=
  obnd (ref13_shaped_l1J (x, 0)) fun y => osum y (fun y => some true) fun y => some y
def ref13_shapedS : FSpec tb := ⟨[(0, .val 22)], [(0, .val 4)], ref13_shapedF⟩
theorem ref13_shaped_eq : ∀ x, evFn Tryz.prog tb [] [ref13_shaped_l1C] Tryz.f159 ref13_shapedS.ins ref13_shapedS.outs x = ref13_shapedS.f x := fun x => by kernel_rfl
theorem ref13_shaped_k : fnK Tryz.f159 ref13_shapedS.ins ref13_shapedS.outs = true := by kernel_rfl
theorem ref13_shaped_in : cutsOf ([ref13_shaped_l1C] : List (CutSpec tb)) (bodyOf Tryz.f159) = [(28, .loop (loopAt 28 Tryz.f159))] := by kernel_rfl
theorem ref13_shaped_sound : FnSound Tryz.prog tb 159 ref13_shapedS := fn_cut mixed Tryz.func159 ref13_shaped_k .nil rfl ref13_shaped_in (.cons rfl ref13_shaped_l1_cut rfl .nil) ref13_shaped_eq

/-! ### ref13_numbers -/
abbrev ref13_numbersG : List (Nat × FSpec tb) := [(107, ref13_NumberS)]
theorem ref13_numbersG_ok : AllSound Tryz.prog tb ref13_numbersG := (.cons ref13_Number_sound .nil)
def ref13_numbers_b3J (x : Bool × Val × List (Dec) × Arg × Int) : Option (((List (Dec)) × Val) ⊕ ((List (Dec) × Bool) × Val)) :=
  obnd (idx x.2.2.2.fst.L x.2.2.2.snd) fun y =>
    brn x.2.2.2.fst.Area
      (brn (!decide (y.Kind = 1))
        (brn (!decide (y.Kind = 4)) (some (Sum.inl (x.2.2.fst, x.2.fst)))
          (brn x.fst (some (Sum.inl (x.2.2.fst, x.2.fst)))
            (obnd (ref13_NumberF y) fun y =>
              brn (!y.2.snd)
                (brn x.fst (some (Sum.inl (x.2.2.fst, x.2.fst)))
                  (brn (!y.2.snd) (some (Sum.inr (([], false), y.2.fst))) (obnd (app 16 x.2.2.fst [y.fst]) fun zs => some (Sum.inl (zs, x.2.fst)))))
                (brn (!y.2.snd) (some (Sum.inr (([], false), y.2.fst))) (obnd (app 16 x.2.2.fst [y.fst]) fun zs => some (Sum.inl (zs, x.2.fst)))))))
        (obnd (ref13_NumberF y) fun y =>
          brn (!y.2.snd)
            (brn x.fst (some (Sum.inl (x.2.2.fst, x.2.fst)))
              (brn (!y.2.snd) (some (Sum.inr (([], false), y.2.fst))) (obnd (app 16 x.2.2.fst [y.fst]) fun zs => some (Sum.inl (zs, x.2.fst)))))
            (brn (!y.2.snd) (some (Sum.inr (([], false), y.2.fst))) (obnd (app 16 x.2.2.fst [y.fst]) fun zs => some (Sum.inl (zs, x.2.fst))))))
      (obnd (ref13_NumberF y) fun y =>
        brn (!y.2.snd)
          (brn x.fst (some (Sum.inl (x.2.2.fst, x.2.fst)))
            (brn (!y.2.snd) (some (Sum.inr (([], false), y.2.fst))) (obnd (app 16 x.2.2.fst [y.fst]) fun zs => some (Sum.inl (zs, x.2.fst)))))
          (brn (!y.2.snd) (some (Sum.inr (([], false), y.2.fst))) (obnd (app 16 x.2.2.fst [y.fst]) fun zs => some (Sum.inl (zs, x.2.fst)))))
def ref13_numbers_b3C : CutSpec tb := ⟨83, [(1, .val 4), (5, .ref 28), (7, .own 26), (9, .ro 124), (10, .val 3)], [(.normal, [(7, .own 26)]), (.ret, [(4, .own 26), (6, .val 4)])], [32, 33, 34, 35, 36, 11, 37, 38, 39, 40, 41, 42, 43, 44, 45, 46, 47, 48, 49, 50, 51, 53, 54, 52, 55, 56, 57, 12, 13, 14, 58, 59, 60, 61, 62, 63, 64, 65, 4, 6, 66, 67, 68, 69, 7], ref13_numbers_b3J⟩
theorem ref13_numbers_b3_eq : ∀ x, evBlk Tryz.prog tb ref13_numbersG [] (codeAt 83 Tryz.f160) ref13_numbers_b3C.ins ref13_numbers_b3C.outs x = ref13_numbers_b3C.J x := fun x => by kernel_rfl
theorem ref13_numbers_b3_k : cutB Tryz.f160.ntmps ref13_numbers_b3C (codeAt 83 Tryz.f160) = true := by kernel_rfl
theorem ref13_numbers_b3_in : cutsOf ([] : List (CutSpec tb)) (codeAt 83 Tryz.f160) = [] := by kernel_rfl
theorem ref13_numbers_b3_cut : CutSound Tryz.prog tb Tryz.f160.ntmps (codeAt 83 Tryz.f160) ref13_numbers_b3C := blk_ev mixed ref13_numbers_b3_k ref13_numbersG_ok rfl ref13_numbers_b3_in .nil ref13_numbers_b3_eq
def ref13_numbers_l2F (back : Bool × Val × List (Dec) × Arg × Int → Option (((List (Dec)) × Val) ⊕ ((List (Dec) × Bool) × Val))) (x : Bool × Val × List (Dec) × Arg × Int) : Option (((List (Dec)) × Val) ⊕ ((List (Dec) × Bool) × Val)) :=
  brn (decide (x.2.2.2.snd < (↑x.2.2.2.fst.L.length : Int)))
    (obnd (ref13_numbers_b3J (x.fst, x.2.fst, x.2.2.fst, x.2.2.2)) fun y =>
      osum y (fun y => back (x.fst, y.2, y.1, x.2.2.2.fst, IntKind.i64.wrap (x.2.2.2.snd + 1))) fun y => some (Sum.inr (y.1, y.2)))
    (some (Sum.inl (x.2.2.fst, x.2.fst)))
def ref13_numbers_l2J : Bool × Val × List (Dec) × Arg × Int → Option (((List (Dec)) × Val) ⊕ ((List (Dec) × Bool) × Val)) := iter ref13_numbers_l2F big
def ref13_numbers_l2C : CutSpec tb := ⟨68, [(1, .val 4), (5, .ref 28), (7, .own 26), (9, .ro 124), (10, .val 3)], [((.exit 2), [(7, .own 26)]), (.ret, [(4, .own 26), (6, .val 4)])], [25, 26, 27, 28, 29, 32, 33, 34, 35, 36, 11, 37, 38, 39, 40, 41, 42, 43, 44, 45, 46, 47, 48, 49, 50, 51, 53, 54, 52, 55, 56, 57, 12, 13, 14, 58, 59, 60, 61, 62, 63, 64, 65, 4, 6, 66, 67, 68, 69, 7, 30, 31, 10], ref13_numbers_l2J⟩
theorem ref13_numbers_l2_eq : ∀ back x, evLoop Tryz.prog tb ref13_numbersG [ref13_numbers_b3C] (loopAt 68 Tryz.f160) ref13_numbers_l2C.ins ref13_numbers_l2C.outs back x = ref13_numbers_l2F back x := fun back x => by kernel_rfl
theorem ref13_numbers_l2_k : cutB Tryz.f160.ntmps ref13_numbers_l2C (loopAt 68 Tryz.f160) = true := by kernel_rfl
theorem ref13_numbers_l2_in : cutsOf ([ref13_numbers_b3C] : List (CutSpec tb)) (loopAt 68 Tryz.f160) = [(83, codeAt 83 Tryz.f160)] := by kernel_rfl
theorem ref13_numbers_l2_cut : CutSound Tryz.prog tb Tryz.f160.ntmps (.loop (loopAt 68 Tryz.f160)) ref13_numbers_l2C := loop_it mixed ref13_numbers_l2_k ref13_numbersG_ok rfl ref13_numbers_l2_in (.cons rfl ref13_numbers_b3_cut rfl .nil) ref13_numbers_l2F ref13_numbers_l2_eq rfl
def ref13_numbers_l1F (back : List Arg × Bool × Val × List (Dec) × Int → Option (((List (Dec)) × Val) ⊕ ((List (Dec) × Bool) × Val))) (x : List Arg × Bool × Val × List (Dec) × Int) : Option (((List (Dec)) × Val) ⊕ ((List (Dec) × Bool) × Val)) :=
  brn (decide (x.2.2.2.snd < (↑x.fst.length : Int)))
    (obnd (idx x.fst x.2.2.2.snd) fun y =>
      obnd (ref13_numbers_l2J (x.2.fst, x.2.2.fst, x.2.2.2.fst, y, 0)) fun y =>
        osum y (fun y => back (x.fst, x.2.fst, y.2, y.1, IntKind.i64.wrap (x.2.2.2.snd + 1))) fun y => some (Sum.inr (y.1, y.2)))
    (some (Sum.inl (x.2.2.2.fst, x.2.2.fst)))
def ref13_numbers_l1J : List Arg × Bool × Val × List (Dec) × Int → Option (((List (Dec)) × Val) ⊕ ((List (Dec) × Bool) × Val)) := iter ref13_numbers_l1F big
def ref13_numbers_l1C : CutSpec tb := ⟨36, [(0, .val 22), (1, .val 4), (5, .ref 28), (7, .own 26), (8, .val 3)], [((.exit 0), [(7, .own 26)]), (.ret, [(4, .own 26), (6, .val 4)])], [15, 16, 17, 18, 21, 22, 23, 24, 9, 10, 25, 26, 27, 28, 29, 32, 33, 34, 35, 36, 11, 37, 38, 39, 40, 41, 42, 43, 44, 45, 46, 47, 48, 49, 50, 51, 53, 54, 52, 55, 56, 57, 12, 13, 14, 58, 59, 60, 61, 62, 63, 64, 65, 4, 6, 66, 67, 68, 69, 7, 30, 31, 19, 20, 8], ref13_numbers_l1J⟩
theorem ref13_numbers_l1_eq : ∀ back x, evLoop Tryz.prog tb ref13_numbersG [ref13_numbers_l2C] (loopAt 36 Tryz.f160) ref13_numbers_l1C.ins ref13_numbers_l1C.outs back x = ref13_numbers_l1F back x := fun back x => by kernel_rfl
theorem ref13_numbers_l1_k : cutB Tryz.f160.ntmps ref13_numbers_l1C (loopAt 36 Tryz.f160) = true := by kernel_rfl
theorem ref13_numbers_l1_in : cutsOf ([ref13_numbers_l2C] : List (CutSpec tb)) (loopAt 36 Tryz.f160) = [(68, .loop (loopAt 68 Tryz.f160))] := by kernel_rfl
theorem ref13_numbers_l1_cut : CutSound Tryz.prog tb Tryz.f160.ntmps (.loop (loopAt 36 Tryz.f160)) ref13_numbers_l1C := loop_it mixed ref13_numbers_l1_k ref13_numbersG_ok rfl ref13_numbers_l1_in (.cons rfl ref13_numbers_l2_cut rfl .nil) ref13_numbers_l1F ref13_numbers_l1_eq rfl
def ref13_numbersF (x : List Arg × Bool) : Option (List (Dec) × Val × Bool) :=
  obnd (ref13_numbers_l1J (x.fst, x.snd, { Kind := 0, N := { M := 0, S := 0 }, S := [], B := false, E := 0 }, [], 0)) fun y =>
    osum y (fun y => some (y.1, { Kind := 0, N := { M := 0, S := 0 }, S := [], B := false, E := 0 }, true)) fun y => some (y.1.fst, y.2, y.1.snd)
def ref13_numbersS : FSpec tb := ⟨[(0, .val 22), (1, .val 4)], [(0, .own 26), (1, .val 28), (2, .val 4)], ref13_numbersF⟩
theorem ref13_numbers_eq : ∀ x, evFn Tryz.prog tb ref13_numbersG [ref13_numbers_l1C] Tryz.f160 ref13_numbersS.ins ref13_numbersS.outs x = ref13_numbersS.f x := fun x => by kernel_rfl
theorem ref13_numbers_k : fnK Tryz.f160 ref13_numbersS.ins ref13_numbersS.outs = true := by kernel_rfl
theorem ref13_numbers_in : cutsOf ([ref13_numbers_l1C] : List (CutSpec tb)) (bodyOf Tryz.f160) = [(36, .loop (loopAt 36 Tryz.f160))] := by kernel_rfl
theorem ref13_numbers_sound : FnSound Tryz.prog tb 160 ref13_numbersS := fn_cut mixed Tryz.func160 ref13_numbers_k ref13_numbersG_ok rfl ref13_numbers_in (.cons rfl ref13_numbers_l1_cut rfl .nil) ref13_numbers_eq

/-! ### ref13_OfNum -/
def ref13_OfNumF (x : Dec) : Option (Val) :=
  some { Kind := 1, N := x, S := [], B := false, E := 0 }
def ref13_OfNumS : FSpec tb := ⟨[(0, .val 26)], [(0, .val 28)], ref13_OfNumF⟩
theorem ref13_OfNum_eq : ∀ x, evFn Tryz.prog tb [] [] Tryz.f161 ref13_OfNumS.ins ref13_OfNumS.outs x = ref13_OfNumS.f x := fun x => by kernel_rfl
theorem ref13_OfNum_k : fnK Tryz.f161 ref13_OfNumS.ins ref13_OfNumS.outs = true := by kernel_rfl
theorem ref13_OfNum_sound : FnSound Tryz.prog tb 161 ref13_OfNumS := fn_ev mixed Tryz.func161 ref13_OfNum_k .nil rfl ref13_OfNum_eq

/-! ### ref13_sum -/
abbrev ref13_sumG : List (Nat × FSpec tb) := [(108, ref7_AddDecS)]
theorem ref13_sumG_ok : AllSound Tryz.prog tb ref13_sumG := (.cons ref7_AddDec_sound .nil)
def ref13_sum_l1F (back : List Dec × Dec × Dec × Int → Option (((Unit) × (Dec × Dec)) ⊕ ((Int) × (Dec × Dec)))) (x : List Dec × Dec × Dec × Int) : Option (((Unit) × (Dec × Dec)) ⊕ ((Int) × (Dec × Dec))) :=
  brn (decide (x.2.2.snd < (↑x.fst.length : Int)))
    (obnd (idx x.fst x.2.2.snd) fun y =>
      obnd (ref7_AddDecF (x.2.2.fst, y)) fun y =>
        brn (!decide (y.snd = 0)) (some (Sum.inr (y.snd, { M := 0, S := 0 }, x.2.2.fst))) (back (x.fst, x.2.fst, y.fst, IntKind.i64.wrap (x.2.2.snd + 1))))
    (some (Sum.inl ((), x.2.fst, x.2.2.fst)))
def ref13_sum_l1J : List Dec × Dec × Dec × Int → Option (((Unit) × (Dec × Dec)) ⊕ ((Int) × (Dec × Dec))) := iter ref13_sum_l1F big
def ref13_sum_l1C : CutSpec tb := ⟨36, [(0, .val 240), (2, .ref 26), (4, .ref 26), (5, .val 3)], [((.exit 0), []), (.ret, [(3, .val 3)])], [9, 10, 11, 12, 16, 17, 18, 19, 20, 21, 15, 22, 23, 6, 7, 24, 25, 26, 27, 3, 28, 13, 14, 5], ref13_sum_l1J⟩
theorem ref13_sum_l1_eq : ∀ back x, evLoop Tryz.prog tb ref13_sumG [] (loopAt 36 Tryz.f163) ref13_sum_l1C.ins ref13_sum_l1C.outs back x = ref13_sum_l1F back x := fun back x => by kernel_rfl
theorem ref13_sum_l1_k : cutB Tryz.f163.ntmps ref13_sum_l1C (loopAt 36 Tryz.f163) = true := by kernel_rfl
theorem ref13_sum_l1_in : cutsOf ([] : List (CutSpec tb)) (loopAt 36 Tryz.f163) = [] := by kernel_rfl
theorem ref13_sum_l1_cut : CutSound Tryz.prog tb Tryz.f163.ntmps (.loop (loopAt 36 Tryz.f163)) ref13_sum_l1C := loop_it mixed ref13_sum_l1_k ref13_sumG_ok rfl ref13_sum_l1_in .nil ref13_sum_l1F ref13_sum_l1_eq rfl
def ref13_sumF (x : List Dec) : Option (Dec × Int) :=
  obnd (ref13_sum_l1J (x, { M := 0, S := 0 }, { M := 0, S := 0 }, 0)) fun y => osum y (fun y => some (y.2.snd, 0)) fun y => some (y.2.fst, y.1)
def ref13_sumS : FSpec tb := ⟨[(0, .val 240)], [(0, .val 26), (1, .val 3)], ref13_sumF⟩
theorem ref13_sum_eq : ∀ x, evFn Tryz.prog tb ref13_sumG [ref13_sum_l1C] Tryz.f163 ref13_sumS.ins ref13_sumS.outs x = ref13_sumS.f x := fun x => by kernel_rfl
theorem ref13_sum_k : fnK Tryz.f163 ref13_sumS.ins ref13_sumS.outs = true := by kernel_rfl
theorem ref13_sum_in : cutsOf ([ref13_sum_l1C] : List (CutSpec tb)) (bodyOf Tryz.f163) = [(36, .loop (loopAt 36 Tryz.f163))] := by kernel_rfl
theorem ref13_sum_sound : FnSound Tryz.prog tb 163 ref13_sumS := fn_cut mixed Tryz.func163 ref13_sum_k ref13_sumG_ok rfl ref13_sum_in (.cons rfl ref13_sum_l1_cut rfl .nil) ref13_sum_eq

/-! ### ref13_OfDec -/
def ref13_OfDecF (x : Dec × Int) : Option (Val) :=
  brn (decide (x.snd = 0)) (obnd (ref13_OfNumF x.fst) fun y => some y) (brn (decide (x.snd = 9)) (obnd (ref13_FaultF 7) fun y => some y) (obnd (ref13_FaultF 36) fun y => some y))
def ref13_OfDecS : FSpec tb := ⟨[(0, .val 26), (1, .val 3)], [(0, .val 28)], ref13_OfDecF⟩
theorem ref13_OfDec_eq : ∀ x, evFn Tryz.prog tb [(161, ref13_OfNumS), (77, ref13_FaultS)] [] Tryz.f113 ref13_OfDecS.ins ref13_OfDecS.outs x = ref13_OfDecS.f x := fun x => by kernel_rfl
theorem ref13_OfDec_k : fnK Tryz.f113 ref13_OfDecS.ins ref13_OfDecS.outs = true := by kernel_rfl
theorem ref13_OfDec_sound : FnSound Tryz.prog tb 113 ref13_OfDecS := fn_ev mixed Tryz.func113 ref13_OfDec_k (.cons ref13_OfNum_sound (.cons ref13_Fault_sound .nil)) rfl ref13_OfDec_eq

/-! ### ref13_folded -/
abbrev ref13_foldedG : List (Nat × FSpec tb) := [(159, ref13_shapedS), (77, ref13_FaultS), (160, ref13_numbersS), (161, ref13_OfNumS), (162, ref7_CompareDecS), (163, ref13_sumS), (111, ref7_DivDecS), (113, ref13_OfDecS)]
theorem ref13_foldedG_ok : AllSound Tryz.prog tb ref13_foldedG := (.cons ref13_shaped_sound (.cons ref13_Fault_sound (.cons ref13_numbers_sound (.cons ref13_OfNum_sound (.cons ref7_CompareDec_sound (.cons ref13_sum_sound (.cons ref7_DivDec_sound (.cons ref13_OfDec_sound .nil))))))))
def ref13_folded_l1F (back : Int × List Dec × Dec × Int → Option ((Unit) × Dec)) (x : Int × List Dec × Dec × Int) : Option ((Unit) × Dec) :=
  brn (decide (x.2.2.snd < (↑x.2.fst.length : Int)))
    (obnd (idx x.2.fst x.2.2.snd) fun y =>
      obnd (ref7_CompareDecF (y, x.2.2.fst)) fun y =>
        brn (decide (x.2.2.snd = 0)) (obnd (idx x.2.fst x.2.2.snd) fun y => back (x.fst, x.2.fst, y, IntKind.i64.wrap (x.2.2.snd + 1)))
          (brn (decide (x.fst = 1))
            (brn (decide (y < 0)) (obnd (idx x.2.fst x.2.2.snd) fun y => back (x.fst, x.2.fst, y, IntKind.i64.wrap (x.2.2.snd + 1)))
              (brn (decide (x.fst = 2))
                (brn (decide (0 < y)) (obnd (idx x.2.fst x.2.2.snd) fun y => back (x.fst, x.2.fst, y, IntKind.i64.wrap (x.2.2.snd + 1)))
                  (back (x.fst, x.2.fst, x.2.2.fst, IntKind.i64.wrap (x.2.2.snd + 1))))
                (back (x.fst, x.2.fst, x.2.2.fst, IntKind.i64.wrap (x.2.2.snd + 1)))))
            (brn (decide (x.fst = 2))
              (brn (decide (0 < y)) (obnd (idx x.2.fst x.2.2.snd) fun y => back (x.fst, x.2.fst, y, IntKind.i64.wrap (x.2.2.snd + 1)))
                (back (x.fst, x.2.fst, x.2.2.fst, IntKind.i64.wrap (x.2.2.snd + 1))))
              (back (x.fst, x.2.fst, x.2.2.fst, IntKind.i64.wrap (x.2.2.snd + 1))))))
    (some ((), x.2.2.fst))
def ref13_folded_l1J : Int × List Dec × Dec × Int → Option ((Unit) × Dec) := iter ref13_folded_l1F big
def ref13_folded_l1C : CutSpec tb := ⟨116, [(0, .val 3), (5, .val 240), (8, .ref 26), (9, .val 3)], [((.exit 1), [])], [39, 40, 41, 42, 45, 46, 47, 48, 49, 50, 10, 51, 52, 53, 54, 55, 56, 57, 58, 59, 60, 61, 62, 63, 64, 65, 66, 67, 68, 69, 70, 71, 72, 43, 44, 9], ref13_folded_l1J⟩
theorem ref13_folded_l1_eq : ∀ back x, evLoop Tryz.prog tb ref13_foldedG [] (loopAt 116 Tryz.f69) ref13_folded_l1C.ins ref13_folded_l1C.outs back x = ref13_folded_l1F back x := fun back x => by kernel_rfl
theorem ref13_folded_l1_k : cutB Tryz.f69.ntmps ref13_folded_l1C (loopAt 116 Tryz.f69) = true := by kernel_rfl
theorem ref13_folded_l1_in : cutsOf ([] : List (CutSpec tb)) (loopAt 116 Tryz.f69) = [] := by kernel_rfl
theorem ref13_folded_l1_cut : CutSound Tryz.prog tb Tryz.f69.ntmps (.loop (loopAt 116 Tryz.f69)) ref13_folded_l1C := loop_it mixed ref13_folded_l1_k ref13_foldedG_ok rfl ref13_folded_l1_in .nil ref13_folded_l1F ref13_folded_l1_eq rfl
def ref13_foldedF (x : Int × List Arg) : Option (Val) :=
  obnd (ref13_shapedF x.snd) fun y =>
    brn (!y) (obnd (ref13_FaultF 15) fun y => some y)
      (obnd (ref13_numbersF (x.snd, decide (x.fst = 3))) fun y =>
        brn (!y.2.snd) (some y.2.fst)
          (brn (decide (x.fst = 3)) (obnd (ref13_OfNumF { M := (↑(List.length y.fst) : Int), S := 0 }) fun y => some y)
            (brn (decide (x.fst = 1))
              (brn (decide (x.fst = 1)) (obnd (ref13_folded_l1J (x.fst, y.fst, { M := 0, S := 0 }, 0)) fun y => obnd (ref13_OfNumF y.2) fun y => some y)
                (obnd (ref13_sumF y.fst) fun y_1 =>
                  brn (decide (y_1.snd = 0))
                    (brn (decide (x.fst = 4)) (obnd (ref7_DivDecF (y_1.fst, { M := (↑(List.length y.fst) : Int), S := 0 })) fun y => obnd (ref13_OfDecF y) fun y => some y)
                      (obnd (ref13_OfDecF y_1) fun y => some y))
                    (obnd (ref13_OfDecF y_1) fun y => some y)))
              (brn (decide (x.fst = 2)) (obnd (ref13_folded_l1J (x.fst, y.fst, { M := 0, S := 0 }, 0)) fun y => obnd (ref13_OfNumF y.2) fun y => some y)
                (obnd (ref13_sumF y.fst) fun y_1 =>
                  brn (decide (y_1.snd = 0))
                    (brn (decide (x.fst = 4)) (obnd (ref7_DivDecF (y_1.fst, { M := (↑(List.length y.fst) : Int), S := 0 })) fun y => obnd (ref13_OfDecF y) fun y => some y)
                      (obnd (ref13_OfDecF y_1) fun y => some y))
                    (obnd (ref13_OfDecF y_1) fun y => some y))))))
def ref13_foldedS : FSpec tb := ⟨[(0, .val 3), (1, .val 22)], [(0, .val 28)], ref13_foldedF⟩
theorem ref13_folded_eq : ∀ x, evFn Tryz.prog tb ref13_foldedG [ref13_folded_l1C] Tryz.f69 ref13_foldedS.ins ref13_foldedS.outs x = ref13_foldedS.f x := fun x => by kernel_rfl
theorem ref13_folded_k : fnK Tryz.f69 ref13_foldedS.ins ref13_foldedS.outs = true := by kernel_rfl
theorem ref13_folded_in : cutsOf ([ref13_folded_l1C] : List (CutSpec tb)) (bodyOf Tryz.f69) = [(116, .loop (loopAt 116 Tryz.f69))] := by kernel_rfl
theorem ref13_folded_sound : FnSound Tryz.prog tb 69 ref13_foldedS := fn_cut mixed Tryz.func69 ref13_folded_k ref13_foldedG_ok rfl ref13_folded_in (.cons rfl ref13_folded_l1_cut rfl .nil) ref13_folded_eq

/-! ### ref13_single -/
def ref13_single_l1F (back : List Arg × Int → Option ((Unit) ⊕ (Bool))) (x : List Arg × Int) : Option ((Unit) ⊕ (Bool)) :=
  brn (decide (x.snd < (↑x.fst.length : Int)))
    (obnd (idx x.fst x.snd) fun y =>
      brn y.Area (some (Sum.inr false)) (obnd (idx x.fst x.snd) fun y => brn (!decide ((↑y.L.length : Int) = 1)) (some (Sum.inr false)) (back (x.fst, IntKind.i64.wrap (x.snd + 1)))))
    (some (Sum.inl PUnit.unit))
def ref13_single_l1J : List Arg × Int → Option ((Unit) ⊕ (Bool)) := iter ref13_single_l1F big
def ref13_single_l1C : CutSpec tb := ⟨44, [(0, .val 22), (7, .val 3)], [((.exit 0), []), (.ret, [(6, .val 4)])], [18, 19, 20, 21, 24, 25, 26, 27, 28, 29, 30, 31, 32, 33, 34, 35, 36, 37, 6, 22, 23, 7], ref13_single_l1J⟩
theorem ref13_single_l1_eq : ∀ back x, evLoop Tryz.prog tb [] [] (loopAt 44 Tryz.f164) ref13_single_l1C.ins ref13_single_l1C.outs back x = ref13_single_l1F back x := fun back x => by kernel_rfl
theorem ref13_single_l1_k : cutB Tryz.f164.ntmps ref13_single_l1C (loopAt 44 Tryz.f164) = true := by kernel_rfl
theorem ref13_single_l1_in : cutsOf ([] : List (CutSpec tb)) (loopAt 44 Tryz.f164) = [] := by kernel_rfl
theorem ref13_single_l1_cut : CutSound Tryz.prog tb Tryz.f164.ntmps (.loop (loopAt 44 Tryz.f164)) ref13_single_l1C := loop_it mixed ref13_single_l1_k .nil rfl ref13_single_l1_in .nil ref13_single_l1F ref13_single_l1_eq rfl
def ref13_singleF (x : List Arg × Int × Int) : Option (Bool) :=
  brn (decide ((↑x.fst.length : Int) < x.2.fst)) (some false)
    (brn (decide (x.2.snd < (↑x.fst.length : Int))) (some false) (obnd (ref13_single_l1J (x.fst, 0)) fun y => osum y (fun y => some true) fun y => some y))
def ref13_singleS : FSpec tb := ⟨[(0, .val 22), (1, .val 3), (2, .val 3)], [(0, .val 4)], ref13_singleF⟩
theorem ref13_single_eq : ∀ x, evFn Tryz.prog tb [] [ref13_single_l1C] Tryz.f164 ref13_singleS.ins ref13_singleS.outs x = ref13_singleS.f x := fun x => by kernel_rfl
theorem ref13_single_k : fnK Tryz.f164 ref13_singleS.ins ref13_singleS.outs = true := by kernel_rfl
theorem ref13_single_in : cutsOf ([ref13_single_l1C] : List (CutSpec tb)) (bodyOf Tryz.f164) = [(44, .loop (loopAt 44 Tryz.f164))] := by kernel_rfl
theorem ref13_single_sound : FnSound Tryz.prog tb 164 ref13_singleS := fn_cut mixed Tryz.func164 ref13_single_k .nil rfl ref13_single_in (.cons rfl ref13_single_l1_cut rfl .nil) ref13_single_eq

/-! ### ref13_more -/
def ref13_more_l1F (back : Int × Int × Int → Option ((Int) ⊕ (Int × Int))) (x : Int × Int × Int) : Option ((Int) ⊕ (Int × Int)) :=
  brn (decide (x.2.snd < x.fst))
    (brn (decide (922337203685477580 < x.2.fst)) (some (Sum.inr (0, 8)))
      (brn (decide (x.2.fst < -922337203685477580)) (some (Sum.inr (0, 8))) (back (x.fst, IntKind.i64.wrap (10 * x.2.fst), IntKind.i64.wrap (x.2.snd + 1)))))
    (some (Sum.inl x.2.1))
def ref13_more_l1J : Int × Int × Int → Option ((Int) ⊕ (Int × Int)) := iter ref13_more_l1F big
def ref13_more_l1C : CutSpec tb := ⟨36, [(1, .val 3), (6, .val 2), (7, .val 3)], [((.exit 0), [(6, .val 2)]), (.ret, [(4, .val 2), (5, .val 3)])], [12, 13, 14, 17, 18, 19, 20, 21, 22, 4, 5, 23, 24, 6, 15, 16, 7], ref13_more_l1J⟩
theorem ref13_more_l1_eq : ∀ back x, evLoop Tryz.prog tb [] [] (loopAt 36 Tryz.f225) ref13_more_l1C.ins ref13_more_l1C.outs back x = ref13_more_l1F back x := fun back x => by kernel_rfl
theorem ref13_more_l1_k : cutB Tryz.f225.ntmps ref13_more_l1C (loopAt 36 Tryz.f225) = true := by kernel_rfl
theorem ref13_more_l1_in : cutsOf ([] : List (CutSpec tb)) (loopAt 36 Tryz.f225) = [] := by kernel_rfl
theorem ref13_more_l1_cut : CutSound Tryz.prog tb Tryz.f225.ntmps (.loop (loopAt 36 Tryz.f225)) ref13_more_l1C := loop_it mixed ref13_more_l1_k .nil rfl ref13_more_l1_in .nil ref13_more_l1F ref13_more_l1_eq rfl
def ref13_moreF (x : Dec × Int) : Option (Int × Int) :=
  obnd (ref13_more_l1J (x.snd, x.fst.M, x.fst.S)) fun y => osum y (fun y => some (y, 0)) fun y => some y
def ref13_moreS : FSpec tb := ⟨[(0, .val 26), (1, .val 3)], [(0, .val 2), (1, .val 3)], ref13_moreF⟩
theorem ref13_more_eq : ∀ x, evFn Tryz.prog tb [] [ref13_more_l1C] Tryz.f225 ref13_moreS.ins ref13_moreS.outs x = ref13_moreS.f x := fun x => by kernel_rfl
theorem ref13_more_k : fnK Tryz.f225 ref13_moreS.ins ref13_moreS.outs = true := by kernel_rfl
theorem ref13_more_in : cutsOf ([ref13_more_l1C] : List (CutSpec tb)) (bodyOf Tryz.f225) = [(36, .loop (loopAt 36 Tryz.f225))] := by kernel_rfl
theorem ref13_more_sound : FnSound Tryz.prog tb 225 ref13_moreS := fn_cut mixed Tryz.func225 ref13_more_k .nil rfl ref13_more_in (.cons rfl ref13_more_l1_cut rfl .nil) ref13_more_eq

/-! ### ref13_Mod -/
abbrev ref13_ModG : List (Nat × FSpec tb) := [(225, ref13_moreS), (226, ref7_NormS)]
theorem ref13_ModG_ok : AllSound Tryz.prog tb ref13_ModG := (.cons ref13_more_sound (.cons ref7_Norm_sound .nil))
def ref13_Mod_b1J (x : Dec × Int × Bool) : Option (Int) :=
  brn x.2.snd (some x.fst.2) (some x.2.1)
def ref13_Mod_b1C : CutSpec tb := ⟨50, [(3, .ro 26), (6, .val 3), (21, .val 4)], [(.normal, [(6, .val 3)])], [22, 23, 6], ref13_Mod_b1J⟩
theorem ref13_Mod_b1_eq : ∀ x, evBlk Tryz.prog tb ref13_ModG [] (codeAt 50 Tryz.f166) ref13_Mod_b1C.ins ref13_Mod_b1C.outs x = ref13_Mod_b1C.J x := fun x => by kernel_rfl
theorem ref13_Mod_b1_k : cutB Tryz.f166.ntmps ref13_Mod_b1C (codeAt 50 Tryz.f166) = true := by kernel_rfl
theorem ref13_Mod_b1_in : cutsOf ([] : List (CutSpec tb)) (codeAt 50 Tryz.f166) = [] := by kernel_rfl
theorem ref13_Mod_b1_cut : CutSound Tryz.prog tb Tryz.f166.ntmps (codeAt 50 Tryz.f166) ref13_Mod_b1C := blk_ev mixed ref13_Mod_b1_k ref13_ModG_ok rfl ref13_Mod_b1_in .nil ref13_Mod_b1_eq
def ref13_ModF (x : Dec × Dec) : Option (Dec × Int) :=
  brn (decide (x.snd.M = 0)) (some ({ M := 0, S := 0 }, 9))
    (obnd (ref13_Mod_b1J (x.snd, x.fst.S, decide (x.fst.S < x.snd.S))) fun y =>
      obnd (ref13_moreF (x.fst, y)) fun y_1 =>
        brn (!decide (y_1.snd = 0)) (some ({ M := 0, S := 0 }, y_1.snd))
          (obnd (ref13_moreF (x.snd, y)) fun y_2 =>
            brn (!decide (y_2.snd = 0)) (some ({ M := 0, S := 0 }, y_2.snd))
              (brn (!decide (y_2.fst = -1))
                (brn (decide (y_2.fst = 0)) none
                  (brn (!decide (Int.tmod y_1.fst y_2.fst = 0))
                    (brn (!decide (decide (Int.tmod y_1.fst y_2.fst < 0) = decide (y_2.fst < 0)))
                      (obnd (ref7_NormF { M := IntKind.i64.wrap (Int.tmod y_1.fst y_2.fst + y_2.fst), S := y }) fun y => some (y, 0))
                      (obnd (ref7_NormF { M := Int.tmod y_1.fst y_2.fst, S := y }) fun y => some (y, 0)))
                    (obnd (ref7_NormF { M := Int.tmod y_1.fst y_2.fst, S := y }) fun y => some (y, 0))))
                (obnd (ref7_NormF { M := 0, S := y }) fun y => some (y, 0)))))
def ref13_ModS : FSpec tb := ⟨[(0, .val 26), (1, .val 26)], [(0, .val 26), (1, .val 3)], ref13_ModF⟩
theorem ref13_Mod_eq : ∀ x, evFn Tryz.prog tb ref13_ModG [ref13_Mod_b1C] Tryz.f166 ref13_ModS.ins ref13_ModS.outs x = ref13_ModS.f x := fun x => by kernel_rfl
theorem ref13_Mod_k : fnK Tryz.f166 ref13_ModS.ins ref13_ModS.outs = true := by kernel_rfl
theorem ref13_Mod_in : cutsOf ([ref13_Mod_b1C] : List (CutSpec tb)) (bodyOf Tryz.f166) = [(50, codeAt 50 Tryz.f166)] := by kernel_rfl
theorem ref13_Mod_sound : FnSound Tryz.prog tb 166 ref13_ModS := fn_cut mixed Tryz.func166 ref13_Mod_k ref13_ModG_ok rfl ref13_Mod_in (.cons rfl ref13_Mod_b1_cut rfl .nil) ref13_Mod_eq

/-! ### ref13_Whole -/
def ref13_WholeF (x : Dec × Int × Int) : Option (Int × Bool) :=
  brn (decide (x.fst.S = 0)) (brn (decide (x.2.fst ≤ x.fst.M)) (some (x.fst.M, decide (x.fst.M ≤ x.2.snd))) (some (x.fst.M, false))) (some (x.fst.M, false))
def ref13_WholeS : FSpec tb := ⟨[(0, .val 26), (1, .val 2), (2, .val 2)], [(0, .val 3), (1, .val 4)], ref13_WholeF⟩
theorem ref13_Whole_eq : ∀ x, evFn Tryz.prog tb [] [] Tryz.f167 ref13_WholeS.ins ref13_WholeS.outs x = ref13_WholeS.f x := fun x => by kernel_rfl
theorem ref13_Whole_k : fnK Tryz.f167 ref13_WholeS.ins ref13_WholeS.outs = true := by kernel_rfl
theorem ref13_Whole_sound : FnSound Tryz.prog tb 167 ref13_WholeS := fn_ev mixed Tryz.func167 ref13_Whole_k .nil rfl ref13_Whole_eq

/-! ### ref13_numeric -/
abbrev ref13_numericG : List (Nat × FSpec tb) := [(164, ref13_singleS), (77, ref13_FaultS), (107, ref13_NumberS), (109, ref7_SubDecS), (162, ref7_CompareDecS), (165, ref7_FloorDecS), (166, ref13_ModS), (167, ref13_WholeS), (168, ref7_RoundDecS), (113, ref13_OfDecS)]
theorem ref13_numericG_ok : AllSound Tryz.prog tb ref13_numericG := (.cons ref13_single_sound (.cons ref13_Fault_sound (.cons ref13_Number_sound (.cons ref7_SubDec_sound (.cons ref7_CompareDec_sound (.cons ref7_FloorDec_sound (.cons ref13_Mod_sound (.cons ref13_Whole_sound (.cons ref7_RoundDec_sound (.cons ref13_OfDec_sound .nil))))))))))
def ref13_numeric_b1J (x : Val × Dec × Dec × Dec × Int × Int) : Option (((Int) × (Val × Dec)) ⊕ ((Unit) × (Val × Dec))) :=
  brn (decide (x.2.2.2.2.snd = 5))
    (brn (decide (x.2.fst.M < 0)) (obnd (ref7_SubDecF ({ M := 0, S := 0 }, x.2.fst)) fun y => some (Sum.inl (y.snd, x.fst, y.fst))) (some (Sum.inl (x.2.2.2.2.fst, x.fst, x.2.fst))))
    (brn (decide (x.2.2.2.2.snd = 6)) (obnd (ref7_CompareDecF (x.2.fst, { M := 0, S := 0 })) fun y => some (Sum.inl (x.2.2.2.2.fst, x.fst, { M := y, S := 0 })))
      (brn (decide (x.2.2.2.2.snd = 7)) (obnd (ref7_FloorDecF x.2.fst) fun y => some (Sum.inl (y.snd, x.fst, y.fst)))
        (brn (decide (x.2.2.2.2.snd = 8)) (obnd (ref13_ModF (x.2.fst, x.2.2.fst)) fun y => some (Sum.inl (y.snd, x.fst, y.fst)))
          (brn (decide (x.2.2.2.2.snd = 9))
            (obnd (ref13_WholeF (x.2.2.fst, -18, 9)) fun y =>
              brn (!y.snd) (obnd (ref13_FaultF 36) fun y => some (Sum.inr ((), y, x.2.2.2.fst)))
                (obnd (ref7_RoundDecF (x.2.fst, y.fst)) fun y => some (Sum.inl (y.snd, x.fst, y.fst))))
            (some (Sum.inl (x.2.2.2.2.fst, x.fst, x.2.2.2.fst)))))))
def ref13_numeric_b1C : CutSpec tb := ⟨155, [(4, .ref 28), (6, .ro 26), (9, .ro 26), (13, .ref 26), (14, .val 3), (58, .val 3)], [(.normal, [(14, .val 3)]), (.ret, [])], [60, 59, 61, 62, 63, 64, 66, 67, 68, 65, 69, 70, 14, 72, 71, 73, 74, 75, 76, 78, 77, 80, 81, 79, 82, 83, 85, 84, 87, 88, 89, 86, 90, 91, 93, 92, 95, 96, 94, 97, 98, 15, 16, 99, 100, 101, 103, 104, 105, 102, 106, 107], ref13_numeric_b1J⟩
theorem ref13_numeric_b1_eq : ∀ x, evBlk Tryz.prog tb ref13_numericG [] (codeAt 155 Tryz.f70) ref13_numeric_b1C.ins ref13_numeric_b1C.outs x = ref13_numeric_b1C.J x := fun x => by kernel_rfl
theorem ref13_numeric_b1_k : cutB Tryz.f70.ntmps ref13_numeric_b1C (codeAt 155 Tryz.f70) = true := by kernel_rfl
theorem ref13_numeric_b1_in : cutsOf ([] : List (CutSpec tb)) (codeAt 155 Tryz.f70) = [] := by kernel_rfl
theorem ref13_numeric_b1_cut : CutSound Tryz.prog tb Tryz.f70.ntmps (codeAt 155 Tryz.f70) ref13_numeric_b1C := blk_ev mixed ref13_numeric_b1_k ref13_numericG_ok rfl ref13_numeric_b1_in .nil ref13_numeric_b1_eq
def ref13_numericF (x : Int × List Arg) : Option (Val) :=
  brn (decide (8 ≤ x.fst))
    (obnd (ref13_singleF (x.snd, 2, 2)) fun y =>
      brn (!y) (obnd (ref13_FaultF 15) fun y => some y)
        (obnd (idx x.snd 0) fun y =>
          obnd (idx y.L 0) fun y =>
            obnd (ref13_NumberF y) fun y =>
              brn (!y.2.snd) (some y.2.fst)
                (obnd (idx x.snd 1) fun y_1 =>
                  obnd (idx y_1.L 0) fun y_2 =>
                    obnd (ref13_NumberF y_2) fun y_3 =>
                      brn (!y_3.2.snd) (some y_3.2.fst)
                        (obnd (ref13_numeric_b1J ({ Kind := 0, N := { M := 0, S := 0 }, S := [], B := false, E := 0 }, y.fst, y_3.fst, { M := 0, S := 0 }, 0, x.fst)) fun y =>
                          osum y (fun y => obnd (ref13_OfDecF (y.2.snd, y.1)) fun y => some y) fun y => some y.2.fst))))
    (obnd (ref13_singleF (x.snd, 1, 1)) fun y =>
      brn (!y) (obnd (ref13_FaultF 15) fun y => some y)
        (obnd (idx x.snd 0) fun y =>
          obnd (idx y.L 0) fun y =>
            obnd (ref13_NumberF y) fun y =>
              brn (!y.2.snd) (some y.2.fst)
                (obnd (ref13_numeric_b1J ({ Kind := 0, N := { M := 0, S := 0 }, S := [], B := false, E := 0 }, y.fst, { M := 0, S := 0 }, { M := 0, S := 0 }, 0, x.fst)) fun y =>
                  osum y (fun y => obnd (ref13_OfDecF (y.2.snd, y.1)) fun y => some y) fun y => some y.2.fst)))
def ref13_numericS : FSpec tb := ⟨[(0, .val 3), (1, .val 22)], [(0, .val 28)], ref13_numericF⟩
theorem ref13_numeric_eq : ∀ x, evFn Tryz.prog tb ref13_numericG [ref13_numeric_b1C] Tryz.f70 ref13_numericS.ins ref13_numericS.outs x = ref13_numericS.f x := fun x => by kernel_rfl
theorem ref13_numeric_k : fnK Tryz.f70 ref13_numericS.ins ref13_numericS.outs = true := by kernel_rfl
theorem ref13_numeric_in : cutsOf ([ref13_numeric_b1C] : List (CutSpec tb)) (bodyOf Tryz.f70) = [(155, codeAt 155 Tryz.f70)] := by kernel_rfl
theorem ref13_numeric_sound : FnSound Tryz.prog tb 70 ref13_numericS := fn_cut mixed Tryz.func70 ref13_numeric_k ref13_numericG_ok rfl ref13_numeric_in (.cons rfl ref13_numeric_b1_cut rfl .nil) ref13_numeric_eq

/-! ### ref13_OfBool -/
def ref13_OfBoolF (x : Bool) : Option (Val) :=
  some { Kind := 3, N := { M := 0, S := 0 }, S := [], B := x, E := 0 }
def ref13_OfBoolS : FSpec tb := ⟨[(0, .val 4)], [(0, .val 28)], ref13_OfBoolF⟩
theorem ref13_OfBool_eq : ∀ x, evFn Tryz.prog tb [] [] Tryz.f104 ref13_OfBoolS.ins ref13_OfBoolS.outs x = ref13_OfBoolS.f x := fun x => by kernel_rfl
theorem ref13_OfBool_k : fnK Tryz.f104 ref13_OfBoolS.ins ref13_OfBoolS.outs = true := by kernel_rfl
theorem ref13_OfBool_sound : FnSound Tryz.prog tb 104 ref13_OfBoolS := fn_ev mixed Tryz.func104 ref13_OfBool_k .nil rfl ref13_OfBool_eq

/-! ### ref13_chosen -/
abbrev ref13_chosenG : List (Nat × FSpec tb) := [(77, ref13_FaultS), (164, ref13_singleS), (107, ref13_NumberS), (169, ref13_TruthS), (104, ref13_OfBoolS)]
theorem ref13_chosenG_ok : AllSound Tryz.prog tb ref13_chosenG := (.cons ref13_Fault_sound (.cons ref13_single_sound (.cons ref13_Number_sound (.cons ref13_Truth_sound (.cons ref13_OfBool_sound .nil)))))
def ref13_chosen_b1J (x : List Arg × Val × Bool) : Option (((Unit) × Val) ⊕ ((Unit) × Val)) :=
  brn x.2.snd
    (brn (!decide ((↑x.fst.length : Int) = 2)) (obnd (ref13_FaultF 15) fun y => some (Sum.inr ((), y)))
      (obnd (idx x.fst 0) fun y =>
        brn (!y.Area) (obnd (ref13_FaultF 15) fun y => some (Sum.inr ((), y)))
          (obnd (sub x.fst 1 (↑x.fst.length : Int)) fun z =>
            obnd (ref13_singleF (z, 1, 1)) fun y =>
              brn (!y) (obnd (ref13_FaultF 15) fun y => some (Sum.inr ((), y)))
                (obnd (idx x.fst 1) fun y =>
                  obnd (idx y.L 0) fun y =>
                    obnd (ref13_NumberF y) fun y =>
                      brn (!y.2.snd) (some (Sum.inr ((), y.2.fst)))
                        (brn (!decide (y.fst.S = 0)) (obnd (ref13_FaultF 15) fun y => some (Sum.inr ((), y)))
                          (brn (decide (y.fst.M < 1)) (obnd (ref13_FaultF 23) fun y => some (Sum.inr ((), y)))
                            (obnd (idx x.fst 0) fun y_1 =>
                              brn (decide ((↑y_1.L.length : Int) < y.fst.M)) (obnd (ref13_FaultF 23) fun y => some (Sum.inr ((), y)))
                                (obnd (idx x.fst 0) fun y_2 => obnd (idx y_2.L (IntKind.i64.wrap (y.fst.M - 1))) fun y => some (Sum.inr ((), y))))))))))
    (some (Sum.inl ((), x.2.fst)))
def ref13_chosen_b1C : CutSpec tb := ⟨42, [(1, .val 22), (4, .ref 28), (21, .val 4)], [(.normal, []), (.ret, [])], [22, 23, 24, 25, 26, 27, 28, 29, 30, 31, 32, 33, 34, 35, 36, 37, 38, 40, 41, 42, 43, 44, 45, 46, 39, 47, 48, 49, 5, 6, 7, 50, 51, 52, 53, 54, 55, 56, 57, 58, 59, 60, 61, 62, 63, 64, 65, 66, 67, 68, 69, 70, 71, 72, 73, 74, 75, 76, 77, 78, 79], ref13_chosen_b1J⟩
theorem ref13_chosen_b1_eq : ∀ x, evBlk Tryz.prog tb ref13_chosenG [] (codeAt 42 Tryz.f71) ref13_chosen_b1C.ins ref13_chosen_b1C.outs x = ref13_chosen_b1C.J x := fun x => by kernel_rfl
theorem ref13_chosen_b1_k : cutB Tryz.f71.ntmps ref13_chosen_b1C (codeAt 42 Tryz.f71) = true := by kernel_rfl
theorem ref13_chosen_b1_in : cutsOf ([] : List (CutSpec tb)) (codeAt 42 Tryz.f71) = [] := by kernel_rfl
theorem ref13_chosen_b1_cut : CutSound Tryz.prog tb Tryz.f71.ntmps (codeAt 42 Tryz.f71) ref13_chosen_b1C := blk_ev mixed ref13_chosen_b1_k ref13_chosenG_ok rfl ref13_chosen_b1_in .nil ref13_chosen_b1_eq
def ref13_chosen_b2J (x : List Arg × Val × Val × Int × Int) : Option (((Int) × Val) ⊕ ((Unit) × Val)) :=
  brn (decide (x.2.2.2.snd = 10))
    (brn (decide ((↑x.fst.length : Int) < 2)) (obnd (ref13_FaultF 15) fun y => some (Sum.inr ((), y)))
      (brn (decide (3 < (↑x.fst.length : Int))) (obnd (ref13_FaultF 15) fun y => some (Sum.inr ((), y)))
        (obnd (ref13_TruthF x.2.2.fst) fun y =>
          brn (!y.2.snd) (some (Sum.inr ((), y.2.fst)))
            (brn (!y.fst) (brn (decide ((↑x.fst.length : Int) ≤ 2)) (obnd (ref13_OfBoolF false) fun y => some (Sum.inr ((), y))) (some (Sum.inl (2, x.2.fst))))
              (brn (decide ((↑x.fst.length : Int) ≤ 1)) (obnd (ref13_OfBoolF false) fun y => some (Sum.inr ((), y))) (some (Sum.inl (1, x.2.fst))))))))
    (brn (decide (x.2.2.2.snd = 23))
      (brn (!decide ((↑x.fst.length : Int) = 2)) (obnd (ref13_FaultF 15) fun y => some (Sum.inr ((), y)))
        (brn (decide (x.2.2.fst.Kind = 4)) (some (Sum.inl (1, x.2.fst))) (some (Sum.inl (x.2.2.2.fst, x.2.fst)))))
      (brn (decide (x.2.2.2.snd = 25))
        (obnd (ref13_NumberF x.2.2.fst) fun y =>
          brn (!y.2.snd) (some (Sum.inr ((), y.2.fst)))
            (brn (!decide (y.fst.S = 0)) (obnd (ref13_FaultF 15) fun y => some (Sum.inr ((), y)))
              (brn (decide (y.fst.M < 1)) (obnd (ref13_FaultF 15) fun y => some (Sum.inr ((), y)))
                (brn (decide ((↑x.fst.length : Int) ≤ y.fst.M)) (obnd (ref13_FaultF 15) fun y => some (Sum.inr ((), y))) (some (Sum.inl (y.fst.M, x.2.fst)))))))
        (some (Sum.inl (x.2.2.2.fst, x.2.fst)))))
def ref13_chosen_b2C : CutSpec tb := ⟨163, [(1, .val 22), (4, .ref 28), (8, .ro 28), (9, .val 3), (100, .val 3)], [(.normal, [(9, .val 3)]), (.ret, [])], [102, 101, 103, 104, 105, 106, 107, 108, 109, 110, 111, 113, 114, 112, 115, 116, 117, 11, 10, 12, 118, 119, 120, 9, 121, 122, 123, 124, 125, 126, 127, 129, 128, 130, 131, 132, 133, 134, 135, 136, 138, 137, 140, 141, 139, 142, 143, 144, 13, 14, 15, 145, 146, 147, 148, 149, 150, 151, 152, 153, 154, 155, 156, 157, 158, 159, 160, 161, 162, 163, 164, 165], ref13_chosen_b2J⟩
theorem ref13_chosen_b2_eq : ∀ x, evBlk Tryz.prog tb ref13_chosenG [] (codeAt 163 Tryz.f71) ref13_chosen_b2C.ins ref13_chosen_b2C.outs x = ref13_chosen_b2C.J x := fun x => by kernel_rfl
theorem ref13_chosen_b2_k : cutB Tryz.f71.ntmps ref13_chosen_b2C (codeAt 163 Tryz.f71) = true := by kernel_rfl
theorem ref13_chosen_b2_in : cutsOf ([] : List (CutSpec tb)) (codeAt 163 Tryz.f71) = [] := by kernel_rfl
theorem ref13_chosen_b2_cut : CutSound Tryz.prog tb Tryz.f71.ntmps (codeAt 163 Tryz.f71) ref13_chosen_b2C := blk_ev mixed ref13_chosen_b2_k ref13_chosenG_ok rfl ref13_chosen_b2_in .nil ref13_chosen_b2_eq
def ref13_chosenF (x : Int × List Arg) : Option (Val) :=
  brn (decide ((↑x.snd.length : Int) = 0)) (obnd (ref13_FaultF 15) fun y => some y)
    (obnd (ref13_chosen_b1J (x.snd, { Kind := 0, N := { M := 0, S := 0 }, S := [], B := false, E := 0 }, decide (x.fst = 24))) fun y =>
      osum y
        (fun y =>
          brn (decide (x.fst = 25))
            (brn (decide ((↑x.snd.length : Int) < 2)) (obnd (ref13_FaultF 15) fun y => some y)
              (obnd (sub x.snd 0 1) fun z =>
                obnd (ref13_singleF (z, 1, 1)) fun y_1 =>
                  brn (!y_1) (obnd (ref13_FaultF 15) fun y => some y)
                    (obnd (idx x.snd 0) fun y_2 =>
                      obnd (idx y_2.L 0) fun y_3 =>
                        obnd (ref13_chosen_b2J (x.snd, y.2, y_3, 0, x.fst)) fun y =>
                          osum y
                            (fun y =>
                              obnd (sub x.snd y.1 (IntKind.i64.wrap (y.1 + 1))) fun z =>
                                obnd (ref13_singleF (z, 1, 1)) fun y_4 =>
                                  brn (!y_4) (obnd (ref13_FaultF 15) fun y => some y) (obnd (idx x.snd y.1) fun y => obnd (idx y.L 0) fun y => some y))
                            fun y => some y.2)))
            (obnd (sub x.snd 0 1) fun z =>
              obnd (ref13_singleF (z, 1, 1)) fun y_1 =>
                brn (!y_1) (obnd (ref13_FaultF 15) fun y => some y)
                  (obnd (idx x.snd 0) fun y_2 =>
                    obnd (idx y_2.L 0) fun y_3 =>
                      obnd (ref13_chosen_b2J (x.snd, y.2, y_3, 0, x.fst)) fun y =>
                        osum y
                          (fun y =>
                            obnd (sub x.snd y.1 (IntKind.i64.wrap (y.1 + 1))) fun z =>
                              obnd (ref13_singleF (z, 1, 1)) fun y_4 =>
                                brn (!y_4) (obnd (ref13_FaultF 15) fun y => some y) (obnd (idx x.snd y.1) fun y => obnd (idx y.L 0) fun y => some y))
                          fun y => some y.2)))
        fun y => some y.2)
def ref13_chosenS : FSpec tb := ⟨[(0, .val 3), (1, .val 22)], [(0, .val 28)], ref13_chosenF⟩
theorem ref13_chosen_eq : ∀ x, evFn Tryz.prog tb ref13_chosenG [ref13_chosen_b1C, ref13_chosen_b2C] Tryz.f71 ref13_chosenS.ins ref13_chosenS.outs x = ref13_chosenS.f x := fun x => by kernel_rfl
theorem ref13_chosen_k : fnK Tryz.f71 ref13_chosenS.ins ref13_chosenS.outs = true := by kernel_rfl
theorem ref13_chosen_in : cutsOf ([ref13_chosen_b1C, ref13_chosen_b2C] : List (CutSpec tb)) (bodyOf Tryz.f71) = [(42, codeAt 42 Tryz.f71), (163, codeAt 163 Tryz.f71)] := by kernel_rfl
theorem ref13_chosen_sound : FnSound Tryz.prog tb 71 ref13_chosenS := fn_cut mixed Tryz.func71 ref13_chosen_k ref13_chosenG_ok rfl ref13_chosen_in (.cons rfl ref13_chosen_b1_cut rfl (.cons rfl ref13_chosen_b2_cut rfl .nil)) ref13_chosen_eq

/-! ### ref13_truths -/
abbrev ref13_truthsG : List (Nat × FSpec tb) := [(159, ref13_shapedS), (77, ref13_FaultS), (169, ref13_TruthS), (104, ref13_OfBoolS)]
theorem ref13_truthsG_ok : AllSound Tryz.prog tb ref13_truthsG := (.cons ref13_shaped_sound (.cons ref13_Fault_sound (.cons ref13_Truth_sound (.cons ref13_OfBool_sound .nil))))
def ref13_truths_l2F (back : Int × Val × Int × Bool × Arg × Int → Option (((Int × Bool) × Val) ⊕ ((Unit) × Val))) (x : Int × Val × Int × Bool × Arg × Int) : Option (((Int × Bool) × Val) ⊕ ((Unit) × Val)) :=
  brn (decide (x.2.2.2.2.snd < (↑x.2.2.2.2.fst.L.length : Int)))
    (obnd (idx x.2.2.2.2.fst.L x.2.2.2.2.snd) fun y =>
      brn x.2.2.2.2.fst.Area
        (brn (!decide (y.Kind = 1))
          (brn (!decide (y.Kind = 3))
            (brn (!decide (y.Kind = 4)) (back (x.fst, x.2.fst, x.2.2.fst, x.2.2.2.fst, x.2.2.2.2.fst, IntKind.i64.wrap (x.2.2.2.2.snd + 1)))
              (obnd (ref13_TruthF y) fun y =>
                brn (!y.2.snd) (some (Sum.inr ((), y.2.fst)))
                  (brn (decide (x.fst = 11))
                    (brn x.2.2.2.fst (back (x.fst, x.2.fst, IntKind.i64.wrap (x.2.2.fst + 1), y.fst, x.2.2.2.2.fst, IntKind.i64.wrap (x.2.2.2.2.snd + 1)))
                      (back (x.fst, x.2.fst, IntKind.i64.wrap (x.2.2.fst + 1), false, x.2.2.2.2.fst, IntKind.i64.wrap (x.2.2.2.2.snd + 1))))
                    (brn x.2.2.2.fst (back (x.fst, x.2.fst, IntKind.i64.wrap (x.2.2.fst + 1), true, x.2.2.2.2.fst, IntKind.i64.wrap (x.2.2.2.2.snd + 1)))
                      (back (x.fst, x.2.fst, IntKind.i64.wrap (x.2.2.fst + 1), y.fst, x.2.2.2.2.fst, IntKind.i64.wrap (x.2.2.2.2.snd + 1)))))))
            (obnd (ref13_TruthF y) fun y =>
              brn (!y.2.snd) (some (Sum.inr ((), y.2.fst)))
                (brn (decide (x.fst = 11))
                  (brn x.2.2.2.fst (back (x.fst, x.2.fst, IntKind.i64.wrap (x.2.2.fst + 1), y.fst, x.2.2.2.2.fst, IntKind.i64.wrap (x.2.2.2.2.snd + 1)))
                    (back (x.fst, x.2.fst, IntKind.i64.wrap (x.2.2.fst + 1), false, x.2.2.2.2.fst, IntKind.i64.wrap (x.2.2.2.2.snd + 1))))
                  (brn x.2.2.2.fst (back (x.fst, x.2.fst, IntKind.i64.wrap (x.2.2.fst + 1), true, x.2.2.2.2.fst, IntKind.i64.wrap (x.2.2.2.2.snd + 1)))
                    (back (x.fst, x.2.fst, IntKind.i64.wrap (x.2.2.fst + 1), y.fst, x.2.2.2.2.fst, IntKind.i64.wrap (x.2.2.2.2.snd + 1)))))))
          (obnd (ref13_TruthF y) fun y =>
            brn (!y.2.snd) (some (Sum.inr ((), y.2.fst)))
              (brn (decide (x.fst = 11))
                (brn x.2.2.2.fst (back (x.fst, x.2.fst, IntKind.i64.wrap (x.2.2.fst + 1), y.fst, x.2.2.2.2.fst, IntKind.i64.wrap (x.2.2.2.2.snd + 1)))
                  (back (x.fst, x.2.fst, IntKind.i64.wrap (x.2.2.fst + 1), false, x.2.2.2.2.fst, IntKind.i64.wrap (x.2.2.2.2.snd + 1))))
                (brn x.2.2.2.fst (back (x.fst, x.2.fst, IntKind.i64.wrap (x.2.2.fst + 1), true, x.2.2.2.2.fst, IntKind.i64.wrap (x.2.2.2.2.snd + 1)))
                  (back (x.fst, x.2.fst, IntKind.i64.wrap (x.2.2.fst + 1), y.fst, x.2.2.2.2.fst, IntKind.i64.wrap (x.2.2.2.2.snd + 1)))))))
        (obnd (ref13_TruthF y) fun y =>
          brn (!y.2.snd) (some (Sum.inr ((), y.2.fst)))
            (brn (decide (x.fst = 11))
              (brn x.2.2.2.fst (back (x.fst, x.2.fst, IntKind.i64.wrap (x.2.2.fst + 1), y.fst, x.2.2.2.2.fst, IntKind.i64.wrap (x.2.2.2.2.snd + 1)))
                (back (x.fst, x.2.fst, IntKind.i64.wrap (x.2.2.fst + 1), false, x.2.2.2.2.fst, IntKind.i64.wrap (x.2.2.2.2.snd + 1))))
              (brn x.2.2.2.fst (back (x.fst, x.2.fst, IntKind.i64.wrap (x.2.2.fst + 1), true, x.2.2.2.2.fst, IntKind.i64.wrap (x.2.2.2.2.snd + 1)))
                (back (x.fst, x.2.fst, IntKind.i64.wrap (x.2.2.fst + 1), y.fst, x.2.2.2.2.fst, IntKind.i64.wrap (x.2.2.2.2.snd + 1)))))))
    (some (Sum.inl ((x.2.2.fst, x.2.2.2.fst), x.2.fst)))
def ref13_truths_l2J : Int × Val × Int × Bool × Arg × Int → Option (((Int × Bool) × Val) ⊕ ((Unit) × Val)) := iter ref13_truths_l2F big
def ref13_truths_l2C : CutSpec tb := ⟨92, [(0, .val 3), (4, .ref 28), (5, .val 3), (6, .val 4), (8, .ro 124), (9, .val 3)], [((.exit 2), [(5, .val 3), (6, .val 4)]), (.ret, [])], [30, 31, 32, 33, 34, 37, 38, 39, 40, 41, 10, 42, 43, 44, 45, 46, 47, 48, 49, 50, 51, 52, 53, 54, 55, 56, 57, 58, 60, 61, 59, 62, 63, 64, 12, 11, 13, 65, 66, 67, 68, 69, 5, 70, 71, 72, 73, 74, 75, 6, 76, 77, 78, 79, 35, 36, 9], ref13_truths_l2J⟩
theorem ref13_truths_l2_eq : ∀ back x, evLoop Tryz.prog tb ref13_truthsG [] (loopAt 92 Tryz.f72) ref13_truths_l2C.ins ref13_truths_l2C.outs back x = ref13_truths_l2F back x := fun back x => by kernel_rfl
theorem ref13_truths_l2_k : cutB Tryz.f72.ntmps ref13_truths_l2C (loopAt 92 Tryz.f72) = true := by kernel_rfl
theorem ref13_truths_l2_in : cutsOf ([] : List (CutSpec tb)) (loopAt 92 Tryz.f72) = [] := by kernel_rfl
theorem ref13_truths_l2_cut : CutSound Tryz.prog tb Tryz.f72.ntmps (.loop (loopAt 92 Tryz.f72)) ref13_truths_l2C := loop_it mixed ref13_truths_l2_k ref13_truthsG_ok rfl ref13_truths_l2_in .nil ref13_truths_l2F ref13_truths_l2_eq rfl
def ref13_truths_l1F (back : Int × List Arg × Val × Int × Bool × Int → Option (((Int × Bool) × Val) ⊕ ((Unit) × Val))) (x : Int × List Arg × Val × Int × Bool × Int) : Option (((Int × Bool) × Val) ⊕ ((Unit) × Val)) :=
  brn (decide (x.2.2.2.2.snd < (↑x.2.fst.length : Int)))
    (obnd (idx x.2.fst x.2.2.2.2.snd) fun y =>
      obnd (ref13_truths_l2J (x.fst, x.2.2.fst, x.2.2.2.fst, x.2.2.2.2.fst, y, 0)) fun y =>
        osum y (fun y => back (x.fst, x.2.fst, y.2, y.1.fst, y.1.snd, IntKind.i64.wrap (x.2.2.2.2.snd + 1))) fun y => some (Sum.inr ((), y.2)))
    (some (Sum.inl ((x.2.2.2.fst, x.2.2.2.2.fst), x.2.2.fst)))
def ref13_truths_l1J : Int × List Arg × Val × Int × Bool × Int → Option (((Int × Bool) × Val) ⊕ ((Unit) × Val)) := iter ref13_truths_l1F big
def ref13_truths_l1C : CutSpec tb := ⟨60, [(0, .val 3), (1, .val 22), (4, .ref 28), (5, .val 3), (6, .val 4), (7, .val 3)], [((.exit 0), [(5, .val 3), (6, .val 4)]), (.ret, [])], [20, 21, 22, 23, 26, 27, 28, 29, 8, 9, 30, 31, 32, 33, 34, 37, 38, 39, 40, 41, 10, 42, 43, 44, 45, 46, 47, 48, 49, 50, 51, 52, 53, 54, 55, 56, 57, 58, 60, 61, 59, 62, 63, 64, 12, 11, 13, 65, 66, 67, 68, 69, 5, 70, 71, 72, 73, 74, 75, 6, 76, 77, 78, 79, 35, 36, 24, 25, 7], ref13_truths_l1J⟩
theorem ref13_truths_l1_eq : ∀ back x, evLoop Tryz.prog tb ref13_truthsG [ref13_truths_l2C] (loopAt 60 Tryz.f72) ref13_truths_l1C.ins ref13_truths_l1C.outs back x = ref13_truths_l1F back x := fun back x => by kernel_rfl
theorem ref13_truths_l1_k : cutB Tryz.f72.ntmps ref13_truths_l1C (loopAt 60 Tryz.f72) = true := by kernel_rfl
theorem ref13_truths_l1_in : cutsOf ([ref13_truths_l2C] : List (CutSpec tb)) (loopAt 60 Tryz.f72) = [(92, .loop (loopAt 92 Tryz.f72))] := by kernel_rfl
theorem ref13_truths_l1_cut : CutSound Tryz.prog tb Tryz.f72.ntmps (.loop (loopAt 60 Tryz.f72)) ref13_truths_l1C := loop_it mixed ref13_truths_l1_k ref13_truthsG_ok rfl ref13_truths_l1_in (.cons rfl ref13_truths_l2_cut rfl .nil) ref13_truths_l1F ref13_truths_l1_eq rfl
def ref13_truthsF (x : Int × List Arg) : Option (Val) :=
  obnd (ref13_shapedF x.snd) fun y =>
    brn (!y) (obnd (ref13_FaultF 15) fun y => some y)
      (obnd (ref13_truths_l1J (x.fst, x.snd, { Kind := 0, N := { M := 0, S := 0 }, S := [], B := false, E := 0 }, 0, decide (x.fst = 11), 0)) fun y =>
        osum y (fun y => brn (decide (y.1.fst = 0)) (obnd (ref13_FaultF 15) fun y => some y) (obnd (ref13_OfBoolF y.1.snd) fun y => some y)) fun y => some y.2)
def ref13_truthsS : FSpec tb := ⟨[(0, .val 3), (1, .val 22)], [(0, .val 28)], ref13_truthsF⟩
theorem ref13_truths_eq : ∀ x, evFn Tryz.prog tb ref13_truthsG [ref13_truths_l1C] Tryz.f72 ref13_truthsS.ins ref13_truthsS.outs x = ref13_truthsS.f x := fun x => by kernel_rfl
theorem ref13_truths_k : fnK Tryz.f72 ref13_truthsS.ins ref13_truthsS.outs = true := by kernel_rfl
theorem ref13_truths_in : cutsOf ([ref13_truths_l1C] : List (CutSpec tb)) (bodyOf Tryz.f72) = [(60, .loop (loopAt 60 Tryz.f72))] := by kernel_rfl
theorem ref13_truths_sound : FnSound Tryz.prog tb 72 ref13_truthsS := fn_cut mixed Tryz.func72 ref13_truths_k ref13_truthsG_ok rfl ref13_truths_in (.cons rfl ref13_truths_l1_cut rfl .nil) ref13_truths_eq

/-! ### ref13_asked -/
def ref13_askedF (x : Int × List Arg) : Option (Val) :=
  obnd (ref13_singleF (x.snd, 1, 1)) fun y =>
    brn (!y) (obnd (ref13_FaultF 15) fun y => some y)
      (obnd (idx x.snd 0) fun y =>
        obnd (idx y.L 0) fun y =>
          brn (decide (x.fst = 13)) (obnd (ref13_TruthF y) fun y => brn (!y.2.snd) (some y.2.fst) (obnd (ref13_OfBoolF !y.fst) fun y => some y))
            (brn (decide (x.fst = 21)) (obnd (ref13_OfBoolF (decide (y.Kind = 0))) fun y => some y)
              (brn (decide (x.fst = 22)) (obnd (ref13_OfBoolF (decide (y.Kind = 4))) fun y => some y)
                (brn (decide (y.Kind = 2)) (obnd (ref13_OfNumF { M := 2, S := 0 }) fun y => some y)
                  (brn (decide (y.Kind = 3)) (obnd (ref13_OfNumF { M := 4, S := 0 }) fun y => some y)
                    (brn (decide (y.Kind = 4)) (obnd (ref13_OfNumF { M := 16, S := 0 }) fun y => some y) (obnd (ref13_OfNumF { M := 1, S := 0 }) fun y => some y)))))))
def ref13_askedS : FSpec tb := ⟨[(0, .val 3), (1, .val 22)], [(0, .val 28)], ref13_askedF⟩
theorem ref13_asked_eq : ∀ x, evFn Tryz.prog tb [(164, ref13_singleS), (77, ref13_FaultS), (169, ref13_TruthS), (104, ref13_OfBoolS), (161, ref13_OfNumS)] [] Tryz.f73 ref13_askedS.ins ref13_askedS.outs x = ref13_askedS.f x := fun x => by kernel_rfl
theorem ref13_asked_k : fnK Tryz.f73 ref13_askedS.ins ref13_askedS.outs = true := by kernel_rfl
theorem ref13_asked_sound : FnSound Tryz.prog tb 73 ref13_askedS := fn_ev mixed Tryz.func73 ref13_asked_k (.cons ref13_single_sound (.cons ref13_Fault_sound (.cons ref13_Truth_sound (.cons ref13_OfBool_sound (.cons ref13_OfNum_sound .nil))))) rfl ref13_asked_eq

/-! ### ref13_letters -/
abbrev ref13_lettersG : List (Nat × FSpec tb) := [(1099511627784, mutS)]
theorem ref13_lettersG_ok : AllSound Tryz.prog tb ref13_lettersG := (.consK mut_sound .nil)
def ref13_letters_b3J (x : Int × List (UInt8) × Int) : Option (Bool × List (UInt8)) :=
  brn (decide (x.fst = 19))
    (obnd (inb x.2.fst.length x.2.snd) fun k =>
      obnd (nth x.2.fst k) fun y =>
        brn (decide (97 ≤ (↑(UInt8.toNat y) : Int)))
          (obnd (inb x.2.fst.length x.2.snd) fun k => obnd (nth x.2.fst k) fun y => some (decide ((↑(UInt8.toNat y) : Int) ≤ 122), x.2.fst)) (some (false, x.2.fst)))
    (some (false, x.2.fst))
def ref13_letters_b3C : CutSpec tb := ⟨48, [(0, .val 3), (5, .wr 5), (6, .val 3)], [(.normal, [(30, .val 4), (5, .wr 5)])], [15, 16, 17, 18, 19, 20, 21, 22, 23, 24, 25, 26, 27, 28, 29, 30], ref13_letters_b3J⟩
theorem ref13_letters_b3_eq : ∀ x, evBlk Tryz.prog tb ref13_lettersG [] (codeAt 48 Tryz.f171) ref13_letters_b3C.ins ref13_letters_b3C.outs x = ref13_letters_b3C.J x := fun x => by kernel_rfl
theorem ref13_letters_b3_k : cutB Tryz.f171.ntmps ref13_letters_b3C (codeAt 48 Tryz.f171) = true := by kernel_rfl
theorem ref13_letters_b3_in : cutsOf ([] : List (CutSpec tb)) (codeAt 48 Tryz.f171) = [] := by kernel_rfl
theorem ref13_letters_b3_cut : CutSound Tryz.prog tb Tryz.f171.ntmps (codeAt 48 Tryz.f171) ref13_letters_b3C := blk_ev mixed ref13_letters_b3_k ref13_lettersG_ok rfl ref13_letters_b3_in .nil ref13_letters_b3_eq
def ref13_letters_b2J (x : Int × List (UInt8) × Int) : Option (List (UInt8)) :=
  obnd (ref13_letters_b3J (x.fst, x.2)) fun y =>
    brn y.fst
      (obnd (inb (List.length y.snd) x.2.snd) fun k =>
        obnd (nth y.snd k) fun y_1 =>
          obnd (inb (List.length y.snd) x.2.snd) fun k =>
            obnd (nth y.snd k) fun y_2 =>
              brn (decide (x.fst = 20))
                (obnd (inb (List.length y.snd) x.2.snd) fun k_1 =>
                  obnd (nth (List.set y.snd k (UInt8.ofNat (IntKind.u8.wrap ((↑(UInt8.toNat y_1) : Int) - 32)).toNat)) k_1) fun y_3 =>
                    brn (decide (65 ≤ (↑(UInt8.toNat y_3) : Int)))
                      (obnd (inb (List.length y.snd) x.2.snd) fun k_2 =>
                        obnd (nth (List.set y.snd k (UInt8.ofNat (IntKind.u8.wrap ((↑(UInt8.toNat y_1) : Int) - 32)).toNat)) k_2) fun y_4 =>
                          brn (decide ((↑(UInt8.toNat y_4) : Int) ≤ 90))
                            (obnd (inb (List.length y.snd) x.2.snd) fun k_3 =>
                              obnd (nth (List.set y.snd k (UInt8.ofNat (IntKind.u8.wrap ((↑(UInt8.toNat y_1) : Int) - 32)).toNat)) k_3) fun y_5 =>
                                obnd (inb (List.length y.snd) x.2.snd) fun k_4 =>
                                  obnd (nth (List.set y.snd k (UInt8.ofNat (IntKind.u8.wrap ((↑(UInt8.toNat y_1) : Int) - 32)).toNat)) k_4) fun y_6 =>
                                    some
                                      ((List.set y.snd k (UInt8.ofNat (IntKind.u8.wrap ((↑(UInt8.toNat y_1) : Int) - 32)).toNat)).set k_4
                                        (UInt8.ofNat (IntKind.u8.wrap ((↑(UInt8.toNat y_5) : Int) + 32)).toNat)))
                            (some (List.set y.snd k (UInt8.ofNat (IntKind.u8.wrap ((↑(UInt8.toNat y_1) : Int) - 32)).toNat))))
                      (some (List.set y.snd k (UInt8.ofNat (IntKind.u8.wrap ((↑(UInt8.toNat y_1) : Int) - 32)).toNat))))
                (some (List.set y.snd k (UInt8.ofNat (IntKind.u8.wrap ((↑(UInt8.toNat y_1) : Int) - 32)).toNat))))
      (brn (decide (x.fst = 20))
        (obnd (inb (List.length y.snd) x.2.snd) fun k =>
          obnd (nth y.snd k) fun y_1 =>
            brn (decide (65 ≤ (↑(UInt8.toNat y_1) : Int)))
              (obnd (inb (List.length y.snd) x.2.snd) fun k =>
                obnd (nth y.snd k) fun y_2 =>
                  brn (decide ((↑(UInt8.toNat y_2) : Int) ≤ 90))
                    (obnd (inb (List.length y.snd) x.2.snd) fun k =>
                      obnd (nth y.snd k) fun y_3 =>
                        obnd (inb (List.length y.snd) x.2.snd) fun k =>
                          obnd (nth y.snd k) fun y_4 => some (List.set y.snd k (UInt8.ofNat (IntKind.u8.wrap ((↑(UInt8.toNat y_3) : Int) + 32)).toNat)))
                    (some y.2))
              (some y.2))
        (some y.2))
def ref13_letters_b2C : CutSpec tb := ⟨51, [(0, .val 3), (5, .wr 5), (6, .val 3)], [(.normal, [(5, .wr 5)])], [15, 16, 17, 18, 19, 20, 21, 22, 23, 24, 25, 26, 27, 28, 29, 30, 31, 32, 33, 34, 35, 36, 37, 38, 39, 40, 41, 42, 43, 44, 45, 46, 47, 48, 49, 50, 51, 52, 53, 54, 55, 56, 57, 58, 59, 60, 61, 62], ref13_letters_b2J⟩
theorem ref13_letters_b2_eq : ∀ x, evBlk Tryz.prog tb ref13_lettersG [ref13_letters_b3C] (codeAt 51 Tryz.f171) ref13_letters_b2C.ins ref13_letters_b2C.outs x = ref13_letters_b2C.J x := fun x => by kernel_rfl
theorem ref13_letters_b2_k : cutB Tryz.f171.ntmps ref13_letters_b2C (codeAt 51 Tryz.f171) = true := by kernel_rfl
theorem ref13_letters_b2_in : cutsOf ([ref13_letters_b3C] : List (CutSpec tb)) (codeAt 51 Tryz.f171) = [(48, codeAt 48 Tryz.f171)] := by kernel_rfl
theorem ref13_letters_b2_cut : CutSound Tryz.prog tb Tryz.f171.ntmps (codeAt 51 Tryz.f171) ref13_letters_b2C := blk_ev mixed ref13_letters_b2_k ref13_lettersG_ok rfl ref13_letters_b2_in (.cons rfl ref13_letters_b3_cut rfl .nil) ref13_letters_b2_eq
def ref13_letters_l1F (back : Int × List (UInt8) × Int → Option (List (UInt8))) (x : Int × List (UInt8) × Int) : Option (List (UInt8)) :=
  brn (decide (x.2.snd < (↑x.2.fst.length : Int))) (obnd (ref13_letters_b2J (x.fst, x.2)) fun y => back (x.fst, y, IntKind.i64.wrap (x.2.snd + 1))) (some x.2.1)
def ref13_letters_l1J : Int × List (UInt8) × Int → Option (List (UInt8)) := iter ref13_letters_l1F big
def ref13_letters_l1C : CutSpec tb := ⟨36, [(0, .val 3), (5, .wr 5), (6, .val 3)], [((.exit 0), [(5, .own 5)])], [9, 10, 11, 12, 15, 16, 17, 18, 19, 20, 21, 22, 23, 24, 25, 26, 27, 28, 29, 30, 31, 32, 33, 34, 35, 36, 37, 38, 39, 40, 41, 42, 43, 44, 45, 46, 47, 48, 49, 50, 51, 52, 53, 54, 55, 56, 57, 58, 59, 60, 61, 62, 13, 14, 6], ref13_letters_l1J⟩
theorem ref13_letters_l1_eq : ∀ back x, evLoop Tryz.prog tb ref13_lettersG [ref13_letters_b2C] (loopAt 36 Tryz.f171) ref13_letters_l1C.ins ref13_letters_l1C.outs back x = ref13_letters_l1F back x := fun back x => by kernel_rfl
theorem ref13_letters_l1_k : cutB Tryz.f171.ntmps ref13_letters_l1C (loopAt 36 Tryz.f171) = true := by kernel_rfl
theorem ref13_letters_l1_in : cutsOf ([ref13_letters_b2C] : List (CutSpec tb)) (loopAt 36 Tryz.f171) = [(51, codeAt 51 Tryz.f171)] := by kernel_rfl
theorem ref13_letters_l1_cut : CutSound Tryz.prog tb Tryz.f171.ntmps (.loop (loopAt 36 Tryz.f171)) ref13_letters_l1C := loop_it mixed ref13_letters_l1_k ref13_lettersG_ok rfl ref13_letters_l1_in (.cons rfl ref13_letters_b2_cut rfl .nil) ref13_letters_l1F ref13_letters_l1_eq rfl
def ref13_lettersF (x : Int × List UInt8) : Option (List UInt8) :=
  obnd (ref13_letters_l1J (x.fst, x.snd, 0)) fun y => some y
def ref13_lettersS : FSpec tb := ⟨[(0, .val 3), (1, .val 9)], [(0, .val 9)], ref13_lettersF⟩
theorem ref13_letters_eq : ∀ x, evFn Tryz.prog tb ref13_lettersG [ref13_letters_l1C] Tryz.f171 ref13_lettersS.ins ref13_lettersS.outs x = ref13_lettersS.f x := fun x => by kernel_rfl
theorem ref13_letters_k : fnK Tryz.f171 ref13_lettersS.ins ref13_lettersS.outs = true := by kernel_rfl
theorem ref13_letters_in : cutsOf ([ref13_letters_l1C] : List (CutSpec tb)) (bodyOf Tryz.f171) = [(36, .loop (loopAt 36 Tryz.f171))] := by kernel_rfl
theorem ref13_letters_sound : FnSound Tryz.prog tb 171 ref13_lettersS := fn_cut mixed Tryz.func171 ref13_letters_k ref13_lettersG_ok rfl ref13_letters_in (.cons rfl ref13_letters_l1_cut rfl .nil) ref13_letters_eq

/-! ### ref13_OfStr -/
def ref13_OfStrF (x : List UInt8) : Option (Val) :=
  obnd (ref7_UnitsF x) fun y => brn (!decide (y.snd = 0)) (obnd (ref13_FaultF 15) fun y => some y) (some { Kind := 2, N := { M := 0, S := 0 }, S := x, B := false, E := 0 })
def ref13_OfStrS : FSpec tb := ⟨[(0, .val 9)], [(0, .val 28)], ref13_OfStrF⟩
theorem ref13_OfStr_eq : ∀ x, evFn Tryz.prog tb [(135, ref7_UnitsS), (77, ref13_FaultS)] [] Tryz.f105 ref13_OfStrS.ins ref13_OfStrS.outs x = ref13_OfStrS.f x := fun x => by kernel_rfl
theorem ref13_OfStr_k : fnK Tryz.f105 ref13_OfStrS.ins ref13_OfStrS.outs = true := by kernel_rfl
theorem ref13_OfStr_sound : FnSound Tryz.prog tb 105 ref13_OfStrS := fn_ev mixed Tryz.func105 ref13_OfStr_k (.cons ref7_Units_sound (.cons ref13_Fault_sound .nil)) rfl ref13_OfStr_eq

/-! ### ref13_worded -/
abbrev ref13_wordedG : List (Nat × FSpec tb) := [(164, ref13_singleS), (77, ref13_FaultS), (170, ref13_WordsS), (135, ref7_UnitsS), (161, ref13_OfNumS), (171, ref13_lettersS), (105, ref13_OfStrS), (104, ref13_OfBoolS), (107, ref13_NumberS)]
theorem ref13_wordedG_ok : AllSound Tryz.prog tb ref13_wordedG := (.cons ref13_single_sound (.cons ref13_Fault_sound (.cons ref13_Words_sound (.cons ref7_Units_sound (.cons ref13_OfNum_sound (.cons ref13_letters_sound (.cons ref13_OfStr_sound (.cons ref13_OfBool_sound (.cons ref13_Number_sound .nil)))))))))
def ref13_worded_b1J (x : Int × List Arg × Val × List UInt8 × Int) : Option (((Unit) × Val) ⊕ ((Unit) × Val)) :=
  brn (decide (x.2.2.2.snd = 14)) (obnd (ref7_UnitsF x.2.2.2.fst) fun y => obnd (ref13_OfNumF { M := y.fst, S := 0 }) fun y => some (Sum.inr ((), y)))
    (brn (decide (x.2.2.2.snd = 19))
      (brn (decide (x.2.2.2.snd = 19)) (obnd (ref13_lettersF (x.fst, x.2.2.2.fst)) fun y => obnd (ref13_OfStrF y) fun y => some (Sum.inr ((), y)))
        (brn (decide (x.2.2.2.snd = 26))
          (obnd (idx x.2.fst 1) fun y =>
            obnd (idx y.L 0) fun y =>
              obnd (ref13_WordsF y) fun y => brn (!y.2.snd) (some (Sum.inr ((), y.2.fst))) (obnd (ref13_OfBoolF (decide (x.2.2.2.fst = y.fst))) fun y => some (Sum.inr ((), y))))
          (some (Sum.inl ((), x.2.2.fst)))))
      (brn (decide (x.2.2.2.snd = 20)) (obnd (ref13_lettersF (x.fst, x.2.2.2.fst)) fun y => obnd (ref13_OfStrF y) fun y => some (Sum.inr ((), y)))
        (brn (decide (x.2.2.2.snd = 26))
          (obnd (idx x.2.fst 1) fun y =>
            obnd (idx y.L 0) fun y =>
              obnd (ref13_WordsF y) fun y => brn (!y.2.snd) (some (Sum.inr ((), y.2.fst))) (obnd (ref13_OfBoolF (decide (x.2.2.2.fst = y.fst))) fun y => some (Sum.inr ((), y))))
          (some (Sum.inl ((), x.2.2.fst))))))
def ref13_worded_b1C : CutSpec tb := ⟨91, [(0, .val 3), (1, .val 22), (4, .ref 28), (6, .val 9), (41, .val 3)], [(.normal, []), (.ret, [])], [43, 42, 45, 46, 44, 47, 48, 9, 10, 49, 50, 51, 53, 52, 54, 55, 56, 57, 58, 60, 59, 62, 63, 64, 65, 66, 67, 68, 61, 69, 70, 71, 12, 11, 13, 72, 73, 74, 75, 76, 77, 78], ref13_worded_b1J⟩
theorem ref13_worded_b1_eq : ∀ x, evBlk Tryz.prog tb ref13_wordedG [] (codeAt 91 Tryz.f74) ref13_worded_b1C.ins ref13_worded_b1C.outs x = ref13_worded_b1C.J x := fun x => by kernel_rfl
theorem ref13_worded_b1_k : cutB Tryz.f74.ntmps ref13_worded_b1C (codeAt 91 Tryz.f74) = true := by kernel_rfl
theorem ref13_worded_b1_in : cutsOf ([] : List (CutSpec tb)) (codeAt 91 Tryz.f74) = [] := by kernel_rfl
theorem ref13_worded_b1_cut : CutSound Tryz.prog tb Tryz.f74.ntmps (codeAt 91 Tryz.f74) ref13_worded_b1C := blk_ev mixed ref13_worded_b1_k ref13_wordedG_ok rfl ref13_worded_b1_in .nil ref13_worded_b1_eq
def ref13_worded_l2F (back : List UInt8 × Dec × List UInt8 × Int → Option (List UInt8)) (x : List UInt8 × Dec × List UInt8 × Int) : Option (List UInt8) :=
  brn (decide (x.2.2.snd < x.2.fst.M)) (obnd (cat x.2.2.fst x.fst) fun z => back (x.fst, x.2.fst, z, IntKind.i64.wrap (x.2.2.snd + 1))) (some x.2.2.1)
def ref13_worded_l2J : List UInt8 × Dec × List UInt8 × Int → Option (List UInt8) := iter ref13_worded_l2F big
def ref13_worded_l2C : CutSpec tb := ⟨268, [(6, .val 9), (14, .ro 26), (17, .val 9), (18, .val 3)], [((.exit 1), [(17, .val 9)])], [109, 110, 111, 112, 115, 116, 117, 17, 113, 114, 18], ref13_worded_l2J⟩
theorem ref13_worded_l2_eq : ∀ back x, evLoop Tryz.prog tb ref13_wordedG [] (loopAt 268 Tryz.f74) ref13_worded_l2C.ins ref13_worded_l2C.outs back x = ref13_worded_l2F back x := fun back x => by kernel_rfl
theorem ref13_worded_l2_k : cutB Tryz.f74.ntmps ref13_worded_l2C (loopAt 268 Tryz.f74) = true := by kernel_rfl
theorem ref13_worded_l2_in : cutsOf ([] : List (CutSpec tb)) (loopAt 268 Tryz.f74) = [] := by kernel_rfl
theorem ref13_worded_l2_cut : CutSound Tryz.prog tb Tryz.f74.ntmps (.loop (loopAt 268 Tryz.f74)) ref13_worded_l2C := loop_it mixed ref13_worded_l2_k ref13_wordedG_ok rfl ref13_worded_l2_in .nil ref13_worded_l2F ref13_worded_l2_eq rfl
def ref13_wordedF (x : Int × List Arg) : Option (Val) :=
  brn (decide (26 ≤ x.fst))
    (obnd (ref13_singleF (x.snd, 2, 2)) fun y =>
      brn (!y) (obnd (ref13_FaultF 15) fun y => some y)
        (obnd (idx x.snd 0) fun y =>
          obnd (idx y.L 0) fun y =>
            obnd (ref13_WordsF y) fun y =>
              brn (!y.2.snd) (some y.2.fst)
                (obnd (ref13_worded_b1J (x.fst, x.snd, { Kind := 0, N := { M := 0, S := 0 }, S := [], B := false, E := 0 }, y.fst, x.fst)) fun y_1 =>
                  osum y_1
                    (fun y_2 =>
                      obnd (idx x.snd 1) fun y_3 =>
                        obnd (idx y_3.L 0) fun y_4 =>
                          obnd (ref13_NumberF y_4) fun y_5 =>
                            brn (!y_5.2.snd) (some y_5.2.fst)
                              (brn (!decide (y_5.fst.S = 0)) (obnd (ref13_FaultF 15) fun y => some y)
                                (brn (decide (y_5.fst.M < 0)) (obnd (ref13_FaultF 15) fun y => some y)
                                  (brn (decide (y.fst = [])) (obnd (ref13_OfStrF []) fun y => some y)
                                    (brn (decide (1000 < y_5.fst.M)) (obnd (ref13_FaultF 15) fun y => some y)
                                      (obnd (ref13_worded_l2J (y.fst, y_5.fst, [], 0)) fun y => obnd (ref13_OfStrF y) fun y => some y))))))
                    fun y => some y.2)))
    (obnd (ref13_singleF (x.snd, 1, 1)) fun y =>
      brn (!y) (obnd (ref13_FaultF 15) fun y => some y)
        (obnd (idx x.snd 0) fun y =>
          obnd (idx y.L 0) fun y =>
            obnd (ref13_WordsF y) fun y =>
              brn (!y.2.snd) (some y.2.fst)
                (obnd (ref13_worded_b1J (x.fst, x.snd, { Kind := 0, N := { M := 0, S := 0 }, S := [], B := false, E := 0 }, y.fst, x.fst)) fun y_1 =>
                  osum y_1
                    (fun y_2 =>
                      obnd (idx x.snd 1) fun y_3 =>
                        obnd (idx y_3.L 0) fun y_4 =>
                          obnd (ref13_NumberF y_4) fun y_5 =>
                            brn (!y_5.2.snd) (some y_5.2.fst)
                              (brn (!decide (y_5.fst.S = 0)) (obnd (ref13_FaultF 15) fun y => some y)
                                (brn (decide (y_5.fst.M < 0)) (obnd (ref13_FaultF 15) fun y => some y)
                                  (brn (decide (y.fst = [])) (obnd (ref13_OfStrF []) fun y => some y)
                                    (brn (decide (1000 < y_5.fst.M)) (obnd (ref13_FaultF 15) fun y => some y)
                                      (obnd (ref13_worded_l2J (y.fst, y_5.fst, [], 0)) fun y => obnd (ref13_OfStrF y) fun y => some y))))))
                    fun y => some y.2)))
def ref13_wordedS : FSpec tb := ⟨[(0, .val 3), (1, .val 22)], [(0, .val 28)], ref13_wordedF⟩
theorem ref13_worded_eq : ∀ x, evFn Tryz.prog tb ref13_wordedG [ref13_worded_b1C, ref13_worded_l2C] Tryz.f74 ref13_wordedS.ins ref13_wordedS.outs x = ref13_wordedS.f x := fun x => by kernel_rfl
theorem ref13_worded_k : fnK Tryz.f74 ref13_wordedS.ins ref13_wordedS.outs = true := by kernel_rfl
theorem ref13_worded_in : cutsOf ([ref13_worded_b1C, ref13_worded_l2C] : List (CutSpec tb)) (bodyOf Tryz.f74) = [(91, codeAt 91 Tryz.f74), (268, .loop (loopAt 268 Tryz.f74))] := by kernel_rfl
theorem ref13_worded_sound : FnSound Tryz.prog tb 74 ref13_wordedS := fn_cut mixed Tryz.func74 ref13_worded_k ref13_wordedG_ok rfl ref13_worded_in (.cons rfl ref13_worded_b1_cut rfl (.cons rfl ref13_worded_l2_cut rfl .nil)) ref13_worded_eq

/-! ### ref13_runes -/
abbrev ref13_runesG : List (Nat × FSpec tb) := [(227, ref7_RuneS)]
theorem ref13_runesG_ok : AllSound Tryz.prog tb ref13_runesG := (.cons ref7_Rune_sound .nil)
def ref13_runes_l1F (back : List Int × List (UInt8) × Int → Option (List (UInt8))) (x : List Int × List (UInt8) × Int) : Option (List (UInt8)) :=
  brn (decide (x.2.snd < (↑x.fst.length : Int)))
    (obnd (idx x.fst x.2.snd) fun y => obnd (ref7_RuneF y) fun y => obnd (app 1 x.2.fst y) fun zs => back (x.fst, zs, IntKind.i64.wrap (x.2.snd + 1))) (some x.2.1)
def ref13_runes_l1J : List Int × List (UInt8) × Int → Option (List (UInt8)) := iter ref13_runes_l1F big
def ref13_runes_l1C : CutSpec tb := ⟨36, [(0, .val 53), (3, .own 5), (4, .val 3)], [((.exit 0), [(3, .own 5)])], [5, 6, 7, 8, 11, 12, 13, 14, 15, 16, 17, 3, 9, 10, 4], ref13_runes_l1J⟩
theorem ref13_runes_l1_eq : ∀ back x, evLoop Tryz.prog tb ref13_runesG [] (loopAt 36 Tryz.f172) ref13_runes_l1C.ins ref13_runes_l1C.outs back x = ref13_runes_l1F back x := fun back x => by kernel_rfl
theorem ref13_runes_l1_k : cutB Tryz.f172.ntmps ref13_runes_l1C (loopAt 36 Tryz.f172) = true := by kernel_rfl
theorem ref13_runes_l1_in : cutsOf ([] : List (CutSpec tb)) (loopAt 36 Tryz.f172) = [] := by kernel_rfl
theorem ref13_runes_l1_cut : CutSound Tryz.prog tb Tryz.f172.ntmps (.loop (loopAt 36 Tryz.f172)) ref13_runes_l1C := loop_it mixed ref13_runes_l1_k ref13_runesG_ok rfl ref13_runes_l1_in .nil ref13_runes_l1F ref13_runes_l1_eq rfl
def ref13_runesF (x : List Int) : Option (List UInt8) :=
  obnd (ref13_runes_l1J (x, [], 0)) fun y => some y
def ref13_runesS : FSpec tb := ⟨[(0, .val 53)], [(0, .val 9)], ref13_runesF⟩
theorem ref13_runes_eq : ∀ x, evFn Tryz.prog tb ref13_runesG [ref13_runes_l1C] Tryz.f172 ref13_runesS.ins ref13_runesS.outs x = ref13_runesS.f x := fun x => by kernel_rfl
theorem ref13_runes_k : fnK Tryz.f172 ref13_runesS.ins ref13_runesS.outs = true := by kernel_rfl
theorem ref13_runes_in : cutsOf ([ref13_runes_l1C] : List (CutSpec tb)) (bodyOf Tryz.f172) = [(36, .loop (loopAt 36 Tryz.f172))] := by kernel_rfl
theorem ref13_runes_sound : FnSound Tryz.prog tb 172 ref13_runesS := fn_cut mixed Tryz.func172 ref13_runes_k ref13_runesG_ok rfl ref13_runes_in (.cons rfl ref13_runes_l1_cut rfl .nil) ref13_runes_eq

/-! ### ref13_pieces -/
abbrev ref13_piecesG : List (Nat × FSpec tb) := [(164, ref13_singleS), (77, ref13_FaultS), (170, ref13_WordsS), (107, ref13_NumberS), (28, ref7_RunesS), (172, ref13_runesS), (105, ref13_OfStrS), (1099511627818, mutS)]
theorem ref13_piecesG_ok : AllSound Tryz.prog tb ref13_piecesG := (.cons ref13_single_sound (.cons ref13_Fault_sound (.cons ref13_Words_sound (.cons ref13_Number_sound (.cons ref7_Runes_sound (.cons ref13_runes_sound (.cons ref13_OfStr_sound (.consK mut_sound .nil))))))))
def ref13_pieces_b3J (x : Dec × Int) : Option (Bool) :=
  brn (!decide (x.fst.S = 0)) (some true) (some (decide (x.fst.M < x.snd)))
def ref13_pieces_b3C : CutSpec tb := ⟨176, [(12, .ro 26), (15, .val 2)], [(.normal, [(78, .val 4)])], [70, 71, 72, 73, 74, 75, 76, 77, 78], ref13_pieces_b3J⟩
theorem ref13_pieces_b3_eq : ∀ x, evBlk Tryz.prog tb ref13_piecesG [] (codeAt 176 Tryz.f75) ref13_pieces_b3C.ins ref13_pieces_b3C.outs x = ref13_pieces_b3C.J x := fun x => by kernel_rfl
theorem ref13_pieces_b3_k : cutB Tryz.f75.ntmps ref13_pieces_b3C (codeAt 176 Tryz.f75) = true := by kernel_rfl
theorem ref13_pieces_b3_in : cutsOf ([] : List (CutSpec tb)) (codeAt 176 Tryz.f75) = [] := by kernel_rfl
theorem ref13_pieces_b3_cut : CutSound Tryz.prog tb Tryz.f75.ntmps (codeAt 176 Tryz.f75) ref13_pieces_b3C := blk_ev mixed ref13_pieces_b3_k ref13_piecesG_ok rfl ref13_pieces_b3_in .nil ref13_pieces_b3_eq
def ref13_pieces_b2J (x : Int × List Arg × Val × List (Int) × Int) : Option (((List (Int)) × Val) ⊕ ((Unit) × Val)) :=
  obnd (idx x.2.fst x.2.2.2.snd) fun y =>
    obnd (idx y.L 0) fun y =>
      obnd (ref13_NumberF y) fun y =>
        brn (!y.2.snd) (some (Sum.inr ((), y.2.fst)))
          (brn (decide (x.fst = 17))
            (brn (decide (x.2.2.2.snd = 1))
              (obnd (ref13_pieces_b3J (y.fst, 1)) fun y_1 =>
                brn y_1 (obnd (ref13_FaultF 15) fun y => some (Sum.inr ((), y)))
                  (brn (decide (10000 < y.fst.M))
                    (obnd (inb x.2.2.2.fst.length (IntKind.i64.wrap (x.2.2.2.snd - 1))) fun k =>
                      obnd (nth x.2.2.2.fst k) fun y => some (Sum.inl (x.2.2.2.fst.set k 10000, x.2.2.fst)))
                    (obnd (inb x.2.2.2.fst.length (IntKind.i64.wrap (x.2.2.2.snd - 1))) fun k =>
                      obnd (nth x.2.2.2.fst k) fun y_2 => some (Sum.inl (x.2.2.2.fst.set k y.fst.M, x.2.2.fst)))))
              (obnd (ref13_pieces_b3J (y.fst, 0)) fun y_1 =>
                brn y_1 (obnd (ref13_FaultF 15) fun y => some (Sum.inr ((), y)))
                  (brn (decide (10000 < y.fst.M))
                    (obnd (inb x.2.2.2.fst.length (IntKind.i64.wrap (x.2.2.2.snd - 1))) fun k =>
                      obnd (nth x.2.2.2.fst k) fun y => some (Sum.inl (x.2.2.2.fst.set k 10000, x.2.2.fst)))
                    (obnd (inb x.2.2.2.fst.length (IntKind.i64.wrap (x.2.2.2.snd - 1))) fun k =>
                      obnd (nth x.2.2.2.fst k) fun y_2 => some (Sum.inl (x.2.2.2.fst.set k y.fst.M, x.2.2.fst))))))
            (obnd (ref13_pieces_b3J (y.fst, 0)) fun y_1 =>
              brn y_1 (obnd (ref13_FaultF 15) fun y => some (Sum.inr ((), y)))
                (brn (decide (10000 < y.fst.M))
                  (obnd (inb x.2.2.2.fst.length (IntKind.i64.wrap (x.2.2.2.snd - 1))) fun k => obnd (nth x.2.2.2.fst k) fun y => some (Sum.inl (x.2.2.2.fst.set k 10000, x.2.2.fst)))
                  (obnd (inb x.2.2.2.fst.length (IntKind.i64.wrap (x.2.2.2.snd - 1))) fun k =>
                    obnd (nth x.2.2.2.fst k) fun y_2 => some (Sum.inl (x.2.2.2.fst.set k y.fst.M, x.2.2.fst))))))
def ref13_pieces_b2C : CutSpec tb := ⟨131, [(0, .val 3), (1, .val 22), (4, .ref 28), (10, .wr 3), (11, .val 3)], [(.normal, [(10, .wr 3)]), (.ret, [])], [50, 51, 52, 53, 54, 55, 56, 57, 49, 58, 59, 60, 12, 13, 14, 61, 62, 63, 15, 64, 65, 66, 67, 68, 69, 70, 71, 72, 73, 74, 75, 76, 77, 78, 79, 80, 81, 82, 83, 84, 85, 86, 87, 88, 89], ref13_pieces_b2J⟩
theorem ref13_pieces_b2_eq : ∀ x, evBlk Tryz.prog tb ref13_piecesG [ref13_pieces_b3C] (codeAt 131 Tryz.f75) ref13_pieces_b2C.ins ref13_pieces_b2C.outs x = ref13_pieces_b2C.J x := fun x => by kernel_rfl
theorem ref13_pieces_b2_k : cutB Tryz.f75.ntmps ref13_pieces_b2C (codeAt 131 Tryz.f75) = true := by kernel_rfl
theorem ref13_pieces_b2_in : cutsOf ([ref13_pieces_b3C] : List (CutSpec tb)) (codeAt 131 Tryz.f75) = [(176, codeAt 176 Tryz.f75)] := by kernel_rfl
theorem ref13_pieces_b2_cut : CutSound Tryz.prog tb Tryz.f75.ntmps (codeAt 131 Tryz.f75) ref13_pieces_b2C := blk_ev mixed ref13_pieces_b2_k ref13_piecesG_ok rfl ref13_pieces_b2_in (.cons rfl ref13_pieces_b3_cut rfl .nil) ref13_pieces_b2_eq
def ref13_pieces_l1F (back : Int × List Arg × Val × List (Int) × Int → Option (((List (Int)) × Val) ⊕ ((Unit) × Val))) (x : Int × List Arg × Val × List (Int) × Int) : Option (((List (Int)) × Val) ⊕ ((Unit) × Val)) :=
  brn (decide (x.2.2.2.snd < (↑x.2.fst.length : Int)))
    (obnd (ref13_pieces_b2J (x.fst, x.2.fst, x.2.2.fst, x.2.2.2)) fun y =>
      osum y (fun y => back (x.fst, x.2.fst, y.2, y.1, IntKind.i64.wrap (x.2.2.2.snd + 1))) fun y => some (Sum.inr ((), y.2)))
    (some (Sum.inl (x.2.2.2.fst, x.2.2.fst)))
def ref13_pieces_l1J : Int × List Arg × Val × List (Int) × Int → Option (((List (Int)) × Val) ⊕ ((Unit) × Val)) := iter ref13_pieces_l1F big
def ref13_pieces_l1C : CutSpec tb := ⟨116, [(0, .val 3), (1, .val 22), (4, .ref 28), (10, .wr 3), (11, .val 3)], [((.exit 0), [(10, .own 3)]), (.ret, [])], [43, 44, 45, 46, 50, 51, 52, 53, 54, 55, 56, 57, 49, 58, 59, 60, 12, 13, 14, 61, 62, 63, 15, 64, 65, 66, 67, 68, 69, 70, 71, 72, 73, 74, 75, 76, 77, 78, 79, 80, 81, 82, 83, 84, 85, 86, 87, 88, 89, 47, 48, 11], ref13_pieces_l1J⟩
theorem ref13_pieces_l1_eq : ∀ back x, evLoop Tryz.prog tb ref13_piecesG [ref13_pieces_b2C] (loopAt 116 Tryz.f75) ref13_pieces_l1C.ins ref13_pieces_l1C.outs back x = ref13_pieces_l1F back x := fun back x => by kernel_rfl
theorem ref13_pieces_l1_k : cutB Tryz.f75.ntmps ref13_pieces_l1C (loopAt 116 Tryz.f75) = true := by kernel_rfl
theorem ref13_pieces_l1_in : cutsOf ([ref13_pieces_b2C] : List (CutSpec tb)) (loopAt 116 Tryz.f75) = [(131, codeAt 131 Tryz.f75)] := by kernel_rfl
theorem ref13_pieces_l1_cut : CutSound Tryz.prog tb Tryz.f75.ntmps (.loop (loopAt 116 Tryz.f75)) ref13_pieces_l1C := loop_it mixed ref13_pieces_l1_k ref13_piecesG_ok rfl ref13_pieces_l1_in (.cons rfl ref13_pieces_b2_cut rfl .nil) ref13_pieces_l1F ref13_pieces_l1_eq rfl
def ref13_pieces_b4J (x : List Int × List Int × Int × Int × Int) : Option (Int × Int) :=
  brn (decide (x.2.2.2.snd = 16))
    (brn (decide (IntKind.i64.wrap ((↑x.2.fst.length : Int) - x.2.2.2.fst) < 0)) (some (0, x.2.2.2.fst))
      (some (IntKind.i64.wrap ((↑x.2.fst.length : Int) - x.2.2.2.fst), x.2.2.2.fst)))
    (brn (decide (x.2.2.2.snd = 17)) (obnd (idx x.fst 0) fun y => obnd (idx x.fst 1) fun y_1 => some (IntKind.i64.wrap (y - 1), y_1)) (some (x.2.2.fst, x.2.2.2.fst)))
def ref13_pieces_b4C : CutSpec tb := ⟨251, [(10, .val 53), (16, .val 53), (18, .val 3), (19, .val 3), (98, .val 3)], [(.normal, [(18, .val 3), (19, .val 3)])], [100, 99, 101, 102, 103, 104, 18, 105, 106, 108, 107, 109, 110, 111, 112, 113, 114, 115, 19], ref13_pieces_b4J⟩
theorem ref13_pieces_b4_eq : ∀ x, evBlk Tryz.prog tb ref13_piecesG [] (codeAt 251 Tryz.f75) ref13_pieces_b4C.ins ref13_pieces_b4C.outs x = ref13_pieces_b4C.J x := fun x => by kernel_rfl
theorem ref13_pieces_b4_k : cutB Tryz.f75.ntmps ref13_pieces_b4C (codeAt 251 Tryz.f75) = true := by kernel_rfl
theorem ref13_pieces_b4_in : cutsOf ([] : List (CutSpec tb)) (codeAt 251 Tryz.f75) = [] := by kernel_rfl
theorem ref13_pieces_b4_cut : CutSound Tryz.prog tb Tryz.f75.ntmps (codeAt 251 Tryz.f75) ref13_pieces_b4C := blk_ev mixed ref13_pieces_b4_k ref13_piecesG_ok rfl ref13_pieces_b4_in .nil ref13_pieces_b4_eq
def ref13_piecesF (x : Int × List Arg) : Option (Val) :=
  brn (decide (x.fst = 17))
    (obnd (ref13_singleF (x.snd, 3, 3)) fun y =>
      brn (!y) (obnd (ref13_FaultF 15) fun y => some y)
        (obnd (idx x.snd 0) fun y =>
          obnd (idx y.L 0) fun y =>
            obnd (ref13_WordsF y) fun y =>
              brn (!y.2.snd) (some y.2.fst)
                (obnd (ref13_pieces_l1J (x.fst, x.snd, { Kind := 0, N := { M := 0, S := 0 }, S := [], B := false, E := 0 }, [1, 1], 1)) fun y_1 =>
                  osum y_1
                    (fun y_2 =>
                      obnd (ref7_RunesF y.fst) fun y =>
                        obnd (idx y_2.1 0) fun y_3 =>
                          obnd (ref13_pieces_b4J (y_2.1, y.fst, 0, y_3, x.fst)) fun y_4 =>
                            brn (decide ((↑(List.length y.fst) : Int) < y_4.fst))
                              (brn (decide (IntKind.i64.wrap ((↑(List.length y.fst) : Int) - (↑(List.length y.fst) : Int)) < y_4.snd))
                                (obnd
                                  (sub y.fst (↑(List.length y.fst) : Int)
                                    (IntKind.i64.wrap ((↑(List.length y.fst) : Int) + IntKind.i64.wrap ((↑(List.length y.fst) : Int) - (↑(List.length y.fst) : Int)))))
                                  fun z => obnd (ref13_runesF z) fun y => obnd (ref13_OfStrF y) fun y => some y)
                                (obnd (sub y.fst (↑(List.length y.fst) : Int) (IntKind.i64.wrap ((↑(List.length y.fst) : Int) + y_4.snd))) fun z =>
                                  obnd (ref13_runesF z) fun y => obnd (ref13_OfStrF y) fun y => some y))
                              (brn (decide (IntKind.i64.wrap ((↑(List.length y.fst) : Int) - y_4.fst) < y_4.snd))
                                (obnd (sub y.fst y_4.fst (IntKind.i64.wrap (y_4.fst + IntKind.i64.wrap ((↑(List.length y.fst) : Int) - y_4.fst)))) fun z =>
                                  obnd (ref13_runesF z) fun y => obnd (ref13_OfStrF y) fun y => some y)
                                (obnd (sub y.fst y_4.fst (IntKind.i64.wrap (y_4.fst + y_4.snd))) fun z => obnd (ref13_runesF z) fun y => obnd (ref13_OfStrF y) fun y => some y)))
                    fun y => some y.2)))
    (obnd (ref13_singleF (x.snd, 1, 2)) fun y =>
      brn (!y) (obnd (ref13_FaultF 15) fun y => some y)
        (obnd (idx x.snd 0) fun y =>
          obnd (idx y.L 0) fun y =>
            obnd (ref13_WordsF y) fun y =>
              brn (!y.2.snd) (some y.2.fst)
                (obnd (ref13_pieces_l1J (x.fst, x.snd, { Kind := 0, N := { M := 0, S := 0 }, S := [], B := false, E := 0 }, [1, 1], 1)) fun y_1 =>
                  osum y_1
                    (fun y_2 =>
                      obnd (ref7_RunesF y.fst) fun y =>
                        obnd (idx y_2.1 0) fun y_3 =>
                          obnd (ref13_pieces_b4J (y_2.1, y.fst, 0, y_3, x.fst)) fun y_4 =>
                            brn (decide ((↑(List.length y.fst) : Int) < y_4.fst))
                              (brn (decide (IntKind.i64.wrap ((↑(List.length y.fst) : Int) - (↑(List.length y.fst) : Int)) < y_4.snd))
                                (obnd
                                  (sub y.fst (↑(List.length y.fst) : Int)
                                    (IntKind.i64.wrap ((↑(List.length y.fst) : Int) + IntKind.i64.wrap ((↑(List.length y.fst) : Int) - (↑(List.length y.fst) : Int)))))
                                  fun z => obnd (ref13_runesF z) fun y => obnd (ref13_OfStrF y) fun y => some y)
                                (obnd (sub y.fst (↑(List.length y.fst) : Int) (IntKind.i64.wrap ((↑(List.length y.fst) : Int) + y_4.snd))) fun z =>
                                  obnd (ref13_runesF z) fun y => obnd (ref13_OfStrF y) fun y => some y))
                              (brn (decide (IntKind.i64.wrap ((↑(List.length y.fst) : Int) - y_4.fst) < y_4.snd))
                                (obnd (sub y.fst y_4.fst (IntKind.i64.wrap (y_4.fst + IntKind.i64.wrap ((↑(List.length y.fst) : Int) - y_4.fst)))) fun z =>
                                  obnd (ref13_runesF z) fun y => obnd (ref13_OfStrF y) fun y => some y)
                                (obnd (sub y.fst y_4.fst (IntKind.i64.wrap (y_4.fst + y_4.snd))) fun z => obnd (ref13_runesF z) fun y => obnd (ref13_OfStrF y) fun y => some y)))
                    fun y => some y.2)))
def ref13_piecesS : FSpec tb := ⟨[(0, .val 3), (1, .val 22)], [(0, .val 28)], ref13_piecesF⟩
theorem ref13_pieces_eq : ∀ x, evFn Tryz.prog tb ref13_piecesG [ref13_pieces_l1C, ref13_pieces_b4C] Tryz.f75 ref13_piecesS.ins ref13_piecesS.outs x = ref13_piecesS.f x := fun x => by kernel_rfl
theorem ref13_pieces_k : fnK Tryz.f75 ref13_piecesS.ins ref13_piecesS.outs = true := by kernel_rfl
theorem ref13_pieces_in : cutsOf ([ref13_pieces_l1C, ref13_pieces_b4C] : List (CutSpec tb)) (bodyOf Tryz.f75) = [(116, .loop (loopAt 116 Tryz.f75)), (251, codeAt 251 Tryz.f75)] := by kernel_rfl
theorem ref13_pieces_sound : FnSound Tryz.prog tb 75 ref13_piecesS := fn_cut mixed Tryz.func75 ref13_pieces_k ref13_piecesG_ok rfl ref13_pieces_in (.cons rfl ref13_pieces_l1_cut rfl (.cons rfl ref13_pieces_b4_cut rfl .nil)) ref13_pieces_eq

/-! ### ref13_concat -/
abbrev ref13_concatG : List (Nat × FSpec tb) := [(159, ref13_shapedS), (77, ref13_FaultS), (170, ref13_WordsS), (135, ref7_UnitsS), (105, ref13_OfStrS)]
theorem ref13_concatG_ok : AllSound Tryz.prog tb ref13_concatG := (.cons ref13_shaped_sound (.cons ref13_Fault_sound (.cons ref13_Words_sound (.cons ref7_Units_sound (.cons ref13_OfStr_sound .nil)))))
def ref13_concat_l2F (back : List Arg × Val × List UInt8 × Bool × Int × Int → Option (((List UInt8 × Bool) × Val) ⊕ ((Unit) × Val))) (x : List Arg × Val × List UInt8 × Bool × Int × Int) : Option (((List UInt8 × Bool) × Val) ⊕ ((Unit) × Val)) :=
  obnd (idx x.fst x.2.2.2.2.fst) fun y =>
    brn (decide (x.2.2.2.2.snd < (↑y.L.length : Int)))
      (obnd (idx x.fst x.2.2.2.2.fst) fun y =>
        obnd (idx y.L x.2.2.2.2.snd) fun y =>
          obnd (ref13_WordsF y) fun y =>
            brn (!y.2.snd) (some (Sum.inr ((), y.2.fst)))
              (brn (!x.2.2.2.fst)
                (obnd (cat x.2.2.fst y.fst) fun z =>
                  obnd (ref7_UnitsF z) fun y =>
                    brn x.2.2.2.fst (back (x.fst, x.2.fst, z, true, x.2.2.2.2.fst, IntKind.i64.wrap (x.2.2.2.2.snd + 1)))
                      (back (x.fst, x.2.fst, z, !decide (y.snd = 0), x.2.2.2.2.fst, IntKind.i64.wrap (x.2.2.2.2.snd + 1))))
                (obnd (ref7_UnitsF x.2.2.fst) fun y =>
                  brn x.2.2.2.fst (back (x.fst, x.2.fst, x.2.2.fst, true, x.2.2.2.2.fst, IntKind.i64.wrap (x.2.2.2.2.snd + 1)))
                    (back (x.fst, x.2.fst, x.2.2.fst, !decide (y.snd = 0), x.2.2.2.2.fst, IntKind.i64.wrap (x.2.2.2.2.snd + 1))))))
      (some (Sum.inl ((x.2.2.fst, x.2.2.2.fst), x.2.fst)))
def ref13_concat_l2J : List Arg × Val × List UInt8 × Bool × Int × Int → Option (((List UInt8 × Bool) × Val) ⊕ ((Unit) × Val)) := iter ref13_concat_l2F big
def ref13_concat_l2C : CutSpec tb := ⟨84, [(0, .val 22), (2, .ref 28), (3, .val 9), (4, .val 4), (5, .val 3), (6, .val 3)], [((.exit 2), [(3, .val 9), (4, .val 4)]), (.ret, [])], [22, 23, 24, 25, 26, 27, 28, 29, 33, 34, 35, 36, 37, 38, 39, 40, 41, 32, 42, 43, 44, 8, 7, 9, 45, 46, 47, 48, 49, 50, 51, 52, 3, 54, 55, 53, 56, 57, 10, 11, 58, 59, 60, 61, 62, 4, 30, 31, 6], ref13_concat_l2J⟩
theorem ref13_concat_l2_eq : ∀ back x, evLoop Tryz.prog tb ref13_concatG [] (loopAt 84 Tryz.f76) ref13_concat_l2C.ins ref13_concat_l2C.outs back x = ref13_concat_l2F back x := fun back x => by kernel_rfl
theorem ref13_concat_l2_k : cutB Tryz.f76.ntmps ref13_concat_l2C (loopAt 84 Tryz.f76) = true := by kernel_rfl
theorem ref13_concat_l2_in : cutsOf ([] : List (CutSpec tb)) (loopAt 84 Tryz.f76) = [] := by kernel_rfl
theorem ref13_concat_l2_cut : CutSound Tryz.prog tb Tryz.f76.ntmps (.loop (loopAt 84 Tryz.f76)) ref13_concat_l2C := loop_it mixed ref13_concat_l2_k ref13_concatG_ok rfl ref13_concat_l2_in .nil ref13_concat_l2F ref13_concat_l2_eq rfl
def ref13_concat_l1F (back : List Arg × Val × List UInt8 × Bool × Int → Option (((List UInt8 × Bool) × Val) ⊕ ((Unit) × Val))) (x : List Arg × Val × List UInt8 × Bool × Int) : Option (((List UInt8 × Bool) × Val) ⊕ ((Unit) × Val)) :=
  brn (decide (x.2.2.2.snd < (↑x.fst.length : Int)))
    (obnd (ref13_concat_l2J (x.fst, x.2.fst, x.2.2.fst, x.2.2.2.fst, x.2.2.2.snd, 0)) fun y =>
      osum y (fun y => back (x.fst, y.2, y.1.fst, y.1.snd, IntKind.i64.wrap (x.2.2.2.snd + 1))) fun y => some (Sum.inr ((), y.2)))
    (some (Sum.inl ((x.2.2.fst, x.2.2.2.fst), x.2.fst)))
def ref13_concat_l1J : List Arg × Val × List UInt8 × Bool × Int → Option (((List UInt8 × Bool) × Val) ⊕ ((Unit) × Val)) := iter ref13_concat_l1F big
def ref13_concat_l1C : CutSpec tb := ⟨60, [(0, .val 22), (2, .ref 28), (3, .val 9), (4, .val 4), (5, .val 3)], [((.exit 0), [(3, .val 9), (4, .val 4)]), (.ret, [])], [16, 17, 18, 19, 6, 22, 23, 24, 25, 26, 27, 28, 29, 33, 34, 35, 36, 37, 38, 39, 40, 41, 32, 42, 43, 44, 8, 7, 9, 45, 46, 47, 48, 49, 50, 51, 52, 3, 54, 55, 53, 56, 57, 10, 11, 58, 59, 60, 61, 62, 4, 30, 31, 20, 21, 5], ref13_concat_l1J⟩
theorem ref13_concat_l1_eq : ∀ back x, evLoop Tryz.prog tb ref13_concatG [ref13_concat_l2C] (loopAt 60 Tryz.f76) ref13_concat_l1C.ins ref13_concat_l1C.outs back x = ref13_concat_l1F back x := fun back x => by kernel_rfl
theorem ref13_concat_l1_k : cutB Tryz.f76.ntmps ref13_concat_l1C (loopAt 60 Tryz.f76) = true := by kernel_rfl
theorem ref13_concat_l1_in : cutsOf ([ref13_concat_l2C] : List (CutSpec tb)) (loopAt 60 Tryz.f76) = [(84, .loop (loopAt 84 Tryz.f76))] := by kernel_rfl
theorem ref13_concat_l1_cut : CutSound Tryz.prog tb Tryz.f76.ntmps (.loop (loopAt 60 Tryz.f76)) ref13_concat_l1C := loop_it mixed ref13_concat_l1_k ref13_concatG_ok rfl ref13_concat_l1_in (.cons rfl ref13_concat_l2_cut rfl .nil) ref13_concat_l1F ref13_concat_l1_eq rfl
def ref13_concatF (x : List Arg) : Option (Val) :=
  obnd (ref13_shapedF x) fun y =>
    brn (!y) (obnd (ref13_FaultF 15) fun y => some y)
      (obnd (ref13_concat_l1J (x, { Kind := 0, N := { M := 0, S := 0 }, S := [], B := false, E := 0 }, [], false, 0)) fun y =>
        osum y (fun y => brn y.1.snd (obnd (ref13_FaultF 15) fun y => some y) (obnd (ref13_OfStrF y.1.fst) fun y => some y)) fun y => some y.2)
def ref13_concatS : FSpec tb := ⟨[(0, .val 22)], [(0, .val 28)], ref13_concatF⟩
theorem ref13_concat_eq : ∀ x, evFn Tryz.prog tb ref13_concatG [ref13_concat_l1C] Tryz.f76 ref13_concatS.ins ref13_concatS.outs x = ref13_concatS.f x := fun x => by kernel_rfl
theorem ref13_concat_k : fnK Tryz.f76 ref13_concatS.ins ref13_concatS.outs = true := by kernel_rfl
theorem ref13_concat_in : cutsOf ([ref13_concat_l1C] : List (CutSpec tb)) (bodyOf Tryz.f76) = [(60, .loop (loopAt 60 Tryz.f76))] := by kernel_rfl
theorem ref13_concat_sound : FnSound Tryz.prog tb 76 ref13_concatS := fn_cut mixed Tryz.func76 ref13_concat_k ref13_concatG_ok rfl ref13_concat_in (.cons rfl ref13_concat_l1_cut rfl .nil) ref13_concat_eq

/-! ### ref13_Apply -/
abbrev ref13_ApplyG : List (Nat × FSpec tb) := [(69, ref13_foldedS), (70, ref13_numericS), (71, ref13_chosenS), (72, ref13_truthsS), (73, ref13_askedS), (74, ref13_wordedS), (75, ref13_piecesS), (76, ref13_concatS), (77, ref13_FaultS)]
theorem ref13_ApplyG_ok : AllSound Tryz.prog tb ref13_ApplyG := (.cons ref13_folded_sound (.cons ref13_numeric_sound (.cons ref13_chosen_sound (.cons ref13_truths_sound (.cons ref13_asked_sound (.cons ref13_worded_sound (.cons ref13_pieces_sound (.cons ref13_concat_sound (.cons ref13_Fault_sound .nil)))))))))
def ref13_Apply_b7J (x : Int × List Arg × Val × Int × Bool) : Option (((Unit) × Val) ⊕ ((Unit) × Val)) :=
  brn x.2.2.2.snd (obnd (ref13_wordedF (x.fst, x.2.fst)) fun y => some (Sum.inr ((), y)))
    (brn (decide (x.2.2.2.fst = 15))
      (brn (decide (x.2.2.2.fst = 15)) (obnd (ref13_piecesF (x.fst, x.2.fst)) fun y => some (Sum.inr ((), y)))
        (brn (decide (x.2.2.2.fst = 18)) (obnd (ref13_concatF x.2.fst) fun y => some (Sum.inr ((), y)))
          (brn (decide (x.2.2.2.fst = 28)) (brn (decide ((↑x.2.fst.length : Int) = 0)) (obnd (ref13_FaultF 42) fun y => some (Sum.inr ((), y))) (some (Sum.inl ((), x.2.2.fst))))
            (some (Sum.inl ((), x.2.2.fst))))))
      (brn (decide (x.2.2.2.fst = 16))
        (brn (decide (x.2.2.2.fst = 16)) (obnd (ref13_piecesF (x.fst, x.2.fst)) fun y => some (Sum.inr ((), y)))
          (brn (decide (x.2.2.2.fst = 18)) (obnd (ref13_concatF x.2.fst) fun y => some (Sum.inr ((), y)))
            (brn (decide (x.2.2.2.fst = 28)) (brn (decide ((↑x.2.fst.length : Int) = 0)) (obnd (ref13_FaultF 42) fun y => some (Sum.inr ((), y))) (some (Sum.inl ((), x.2.2.fst))))
              (some (Sum.inl ((), x.2.2.fst))))))
        (brn (decide (x.2.2.2.fst = 17)) (obnd (ref13_piecesF (x.fst, x.2.fst)) fun y => some (Sum.inr ((), y)))
          (brn (decide (x.2.2.2.fst = 18)) (obnd (ref13_concatF x.2.fst) fun y => some (Sum.inr ((), y)))
            (brn (decide (x.2.2.2.fst = 28)) (brn (decide ((↑x.2.fst.length : Int) = 0)) (obnd (ref13_FaultF 42) fun y => some (Sum.inr ((), y))) (some (Sum.inl ((), x.2.2.fst))))
              (some (Sum.inl ((), x.2.2.fst))))))))
def ref13_Apply_b7C : CutSpec tb := ⟨266, [(0, .val 3), (1, .val 22), (4, .ref 28), (5, .val 3), (46, .val 4)], [(.normal, []), (.ret, [])], [52, 53, 54, 56, 55, 57, 58, 59, 60, 61, 63, 62, 64, 65, 67, 66, 68, 69, 70, 71], ref13_Apply_b7J⟩
theorem ref13_Apply_b7_eq : ∀ x, evBlk Tryz.prog tb ref13_ApplyG [] (codeAt 266 Tryz.f21) ref13_Apply_b7C.ins ref13_Apply_b7C.outs x = ref13_Apply_b7C.J x := fun x => by kernel_rfl
theorem ref13_Apply_b7_k : cutB Tryz.f21.ntmps ref13_Apply_b7C (codeAt 266 Tryz.f21) = true := by kernel_rfl
theorem ref13_Apply_b7_in : cutsOf ([] : List (CutSpec tb)) (codeAt 266 Tryz.f21) = [] := by kernel_rfl
theorem ref13_Apply_b7_cut : CutSound Tryz.prog tb Tryz.f21.ntmps (codeAt 266 Tryz.f21) ref13_Apply_b7C := blk_ev mixed ref13_Apply_b7_k ref13_ApplyG_ok rfl ref13_Apply_b7_in .nil ref13_Apply_b7_eq
def ref13_Apply_b6J (x : Int × List Arg × Val × Int × Bool) : Option (((Unit) × Val) ⊕ ((Unit) × Val)) :=
  brn x.2.2.2.snd (obnd (ref13_askedF (x.fst, x.2.fst)) fun y => some (Sum.inr ((), y)))
    (brn (decide (x.2.2.2.fst = 14))
      (obnd (ref13_Apply_b7J (x.fst, x.2.fst, x.2.2.fst, x.2.2.2.fst, decide (x.2.2.2.fst = 14))) fun y =>
        osum y (fun y => some (Sum.inl ((), y.2))) fun y => some (Sum.inr ((), y.2)))
      (brn (decide (x.2.2.2.fst = 19))
        (obnd (ref13_Apply_b7J (x.fst, x.2.fst, x.2.2.fst, x.2.2.2.fst, decide (x.2.2.2.fst = 19))) fun y =>
          osum y (fun y => some (Sum.inl ((), y.2))) fun y => some (Sum.inr ((), y.2)))
        (brn (decide (x.2.2.2.fst = 20))
          (obnd (ref13_Apply_b7J (x.fst, x.2.fst, x.2.2.fst, x.2.2.2.fst, decide (x.2.2.2.fst = 20))) fun y =>
            osum y (fun y => some (Sum.inl ((), y.2))) fun y => some (Sum.inr ((), y.2)))
          (brn (decide (x.2.2.2.fst = 26))
            (obnd (ref13_Apply_b7J (x.fst, x.2.fst, x.2.2.fst, x.2.2.2.fst, decide (x.2.2.2.fst = 26))) fun y =>
              osum y (fun y => some (Sum.inl ((), y.2))) fun y => some (Sum.inr ((), y.2)))
            (obnd (ref13_Apply_b7J (x.fst, x.2.fst, x.2.2.fst, x.2.2.2.fst, decide (x.2.2.2.fst = 27))) fun y =>
              osum y (fun y => some (Sum.inl ((), y.2))) fun y => some (Sum.inr ((), y.2)))))))
def ref13_Apply_b6C : CutSpec tb := ⟨218, [(0, .val 3), (1, .val 22), (4, .ref 28), (5, .val 3), (38, .val 4)], [(.normal, []), (.ret, [])], [43, 44, 45, 47, 46, 48, 49, 50, 51, 52, 53, 54, 56, 55, 57, 58, 59, 60, 61, 63, 62, 64, 65, 67, 66, 68, 69, 70, 71], ref13_Apply_b6J⟩
theorem ref13_Apply_b6_eq : ∀ x, evBlk Tryz.prog tb ref13_ApplyG [ref13_Apply_b7C] (codeAt 218 Tryz.f21) ref13_Apply_b6C.ins ref13_Apply_b6C.outs x = ref13_Apply_b6C.J x := fun x => by kernel_rfl
theorem ref13_Apply_b6_k : cutB Tryz.f21.ntmps ref13_Apply_b6C (codeAt 218 Tryz.f21) = true := by kernel_rfl
theorem ref13_Apply_b6_in : cutsOf ([ref13_Apply_b7C] : List (CutSpec tb)) (codeAt 218 Tryz.f21) = [(266, codeAt 266 Tryz.f21)] := by kernel_rfl
theorem ref13_Apply_b6_cut : CutSound Tryz.prog tb Tryz.f21.ntmps (codeAt 218 Tryz.f21) ref13_Apply_b6C := blk_ev mixed ref13_Apply_b6_k ref13_ApplyG_ok rfl ref13_Apply_b6_in (.cons rfl ref13_Apply_b7_cut rfl .nil) ref13_Apply_b6_eq
def ref13_Apply_b5J (x : Int × List Arg × Val × Int × Bool) : Option (((Unit) × Val) ⊕ ((Unit) × Val)) :=
  brn x.2.2.2.snd (obnd (ref13_truthsF (x.fst, x.2.fst)) fun y => some (Sum.inr ((), y)))
    (brn (decide (x.2.2.2.fst = 13))
      (obnd (ref13_Apply_b6J (x.fst, x.2.fst, x.2.2.fst, x.2.2.2.fst, decide (x.2.2.2.fst = 13))) fun y =>
        osum y (fun y => some (Sum.inl ((), y.2))) fun y => some (Sum.inr ((), y.2)))
      (brn (decide (x.2.2.2.fst = 21))
        (obnd (ref13_Apply_b6J (x.fst, x.2.fst, x.2.2.fst, x.2.2.2.fst, decide (x.2.2.2.fst = 21))) fun y =>
          osum y (fun y => some (Sum.inl ((), y.2))) fun y => some (Sum.inr ((), y.2)))
        (brn (decide (x.2.2.2.fst = 22))
          (obnd (ref13_Apply_b6J (x.fst, x.2.fst, x.2.2.fst, x.2.2.2.fst, decide (x.2.2.2.fst = 22))) fun y =>
            osum y (fun y => some (Sum.inl ((), y.2))) fun y => some (Sum.inr ((), y.2)))
          (obnd (ref13_Apply_b6J (x.fst, x.2.fst, x.2.2.fst, x.2.2.2.fst, decide (x.2.2.2.fst = 29))) fun y =>
            osum y (fun y => some (Sum.inl ((), y.2))) fun y => some (Sum.inr ((), y.2))))))
def ref13_Apply_b5C : CutSpec tb := ⟨178, [(0, .val 3), (1, .val 22), (4, .ref 28), (5, .val 3), (32, .val 4)], [(.normal, []), (.ret, [])], [35, 36, 37, 39, 38, 40, 41, 42, 43, 44, 45, 47, 46, 48, 49, 50, 51, 52, 53, 54, 56, 55, 57, 58, 59, 60, 61, 63, 62, 64, 65, 67, 66, 68, 69, 70, 71], ref13_Apply_b5J⟩
theorem ref13_Apply_b5_eq : ∀ x, evBlk Tryz.prog tb ref13_ApplyG [ref13_Apply_b6C] (codeAt 178 Tryz.f21) ref13_Apply_b5C.ins ref13_Apply_b5C.outs x = ref13_Apply_b5C.J x := fun x => by kernel_rfl
theorem ref13_Apply_b5_k : cutB Tryz.f21.ntmps ref13_Apply_b5C (codeAt 178 Tryz.f21) = true := by kernel_rfl
theorem ref13_Apply_b5_in : cutsOf ([ref13_Apply_b6C] : List (CutSpec tb)) (codeAt 178 Tryz.f21) = [(218, codeAt 218 Tryz.f21)] := by kernel_rfl
theorem ref13_Apply_b5_cut : CutSound Tryz.prog tb Tryz.f21.ntmps (codeAt 178 Tryz.f21) ref13_Apply_b5C := blk_ev mixed ref13_Apply_b5_k ref13_ApplyG_ok rfl ref13_Apply_b5_in (.cons rfl ref13_Apply_b6_cut rfl .nil) ref13_Apply_b5_eq
def ref13_Apply_b4J (x : Int × List Arg × Val × Int × Bool) : Option (((Unit) × Val) ⊕ ((Unit) × Val)) :=
  brn x.2.2.2.snd (obnd (ref13_chosenF (x.fst, x.2.fst)) fun y => some (Sum.inr ((), y)))
    (brn (decide (x.2.2.2.fst = 11))
      (obnd (ref13_Apply_b5J (x.fst, x.2.fst, x.2.2.fst, x.2.2.2.fst, decide (x.2.2.2.fst = 11))) fun y =>
        osum y (fun y => some (Sum.inl ((), y.2))) fun y => some (Sum.inr ((), y.2)))
      (obnd (ref13_Apply_b5J (x.fst, x.2.fst, x.2.2.fst, x.2.2.2.fst, decide (x.2.2.2.fst = 12))) fun y =>
        osum y (fun y => some (Sum.inl ((), y.2))) fun y => some (Sum.inr ((), y.2))))
def ref13_Apply_b4C : CutSpec tb := ⟨154, [(0, .val 3), (1, .val 22), (4, .ref 28), (5, .val 3), (24, .val 4)], [(.normal, []), (.ret, [])], [29, 30, 31, 33, 32, 34, 35, 36, 37, 39, 38, 40, 41, 42, 43, 44, 45, 47, 46, 48, 49, 50, 51, 52, 53, 54, 56, 55, 57, 58, 59, 60, 61, 63, 62, 64, 65, 67, 66, 68, 69, 70, 71], ref13_Apply_b4J⟩
theorem ref13_Apply_b4_eq : ∀ x, evBlk Tryz.prog tb ref13_ApplyG [ref13_Apply_b5C] (codeAt 154 Tryz.f21) ref13_Apply_b4C.ins ref13_Apply_b4C.outs x = ref13_Apply_b4C.J x := fun x => by kernel_rfl
theorem ref13_Apply_b4_k : cutB Tryz.f21.ntmps ref13_Apply_b4C (codeAt 154 Tryz.f21) = true := by kernel_rfl
theorem ref13_Apply_b4_in : cutsOf ([ref13_Apply_b5C] : List (CutSpec tb)) (codeAt 154 Tryz.f21) = [(178, codeAt 178 Tryz.f21)] := by kernel_rfl
theorem ref13_Apply_b4_cut : CutSound Tryz.prog tb Tryz.f21.ntmps (codeAt 154 Tryz.f21) ref13_Apply_b4C := blk_ev mixed ref13_Apply_b4_k ref13_ApplyG_ok rfl ref13_Apply_b4_in (.cons rfl ref13_Apply_b5_cut rfl .nil) ref13_Apply_b4_eq
def ref13_Apply_b3J (x : Int × List Arg × Val × Int × Bool) : Option (((Unit) × Val) ⊕ ((Unit) × Val)) :=
  brn x.2.2.2.snd (obnd (ref13_numericF (x.fst, x.2.fst)) fun y => some (Sum.inr ((), y)))
    (brn (decide (x.2.2.2.fst = 10))
      (obnd (ref13_Apply_b4J (x.fst, x.2.fst, x.2.2.fst, x.2.2.2.fst, decide (x.2.2.2.fst = 10))) fun y =>
        osum y (fun y => some (Sum.inl ((), y.2))) fun y => some (Sum.inr ((), y.2)))
      (brn (decide (x.2.2.2.fst = 23))
        (obnd (ref13_Apply_b4J (x.fst, x.2.fst, x.2.2.fst, x.2.2.2.fst, decide (x.2.2.2.fst = 23))) fun y =>
          osum y (fun y => some (Sum.inl ((), y.2))) fun y => some (Sum.inr ((), y.2)))
        (brn (decide (x.2.2.2.fst = 24))
          (obnd (ref13_Apply_b4J (x.fst, x.2.fst, x.2.2.fst, x.2.2.2.fst, decide (x.2.2.2.fst = 24))) fun y =>
            osum y (fun y => some (Sum.inl ((), y.2))) fun y => some (Sum.inr ((), y.2)))
          (obnd (ref13_Apply_b4J (x.fst, x.2.fst, x.2.2.fst, x.2.2.2.fst, decide (x.2.2.2.fst = 25))) fun y =>
            osum y (fun y => some (Sum.inl ((), y.2))) fun y => some (Sum.inr ((), y.2))))))
def ref13_Apply_b3C : CutSpec tb := ⟨114, [(0, .val 3), (1, .val 22), (4, .ref 28), (5, .val 3), (15, .val 4)], [(.normal, []), (.ret, [])], [21, 22, 23, 25, 24, 26, 27, 28, 29, 30, 31, 33, 32, 34, 35, 36, 37, 39, 38, 40, 41, 42, 43, 44, 45, 47, 46, 48, 49, 50, 51, 52, 53, 54, 56, 55, 57, 58, 59, 60, 61, 63, 62, 64, 65, 67, 66, 68, 69, 70, 71], ref13_Apply_b3J⟩
theorem ref13_Apply_b3_eq : ∀ x, evBlk Tryz.prog tb ref13_ApplyG [ref13_Apply_b4C] (codeAt 114 Tryz.f21) ref13_Apply_b3C.ins ref13_Apply_b3C.outs x = ref13_Apply_b3C.J x := fun x => by kernel_rfl
theorem ref13_Apply_b3_k : cutB Tryz.f21.ntmps ref13_Apply_b3C (codeAt 114 Tryz.f21) = true := by kernel_rfl
theorem ref13_Apply_b3_in : cutsOf ([ref13_Apply_b4C] : List (CutSpec tb)) (codeAt 114 Tryz.f21) = [(154, codeAt 154 Tryz.f21)] := by kernel_rfl
theorem ref13_Apply_b3_cut : CutSound Tryz.prog tb Tryz.f21.ntmps (codeAt 114 Tryz.f21) ref13_Apply_b3C := blk_ev mixed ref13_Apply_b3_k ref13_ApplyG_ok rfl ref13_Apply_b3_in (.cons rfl ref13_Apply_b4_cut rfl .nil) ref13_Apply_b3_eq
def ref13_Apply_b2J (x : Int × List Arg × Val × Int × Bool) : Option (((Unit) × Val) ⊕ ((Unit) × Val)) :=
  brn x.2.2.2.snd (obnd (ref13_foldedF (x.fst, x.2.fst)) fun y => some (Sum.inr ((), y)))
    (brn (decide (x.2.2.2.fst = 5))
      (obnd (ref13_Apply_b3J (x.fst, x.2.fst, x.2.2.fst, x.2.2.2.fst, decide (x.2.2.2.fst = 5))) fun y =>
        osum y (fun y => some (Sum.inl ((), y.2))) fun y => some (Sum.inr ((), y.2)))
      (brn (decide (x.2.2.2.fst = 6))
        (obnd (ref13_Apply_b3J (x.fst, x.2.fst, x.2.2.fst, x.2.2.2.fst, decide (x.2.2.2.fst = 6))) fun y =>
          osum y (fun y => some (Sum.inl ((), y.2))) fun y => some (Sum.inr ((), y.2)))
        (brn (decide (x.2.2.2.fst = 7))
          (obnd (ref13_Apply_b3J (x.fst, x.2.fst, x.2.2.fst, x.2.2.2.fst, decide (x.2.2.2.fst = 7))) fun y =>
            osum y (fun y => some (Sum.inl ((), y.2))) fun y => some (Sum.inr ((), y.2)))
          (brn (decide (x.2.2.2.fst = 8))
            (obnd (ref13_Apply_b3J (x.fst, x.2.fst, x.2.2.fst, x.2.2.2.fst, decide (x.2.2.2.fst = 8))) fun y =>
              osum y (fun y => some (Sum.inl ((), y.2))) fun y => some (Sum.inr ((), y.2)))
            (obnd (ref13_Apply_b3J (x.fst, x.2.fst, x.2.2.fst, x.2.2.2.fst, decide (x.2.2.2.fst = 9))) fun y =>
              osum y (fun y => some (Sum.inl ((), y.2))) fun y => some (Sum.inr ((), y.2)))))))
def ref13_Apply_b2C : CutSpec tb := ⟨66, [(0, .val 3), (1, .val 22), (4, .ref 28), (5, .val 3), (6, .val 4)], [(.normal, []), (.ret, [])], [12, 13, 14, 16, 15, 17, 18, 19, 20, 21, 22, 23, 25, 24, 26, 27, 28, 29, 30, 31, 33, 32, 34, 35, 36, 37, 39, 38, 40, 41, 42, 43, 44, 45, 47, 46, 48, 49, 50, 51, 52, 53, 54, 56, 55, 57, 58, 59, 60, 61, 63, 62, 64, 65, 67, 66, 68, 69, 70, 71], ref13_Apply_b2J⟩
theorem ref13_Apply_b2_eq : ∀ x, evBlk Tryz.prog tb ref13_ApplyG [ref13_Apply_b3C] (codeAt 66 Tryz.f21) ref13_Apply_b2C.ins ref13_Apply_b2C.outs x = ref13_Apply_b2C.J x := fun x => by kernel_rfl
theorem ref13_Apply_b2_k : cutB Tryz.f21.ntmps ref13_Apply_b2C (codeAt 66 Tryz.f21) = true := by kernel_rfl
theorem ref13_Apply_b2_in : cutsOf ([ref13_Apply_b3C] : List (CutSpec tb)) (codeAt 66 Tryz.f21) = [(114, codeAt 114 Tryz.f21)] := by kernel_rfl
theorem ref13_Apply_b2_cut : CutSound Tryz.prog tb Tryz.f21.ntmps (codeAt 66 Tryz.f21) ref13_Apply_b2C := blk_ev mixed ref13_Apply_b2_k ref13_ApplyG_ok rfl ref13_Apply_b2_in (.cons rfl ref13_Apply_b3_cut rfl .nil) ref13_Apply_b2_eq
def ref13_Apply_b1J (x : Int × List Arg × Val × Int) : Option (((Unit) × Val) ⊕ ((Unit) × Val)) :=
  brn (decide (x.2.2.snd = 0))
    (obnd (ref13_Apply_b2J (x.fst, x.2.fst, x.2.2.fst, x.2.2.snd, decide (x.2.2.snd = 0))) fun y => osum y (fun y => some (Sum.inl ((), y.2))) fun y => some (Sum.inr ((), y.2)))
    (brn (decide (x.2.2.snd = 1))
      (obnd (ref13_Apply_b2J (x.fst, x.2.fst, x.2.2.fst, x.2.2.snd, decide (x.2.2.snd = 1))) fun y => osum y (fun y => some (Sum.inl ((), y.2))) fun y => some (Sum.inr ((), y.2)))
      (brn (decide (x.2.2.snd = 2))
        (obnd (ref13_Apply_b2J (x.fst, x.2.fst, x.2.2.fst, x.2.2.snd, decide (x.2.2.snd = 2))) fun y => osum y (fun y => some (Sum.inl ((), y.2))) fun y => some (Sum.inr ((), y.2)))
        (brn (decide (x.2.2.snd = 3))
          (obnd (ref13_Apply_b2J (x.fst, x.2.fst, x.2.2.fst, x.2.2.snd, decide (x.2.2.snd = 3))) fun y =>
            osum y (fun y => some (Sum.inl ((), y.2))) fun y => some (Sum.inr ((), y.2)))
          (obnd (ref13_Apply_b2J (x.fst, x.2.fst, x.2.2.fst, x.2.2.snd, decide (x.2.2.snd = 4))) fun y =>
            osum y (fun y => some (Sum.inl ((), y.2))) fun y => some (Sum.inr ((), y.2))))))
def ref13_Apply_b1C : CutSpec tb := ⟨27, [(0, .val 3), (1, .val 22), (4, .ref 28), (5, .val 3)], [(.normal, []), (.ret, [])], [7, 6, 8, 9, 10, 11, 12, 13, 14, 16, 15, 17, 18, 19, 20, 21, 22, 23, 25, 24, 26, 27, 28, 29, 30, 31, 33, 32, 34, 35, 36, 37, 39, 38, 40, 41, 42, 43, 44, 45, 47, 46, 48, 49, 50, 51, 52, 53, 54, 56, 55, 57, 58, 59, 60, 61, 63, 62, 64, 65, 67, 66, 68, 69, 70, 71], ref13_Apply_b1J⟩
theorem ref13_Apply_b1_eq : ∀ x, evBlk Tryz.prog tb ref13_ApplyG [ref13_Apply_b2C] (codeAt 27 Tryz.f21) ref13_Apply_b1C.ins ref13_Apply_b1C.outs x = ref13_Apply_b1C.J x := fun x => by kernel_rfl
theorem ref13_Apply_b1_k : cutB Tryz.f21.ntmps ref13_Apply_b1C (codeAt 27 Tryz.f21) = true := by kernel_rfl
theorem ref13_Apply_b1_in : cutsOf ([ref13_Apply_b2C] : List (CutSpec tb)) (codeAt 27 Tryz.f21) = [(66, codeAt 66 Tryz.f21)] := by kernel_rfl
theorem ref13_Apply_b1_cut : CutSound Tryz.prog tb Tryz.f21.ntmps (codeAt 27 Tryz.f21) ref13_Apply_b1C := blk_ev mixed ref13_Apply_b1_k ref13_ApplyG_ok rfl ref13_Apply_b1_in (.cons rfl ref13_Apply_b2_cut rfl .nil) ref13_Apply_b1_eq
def ref13_ApplyF (x : Int × List Arg) : Option (Val) :=
  obnd (ref13_Apply_b1J (x.fst, x.snd, { Kind := 0, N := { M := 0, S := 0 }, S := [], B := false, E := 0 }, x.fst)) fun y =>
    osum y (fun y => obnd (ref13_FaultF 15) fun y => some y) fun y => some y.2
def ref13_ApplyS : FSpec tb := ⟨[(0, .val 3), (1, .val 22)], [(0, .val 28)], ref13_ApplyF⟩
theorem ref13_Apply_eq : ∀ x, evFn Tryz.prog tb ref13_ApplyG [ref13_Apply_b1C] Tryz.f21 ref13_ApplyS.ins ref13_ApplyS.outs x = ref13_ApplyS.f x := fun x => by kernel_rfl
theorem ref13_Apply_k : fnK Tryz.f21 ref13_ApplyS.ins ref13_ApplyS.outs = true := by kernel_rfl
theorem ref13_Apply_in : cutsOf ([ref13_Apply_b1C] : List (CutSpec tb)) (bodyOf Tryz.f21) = [(27, codeAt 27 Tryz.f21)] := by kernel_rfl
theorem ref13_Apply_sound : FnSound Tryz.prog tb 21 ref13_ApplyS := fn_cut mixed Tryz.func21 ref13_Apply_k ref13_ApplyG_ok rfl ref13_Apply_in (.cons rfl ref13_Apply_b1_cut rfl .nil) ref13_Apply_eq

/-! ### ref13_power -/
abbrev ref13_powerG : List (Nat × FSpec tb) := [(167, ref13_WholeS), (77, ref13_FaultS), (110, ref7_MulDecS), (113, ref13_OfDecS), (111, ref7_DivDecS), (161, ref13_OfNumS)]
theorem ref13_powerG_ok : AllSound Tryz.prog tb ref13_powerG := (.cons ref13_Whole_sound (.cons ref13_Fault_sound (.cons ref7_MulDec_sound (.cons ref13_OfDec_sound (.cons ref7_DivDec_sound (.cons ref13_OfNum_sound .nil))))))
def ref13_power_l1F (back : Dec × Val × Int × Dec × Int → Option (((Unit) × (Val × Dec)) ⊕ ((Unit) × (Val × Dec)))) (x : Dec × Val × Int × Dec × Int) : Option (((Unit) × (Val × Dec)) ⊕ ((Unit) × (Val × Dec))) :=
  brn (decide (x.2.2.2.snd < x.2.2.fst))
    (obnd (ref7_MulDecF (x.2.2.2.fst, x.fst)) fun y =>
      brn (!decide (y.snd = 0)) (obnd (ref13_OfDecF y) fun y => some (Sum.inr ((), y, x.2.2.2.fst))) (back (x.fst, x.2.fst, x.2.2.fst, y.fst, IntKind.i64.wrap (x.2.2.2.snd + 1))))
    (some (Sum.inl ((), x.2.fst, x.2.2.2.fst)))
def ref13_power_l1J : Dec × Val × Int × Dec × Int → Option (((Unit) × (Val × Dec)) ⊕ ((Unit) × (Val × Dec))) := iter ref13_power_l1F big
def ref13_power_l1C : CutSpec tb := ⟨84, [(2, .ro 26), (4, .ref 28), (7, .val 3), (8, .ref 26), (9, .val 3)], [((.exit 0), []), (.ret, [])], [28, 29, 30, 34, 35, 36, 33, 37, 38, 10, 11, 39, 40, 41, 42, 43, 44, 31, 32, 9], ref13_power_l1J⟩
theorem ref13_power_l1_eq : ∀ back x, evLoop Tryz.prog tb ref13_powerG [] (loopAt 84 Tryz.f112) ref13_power_l1C.ins ref13_power_l1C.outs back x = ref13_power_l1F back x := fun back x => by kernel_rfl
theorem ref13_power_l1_k : cutB Tryz.f112.ntmps ref13_power_l1C (loopAt 84 Tryz.f112) = true := by kernel_rfl
theorem ref13_power_l1_in : cutsOf ([] : List (CutSpec tb)) (loopAt 84 Tryz.f112) = [] := by kernel_rfl
theorem ref13_power_l1_cut : CutSound Tryz.prog tb Tryz.f112.ntmps (.loop (loopAt 84 Tryz.f112)) ref13_power_l1C := loop_it mixed ref13_power_l1_k ref13_powerG_ok rfl ref13_power_l1_in .nil ref13_power_l1F ref13_power_l1_eq rfl
def ref13_powerF (x : Dec × Dec) : Option (Val) :=
  obnd (ref13_WholeF (x.snd, -64, 64)) fun y =>
    brn (!y.snd) (obnd (ref13_FaultF 36) fun y => some y)
      (brn (decide (y.fst < 0))
        (obnd (ref13_power_l1J (x.fst, { Kind := 0, N := { M := 0, S := 0 }, S := [], B := false, E := 0 }, IntKind.i64.wrap (0 - y.fst), { M := 1, S := 0 }, 0)) fun y_1 =>
          osum y_1
            (fun y_2 =>
              brn (decide (y.fst < 0)) (obnd (ref7_DivDecF ({ M := 1, S := 0 }, y_2.2.snd)) fun y => obnd (ref13_OfDecF y) fun y => some y)
                (obnd (ref13_OfNumF y_2.2.snd) fun y => some y))
            fun y => some y.2.fst)
        (obnd (ref13_power_l1J (x.fst, { Kind := 0, N := { M := 0, S := 0 }, S := [], B := false, E := 0 }, y.fst, { M := 1, S := 0 }, 0)) fun y_1 =>
          osum y_1
            (fun y_2 =>
              brn (decide (y.fst < 0)) (obnd (ref7_DivDecF ({ M := 1, S := 0 }, y_2.2.snd)) fun y => obnd (ref13_OfDecF y) fun y => some y)
                (obnd (ref13_OfNumF y_2.2.snd) fun y => some y))
            fun y => some y.2.fst))
def ref13_powerS : FSpec tb := ⟨[(0, .val 26), (1, .val 26)], [(0, .val 28)], ref13_powerF⟩
theorem ref13_power_eq : ∀ x, evFn Tryz.prog tb ref13_powerG [ref13_power_l1C] Tryz.f112 ref13_powerS.ins ref13_powerS.outs x = ref13_powerS.f x := fun x => by kernel_rfl
theorem ref13_power_k : fnK Tryz.f112 ref13_powerS.ins ref13_powerS.outs = true := by kernel_rfl
theorem ref13_power_in : cutsOf ([ref13_power_l1C] : List (CutSpec tb)) (bodyOf Tryz.f112) = [(84, .loop (loopAt 84 Tryz.f112))] := by kernel_rfl
theorem ref13_power_sound : FnSound Tryz.prog tb 112 ref13_powerS := fn_cut mixed Tryz.func112 ref13_power_k ref13_powerG_ok rfl ref13_power_in (.cons rfl ref13_power_l1_cut rfl .nil) ref13_power_eq

/-! ### ref13_Binary -/
abbrev ref13_BinaryG : List (Nat × FSpec tb) := [(77, ref13_FaultS), (103, ref13_CompareValsS), (104, ref13_OfBoolS), (106, ref13_ValTextS), (105, ref13_OfStrS), (107, ref13_NumberS), (108, ref7_AddDecS), (109, ref7_SubDecS), (110, ref7_MulDecS), (111, ref7_DivDecS), (112, ref13_powerS), (113, ref13_OfDecS)]
theorem ref13_BinaryG_ok : AllSound Tryz.prog tb ref13_BinaryG := (.cons ref13_Fault_sound (.cons ref13_CompareVals_sound (.cons ref13_OfBool_sound (.cons ref13_ValText_sound (.cons ref13_OfStr_sound (.cons ref13_Number_sound (.cons ref7_AddDec_sound (.cons ref7_SubDec_sound (.cons ref7_MulDec_sound (.cons ref7_DivDec_sound (.cons ref13_power_sound (.cons ref13_OfDec_sound .nil))))))))))))
def ref13_Binary_b1J (x : Int) : Option (Bool) :=
  brn (decide (x < 1)) (some true) (some (decide (12 < x)))
def ref13_Binary_b1C : CutSpec tb := ⟨48, [(0, .val 3)], [(.normal, [(29, .val 4)])], [24, 25, 26, 27, 28, 29], ref13_Binary_b1J⟩
theorem ref13_Binary_b1_eq : ∀ x, evBlk Tryz.prog tb ref13_BinaryG [] (codeAt 48 Tryz.f39) ref13_Binary_b1C.ins ref13_Binary_b1C.outs x = ref13_Binary_b1C.J x := fun x => by kernel_rfl
theorem ref13_Binary_b1_k : cutB Tryz.f39.ntmps ref13_Binary_b1C (codeAt 48 Tryz.f39) = true := by kernel_rfl
theorem ref13_Binary_b1_in : cutsOf ([] : List (CutSpec tb)) (codeAt 48 Tryz.f39) = [] := by kernel_rfl
theorem ref13_Binary_b1_cut : CutSound Tryz.prog tb Tryz.f39.ntmps (codeAt 48 Tryz.f39) ref13_Binary_b1C := blk_ev mixed ref13_Binary_b1_k ref13_BinaryG_ok rfl ref13_Binary_b1_in .nil ref13_Binary_b1_eq
def ref13_BinaryF (x : Int × Val × Val) : Option (Val) :=
  brn (decide (x.2.fst.Kind = 4)) (some x.2.fst)
    (brn (decide (x.2.snd.Kind = 4)) (some x.2.snd)
      (obnd (ref13_Binary_b1J x.fst) fun y =>
        brn y (obnd (ref13_FaultF 15) fun y => some y)
          (brn (decide (7 ≤ x.fst))
            (obnd (ref13_CompareValsF x.2) fun y =>
              brn (decide (x.fst = 7)) (obnd (ref13_OfBoolF (decide (y = 0))) fun y => some y)
                (brn (decide (x.fst = 8)) (obnd (ref13_OfBoolF !decide (y = 0)) fun y => some y)
                  (brn (decide (x.fst = 9)) (obnd (ref13_OfBoolF (decide (y < 0))) fun y => some y)
                    (brn (decide (x.fst = 10)) (obnd (ref13_OfBoolF (decide (y ≤ 0))) fun y => some y)
                      (brn (decide (x.fst = 11)) (obnd (ref13_OfBoolF (decide (0 < y))) fun y => some y) (obnd (ref13_OfBoolF (decide (0 ≤ y))) fun y => some y))))))
            (brn (decide (x.fst = 6))
              (obnd (ref13_ValTextF x.2.fst) fun y => obnd (ref13_ValTextF x.2.snd) fun y_1 => obnd (cat y y_1) fun z => obnd (ref13_OfStrF z) fun y => some y)
              (obnd (ref13_NumberF x.2.fst) fun y =>
                brn (!y.2.snd) (some y.2.fst)
                  (obnd (ref13_NumberF x.2.snd) fun y_1 =>
                    brn (!y_1.2.snd) (some y_1.2.fst)
                      (brn (decide (x.fst = 1)) (obnd (ref7_AddDecF (y.fst, y_1.fst)) fun y => obnd (ref13_OfDecF y) fun y => some y)
                        (brn (decide (x.fst = 2)) (obnd (ref7_SubDecF (y.fst, y_1.fst)) fun y => obnd (ref13_OfDecF y) fun y => some y)
                          (brn (decide (x.fst = 3)) (obnd (ref7_MulDecF (y.fst, y_1.fst)) fun y => obnd (ref13_OfDecF y) fun y => some y)
                            (brn (decide (x.fst = 4)) (obnd (ref7_DivDecF (y.fst, y_1.fst)) fun y => obnd (ref13_OfDecF y) fun y => some y)
                              (brn (decide (x.fst = 5)) (obnd (ref13_powerF (y.fst, y_1.fst)) fun y => some y)
                                (obnd (ref13_OfDecF ({ M := 0, S := 0 }, 0)) fun y => some y))))))))))))
def ref13_BinaryS : FSpec tb := ⟨[(0, .val 3), (1, .val 28), (2, .val 28)], [(0, .val 28)], ref13_BinaryF⟩
theorem ref13_Binary_eq : ∀ x, evFn Tryz.prog tb ref13_BinaryG [ref13_Binary_b1C] Tryz.f39 ref13_BinaryS.ins ref13_BinaryS.outs x = ref13_BinaryS.f x := fun x => by kernel_rfl
theorem ref13_Binary_k : fnK Tryz.f39 ref13_BinaryS.ins ref13_BinaryS.outs = true := by kernel_rfl
theorem ref13_Binary_in : cutsOf ([ref13_Binary_b1C] : List (CutSpec tb)) (bodyOf Tryz.f39) = [(48, codeAt 48 Tryz.f39)] := by kernel_rfl
theorem ref13_Binary_sound : FnSound Tryz.prog tb 39 ref13_BinaryS := fn_cut mixed Tryz.func39 ref13_Binary_k ref13_BinaryG_ok rfl ref13_Binary_in (.cons rfl ref13_Binary_b1_cut rfl .nil) ref13_Binary_eq

/-! ### ref13_Unary -/
def ref13_UnaryF (x : Int × Val) : Option (Val) :=
  brn (decide (x.fst = 2)) (some x.snd)
    (obnd (ref13_NumberF x.snd) fun y =>
      brn (!decide (x.fst = 1))
        (brn (!decide (x.fst = 3)) (obnd (ref13_FaultF 15) fun y => some y)
          (brn (!y.2.snd) (some y.2.fst)
            (brn (decide (x.fst = 1)) (obnd (ref7_SubDecF ({ M := 0, S := 0 }, y.fst)) fun y => obnd (ref13_OfDecF y) fun y => some y)
              (obnd (ref7_DivDecF (y.fst, { M := 100, S := 0 })) fun y => obnd (ref13_OfDecF y) fun y => some y))))
        (brn (!y.2.snd) (some y.2.fst)
          (brn (decide (x.fst = 1)) (obnd (ref7_SubDecF ({ M := 0, S := 0 }, y.fst)) fun y => obnd (ref13_OfDecF y) fun y => some y)
            (obnd (ref7_DivDecF (y.fst, { M := 100, S := 0 })) fun y => obnd (ref13_OfDecF y) fun y => some y))))
def ref13_UnaryS : FSpec tb := ⟨[(0, .val 3), (1, .val 28)], [(0, .val 28)], ref13_UnaryF⟩
theorem ref13_Unary_eq : ∀ x, evFn Tryz.prog tb [(107, ref13_NumberS), (77, ref13_FaultS), (109, ref7_SubDecS), (113, ref13_OfDecS), (111, ref7_DivDecS)] [] Tryz.f41 ref13_UnaryS.ins ref13_UnaryS.outs x = ref13_UnaryS.f x := fun x => by kernel_rfl
theorem ref13_Unary_k : fnK Tryz.f41 ref13_UnaryS.ins ref13_UnaryS.outs = true := by kernel_rfl
theorem ref13_Unary_sound : FnSound Tryz.prog tb 41 ref13_UnaryS := fn_ev mixed Tryz.func41 ref13_Unary_k (.cons ref13_Number_sound (.cons ref13_Fault_sound (.cons ref7_SubDec_sound (.cons ref13_OfDec_sound (.cons ref7_DivDec_sound .nil))))) rfl ref13_Unary_eq

/-! ### ref13_Names -/
def ref13_NamesF (x : Unit) : Option (List (List UInt8)) :=
  some
    [[83, 85, 77], [77, 73, 78], [77, 65, 88], U8s [67, 79, 85, 78, 84], U8s [65, 86, 69, 82, 65, 71, 69], [65, 66, 83], [83, 73, 71, 78], [73, 78, 84], [77, 79, 68],
      U8s [82, 79, 85, 78, 68], [73, 70], [65, 78, 68], [79, 82], [78, 79, 84], [76, 69, 78], [76, 69, 70, 84], U8s [82, 73, 71, 72, 84], [77, 73, 68], U8s [67, 79, 78, 67, 65, 84],
      U8s [85, 80, 80, 69, 82], U8s [76, 79, 87, 69, 82], U8s [73, 83, 66, 76, 65, 78, 75], U8s [73, 83, 69, 82, 82, 79, 82], U8s [73, 70, 69, 82, 82, 79, 82],
      U8s [73, 78, 68, 69, 88], U8s [67, 72, 79, 79, 83, 69], U8s [69, 88, 65, 67, 84], [82, 69, 80, 84], [78, 65], [84, 89, 80, 69]]
def ref13_NamesS : FSpec tb := ⟨[], [(0, .own 9)], ref13_NamesF⟩
theorem ref13_Names_eq : ∀ x, evFn Tryz.prog tb [] [] Tryz.f22 ref13_NamesS.ins ref13_NamesS.outs x = ref13_NamesS.f x := fun x => by kernel_rfl
theorem ref13_Names_k : fnK Tryz.f22 ref13_NamesS.ins ref13_NamesS.outs = true := by kernel_rfl
theorem ref13_Names_sound : FnSound Tryz.prog tb 22 ref13_NamesS := fn_ev mixed Tryz.func22 ref13_Names_k .nil rfl ref13_Names_eq
end Go.Proofs.YtdgpkbnnljblmaaGreatDoor
