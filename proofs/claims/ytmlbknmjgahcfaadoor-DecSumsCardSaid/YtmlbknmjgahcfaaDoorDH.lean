/- The document's decimals: what its functions compute. (by gen.py) -/
import Derived.Test.YtmlbknmjgahcfaaDoorDF
namespace Go.Proofs.YtmlbknmjgahcfaaDoor
open Go Go.Ev
set_option linter.unusedVariables false

/-! ### ref7_big -/
def ref7_big_l1F (back : List (Int) × Big × Int → Option ((List (Int)) × Big)) (x : List (Int) × Big × Int) : Option ((List (Int)) × Big) :=
  brn (decide (0 < x.2.snd)) (obnd (app 8 x.fst [IntKind.i64.wrap (x.2.snd.tmod 10)]) fun zs => back (zs, { Minus := x.2.fst.Minus, D := zs }, IntKind.u64.wrap (x.2.snd.tdiv 10)))
    (some (x.fst, { Minus := x.2.fst.Minus, D := x.fst }))
def ref7_big_l1J : List (Int) × Big × Int → Option ((List (Int)) × Big) := iter ref7_big_l1F big
def ref7_big_l1C : CutSpec tb := ⟨52, [(8589934595, .own 3), (3, .ref 72), (4, .val 64)], [((.exit 0), [(8589934595, .own 3)])], [14, 15, 16, 17, 18, 19, 20, 21, 22, 23, 24, 25, 4], ref7_big_l1J⟩
theorem ref7_big_l1_eq : ∀ back x, evLoop Tryd.prog tb [] [] (loopAt 52 Tryd.f56) ref7_big_l1C.ins ref7_big_l1C.outs back x = ref7_big_l1F back x := fun back x => by kernel_rfl
theorem ref7_big_l1_k : cutB Tryd.f56.ntmps ref7_big_l1C (loopAt 52 Tryd.f56) = true := by kernel_rfl
theorem ref7_big_l1_in : cutsOf ([] : List (CutSpec tb)) (loopAt 52 Tryd.f56) = [] := by kernel_rfl
theorem ref7_big_l1_cut : CutSound Tryd.prog tb Tryd.f56.ntmps (.loop (loopAt 52 Tryd.f56)) ref7_big_l1C := loop_it mixed ref7_big_l1_k .nil rfl ref7_big_l1_in .nil ref7_big_l1F ref7_big_l1_eq rfl
def ref7_bigF (x : Int) : Option (Big) :=
  brn (decide (x < 0)) (obnd (ref7_big_l1J ([], { Minus := decide (x < 0), D := [] }, IntKind.u64.wrap (0 - IntKind.u64.wrap x))) fun y => some { Minus := y.2.Minus, D := y.1 })
    (obnd (ref7_big_l1J ([], { Minus := decide (x < 0), D := [] }, IntKind.u64.wrap x)) fun y => some { Minus := y.2.Minus, D := y.1 })
def ref7_bigS : FSpec tb := ⟨[(0, .val 2)], [(0, .val 72)], ref7_bigF⟩
theorem ref7_big_eq : ∀ x, evFn Tryd.prog tb [] [ref7_big_l1C] Tryd.f56 ref7_bigS.ins ref7_bigS.outs x = ref7_bigS.f x := fun x => by kernel_rfl
theorem ref7_big_k : fnK Tryd.f56 ref7_bigS.ins ref7_bigS.outs = true := by kernel_rfl
theorem ref7_big_in : cutsOf ([ref7_big_l1C] : List (CutSpec tb)) (bodyOf Tryd.f56) = [(52, .loop (loopAt 52 Tryd.f56))] := by kernel_rfl
theorem ref7_big_sound : FnSound Tryd.prog tb 56 ref7_bigS := fn_cut mixed Tryd.func56 ref7_big_k .nil rfl ref7_big_in (.cons rfl ref7_big_l1_cut rfl .nil) ref7_big_eq

/-! ### ref7_up -/
def ref7_up_l1F (back : List (Int) × Int × Big × Int → Option ((List (Int)) × Big)) (x : List (Int) × Int × Big × Int) : Option ((List (Int)) × Big) :=
  brn (decide (x.2.2.snd < x.2.fst)) (obnd (app 8 x.fst [0]) fun zs => back (zs, x.2.fst, { Minus := x.2.2.fst.Minus, D := zs }, IntKind.i64.wrap (x.2.2.snd + 1)))
    (some (x.fst, { Minus := x.2.2.fst.Minus, D := x.fst }))
def ref7_up_l1J : List (Int) × Int × Big × Int → Option ((List (Int)) × Big) := iter ref7_up_l1F big
def ref7_up_l1C : CutSpec tb := ⟨52, [(8589934597, .own 3), (1, .val 3), (5, .ref 72), (6, .val 3)], [((.exit 0), [(8589934597, .own 3)])], [15, 16, 17, 20, 21, 22, 23, 24, 18, 19, 6], ref7_up_l1J⟩
theorem ref7_up_l1_eq : ∀ back x, evLoop Tryd.prog tb [] [] (loopAt 52 Tryd.f59) ref7_up_l1C.ins ref7_up_l1C.outs back x = ref7_up_l1F back x := fun back x => by kernel_rfl
theorem ref7_up_l1_k : cutB Tryd.f59.ntmps ref7_up_l1C (loopAt 52 Tryd.f59) = true := by kernel_rfl
theorem ref7_up_l1_in : cutsOf ([] : List (CutSpec tb)) (loopAt 52 Tryd.f59) = [] := by kernel_rfl
theorem ref7_up_l1_cut : CutSound Tryd.prog tb Tryd.f59.ntmps (.loop (loopAt 52 Tryd.f59)) ref7_up_l1C := loop_it mixed ref7_up_l1_k .nil rfl ref7_up_l1_in .nil ref7_up_l1F ref7_up_l1_eq rfl
def ref7_upF (x : Big × Int) : Option (Big) :=
  brn (decide ((↑x.fst.D.length : Int) = 0)) (some x.fst)
    (obnd (ref7_up_l1J ([], x.snd, { Minus := x.fst.Minus, D := [] }, 0)) fun y => obnd (app 8 y.1 x.fst.D) fun zs => some { Minus := y.2.Minus, D := zs })
def ref7_upS : FSpec tb := ⟨[(0, .val 72), (1, .val 3)], [(0, .val 72)], ref7_upF⟩
theorem ref7_up_eq : ∀ x, evFn Tryd.prog tb [] [ref7_up_l1C] Tryd.f59 ref7_upS.ins ref7_upS.outs x = ref7_upS.f x := fun x => by kernel_rfl
theorem ref7_up_k : fnK Tryd.f59 ref7_upS.ins ref7_upS.outs = true := by kernel_rfl
theorem ref7_up_in : cutsOf ([ref7_up_l1C] : List (CutSpec tb)) (bodyOf Tryd.f59) = [(52, .loop (loopAt 52 Tryd.f59))] := by kernel_rfl
theorem ref7_up_sound : FnSound Tryd.prog tb 59 ref7_upS := fn_cut mixed Tryd.func59 ref7_up_k .nil rfl ref7_up_in (.cons rfl ref7_up_l1_cut rfl .nil) ref7_up_eq

/-! ### ref7_alike -/
def ref7_alikeF (x : Dec × Dec) : Option (Big × Big × Int) :=
  obnd (ref7_bigF x.fst.M) fun y =>
    obnd (ref7_bigF x.snd.M) fun y_1 =>
      brn (decide (x.fst.S < x.snd.S)) (obnd (ref7_upF (y, IntKind.i64.wrap (x.snd.S - x.fst.S))) fun y => some (y, y_1, x.snd.S))
        (obnd (ref7_upF (y_1, IntKind.i64.wrap (x.fst.S - x.snd.S))) fun y_2 => some (y, y_2, x.fst.S))
def ref7_alikeS : FSpec tb := ⟨[(0, .val 28), (1, .val 28)], [(0, .val 72), (1, .val 72), (2, .val 3)], ref7_alikeF⟩
theorem ref7_alike_eq : ∀ x, evFn Tryd.prog tb [(56, ref7_bigS), (59, ref7_upS)] [] Tryd.f47 ref7_alikeS.ins ref7_alikeS.outs x = ref7_alikeS.f x := fun x => by kernel_rfl
theorem ref7_alike_k : fnK Tryd.f47 ref7_alikeS.ins ref7_alikeS.outs = true := by kernel_rfl
theorem ref7_alike_sound : FnSound Tryd.prog tb 47 ref7_alikeS := fn_ev mixed Tryd.func47 ref7_alike_k (.cons ref7_big_sound (.cons ref7_up_sound .nil)) rfl ref7_alike_eq

/-! ### ref7_plus -/
def ref7_plus_b2J (x : List Int × List Int × List (Int) × Int × Int) : Option (List (Int) × Int) :=
  brn (decide (x.2.2.2.snd < (↑x.fst.length : Int)))
    (obnd (idx x.fst x.2.2.2.snd) fun y =>
      brn (decide (x.2.2.2.snd < (↑x.2.fst.length : Int)))
        (obnd (idx x.2.fst x.2.2.2.snd) fun y_1 =>
          obnd (app 8 x.2.2.fst [(IntKind.i64.wrap (IntKind.i64.wrap (x.2.2.2.fst + y) + y_1)).tmod 10]) fun zs =>
            some (zs, IntKind.i64.wrap ((IntKind.i64.wrap (IntKind.i64.wrap (x.2.2.2.fst + y) + y_1)).tdiv 10)))
        (obnd (app 8 x.2.2.fst [(IntKind.i64.wrap (x.2.2.2.fst + y)).tmod 10]) fun zs => some (zs, IntKind.i64.wrap ((IntKind.i64.wrap (x.2.2.2.fst + y)).tdiv 10))))
    (brn (decide (x.2.2.2.snd < (↑x.2.fst.length : Int)))
      (obnd (idx x.2.fst x.2.2.2.snd) fun y =>
        obnd (app 8 x.2.2.fst [(IntKind.i64.wrap (x.2.2.2.fst + y)).tmod 10]) fun zs => some (zs, IntKind.i64.wrap ((IntKind.i64.wrap (x.2.2.2.fst + y)).tdiv 10)))
      (obnd (app 8 x.2.2.fst [x.2.2.2.fst.tmod 10]) fun zs => some (zs, IntKind.i64.wrap (x.2.2.2.fst.tdiv 10))))
def ref7_plus_b2C : CutSpec tb := ⟨59, [(0, .val 70), (1, .val 70), (5, .own 3), (6, .val 3), (7, .val 3)], [(.normal, [(5, .own 3), (6, .val 3)])], [24, 25, 26, 27, 28, 29, 30, 31, 32, 33, 6, 34, 35, 36, 37, 38, 39, 40, 41, 42, 43, 44, 45, 46, 47, 48, 5, 49, 50], ref7_plus_b2J⟩
theorem ref7_plus_b2_eq : ∀ x, evBlk Tryd.prog tb [] [] (codeAt 59 Tryd.f60) ref7_plus_b2C.ins ref7_plus_b2C.outs x = ref7_plus_b2C.J x := fun x => by kernel_rfl
theorem ref7_plus_b2_k : cutB Tryd.f60.ntmps ref7_plus_b2C (codeAt 59 Tryd.f60) = true := by kernel_rfl
theorem ref7_plus_b2_in : cutsOf ([] : List (CutSpec tb)) (codeAt 59 Tryd.f60) = [] := by kernel_rfl
theorem ref7_plus_b2_cut : CutSound Tryd.prog tb Tryd.f60.ntmps (codeAt 59 Tryd.f60) ref7_plus_b2C := blk_ev mixed ref7_plus_b2_k .nil rfl ref7_plus_b2_in .nil ref7_plus_b2_eq
def ref7_plus_l1F (back : List Int × List Int × List (Int) × Int × Int → Option (List (Int))) (x : List Int × List Int × List (Int) × Int × Int) : Option (List (Int)) :=
  brn (decide (x.2.2.2.snd < (↑x.fst.length : Int)))
    (obnd (ref7_plus_b2J (x.fst, x.2.fst, x.2.2.fst, x.2.2.2)) fun y => back (x.fst, x.2.fst, y.fst, y.snd, IntKind.i64.wrap (x.2.2.2.snd + 1)))
    (brn (decide (x.2.2.2.snd < (↑x.2.fst.length : Int)))
      (obnd (ref7_plus_b2J (x.fst, x.2.fst, x.2.2.fst, x.2.2.2)) fun y => back (x.fst, x.2.fst, y.fst, y.snd, IntKind.i64.wrap (x.2.2.2.snd + 1)))
      (brn (decide (0 < x.2.2.2.fst)) (obnd (ref7_plus_b2J (x.fst, x.2.fst, x.2.2.fst, x.2.2.2)) fun y => back (x.fst, x.2.fst, y.fst, y.snd, IntKind.i64.wrap (x.2.2.2.snd + 1)))
        (some x.2.2.1)))
def ref7_plus_l1J : List Int × List Int × List (Int) × Int × Int → Option (List (Int)) := iter ref7_plus_l1F big
def ref7_plus_l1C : CutSpec tb := ⟨44, [(0, .val 70), (1, .val 70), (5, .own 3), (6, .val 3), (7, .val 3)], [((.exit 0), [(5, .own 3)])], [8, 9, 10, 11, 12, 13, 14, 15, 16, 17, 18, 19, 20, 21, 24, 25, 26, 27, 28, 29, 30, 31, 32, 33, 6, 34, 35, 36, 37, 38, 39, 40, 41, 42, 43, 44, 45, 46, 47, 48, 5, 49, 50, 22, 23, 7], ref7_plus_l1J⟩
theorem ref7_plus_l1_eq : ∀ back x, evLoop Tryd.prog tb [] [ref7_plus_b2C] (loopAt 44 Tryd.f60) ref7_plus_l1C.ins ref7_plus_l1C.outs back x = ref7_plus_l1F back x := fun back x => by kernel_rfl
theorem ref7_plus_l1_k : cutB Tryd.f60.ntmps ref7_plus_l1C (loopAt 44 Tryd.f60) = true := by kernel_rfl
theorem ref7_plus_l1_in : cutsOf ([ref7_plus_b2C] : List (CutSpec tb)) (loopAt 44 Tryd.f60) = [(59, codeAt 59 Tryd.f60)] := by kernel_rfl
theorem ref7_plus_l1_cut : CutSound Tryd.prog tb Tryd.f60.ntmps (.loop (loopAt 44 Tryd.f60)) ref7_plus_l1C := loop_it mixed ref7_plus_l1_k .nil rfl ref7_plus_l1_in (.cons rfl ref7_plus_b2_cut rfl .nil) ref7_plus_l1F ref7_plus_l1_eq rfl
def ref7_plusF (x : List Int × List Int) : Option (List (Int)) :=
  obnd (ref7_plus_l1J (x.fst, x.snd, [], 0, 0)) fun y => some y
def ref7_plusS : FSpec tb := ⟨[(0, .val 70), (1, .val 70)], [(0, .own 3)], ref7_plusF⟩
theorem ref7_plus_eq : ∀ x, evFn Tryd.prog tb [] [ref7_plus_l1C] Tryd.f60 ref7_plusS.ins ref7_plusS.outs x = ref7_plusS.f x := fun x => by kernel_rfl
theorem ref7_plus_k : fnK Tryd.f60 ref7_plusS.ins ref7_plusS.outs = true := by kernel_rfl
theorem ref7_plus_in : cutsOf ([ref7_plus_l1C] : List (CutSpec tb)) (bodyOf Tryd.f60) = [(44, .loop (loopAt 44 Tryd.f60))] := by kernel_rfl
theorem ref7_plus_sound : FnSound Tryd.prog tb 60 ref7_plusS := fn_cut mixed Tryd.func60 ref7_plus_k .nil rfl ref7_plus_in (.cons rfl ref7_plus_l1_cut rfl .nil) ref7_plus_eq

/-! ### ref7_trim -/
def ref7_trim_l1F (back : Big × Int → Option (Int)) (x : Big × Int) : Option (Int) :=
  brn (decide (0 < x.snd)) (obnd (idx x.fst.D (IntKind.i64.wrap (x.snd - 1))) fun y => brn (decide (y = 0)) (back (x.fst, IntKind.i64.wrap (x.snd - 1))) (some x.2)) (some x.2)
def ref7_trim_l1J : Big × Int → Option (Int) := iter ref7_trim_l1F big
def ref7_trim_l1C : CutSpec tb := ⟨28, [(1, .ro 72), (3, .val 3)], [((.exit 0), [(3, .val 3)])], [7, 8, 9, 10, 11, 12, 13, 14, 15, 16, 17, 18, 19, 3], ref7_trim_l1J⟩
theorem ref7_trim_l1_eq : ∀ back x, evLoop Tryd.prog tb [] [] (loopAt 28 Tryd.f61) ref7_trim_l1C.ins ref7_trim_l1C.outs back x = ref7_trim_l1F back x := fun back x => by kernel_rfl
theorem ref7_trim_l1_k : cutB Tryd.f61.ntmps ref7_trim_l1C (loopAt 28 Tryd.f61) = true := by kernel_rfl
theorem ref7_trim_l1_in : cutsOf ([] : List (CutSpec tb)) (loopAt 28 Tryd.f61) = [] := by kernel_rfl
theorem ref7_trim_l1_cut : CutSound Tryd.prog tb Tryd.f61.ntmps (.loop (loopAt 28 Tryd.f61)) ref7_trim_l1C := loop_it mixed ref7_trim_l1_k .nil rfl ref7_trim_l1_in .nil ref7_trim_l1F ref7_trim_l1_eq rfl
def ref7_trimF (x : Big) : Option (Big) :=
  obnd (ref7_trim_l1J (x, (↑x.D.length : Int))) fun y => obnd (sub x.D 0 y) fun z => brn (decide (y = 0)) (some { Minus := false, D := z }) (some { Minus := x.Minus, D := z })
def ref7_trimS : FSpec tb := ⟨[(0, .val 72)], [(0, .val 72)], ref7_trimF⟩
theorem ref7_trim_eq : ∀ x, evFn Tryd.prog tb [] [ref7_trim_l1C] Tryd.f61 ref7_trimS.ins ref7_trimS.outs x = ref7_trimS.f x := fun x => by kernel_rfl
theorem ref7_trim_k : fnK Tryd.f61 ref7_trimS.ins ref7_trimS.outs = true := by kernel_rfl
theorem ref7_trim_in : cutsOf ([ref7_trim_l1C] : List (CutSpec tb)) (bodyOf Tryd.f61) = [(28, .loop (loopAt 28 Tryd.f61))] := by kernel_rfl
theorem ref7_trim_sound : FnSound Tryd.prog tb 61 ref7_trimS := fn_cut mixed Tryd.func61 ref7_trim_k .nil rfl ref7_trim_in (.cons rfl ref7_trim_l1_cut rfl .nil) ref7_trim_eq

/-! ### ref7_less -/
def ref7_less_l1F (back : List Int × List Int × Int → Option ((Unit) ⊕ (Bool))) (x : List Int × List Int × Int) : Option ((Unit) ⊕ (Bool)) :=
  brn (decide (0 ≤ x.2.snd))
    (obnd (idx x.fst x.2.snd) fun y =>
      obnd (idx x.2.fst x.2.snd) fun y_1 =>
        brn (!decide (y = y_1)) (obnd (idx x.fst x.2.snd) fun y => obnd (idx x.2.fst x.2.snd) fun y_2 => some (Sum.inr (decide (y < y_2))))
          (back (x.fst, x.2.fst, IntKind.i64.wrap (x.2.snd - 1))))
    (some (Sum.inl PUnit.unit))
def ref7_less_l1J : List Int × List Int × Int → Option ((Unit) ⊕ (Bool)) := iter ref7_less_l1F big
def ref7_less_l1C : CutSpec tb := ⟨44, [(0, .val 70), (1, .val 70), (5, .val 3)], [((.exit 0), []), (.ret, [(4, .val 4)])], [19, 20, 23, 24, 25, 26, 27, 28, 29, 30, 31, 32, 33, 34, 35, 36, 37, 38, 39, 40, 4, 21, 22, 5], ref7_less_l1J⟩
theorem ref7_less_l1_eq : ∀ back x, evLoop Tryd.prog tb [] [] (loopAt 44 Tryd.f81) ref7_less_l1C.ins ref7_less_l1C.outs back x = ref7_less_l1F back x := fun back x => by kernel_rfl
theorem ref7_less_l1_k : cutB Tryd.f81.ntmps ref7_less_l1C (loopAt 44 Tryd.f81) = true := by kernel_rfl
theorem ref7_less_l1_in : cutsOf ([] : List (CutSpec tb)) (loopAt 44 Tryd.f81) = [] := by kernel_rfl
theorem ref7_less_l1_cut : CutSound Tryd.prog tb Tryd.f81.ntmps (.loop (loopAt 44 Tryd.f81)) ref7_less_l1C := loop_it mixed ref7_less_l1_k .nil rfl ref7_less_l1_in .nil ref7_less_l1F ref7_less_l1_eq rfl
def ref7_lessF (x : List Int × List Int) : Option (Bool) :=
  brn (!decide ((↑x.fst.length : Int) = (↑x.snd.length : Int))) (some (decide ((↑x.fst.length : Int) < (↑x.snd.length : Int))))
    (obnd (ref7_less_l1J (x.fst, x.snd, IntKind.i64.wrap ((↑x.fst.length : Int) - 1))) fun y => osum y (fun y => some false) fun y => some y)
def ref7_lessS : FSpec tb := ⟨[(0, .val 70), (1, .val 70)], [(0, .val 4)], ref7_lessF⟩
theorem ref7_less_eq : ∀ x, evFn Tryd.prog tb [] [ref7_less_l1C] Tryd.f81 ref7_lessS.ins ref7_lessS.outs x = ref7_lessS.f x := fun x => by kernel_rfl
theorem ref7_less_k : fnK Tryd.f81 ref7_lessS.ins ref7_lessS.outs = true := by kernel_rfl
theorem ref7_less_in : cutsOf ([ref7_less_l1C] : List (CutSpec tb)) (bodyOf Tryd.f81) = [(44, .loop (loopAt 44 Tryd.f81))] := by kernel_rfl
theorem ref7_less_sound : FnSound Tryd.prog tb 81 ref7_lessS := fn_cut mixed Tryd.func81 ref7_less_k .nil rfl ref7_less_in (.cons rfl ref7_less_l1_cut rfl .nil) ref7_less_eq

/-! ### ref7_minus -/
def ref7_minus_l1F (back : List Int × List Int × List (Int) × Int × Int → Option (List (Int))) (x : List Int × List Int × List (Int) × Int × Int) : Option (List (Int)) :=
  brn (decide (x.2.2.2.snd < (↑x.fst.length : Int)))
    (obnd (idx x.fst x.2.2.2.snd) fun y =>
      brn (decide (x.2.2.2.snd < (↑x.2.fst.length : Int)))
        (obnd (idx x.2.fst x.2.2.2.snd) fun y_1 =>
          brn (decide (IntKind.i64.wrap (IntKind.i64.wrap (y - x.2.2.2.fst) - y_1) < 0))
            (obnd (app 8 x.2.2.fst [IntKind.i64.wrap (IntKind.i64.wrap (IntKind.i64.wrap (y - x.2.2.2.fst) - y_1) + 10)]) fun zs =>
              back (x.fst, x.2.fst, zs, 1, IntKind.i64.wrap (x.2.2.2.snd + 1)))
            (obnd (app 8 x.2.2.fst [IntKind.i64.wrap (IntKind.i64.wrap (y - x.2.2.2.fst) - y_1)]) fun zs => back (x.fst, x.2.fst, zs, 0, IntKind.i64.wrap (x.2.2.2.snd + 1))))
        (brn (decide (IntKind.i64.wrap (y - x.2.2.2.fst) < 0))
          (obnd (app 8 x.2.2.fst [IntKind.i64.wrap (IntKind.i64.wrap (y - x.2.2.2.fst) + 10)]) fun zs => back (x.fst, x.2.fst, zs, 1, IntKind.i64.wrap (x.2.2.2.snd + 1)))
          (obnd (app 8 x.2.2.fst [IntKind.i64.wrap (y - x.2.2.2.fst)]) fun zs => back (x.fst, x.2.fst, zs, 0, IntKind.i64.wrap (x.2.2.2.snd + 1)))))
    (some x.2.2.1)
def ref7_minus_l1J : List Int × List Int × List (Int) × Int × Int → Option (List (Int)) := iter ref7_minus_l1F big
def ref7_minus_l1C : CutSpec tb := ⟨44, [(0, .val 70), (1, .val 70), (5, .own 3), (6, .val 3), (7, .val 3)], [((.exit 0), [(5, .own 3)])], [9, 10, 11, 12, 15, 16, 17, 18, 19, 20, 8, 21, 22, 23, 24, 25, 26, 27, 28, 29, 30, 6, 31, 32, 33, 34, 35, 36, 37, 38, 5, 13, 14, 7], ref7_minus_l1J⟩
theorem ref7_minus_l1_eq : ∀ back x, evLoop Tryd.prog tb [] [] (loopAt 44 Tryd.f82) ref7_minus_l1C.ins ref7_minus_l1C.outs back x = ref7_minus_l1F back x := fun back x => by kernel_rfl
theorem ref7_minus_l1_k : cutB Tryd.f82.ntmps ref7_minus_l1C (loopAt 44 Tryd.f82) = true := by kernel_rfl
theorem ref7_minus_l1_in : cutsOf ([] : List (CutSpec tb)) (loopAt 44 Tryd.f82) = [] := by kernel_rfl
theorem ref7_minus_l1_cut : CutSound Tryd.prog tb Tryd.f82.ntmps (.loop (loopAt 44 Tryd.f82)) ref7_minus_l1C := loop_it mixed ref7_minus_l1_k .nil rfl ref7_minus_l1_in .nil ref7_minus_l1F ref7_minus_l1_eq rfl
def ref7_minusF (x : List Int × List Int) : Option (List (Int)) :=
  obnd (ref7_minus_l1J (x.fst, x.snd, [], 0, 0)) fun y => some y
def ref7_minusS : FSpec tb := ⟨[(0, .val 70), (1, .val 70)], [(0, .own 3)], ref7_minusF⟩
theorem ref7_minus_eq : ∀ x, evFn Tryd.prog tb [] [ref7_minus_l1C] Tryd.f82 ref7_minusS.ins ref7_minusS.outs x = ref7_minusS.f x := fun x => by kernel_rfl
theorem ref7_minus_k : fnK Tryd.f82 ref7_minusS.ins ref7_minusS.outs = true := by kernel_rfl
theorem ref7_minus_in : cutsOf ([ref7_minus_l1C] : List (CutSpec tb)) (bodyOf Tryd.f82) = [(44, .loop (loopAt 44 Tryd.f82))] := by kernel_rfl
theorem ref7_minus_sound : FnSound Tryd.prog tb 82 ref7_minusS := fn_cut mixed Tryd.func82 ref7_minus_k .nil rfl ref7_minus_in (.cons rfl ref7_minus_l1_cut rfl .nil) ref7_minus_eq

/-! ### ref7_add -/
def ref7_addF (x : Big × Big) : Option (Big) :=
  brn (decide (x.fst.Minus = x.snd.Minus)) (obnd (ref7_plusF (x.fst.D, x.snd.D)) fun y => obnd (ref7_trimF { Minus := x.fst.Minus, D := y }) fun y => some y)
    (obnd (ref7_lessF (x.fst.D, x.snd.D)) fun y =>
      brn y (obnd (ref7_minusF (x.snd.D, x.fst.D)) fun y => obnd (ref7_trimF { Minus := x.snd.Minus, D := y }) fun y => some y)
        (obnd (ref7_minusF (x.fst.D, x.snd.D)) fun y => obnd (ref7_trimF { Minus := x.fst.Minus, D := y }) fun y => some y))
def ref7_addS : FSpec tb := ⟨[(0, .val 72), (1, .val 72)], [(0, .val 72)], ref7_addF⟩
theorem ref7_add_eq : ∀ x, evFn Tryd.prog tb [(60, ref7_plusS), (61, ref7_trimS), (81, ref7_lessS), (82, ref7_minusS)] [] Tryd.f49 ref7_addS.ins ref7_addS.outs x = ref7_addS.f x := fun x => by kernel_rfl
theorem ref7_add_k : fnK Tryd.f49 ref7_addS.ins ref7_addS.outs = true := by kernel_rfl
theorem ref7_add_sound : FnSound Tryd.prog tb 49 ref7_addS := fn_ev mixed Tryd.func49 ref7_add_k (.cons ref7_plus_sound (.cons ref7_trim_sound (.cons ref7_less_sound (.cons ref7_minus_sound .nil)))) rfl ref7_add_eq

/-! ### ref7_small -/
def ref7_small_l1F (back : Int × Big → Option ((Int) × Big)) (x : Int × Big) : Option ((Int) × Big) :=
  brn (decide (0 < x.fst))
    (brn (decide ((↑x.snd.D.length : Int) = 0))
      (brn (decide (0 < (↑x.snd.D.length : Int))) (obnd (sub x.snd.D 1 (↑x.snd.D.length : Int)) fun z => back (IntKind.i64.wrap (x.fst - 1), { Minus := x.snd.Minus, D := z }))
        (back (IntKind.i64.wrap (x.fst - 1), x.snd)))
      (obnd (idx x.snd.D 0) fun y =>
        brn (decide (y = 0))
          (brn (decide (0 < (↑x.snd.D.length : Int))) (obnd (sub x.snd.D 1 (↑x.snd.D.length : Int)) fun z => back (IntKind.i64.wrap (x.fst - 1), { Minus := x.snd.Minus, D := z }))
            (back (IntKind.i64.wrap (x.fst - 1), x.snd)))
          (some x)))
    (some x)
def ref7_small_l1J : Int × Big → Option ((Int) × Big) := iter ref7_small_l1F big
def ref7_small_l1C : CutSpec tb := ⟨20, [(1, .val 3), (2, .ref 72)], [((.exit 0), [(1, .val 3)])], [8, 9, 10, 11, 12, 13, 14, 15, 16, 17, 18, 19, 20, 21, 22, 23, 24, 25, 26, 27, 28, 29, 30, 31, 32, 33, 34, 1], ref7_small_l1J⟩
theorem ref7_small_l1_eq : ∀ back x, evLoop Tryd.prog tb [] [] (loopAt 20 Tryd.f48) ref7_small_l1C.ins ref7_small_l1C.outs back x = ref7_small_l1F back x := fun back x => by kernel_rfl
theorem ref7_small_l1_k : cutB Tryd.f48.ntmps ref7_small_l1C (loopAt 20 Tryd.f48) = true := by kernel_rfl
theorem ref7_small_l1_in : cutsOf ([] : List (CutSpec tb)) (loopAt 20 Tryd.f48) = [] := by kernel_rfl
theorem ref7_small_l1_cut : CutSound Tryd.prog tb Tryd.f48.ntmps (.loop (loopAt 20 Tryd.f48)) ref7_small_l1C := loop_it mixed ref7_small_l1_k .nil rfl ref7_small_l1_in .nil ref7_small_l1F ref7_small_l1_eq rfl
def ref7_small_l2F (back : Big × Int × Int → Option (Int)) (x : Big × Int × Int) : Option (Int) :=
  brn (decide (0 ≤ x.2.snd))
    (obnd (idx x.fst.D x.2.snd) fun y => back (x.fst, IntKind.u64.wrap (IntKind.u64.wrap (10 * x.2.fst) + IntKind.u64.wrap y), IntKind.i64.wrap (x.2.snd - 1))) (some x.2.1)
def ref7_small_l2J : Big × Int × Int → Option (Int) := iter ref7_small_l2F big
def ref7_small_l2C : CutSpec tb := ⟨84, [(2, .ro 72), (6, .val 64), (7, .val 3)], [((.exit 2), [(6, .val 64)])], [44, 45, 48, 49, 50, 51, 52, 53, 54, 55, 56, 6, 46, 47, 7], ref7_small_l2J⟩
theorem ref7_small_l2_eq : ∀ back x, evLoop Tryd.prog tb [] [] (loopAt 84 Tryd.f48) ref7_small_l2C.ins ref7_small_l2C.outs back x = ref7_small_l2F back x := fun back x => by kernel_rfl
theorem ref7_small_l2_k : cutB Tryd.f48.ntmps ref7_small_l2C (loopAt 84 Tryd.f48) = true := by kernel_rfl
theorem ref7_small_l2_in : cutsOf ([] : List (CutSpec tb)) (loopAt 84 Tryd.f48) = [] := by kernel_rfl
theorem ref7_small_l2_cut : CutSound Tryd.prog tb Tryd.f48.ntmps (.loop (loopAt 84 Tryd.f48)) ref7_small_l2C := loop_it mixed ref7_small_l2_k .nil rfl ref7_small_l2_in .nil ref7_small_l2F ref7_small_l2_eq rfl
def ref7_smallF (x : Big × Int) : Option (Dec × Int) :=
  obnd (ref7_small_l1J (x.snd, x.fst)) fun y =>
    brn (decide (19 < (↑y.2.D.length : Int))) (some ({ M := 0, S := 0 }, 8))
      (obnd (ref7_small_l2J (y.2, 0, IntKind.i64.wrap ((↑y.2.D.length : Int) - 1))) fun y_1 =>
        brn y.2.Minus (brn (decide (9223372036854775808 < y_1)) (some ({ M := 0, S := 0 }, 8)) (some ({ M := IntKind.i64.wrap (IntKind.u64.wrap (0 - y_1)), S := y.1 }, 0)))
          (brn (decide (9223372036854775807 < y_1)) (some ({ M := 0, S := 0 }, 8)) (some ({ M := IntKind.i64.wrap y_1, S := y.1 }, 0))))
def ref7_smallS : FSpec tb := ⟨[(0, .val 72), (1, .val 3)], [(0, .val 28), (1, .val 3)], ref7_smallF⟩
theorem ref7_small_eq : ∀ x, evFn Tryd.prog tb [] [ref7_small_l1C, ref7_small_l2C] Tryd.f48 ref7_smallS.ins ref7_smallS.outs x = ref7_smallS.f x := fun x => by kernel_rfl
theorem ref7_small_k : fnK Tryd.f48 ref7_smallS.ins ref7_smallS.outs = true := by kernel_rfl
theorem ref7_small_in : cutsOf ([ref7_small_l1C, ref7_small_l2C] : List (CutSpec tb)) (bodyOf Tryd.f48) = [(20, .loop (loopAt 20 Tryd.f48)), (84, .loop (loopAt 84 Tryd.f48))] := by kernel_rfl
theorem ref7_small_sound : FnSound Tryd.prog tb 48 ref7_smallS := fn_cut mixed Tryd.func48 ref7_small_k .nil rfl ref7_small_in (.cons rfl ref7_small_l1_cut rfl (.cons rfl ref7_small_l2_cut rfl .nil)) ref7_small_eq

/-! ### ref7_AddDec -/
def ref7_AddDecF (x : Dec × Dec) : Option (Dec × Int) :=
  obnd (ref7_alikeF x) fun y => obnd (ref7_addF (y.fst, y.2.fst)) fun y_1 => obnd (ref7_smallF (y_1, y.2.snd)) fun y => some y
def ref7_AddDecS : FSpec tb := ⟨[(0, .val 28), (1, .val 28)], [(0, .val 28), (1, .val 3)], ref7_AddDecF⟩
theorem ref7_AddDec_eq : ∀ x, evFn Tryd.prog tb [(47, ref7_alikeS), (49, ref7_addS), (48, ref7_smallS)] [] Tryd.f18 ref7_AddDecS.ins ref7_AddDecS.outs x = ref7_AddDecS.f x := fun x => by kernel_rfl
theorem ref7_AddDec_k : fnK Tryd.f18 ref7_AddDecS.ins ref7_AddDecS.outs = true := by kernel_rfl
theorem ref7_AddDec_sound : FnSound Tryd.prog tb 18 ref7_AddDecS := fn_ev mixed Tryd.func18 ref7_AddDec_k (.cons ref7_alike_sound (.cons ref7_add_sound (.cons ref7_small_sound .nil))) rfl ref7_AddDec_eq

/-! ### ref7_SubDec -/
def ref7_SubDecF (x : Dec × Dec) : Option (Dec × Int) :=
  obnd (ref7_alikeF x) fun y =>
    brn (!y.2.fst.Minus) (obnd (ref7_addF (y.fst, { Minus := decide (0 < (↑y.2.fst.D.length : Int)), D := y.2.fst.D })) fun y_1 => obnd (ref7_smallF (y_1, y.2.snd)) fun y => some y)
      (obnd (ref7_addF (y.fst, { Minus := false, D := y.2.fst.D })) fun y_1 => obnd (ref7_smallF (y_1, y.2.snd)) fun y => some y)
def ref7_SubDecS : FSpec tb := ⟨[(0, .val 28), (1, .val 28)], [(0, .val 28), (1, .val 3)], ref7_SubDecF⟩
theorem ref7_SubDec_eq : ∀ x, evFn Tryd.prog tb [(47, ref7_alikeS), (49, ref7_addS), (48, ref7_smallS)] [] Tryd.f20 ref7_SubDecS.ins ref7_SubDecS.outs x = ref7_SubDecS.f x := fun x => by kernel_rfl
theorem ref7_SubDec_k : fnK Tryd.f20 ref7_SubDecS.ins ref7_SubDecS.outs = true := by kernel_rfl
theorem ref7_SubDec_sound : FnSound Tryd.prog tb 20 ref7_SubDecS := fn_ev mixed Tryd.func20 ref7_SubDec_k (.cons ref7_alike_sound (.cons ref7_add_sound (.cons ref7_small_sound .nil))) rfl ref7_SubDec_eq

/-! ### ref7_round -/
def ref7_roundF (x : Big × Int × Int) : Option (Big × Int) :=
  brn (decide (x.2.fst ≤ x.2.snd)) (some (x.fst, x.2.fst))
    (brn (decide ((↑x.fst.D.length : Int) < IntKind.i64.wrap (x.2.fst - x.2.snd))) (some ({ Minus := false, D := [] }, x.2.snd))
      (obnd (idx x.fst.D (IntKind.i64.wrap (IntKind.i64.wrap (x.2.fst - x.2.snd) - 1))) fun y =>
        obnd (sub x.fst.D (IntKind.i64.wrap (x.2.fst - x.2.snd)) (↑x.fst.D.length : Int)) fun z =>
          obnd (app 8 [] z) fun zs =>
            obnd (ref7_trimF { Minus := x.fst.Minus, D := zs }) fun y_1 =>
              brn (decide (5 ≤ y)) (obnd (ref7_plusF (y_1.D, [1])) fun y => obnd (ref7_trimF { Minus := x.fst.Minus, D := y }) fun y => some (y, x.2.snd)) (some (y_1, x.2.snd))))
def ref7_roundS : FSpec tb := ⟨[(0, .val 72), (1, .val 3), (2, .val 3)], [(0, .val 72), (1, .val 3)], ref7_roundF⟩
theorem ref7_round_eq : ∀ x, evFn Tryd.prog tb [(61, ref7_trimS), (60, ref7_plusS)] [] Tryd.f54 ref7_roundS.ins ref7_roundS.outs x = ref7_roundS.f x := fun x => by kernel_rfl
theorem ref7_round_k : fnK Tryd.f54 ref7_roundS.ins ref7_roundS.outs = true := by kernel_rfl
theorem ref7_round_sound : FnSound Tryd.prog tb 54 ref7_roundS := fn_ev mixed Tryd.func54 ref7_round_k (.cons ref7_trim_sound (.cons ref7_plus_sound .nil)) rfl ref7_round_eq

/-! ### ref7_over -/
def ref7_over_l2F (back : List Int × List Int × Int → Option (List Int × Int)) (x : List Int × List Int × Int) : Option (List Int × Int) :=
  obnd (ref7_lessF (x.2.fst, x.fst)) fun y =>
    brn (!y) (obnd (ref7_minusF (x.2.fst, x.fst)) fun y => obnd (ref7_trimF { Minus := false, D := y }) fun y => back (x.fst, y.D, IntKind.i64.wrap (x.2.snd + 1))) (some x.2)
def ref7_over_l2J : List Int × List Int × Int → Option (List Int × Int) := iter ref7_over_l2F big
def ref7_over_l2C : CutSpec tb := ⟨76, [(1, .val 70), (8, .val 70), (10, .val 3)], [((.exit 2), [(8, .val 70), (10, .val 3)])], [28, 29, 30, 31, 32, 33, 34, 35, 36, 37, 8, 38, 39, 10], ref7_over_l2J⟩
theorem ref7_over_l2_eq : ∀ back x, evLoop Tryd.prog tb [(61, ref7_trimS), (81, ref7_lessS), (82, ref7_minusS), (60, ref7_plusS)] [] (loopAt 76 Tryd.f58) ref7_over_l2C.ins ref7_over_l2C.outs back x = ref7_over_l2F back x := fun back x => by kernel_rfl
theorem ref7_over_l2_k : cutB Tryd.f58.ntmps ref7_over_l2C (loopAt 76 Tryd.f58) = true := by kernel_rfl
theorem ref7_over_l2_in : cutsOf ([] : List (CutSpec tb)) (loopAt 76 Tryd.f58) = [] := by kernel_rfl
theorem ref7_over_l2_cut : CutSound Tryd.prog tb Tryd.f58.ntmps (.loop (loopAt 76 Tryd.f58)) ref7_over_l2C := loop_it mixed ref7_over_l2_k (.cons ref7_trim_sound (.cons ref7_less_sound (.cons ref7_minus_sound (.cons ref7_plus_sound .nil)))) rfl ref7_over_l2_in .nil ref7_over_l2F ref7_over_l2_eq rfl
def ref7_over_l1F (back : List Int × List Int × List (Int) × List Int × Int → Option (List (Int) × List Int)) (x : List Int × List Int × List (Int) × List Int × Int) : Option (List (Int) × List Int) :=
  brn (decide (0 ≤ x.2.2.2.snd))
    (obnd (idx x.fst x.2.2.2.snd) fun y =>
      obnd (app 8 [y] x.2.2.2.fst) fun zs =>
        obnd (ref7_trimF { Minus := false, D := zs }) fun y =>
          obnd (ref7_over_l2J (x.2.fst, y.D, 0)) fun y => obnd (app 8 [y.snd] x.2.2.fst) fun zs => back (x.fst, x.2.fst, zs, y.fst, IntKind.i64.wrap (x.2.2.2.snd - 1)))
    (some (x.2.2.fst, x.2.2.2.fst))
def ref7_over_l1J : List Int × List Int × List (Int) × List Int × Int → Option (List (Int) × List Int) := iter ref7_over_l1F big
def ref7_over_l1C : CutSpec tb := ⟨44, [(0, .val 70), (1, .val 70), (7, .own 3), (8, .val 70), (9, .val 3)], [((.exit 0), [(7, .own 3), (8, .val 70)])], [14, 15, 18, 19, 20, 21, 22, 23, 24, 25, 26, 27, 8, 10, 28, 29, 30, 31, 32, 33, 34, 35, 36, 37, 38, 39, 40, 41, 42, 43, 7, 16, 17, 9], ref7_over_l1J⟩
theorem ref7_over_l1_eq : ∀ back x, evLoop Tryd.prog tb [(61, ref7_trimS), (81, ref7_lessS), (82, ref7_minusS), (60, ref7_plusS)] [ref7_over_l2C] (loopAt 44 Tryd.f58) ref7_over_l1C.ins ref7_over_l1C.outs back x = ref7_over_l1F back x := fun back x => by kernel_rfl
theorem ref7_over_l1_k : cutB Tryd.f58.ntmps ref7_over_l1C (loopAt 44 Tryd.f58) = true := by kernel_rfl
theorem ref7_over_l1_in : cutsOf ([ref7_over_l2C] : List (CutSpec tb)) (loopAt 44 Tryd.f58) = [(76, .loop (loopAt 76 Tryd.f58))] := by kernel_rfl
theorem ref7_over_l1_cut : CutSound Tryd.prog tb Tryd.f58.ntmps (.loop (loopAt 44 Tryd.f58)) ref7_over_l1C := loop_it mixed ref7_over_l1_k (.cons ref7_trim_sound (.cons ref7_less_sound (.cons ref7_minus_sound (.cons ref7_plus_sound .nil)))) rfl ref7_over_l1_in (.cons rfl ref7_over_l2_cut rfl .nil) ref7_over_l1F ref7_over_l1_eq rfl
def ref7_overF (x : List Int × List Int) : Option (List Int × Bool × Bool) :=
  obnd (ref7_over_l1J (x.fst, x.snd, [], [], IntKind.i64.wrap ((↑x.fst.length : Int) - 1))) fun y =>
    obnd (ref7_trimF { Minus := false, D := y.fst }) fun y_1 =>
      obnd (ref7_plusF (y.snd, y.snd)) fun y_2 => obnd (ref7_lessF (y_2, x.snd)) fun y_3 => some (y_1.D, !y_3, decide (0 < (↑(List.length y.snd) : Int)))
def ref7_overS : FSpec tb := ⟨[(0, .val 70), (1, .val 70)], [(0, .val 70), (1, .val 4), (2, .val 4)], ref7_overF⟩
theorem ref7_over_eq : ∀ x, evFn Tryd.prog tb [(61, ref7_trimS), (81, ref7_lessS), (82, ref7_minusS), (60, ref7_plusS)] [ref7_over_l1C] Tryd.f58 ref7_overS.ins ref7_overS.outs x = ref7_overS.f x := fun x => by kernel_rfl
theorem ref7_over_k : fnK Tryd.f58 ref7_overS.ins ref7_overS.outs = true := by kernel_rfl
theorem ref7_over_in : cutsOf ([ref7_over_l1C] : List (CutSpec tb)) (bodyOf Tryd.f58) = [(44, .loop (loopAt 44 Tryd.f58))] := by kernel_rfl
theorem ref7_over_sound : FnSound Tryd.prog tb 58 ref7_overS := fn_cut mixed Tryd.func58 ref7_over_k (.cons ref7_trim_sound (.cons ref7_less_sound (.cons ref7_minus_sound (.cons ref7_plus_sound .nil)))) rfl ref7_over_in (.cons rfl ref7_over_l1_cut rfl .nil) ref7_over_eq

/-! ### ref7_DivDec -/
def ref7_DivDecF (x : Dec × Dec) : Option (Dec × Int) :=
  brn (decide (x.snd.M = 0)) (some ({ M := 0, S := 0 }, 9))
    (obnd (ref7_alikeF x) fun y =>
      obnd (ref7_upF (y.fst, 9)) fun y_1 =>
        obnd (ref7_overF (y_1.D, y.2.fst.D)) fun y_2 =>
          brn y_2.2.fst
            (obnd (ref7_plusF (y_2.fst, [1])) fun y_3 =>
              obnd (ref7_trimF { Minus := !decide (y.fst.Minus = y.2.fst.Minus), D := y_3 }) fun y => obnd (ref7_smallF (y, 9)) fun y => some y)
            (obnd (ref7_trimF { Minus := !decide (y.fst.Minus = y.2.fst.Minus), D := y_2.fst }) fun y => obnd (ref7_smallF (y, 9)) fun y => some y))
def ref7_DivDecS : FSpec tb := ⟨[(0, .val 28), (1, .val 28)], [(0, .val 28), (1, .val 3)], ref7_DivDecF⟩
theorem ref7_DivDec_eq : ∀ x, evFn Tryd.prog tb [(47, ref7_alikeS), (59, ref7_upS), (58, ref7_overS), (60, ref7_plusS), (61, ref7_trimS), (48, ref7_smallS)] [] Tryd.f24 ref7_DivDecS.ins ref7_DivDecS.outs x = ref7_DivDecS.f x := fun x => by kernel_rfl
theorem ref7_DivDec_k : fnK Tryd.f24 ref7_DivDecS.ins ref7_DivDecS.outs = true := by kernel_rfl
theorem ref7_DivDec_sound : FnSound Tryd.prog tb 24 ref7_DivDecS := fn_ev mixed Tryd.func24 ref7_DivDec_k (.cons ref7_alike_sound (.cons ref7_up_sound (.cons ref7_over_sound (.cons ref7_plus_sound (.cons ref7_trim_sound (.cons ref7_small_sound .nil)))))) rfl ref7_DivDec_eq

/-! ### ref7_CompareDec -/
def ref7_CompareDecF (x : Dec × Dec) : Option (Int) :=
  obnd (ref7_alikeF x) fun y =>
    brn (!y.2.fst.Minus)
      (obnd (ref7_addF (y.fst, { Minus := decide (0 < (↑y.2.fst.D.length : Int)), D := y.2.fst.D })) fun y =>
        brn (decide ((↑y.D.length : Int) = 0)) (some 0) (brn y.Minus (some (-1)) (some 1)))
      (obnd (ref7_addF (y.fst, { Minus := false, D := y.2.fst.D })) fun y => brn (decide ((↑y.D.length : Int) = 0)) (some 0) (brn y.Minus (some (-1)) (some 1)))
def ref7_CompareDecS : FSpec tb := ⟨[(0, .val 28), (1, .val 28)], [(0, .val 3)], ref7_CompareDecF⟩
theorem ref7_CompareDec_eq : ∀ x, evFn Tryd.prog tb [(47, ref7_alikeS), (49, ref7_addS)] [] Tryd.f26 ref7_CompareDecS.ins ref7_CompareDecS.outs x = ref7_CompareDecS.f x := fun x => by kernel_rfl
theorem ref7_CompareDec_k : fnK Tryd.f26 ref7_CompareDecS.ins ref7_CompareDecS.outs = true := by kernel_rfl
theorem ref7_CompareDec_sound : FnSound Tryd.prog tb 26 ref7_CompareDecS := fn_ev mixed Tryd.func26 ref7_CompareDec_k (.cons ref7_alike_sound (.cons ref7_add_sound .nil)) rfl ref7_CompareDec_eq

/-! ### ref7_Norm -/
def ref7_Norm_l1F (back : Dec → Option ((Unit) × Dec)) (x : Dec) : Option ((Unit) × Dec) :=
  brn (decide (0 < x.S)) (brn (decide (x.M.tmod 10 = 0)) (back { M := IntKind.i64.wrap (x.M.tdiv 10), S := IntKind.i64.wrap (x.S - 1) }) (some ((), x))) (some ((), x))
def ref7_Norm_l1J : Dec → Option ((Unit) × Dec) := iter ref7_Norm_l1F big
def ref7_Norm_l1C : CutSpec tb := ⟨20, [(1, .ref 28)], [((.exit 0), [])], [3, 4, 5, 6, 7, 8, 9, 10, 11, 12, 13, 14, 15, 16, 17, 18, 19], ref7_Norm_l1J⟩
theorem ref7_Norm_l1_eq : ∀ back x, evLoop Tryd.prog tb [] [] (loopAt 20 Tryd.f28) ref7_Norm_l1C.ins ref7_Norm_l1C.outs back x = ref7_Norm_l1F back x := fun back x => by kernel_rfl
theorem ref7_Norm_l1_k : cutB Tryd.f28.ntmps ref7_Norm_l1C (loopAt 20 Tryd.f28) = true := by kernel_rfl
theorem ref7_Norm_l1_in : cutsOf ([] : List (CutSpec tb)) (loopAt 20 Tryd.f28) = [] := by kernel_rfl
theorem ref7_Norm_l1_cut : CutSound Tryd.prog tb Tryd.f28.ntmps (.loop (loopAt 20 Tryd.f28)) ref7_Norm_l1C := loop_it mixed ref7_Norm_l1_k .nil rfl ref7_Norm_l1_in .nil ref7_Norm_l1F ref7_Norm_l1_eq rfl
def ref7_NormF (x : Dec) : Option (Dec) :=
  obnd (ref7_Norm_l1J x) fun y => some y.2
def ref7_NormS : FSpec tb := ⟨[(0, .val 28)], [(0, .val 28)], ref7_NormF⟩
theorem ref7_Norm_eq : ∀ x, evFn Tryd.prog tb [] [ref7_Norm_l1C] Tryd.f28 ref7_NormS.ins ref7_NormS.outs x = ref7_NormS.f x := fun x => by kernel_rfl
theorem ref7_Norm_k : fnK Tryd.f28 ref7_NormS.ins ref7_NormS.outs = true := by kernel_rfl
theorem ref7_Norm_in : cutsOf ([ref7_Norm_l1C] : List (CutSpec tb)) (bodyOf Tryd.f28) = [(20, .loop (loopAt 20 Tryd.f28))] := by kernel_rfl
theorem ref7_Norm_sound : FnSound Tryd.prog tb 28 ref7_NormS := fn_cut mixed Tryd.func28 ref7_Norm_k .nil rfl ref7_Norm_in (.cons rfl ref7_Norm_l1_cut rfl .nil) ref7_Norm_eq

/-! ### ref7_RoundDec -/
def ref7_RoundDecF (x : Dec × Int) : Option (Dec × Int) :=
  brn (decide (x.snd < -18)) (some ({ M := 0, S := 0 }, 1))
    (brn (decide (9 < x.snd)) (some ({ M := 0, S := 0 }, 1))
      (obnd (ref7_bigF x.fst.M) fun y =>
        obnd (ref7_roundF (y, x.fst.S, x.snd)) fun y =>
          brn (decide (y.snd < 0)) (obnd (ref7_upF (y.fst, IntKind.i64.wrap (0 - y.snd))) fun y => obnd (ref7_smallF (y, 0)) fun y => some y) (obnd (ref7_smallF y) fun y => some y)))
def ref7_RoundDecS : FSpec tb := ⟨[(0, .val 28), (1, .val 3)], [(0, .val 28), (1, .val 3)], ref7_RoundDecF⟩
theorem ref7_RoundDec_eq : ∀ x, evFn Tryd.prog tb [(56, ref7_bigS), (54, ref7_roundS), (59, ref7_upS), (48, ref7_smallS)] [] Tryd.f30 ref7_RoundDecS.ins ref7_RoundDecS.outs x = ref7_RoundDecS.f x := fun x => by kernel_rfl
theorem ref7_RoundDec_k : fnK Tryd.f30 ref7_RoundDecS.ins ref7_RoundDecS.outs = true := by kernel_rfl
theorem ref7_RoundDec_sound : FnSound Tryd.prog tb 30 ref7_RoundDecS := fn_ev mixed Tryd.func30 ref7_RoundDec_k (.cons ref7_big_sound (.cons ref7_round_sound (.cons ref7_up_sound (.cons ref7_small_sound .nil)))) rfl ref7_RoundDec_eq

/-! ### ref7_FloorDec -/
def ref7_FloorDec_l1F (back : Big × Int × Bool × Int → Option (Bool)) (x : Big × Int × Bool × Int) : Option (Bool) :=
  brn (decide (x.2.2.snd < x.2.fst))
    (brn x.2.2.fst (back (x.fst, x.2.fst, true, IntKind.i64.wrap (x.2.2.snd + 1)))
      (obnd (idx x.fst.D x.2.2.snd) fun y => back (x.fst, x.2.fst, !decide (y = 0), IntKind.i64.wrap (x.2.2.snd + 1))))
    (some x.2.2.1)
def ref7_FloorDec_l1J : Big × Int × Bool × Int → Option (Bool) := iter ref7_FloorDec_l1F big
def ref7_FloorDec_l1C : CutSpec tb := ⟨84, [(4, .ro 72), (5, .val 3), (6, .val 4), (7, .val 3)], [((.exit 0), [(6, .val 4)])], [23, 24, 25, 28, 29, 30, 31, 32, 33, 34, 35, 36, 6, 26, 27, 7], ref7_FloorDec_l1J⟩
theorem ref7_FloorDec_l1_eq : ∀ back x, evLoop Tryd.prog tb [(56, ref7_bigS), (61, ref7_trimS), (49, ref7_addS), (48, ref7_smallS)] [] (loopAt 84 Tryd.f32) ref7_FloorDec_l1C.ins ref7_FloorDec_l1C.outs back x = ref7_FloorDec_l1F back x := fun back x => by kernel_rfl
theorem ref7_FloorDec_l1_k : cutB Tryd.f32.ntmps ref7_FloorDec_l1C (loopAt 84 Tryd.f32) = true := by kernel_rfl
theorem ref7_FloorDec_l1_in : cutsOf ([] : List (CutSpec tb)) (loopAt 84 Tryd.f32) = [] := by kernel_rfl
theorem ref7_FloorDec_l1_cut : CutSound Tryd.prog tb Tryd.f32.ntmps (.loop (loopAt 84 Tryd.f32)) ref7_FloorDec_l1C := loop_it mixed ref7_FloorDec_l1_k (.cons ref7_big_sound (.cons ref7_trim_sound (.cons ref7_add_sound (.cons ref7_small_sound .nil)))) rfl ref7_FloorDec_l1_in .nil ref7_FloorDec_l1F ref7_FloorDec_l1_eq rfl
def ref7_FloorDecF (x : Dec) : Option (Dec × Int) :=
  obnd (ref7_bigF x.M) fun y =>
    brn (decide ((↑y.D.length : Int) ≤ x.S)) (brn y.Minus (some ({ M := -1, S := 0 }, 0)) (some ({ M := 0, S := 0 }, 0)))
      (obnd (ref7_FloorDec_l1J (y, x.S, false, 0)) fun y_1 =>
        obnd (sub y.D x.S (↑y.D.length : Int)) fun z =>
          obnd (app 8 [] z) fun zs =>
            obnd (ref7_trimF { Minus := y.Minus, D := zs }) fun y_2 =>
              brn y.Minus
                (brn y_1 (obnd (ref7_addF (y_2, { Minus := true, D := [1] })) fun y => obnd (ref7_smallF (y, 0)) fun y => some y) (obnd (ref7_smallF (y_2, 0)) fun y => some y))
                (obnd (ref7_smallF (y_2, 0)) fun y => some y))
def ref7_FloorDecS : FSpec tb := ⟨[(0, .val 28)], [(0, .val 28), (1, .val 3)], ref7_FloorDecF⟩
theorem ref7_FloorDec_eq : ∀ x, evFn Tryd.prog tb [(56, ref7_bigS), (61, ref7_trimS), (49, ref7_addS), (48, ref7_smallS)] [ref7_FloorDec_l1C] Tryd.f32 ref7_FloorDecS.ins ref7_FloorDecS.outs x = ref7_FloorDecS.f x := fun x => by kernel_rfl
theorem ref7_FloorDec_k : fnK Tryd.f32 ref7_FloorDecS.ins ref7_FloorDecS.outs = true := by kernel_rfl
theorem ref7_FloorDec_in : cutsOf ([ref7_FloorDec_l1C] : List (CutSpec tb)) (bodyOf Tryd.f32) = [(84, .loop (loopAt 84 Tryd.f32))] := by kernel_rfl
theorem ref7_FloorDec_sound : FnSound Tryd.prog tb 32 ref7_FloorDecS := fn_cut mixed Tryd.func32 ref7_FloorDec_k (.cons ref7_big_sound (.cons ref7_trim_sound (.cons ref7_add_sound (.cons ref7_small_sound .nil)))) rfl ref7_FloorDec_in (.cons rfl ref7_FloorDec_l1_cut rfl .nil) ref7_FloorDec_eq
end Go.Proofs.YtmlbknmjgahcfaaDoor
