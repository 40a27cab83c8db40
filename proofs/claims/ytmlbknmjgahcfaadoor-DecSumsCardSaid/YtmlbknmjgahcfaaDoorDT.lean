/- The document's decimals: digits times digits (an array that is written to). (by gen.py) -/
import Derived.Test.YtmlbknmjgahcfaaDoorDH
namespace Go.Proofs.YtmlbknmjgahcfaaDoor
open Go Go.Ev
set_option linter.unusedVariables false

/-! ### ref7_times -/
def ref7_times_l2F (back : Bool × List (Int) × Big × Big × Unit × Int × Int × Int → Option ((Bool × List (Int)) × Unit)) (x : Bool × List (Int) × Big × Big × Unit × Int × Int × Int) : Option ((Bool × List (Int)) × Unit) :=
  brn (decide (x.2.2.2.2.2.2.snd < (↑x.2.2.2.fst.D.length : Int)))
    (obnd (inb x.2.fst.length (IntKind.i64.wrap (x.2.2.2.2.2.fst + x.2.2.2.2.2.2.snd))) fun k =>
      obnd (nth x.2.fst k) fun y =>
        brn (decide (x.2.2.2.2.2.2.snd < (↑x.2.2.2.fst.D.length : Int)))
          (obnd (idx x.2.2.fst.D x.2.2.2.2.2.fst) fun y_1 =>
            obnd (idx x.2.2.2.fst.D x.2.2.2.2.2.2.snd) fun y_2 =>
              obnd (inb x.2.fst.length (IntKind.i64.wrap (x.2.2.2.2.2.fst + x.2.2.2.2.2.2.snd))) fun k =>
                obnd (nth x.2.fst k) fun y_3 =>
                  back
                    (x.fst, x.2.fst.set k ((IntKind.i64.wrap (IntKind.i64.wrap (x.2.2.2.2.2.2.fst + y) + IntKind.i64.wrap (y_1 * y_2))).tmod 10), x.2.2.fst, x.2.2.2.fst, (),
                      x.2.2.2.2.2.fst, IntKind.i64.wrap ((IntKind.i64.wrap (IntKind.i64.wrap (x.2.2.2.2.2.2.fst + y) + IntKind.i64.wrap (y_1 * y_2))).tdiv 10),
                      IntKind.i64.wrap (x.2.2.2.2.2.2.snd + 1)))
          (obnd (inb x.2.fst.length (IntKind.i64.wrap (x.2.2.2.2.2.fst + x.2.2.2.2.2.2.snd))) fun k =>
            obnd (nth x.2.fst k) fun y_1 =>
              back
                (x.fst, x.2.fst.set k ((IntKind.i64.wrap (x.2.2.2.2.2.2.fst + y)).tmod 10), x.2.2.fst, x.2.2.2.fst, (), x.2.2.2.2.2.fst,
                  IntKind.i64.wrap ((IntKind.i64.wrap (x.2.2.2.2.2.2.fst + y)).tdiv 10), IntKind.i64.wrap (x.2.2.2.2.2.2.snd + 1))))
    (brn (decide (0 < x.2.2.2.2.2.2.fst))
      (obnd (inb x.2.fst.length (IntKind.i64.wrap (x.2.2.2.2.2.fst + x.2.2.2.2.2.2.snd))) fun k =>
        obnd (nth x.2.fst k) fun y =>
          brn (decide (x.2.2.2.2.2.2.snd < (↑x.2.2.2.fst.D.length : Int)))
            (obnd (idx x.2.2.fst.D x.2.2.2.2.2.fst) fun y_1 =>
              obnd (idx x.2.2.2.fst.D x.2.2.2.2.2.2.snd) fun y_2 =>
                obnd (inb x.2.fst.length (IntKind.i64.wrap (x.2.2.2.2.2.fst + x.2.2.2.2.2.2.snd))) fun k =>
                  obnd (nth x.2.fst k) fun y_3 =>
                    back
                      (x.fst, x.2.fst.set k ((IntKind.i64.wrap (IntKind.i64.wrap (x.2.2.2.2.2.2.fst + y) + IntKind.i64.wrap (y_1 * y_2))).tmod 10), x.2.2.fst, x.2.2.2.fst, (),
                        x.2.2.2.2.2.fst, IntKind.i64.wrap ((IntKind.i64.wrap (IntKind.i64.wrap (x.2.2.2.2.2.2.fst + y) + IntKind.i64.wrap (y_1 * y_2))).tdiv 10),
                        IntKind.i64.wrap (x.2.2.2.2.2.2.snd + 1)))
            (obnd (inb x.2.fst.length (IntKind.i64.wrap (x.2.2.2.2.2.fst + x.2.2.2.2.2.2.snd))) fun k =>
              obnd (nth x.2.fst k) fun y_1 =>
                back
                  (x.fst, x.2.fst.set k ((IntKind.i64.wrap (x.2.2.2.2.2.2.fst + y)).tmod 10), x.2.2.fst, x.2.2.2.fst, (), x.2.2.2.2.2.fst,
                    IntKind.i64.wrap ((IntKind.i64.wrap (x.2.2.2.2.2.2.fst + y)).tdiv 10), IntKind.i64.wrap (x.2.2.2.2.2.2.snd + 1))))
      (some ((x.fst, x.2.fst), ())))
def ref7_times_l2J : Bool × List (Int) × Big × Big × Unit × Int × Int × Int → Option ((Bool × List (Int)) × Unit) := iter ref7_times_l2F big
def ref7_times_l2C : CutSpec tb := ⟨76, [(4294967301, .val 4), (8589934597, .wr 3), (2, .ro 72), (3, .ro 72), (5, .box 2), (6, .val 3), (7, .val 3), (8, .val 3)], [((.exit 2), [(4294967301, .val 4), (8589934597, .wr 3)])], [32, 33, 34, 35, 36, 37, 38, 39, 40, 43, 44, 45, 46, 47, 48, 49, 50, 51, 7, 52, 53, 54, 55, 56, 57, 58, 59, 60, 61, 62, 63, 64, 65, 66, 67, 68, 69, 70, 71, 72, 73, 74, 75, 76, 77, 78, 79, 41, 42, 8], ref7_times_l2J⟩
theorem ref7_times_l2_eq : ∀ back x, evLoop Tryd.prog tb [(61, ref7_trimS), (1099511627799, mutS)] [] (loopAt 76 Tryd.f55) ref7_times_l2C.ins ref7_times_l2C.outs back x = ref7_times_l2F back x := fun back x => by kernel_rfl
theorem ref7_times_l2_k : cutB Tryd.f55.ntmps ref7_times_l2C (loopAt 76 Tryd.f55) = true := by kernel_rfl
theorem ref7_times_l2_in : cutsOf ([] : List (CutSpec tb)) (loopAt 76 Tryd.f55) = [] := by kernel_rfl
theorem ref7_times_l2_cut : CutSound Tryd.prog tb Tryd.f55.ntmps (.loop (loopAt 76 Tryd.f55)) ref7_times_l2C := loop_it mixed ref7_times_l2_k (.cons ref7_trim_sound (.consK mut_sound .nil)) rfl ref7_times_l2_in .nil ref7_times_l2F ref7_times_l2_eq rfl
def ref7_times_l1F (back : Bool × List (Int) × Big × Big × Unit × Int → Option ((Bool × List (Int)) × Unit)) (x : Bool × List (Int) × Big × Big × Unit × Int) : Option ((Bool × List (Int)) × Unit) :=
  brn (decide (x.2.2.2.2.snd < (↑x.2.2.fst.D.length : Int)))
    (obnd (ref7_times_l2J (x.fst, x.2.fst, x.2.2.fst, x.2.2.2.fst, (), x.2.2.2.2.snd, 0, 0)) fun y =>
      back (y.1.fst, y.1.snd, x.2.2.fst, x.2.2.2.fst, (), IntKind.i64.wrap (x.2.2.2.2.snd + 1)))
    (some ((x.fst, x.2.fst), ()))
def ref7_times_l1J : Bool × List (Int) × Big × Big × Unit × Int → Option ((Bool × List (Int)) × Unit) := iter ref7_times_l1F big
def ref7_times_l1C : CutSpec tb := ⟨44, [(4294967301, .val 4), (8589934597, .wr 3), (2, .ro 72), (3, .ro 72), (5, .box 2), (6, .val 3)], [((.exit 0), [(4294967301, .val 4), (8589934597, .own 3)])], [25, 26, 27, 28, 29, 7, 8, 32, 33, 34, 35, 36, 37, 38, 39, 40, 43, 44, 45, 46, 47, 48, 49, 50, 51, 52, 53, 54, 55, 56, 57, 58, 59, 60, 61, 62, 63, 64, 65, 66, 67, 68, 69, 70, 71, 72, 73, 74, 75, 76, 77, 78, 79, 41, 42, 30, 31, 6], ref7_times_l1J⟩
theorem ref7_times_l1_eq : ∀ back x, evLoop Tryd.prog tb [(61, ref7_trimS), (1099511627799, mutS)] [ref7_times_l2C] (loopAt 44 Tryd.f55) ref7_times_l1C.ins ref7_times_l1C.outs back x = ref7_times_l1F back x := fun back x => by kernel_rfl
theorem ref7_times_l1_k : cutB Tryd.f55.ntmps ref7_times_l1C (loopAt 44 Tryd.f55) = true := by kernel_rfl
theorem ref7_times_l1_in : cutsOf ([ref7_times_l2C] : List (CutSpec tb)) (loopAt 44 Tryd.f55) = [(76, .loop (loopAt 76 Tryd.f55))] := by kernel_rfl
theorem ref7_times_l1_cut : CutSound Tryd.prog tb Tryd.f55.ntmps (.loop (loopAt 44 Tryd.f55)) ref7_times_l1C := loop_it mixed ref7_times_l1_k (.cons ref7_trim_sound (.consK mut_sound .nil)) rfl ref7_times_l1_in (.cons rfl ref7_times_l2_cut rfl .nil) ref7_times_l1F ref7_times_l1_eq rfl
def ref7_timesF (x : Big × Big) : Option (Big) :=
  obnd
    (mkList 8 0 (IntKind.i64.wrap (IntKind.i64.wrap ((↑x.fst.D.length : Int) + (↑x.snd.D.length : Int)) + 1))
      (IntKind.i64.wrap (IntKind.i64.wrap ((↑x.fst.D.length : Int) + (↑x.snd.D.length : Int)) + 1)))
    fun xs => obnd (ref7_times_l1J (!decide (x.fst.Minus = x.snd.Minus), xs, x.fst, x.snd, (), 0)) fun y => obnd (ref7_trimF { Minus := y.1.fst, D := y.1.snd }) fun y => some y
def ref7_timesS : FSpec tb := ⟨[(0, .val 72), (1, .val 72)], [(0, .val 72)], ref7_timesF⟩
theorem ref7_times_eq : ∀ x, evFn Tryd.prog tb [(61, ref7_trimS), (1099511627799, mutS)] [ref7_times_l1C] Tryd.f55 ref7_timesS.ins ref7_timesS.outs x = ref7_timesS.f x := fun x => by kernel_rfl
theorem ref7_times_k : fnK Tryd.f55 ref7_timesS.ins ref7_timesS.outs = true := by kernel_rfl
theorem ref7_times_in : cutsOf ([ref7_times_l1C] : List (CutSpec tb)) (bodyOf Tryd.f55) = [(44, .loop (loopAt 44 Tryd.f55))] := by kernel_rfl
theorem ref7_times_sound : FnSound Tryd.prog tb 55 ref7_timesS := fn_cut mixed Tryd.func55 ref7_times_k (.cons ref7_trim_sound (.consK mut_sound .nil)) rfl ref7_times_in (.cons rfl ref7_times_l1_cut rfl .nil) ref7_times_eq

/-! ### ref7_MulDec -/
def ref7_MulDecF (x : Dec × Dec) : Option (Dec × Int) :=
  obnd (ref7_bigF x.fst.M) fun y =>
    obnd (ref7_bigF x.snd.M) fun y_1 =>
      obnd (ref7_timesF (y, y_1)) fun y => obnd (ref7_roundF (y, IntKind.i64.wrap (x.fst.S + x.snd.S), 9)) fun y => obnd (ref7_smallF y) fun y => some y
def ref7_MulDecS : FSpec tb := ⟨[(0, .val 28), (1, .val 28)], [(0, .val 28), (1, .val 3)], ref7_MulDecF⟩
theorem ref7_MulDec_eq : ∀ x, evFn Tryd.prog tb [(56, ref7_bigS), (55, ref7_timesS), (54, ref7_roundS), (48, ref7_smallS)] [] Tryd.f22 ref7_MulDecS.ins ref7_MulDecS.outs x = ref7_MulDecS.f x := fun x => by kernel_rfl
theorem ref7_MulDec_k : fnK Tryd.f22 ref7_MulDecS.ins ref7_MulDecS.outs = true := by kernel_rfl
theorem ref7_MulDec_sound : FnSound Tryd.prog tb 22 ref7_MulDecS := fn_ev mixed Tryd.func22 ref7_MulDec_k (.cons ref7_big_sound (.cons ref7_times_sound (.cons ref7_round_sound (.cons ref7_small_sound .nil)))) rfl ref7_MulDec_eq
end Go.Proofs.YtmlbknmjgahcfaaDoor
