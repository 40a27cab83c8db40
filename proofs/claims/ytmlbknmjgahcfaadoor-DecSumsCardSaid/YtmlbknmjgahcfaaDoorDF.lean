/- The functions of the decimals, and of the library that these reach: what each computes, and that it does. (by gen.py) -/
import Derived.Test.YtmlbknmjgahcfaaDoorDR
namespace Go.Proofs.YtmlbknmjgahcfaaDoor
open Go Go.Ev
set_option linter.unusedVariables false

theorem mixed : Tryd.prog.follows .mixedOrders = true := by kernel_rfl

/-! ### dec_of -/
def dec_ofF (x : Int) : Option (Wide) :=
  brn (decide (x < 0)) (some { hi := 0, lo := IntKind.u64.wrap (0 - IntKind.u64.wrap x), minus := true }) (some { hi := 0, lo := IntKind.u64.wrap x, minus := false })
def dec_ofS : FSpec tb := ⟨[(0, .val 2)], [(0, .val 66)], dec_ofF⟩
theorem dec_of_eq : ∀ x, evFn Tryd.prog tb [] [] Tryd.f50 dec_ofS.ins dec_ofS.outs x = dec_ofS.f x := fun x => by kernel_rfl
theorem dec_of_k : fnK Tryd.f50 dec_ofS.ins dec_ofS.outs = true := by kernel_rfl
theorem dec_of_sound : FnSound Tryd.prog tb 50 dec_ofS := fn_ev mixed Tryd.func50 dec_of_k .nil rfl dec_of_eq

/-! ### dec_power -/
def dec_power_l1F (back : Int × Int × Int → Option (Int)) (x : Int × Int × Int) : Option (Int) :=
  brn (decide (x.2.snd < x.2.fst)) (back (IntKind.u64.wrap (x.fst * 10), x.2.fst, IntKind.i64.wrap (x.2.snd + 1))) (some x.1)
def dec_power_l1J : Int × Int × Int → Option (Int) := iter dec_power_l1F big
def dec_power_l1C : CutSpec tb := ⟨36, [(3, .val 64), (4, .val 3), (5, .val 3)], [((.exit 0), [(3, .val 64)])], [6, 7, 8, 3, 9, 5], dec_power_l1J⟩
theorem dec_power_l1_eq : ∀ back x, evLoop Tryd.prog tb [] [] (loopAt 36 Tryd.f53) dec_power_l1C.ins dec_power_l1C.outs back x = dec_power_l1F back x := fun back x => by kernel_rfl
theorem dec_power_l1_k : cutB Tryd.f53.ntmps dec_power_l1C (loopAt 36 Tryd.f53) = true := by kernel_rfl
theorem dec_power_l1_in : cutsOf ([] : List (CutSpec tb)) (loopAt 36 Tryd.f53) = [] := by kernel_rfl
theorem dec_power_l1_cut : CutSound Tryd.prog tb Tryd.f53.ntmps (.loop (loopAt 36 Tryd.f53)) dec_power_l1C := loop_it mixed dec_power_l1_k .nil rfl dec_power_l1_in .nil dec_power_l1F dec_power_l1_eq rfl
def dec_powerF (x : Int) : Option (Int) :=
  obnd (dec_power_l1J (1, x, 0)) fun y => some y
def dec_powerS : FSpec tb := ⟨[(0, .val 3)], [(0, .val 64)], dec_powerF⟩
theorem dec_power_eq : ∀ x, evFn Tryd.prog tb [] [dec_power_l1C] Tryd.f53 dec_powerS.ins dec_powerS.outs x = dec_powerS.f x := fun x => by kernel_rfl
theorem dec_power_k : fnK Tryd.f53 dec_powerS.ins dec_powerS.outs = true := by kernel_rfl
theorem dec_power_in : cutsOf ([dec_power_l1C] : List (CutSpec tb)) (bodyOf Tryd.f53) = [(36, .loop (loopAt 36 Tryd.f53))] := by kernel_rfl
theorem dec_power_sound : FnSound Tryd.prog tb 53 dec_powerS := fn_cut mixed Tryd.func53 dec_power_k .nil rfl dec_power_in (.cons rfl dec_power_l1_cut rfl .nil) dec_power_eq

/-! ### bits_Mul64 -/
def bits_Mul64F (x : Int × Int) : Option (Int × Int) :=
  some
    (IntKind.u64.wrap
        (IntKind.u64.wrap
            (IntKind.u64.wrap (x.fst.fdiv 4294967296 * x.snd.fdiv 4294967296) +
              (IntKind.u64.wrap
                    (IntKind.u64.wrap (x.fst.fdiv 4294967296 * bitsOf BinOp.and IntKind.u64 x.snd 4294967295) +
                      (IntKind.u64.wrap (bitsOf BinOp.and IntKind.u64 x.fst 4294967295 * bitsOf BinOp.and IntKind.u64 x.snd 4294967295)).fdiv 4294967296)).fdiv
                4294967296) +
          (IntKind.u64.wrap
                (bitsOf BinOp.and IntKind.u64
                    (IntKind.u64.wrap
                      (IntKind.u64.wrap (x.fst.fdiv 4294967296 * bitsOf BinOp.and IntKind.u64 x.snd 4294967295) +
                        (IntKind.u64.wrap (bitsOf BinOp.and IntKind.u64 x.fst 4294967295 * bitsOf BinOp.and IntKind.u64 x.snd 4294967295)).fdiv 4294967296))
                    4294967295 +
                  IntKind.u64.wrap (bitsOf BinOp.and IntKind.u64 x.fst 4294967295 * x.snd.fdiv 4294967296))).fdiv
            4294967296),
      IntKind.u64.wrap (x.fst * x.snd))
def bits_Mul64S : FSpec tb := ⟨[(0, .val 64), (1, .val 64)], [(0, .val 64), (1, .val 64)], bits_Mul64F⟩
theorem bits_Mul64_eq : ∀ x, evFn Tryd.prog tb [] [] Tryd.f51 bits_Mul64S.ins bits_Mul64S.outs x = bits_Mul64S.f x := fun x => by kernel_rfl
theorem bits_Mul64_k : fnK Tryd.f51 bits_Mul64S.ins bits_Mul64S.outs = true := by kernel_rfl
theorem bits_Mul64_sound : FnSound Tryd.prog tb 51 bits_Mul64S := fn_ev mixed Tryd.func51 bits_Mul64_k .nil rfl bits_Mul64_eq

/-! ### dec_wide_times -/
def dec_wide_timesF (x : Wide × Int) : Option (Wide) :=
  obnd (bits_Mul64F (x.fst.lo, x.snd)) fun y => some { hi := IntKind.u64.wrap (IntKind.u64.wrap (x.fst.hi * x.snd) + y.fst), lo := y.snd, minus := x.fst.minus }
def dec_wide_timesS : FSpec tb := ⟨[(0, .val 66), (1, .val 64)], [(0, .val 66)], dec_wide_timesF⟩
theorem dec_wide_times_eq : ∀ x, evFn Tryd.prog tb [(51, bits_Mul64S)] [] Tryd.f57 dec_wide_timesS.ins dec_wide_timesS.outs x = dec_wide_timesS.f x := fun x => by kernel_rfl
theorem dec_wide_times_k : fnK Tryd.f57 dec_wide_timesS.ins dec_wide_timesS.outs = true := by kernel_rfl
theorem dec_wide_times_sound : FnSound Tryd.prog tb 57 dec_wide_timesS := fn_ev mixed Tryd.func57 dec_wide_times_k (.cons bits_Mul64_sound .nil) rfl dec_wide_times_eq

/-! ### dec_scaled -/
def dec_scaledF (x : Dec) : Option (Wide) :=
  obnd (dec_ofF x.M) fun y => obnd (dec_powerF (IntKind.i64.wrap (9 - x.S))) fun y_1 => obnd (dec_wide_timesF (y, y_1)) fun y => some y
def dec_scaledS : FSpec tb := ⟨[(0, .val 23)], [(0, .val 66)], dec_scaledF⟩
theorem dec_scaled_eq : ∀ x, evFn Tryd.prog tb [(50, dec_ofS), (53, dec_powerS), (57, dec_wide_timesS)] [] Tryd.f44 dec_scaledS.ins dec_scaledS.outs x = dec_scaledS.f x := fun x => by kernel_rfl
theorem dec_scaled_k : fnK Tryd.f44 dec_scaledS.ins dec_scaledS.outs = true := by kernel_rfl
theorem dec_scaled_sound : FnSound Tryd.prog tb 44 dec_scaledS := fn_ev mixed Tryd.func44 dec_scaled_k (.cons dec_of_sound (.cons dec_power_sound (.cons dec_wide_times_sound .nil))) rfl dec_scaled_eq

/-! ### dec_wide_less -/
def dec_wide_lessF (x : Wide × Wide) : Option (Bool) :=
  brn (decide (x.fst.hi < x.snd.hi)) (some true) (brn (decide (x.fst.hi = x.snd.hi)) (some (decide (x.fst.lo < x.snd.lo))) (some false))
def dec_wide_lessS : FSpec tb := ⟨[(0, .val 66), (1, .val 66)], [(0, .val 4)], dec_wide_lessF⟩
theorem dec_wide_less_eq : ∀ x, evFn Tryd.prog tb [] [] Tryd.f64 dec_wide_lessS.ins dec_wide_lessS.outs x = dec_wide_lessS.f x := fun x => by kernel_rfl
theorem dec_wide_less_k : fnK Tryd.f64 dec_wide_lessS.ins dec_wide_lessS.outs = true := by kernel_rfl
theorem dec_wide_less_sound : FnSound Tryd.prog tb 64 dec_wide_lessS := fn_ev mixed Tryd.func64 dec_wide_less_k .nil rfl dec_wide_less_eq

/-! ### dec_wide_plus -/
def dec_wide_plusF (x : Wide × Wide) : Option (Wide) :=
  brn (decide (x.fst.minus = x.snd.minus))
    (obnd (bits_Add64F (x.fst.lo, x.snd.lo, 0)) fun y => some { hi := IntKind.u64.wrap (IntKind.u64.wrap (x.fst.hi + x.snd.hi) + y.snd), lo := y.fst, minus := x.fst.minus })
    (obnd (dec_wide_lessF x) fun y =>
      brn y (obnd (bits_Sub64F (x.snd.lo, x.fst.lo, 0)) fun y => some { hi := IntKind.u64.wrap (IntKind.u64.wrap (x.snd.hi - x.fst.hi) - y.snd), lo := y.fst, minus := x.snd.minus })
        (obnd (bits_Sub64F (x.fst.lo, x.snd.lo, 0)) fun y => some { hi := IntKind.u64.wrap (IntKind.u64.wrap (x.fst.hi - x.snd.hi) - y.snd), lo := y.fst, minus := x.fst.minus }))
def dec_wide_plusS : FSpec tb := ⟨[(0, .val 66), (1, .val 66)], [(0, .val 66)], dec_wide_plusF⟩
theorem dec_wide_plus_eq : ∀ x, evFn Tryd.prog tb [(78, bits_Add64S), (64, dec_wide_lessS), (79, bits_Sub64S)] [] Tryd.f45 dec_wide_plusS.ins dec_wide_plusS.outs x = dec_wide_plusS.f x := fun x => by kernel_rfl
theorem dec_wide_plus_k : fnK Tryd.f45 dec_wide_plusS.ins dec_wide_plusS.outs = true := by kernel_rfl
theorem dec_wide_plus_sound : FnSound Tryd.prog tb 45 dec_wide_plusS := fn_ev mixed Tryd.func45 dec_wide_plus_k (.consK bits_Add64_sound (.cons dec_wide_less_sound (.consK bits_Sub64_sound .nil))) rfl dec_wide_plus_eq

/-! ### bits_Div64 -/
def bits_Div64_l1F (back : Int × Int × Int × Int × Int → Option (Int)) (x : Int × Int × Int × Int × Int) : Option (Int) :=
  brn (decide (4294967296 ≤ x.2.2.2.fst))
    (brn (decide (4294967296 ≤ IntKind.u64.wrap (x.2.2.2.snd + x.fst))) (some (IntKind.u64.wrap (x.2.2.2.fst - 1)))
      (back (x.fst, x.2.fst, x.2.2.fst, IntKind.u64.wrap (x.2.2.2.fst - 1), IntKind.u64.wrap (x.2.2.2.snd + x.fst))))
    (brn (decide (IntKind.u64.wrap (IntKind.u64.wrap (4294967296 * x.2.2.2.snd) + x.2.2.fst) < IntKind.u64.wrap (x.2.2.2.fst * x.2.fst)))
      (brn (decide (4294967296 ≤ IntKind.u64.wrap (x.2.2.2.snd + x.fst))) (some (IntKind.u64.wrap (x.2.2.2.fst - 1)))
        (back (x.fst, x.2.fst, x.2.2.fst, IntKind.u64.wrap (x.2.2.2.fst - 1), IntKind.u64.wrap (x.2.2.2.snd + x.fst))))
      (some x.2.2.2.1))
def bits_Div64_l1J : Int × Int × Int × Int × Int → Option (Int) := iter bits_Div64_l1F big
def bits_Div64_l1C : CutSpec tb := ⟨148, [(9, .val 64), (10, .val 64), (13, .val 64), (15, .val 64), (16, .val 64)], [((.exit 0), [(15, .val 64)])], [67, 68, 69, 70, 71, 72, 73, 74, 75, 76, 77, 78, 79, 80, 15, 81, 82, 83, 16, 84, 85], bits_Div64_l1J⟩
theorem bits_Div64_l1_eq : ∀ back x, evLoop Tryd.prog tb [(111, bits_LeadingZeros64S)] [] (loopAt 148 Tryd.f99) bits_Div64_l1C.ins bits_Div64_l1C.outs back x = bits_Div64_l1F back x := fun back x => by kernel_rfl
theorem bits_Div64_l1_k : cutB Tryd.f99.ntmps bits_Div64_l1C (loopAt 148 Tryd.f99) = true := by kernel_rfl
theorem bits_Div64_l1_in : cutsOf ([] : List (CutSpec tb)) (loopAt 148 Tryd.f99) = [] := by kernel_rfl
theorem bits_Div64_l1_cut : CutSound Tryd.prog tb Tryd.f99.ntmps (.loop (loopAt 148 Tryd.f99)) bits_Div64_l1C := loop_it mixed bits_Div64_l1_k (.cons bits_LeadingZeros64_sound .nil) rfl bits_Div64_l1_in .nil bits_Div64_l1F bits_Div64_l1_eq rfl
def bits_Div64_l2F (back : Int × Int × Int × Int × Int → Option (Int)) (x : Int × Int × Int × Int × Int) : Option (Int) :=
  brn (decide (4294967296 ≤ x.2.2.2.snd))
    (brn (decide (4294967296 ≤ IntKind.u64.wrap (x.2.2.2.fst + x.fst))) (some (IntKind.u64.wrap (x.2.2.2.snd - 1)))
      (back (x.fst, x.2.fst, x.2.2.fst, IntKind.u64.wrap (x.2.2.2.fst + x.fst), IntKind.u64.wrap (x.2.2.2.snd - 1))))
    (brn (decide (IntKind.u64.wrap (IntKind.u64.wrap (4294967296 * x.2.2.2.fst) + x.2.2.fst) < IntKind.u64.wrap (x.2.2.2.snd * x.2.fst)))
      (brn (decide (4294967296 ≤ IntKind.u64.wrap (x.2.2.2.fst + x.fst))) (some (IntKind.u64.wrap (x.2.2.2.snd - 1)))
        (back (x.fst, x.2.fst, x.2.2.fst, IntKind.u64.wrap (x.2.2.2.fst + x.fst), IntKind.u64.wrap (x.2.2.2.snd - 1))))
      (some x.2.2.2.2))
def bits_Div64_l2J : Int × Int × Int × Int × Int → Option (Int) := iter bits_Div64_l2F big
def bits_Div64_l2C : CutSpec tb := ⟨204, [(9, .val 64), (10, .val 64), (14, .val 64), (16, .val 64), (18, .val 64)], [((.exit 2), [(18, .val 64)])], [102, 103, 104, 105, 106, 107, 108, 109, 110, 111, 112, 113, 114, 115, 18, 116, 117, 118, 16, 119, 120], bits_Div64_l2J⟩
theorem bits_Div64_l2_eq : ∀ back x, evLoop Tryd.prog tb [(111, bits_LeadingZeros64S)] [] (loopAt 204 Tryd.f99) bits_Div64_l2C.ins bits_Div64_l2C.outs back x = bits_Div64_l2F back x := fun back x => by kernel_rfl
theorem bits_Div64_l2_k : cutB Tryd.f99.ntmps bits_Div64_l2C (loopAt 204 Tryd.f99) = true := by kernel_rfl
theorem bits_Div64_l2_in : cutsOf ([] : List (CutSpec tb)) (loopAt 204 Tryd.f99) = [] := by kernel_rfl
theorem bits_Div64_l2_cut : CutSound Tryd.prog tb Tryd.f99.ntmps (.loop (loopAt 204 Tryd.f99)) bits_Div64_l2C := loop_it mixed bits_Div64_l2_k (.cons bits_LeadingZeros64_sound .nil) rfl bits_Div64_l2_in .nil bits_Div64_l2F bits_Div64_l2_eq rfl
def bits_Div64F (x : Int × Int × Int) : Option (Int × Int) :=
  brn (decide (x.2.snd = 0)) none
    (brn (decide (x.2.snd ≤ x.fst)) none
      (brn (decide (x.fst = 0)) (brn (decide (x.2.snd = 0)) none (brn (decide (x.2.snd = 0)) none (some (IntKind.u64.wrap (x.2.fst.tdiv x.2.snd), x.2.fst.tmod x.2.snd))))
        (obnd (bits_LeadingZeros64F x.2.snd) fun y =>
          brn (decide (IntKind.u64.wrap y < 0)) none
            (brn (decide (IntKind.u64.wrap y < 0)) none
              (brn (decide (IntKind.u64.wrap (64 - IntKind.u64.wrap y) < 0)) none
                (brn (decide (IntKind.u64.wrap y < 0)) none
                  (brn (decide ((IntKind.u64.wrap (x.2.snd * 2 ^ min (IntKind.u64.wrap y).toNat 64)).fdiv 4294967296 = 0)) none
                    (obnd
                      (bits_Div64_l1J
                        ((IntKind.u64.wrap (x.2.snd * 2 ^ min (IntKind.u64.wrap y).toNat 64)).fdiv 4294967296,
                          bitsOf BinOp.and IntKind.u64 (IntKind.u64.wrap (x.2.snd * 2 ^ min (IntKind.u64.wrap y).toNat 64)) 4294967295,
                          (IntKind.u64.wrap (x.2.fst * 2 ^ min (IntKind.u64.wrap y).toNat 64)).fdiv 4294967296,
                          IntKind.u64.wrap
                            ((bitsOf BinOp.or IntKind.u64 (IntKind.u64.wrap (x.fst * 2 ^ min (IntKind.u64.wrap y).toNat 64))
                                  (x.2.fst.fdiv (2 ^ min (IntKind.u64.wrap (64 - IntKind.u64.wrap y)).toNat 64))).tdiv
                              ((IntKind.u64.wrap (x.2.snd * 2 ^ min (IntKind.u64.wrap y).toNat 64)).fdiv 4294967296)),
                          IntKind.u64.wrap
                            (bitsOf BinOp.or IntKind.u64 (IntKind.u64.wrap (x.fst * 2 ^ min (IntKind.u64.wrap y).toNat 64))
                                (x.2.fst.fdiv (2 ^ min (IntKind.u64.wrap (64 - IntKind.u64.wrap y)).toNat 64)) -
                              IntKind.u64.wrap
                                (IntKind.u64.wrap
                                    ((bitsOf BinOp.or IntKind.u64 (IntKind.u64.wrap (x.fst * 2 ^ min (IntKind.u64.wrap y).toNat 64))
                                          (x.2.fst.fdiv (2 ^ min (IntKind.u64.wrap (64 - IntKind.u64.wrap y)).toNat 64))).tdiv
                                      ((IntKind.u64.wrap (x.2.snd * 2 ^ min (IntKind.u64.wrap y).toNat 64)).fdiv 4294967296)) *
                                  (IntKind.u64.wrap (x.2.snd * 2 ^ min (IntKind.u64.wrap y).toNat 64)).fdiv 4294967296))))
                      fun y_1 =>
                      brn (decide ((IntKind.u64.wrap (x.2.snd * 2 ^ min (IntKind.u64.wrap y).toNat 64)).fdiv 4294967296 = 0)) none
                        (obnd
                          (bits_Div64_l2J
                            ((IntKind.u64.wrap (x.2.snd * 2 ^ min (IntKind.u64.wrap y).toNat 64)).fdiv 4294967296,
                              bitsOf BinOp.and IntKind.u64 (IntKind.u64.wrap (x.2.snd * 2 ^ min (IntKind.u64.wrap y).toNat 64)) 4294967295,
                              bitsOf BinOp.and IntKind.u64 (IntKind.u64.wrap (x.2.fst * 2 ^ min (IntKind.u64.wrap y).toNat 64)) 4294967295,
                              IntKind.u64.wrap
                                (IntKind.u64.wrap
                                    (IntKind.u64.wrap
                                        (IntKind.u64.wrap
                                            (bitsOf BinOp.or IntKind.u64 (IntKind.u64.wrap (x.fst * 2 ^ min (IntKind.u64.wrap y).toNat 64))
                                                (x.2.fst.fdiv (2 ^ min (IntKind.u64.wrap (64 - IntKind.u64.wrap y)).toNat 64)) *
                                              4294967296) +
                                          (IntKind.u64.wrap (x.2.fst * 2 ^ min (IntKind.u64.wrap y).toNat 64)).fdiv 4294967296) -
                                      IntKind.u64.wrap (y_1 * IntKind.u64.wrap (x.2.snd * 2 ^ min (IntKind.u64.wrap y).toNat 64))) -
                                  IntKind.u64.wrap
                                    (IntKind.u64.wrap
                                        ((IntKind.u64.wrap
                                              (IntKind.u64.wrap
                                                  (IntKind.u64.wrap
                                                      (bitsOf BinOp.or IntKind.u64 (IntKind.u64.wrap (x.fst * 2 ^ min (IntKind.u64.wrap y).toNat 64))
                                                          (x.2.fst.fdiv (2 ^ min (IntKind.u64.wrap (64 - IntKind.u64.wrap y)).toNat 64)) *
                                                        4294967296) +
                                                    (IntKind.u64.wrap (x.2.fst * 2 ^ min (IntKind.u64.wrap y).toNat 64)).fdiv 4294967296) -
                                                IntKind.u64.wrap (y_1 * IntKind.u64.wrap (x.2.snd * 2 ^ min (IntKind.u64.wrap y).toNat 64)))).tdiv
                                          ((IntKind.u64.wrap (x.2.snd * 2 ^ min (IntKind.u64.wrap y).toNat 64)).fdiv 4294967296)) *
                                      (IntKind.u64.wrap (x.2.snd * 2 ^ min (IntKind.u64.wrap y).toNat 64)).fdiv 4294967296)),
                              IntKind.u64.wrap
                                ((IntKind.u64.wrap
                                      (IntKind.u64.wrap
                                          (IntKind.u64.wrap
                                              (bitsOf BinOp.or IntKind.u64 (IntKind.u64.wrap (x.fst * 2 ^ min (IntKind.u64.wrap y).toNat 64))
                                                  (x.2.fst.fdiv (2 ^ min (IntKind.u64.wrap (64 - IntKind.u64.wrap y)).toNat 64)) *
                                                4294967296) +
                                            (IntKind.u64.wrap (x.2.fst * 2 ^ min (IntKind.u64.wrap y).toNat 64)).fdiv 4294967296) -
                                        IntKind.u64.wrap (y_1 * IntKind.u64.wrap (x.2.snd * 2 ^ min (IntKind.u64.wrap y).toNat 64)))).tdiv
                                  ((IntKind.u64.wrap (x.2.snd * 2 ^ min (IntKind.u64.wrap y).toNat 64)).fdiv 4294967296))))
                          fun y_2 =>
                          brn (decide (IntKind.u64.wrap y < 0)) none
                            (some
                              (IntKind.u64.wrap (IntKind.u64.wrap (y_1 * 4294967296) + y_2),
                                (IntKind.u64.wrap
                                      (IntKind.u64.wrap
                                          (IntKind.u64.wrap
                                              (IntKind.u64.wrap
                                                  (IntKind.u64.wrap
                                                      (IntKind.u64.wrap
                                                          (bitsOf BinOp.or IntKind.u64 (IntKind.u64.wrap (x.fst * 2 ^ min (IntKind.u64.wrap y).toNat 64))
                                                              (x.2.fst.fdiv (2 ^ min (IntKind.u64.wrap (64 - IntKind.u64.wrap y)).toNat 64)) *
                                                            4294967296) +
                                                        (IntKind.u64.wrap (x.2.fst * 2 ^ min (IntKind.u64.wrap y).toNat 64)).fdiv 4294967296) -
                                                    IntKind.u64.wrap (y_1 * IntKind.u64.wrap (x.2.snd * 2 ^ min (IntKind.u64.wrap y).toNat 64))) *
                                                4294967296) +
                                            bitsOf BinOp.and IntKind.u64 (IntKind.u64.wrap (x.2.fst * 2 ^ min (IntKind.u64.wrap y).toNat 64)) 4294967295) -
                                        IntKind.u64.wrap (y_2 * IntKind.u64.wrap (x.2.snd * 2 ^ min (IntKind.u64.wrap y).toNat 64)))).fdiv
                                  (2 ^ min (IntKind.u64.wrap y).toNat 64))))))))))))
def bits_Div64S : FSpec tb := ⟨[(0, .val 64), (1, .val 64), (2, .val 64)], [(0, .val 64), (1, .val 64)], bits_Div64F⟩
theorem bits_Div64_eq : ∀ x, evFn Tryd.prog tb [(111, bits_LeadingZeros64S)] [bits_Div64_l1C, bits_Div64_l2C] Tryd.f99 bits_Div64S.ins bits_Div64S.outs x = bits_Div64S.f x := fun x => by kernel_rfl
theorem bits_Div64_k : fnK Tryd.f99 bits_Div64S.ins bits_Div64S.outs = true := by kernel_rfl
theorem bits_Div64_in : cutsOf ([bits_Div64_l1C, bits_Div64_l2C] : List (CutSpec tb)) (bodyOf Tryd.f99) = [(148, .loop (loopAt 148 Tryd.f99)), (204, .loop (loopAt 204 Tryd.f99))] := by kernel_rfl
theorem bits_Div64_sound : FnSound Tryd.prog tb 99 bits_Div64S := fn_cut mixed Tryd.func99 bits_Div64_k (.cons bits_LeadingZeros64_sound .nil) rfl bits_Div64_in (.cons rfl bits_Div64_l1_cut rfl (.cons rfl bits_Div64_l2_cut rfl .nil)) bits_Div64_eq

/-! ### dec_wide_by -/
def dec_wide_byF (x : Wide × Int) : Option (Wide × Int) :=
  brn (decide (x.snd = 0)) none
    (brn (decide (x.snd = 0)) none
      (obnd (bits_Div64F (x.fst.hi.tmod x.snd, x.fst.lo, x.snd)) fun y => some ({ hi := IntKind.u64.wrap (x.fst.hi.tdiv x.snd), lo := y.fst, minus := x.fst.minus }, y.snd)))
def dec_wide_byS : FSpec tb := ⟨[(0, .val 66), (1, .val 64)], [(0, .val 66), (1, .val 64)], dec_wide_byF⟩
theorem dec_wide_by_eq : ∀ x, evFn Tryd.prog tb [(99, bits_Div64S)] [] Tryd.f80 dec_wide_byS.ins dec_wide_byS.outs x = dec_wide_byS.f x := fun x => by kernel_rfl
theorem dec_wide_by_k : fnK Tryd.f80 dec_wide_byS.ins dec_wide_byS.outs = true := by kernel_rfl
theorem dec_wide_by_sound : FnSound Tryd.prog tb 80 dec_wide_byS := fn_ev mixed Tryd.func80 dec_wide_by_k (.cons bits_Div64_sound .nil) rfl dec_wide_by_eq

/-! ### dec_wide_dec -/
def dec_wide_dec_l1F (back : Int × Wide → Option ((Int) × Wide)) (x : Int × Wide) : Option ((Int) × Wide) :=
  brn (decide (0 < x.fst)) (obnd (dec_wide_byF (x.snd, 10)) fun y => brn (!decide (y.snd = 0)) (some x) (back (IntKind.i64.wrap (x.fst - 1), y.fst))) (some x)
def dec_wide_dec_l1J : Int × Wide → Option ((Int) × Wide) := iter dec_wide_dec_l1F big
def dec_wide_dec_l1C : CutSpec tb := ⟨20, [(1, .val 3), (2, .ref 66)], [((.exit 0), [(1, .val 3)])], [8, 9, 11, 12, 10, 13, 14, 6, 7, 15, 16, 17, 18, 19, 1], dec_wide_dec_l1J⟩
theorem dec_wide_dec_l1_eq : ∀ back x, evLoop Tryd.prog tb [(80, dec_wide_byS)] [] (loopAt 20 Tryd.f46) dec_wide_dec_l1C.ins dec_wide_dec_l1C.outs back x = dec_wide_dec_l1F back x := fun back x => by kernel_rfl
theorem dec_wide_dec_l1_k : cutB Tryd.f46.ntmps dec_wide_dec_l1C (loopAt 20 Tryd.f46) = true := by kernel_rfl
theorem dec_wide_dec_l1_in : cutsOf ([] : List (CutSpec tb)) (loopAt 20 Tryd.f46) = [] := by kernel_rfl
theorem dec_wide_dec_l1_cut : CutSound Tryd.prog tb Tryd.f46.ntmps (.loop (loopAt 20 Tryd.f46)) dec_wide_dec_l1C := loop_it mixed dec_wide_dec_l1_k (.cons dec_wide_by_sound .nil) rfl dec_wide_dec_l1_in .nil dec_wide_dec_l1F dec_wide_dec_l1_eq rfl
def dec_wide_decF (x : Wide × Int) : Option (Dec × Int) :=
  obnd (dec_wide_dec_l1J (x.snd, x.fst)) fun y =>
    brn (!decide (y.2.hi = 0)) (some ({ M := 0, S := 0 }, 8))
      (brn (decide (9223372036854775808 < y.2.lo)) (some ({ M := 0, S := 0 }, 8))
        (brn (decide (y.2.lo = 9223372036854775808))
          (brn (!y.2.minus) (some ({ M := 0, S := 0 }, 8))
            (brn y.2.minus (some ({ M := IntKind.i64.wrap (IntKind.u64.wrap (0 - y.2.lo)), S := y.1 }, 0)) (some ({ M := IntKind.i64.wrap y.2.lo, S := y.1 }, 0))))
          (brn y.2.minus (some ({ M := IntKind.i64.wrap (IntKind.u64.wrap (0 - y.2.lo)), S := y.1 }, 0)) (some ({ M := IntKind.i64.wrap y.2.lo, S := y.1 }, 0)))))
def dec_wide_decS : FSpec tb := ⟨[(0, .val 66), (1, .val 3)], [(0, .val 23), (1, .val 25)], dec_wide_decF⟩
theorem dec_wide_dec_eq : ∀ x, evFn Tryd.prog tb [(80, dec_wide_byS)] [dec_wide_dec_l1C] Tryd.f46 dec_wide_decS.ins dec_wide_decS.outs x = dec_wide_decS.f x := fun x => by kernel_rfl
theorem dec_wide_dec_k : fnK Tryd.f46 dec_wide_decS.ins dec_wide_decS.outs = true := by kernel_rfl
theorem dec_wide_dec_in : cutsOf ([dec_wide_dec_l1C] : List (CutSpec tb)) (bodyOf Tryd.f46) = [(20, .loop (loopAt 20 Tryd.f46))] := by kernel_rfl
theorem dec_wide_dec_sound : FnSound Tryd.prog tb 46 dec_wide_decS := fn_cut mixed Tryd.func46 dec_wide_dec_k (.cons dec_wide_by_sound .nil) rfl dec_wide_dec_in (.cons rfl dec_wide_dec_l1_cut rfl .nil) dec_wide_dec_eq

/-! ### dec_Add -/
def dec_AddF (x : Dec × Dec) : Option (Dec × Int) :=
  obnd (dec_scaledF x.fst) fun y => obnd (dec_scaledF x.snd) fun y_1 => obnd (dec_wide_plusF (y, y_1)) fun y => obnd (dec_wide_decF (y, 9)) fun y => some y
def dec_AddS : FSpec tb := ⟨[(0, .val 23), (1, .val 23)], [(0, .val 23), (1, .val 25)], dec_AddF⟩
theorem dec_Add_eq : ∀ x, evFn Tryd.prog tb [(44, dec_scaledS), (45, dec_wide_plusS), (46, dec_wide_decS)] [] Tryd.f17 dec_AddS.ins dec_AddS.outs x = dec_AddS.f x := fun x => by kernel_rfl
theorem dec_Add_k : fnK Tryd.f17 dec_AddS.ins dec_AddS.outs = true := by kernel_rfl
theorem dec_Add_sound : FnSound Tryd.prog tb 17 dec_AddS := fn_ev mixed Tryd.func17 dec_Add_k (.cons dec_scaled_sound (.cons dec_wide_plus_sound (.cons dec_wide_dec_sound .nil))) rfl dec_Add_eq

/-! ### dec_Sub -/
def dec_SubF (x : Dec × Dec) : Option (Dec × Int) :=
  obnd (dec_scaledF x.snd) fun y =>
    obnd (dec_scaledF x.fst) fun y_1 => obnd (dec_wide_plusF (y_1, { hi := y.hi, lo := y.lo, minus := !y.minus })) fun y => obnd (dec_wide_decF (y, 9)) fun y => some y
def dec_SubS : FSpec tb := ⟨[(0, .val 23), (1, .val 23)], [(0, .val 23), (1, .val 25)], dec_SubF⟩
theorem dec_Sub_eq : ∀ x, evFn Tryd.prog tb [(44, dec_scaledS), (45, dec_wide_plusS), (46, dec_wide_decS)] [] Tryd.f19 dec_SubS.ins dec_SubS.outs x = dec_SubS.f x := fun x => by kernel_rfl
theorem dec_Sub_k : fnK Tryd.f19 dec_SubS.ins dec_SubS.outs = true := by kernel_rfl
theorem dec_Sub_sound : FnSound Tryd.prog tb 19 dec_SubS := fn_ev mixed Tryd.func19 dec_Sub_k (.cons dec_scaled_sound (.cons dec_wide_plus_sound (.cons dec_wide_dec_sound .nil))) rfl dec_Sub_eq

/-! ### dec_wide_up -/
def dec_wide_upF (x : Wide) : Option (Wide) :=
  obnd (bits_Add64F (x.lo, 1, 0)) fun y => some { hi := IntKind.u64.wrap (x.hi + y.snd), lo := y.fst, minus := x.minus }
def dec_wide_upS : FSpec tb := ⟨[(0, .val 66)], [(0, .val 66)], dec_wide_upF⟩
theorem dec_wide_up_eq : ∀ x, evFn Tryd.prog tb [(78, bits_Add64S)] [] Tryd.f83 dec_wide_upS.ins dec_wide_upS.outs x = dec_wide_upS.f x := fun x => by kernel_rfl
theorem dec_wide_up_k : fnK Tryd.f83 dec_wide_upS.ins dec_wide_upS.outs = true := by kernel_rfl
theorem dec_wide_up_sound : FnSound Tryd.prog tb 83 dec_wide_upS := fn_ev mixed Tryd.func83 dec_wide_up_k (.consK bits_Add64_sound .nil) rfl dec_wide_up_eq

/-! ### dec_wide_round -/
def dec_wide_roundF (x : Wide × Int) : Option (Wide) :=
  obnd (dec_wide_byF x) fun y => brn (decide (IntKind.u64.wrap (x.snd - y.snd) ≤ y.snd)) (obnd (dec_wide_upF y.fst) fun y => some y) (some y.fst)
def dec_wide_roundS : FSpec tb := ⟨[(0, .val 66), (1, .val 64)], [(0, .val 66)], dec_wide_roundF⟩
theorem dec_wide_round_eq : ∀ x, evFn Tryd.prog tb [(80, dec_wide_byS), (83, dec_wide_upS)] [] Tryd.f52 dec_wide_roundS.ins dec_wide_roundS.outs x = dec_wide_roundS.f x := fun x => by kernel_rfl
theorem dec_wide_round_k : fnK Tryd.f52 dec_wide_roundS.ins dec_wide_roundS.outs = true := by kernel_rfl
theorem dec_wide_round_sound : FnSound Tryd.prog tb 52 dec_wide_roundS := fn_ev mixed Tryd.func52 dec_wide_round_k (.cons dec_wide_by_sound (.cons dec_wide_up_sound .nil)) rfl dec_wide_round_eq

/-! ### dec_Mul -/
def dec_MulF (x : Dec × Dec) : Option (Dec × Int) :=
  obnd (dec_ofF x.fst.M) fun y =>
    obnd (dec_ofF x.snd.M) fun y_1 =>
      obnd (bits_Mul64F (y.lo, y_1.lo)) fun y_2 =>
        brn (decide (9 < IntKind.i64.wrap (x.fst.S + x.snd.S)))
          (obnd (dec_powerF (IntKind.i64.wrap (IntKind.i64.wrap (x.fst.S + x.snd.S) - 9))) fun y_3 =>
            obnd (dec_wide_roundF ({ hi := y_2.fst, lo := y_2.snd, minus := !decide (y.minus = y_1.minus) }, y_3)) fun y => obnd (dec_wide_decF (y, 9)) fun y => some y)
          (obnd (dec_wide_decF ({ hi := y_2.fst, lo := y_2.snd, minus := !decide (y.minus = y_1.minus) }, IntKind.i64.wrap (x.fst.S + x.snd.S))) fun y => some y)
def dec_MulS : FSpec tb := ⟨[(0, .val 23), (1, .val 23)], [(0, .val 23), (1, .val 25)], dec_MulF⟩
theorem dec_Mul_eq : ∀ x, evFn Tryd.prog tb [(50, dec_ofS), (51, bits_Mul64S), (53, dec_powerS), (52, dec_wide_roundS), (46, dec_wide_decS)] [] Tryd.f21 dec_MulS.ins dec_MulS.outs x = dec_MulS.f x := fun x => by kernel_rfl
theorem dec_Mul_k : fnK Tryd.f21 dec_MulS.ins dec_MulS.outs = true := by kernel_rfl
theorem dec_Mul_sound : FnSound Tryd.prog tb 21 dec_MulS := fn_ev mixed Tryd.func21 dec_Mul_k (.cons dec_of_sound (.cons bits_Mul64_sound (.cons dec_power_sound (.cons dec_wide_round_sound (.cons dec_wide_dec_sound .nil))))) rfl dec_Mul_eq

/-! ### dec_Div -/
def dec_DivF (x : Dec × Dec) : Option (Dec × Int) :=
  brn (decide (x.snd.M = 0)) (some ({ M := 0, S := 0 }, 9))
    (obnd (dec_ofF x.snd.M) fun y =>
      obnd (dec_scaledF x.fst) fun y_1 =>
        obnd (dec_powerF x.snd.S) fun y_2 =>
          obnd (dec_wide_timesF (y_1, y_2)) fun y_3 =>
            obnd (dec_wide_roundF ({ hi := y_3.hi, lo := y_3.lo, minus := !decide (y_3.minus = y.minus) }, y.lo)) fun y => obnd (dec_wide_decF (y, 9)) fun y => some y)
def dec_DivS : FSpec tb := ⟨[(0, .val 23), (1, .val 23)], [(0, .val 23), (1, .val 25)], dec_DivF⟩
theorem dec_Div_eq : ∀ x, evFn Tryd.prog tb [(50, dec_ofS), (44, dec_scaledS), (53, dec_powerS), (57, dec_wide_timesS), (52, dec_wide_roundS), (46, dec_wide_decS)] [] Tryd.f23 dec_DivS.ins dec_DivS.outs x = dec_DivS.f x := fun x => by kernel_rfl
theorem dec_Div_k : fnK Tryd.f23 dec_DivS.ins dec_DivS.outs = true := by kernel_rfl
theorem dec_Div_sound : FnSound Tryd.prog tb 23 dec_DivS := fn_ev mixed Tryd.func23 dec_Div_k (.cons dec_of_sound (.cons dec_scaled_sound (.cons dec_power_sound (.cons dec_wide_times_sound (.cons dec_wide_round_sound (.cons dec_wide_dec_sound .nil)))))) rfl dec_Div_eq

/-! ### dec_Round -/
def dec_RoundF (x : Dec × Int) : Option (Dec × Int) :=
  brn (decide (x.snd < -18)) (some ({ M := 0, S := 0 }, 1))
    (brn (decide (9 < x.snd)) (some ({ M := 0, S := 0 }, 1))
      (brn (decide (x.fst.S ≤ x.snd)) (some (x.fst, 0))
        (obnd (dec_ofF x.fst.M) fun y =>
          brn (decide (19 < IntKind.i64.wrap (x.fst.S - x.snd))) (some ({ M := 0, S := 0 }, 0))
            (obnd (dec_powerF (IntKind.i64.wrap (x.fst.S - x.snd))) fun y_1 =>
              obnd (dec_wide_roundF (y, y_1)) fun y =>
                brn (decide (x.snd < 0))
                  (obnd (dec_powerF (IntKind.i64.wrap (0 - x.snd))) fun y_2 => obnd (dec_wide_timesF (y, y_2)) fun y => obnd (dec_wide_decF (y, 0)) fun y => some y)
                  (obnd (dec_wide_decF (y, x.snd)) fun y => some y)))))
def dec_RoundS : FSpec tb := ⟨[(0, .val 23), (1, .val 3)], [(0, .val 23), (1, .val 25)], dec_RoundF⟩
theorem dec_Round_eq : ∀ x, evFn Tryd.prog tb [(50, dec_ofS), (53, dec_powerS), (52, dec_wide_roundS), (57, dec_wide_timesS), (46, dec_wide_decS)] [] Tryd.f29 dec_RoundS.ins dec_RoundS.outs x = dec_RoundS.f x := fun x => by kernel_rfl
theorem dec_Round_k : fnK Tryd.f29 dec_RoundS.ins dec_RoundS.outs = true := by kernel_rfl
theorem dec_Round_sound : FnSound Tryd.prog tb 29 dec_RoundS := fn_ev mixed Tryd.func29 dec_Round_k (.cons dec_of_sound (.cons dec_power_sound (.cons dec_wide_round_sound (.cons dec_wide_times_sound (.cons dec_wide_dec_sound .nil))))) rfl dec_Round_eq

/-! ### dec_Floor -/
def dec_FloorF (x : Dec) : Option (Dec × Int) :=
  obnd (dec_powerF x.S) fun y =>
    brn (decide (IntKind.i64.wrap y = 0)) none
      (obnd (dec_powerF x.S) fun y_1 =>
        brn (decide (IntKind.i64.wrap y_1 = 0)) none
          (brn (decide (x.M.tmod (IntKind.i64.wrap y_1) < 0)) (some ({ M := IntKind.i64.wrap (IntKind.i64.wrap (x.M.tdiv (IntKind.i64.wrap y)) - 1), S := 0 }, 0))
            (some ({ M := IntKind.i64.wrap (x.M.tdiv (IntKind.i64.wrap y)), S := 0 }, 0))))
def dec_FloorS : FSpec tb := ⟨[(0, .val 23)], [(0, .val 23), (1, .val 25)], dec_FloorF⟩
theorem dec_Floor_eq : ∀ x, evFn Tryd.prog tb [(53, dec_powerS)] [] Tryd.f31 dec_FloorS.ins dec_FloorS.outs x = dec_FloorS.f x := fun x => by kernel_rfl
theorem dec_Floor_k : fnK Tryd.f31 dec_FloorS.ins dec_FloorS.outs = true := by kernel_rfl
theorem dec_Floor_sound : FnSound Tryd.prog tb 31 dec_FloorS := fn_ev mixed Tryd.func31 dec_Floor_k (.cons dec_power_sound .nil) rfl dec_Floor_eq

/-! ### istringslite_HasPrefix -/
def istringslite_HasPrefixF (x : List UInt8 × List UInt8) : Option (Bool) :=
  brn (decide ((↑x.snd.length : Int) ≤ (↑x.fst.length : Int))) (obnd (sub x.fst 0 (↑x.snd.length : Int)) fun z => some (decide (z = x.snd))) (some false)
def istringslite_HasPrefixS : FSpec tb := ⟨[(0, .val 9), (1, .val 9)], [(0, .val 4)], istringslite_HasPrefixF⟩
theorem istringslite_HasPrefix_eq : ∀ x, evFn Tryd.prog tb [] [] Tryd.f102 istringslite_HasPrefixS.ins istringslite_HasPrefixS.outs x = istringslite_HasPrefixS.f x := fun x => by kernel_rfl
theorem istringslite_HasPrefix_k : fnK Tryd.f102 istringslite_HasPrefixS.ins istringslite_HasPrefixS.outs = true := by kernel_rfl
theorem istringslite_HasPrefix_sound : FnSound Tryd.prog tb 102 istringslite_HasPrefixS := fn_ev mixed Tryd.func102 istringslite_HasPrefix_k .nil rfl istringslite_HasPrefix_eq

/-! ### istringslite_CutPrefix -/
def istringslite_CutPrefixF (x : List UInt8 × List UInt8) : Option (List UInt8 × Bool) :=
  obnd (istringslite_HasPrefixF x) fun y => brn (!y) (some (x.fst, false)) (obnd (sub x.fst (↑x.snd.length : Int) (↑x.fst.length : Int)) fun z => some (z, true))
def istringslite_CutPrefixS : FSpec tb := ⟨[(0, .val 9), (1, .val 9)], [(0, .val 9), (1, .val 4)], istringslite_CutPrefixF⟩
theorem istringslite_CutPrefix_eq : ∀ x, evFn Tryd.prog tb [(102, istringslite_HasPrefixS)] [] Tryd.f89 istringslite_CutPrefixS.ins istringslite_CutPrefixS.outs x = istringslite_CutPrefixS.f x := fun x => by kernel_rfl
theorem istringslite_CutPrefix_k : fnK Tryd.f89 istringslite_CutPrefixS.ins istringslite_CutPrefixS.outs = true := by kernel_rfl
theorem istringslite_CutPrefix_sound : FnSound Tryd.prog tb 89 istringslite_CutPrefixS := fn_ev mixed Tryd.func89 istringslite_CutPrefix_k (.cons istringslite_HasPrefix_sound .nil) rfl istringslite_CutPrefix_eq

/-! ### strings_CutPrefix -/
def strings_CutPrefixF (x : List UInt8 × List UInt8) : Option (List UInt8 × Bool) :=
  obnd (istringslite_CutPrefixF x) fun y => some y
def strings_CutPrefixS : FSpec tb := ⟨[(0, .val 9), (1, .val 9)], [(0, .val 9), (1, .val 4)], strings_CutPrefixF⟩
theorem strings_CutPrefix_eq : ∀ x, evFn Tryd.prog tb [(89, istringslite_CutPrefixS)] [] Tryd.f73 strings_CutPrefixS.ins strings_CutPrefixS.outs x = strings_CutPrefixS.f x := fun x => by kernel_rfl
theorem strings_CutPrefix_k : fnK Tryd.f73 strings_CutPrefixS.ins strings_CutPrefixS.outs = true := by kernel_rfl
theorem strings_CutPrefix_sound : FnSound Tryd.prog tb 73 strings_CutPrefixS := fn_ev mixed Tryd.func73 strings_CutPrefix_k (.cons istringslite_CutPrefix_sound .nil) rfl strings_CutPrefix_eq

/-! ### istringslite_IndexByte -/
def istringslite_IndexByteF (x : List UInt8 × UInt8) : Option (Int) :=
  obnd (bytealg_IndexByteStringF (x.fst, UInt8.ofNat (↑x.snd.toNat : Int).toNat)) fun y => some y
def istringslite_IndexByteS : FSpec tb := ⟨[(0, .val 9), (1, .val 5)], [(0, .val 3)], istringslite_IndexByteF⟩
theorem istringslite_IndexByte_eq : ∀ x, evFn Tryd.prog tb [(123, bytealg_IndexByteStringS)] [] Tryd.f112 istringslite_IndexByteS.ins istringslite_IndexByteS.outs x = istringslite_IndexByteS.f x := fun x => by kernel_rfl
theorem istringslite_IndexByte_k : fnK Tryd.f112 istringslite_IndexByteS.ins istringslite_IndexByteS.outs = true := by kernel_rfl
theorem istringslite_IndexByte_sound : FnSound Tryd.prog tb 112 istringslite_IndexByteS := fn_ev mixed Tryd.func112 istringslite_IndexByte_k (.consK bytealg_IndexByteString_sound .nil) rfl istringslite_IndexByte_eq

/-! ### istringslite_Index -/
def istringslite_IndexF (x : List UInt8 × List UInt8) : Option (Int) :=
  brn (decide ((↑x.snd.length : Int) = 0)) (some 0)
    (brn (decide (x.snd = x.fst)) (some 0)
      (brn (decide ((↑x.snd.length : Int) = 1)) (obnd (idx x.snd 0) fun y => obnd (istringslite_IndexByteF (x.fst, UInt8.ofNat (↑y.toNat : Int).toNat)) fun y => some y)
        (brn (decide ((↑x.fst.length : Int) ≤ (↑x.snd.length : Int))) (some (-1)) none)))
def istringslite_IndexS : FSpec tb := ⟨[(0, .val 9), (1, .val 9)], [(0, .val 3)], istringslite_IndexF⟩
theorem istringslite_Index_eq : ∀ x, evFn Tryd.prog tb [(112, istringslite_IndexByteS)] [] Tryd.f103 istringslite_IndexS.ins istringslite_IndexS.outs x = istringslite_IndexS.f x := fun x => by kernel_rfl
theorem istringslite_Index_k : fnK Tryd.f103 istringslite_IndexS.ins istringslite_IndexS.outs = true := by kernel_rfl
theorem istringslite_Index_sound : FnSound Tryd.prog tb 103 istringslite_IndexS := fn_ev mixed Tryd.func103 istringslite_Index_k (.cons istringslite_IndexByte_sound .nil) rfl istringslite_Index_eq

/-! ### istringslite_Cut -/
def istringslite_CutF (x : List UInt8 × List UInt8) : Option (List UInt8 × List UInt8 × Bool) :=
  obnd (istringslite_IndexF x) fun y =>
    brn (decide (0 ≤ y)) (obnd (sub x.fst 0 y) fun z => obnd (sub x.fst (IntKind.i64.wrap (y + (↑x.snd.length : Int))) (↑x.fst.length : Int)) fun z_1 => some (z, z_1, true))
      (some (x.fst, [], false))
def istringslite_CutS : FSpec tb := ⟨[(0, .val 9), (1, .val 9)], [(0, .val 9), (1, .val 9), (2, .val 4)], istringslite_CutF⟩
theorem istringslite_Cut_eq : ∀ x, evFn Tryd.prog tb [(103, istringslite_IndexS)] [] Tryd.f90 istringslite_CutS.ins istringslite_CutS.outs x = istringslite_CutS.f x := fun x => by kernel_rfl
theorem istringslite_Cut_k : fnK Tryd.f90 istringslite_CutS.ins istringslite_CutS.outs = true := by kernel_rfl
theorem istringslite_Cut_sound : FnSound Tryd.prog tb 90 istringslite_CutS := fn_ev mixed Tryd.func90 istringslite_Cut_k (.cons istringslite_Index_sound .nil) rfl istringslite_Cut_eq

/-! ### strings_Cut -/
def strings_CutF (x : List UInt8 × List UInt8) : Option (List UInt8 × List UInt8 × Bool) :=
  obnd (istringslite_CutF x) fun y => some (y.fst, y.2)
def strings_CutS : FSpec tb := ⟨[(0, .val 9), (1, .val 9)], [(0, .val 9), (1, .val 9), (2, .val 4)], strings_CutF⟩
theorem strings_Cut_eq : ∀ x, evFn Tryd.prog tb [(90, istringslite_CutS)] [] Tryd.f74 strings_CutS.ins strings_CutS.outs x = strings_CutS.f x := fun x => by kernel_rfl
theorem strings_Cut_k : fnK Tryd.f74 strings_CutS.ins strings_CutS.outs = true := by kernel_rfl
theorem strings_Cut_sound : FnSound Tryd.prog tb 74 strings_CutS := fn_ev mixed Tryd.func74 strings_Cut_k (.cons istringslite_Cut_sound .nil) rfl strings_Cut_eq

/-! ### istringslite_HasSuffix -/
def istringslite_HasSuffixF (x : List UInt8 × List UInt8) : Option (Bool) :=
  brn (decide ((↑x.snd.length : Int) ≤ (↑x.fst.length : Int)))
    (obnd (sub x.fst (IntKind.i64.wrap ((↑x.fst.length : Int) - (↑x.snd.length : Int))) (↑x.fst.length : Int)) fun z => some (decide (z = x.snd))) (some false)
def istringslite_HasSuffixS : FSpec tb := ⟨[(0, .val 9), (1, .val 9)], [(0, .val 4)], istringslite_HasSuffixF⟩
theorem istringslite_HasSuffix_eq : ∀ x, evFn Tryd.prog tb [] [] Tryd.f91 istringslite_HasSuffixS.ins istringslite_HasSuffixS.outs x = istringslite_HasSuffixS.f x := fun x => by kernel_rfl
theorem istringslite_HasSuffix_k : fnK Tryd.f91 istringslite_HasSuffixS.ins istringslite_HasSuffixS.outs = true := by kernel_rfl
theorem istringslite_HasSuffix_sound : FnSound Tryd.prog tb 91 istringslite_HasSuffixS := fn_ev mixed Tryd.func91 istringslite_HasSuffix_k .nil rfl istringslite_HasSuffix_eq

/-! ### strings_HasSuffix -/
def strings_HasSuffixF (x : List UInt8 × List UInt8) : Option (Bool) :=
  obnd (istringslite_HasSuffixF x) fun y => some y
def strings_HasSuffixS : FSpec tb := ⟨[(0, .val 9), (1, .val 9)], [(0, .val 4)], strings_HasSuffixF⟩
theorem strings_HasSuffix_eq : ∀ x, evFn Tryd.prog tb [(91, istringslite_HasSuffixS)] [] Tryd.f75 strings_HasSuffixS.ins strings_HasSuffixS.outs x = strings_HasSuffixS.f x := fun x => by kernel_rfl
theorem strings_HasSuffix_k : fnK Tryd.f75 strings_HasSuffixS.ins strings_HasSuffixS.outs = true := by kernel_rfl
theorem strings_HasSuffix_sound : FnSound Tryd.prog tb 75 strings_HasSuffixS := fn_ev mixed Tryd.func75 strings_HasSuffix_k (.cons istringslite_HasSuffix_sound .nil) rfl strings_HasSuffix_eq

/-! ### dec_Parse -/
def dec_Parse_l1F (back : Wide × Bool × Bool × ((List UInt8 × Nat)) → Option ((Bool × Bool) × (Wide × ((List UInt8 × Nat))))) (x : Wide × Bool × Bool × ((List UInt8 × Nat))) : Option ((Bool × Bool) × (Wide × ((List UInt8 × Nat)))) :=
  brn (decide (x.2.2.2.snd < x.2.2.2.fst.length))
    (brn (decide ((↑(rune x.2.2.2.fst x.2.2.2.snd).fst : Int) < 48)) (back (x.fst, true, x.2.2.fst, x.2.2.2.fst, x.2.2.2.snd + (rune x.2.2.2.fst x.2.2.2.snd).snd))
      (brn (decide (57 < (↑(rune x.2.2.2.fst x.2.2.2.snd).fst : Int))) (back (x.fst, true, x.2.2.fst, x.2.2.2.fst, x.2.2.2.snd + (rune x.2.2.2.fst x.2.2.2.snd).snd))
        (brn x.2.2.fst (back (x.fst, x.2.fst, true, x.2.2.2.fst, x.2.2.2.snd + (rune x.2.2.2.fst x.2.2.2.snd).snd))
          (brn (!decide (1844674407370955160 < x.fst.lo))
            (back
              ({ hi := x.fst.hi, lo := IntKind.u64.wrap (IntKind.u64.wrap (x.fst.lo * 10) + IntKind.u64.wrap (IntKind.i32.wrap ((↑(rune x.2.2.2.fst x.2.2.2.snd).fst : Int) - 48))),
                  minus := x.fst.minus },
                x.2.fst, decide (1844674407370955160 < x.fst.lo), x.2.2.2.fst, x.2.2.2.snd + (rune x.2.2.2.fst x.2.2.2.snd).snd))
            (back (x.fst, x.2.fst, decide (1844674407370955160 < x.fst.lo), x.2.2.2.fst, x.2.2.2.snd + (rune x.2.2.2.fst x.2.2.2.snd).snd))))))
    (some ((x.2.fst, x.2.2.fst), x.fst, x.2.2.snd))
def dec_Parse_l1J : Wide × Bool × Bool × ((List UInt8 × Nat)) → Option ((Bool × Bool) × (Wide × ((List UInt8 × Nat)))) := iter dec_Parse_l1F big
def dec_Parse_l1C : CutSpec tb := ⟨68, [(9, .ref 66), (10, .val 4), (11, .val 4), (53, .iter)], [((.exit 0), [(10, .val 4), (11, .val 4)])], [54, 55, 56, 13, 57, 58, 59, 60, 61, 62, 10, 63, 64, 65, 66, 67, 68, 11, 69, 70, 71, 72, 73, 74, 75, 76, 77, 78], dec_Parse_l1J⟩
theorem dec_Parse_l1_eq : ∀ back x, evLoop Tryd.prog tb [(73, strings_CutPrefixS), (74, strings_CutS), (75, strings_HasSuffixS)] [] (loopAt 68 Tryd.f42) dec_Parse_l1C.ins dec_Parse_l1C.outs back x = dec_Parse_l1F back x := fun back x => by kernel_rfl
theorem dec_Parse_l1_k : cutB Tryd.f42.ntmps dec_Parse_l1C (loopAt 68 Tryd.f42) = true := by kernel_rfl
theorem dec_Parse_l1_in : cutsOf ([] : List (CutSpec tb)) (loopAt 68 Tryd.f42) = [] := by kernel_rfl
theorem dec_Parse_l1_cut : CutSound Tryd.prog tb Tryd.f42.ntmps (.loop (loopAt 68 Tryd.f42)) dec_Parse_l1C := loop_it mixed dec_Parse_l1_k (.cons strings_CutPrefix_sound (.cons strings_Cut_sound (.cons strings_HasSuffix_sound .nil))) rfl dec_Parse_l1_in .nil dec_Parse_l1F dec_Parse_l1_eq rfl
def dec_Parse_b2J (x : Dec × Bool × List UInt8 × Wide × Bool × Bool) : Option (((Unit) × Dec) ⊕ ((Int) × Dec)) :=
  brn x.2.2.2.2.fst (some (Sum.inr (2, { M := 0, S := 0 })))
    (brn x.2.2.2.2.snd (some (Sum.inr (8, { M := 0, S := 0 })))
      (brn (decide (9223372036854775808 < x.2.2.2.fst.lo)) (some (Sum.inr (8, { M := 0, S := 0 })))
        (brn (decide (x.2.2.2.fst.lo = 9223372036854775808))
          (brn (!x.2.fst) (some (Sum.inr (8, { M := 0, S := 0 })))
            (brn (decide (9 < (↑x.2.2.fst.length : Int))) (some (Sum.inr (1, { M := 0, S := 0 })))
              (obnd (strings_HasSuffixF (x.2.2.fst, [48])) fun y =>
                brn y (some (Sum.inr (1, { M := 0, S := 0 })))
                  (brn x.2.fst (some (Sum.inr (0, { M := IntKind.i64.wrap (IntKind.u64.wrap (0 - x.2.2.2.fst.lo)), S := (↑x.2.2.fst.length : Int) })))
                    (some (Sum.inl ((), x.fst)))))))
          (brn (decide (9 < (↑x.2.2.fst.length : Int))) (some (Sum.inr (1, { M := 0, S := 0 })))
            (obnd (strings_HasSuffixF (x.2.2.fst, [48])) fun y =>
              brn y (some (Sum.inr (1, { M := 0, S := 0 })))
                (brn x.2.fst (some (Sum.inr (0, { M := IntKind.i64.wrap (IntKind.u64.wrap (0 - x.2.2.2.fst.lo)), S := (↑x.2.2.fst.length : Int) })))
                  (some (Sum.inl ((), x.fst)))))))))
def dec_Parse_b2C : CutSpec tb := ⟨123, [(2, .ref 23), (5, .val 4), (7, .val 9), (9, .ro 66), (10, .val 4), (11, .val 4)], [(.normal, []), (.ret, [(3, .val 25)])], [80, 79, 81, 3, 83, 84, 85, 86, 87, 88, 89, 90, 91, 92, 93, 94, 95, 96, 97, 82, 98, 100, 101, 102, 103, 104, 105, 106, 99, 107, 109, 108, 110, 111, 112, 113, 114, 115, 116], dec_Parse_b2J⟩
theorem dec_Parse_b2_eq : ∀ x, evBlk Tryd.prog tb [(73, strings_CutPrefixS), (74, strings_CutS), (75, strings_HasSuffixS)] [] (codeAt 123 Tryd.f42) dec_Parse_b2C.ins dec_Parse_b2C.outs x = dec_Parse_b2C.J x := fun x => by kernel_rfl
theorem dec_Parse_b2_k : cutB Tryd.f42.ntmps dec_Parse_b2C (codeAt 123 Tryd.f42) = true := by kernel_rfl
theorem dec_Parse_b2_in : cutsOf ([] : List (CutSpec tb)) (codeAt 123 Tryd.f42) = [] := by kernel_rfl
theorem dec_Parse_b2_cut : CutSound Tryd.prog tb Tryd.f42.ntmps (codeAt 123 Tryd.f42) dec_Parse_b2C := blk_ev mixed dec_Parse_b2_k (.cons strings_CutPrefix_sound (.cons strings_Cut_sound (.cons strings_HasSuffix_sound .nil))) rfl dec_Parse_b2_in .nil dec_Parse_b2_eq
def dec_ParseF (x : List UInt8) : Option (Dec × Int) :=
  obnd (strings_CutPrefixF (x, [45])) fun y =>
    obnd (strings_CutF (y.fst, [46])) fun y_1 =>
      brn (decide (y_1.fst = []))
        (obnd (cat y_1.fst y_1.2.fst) fun z =>
          obnd (dec_Parse_l1J ({ hi := 0, lo := 0, minus := y.snd }, true, false, z, 0)) fun y_2 =>
            obnd (dec_Parse_b2J ({ M := 0, S := 0 }, y.snd, y_1.2.fst, y_2.2.fst, y_2.1)) fun y =>
              osum y (fun y => some ({ M := IntKind.i64.wrap y_2.2.fst.lo, S := (↑(List.length y_1.2.fst) : Int) }, 0)) fun y => some (y.2, y.1))
        (brn y_1.2.snd
          (brn (decide (y_1.2.fst = []))
            (obnd (cat y_1.fst y_1.2.fst) fun z =>
              obnd (dec_Parse_l1J ({ hi := 0, lo := 0, minus := y.snd }, true, false, z, 0)) fun y_2 =>
                obnd (dec_Parse_b2J ({ M := 0, S := 0 }, y.snd, y_1.2.fst, y_2.2.fst, y_2.1)) fun y =>
                  osum y (fun y => some ({ M := IntKind.i64.wrap y_2.2.fst.lo, S := (↑(List.length y_1.2.fst) : Int) }, 0)) fun y => some (y.2, y.1))
            (brn (decide (1 < (↑(List.length y_1.fst) : Int)))
              (obnd (idx y_1.fst 0) fun y_2 =>
                brn (decide ((↑y_2.toNat : Int) = 48))
                  (obnd (cat y_1.fst y_1.2.fst) fun z =>
                    obnd (dec_Parse_l1J ({ hi := 0, lo := 0, minus := y.snd }, true, false, z, 0)) fun y_3 =>
                      obnd (dec_Parse_b2J ({ M := 0, S := 0 }, y.snd, y_1.2.fst, y_3.2.fst, y_3.1)) fun y =>
                        osum y (fun y => some ({ M := IntKind.i64.wrap y_3.2.fst.lo, S := (↑(List.length y_1.2.fst) : Int) }, 0)) fun y => some (y.2, y.1))
                  (obnd (cat y_1.fst y_1.2.fst) fun z =>
                    obnd (dec_Parse_l1J ({ hi := 0, lo := 0, minus := y.snd }, decide (x = [45, 48]), false, z, 0)) fun y_3 =>
                      obnd (dec_Parse_b2J ({ M := 0, S := 0 }, y.snd, y_1.2.fst, y_3.2.fst, y_3.1)) fun y =>
                        osum y (fun y => some ({ M := IntKind.i64.wrap y_3.2.fst.lo, S := (↑(List.length y_1.2.fst) : Int) }, 0)) fun y => some (y.2, y.1)))
              (obnd (cat y_1.fst y_1.2.fst) fun z =>
                obnd (dec_Parse_l1J ({ hi := 0, lo := 0, minus := y.snd }, decide (x = [45, 48]), false, z, 0)) fun y_2 =>
                  obnd (dec_Parse_b2J ({ M := 0, S := 0 }, y.snd, y_1.2.fst, y_2.2.fst, y_2.1)) fun y =>
                    osum y (fun y => some ({ M := IntKind.i64.wrap y_2.2.fst.lo, S := (↑(List.length y_1.2.fst) : Int) }, 0)) fun y => some (y.2, y.1))))
          (brn (decide (1 < (↑(List.length y_1.fst) : Int)))
            (obnd (idx y_1.fst 0) fun y_2 =>
              brn (decide ((↑y_2.toNat : Int) = 48))
                (obnd (cat y_1.fst y_1.2.fst) fun z =>
                  obnd (dec_Parse_l1J ({ hi := 0, lo := 0, minus := y.snd }, true, false, z, 0)) fun y_3 =>
                    obnd (dec_Parse_b2J ({ M := 0, S := 0 }, y.snd, y_1.2.fst, y_3.2.fst, y_3.1)) fun y =>
                      osum y (fun y => some ({ M := IntKind.i64.wrap y_3.2.fst.lo, S := (↑(List.length y_1.2.fst) : Int) }, 0)) fun y => some (y.2, y.1))
                (obnd (cat y_1.fst y_1.2.fst) fun z =>
                  obnd (dec_Parse_l1J ({ hi := 0, lo := 0, minus := y.snd }, decide (x = [45, 48]), false, z, 0)) fun y_3 =>
                    obnd (dec_Parse_b2J ({ M := 0, S := 0 }, y.snd, y_1.2.fst, y_3.2.fst, y_3.1)) fun y =>
                      osum y (fun y => some ({ M := IntKind.i64.wrap y_3.2.fst.lo, S := (↑(List.length y_1.2.fst) : Int) }, 0)) fun y => some (y.2, y.1)))
            (obnd (cat y_1.fst y_1.2.fst) fun z =>
              obnd (dec_Parse_l1J ({ hi := 0, lo := 0, minus := y.snd }, decide (x = [45, 48]), false, z, 0)) fun y_2 =>
                obnd (dec_Parse_b2J ({ M := 0, S := 0 }, y.snd, y_1.2.fst, y_2.2.fst, y_2.1)) fun y =>
                  osum y (fun y => some ({ M := IntKind.i64.wrap y_2.2.fst.lo, S := (↑(List.length y_1.2.fst) : Int) }, 0)) fun y => some (y.2, y.1))))
def dec_ParseS : FSpec tb := ⟨[(0, .val 9)], [(0, .val 23), (1, .val 25)], dec_ParseF⟩
theorem dec_Parse_eq : ∀ x, evFn Tryd.prog tb [(73, strings_CutPrefixS), (74, strings_CutS), (75, strings_HasSuffixS)] [dec_Parse_l1C, dec_Parse_b2C] Tryd.f42 dec_ParseS.ins dec_ParseS.outs x = dec_ParseS.f x := fun x => by kernel_rfl
theorem dec_Parse_k : fnK Tryd.f42 dec_ParseS.ins dec_ParseS.outs = true := by kernel_rfl
theorem dec_Parse_in : cutsOf ([dec_Parse_l1C, dec_Parse_b2C] : List (CutSpec tb)) (bodyOf Tryd.f42) = [(68, .loop (loopAt 68 Tryd.f42)), (123, codeAt 123 Tryd.f42)] := by kernel_rfl
theorem dec_Parse_sound : FnSound Tryd.prog tb 42 dec_ParseS := fn_cut mixed Tryd.func42 dec_Parse_k (.cons strings_CutPrefix_sound (.cons strings_Cut_sound (.cons strings_HasSuffix_sound .nil))) rfl dec_Parse_in (.cons rfl dec_Parse_l1_cut rfl (.cons rfl dec_Parse_b2_cut rfl .nil)) dec_Parse_eq

/-! ### dec_Int -/
def dec_IntF (x : Int) : Option (Dec) :=
  some { M := x, S := 0 }
def dec_IntS : FSpec tb := ⟨[(0, .val 2)], [(0, .val 23)], dec_IntF⟩
theorem dec_Int_eq : ∀ x, evFn Tryd.prog tb [] [] Tryd.f33 dec_IntS.ins dec_IntS.outs x = dec_IntS.f x := fun x => by kernel_rfl
theorem dec_Int_k : fnK Tryd.f33 dec_IntS.ins dec_IntS.outs = true := by kernel_rfl
theorem dec_Int_sound : FnSound Tryd.prog tb 33 dec_IntS := fn_ev mixed Tryd.func33 dec_Int_k .nil rfl dec_Int_eq

/-! ### istrconv_small -/
def istrconv_smallF (x : Int) : Option (List UInt8) :=
  brn (decide (x < 10))
    (obnd
      (sub
        (U8s [48, 49, 50, 51, 52, 53, 54, 55, 56, 57, 97, 98, 99, 100, 101, 102, 103, 104, 105, 106, 107, 108, 109, 110, 111, 112, 113, 114, 115, 116, 117, 118, 119, 120, 121, 122])
        x (IntKind.i64.wrap (x + 1)))
      fun z => some z)
    (obnd
      (sub
        (U8s
          [48, 48, 48, 49, 48, 50, 48, 51, 48, 52, 48, 53, 48, 54, 48, 55, 48, 56, 48, 57, 49, 48, 49, 49, 49, 50, 49, 51, 49, 52, 49, 53, 49, 54, 49, 55, 49, 56, 49, 57, 50, 48, 50,
            49, 50, 50, 50, 51, 50, 52, 50, 53, 50, 54, 50, 55, 50, 56, 50, 57, 51, 48, 51, 49, 51, 50, 51, 51, 51, 52, 51, 53, 51, 54, 51, 55, 51, 56, 51, 57, 52, 48, 52, 49, 52,
            50, 52, 51, 52, 52, 52, 53, 52, 54, 52, 55, 52, 56, 52, 57, 53, 48, 53, 49, 53, 50, 53, 51, 53, 52, 53, 53, 53, 54, 53, 55, 53, 56, 53, 57, 54, 48, 54, 49, 54, 50, 54,
            51, 54, 52, 54, 53, 54, 54, 54, 55, 54, 56, 54, 57, 55, 48, 55, 49, 55, 50, 55, 51, 55, 52, 55, 53, 55, 54, 55, 55, 55, 56, 55, 57, 56, 48, 56, 49, 56, 50, 56, 51, 56,
            52, 56, 53, 56, 54, 56, 55, 56, 56, 56, 57, 57, 48, 57, 49, 57, 50, 57, 51, 57, 52, 57, 53, 57, 54, 57, 55, 57, 56, 57, 57])
        (IntKind.i64.wrap (x * 2)) (IntKind.i64.wrap (IntKind.i64.wrap (x * 2) + 2)))
      fun z => some z)
def istrconv_smallS : FSpec tb := ⟨[(0, .val 3)], [(0, .val 9)], istrconv_smallF⟩
theorem istrconv_small_eq : ∀ x, evFn Tryd.prog tb [] [] Tryd.f104 istrconv_smallS.ins istrconv_smallS.outs x = istrconv_smallS.f x := fun x => by kernel_rfl
theorem istrconv_small_k : fnK Tryd.f104 istrconv_smallS.ins istrconv_smallS.outs = true := by kernel_rfl
theorem istrconv_small_sound : FnSound Tryd.prog tb 104 istrconv_smallS := fn_ev mixed Tryd.func104 istrconv_small_k .nil rfl istrconv_small_eq

/-! ### bits_Len64 -/
def bits_Len64F (x : Int) : Option (Int) :=
  brn (decide (4294967296 ≤ x))
    (brn (decide (65536 ≤ x.fdiv 4294967296))
      (brn (decide (256 ≤ (x.fdiv 4294967296).fdiv 65536))
        (obnd
          (idx
            (U8s
              [0, 1, 2, 2, 3, 3, 3, 3, 4, 4, 4, 4, 4, 4, 4, 4, 5, 5, 5, 5, 5, 5, 5, 5, 5, 5, 5, 5, 5, 5, 5, 5, 6, 6, 6, 6, 6, 6, 6, 6, 6, 6, 6, 6, 6, 6, 6, 6, 6, 6, 6, 6, 6, 6, 6, 6,
                6, 6, 6, 6, 6, 6, 6, 6, 7, 7, 7, 7, 7, 7, 7, 7, 7, 7, 7, 7, 7, 7, 7, 7, 7, 7, 7, 7, 7, 7, 7, 7, 7, 7, 7, 7, 7, 7, 7, 7, 7, 7, 7, 7, 7, 7, 7, 7, 7, 7, 7, 7, 7, 7, 7,
                7, 7, 7, 7, 7, 7, 7, 7, 7, 7, 7, 7, 7, 7, 7, 7, 7, 8, 8, 8, 8, 8, 8, 8, 8, 8, 8, 8, 8, 8, 8, 8, 8, 8, 8, 8, 8, 8, 8, 8, 8, 8, 8, 8, 8, 8, 8, 8, 8, 8, 8, 8, 8, 8, 8,
                8, 8, 8, 8, 8, 8, 8, 8, 8, 8, 8, 8, 8, 8, 8, 8, 8, 8, 8, 8, 8, 8, 8, 8, 8, 8, 8, 8, 8, 8, 8, 8, 8, 8, 8, 8, 8, 8, 8, 8, 8, 8, 8, 8, 8, 8, 8, 8, 8, 8, 8, 8, 8, 8, 8,
                8, 8, 8, 8, 8, 8, 8, 8, 8, 8, 8, 8, 8, 8, 8, 8, 8, 8, 8, 8, 8, 8, 8, 8, 8, 8, 8, 8, 8, 8, 8, 8, 8, 8, 8])
            (IntKind.u8.wrap (((x.fdiv 4294967296).fdiv 65536).fdiv 256)))
          fun y => some (IntKind.i64.wrap (56 + IntKind.i64.wrap (↑y.toNat : Int))))
        (obnd
          (idx
            (U8s
              [0, 1, 2, 2, 3, 3, 3, 3, 4, 4, 4, 4, 4, 4, 4, 4, 5, 5, 5, 5, 5, 5, 5, 5, 5, 5, 5, 5, 5, 5, 5, 5, 6, 6, 6, 6, 6, 6, 6, 6, 6, 6, 6, 6, 6, 6, 6, 6, 6, 6, 6, 6, 6, 6, 6, 6,
                6, 6, 6, 6, 6, 6, 6, 6, 7, 7, 7, 7, 7, 7, 7, 7, 7, 7, 7, 7, 7, 7, 7, 7, 7, 7, 7, 7, 7, 7, 7, 7, 7, 7, 7, 7, 7, 7, 7, 7, 7, 7, 7, 7, 7, 7, 7, 7, 7, 7, 7, 7, 7, 7, 7,
                7, 7, 7, 7, 7, 7, 7, 7, 7, 7, 7, 7, 7, 7, 7, 7, 7, 8, 8, 8, 8, 8, 8, 8, 8, 8, 8, 8, 8, 8, 8, 8, 8, 8, 8, 8, 8, 8, 8, 8, 8, 8, 8, 8, 8, 8, 8, 8, 8, 8, 8, 8, 8, 8, 8,
                8, 8, 8, 8, 8, 8, 8, 8, 8, 8, 8, 8, 8, 8, 8, 8, 8, 8, 8, 8, 8, 8, 8, 8, 8, 8, 8, 8, 8, 8, 8, 8, 8, 8, 8, 8, 8, 8, 8, 8, 8, 8, 8, 8, 8, 8, 8, 8, 8, 8, 8, 8, 8, 8, 8,
                8, 8, 8, 8, 8, 8, 8, 8, 8, 8, 8, 8, 8, 8, 8, 8, 8, 8, 8, 8, 8, 8, 8, 8, 8, 8, 8, 8, 8, 8, 8, 8, 8, 8, 8])
            (IntKind.u8.wrap ((x.fdiv 4294967296).fdiv 65536)))
          fun y => some (IntKind.i64.wrap (48 + IntKind.i64.wrap (↑y.toNat : Int)))))
      (brn (decide (256 ≤ x.fdiv 4294967296))
        (obnd
          (idx
            (U8s
              [0, 1, 2, 2, 3, 3, 3, 3, 4, 4, 4, 4, 4, 4, 4, 4, 5, 5, 5, 5, 5, 5, 5, 5, 5, 5, 5, 5, 5, 5, 5, 5, 6, 6, 6, 6, 6, 6, 6, 6, 6, 6, 6, 6, 6, 6, 6, 6, 6, 6, 6, 6, 6, 6, 6, 6,
                6, 6, 6, 6, 6, 6, 6, 6, 7, 7, 7, 7, 7, 7, 7, 7, 7, 7, 7, 7, 7, 7, 7, 7, 7, 7, 7, 7, 7, 7, 7, 7, 7, 7, 7, 7, 7, 7, 7, 7, 7, 7, 7, 7, 7, 7, 7, 7, 7, 7, 7, 7, 7, 7, 7,
                7, 7, 7, 7, 7, 7, 7, 7, 7, 7, 7, 7, 7, 7, 7, 7, 7, 8, 8, 8, 8, 8, 8, 8, 8, 8, 8, 8, 8, 8, 8, 8, 8, 8, 8, 8, 8, 8, 8, 8, 8, 8, 8, 8, 8, 8, 8, 8, 8, 8, 8, 8, 8, 8, 8,
                8, 8, 8, 8, 8, 8, 8, 8, 8, 8, 8, 8, 8, 8, 8, 8, 8, 8, 8, 8, 8, 8, 8, 8, 8, 8, 8, 8, 8, 8, 8, 8, 8, 8, 8, 8, 8, 8, 8, 8, 8, 8, 8, 8, 8, 8, 8, 8, 8, 8, 8, 8, 8, 8, 8,
                8, 8, 8, 8, 8, 8, 8, 8, 8, 8, 8, 8, 8, 8, 8, 8, 8, 8, 8, 8, 8, 8, 8, 8, 8, 8, 8, 8, 8, 8, 8, 8, 8, 8, 8])
            (IntKind.u8.wrap ((x.fdiv 4294967296).fdiv 256)))
          fun y => some (IntKind.i64.wrap (40 + IntKind.i64.wrap (↑y.toNat : Int))))
        (obnd
          (idx
            (U8s
              [0, 1, 2, 2, 3, 3, 3, 3, 4, 4, 4, 4, 4, 4, 4, 4, 5, 5, 5, 5, 5, 5, 5, 5, 5, 5, 5, 5, 5, 5, 5, 5, 6, 6, 6, 6, 6, 6, 6, 6, 6, 6, 6, 6, 6, 6, 6, 6, 6, 6, 6, 6, 6, 6, 6, 6,
                6, 6, 6, 6, 6, 6, 6, 6, 7, 7, 7, 7, 7, 7, 7, 7, 7, 7, 7, 7, 7, 7, 7, 7, 7, 7, 7, 7, 7, 7, 7, 7, 7, 7, 7, 7, 7, 7, 7, 7, 7, 7, 7, 7, 7, 7, 7, 7, 7, 7, 7, 7, 7, 7, 7,
                7, 7, 7, 7, 7, 7, 7, 7, 7, 7, 7, 7, 7, 7, 7, 7, 7, 8, 8, 8, 8, 8, 8, 8, 8, 8, 8, 8, 8, 8, 8, 8, 8, 8, 8, 8, 8, 8, 8, 8, 8, 8, 8, 8, 8, 8, 8, 8, 8, 8, 8, 8, 8, 8, 8,
                8, 8, 8, 8, 8, 8, 8, 8, 8, 8, 8, 8, 8, 8, 8, 8, 8, 8, 8, 8, 8, 8, 8, 8, 8, 8, 8, 8, 8, 8, 8, 8, 8, 8, 8, 8, 8, 8, 8, 8, 8, 8, 8, 8, 8, 8, 8, 8, 8, 8, 8, 8, 8, 8, 8,
                8, 8, 8, 8, 8, 8, 8, 8, 8, 8, 8, 8, 8, 8, 8, 8, 8, 8, 8, 8, 8, 8, 8, 8, 8, 8, 8, 8, 8, 8, 8, 8, 8, 8, 8])
            (IntKind.u8.wrap (x.fdiv 4294967296)))
          fun y => some (IntKind.i64.wrap (32 + IntKind.i64.wrap (↑y.toNat : Int))))))
    (brn (decide (65536 ≤ x))
      (brn (decide (256 ≤ x.fdiv 65536))
        (obnd
          (idx
            (U8s
              [0, 1, 2, 2, 3, 3, 3, 3, 4, 4, 4, 4, 4, 4, 4, 4, 5, 5, 5, 5, 5, 5, 5, 5, 5, 5, 5, 5, 5, 5, 5, 5, 6, 6, 6, 6, 6, 6, 6, 6, 6, 6, 6, 6, 6, 6, 6, 6, 6, 6, 6, 6, 6, 6, 6, 6,
                6, 6, 6, 6, 6, 6, 6, 6, 7, 7, 7, 7, 7, 7, 7, 7, 7, 7, 7, 7, 7, 7, 7, 7, 7, 7, 7, 7, 7, 7, 7, 7, 7, 7, 7, 7, 7, 7, 7, 7, 7, 7, 7, 7, 7, 7, 7, 7, 7, 7, 7, 7, 7, 7, 7,
                7, 7, 7, 7, 7, 7, 7, 7, 7, 7, 7, 7, 7, 7, 7, 7, 7, 8, 8, 8, 8, 8, 8, 8, 8, 8, 8, 8, 8, 8, 8, 8, 8, 8, 8, 8, 8, 8, 8, 8, 8, 8, 8, 8, 8, 8, 8, 8, 8, 8, 8, 8, 8, 8, 8,
                8, 8, 8, 8, 8, 8, 8, 8, 8, 8, 8, 8, 8, 8, 8, 8, 8, 8, 8, 8, 8, 8, 8, 8, 8, 8, 8, 8, 8, 8, 8, 8, 8, 8, 8, 8, 8, 8, 8, 8, 8, 8, 8, 8, 8, 8, 8, 8, 8, 8, 8, 8, 8, 8, 8,
                8, 8, 8, 8, 8, 8, 8, 8, 8, 8, 8, 8, 8, 8, 8, 8, 8, 8, 8, 8, 8, 8, 8, 8, 8, 8, 8, 8, 8, 8, 8, 8, 8, 8, 8])
            (IntKind.u8.wrap ((x.fdiv 65536).fdiv 256)))
          fun y => some (IntKind.i64.wrap (24 + IntKind.i64.wrap (↑y.toNat : Int))))
        (obnd
          (idx
            (U8s
              [0, 1, 2, 2, 3, 3, 3, 3, 4, 4, 4, 4, 4, 4, 4, 4, 5, 5, 5, 5, 5, 5, 5, 5, 5, 5, 5, 5, 5, 5, 5, 5, 6, 6, 6, 6, 6, 6, 6, 6, 6, 6, 6, 6, 6, 6, 6, 6, 6, 6, 6, 6, 6, 6, 6, 6,
                6, 6, 6, 6, 6, 6, 6, 6, 7, 7, 7, 7, 7, 7, 7, 7, 7, 7, 7, 7, 7, 7, 7, 7, 7, 7, 7, 7, 7, 7, 7, 7, 7, 7, 7, 7, 7, 7, 7, 7, 7, 7, 7, 7, 7, 7, 7, 7, 7, 7, 7, 7, 7, 7, 7,
                7, 7, 7, 7, 7, 7, 7, 7, 7, 7, 7, 7, 7, 7, 7, 7, 7, 8, 8, 8, 8, 8, 8, 8, 8, 8, 8, 8, 8, 8, 8, 8, 8, 8, 8, 8, 8, 8, 8, 8, 8, 8, 8, 8, 8, 8, 8, 8, 8, 8, 8, 8, 8, 8, 8,
                8, 8, 8, 8, 8, 8, 8, 8, 8, 8, 8, 8, 8, 8, 8, 8, 8, 8, 8, 8, 8, 8, 8, 8, 8, 8, 8, 8, 8, 8, 8, 8, 8, 8, 8, 8, 8, 8, 8, 8, 8, 8, 8, 8, 8, 8, 8, 8, 8, 8, 8, 8, 8, 8, 8,
                8, 8, 8, 8, 8, 8, 8, 8, 8, 8, 8, 8, 8, 8, 8, 8, 8, 8, 8, 8, 8, 8, 8, 8, 8, 8, 8, 8, 8, 8, 8, 8, 8, 8, 8])
            (IntKind.u8.wrap (x.fdiv 65536)))
          fun y => some (IntKind.i64.wrap (16 + IntKind.i64.wrap (↑y.toNat : Int)))))
      (brn (decide (256 ≤ x))
        (obnd
          (idx
            (U8s
              [0, 1, 2, 2, 3, 3, 3, 3, 4, 4, 4, 4, 4, 4, 4, 4, 5, 5, 5, 5, 5, 5, 5, 5, 5, 5, 5, 5, 5, 5, 5, 5, 6, 6, 6, 6, 6, 6, 6, 6, 6, 6, 6, 6, 6, 6, 6, 6, 6, 6, 6, 6, 6, 6, 6, 6,
                6, 6, 6, 6, 6, 6, 6, 6, 7, 7, 7, 7, 7, 7, 7, 7, 7, 7, 7, 7, 7, 7, 7, 7, 7, 7, 7, 7, 7, 7, 7, 7, 7, 7, 7, 7, 7, 7, 7, 7, 7, 7, 7, 7, 7, 7, 7, 7, 7, 7, 7, 7, 7, 7, 7,
                7, 7, 7, 7, 7, 7, 7, 7, 7, 7, 7, 7, 7, 7, 7, 7, 7, 8, 8, 8, 8, 8, 8, 8, 8, 8, 8, 8, 8, 8, 8, 8, 8, 8, 8, 8, 8, 8, 8, 8, 8, 8, 8, 8, 8, 8, 8, 8, 8, 8, 8, 8, 8, 8, 8,
                8, 8, 8, 8, 8, 8, 8, 8, 8, 8, 8, 8, 8, 8, 8, 8, 8, 8, 8, 8, 8, 8, 8, 8, 8, 8, 8, 8, 8, 8, 8, 8, 8, 8, 8, 8, 8, 8, 8, 8, 8, 8, 8, 8, 8, 8, 8, 8, 8, 8, 8, 8, 8, 8, 8,
                8, 8, 8, 8, 8, 8, 8, 8, 8, 8, 8, 8, 8, 8, 8, 8, 8, 8, 8, 8, 8, 8, 8, 8, 8, 8, 8, 8, 8, 8, 8, 8, 8, 8, 8])
            (IntKind.u8.wrap (x.fdiv 256)))
          fun y => some (IntKind.i64.wrap (8 + IntKind.i64.wrap (↑y.toNat : Int))))
        (obnd
          (idx
            (U8s
              [0, 1, 2, 2, 3, 3, 3, 3, 4, 4, 4, 4, 4, 4, 4, 4, 5, 5, 5, 5, 5, 5, 5, 5, 5, 5, 5, 5, 5, 5, 5, 5, 6, 6, 6, 6, 6, 6, 6, 6, 6, 6, 6, 6, 6, 6, 6, 6, 6, 6, 6, 6, 6, 6, 6, 6,
                6, 6, 6, 6, 6, 6, 6, 6, 7, 7, 7, 7, 7, 7, 7, 7, 7, 7, 7, 7, 7, 7, 7, 7, 7, 7, 7, 7, 7, 7, 7, 7, 7, 7, 7, 7, 7, 7, 7, 7, 7, 7, 7, 7, 7, 7, 7, 7, 7, 7, 7, 7, 7, 7, 7,
                7, 7, 7, 7, 7, 7, 7, 7, 7, 7, 7, 7, 7, 7, 7, 7, 7, 8, 8, 8, 8, 8, 8, 8, 8, 8, 8, 8, 8, 8, 8, 8, 8, 8, 8, 8, 8, 8, 8, 8, 8, 8, 8, 8, 8, 8, 8, 8, 8, 8, 8, 8, 8, 8, 8,
                8, 8, 8, 8, 8, 8, 8, 8, 8, 8, 8, 8, 8, 8, 8, 8, 8, 8, 8, 8, 8, 8, 8, 8, 8, 8, 8, 8, 8, 8, 8, 8, 8, 8, 8, 8, 8, 8, 8, 8, 8, 8, 8, 8, 8, 8, 8, 8, 8, 8, 8, 8, 8, 8, 8,
                8, 8, 8, 8, 8, 8, 8, 8, 8, 8, 8, 8, 8, 8, 8, 8, 8, 8, 8, 8, 8, 8, 8, 8, 8, 8, 8, 8, 8, 8, 8, 8, 8, 8, 8])
            (IntKind.u8.wrap x))
          fun y => some (IntKind.i64.wrap (0 + IntKind.i64.wrap (↑y.toNat : Int))))))
def bits_Len64S : FSpec tb := ⟨[(0, .val 64)], [(0, .val 3)], bits_Len64F⟩
theorem bits_Len64_eq : ∀ x, evFn Tryd.prog tb [] [] Tryd.f117 bits_Len64S.ins bits_Len64S.outs x = bits_Len64S.f x := fun x => by kernel_rfl
theorem bits_Len64_k : fnK Tryd.f117 bits_Len64S.ins bits_Len64S.outs = true := by kernel_rfl
theorem bits_Len64_sound : FnSound Tryd.prog tb 117 bits_Len64S := fn_ev mixed Tryd.func117 bits_Len64_k .nil rfl bits_Len64_eq

/-! ### istrconv_log10Pow2 -/
def istrconv_log10Pow2F (x : Int) : Option (Int) :=
  some ((IntKind.i64.wrap (x * 78913)).fdiv 262144)
def istrconv_log10Pow2S : FSpec tb := ⟨[(0, .val 3)], [(0, .val 3)], istrconv_log10Pow2F⟩
theorem istrconv_log10Pow2_eq : ∀ x, evFn Tryd.prog tb [] [] Tryd.f116 istrconv_log10Pow2S.ins istrconv_log10Pow2S.outs x = istrconv_log10Pow2S.f x := fun x => by kernel_rfl
theorem istrconv_log10Pow2_k : fnK Tryd.f116 istrconv_log10Pow2S.ins istrconv_log10Pow2S.outs = true := by kernel_rfl
theorem istrconv_log10Pow2_sound : FnSound Tryd.prog tb 116 istrconv_log10Pow2S := fn_ev mixed Tryd.func116 istrconv_log10Pow2_k .nil rfl istrconv_log10Pow2_eq

/-! ### istrconv_bool2_int -/
def istrconv_bool2_intF (x : Bool) : Option (Int) :=
  brn x (some 1) (some 0)
def istrconv_bool2_intS : FSpec tb := ⟨[(0, .val 4)], [(0, .val 3)], istrconv_bool2_intF⟩
theorem istrconv_bool2_int_eq : ∀ x, evFn Tryd.prog tb [] [] Tryd.f118 istrconv_bool2_intS.ins istrconv_bool2_intS.outs x = istrconv_bool2_intS.f x := fun x => by kernel_rfl
theorem istrconv_bool2_int_k : fnK Tryd.f118 istrconv_bool2_intS.ins istrconv_bool2_intS.outs = true := by kernel_rfl
theorem istrconv_bool2_int_sound : FnSound Tryd.prog tb 118 istrconv_bool2_intS := fn_ev mixed Tryd.func118 istrconv_bool2_int_k .nil rfl istrconv_bool2_int_eq

/-! ### istrconv_numDigits -/
def istrconv_numDigitsF (x : Int) : Option (Int) :=
  obnd (bits_Len64F x) fun y => obnd (istrconv_log10Pow2F y) fun y => none
def istrconv_numDigitsS : FSpec tb := ⟨[(0, .val 64)], [(0, .val 3)], istrconv_numDigitsF⟩
theorem istrconv_numDigits_eq : ∀ x, evFn Tryd.prog tb [(117, bits_Len64S), (116, istrconv_log10Pow2S), (118, istrconv_bool2_intS)] [] Tryd.f105 istrconv_numDigitsS.ins istrconv_numDigitsS.outs x = istrconv_numDigitsS.f x := fun x => by kernel_rfl
theorem istrconv_numDigits_k : fnK Tryd.f105 istrconv_numDigitsS.ins istrconv_numDigitsS.outs = true := by kernel_rfl
theorem istrconv_numDigits_sound : FnSound Tryd.prog tb 105 istrconv_numDigitsS := fn_ev mixed Tryd.func105 istrconv_numDigits_k (.cons bits_Len64_sound (.cons istrconv_log10Pow2_sound (.cons istrconv_bool2_int_sound .nil))) rfl istrconv_numDigits_eq

/-! ### istrconv_FormatUint -/
def istrconv_FormatUintF (x : Int × Int) : Option (List UInt8) :=
  brn (decide (x.snd = 10)) (brn (decide (x.fst < 100)) (obnd (istrconv_smallF (IntKind.i64.wrap x.fst)) fun y => some y) (obnd (istrconv_numDigitsF x.fst) fun y => none)) none
def istrconv_FormatUintS : FSpec tb := ⟨[(0, .val 64), (1, .val 3)], [(0, .val 9)], istrconv_FormatUintF⟩
theorem istrconv_FormatUint_eq : ∀ x, evFn Tryd.prog tb [(104, istrconv_smallS), (105, istrconv_numDigitsS)] [] Tryd.f92 istrconv_FormatUintS.ins istrconv_FormatUintS.outs x = istrconv_FormatUintS.f x := fun x => by kernel_rfl
theorem istrconv_FormatUint_k : fnK Tryd.f92 istrconv_FormatUintS.ins istrconv_FormatUintS.outs = true := by kernel_rfl
theorem istrconv_FormatUint_sound : FnSound Tryd.prog tb 92 istrconv_FormatUintS := fn_ev mixed Tryd.func92 istrconv_FormatUint_k (.cons istrconv_small_sound (.cons istrconv_numDigits_sound .nil)) rfl istrconv_FormatUint_eq

/-! ### strconv_FormatUint -/
def strconv_FormatUintF (x : Int × Int) : Option (List UInt8) :=
  obnd (istrconv_FormatUintF x) fun y => some y
def strconv_FormatUintS : FSpec tb := ⟨[(0, .val 64), (1, .val 3)], [(0, .val 9)], strconv_FormatUintF⟩
theorem strconv_FormatUint_eq : ∀ x, evFn Tryd.prog tb [(92, istrconv_FormatUintS)] [] Tryd.f76 strconv_FormatUintS.ins strconv_FormatUintS.outs x = strconv_FormatUintS.f x := fun x => by kernel_rfl
theorem strconv_FormatUint_k : fnK Tryd.f76 strconv_FormatUintS.ins strconv_FormatUintS.outs = true := by kernel_rfl
theorem strconv_FormatUint_sound : FnSound Tryd.prog tb 76 strconv_FormatUintS := fn_ev mixed Tryd.func76 strconv_FormatUint_k (.cons istrconv_FormatUint_sound .nil) rfl strconv_FormatUint_eq

/-! ### dec_Text -/
def dec_TextF (x : Dec) : Option (List UInt8) :=
  obnd (dec_ofF x.M) fun y =>
    obnd (strconv_FormatUintF (y.lo, 10)) fun y_1 =>
      brn (decide (0 < x.S))
        (obnd
          (strings_RepeatF
            ([48],
              bif decide (IntKind.i64.wrap (IntKind.i64.wrap (x.S + 1) - (↑(List.length y_1) : Int)) < 0) then 0
              else IntKind.i64.wrap (IntKind.i64.wrap (x.S + 1) - (↑(List.length y_1) : Int))))
          fun y_2 =>
          obnd (cat y_2 y_1) fun z =>
            obnd (sub z 0 (IntKind.i64.wrap ((↑z.length : Int) - x.S))) fun z_1 =>
              obnd (cat z_1 [46]) fun z_2 =>
                obnd (sub z (IntKind.i64.wrap ((↑z.length : Int) - x.S)) (↑z.length : Int)) fun z =>
                  obnd (cat z_2 z) fun z => brn y.minus (obnd (cat [45] z) fun z => some z) (some z))
        (brn y.minus (obnd (cat [45] y_1) fun z => some z) (some y_1))
def dec_TextS : FSpec tb := ⟨[(0, .val 23)], [(0, .val 9)], dec_TextF⟩
theorem dec_Text_eq : ∀ x, evFn Tryd.prog tb [(50, dec_ofS), (76, strconv_FormatUintS), (77, strings_RepeatS)] [] Tryd.f43 dec_TextS.ins dec_TextS.outs x = dec_TextS.f x := fun x => by kernel_rfl
theorem dec_Text_k : fnK Tryd.f43 dec_TextS.ins dec_TextS.outs = true := by kernel_rfl
theorem dec_Text_sound : FnSound Tryd.prog tb 43 dec_TextS := fn_ev mixed Tryd.func43 dec_Text_k (.cons dec_of_sound (.cons strconv_FormatUint_sound (.cons strings_Repeat_sound .nil))) rfl dec_Text_eq

/-! ### cmp_isNaN_int64 -/
def cmp_isNaN_int64F (x : Int) : Option (Bool) :=
  some (bif decide (x = x) then false else true)
def cmp_isNaN_int64S : FSpec tb := ⟨[(0, .val 2)], [(0, .val 4)], cmp_isNaN_int64F⟩
theorem cmp_isNaN_int64_eq : ∀ x, evFn Tryd.prog tb [] [] Tryd.f85 cmp_isNaN_int64S.ins cmp_isNaN_int64S.outs x = cmp_isNaN_int64S.f x := fun x => by kernel_rfl
theorem cmp_isNaN_int64_k : fnK Tryd.f85 cmp_isNaN_int64S.ins cmp_isNaN_int64S.outs = true := by kernel_rfl
theorem cmp_isNaN_int64_sound : FnSound Tryd.prog tb 85 cmp_isNaN_int64S := fn_ev mixed Tryd.func85 cmp_isNaN_int64_k .nil rfl cmp_isNaN_int64_eq

/-! ### cmp_Compare_int64 -/
def cmp_Compare_int64F (x : Int × Int) : Option (Int) :=
  obnd (cmp_isNaN_int64F x.fst) fun y =>
    obnd (cmp_isNaN_int64F x.snd) fun y_1 =>
      brn y (brn y_1 (some 0) (some (-1))) (brn y_1 (some 1) (brn (decide (x.fst < x.snd)) (some (-1)) (brn (decide (x.snd < x.fst)) (some 1) (some 0))))
def cmp_Compare_int64S : FSpec tb := ⟨[(0, .val 2), (1, .val 2)], [(0, .val 3)], cmp_Compare_int64F⟩
theorem cmp_Compare_int64_eq : ∀ x, evFn Tryd.prog tb [(85, cmp_isNaN_int64S)] [] Tryd.f63 cmp_Compare_int64S.ins cmp_Compare_int64S.outs x = cmp_Compare_int64S.f x := fun x => by kernel_rfl
theorem cmp_Compare_int64_k : fnK Tryd.f63 cmp_Compare_int64S.ins cmp_Compare_int64S.outs = true := by kernel_rfl
theorem cmp_Compare_int64_sound : FnSound Tryd.prog tb 63 cmp_Compare_int64S := fn_ev mixed Tryd.func63 cmp_Compare_int64_k (.cons cmp_isNaN_int64_sound .nil) rfl cmp_Compare_int64_eq

/-! ### cmp_isNaN_int -/
def cmp_isNaN_intF (x : Int) : Option (Bool) :=
  some (bif decide (x = x) then false else true)
def cmp_isNaN_intS : FSpec tb := ⟨[(0, .val 3)], [(0, .val 4)], cmp_isNaN_intF⟩
theorem cmp_isNaN_int_eq : ∀ x, evFn Tryd.prog tb [] [] Tryd.f84 cmp_isNaN_intS.ins cmp_isNaN_intS.outs x = cmp_isNaN_intS.f x := fun x => by kernel_rfl
theorem cmp_isNaN_int_k : fnK Tryd.f84 cmp_isNaN_intS.ins cmp_isNaN_intS.outs = true := by kernel_rfl
theorem cmp_isNaN_int_sound : FnSound Tryd.prog tb 84 cmp_isNaN_intS := fn_ev mixed Tryd.func84 cmp_isNaN_int_k .nil rfl cmp_isNaN_int_eq

/-! ### cmp_Compare_int -/
def cmp_Compare_intF (x : Int × Int) : Option (Int) :=
  obnd (cmp_isNaN_intF x.fst) fun y =>
    obnd (cmp_isNaN_intF x.snd) fun y_1 =>
      brn y (brn y_1 (some 0) (some (-1))) (brn y_1 (some 1) (brn (decide (x.fst < x.snd)) (some (-1)) (brn (decide (x.snd < x.fst)) (some 1) (some 0))))
def cmp_Compare_intS : FSpec tb := ⟨[(0, .val 3), (1, .val 3)], [(0, .val 3)], cmp_Compare_intF⟩
theorem cmp_Compare_int_eq : ∀ x, evFn Tryd.prog tb [(84, cmp_isNaN_intS)] [] Tryd.f62 cmp_Compare_intS.ins cmp_Compare_intS.outs x = cmp_Compare_intS.f x := fun x => by kernel_rfl
theorem cmp_Compare_int_k : fnK Tryd.f62 cmp_Compare_intS.ins cmp_Compare_intS.outs = true := by kernel_rfl
theorem cmp_Compare_int_sound : FnSound Tryd.prog tb 62 cmp_Compare_intS := fn_ev mixed Tryd.func62 cmp_Compare_int_k (.cons cmp_isNaN_int_sound .nil) rfl cmp_Compare_int_eq

/-! ### dec_Compare -/
def dec_CompareF (x : Dec × Dec) : Option (Int) :=
  obnd (dec_scaledF x.fst) fun y =>
    obnd (dec_scaledF x.snd) fun y_1 =>
      brn (!decide (y.minus = y_1.minus))
        (obnd (cmp_Compare_int64F (x.fst.M, 0)) fun y => obnd (cmp_Compare_int64F (x.snd.M, 0)) fun y_2 => obnd (cmp_Compare_intF (y, y_2)) fun y => some y)
        (brn y.minus (obnd (dec_wide_lessF (y, y_1)) fun y_2 => brn y_2 (some 1) (obnd (dec_wide_lessF (y_1, y)) fun y => brn y (some (-1)) (some 0)))
          (obnd (dec_wide_lessF (y, y_1)) fun y_2 => brn y_2 (some (-1)) (obnd (dec_wide_lessF (y_1, y)) fun y => brn y (some 1) (some 0))))
def dec_CompareS : FSpec tb := ⟨[(0, .val 23), (1, .val 23)], [(0, .val 3)], dec_CompareF⟩
theorem dec_Compare_eq : ∀ x, evFn Tryd.prog tb [(44, dec_scaledS), (63, cmp_Compare_int64S), (62, cmp_Compare_intS), (64, dec_wide_lessS)] [] Tryd.f25 dec_CompareS.ins dec_CompareS.outs x = dec_CompareS.f x := fun x => by kernel_rfl
theorem dec_Compare_k : fnK Tryd.f25 dec_CompareS.ins dec_CompareS.outs = true := by kernel_rfl
theorem dec_Compare_sound : FnSound Tryd.prog tb 25 dec_CompareS := fn_ev mixed Tryd.func25 dec_Compare_k (.cons dec_scaled_sound (.cons cmp_Compare_int64_sound (.cons cmp_Compare_int_sound (.cons dec_wide_less_sound .nil)))) rfl dec_Compare_eq

/-! ### dec_Norm -/
def dec_Norm_l1F (back : Dec → Option ((Unit) × Dec)) (x : Dec) : Option ((Unit) × Dec) :=
  brn (decide (0 < x.S)) (brn (decide (x.M.tmod 10 = 0)) (back { M := IntKind.i64.wrap (x.M.tdiv 10), S := IntKind.i64.wrap (x.S - 1) }) (some ((), x))) (some ((), x))
def dec_Norm_l1J : Dec → Option ((Unit) × Dec) := iter dec_Norm_l1F big
def dec_Norm_l1C : CutSpec tb := ⟨20, [(1, .ref 23)], [((.exit 0), [])], [3, 4, 5, 6, 7, 8, 9, 10, 11, 12, 13, 14, 15, 16, 17, 18], dec_Norm_l1J⟩
theorem dec_Norm_l1_eq : ∀ back x, evLoop Tryd.prog tb [] [] (loopAt 20 Tryd.f27) dec_Norm_l1C.ins dec_Norm_l1C.outs back x = dec_Norm_l1F back x := fun back x => by kernel_rfl
theorem dec_Norm_l1_k : cutB Tryd.f27.ntmps dec_Norm_l1C (loopAt 20 Tryd.f27) = true := by kernel_rfl
theorem dec_Norm_l1_in : cutsOf ([] : List (CutSpec tb)) (loopAt 20 Tryd.f27) = [] := by kernel_rfl
theorem dec_Norm_l1_cut : CutSound Tryd.prog tb Tryd.f27.ntmps (.loop (loopAt 20 Tryd.f27)) dec_Norm_l1C := loop_it mixed dec_Norm_l1_k .nil rfl dec_Norm_l1_in .nil dec_Norm_l1F dec_Norm_l1_eq rfl
def dec_NormF (x : Dec) : Option (Dec) :=
  obnd (dec_Norm_l1J x) fun y => some y.2
def dec_NormS : FSpec tb := ⟨[(0, .val 23)], [(0, .val 23)], dec_NormF⟩
theorem dec_Norm_eq : ∀ x, evFn Tryd.prog tb [] [dec_Norm_l1C] Tryd.f27 dec_NormS.ins dec_NormS.outs x = dec_NormS.f x := fun x => by kernel_rfl
theorem dec_Norm_k : fnK Tryd.f27 dec_NormS.ins dec_NormS.outs = true := by kernel_rfl
theorem dec_Norm_in : cutsOf ([dec_Norm_l1C] : List (CutSpec tb)) (bodyOf Tryd.f27) = [(20, .loop (loopAt 20 Tryd.f27))] := by kernel_rfl
theorem dec_Norm_sound : FnSound Tryd.prog tb 27 dec_NormS := fn_cut mixed Tryd.func27 dec_Norm_k .nil rfl dec_Norm_in (.cons rfl dec_Norm_l1_cut rfl .nil) dec_Norm_eq

/-! ### dec_Check -/
def dec_CheckF (x : Dec) : Option (Int) :=
  brn (decide (x.S < 0)) (some 1) (brn (decide (9 < x.S)) (some 1) (brn (decide (0 < x.S)) (brn (decide (x.M.tmod 10 = 0)) (some 1) (some 0)) (some 0)))
def dec_CheckS : FSpec tb := ⟨[(0, .val 23)], [(0, .val 25)], dec_CheckF⟩
theorem dec_Check_eq : ∀ x, evFn Tryd.prog tb [] [] Tryd.f13 dec_CheckS.ins dec_CheckS.outs x = dec_CheckS.f x := fun x => by kernel_rfl
theorem dec_Check_k : fnK Tryd.f13 dec_CheckS.ins dec_CheckS.outs = true := by kernel_rfl
theorem dec_Check_sound : FnSound Tryd.prog tb 13 dec_CheckS := fn_ev mixed Tryd.func13 dec_Check_k .nil rfl dec_Check_eq

/-! ### ref7_CheckDec -/
def ref7_CheckDecF (x : Dec) : Option (Int) :=
  brn (decide (x.S < 0)) (some 1) (brn (decide (9 < x.S)) (some 1) (brn (decide (0 < x.S)) (brn (decide (x.M.tmod 10 = 0)) (some 1) (some 0)) (some 0)))
def ref7_CheckDecS : FSpec tb := ⟨[(0, .val 28)], [(0, .val 3)], ref7_CheckDecF⟩
theorem ref7_CheckDec_eq : ∀ x, evFn Tryd.prog tb [] [] Tryd.f14 ref7_CheckDecS.ins ref7_CheckDecS.outs x = ref7_CheckDecS.f x := fun x => by kernel_rfl
theorem ref7_CheckDec_k : fnK Tryd.f14 ref7_CheckDecS.ins ref7_CheckDecS.outs = true := by kernel_rfl
theorem ref7_CheckDec_sound : FnSound Tryd.prog tb 14 ref7_CheckDecS := fn_ev mixed Tryd.func14 ref7_CheckDec_k .nil rfl ref7_CheckDec_eq

/-! ### cmp_isNaN_rune -/
def cmp_isNaN_runeF (x : Int) : Option (Bool) :=
  some (bif decide (x = x) then false else true)
def cmp_isNaN_runeS : FSpec tb := ⟨[(0, .val 21)], [(0, .val 4)], cmp_isNaN_runeF⟩
theorem cmp_isNaN_rune_eq : ∀ x, evFn Tryd.prog tb [] [] Tryd.f101 cmp_isNaN_runeS.ins cmp_isNaN_runeS.outs x = cmp_isNaN_runeS.f x := fun x => by kernel_rfl
theorem cmp_isNaN_rune_k : fnK Tryd.f101 cmp_isNaN_runeS.ins cmp_isNaN_runeS.outs = true := by kernel_rfl
theorem cmp_isNaN_rune_sound : FnSound Tryd.prog tb 101 cmp_isNaN_runeS := fn_ev mixed Tryd.func101 cmp_isNaN_rune_k .nil rfl cmp_isNaN_rune_eq

/-! ### cmp_Compare_rune -/
def cmp_Compare_runeF (x : Int × Int) : Option (Int) :=
  obnd (cmp_isNaN_runeF x.fst) fun y =>
    obnd (cmp_isNaN_runeF x.snd) fun y_1 =>
      brn y (brn y_1 (some 0) (some (-1))) (brn y_1 (some 1) (brn (decide (x.fst < x.snd)) (some (-1)) (brn (decide (x.snd < x.fst)) (some 1) (some 0))))
def cmp_Compare_runeS : FSpec tb := ⟨[(0, .val 21), (1, .val 21)], [(0, .val 3)], cmp_Compare_runeF⟩
theorem cmp_Compare_rune_eq : ∀ x, evFn Tryd.prog tb [(101, cmp_isNaN_runeS)] [] Tryd.f88 cmp_Compare_runeS.ins cmp_Compare_runeS.outs x = cmp_Compare_runeS.f x := fun x => by kernel_rfl
theorem cmp_Compare_rune_k : fnK Tryd.f88 cmp_Compare_runeS.ins cmp_Compare_runeS.outs = true := by kernel_rfl
theorem cmp_Compare_rune_sound : FnSound Tryd.prog tb 88 cmp_Compare_runeS := fn_ev mixed Tryd.func88 cmp_Compare_rune_k (.cons cmp_isNaN_rune_sound .nil) rfl cmp_Compare_rune_eq
end Go.Proofs.YtmlbknmjgahcfaaDoor
