/- The law on rounding: what it computes, and that it does. (by gen.py) -/
import Derived.Test.YtmlbknmjgahcfaaDoorDG
import Derived.Test.YtmlbknmjgahcfaaDoorDH
namespace Go.Proofs.YtmlbknmjgahcfaaDoor
open Go Go.Ev
set_option linter.unusedVariables false

/-! ### law4_DecRounds -/
def law4_DecRoundsF (x : Dec × Int) : Option (Bool) :=
  obnd (law4_knownF ()) fun y =>
    brn (!y) (some false)
      (brn (decide (0 ≤ x.fst.S))
        (brn (decide (x.fst.S ≤ 9))
          (obnd (dec_NormF x.fst) fun y =>
            obnd (law4_OfF y) fun y =>
              obnd (law4_OfF x.fst) fun y_1 =>
                obnd (ref7_NormF y_1) fun y_2 =>
                  brn (bif true then !(decide (y.M = y_2.M) && decide (y.S = y_2.S)) else decide (y.M = y_2.M) && decide (y.S = y_2.S)) (some false)
                    (obnd (law4_goodF (x.fst, x.fst)) fun y =>
                      brn (!y) (some true)
                        (obnd (dec_RoundF x) fun y =>
                          obnd (law4_OfF x.fst) fun y_3 =>
                            obnd (ref7_RoundDecF (y_3, x.snd)) fun y_4 =>
                              obnd (dec_FloorF x.fst) fun y_5 =>
                                obnd (law4_OfF x.fst) fun y_6 =>
                                  obnd (ref7_FloorDecF y_6) fun y_7 =>
                                    brn (decide (y.snd = y_4.snd))
                                      (obnd (law4_OfF y.fst) fun y =>
                                        brn (bif false then !(decide (y.M = y_4.fst.M) && decide (y.S = y_4.fst.S)) else decide (y.M = y_4.fst.M) && decide (y.S = y_4.fst.S))
                                          (brn (decide (y_5.snd = y_7.snd))
                                            (obnd (law4_OfF y_5.fst) fun y =>
                                              some
                                                (match decide (y.M = y_7.fst.M) with
                                                | false => false
                                                | true => decide (y.S = y_7.fst.S)))
                                            (some false))
                                          (some false))
                                      (some false))))
          (obnd (law4_goodF (x.fst, x.fst)) fun y =>
            brn (!y) (some true)
              (obnd (dec_RoundF x) fun y =>
                obnd (law4_OfF x.fst) fun y_1 =>
                  obnd (ref7_RoundDecF (y_1, x.snd)) fun y_2 =>
                    obnd (dec_FloorF x.fst) fun y_3 =>
                      obnd (law4_OfF x.fst) fun y_4 =>
                        obnd (ref7_FloorDecF y_4) fun y_5 =>
                          brn (decide (y.snd = y_2.snd))
                            (obnd (law4_OfF y.fst) fun y =>
                              brn (bif false then !(decide (y.M = y_2.fst.M) && decide (y.S = y_2.fst.S)) else decide (y.M = y_2.fst.M) && decide (y.S = y_2.fst.S))
                                (brn (decide (y_3.snd = y_5.snd))
                                  (obnd (law4_OfF y_3.fst) fun y =>
                                    some
                                      (match decide (y.M = y_5.fst.M) with
                                      | false => false
                                      | true => decide (y.S = y_5.fst.S)))
                                  (some false))
                                (some false))
                            (some false))))
        (obnd (law4_goodF (x.fst, x.fst)) fun y =>
          brn (!y) (some true)
            (obnd (dec_RoundF x) fun y =>
              obnd (law4_OfF x.fst) fun y_1 =>
                obnd (ref7_RoundDecF (y_1, x.snd)) fun y_2 =>
                  obnd (dec_FloorF x.fst) fun y_3 =>
                    obnd (law4_OfF x.fst) fun y_4 =>
                      obnd (ref7_FloorDecF y_4) fun y_5 =>
                        brn (decide (y.snd = y_2.snd))
                          (obnd (law4_OfF y.fst) fun y =>
                            brn (bif false then !(decide (y.M = y_2.fst.M) && decide (y.S = y_2.fst.S)) else decide (y.M = y_2.fst.M) && decide (y.S = y_2.fst.S))
                              (brn (decide (y_3.snd = y_5.snd))
                                (obnd (law4_OfF y_3.fst) fun y =>
                                  some
                                    (match decide (y.M = y_5.fst.M) with
                                    | false => false
                                    | true => decide (y.S = y_5.fst.S)))
                                (some false))
                              (some false))
                          (some false))))
def law4_DecRoundsS : FSpec tb := ⟨[(0, .val 23), (1, .val 3)], [(0, .val 4)], law4_DecRoundsF⟩
theorem law4_DecRounds_eq : ∀ x, evFn Tryd.prog tb [(12, law4_knownS), (27, dec_NormS), (15, law4_OfS), (28, ref7_NormS), (16, law4_goodS), (29, dec_RoundS), (30, ref7_RoundDecS), (31, dec_FloorS), (32, ref7_FloorDecS)] [] Tryd.f4 law4_DecRoundsS.ins law4_DecRoundsS.outs x = law4_DecRoundsS.f x := fun x => by kernel_rfl
theorem law4_DecRounds_k : fnK Tryd.f4 law4_DecRoundsS.ins law4_DecRoundsS.outs = true := by kernel_rfl
theorem law4_DecRounds_sound : FnSound Tryd.prog tb 4 law4_DecRoundsS := fn_ev mixed Tryd.func4 law4_DecRounds_k (.cons law4_known_sound (.cons dec_Norm_sound (.cons law4_Of_sound (.cons ref7_Norm_sound (.cons law4_good_sound (.cons dec_Round_sound (.cons ref7_RoundDec_sound (.cons dec_Floor_sound (.cons ref7_FloorDec_sound .nil))))))))) rfl law4_DecRounds_eq
end Go.Proofs.YtmlbknmjgahcfaaDoor
