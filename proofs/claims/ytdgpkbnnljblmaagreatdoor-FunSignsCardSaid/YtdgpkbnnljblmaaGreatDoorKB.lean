/- KB -/
import Derived.Test.YtdgpkbnnljblmaaGreatDoorV2
namespace Go.Proofs.YtdgpkbnnljblmaaGreatDoor
open Go Go.Ev
set_option linter.unusedVariables false
def law11_FunSignsF (x : Int × Val × Val) : Option (Bool) :=
  obnd (law11_knownF ()) fun y =>
    brn (!y) (some false)
      (brn (decide (3000 < (↑x.2.fst.S.length : Int))) (some true)
        (brn (decide (3000 < (↑x.2.snd.S.length : Int))) (some true)
          (obnd (val_CheckF x.2.fst) fun y =>
            brn (!decide (y = 0)) (some true)
              (obnd (val_CheckF x.2.snd) fun y =>
                brn (!decide (y = 0)) (some true)
                  (obnd (law9_OfF x.2.fst) fun y =>
                    obnd (law9_OfF x.2.snd) fun y_1 =>
                      obnd (fun_BinaryF (x.fst, x.2)) fun y_2 =>
                        obnd (law9_OfF y_2) fun y_3 =>
                          obnd (ref13_BinaryF (x.fst, y, y_1)) fun y_4 =>
                            brn
                              (bif false then
                                !(decide (y_3.Kind = y_4.Kind) &&
                                    (decide (y_3.N.M = y_4.N.M) && (decide (y_3.N.S = y_4.N.S) && (decide (y_3.S = y_4.S) && (decide (y_3.B = y_4.B) && decide (y_3.E = y_4.E))))))
                              else
                                decide (y_3.Kind = y_4.Kind) &&
                                  (decide (y_3.N.M = y_4.N.M) && (decide (y_3.N.S = y_4.N.S) && (decide (y_3.S = y_4.S) && (decide (y_3.B = y_4.B) && decide (y_3.E = y_4.E))))))
                              (obnd (fun_UnaryF (x.fst, x.2.fst)) fun y_5 =>
                                obnd (law9_OfF y_5) fun y_6 =>
                                  obnd (ref13_UnaryF (x.fst, y)) fun y =>
                                    some
                                      (match decide (y_6.Kind = y.Kind) with
                                      | false => false
                                      | true => decide (y_6.N.M = y.N.M) && (decide (y_6.N.S = y.N.S) && (decide (y_6.S = y.S) && (decide (y_6.B = y.B) && decide (y_6.E = y.E))))))
                              (some false))))))
def law11_FunSignsS : FSpec tb := ⟨[(0, .val 3), (1, .val 32), (2, .val 32)], [(0, .val 4)], law11_FunSignsF⟩
theorem law11_FunSigns_eq : ∀ x, evFn Tryz.prog tb [(16, law11_knownS), (38, val_CheckS), (18, law9_OfS), (30, fun_BinaryS), (39, ref13_BinaryS), (40, fun_UnaryS), (41, ref13_UnaryS)] [] Tryz.f8 law11_FunSignsS.ins law11_FunSignsS.outs x = law11_FunSignsS.f x := fun x => by kernel_rfl
theorem law11_FunSigns_k : fnK Tryz.f8 law11_FunSignsS.ins law11_FunSignsS.outs = true := by kernel_rfl
theorem law11_FunSigns_sound : FnSound Tryz.prog tb 8 law11_FunSignsS := fn_ev mixed Tryz.func8 law11_FunSigns_k (.cons law11_known_sound (.cons val_Check_sound (.cons law9_Of_sound (.cons fun_Binary_sound (.cons ref13_Binary_sound (.cons fun_Unary_sound (.cons ref13_Unary_sound .nil))))))) rfl law11_FunSigns_eq
end Go.Proofs.YtdgpkbnnljblmaaGreatDoor
