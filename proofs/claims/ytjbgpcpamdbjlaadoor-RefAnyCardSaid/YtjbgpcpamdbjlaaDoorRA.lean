/- The law on any place, from any cell on. -/
import Derived.Test.YtjbgpcpamdbjlaaDoorRU
namespace Go.Proofs.YtjbgpcpamdbjlaaDoor
open Go Go.Ev


/-! ### any -/
def anyF (x : Ref × Cell × Cell) : Option (Bool) :=
  obnd (some true) fun y =>
    brn (!y) (some false)
      (obnd (checkF x.fst) fun y =>
        obnd (ofF x.fst) fun y_1 =>
          obnd (icheckF y_1) fun y_2 =>
            brn (!decide (y = y_2)) (some false)
              (obnd (goodF x.2.fst) fun y =>
                obnd (ofCellF x.2.fst) fun y_3 =>
                  obnd (igoodF y_3) fun y_4 =>
                    brn (!decide (y = y_4)) (some false)
                      (obnd (atF (x.fst, x.2.fst)) fun y =>
                        obnd (ofCellF y) fun y =>
                          obnd (ofF x.fst) fun y_5 =>
                            obnd (ofCellF x.2.fst) fun y_6 =>
                              obnd (iatF (y_5, y_6)) fun y_7 =>
                                brn (bif true then !(decide (y.Row = y_7.Row) && decide (y.Col = y_7.Col)) else decide (y.Row = y_7.Row) && decide (y.Col = y_7.Col)) (some false)
                                  (obnd (relF (x.2.snd, x.2.fst, x.fst.RelRow, x.fst.RelCol)) fun y =>
                                    obnd (ofF y) fun y =>
                                      obnd (ofCellF x.2.snd) fun y_8 =>
                                        obnd (ofCellF x.2.fst) fun y_9 =>
                                          obnd (irelF (y_8, y_9, x.fst.RelRow, x.fst.RelCol)) fun y_10 =>
                                            brn
                                              (bif true then
                                                !(decide (y.Row = y_10.Row) && (decide (y.Col = y_10.Col) && (decide (y.RelRow = y_10.RelRow) && decide (y.RelCol = y_10.RelCol))))
                                              else decide (y.Row = y_10.Row) && (decide (y.Col = y_10.Col) && (decide (y.RelRow = y_10.RelRow) && decide (y.RelCol = y_10.RelCol))))
                                              (some false)
                                              (obnd (goodF x.2.snd) fun y =>
                                                brn (!y) (some true)
                                                  (obnd (relF (x.2.snd, x.2.fst, x.fst.RelRow, x.fst.RelCol)) fun y =>
                                                    obnd (atF (y, x.2.fst)) fun y =>
                                                      some
                                                        (match decide (y.Row = x.2.snd.Row) with
                                                        | false => false
                                                        | true => decide (y.Col = x.2.snd.Col))))))))
def anyS : FSpec tb := ⟨[(0, .val 23), (1, .val 25), (2, .val 25)], [(0, .val 4)], anyF⟩
theorem any_eq : ∀ x, evFn Tryd.prog tb [(9, knownS), (10, checkS), (11, icheckS), (13, goodS), (14, igoodS), (12, ofS), (15, ofCellS), (16, atS), (17, iatS), (18, relS), (19, irelS)] [] Tryd.f3 anyS.ins anyS.outs x = anyS.f x := fun x => by kernel_rfl
theorem any_k : fnK Tryd.f3 anyS.ins anyS.outs = true := by kernel_rfl
theorem any_sound : FnSound Tryd.prog tb 3 anyS := fn_ev mixed Tryd.func3 any_k (.cons known_sound (.cons check_sound (.cons icheck_sound (.cons good_sound (.cons igood_sound (.cons of_sound (.cons ofCell_sound (.cons at_sound (.cons iat_sound (.cons rel_sound (.cons irel_sound .nil))))))))))) rfl any_eq


theorem any_law (x : Ref × Cell × Cell) : anyF x = some true := by
  obtain ⟨r, b, c⟩ := x
  unfold anyF
  simp only [obnd_some, check_val, icheck_val, good_val, igood_val, ofF, ofCellF, at_val, iat_val, rel_val, irel_val]
  cases hg : goodV c with
  | false => simp
  | true => simp [at_rel c b _ _ hg]
theorem any_true : TellsTrue Tryd.prog tb anyS := fun x _ => ⟨true, any_law x, fun g w us cs v h hr => true_out g w us cs v h hr notAgg4⟩
end Go.Proofs.YtjbgpcpamdbjlaaDoor
