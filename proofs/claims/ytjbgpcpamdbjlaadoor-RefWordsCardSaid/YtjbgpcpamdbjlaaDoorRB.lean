/- The other laws: what each computes, and that it does. -/
import Derived.Test.YtjbgpcpamdbjlaaDoorRU
import Derived.Test.YtjbgpcpamdbjlaaDoorEvF
namespace Go.Proofs.YtjbgpcpamdbjlaaDoor
open Go Go.Ev

/-! ### round -/
def roundF (x : Ref × Cell × Int × UInt8) : Option (Bool) :=
  obnd (some true) fun y =>
    brn (!y) (some false)
      (obnd (goodF x.2.fst) fun y =>
        brn (!y) (some true)
          (obnd (checkF x.fst) fun y =>
            brn (!decide (y = 0)) (some true)
              (obnd (atF (x.fst, x.2.fst)) fun y =>
                obnd
                  (atF
                    (x.fst,
                      { Row := (IntKind.i64.wrap (x.2.fst.Row + IntKind.i64.wrap x.2.2.fst)).tmod 65536,
                        Col := (IntKind.i64.wrap (x.2.fst.Col + IntKind.i64.wrap (↑x.2.2.snd.toNat : Int))).tmod 256 }))
                  fun y_1 =>
                  brn x.fst.RelRow
                    (brn x.fst.RelCol
                      (brn
                        (bif false then
                          !(decide (y_1.Row = (IntKind.i64.wrap (y.Row + IntKind.i64.wrap x.2.2.fst)).tmod 65536) &&
                              decide (y_1.Col = (IntKind.i64.wrap (y.Col + IntKind.i64.wrap (↑x.2.2.snd.toNat : Int))).tmod 256))
                        else
                          decide (y_1.Row = (IntKind.i64.wrap (y.Row + IntKind.i64.wrap x.2.2.fst)).tmod 65536) &&
                            decide (y_1.Col = (IntKind.i64.wrap (y.Col + IntKind.i64.wrap (↑x.2.2.snd.toNat : Int))).tmod 256))
                        (obnd (goodF y_1) fun y => some y) (some false))
                      (brn
                        (bif false then !(decide (y_1.Row = (IntKind.i64.wrap (y.Row + IntKind.i64.wrap x.2.2.fst)).tmod 65536) && decide (y_1.Col = y.Col))
                        else decide (y_1.Row = (IntKind.i64.wrap (y.Row + IntKind.i64.wrap x.2.2.fst)).tmod 65536) && decide (y_1.Col = y.Col))
                        (obnd (goodF y_1) fun y => some y) (some false)))
                    (brn x.fst.RelCol
                      (brn
                        (bif false then !(decide (y_1.Row = y.Row) && decide (y_1.Col = (IntKind.i64.wrap (y.Col + IntKind.i64.wrap (↑x.2.2.snd.toNat : Int))).tmod 256))
                        else decide (y_1.Row = y.Row) && decide (y_1.Col = (IntKind.i64.wrap (y.Col + IntKind.i64.wrap (↑x.2.2.snd.toNat : Int))).tmod 256))
                        (obnd (goodF y_1) fun y => some y) (some false))
                      (brn (bif false then !(decide (y_1.Row = y.Row) && decide (y_1.Col = y.Col)) else decide (y_1.Row = y.Row) && decide (y_1.Col = y.Col))
                        (obnd (goodF y_1) fun y => some y) (some false))))))
def roundS : FSpec tb := ⟨[(0, .val 23), (1, .val 25), (2, .val 64), (3, .val 5)], [(0, .val 4)], roundF⟩
theorem round_eq : ∀ x, evFn Tryd.prog tb [(9, knownS), (13, goodS), (10, checkS), (16, atS)] [] Tryd.f6 roundS.ins roundS.outs x = roundS.f x := fun x => by kernel_rfl
theorem round_k : fnK Tryd.f6 roundS.ins roundS.outs = true := by kernel_rfl
theorem round_sound : FnSound Tryd.prog tb 6 roundS := fn_ev mixed Tryd.func6 round_k (.cons known_sound (.cons good_sound (.cons check_sound (.cons at_sound .nil)))) rfl round_eq

/-! ### names -/
def namesF (x : Cell × Cell) : Option (Bool) :=
  obnd (some true) fun y =>
    brn (!y) (some false)
      (obnd (goodF x.fst) fun y =>
        brn (!y) (some true)
          (obnd (goodF x.snd) fun y =>
            brn (!y) (some true)
              (obnd (textF x.fst) fun y =>
                obnd (textF x.snd) fun y_1 =>
                  brn
                    (!decide
                        (decide (y = y_1) =
                          bif false then !(decide (x.fst.Row = x.snd.Row) && decide (x.fst.Col = x.snd.Col)) else decide (x.fst.Row = x.snd.Row) && decide (x.fst.Col = x.snd.Col)))
                    (some false) (obnd (lettersF y) fun y => obnd (lettersF y_1) fun y_2 => brn (decide (y_2 ≤ y)) (some true) (some (decide (x.fst.Col < x.snd.Col)))))))
def namesS : FSpec tb := ⟨[(0, .val 25), (1, .val 25)], [(0, .val 4)], namesF⟩
theorem names_eq : ∀ x, evFn Tryd.prog tb [(9, knownS), (13, goodS), (29, textS), (31, lettersS)] [] Tryd.f8 namesS.ins namesS.outs x = namesS.f x := fun x => by kernel_rfl
theorem names_k : fnK Tryd.f8 namesS.ins namesS.outs = true := by kernel_rfl
theorem names_sound : FnSound Tryd.prog tb 8 namesS := fn_ev mixed Tryd.func8 names_k (.cons known_sound (.cons good_sound (.cons text_sound (.cons letters_sound .nil)))) rfl names_eq

/-! ### words -/
def wordsF (x : Cell × List UInt8) : Option (Bool) :=
  obnd (some true) fun y =>
    brn (!y) (some false)
      (brn (decide (100 < (↑x.snd.length : Int))) (some true)
        (obnd (parseF x.snd) fun y =>
          obnd (iparseF x.snd) fun y_1 =>
            brn (!decide (y.snd = y_1.snd)) (some false)
              (obnd (ofCellF y.fst) fun y_2 =>
                brn (bif true then !(decide (y_2.Row = y_1.fst.Row) && decide (y_2.Col = y_1.fst.Col)) else decide (y_2.Row = y_1.fst.Row) && decide (y_2.Col = y_1.fst.Col))
                  (some false)
                  (brn (decide (y_1.snd = 0))
                    (obnd (textF y.fst) fun y =>
                      brn (!decide (y = x.snd)) (some false)
                        (obnd (goodF x.fst) fun y =>
                          brn (!y) (some true)
                            (obnd (textF x.fst) fun y =>
                              obnd (parseF y) fun y =>
                                obnd (textF x.fst) fun y_3 =>
                                  obnd (ofCellF x.fst) fun y_4 =>
                                    obnd (itextF y_4) fun y_5 =>
                                      brn (decide (y_3 = y_5))
                                        (brn (decide (y.snd = 0))
                                          (some
                                            (match decide (y.fst.Row = x.fst.Row) with
                                            | false => false
                                            | true => decide (y.fst.Col = x.fst.Col)))
                                          (some false))
                                        (some false))))
                    (obnd (goodF x.fst) fun y =>
                      brn (!y) (some true)
                        (obnd (textF x.fst) fun y =>
                          obnd (parseF y) fun y =>
                            obnd (textF x.fst) fun y_3 =>
                              obnd (ofCellF x.fst) fun y_4 =>
                                obnd (itextF y_4) fun y_5 =>
                                  brn (decide (y_3 = y_5))
                                    (brn (decide (y.snd = 0))
                                      (some
                                        (match decide (y.fst.Row = x.fst.Row) with
                                        | false => false
                                        | true => decide (y.fst.Col = x.fst.Col)))
                                      (some false))
                                    (some false)))))))
def wordsS : FSpec tb := ⟨[(0, .val 25), (1, .val 9)], [(0, .val 4)], wordsF⟩
theorem words_eq : ∀ x, evFn Tryd.prog tb [(9, knownS), (27, parseS), (28, iparseS), (15, ofCellS), (29, textS), (13, goodS), (30, itextS)] [] Tryd.f5 wordsS.ins wordsS.outs x = wordsS.f x := fun x => by kernel_rfl
theorem words_k : fnK Tryd.f5 wordsS.ins wordsS.outs = true := by kernel_rfl
theorem words_sound : FnSound Tryd.prog tb 5 wordsS := fn_ev mixed Tryd.func5 words_k (.cons known_sound (.cons parse_sound (.cons iparse_sound (.cons ofCell_sound (.cons text_sound (.cons good_sound (.cons itext_sound .nil))))))) rfl words_eq

/-! ### areas -/
def areasLF (back : List Cell × List Cell × Int → Option ((Unit) ⊕ (Bool))) (x : List Cell × List Cell × Int) : Option ((Unit) ⊕ (Bool)) :=
  brn (decide (x.2.snd < (↑x.fst.length : Int)))
    (obnd (idx x.fst x.2.snd) fun y =>
      obnd (ofCellF y) fun y =>
        obnd (idx x.2.fst x.2.snd) fun y_1 =>
          brn (bif true then !(decide (y.Row = y_1.Row) && decide (y.Col = y_1.Col)) else decide (y.Row = y_1.Row) && decide (y.Col = y_1.Col)) (some (Sum.inr false))
            (back (x.fst, x.2.fst, IntKind.i64.wrap (x.2.snd + 1))))
    (some (Sum.inl PUnit.unit))
def areasLJ : List Cell × List Cell × Int → Option ((Unit) ⊕ (Bool)) := iter areasLF big
def areasLC : CutSpec tb := ⟨100, [(9, .val 52), (10, .val 54), (11, .val 3)], [((.exit 0), []), (.ret, [(4, .val 4)])], [59, 60, 61, 62, 65, 66, 67, 68, 69, 70, 71, 72, 73, 74, 4, 63, 64, 11], areasLJ⟩
theorem areasL_eq : ∀ back x, evLoop Tryd.prog tb [(9, knownS), (20, boundsS), (22, ofAreaS), (15, ofCellS), (21, iboundsS), (23, checkAS), (24, icheckAS), (25, cellsS), (26, icellsS)] [] (loopAt 100 Tryd.f4) areasLC.ins areasLC.outs back x = areasLF back x := fun back x => by kernel_rfl
theorem areasL_k : cutB Tryd.f4.ntmps areasLC (loopAt 100 Tryd.f4) = true := by kernel_rfl
theorem areasL_in : cutsOf ([] : List (CutSpec tb)) (loopAt 100 Tryd.f4) = [] := by kernel_rfl
theorem areasL_cut : CutSound Tryd.prog tb Tryd.f4.ntmps (.loop (loopAt 100 Tryd.f4)) areasLC := loop_it mixed areasL_k (.cons known_sound (.cons bounds_sound (.cons ofArea_sound (.cons ofCell_sound (.cons ibounds_sound (.cons checkA_sound (.cons icheckA_sound (.cons cells_sound (.cons icells_sound .nil))))))))) rfl areasL_in .nil areasLF areasL_eq rfl
def areasF (x : Area × Cell) : Option (Bool) :=
  obnd (some true) fun y =>
    brn (!y) (some false)
      (obnd (boundsF x) fun y =>
        obnd (ofAreaF x.fst) fun y_1 =>
          obnd (ofCellF x.snd) fun y_2 =>
            obnd (iboundsF (y_1, y_2)) fun y_3 =>
              obnd (ofCellF y.fst) fun y_4 =>
                brn (bif true then !(decide (y_4.Row = y_3.fst.Row) && decide (y_4.Col = y_3.fst.Col)) else decide (y_4.Row = y_3.fst.Row) && decide (y_4.Col = y_3.fst.Col))
                  (some false)
                  (obnd (ofCellF y.snd) fun y =>
                    brn (bif true then !(decide (y.Row = y_3.snd.Row) && decide (y.Col = y_3.snd.Col)) else decide (y.Row = y_3.snd.Row) && decide (y.Col = y_3.snd.Col)) (some false)
                      (obnd (checkAF x.fst) fun y =>
                        obnd (ofAreaF x.fst) fun y_5 =>
                          obnd (icheckAF y_5) fun y_6 =>
                            brn (!decide (y = y_6)) (some false)
                              (obnd (cellsF x) fun y =>
                                obnd (ofAreaF x.fst) fun y_7 =>
                                  obnd (ofCellF x.snd) fun y_8 =>
                                    obnd (icellsF (y_7, y_8)) fun y_9 =>
                                      brn (!decide ((↑(List.length y) : Int) = (↑(List.length y_9) : Int))) (some false)
                                        (obnd (areasLJ (y, y_9, 0)) fun y => osum y (fun y => some true) fun y => some y)))))
def areasS : FSpec tb := ⟨[(0, .val 42), (1, .val 25)], [(0, .val 4)], areasF⟩
theorem areas_eq : ∀ x, evFn Tryd.prog tb [(9, knownS), (20, boundsS), (22, ofAreaS), (15, ofCellS), (21, iboundsS), (23, checkAS), (24, icheckAS), (25, cellsS), (26, icellsS)] [areasLC] Tryd.f4 areasS.ins areasS.outs x = areasS.f x := fun x => by kernel_rfl
theorem areas_k : fnK Tryd.f4 areasS.ins areasS.outs = true := by kernel_rfl
theorem areas_in : cutsOf ([areasLC] : List (CutSpec tb)) (bodyOf Tryd.f4) = [(100, .loop (loopAt 100 Tryd.f4))] := by kernel_rfl
theorem areas_sound : FnSound Tryd.prog tb 4 areasS := fn_cut mixed Tryd.func4 areas_k (.cons known_sound (.cons bounds_sound (.cons ofArea_sound (.cons ofCell_sound (.cons ibounds_sound (.cons checkA_sound (.cons icheckA_sound (.cons cells_sound (.cons icells_sound .nil))))))))) rfl areas_in (.cons rfl areasL_cut rfl .nil) areas_eq

/-! ### cellsQ -/
def cellsQLF (back : Cell × List Cell × Int × Int × Int → Option ((Unit) ⊕ (Bool))) (x : Cell × List Cell × Int × Int × Int) : Option ((Unit) ⊕ (Bool)) :=
  brn (decide (x.2.2.2.snd < x.2.2.fst))
    (obnd (idx x.2.fst x.2.2.2.snd) fun y =>
      brn (decide (x.2.2.2.fst = 0)) none
        (brn (!decide (y.Row = IntKind.i64.wrap (x.fst.Row + IntKind.i64.wrap (x.2.2.2.snd.tdiv x.2.2.2.fst)))) (some (Sum.inr false))
          (obnd (idx x.2.fst x.2.2.2.snd) fun y =>
            brn (decide (x.2.2.2.fst = 0)) none
              (brn (!decide (y.Col = IntKind.i64.wrap (x.fst.Col + x.2.2.2.snd.tmod x.2.2.2.fst))) (some (Sum.inr false))
                (back (x.fst, x.2.fst, x.2.2.fst, x.2.2.2.fst, IntKind.i64.wrap (x.2.2.2.snd + 1)))))))
    (some (Sum.inl PUnit.unit))
def cellsQLJ : Cell × List Cell × Int × Int × Int → Option ((Unit) ⊕ (Bool)) := iter cellsQLF big
def cellsQLC : CutSpec tb := ⟨148, [(7, .ro 25), (11, .val 52), (12, .val 3), (13, .val 3), (14, .val 3)], [((.exit 0), []), (.ret, [(6, .val 4)])], [101, 102, 103, 106, 107, 108, 109, 110, 111, 112, 113, 114, 115, 116, 117, 118, 119, 120, 121, 122, 123, 124, 125, 126, 127, 128, 129, 130, 131, 6, 104, 105, 14], cellsQLJ⟩
theorem cellsQL_eq : ∀ back x, evLoop Tryd.prog tb [(9, knownS), (10, checkS), (13, goodS), (20, boundsS), (25, cellsS)] [] (loopAt 148 Tryd.f7) cellsQLC.ins cellsQLC.outs back x = cellsQLF back x := fun back x => by kernel_rfl
theorem cellsQL_k : cutB Tryd.f7.ntmps cellsQLC (loopAt 148 Tryd.f7) = true := by kernel_rfl
theorem cellsQL_in : cutsOf ([] : List (CutSpec tb)) (loopAt 148 Tryd.f7) = [] := by kernel_rfl
theorem cellsQL_cut : CutSound Tryd.prog tb Tryd.f7.ntmps (.loop (loopAt 148 Tryd.f7)) cellsQLC := loop_it mixed cellsQL_k (.cons known_sound (.cons check_sound (.cons good_sound (.cons bounds_sound (.cons cells_sound .nil))))) rfl cellsQL_in .nil cellsQLF cellsQL_eq rfl
def cellsQF (x : Ref × Ref × Cell) : Option (Bool) :=
  obnd (some true) fun y =>
    brn (!y) (some false)
      (obnd (checkF x.fst) fun y =>
        brn (!decide (y = 0)) (some true)
          (obnd (checkF x.2.fst) fun y =>
            brn (!decide (y = 0)) (some true)
              (obnd (goodF x.2.snd) fun y =>
                brn (!y) (some true)
                  (obnd (boundsF ({ A := x.fst, B := x.2.fst }, x.2.snd)) fun y =>
                    obnd (boundsF ({ A := x.2.fst, B := x.fst }, x.2.snd)) fun y_1 =>
                      obnd (cellsF ({ A := x.fst, B := x.2.fst }, x.2.snd)) fun y_2 =>
                        brn
                          (bif true then !(decide (y.fst.Row = y_1.fst.Row) && decide (y.fst.Col = y_1.fst.Col))
                          else decide (y.fst.Row = y_1.fst.Row) && decide (y.fst.Col = y_1.fst.Col))
                          (some false)
                          (brn
                            (bif true then !(decide (y.snd.Row = y_1.snd.Row) && decide (y.snd.Col = y_1.snd.Col))
                            else decide (y.snd.Row = y_1.snd.Row) && decide (y.snd.Col = y_1.snd.Col))
                            (some false)
                            (brn (decide (y.snd.Row < y.fst.Row)) (some false)
                              (brn (decide (y.snd.Col < y.fst.Col)) (some false)
                                (brn
                                  (decide
                                    (4096 <
                                      IntKind.i64.wrap
                                        (IntKind.i64.wrap (IntKind.i64.wrap (y.snd.Row - y.fst.Row) + 1) * IntKind.i64.wrap (IntKind.i64.wrap (y.snd.Col - y.fst.Col) + 1))))
                                  (some (decide ((↑(List.length y_2) : Int) = 0)))
                                  (brn
                                    (!decide
                                        ((↑(List.length y_2) : Int) =
                                          IntKind.i64.wrap
                                            (IntKind.i64.wrap (IntKind.i64.wrap (y.snd.Row - y.fst.Row) + 1) * IntKind.i64.wrap (IntKind.i64.wrap (y.snd.Col - y.fst.Col) + 1))))
                                    (some false)
                                    (obnd
                                      (cellsQLJ
                                        (y.fst, y_2,
                                          IntKind.i64.wrap
                                            (IntKind.i64.wrap (IntKind.i64.wrap (y.snd.Row - y.fst.Row) + 1) * IntKind.i64.wrap (IntKind.i64.wrap (y.snd.Col - y.fst.Col) + 1)),
                                          IntKind.i64.wrap (IntKind.i64.wrap (y.snd.Col - y.fst.Col) + 1), 0))
                                      fun y => osum y (fun y => some true) fun y => some y))))))))))
def cellsQS : FSpec tb := ⟨[(0, .val 23), (1, .val 23), (2, .val 25)], [(0, .val 4)], cellsQF⟩
theorem cellsQ_eq : ∀ x, evFn Tryd.prog tb [(9, knownS), (10, checkS), (13, goodS), (20, boundsS), (25, cellsS)] [cellsQLC] Tryd.f7 cellsQS.ins cellsQS.outs x = cellsQS.f x := fun x => by kernel_rfl
theorem cellsQ_k : fnK Tryd.f7 cellsQS.ins cellsQS.outs = true := by kernel_rfl
theorem cellsQ_in : cutsOf ([cellsQLC] : List (CutSpec tb)) (bodyOf Tryd.f7) = [(148, .loop (loopAt 148 Tryd.f7))] := by kernel_rfl
theorem cellsQ_sound : FnSound Tryd.prog tb 7 cellsQS := fn_cut mixed Tryd.func7 cellsQ_k (.cons known_sound (.cons check_sound (.cons good_sound (.cons bounds_sound (.cons cells_sound .nil))))) rfl cellsQ_in (.cons rfl cellsQL_cut rfl .nil) cellsQ_eq
end Go.Proofs.YtjbgpcpamdbjlaaDoor
