/- KG -/
import Derived.Test.YtdgpkbnnljblmaaGreatDoorV2
namespace Go.Proofs.YtdgpkbnnljblmaaGreatDoor
open Go Go.Ev
set_option linter.unusedVariables false
def law11_FunPiecesF (x : List UInt8 × UInt8 × UInt8) : Option (Bool) :=
  obnd (law11_knownF ()) fun y =>
    brn (!y) (some false)
      (obnd (ref7_RunesF x.fst) fun y =>
        brn (!y.snd) (some true)
          (brn (decide (300 < (↑(List.length y.fst) : Int))) (some true)
            (brn (decide (IntKind.i64.wrap ((↑(List.length y.fst) : Int) + 1) = 0)) none
              (obnd (law9_SF x.fst) fun y_1 =>
                obnd (fun_OneF y_1) fun y_2 =>
                  obnd (law9_NF ((IntKind.i64.wrap (↑x.2.fst.toNat : Int)).tmod (IntKind.i64.wrap ((↑(List.length y.fst) : Int) + 1)))) fun y_3 =>
                    obnd (fun_OneF y_3) fun y_4 =>
                      obnd (fun_ApplyF (15, [y_2, y_4])) fun y_5 =>
                        obnd (law9_SF x.fst) fun y_6 =>
                          obnd (fun_OneF y_6) fun y_7 =>
                            obnd
                              (law9_NF
                                (IntKind.i64.wrap
                                  ((↑(List.length y.fst) : Int) - (IntKind.i64.wrap (↑x.2.fst.toNat : Int)).tmod (IntKind.i64.wrap ((↑(List.length y.fst) : Int) + 1)))))
                              fun y_8 =>
                              obnd (fun_OneF y_8) fun y_9 =>
                                obnd (fun_ApplyF (16, [y_7, y_9])) fun y_10 =>
                                  obnd (law9_SF x.fst) fun y_11 =>
                                    obnd (fun_OneF y_11) fun y_12 =>
                                      obnd (law9_NF (IntKind.i64.wrap ((IntKind.i64.wrap (↑x.2.fst.toNat : Int)).tmod (IntKind.i64.wrap ((↑(List.length y.fst) : Int) + 1)) + 1)))
                                        fun y =>
                                        obnd (fun_OneF y) fun y =>
                                          obnd (law9_NF (IntKind.i64.wrap (↑x.2.snd.toNat : Int))) fun y_13 =>
                                            obnd (fun_OneF y_13) fun y_14 =>
                                              obnd (fun_ApplyF (17, [y_12, y, y_14])) fun y =>
                                                obnd (fun_OneF y_10) fun y_15 =>
                                                  obnd (law9_NF (IntKind.i64.wrap (↑x.2.snd.toNat : Int))) fun y_16 =>
                                                    obnd (fun_OneF y_16) fun y_17 =>
                                                      obnd (fun_ApplyF (15, [y_15, y_17])) fun y_18 =>
                                                        obnd (fun_OneF y_5) fun y_19 =>
                                                          obnd (fun_OneF y_10) fun y_20 =>
                                                            obnd (fun_ApplyF (18, [y_19, y_20])) fun y_21 =>
                                                              brn (decide (y_5.Kind = 2))
                                                                (brn (decide (y_10.Kind = 2))
                                                                  (obnd (cat y_5.S y_10.S) fun z =>
                                                                    brn (decide (z = x.fst))
                                                                      (obnd (law9_SF x.fst) fun y_22 =>
                                                                        brn
                                                                          (bif false then
                                                                            !(decide (y_21.Kind = y_22.Kind) &&
                                                                                (decide (y_21.N.M = y_22.N.M) &&
                                                                                  (decide (y_21.N.S = y_22.N.S) &&
                                                                                    (decide (y_21.S = y_22.S) && (decide (y_21.B = y_22.B) && decide (y_21.E = y_22.E))))))
                                                                          else
                                                                            decide (y_21.Kind = y_22.Kind) &&
                                                                              (decide (y_21.N.M = y_22.N.M) &&
                                                                                (decide (y_21.N.S = y_22.N.S) &&
                                                                                  (decide (y_21.S = y_22.S) && (decide (y_21.B = y_22.B) && decide (y_21.E = y_22.E))))))
                                                                          (brn
                                                                            (bif false then
                                                                              !(decide (y.Kind = y_18.Kind) &&
                                                                                  (decide (y.N.M = y_18.N.M) &&
                                                                                    (decide (y.N.S = y_18.N.S) &&
                                                                                      (decide (y.S = y_18.S) && (decide (y.B = y_18.B) && decide (y.E = y_18.E))))))
                                                                            else
                                                                              decide (y.Kind = y_18.Kind) &&
                                                                                (decide (y.N.M = y_18.N.M) &&
                                                                                  (decide (y.N.S = y_18.N.S) &&
                                                                                    (decide (y.S = y_18.S) && (decide (y.B = y_18.B) && decide (y.E = y_18.E))))))
                                                                            (obnd (fun_BinaryF (6, y_5, y_10)) fun y =>
                                                                              obnd (law9_SF x.fst) fun y_23 =>
                                                                                some
                                                                                  (match decide (y.Kind = y_23.Kind) with
                                                                                  | false => false
                                                                                  | true =>
                                                                                    decide (y.N.M = y_23.N.M) &&
                                                                                      (decide (y.N.S = y_23.N.S) &&
                                                                                        (decide (y.S = y_23.S) && (decide (y.B = y_23.B) && decide (y.E = y_23.E))))))
                                                                            (some false))
                                                                          (some false))
                                                                      (some false))
                                                                  (some false))
                                                                (some false)))))
def law11_FunPiecesS : FSpec tb := ⟨[(0, .val 9), (1, .val 5), (2, .val 5)], [(0, .val 4)], law11_FunPiecesF⟩
theorem law11_FunPieces_eq : ∀ x, evFn Tryz.prog tb [(16, law11_knownS), (28, ref7_RunesS), (29, law9_SS), (25, fun_OneS), (26, law9_NS), (19, fun_ApplyS), (30, fun_BinaryS)] [] Tryz.f6 law11_FunPiecesS.ins law11_FunPiecesS.outs x = law11_FunPiecesS.f x := fun x => by kernel_rfl
theorem law11_FunPieces_k : fnK Tryz.f6 law11_FunPiecesS.ins law11_FunPiecesS.outs = true := by kernel_rfl
theorem law11_FunPieces_sound : FnSound Tryz.prog tb 6 law11_FunPiecesS := fn_ev mixed Tryz.func6 law11_FunPieces_k (.cons law11_known_sound (.cons ref7_Runes_sound (.cons law9_S_sound (.cons fun_One_sound (.cons law9_N_sound (.cons fun_Apply_sound (.cons fun_Binary_sound .nil))))))) rfl law11_FunPieces_eq
end Go.Proofs.YtdgpkbnnljblmaaGreatDoor
