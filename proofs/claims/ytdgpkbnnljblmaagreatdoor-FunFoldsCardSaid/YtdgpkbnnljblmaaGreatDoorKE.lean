/- KE -/
import Derived.Test.YtdgpkbnnljblmaaGreatDoorV2
namespace Go.Proofs.YtdgpkbnnljblmaaGreatDoor
open Go Go.Ev
set_option linter.unusedVariables false
abbrev law11_FunFoldsG : List (Nat × FSpec tb) := [(16, law11_knownS), (26, law9_NS), (25, fun_OneS), (19, fun_ApplyS), (27, val_CompareS)]
theorem law11_FunFoldsG_ok : AllSound Tryz.prog tb law11_FunFoldsG := (.cons law11_known_sound (.cons law9_N_sound (.cons fun_One_sound (.cons fun_Apply_sound (.cons val_Compare_sound .nil)))))
def law11_FunFolds_l1F (back : List Int × List (Arg) × List (Arg) × Int × Int × Int × Int → Option (List (Arg) × List (Arg) × Int × Int × Int)) (x : List Int × List (Arg) × List (Arg) × Int × Int × Int × Int) : Option (List (Arg) × List (Arg) × Int × Int × Int) :=
  brn (decide (x.2.2.2.2.2.snd < (↑x.fst.length : Int)))
    (obnd (idx x.fst x.2.2.2.2.2.snd) fun y =>
      obnd (law9_NF (IntKind.i64.wrap y)) fun y =>
        obnd (fun_OneF y) fun y =>
          obnd (app 32 x.2.fst [y]) fun zs =>
            obnd (idx x.fst (IntKind.i64.wrap (IntKind.i64.wrap ((↑x.fst.length : Int) - 1) - x.2.2.2.2.2.snd))) fun y =>
              obnd (law9_NF (IntKind.i64.wrap y)) fun y =>
                obnd (fun_OneF y) fun y =>
                  obnd (app 32 x.2.2.fst [y]) fun zs_1 =>
                    obnd (idx x.fst x.2.2.2.2.2.snd) fun y =>
                      obnd (idx x.fst x.2.2.2.2.2.snd) fun y_1 =>
                        obnd (idx x.fst x.2.2.2.2.2.snd) fun y_2 =>
                          back
                            (x.fst, zs, zs_1, IntKind.i64.wrap (x.2.2.2.fst + IntKind.i64.wrap y),
                              bif decide (IntKind.i64.wrap y_1 < x.2.2.2.2.fst) then IntKind.i64.wrap y_1 else x.2.2.2.2.fst,
                              bif decide (x.2.2.2.2.2.fst < IntKind.i64.wrap y_2) then IntKind.i64.wrap y_2 else x.2.2.2.2.2.fst, IntKind.i64.wrap (x.2.2.2.2.2.snd + 1)))
    (some (x.2.fst, x.2.2.fst, x.2.2.2.fst, x.2.2.2.2.fst, x.2.2.2.2.2.fst))
def law11_FunFolds_l1J : List Int × List (Arg) × List (Arg) × Int × Int × Int × Int → Option (List (Arg) × List (Arg) × Int × Int × Int) := iter law11_FunFolds_l1F big
def law11_FunFolds_l1C : CutSpec tb := ⟨76, [(0, .val 45), (3, .own 48), (4, .own 48), (5, .val 2), (6, .val 2), (7, .val 2), (8, .val 3)], [((.exit 0), [(3, .own 48), (4, .own 48), (5, .val 2), (6, .val 2), (7, .val 2)])], [30, 31, 32, 33, 36, 37, 38, 39, 40, 41, 42, 43, 44, 45, 3, 46, 47, 48, 49, 50, 51, 52, 53, 54, 55, 56, 57, 58, 59, 4, 60, 61, 62, 63, 64, 65, 66, 5, 67, 68, 69, 70, 71, 72, 73, 6, 74, 75, 76, 77, 78, 79, 80, 7, 34, 35, 8], law11_FunFolds_l1J⟩
theorem law11_FunFolds_l1_eq : ∀ back x, evLoop Tryz.prog tb law11_FunFoldsG [] (loopAt 76 Tryz.f5) law11_FunFolds_l1C.ins law11_FunFolds_l1C.outs back x = law11_FunFolds_l1F back x := fun back x => by kernel_rfl
theorem law11_FunFolds_l1_k : cutB Tryz.f5.ntmps law11_FunFolds_l1C (loopAt 76 Tryz.f5) = true := by kernel_rfl
theorem law11_FunFolds_l1_in : cutsOf ([] : List (CutSpec tb)) (loopAt 76 Tryz.f5) = [] := by kernel_rfl
theorem law11_FunFolds_l1_cut : CutSound Tryz.prog tb Tryz.f5.ntmps (.loop (loopAt 76 Tryz.f5)) law11_FunFolds_l1C := loop_it mixed law11_FunFolds_l1_k law11_FunFoldsG_ok rfl law11_FunFolds_l1_in .nil law11_FunFolds_l1F law11_FunFolds_l1_eq rfl
def law11_FunFolds_l2F (back : List (Val) × List Arg × Arg × Int → Option ((List (Val)) × Arg)) (x : List (Val) × List Arg × Arg × Int) : Option ((List (Val)) × Arg) :=
  brn (decide (x.2.2.snd < (↑x.2.fst.length : Int)))
    (obnd (idx x.2.fst x.2.2.snd) fun y => obnd (app 56 x.fst y.L) fun zs => back (zs, x.2.fst, { Area := x.2.2.fst.Area, L := zs }, IntKind.i64.wrap (x.2.2.snd + 1)))
    (some (x.fst, { Area := x.2.2.fst.Area, L := x.fst }))
def law11_FunFolds_l2J : List (Val) × List Arg × Arg × Int → Option ((List (Val)) × Arg) := iter law11_FunFolds_l2F big
def law11_FunFolds_l2C : CutSpec tb := ⟨156, [(8589934602, .own 32), (3, .val 34), (10, .ref 48), (11, .val 3)], [((.exit 2), [(8589934602, .own 32)])], [84, 85, 86, 87, 90, 91, 92, 93, 94, 95, 96, 97, 98, 88, 89, 11], law11_FunFolds_l2J⟩
theorem law11_FunFolds_l2_eq : ∀ back x, evLoop Tryz.prog tb law11_FunFoldsG [] (loopAt 156 Tryz.f5) law11_FunFolds_l2C.ins law11_FunFolds_l2C.outs back x = law11_FunFolds_l2F back x := fun back x => by kernel_rfl
theorem law11_FunFolds_l2_k : cutB Tryz.f5.ntmps law11_FunFolds_l2C (loopAt 156 Tryz.f5) = true := by kernel_rfl
theorem law11_FunFolds_l2_in : cutsOf ([] : List (CutSpec tb)) (loopAt 156 Tryz.f5) = [] := by kernel_rfl
theorem law11_FunFolds_l2_cut : CutSound Tryz.prog tb Tryz.f5.ntmps (.loop (loopAt 156 Tryz.f5)) law11_FunFolds_l2C := loop_it mixed law11_FunFolds_l2_k law11_FunFoldsG_ok rfl law11_FunFolds_l2_in .nil law11_FunFolds_l2F law11_FunFolds_l2_eq rfl
def law11_FunFoldsF (x : List Int) : Option (Bool) :=
  obnd (law11_knownF ()) fun y =>
    brn (!y) (some false)
      (brn (decide ((↑x.length : Int) = 0)) (some true)
        (brn (decide (28 < (↑x.length : Int))) (some true)
          (obnd (idx x 0) fun y =>
            obnd (idx x 0) fun y_1 =>
              obnd (law11_FunFolds_l1J (x, [], [], 0, IntKind.i64.wrap y, IntKind.i64.wrap y_1, 0)) fun y =>
                obnd (fun_ApplyF (4, y.fst)) fun y_2 =>
                  obnd (law11_FunFolds_l2J ([], y.fst, { Area := true, L := [] }, 0)) fun y_3 =>
                    obnd (fun_ApplyF (0, y.fst)) fun y_4 =>
                      obnd (law9_NF y.2.2.fst) fun y_5 =>
                        brn
                          (bif false then
                            !(decide (y_4.Kind = y_5.Kind) &&
                                (decide (y_4.N.M = y_5.N.M) && (decide (y_4.N.S = y_5.N.S) && (decide (y_4.S = y_5.S) && (decide (y_4.B = y_5.B) && decide (y_4.E = y_5.E))))))
                          else
                            decide (y_4.Kind = y_5.Kind) &&
                              (decide (y_4.N.M = y_5.N.M) && (decide (y_4.N.S = y_5.N.S) && (decide (y_4.S = y_5.S) && (decide (y_4.B = y_5.B) && decide (y_4.E = y_5.E))))))
                          (obnd (fun_ApplyF (0, y.2.fst)) fun y_6 =>
                            obnd (law9_NF y.2.2.fst) fun y_7 =>
                              brn
                                (bif false then
                                  !(decide (y_6.Kind = y_7.Kind) &&
                                      (decide (y_6.N.M = y_7.N.M) && (decide (y_6.N.S = y_7.N.S) && (decide (y_6.S = y_7.S) && (decide (y_6.B = y_7.B) && decide (y_6.E = y_7.E))))))
                                else
                                  decide (y_6.Kind = y_7.Kind) &&
                                    (decide (y_6.N.M = y_7.N.M) && (decide (y_6.N.S = y_7.N.S) && (decide (y_6.S = y_7.S) && (decide (y_6.B = y_7.B) && decide (y_6.E = y_7.E))))))
                                (obnd (fun_ApplyF (0, [{ Area := y_3.2.Area, L := y_3.1 }])) fun y_8 =>
                                  obnd (law9_NF y.2.2.fst) fun y_9 =>
                                    brn
                                      (bif false then
                                        !(decide (y_8.Kind = y_9.Kind) &&
                                            (decide (y_8.N.M = y_9.N.M) &&
                                              (decide (y_8.N.S = y_9.N.S) && (decide (y_8.S = y_9.S) && (decide (y_8.B = y_9.B) && decide (y_8.E = y_9.E))))))
                                      else
                                        decide (y_8.Kind = y_9.Kind) &&
                                          (decide (y_8.N.M = y_9.N.M) &&
                                            (decide (y_8.N.S = y_9.N.S) && (decide (y_8.S = y_9.S) && (decide (y_8.B = y_9.B) && decide (y_8.E = y_9.E))))))
                                      (obnd (fun_ApplyF (1, y.fst)) fun y_10 =>
                                        obnd (law9_NF y.2.2.2.fst) fun y_11 =>
                                          brn
                                            (bif false then
                                              !(decide (y_10.Kind = y_11.Kind) &&
                                                  (decide (y_10.N.M = y_11.N.M) &&
                                                    (decide (y_10.N.S = y_11.N.S) && (decide (y_10.S = y_11.S) && (decide (y_10.B = y_11.B) && decide (y_10.E = y_11.E))))))
                                            else
                                              decide (y_10.Kind = y_11.Kind) &&
                                                (decide (y_10.N.M = y_11.N.M) &&
                                                  (decide (y_10.N.S = y_11.N.S) && (decide (y_10.S = y_11.S) && (decide (y_10.B = y_11.B) && decide (y_10.E = y_11.E))))))
                                            (obnd (fun_ApplyF (2, y.2.fst)) fun y_12 =>
                                              obnd (law9_NF y.2.2.2.snd) fun y_13 =>
                                                brn
                                                  (bif false then
                                                    !(decide (y_12.Kind = y_13.Kind) &&
                                                        (decide (y_12.N.M = y_13.N.M) &&
                                                          (decide (y_12.N.S = y_13.N.S) && (decide (y_12.S = y_13.S) && (decide (y_12.B = y_13.B) && decide (y_12.E = y_13.E))))))
                                                  else
                                                    decide (y_12.Kind = y_13.Kind) &&
                                                      (decide (y_12.N.M = y_13.N.M) &&
                                                        (decide (y_12.N.S = y_13.N.S) && (decide (y_12.S = y_13.S) && (decide (y_12.B = y_13.B) && decide (y_12.E = y_13.E))))))
                                                  (obnd (fun_ApplyF (3, y.fst)) fun y_14 =>
                                                    obnd (law9_NF (↑x.length : Int)) fun y_15 =>
                                                      brn
                                                        (bif false then
                                                          !(decide (y_14.Kind = y_15.Kind) &&
                                                              (decide (y_14.N.M = y_15.N.M) &&
                                                                (decide (y_14.N.S = y_15.N.S) &&
                                                                  (decide (y_14.S = y_15.S) && (decide (y_14.B = y_15.B) && decide (y_14.E = y_15.E))))))
                                                        else
                                                          decide (y_14.Kind = y_15.Kind) &&
                                                            (decide (y_14.N.M = y_15.N.M) &&
                                                              (decide (y_14.N.S = y_15.N.S) && (decide (y_14.S = y_15.S) && (decide (y_14.B = y_15.B) && decide (y_14.E = y_15.E))))))
                                                        (brn (decide (y_2.Kind = 1))
                                                          (obnd (law9_NF y.2.2.2.fst) fun y_16 =>
                                                            obnd (val_CompareF (y_2, y_16)) fun y_17 =>
                                                              brn (decide (0 ≤ y_17))
                                                                (obnd (law9_NF y.2.2.2.snd) fun y => obnd (val_CompareF (y_2, y)) fun y => some (decide (y ≤ 0))) (some false))
                                                          (some false))
                                                        (some false))
                                                  (some false))
                                            (some false))
                                      (some false))
                                (some false))
                          (some false))))
def law11_FunFoldsS : FSpec tb := ⟨[(0, .val 45)], [(0, .val 4)], law11_FunFoldsF⟩
theorem law11_FunFolds_eq : ∀ x, evFn Tryz.prog tb law11_FunFoldsG [law11_FunFolds_l1C, law11_FunFolds_l2C] Tryz.f5 law11_FunFoldsS.ins law11_FunFoldsS.outs x = law11_FunFoldsS.f x := fun x => by kernel_rfl
theorem law11_FunFolds_k : fnK Tryz.f5 law11_FunFoldsS.ins law11_FunFoldsS.outs = true := by kernel_rfl
theorem law11_FunFolds_in : cutsOf ([law11_FunFolds_l1C, law11_FunFolds_l2C] : List (CutSpec tb)) (bodyOf Tryz.f5) = [(76, .loop (loopAt 76 Tryz.f5)), (156, .loop (loopAt 156 Tryz.f5))] := by kernel_rfl
theorem law11_FunFolds_sound : FnSound Tryz.prog tb 5 law11_FunFoldsS := fn_cut mixed Tryz.func5 law11_FunFolds_k law11_FunFoldsG_ok rfl law11_FunFolds_in (.cons rfl law11_FunFolds_l1_cut rfl (.cons rfl law11_FunFolds_l2_cut rfl .nil)) law11_FunFolds_eq
end Go.Proofs.YtdgpkbnnljblmaaGreatDoor
