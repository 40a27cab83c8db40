/- KF -/
import Derived.Test.YtdgpkbnnljblmaaGreatDoorV2
namespace Go.Proofs.YtdgpkbnnljblmaaGreatDoor
open Go Go.Ev
set_option linter.unusedVariables false
abbrev law11_FunChoosesG : List (Nat × FSpec tb) := [(16, law11_knownS), (26, law9_NS), (25, fun_OneS), (38, val_CheckS), (19, fun_ApplyS), (32, val_FaultS)]
theorem law11_FunChoosesG_ok : AllSound Tryz.prog tb law11_FunChoosesG := (.cons law11_known_sound (.cons law9_N_sound (.cons fun_One_sound (.cons val_Check_sound (.cons fun_Apply_sound (.cons val_Fault_sound .nil))))))
def law11_FunChooses_l1F (back : List (Val) × List Val × Arg × List (Arg) × Int → Option (((List (Val) × List (Arg)) × Arg) ⊕ ((List (Val) × Bool) × Arg))) (x : List (Val) × List Val × Arg × List (Arg) × Int) : Option (((List (Val) × List (Arg)) × Arg) ⊕ ((List (Val) × Bool) × Arg)) :=
  brn (decide (x.2.2.2.snd < (↑x.2.fst.length : Int)))
    (obnd (idx x.2.fst x.2.2.2.snd) fun y =>
      brn (decide (1000 < (↑y.S.length : Int))) (some (Sum.inr ((x.fst, true), { Area := x.2.2.fst.Area, L := x.fst })))
        (obnd (idx x.2.fst x.2.2.2.snd) fun y =>
          obnd (val_CheckF y) fun y =>
            brn (!decide (y = 0)) (some (Sum.inr ((x.fst, true), { Area := x.2.2.fst.Area, L := x.fst })))
              (obnd (idx x.2.fst x.2.2.2.snd) fun y =>
                obnd (app 56 x.fst [y]) fun zs =>
                  obnd (idx x.2.fst x.2.2.2.snd) fun y =>
                    obnd (fun_OneF y) fun y =>
                      obnd (app 32 x.2.2.2.fst [y]) fun zs_1 => back (zs, x.2.fst, { Area := x.2.2.fst.Area, L := zs }, zs_1, IntKind.i64.wrap (x.2.2.2.snd + 1)))))
    (some (Sum.inl ((x.fst, x.2.2.2.fst), { Area := x.2.2.fst.Area, L := x.fst })))
def law11_FunChooses_l1J : List (Val) × List Val × Arg × List (Arg) × Int → Option (((List (Val) × List (Arg)) × Arg) ⊕ ((List (Val) × Bool) × Arg)) := iter law11_FunChooses_l1F big
def law11_FunChooses_l1C : CutSpec tb := ⟨76, [(8589934597, .own 32), (0, .val 46), (5, .ref 48), (6, .own 48), (7, .val 3)], [((.exit 0), [(8589934597, .own 32), (6, .own 48)]), (.ret, [(8589934597, .own 32), (4, .val 4)])], [34, 35, 36, 37, 40, 41, 42, 43, 44, 45, 46, 47, 48, 49, 50, 51, 52, 53, 54, 4, 55, 56, 57, 58, 59, 60, 61, 62, 63, 64, 65, 66, 67, 68, 69, 70, 71, 6, 38, 39, 7], law11_FunChooses_l1J⟩
theorem law11_FunChooses_l1_eq : ∀ back x, evLoop Tryz.prog tb law11_FunChoosesG [] (loopAt 76 Tryz.f9) law11_FunChooses_l1C.ins law11_FunChooses_l1C.outs back x = law11_FunChooses_l1F back x := fun back x => by kernel_rfl
theorem law11_FunChooses_l1_k : cutB Tryz.f9.ntmps law11_FunChooses_l1C (loopAt 76 Tryz.f9) = true := by kernel_rfl
theorem law11_FunChooses_l1_in : cutsOf ([] : List (CutSpec tb)) (loopAt 76 Tryz.f9) = [] := by kernel_rfl
theorem law11_FunChooses_l1_cut : CutSound Tryz.prog tb Tryz.f9.ntmps (.loop (loopAt 76 Tryz.f9)) law11_FunChooses_l1C := loop_it mixed law11_FunChooses_l1_k law11_FunChoosesG_ok rfl law11_FunChooses_l1_in .nil law11_FunChooses_l1F law11_FunChooses_l1_eq rfl
def law11_FunChooses_b2J (x : List Val × Arg × List Arg × Int × Val × Val × Val × Val) : Option (Bool) :=
  obnd (fun_ApplyF (25, x.2.2.fst)) fun y =>
    obnd (idx x.fst x.2.2.2.fst) fun y_1 =>
      brn
        (bif false then
          !(decide (y.Kind = y_1.Kind) && (decide (y.N.M = y_1.N.M) && (decide (y.N.S = y_1.N.S) && (decide (y.S = y_1.S) && (decide (y.B = y_1.B) && decide (y.E = y_1.E))))))
        else decide (y.Kind = y_1.Kind) && (decide (y.N.M = y_1.N.M) && (decide (y.N.S = y_1.N.S) && (decide (y.S = y_1.S) && (decide (y.B = y_1.B) && decide (y.E = y_1.E))))))
        (obnd (law9_NF (IntKind.i64.wrap (x.2.2.2.fst + 1))) fun y =>
          obnd (fun_OneF y) fun y =>
            obnd (fun_ApplyF (24, [x.2.fst, y])) fun y =>
              obnd (idx x.fst x.2.2.2.fst) fun y_2 =>
                brn
                  (bif false then
                    !(decide (y.Kind = y_2.Kind) &&
                        (decide (y.N.M = y_2.N.M) && (decide (y.N.S = y_2.N.S) && (decide (y.S = y_2.S) && (decide (y.B = y_2.B) && decide (y.E = y_2.E))))))
                  else
                    decide (y.Kind = y_2.Kind) &&
                      (decide (y.N.M = y_2.N.M) && (decide (y.N.S = y_2.N.S) && (decide (y.S = y_2.S) && (decide (y.B = y_2.B) && decide (y.E = y_2.E))))))
                  (obnd (fun_OneF x.2.2.2.2.2.2.fst) fun y =>
                    obnd (fun_OneF x.2.2.2.2.fst) fun y_3 =>
                      obnd (fun_OneF x.2.2.2.2.2.fst) fun y_4 =>
                        obnd (fun_ApplyF (10, [y, y_3, y_4])) fun y =>
                          brn
                            (bif false then
                              !(decide (y.Kind = x.2.2.2.2.fst.Kind) &&
                                  (decide (y.N.M = x.2.2.2.2.fst.N.M) &&
                                    (decide (y.N.S = x.2.2.2.2.fst.N.S) && (decide (y.S = x.2.2.2.2.fst.S) && (decide (y.B = x.2.2.2.2.fst.B) && decide (y.E = x.2.2.2.2.fst.E))))))
                            else
                              decide (y.Kind = x.2.2.2.2.fst.Kind) &&
                                (decide (y.N.M = x.2.2.2.2.fst.N.M) &&
                                  (decide (y.N.S = x.2.2.2.2.fst.N.S) && (decide (y.S = x.2.2.2.2.fst.S) && (decide (y.B = x.2.2.2.2.fst.B) && decide (y.E = x.2.2.2.2.fst.E))))))
                            (obnd (fun_OneF x.2.2.2.2.2.2.snd) fun y =>
                              obnd (fun_OneF x.2.2.2.2.fst) fun y_5 =>
                                obnd (fun_OneF x.2.2.2.2.2.fst) fun y_6 =>
                                  obnd (fun_ApplyF (10, [y, y_5, y_6])) fun y =>
                                    brn
                                      (bif false then
                                        !(decide (y.Kind = x.2.2.2.2.2.fst.Kind) &&
                                            (decide (y.N.M = x.2.2.2.2.2.fst.N.M) &&
                                              (decide (y.N.S = x.2.2.2.2.2.fst.N.S) &&
                                                (decide (y.S = x.2.2.2.2.2.fst.S) && (decide (y.B = x.2.2.2.2.2.fst.B) && decide (y.E = x.2.2.2.2.2.fst.E))))))
                                      else
                                        decide (y.Kind = x.2.2.2.2.2.fst.Kind) &&
                                          (decide (y.N.M = x.2.2.2.2.2.fst.N.M) &&
                                            (decide (y.N.S = x.2.2.2.2.2.fst.N.S) &&
                                              (decide (y.S = x.2.2.2.2.2.fst.S) && (decide (y.B = x.2.2.2.2.2.fst.B) && decide (y.E = x.2.2.2.2.2.fst.E))))))
                                      (obnd (law9_NF 0) fun y =>
                                        obnd (fun_OneF y) fun y =>
                                          obnd (fun_OneF x.2.2.2.2.fst) fun y_7 =>
                                            obnd (fun_ApplyF (25, [y, y_7])) fun y =>
                                              obnd (val_FaultF 15) fun y_8 =>
                                                some
                                                  (match decide (y.Kind = y_8.Kind) with
                                                  | false => false
                                                  | true =>
                                                    decide (y.N.M = y_8.N.M) &&
                                                      (decide (y.N.S = y_8.N.S) && (decide (y.S = y_8.S) && (decide (y.B = y_8.B) && decide (y.E = y_8.E))))))
                                      (some false))
                            (some false))
                  (some false))
        (some false)
def law11_FunChooses_b2C : CutSpec tb := ⟨168, [(0, .val 46), (5, .ro 48), (6, .val 34), (8, .val 3), (9, .ro 32), (10, .ro 32), (11, .ro 32), (12, .ro 32)], [(.normal, [(4, .val 4)])], [112, 113, 114, 115, 116, 117, 118, 119, 120, 121, 122, 123, 124, 125, 126, 127, 128, 129, 130, 131, 132, 133, 134, 135, 136, 137, 138, 139, 140, 141, 142, 143, 144, 145, 146, 147, 148, 149, 150, 151, 152, 153, 154, 155, 156, 157, 158, 159, 160, 161, 162, 163, 164, 165, 166, 4], law11_FunChooses_b2J⟩
theorem law11_FunChooses_b2_eq : ∀ x, evBlk Tryz.prog tb law11_FunChoosesG [] (codeAt 168 Tryz.f9) law11_FunChooses_b2C.ins law11_FunChooses_b2C.outs x = law11_FunChooses_b2C.J x := fun x => by kernel_rfl
theorem law11_FunChooses_b2_k : cutB Tryz.f9.ntmps law11_FunChooses_b2C (codeAt 168 Tryz.f9) = true := by kernel_rfl
theorem law11_FunChooses_b2_in : cutsOf ([] : List (CutSpec tb)) (codeAt 168 Tryz.f9) = [] := by kernel_rfl
theorem law11_FunChooses_b2_cut : CutSound Tryz.prog tb Tryz.f9.ntmps (codeAt 168 Tryz.f9) law11_FunChooses_b2C := blk_ev mixed law11_FunChooses_b2_k law11_FunChoosesG_ok rfl law11_FunChooses_b2_in .nil law11_FunChooses_b2_eq
def law11_FunChoosesF (x : List Val × UInt8) : Option (Bool) :=
  obnd (law11_knownF ()) fun y =>
    brn (!y) (some false)
      (brn (decide ((↑x.fst.length : Int) = 0)) (some true)
        (brn (decide (20 < (↑x.fst.length : Int))) (some true)
          (brn (decide ((↑x.fst.length : Int) = 0)) none
            (obnd (law9_NF (IntKind.i64.wrap (1 + (IntKind.i64.wrap (↑x.snd.toNat : Int)).tmod (↑x.fst.length : Int)))) fun y =>
              obnd (fun_OneF y) fun y =>
                obnd (law11_FunChooses_l1J ([], x.fst, { Area := true, L := [] }, [y], 0)) fun y =>
                  osum y
                    (fun y =>
                      brn (decide ((↑x.fst.length : Int) = 0)) none
                        (obnd (idx x.fst 0) fun y_1 =>
                          obnd (idx x.fst (IntKind.i64.wrap ((↑x.fst.length : Int) - 1))) fun y_2 =>
                            obnd (fun_OneF y_1) fun y_3 =>
                              obnd (fun_OneF y_2) fun y_4 =>
                                obnd (fun_ApplyF (23, [y_3, y_4])) fun y_5 =>
                                  brn (decide (y_1.Kind = 4))
                                    (brn
                                      (bif true then
                                        !(decide (y_5.Kind = y_2.Kind) &&
                                            (decide (y_5.N.M = y_2.N.M) &&
                                              (decide (y_5.N.S = y_2.N.S) && (decide (y_5.S = y_2.S) && (decide (y_5.B = y_2.B) && decide (y_5.E = y_2.E))))))
                                      else
                                        decide (y_5.Kind = y_2.Kind) &&
                                          (decide (y_5.N.M = y_2.N.M) &&
                                            (decide (y_5.N.S = y_2.N.S) && (decide (y_5.S = y_2.S) && (decide (y_5.B = y_2.B) && decide (y_5.E = y_2.E))))))
                                      (some false)
                                      (brn (!decide (y_1.Kind = 4))
                                        (brn
                                          (bif true then
                                            !(decide (y_5.Kind = y_1.Kind) &&
                                                (decide (y_5.N.M = y_1.N.M) &&
                                                  (decide (y_5.N.S = y_1.N.S) && (decide (y_5.S = y_1.S) && (decide (y_5.B = y_1.B) && decide (y_5.E = y_1.E))))))
                                          else
                                            decide (y_5.Kind = y_1.Kind) &&
                                              (decide (y_5.N.M = y_1.N.M) &&
                                                (decide (y_5.N.S = y_1.N.S) && (decide (y_5.S = y_1.S) && (decide (y_5.B = y_1.B) && decide (y_5.E = y_1.E))))))
                                          (some false)
                                          (obnd
                                            (law11_FunChooses_b2J
                                              (x.fst, { Area := y.2.Area, L := y.1.fst }, y.1.snd, (IntKind.i64.wrap (↑x.snd.toNat : Int)).tmod (↑x.fst.length : Int), y_1, y_2,
                                                { Kind := 3, N := { M := 0, S := 0 }, S := [], B := true, E := 0 },
                                                { Kind := 3, N := { M := 0, S := 0 }, S := [], B := false, E := 0 }))
                                            fun y => some y))
                                        (obnd
                                          (law11_FunChooses_b2J
                                            (x.fst, { Area := y.2.Area, L := y.1.fst }, y.1.snd, (IntKind.i64.wrap (↑x.snd.toNat : Int)).tmod (↑x.fst.length : Int), y_1, y_2,
                                              { Kind := 3, N := { M := 0, S := 0 }, S := [], B := true, E := 0 },
                                              { Kind := 3, N := { M := 0, S := 0 }, S := [], B := false, E := 0 }))
                                          fun y => some y)))
                                    (brn (!decide (y_1.Kind = 4))
                                      (brn
                                        (bif true then
                                          !(decide (y_5.Kind = y_1.Kind) &&
                                              (decide (y_5.N.M = y_1.N.M) &&
                                                (decide (y_5.N.S = y_1.N.S) && (decide (y_5.S = y_1.S) && (decide (y_5.B = y_1.B) && decide (y_5.E = y_1.E))))))
                                        else
                                          decide (y_5.Kind = y_1.Kind) &&
                                            (decide (y_5.N.M = y_1.N.M) &&
                                              (decide (y_5.N.S = y_1.N.S) && (decide (y_5.S = y_1.S) && (decide (y_5.B = y_1.B) && decide (y_5.E = y_1.E))))))
                                        (some false)
                                        (obnd
                                          (law11_FunChooses_b2J
                                            (x.fst, { Area := y.2.Area, L := y.1.fst }, y.1.snd, (IntKind.i64.wrap (↑x.snd.toNat : Int)).tmod (↑x.fst.length : Int), y_1, y_2,
                                              { Kind := 3, N := { M := 0, S := 0 }, S := [], B := true, E := 0 },
                                              { Kind := 3, N := { M := 0, S := 0 }, S := [], B := false, E := 0 }))
                                          fun y => some y))
                                      (obnd
                                        (law11_FunChooses_b2J
                                          (x.fst, { Area := y.2.Area, L := y.1.fst }, y.1.snd, (IntKind.i64.wrap (↑x.snd.toNat : Int)).tmod (↑x.fst.length : Int), y_1, y_2,
                                            { Kind := 3, N := { M := 0, S := 0 }, S := [], B := true, E := 0 }, { Kind := 3, N := { M := 0, S := 0 }, S := [], B := false, E := 0 }))
                                        fun y => some y))))
                    fun y => some y.1.2))))
def law11_FunChoosesS : FSpec tb := ⟨[(0, .val 46), (1, .val 5)], [(0, .val 4)], law11_FunChoosesF⟩
theorem law11_FunChooses_eq : ∀ x, evFn Tryz.prog tb law11_FunChoosesG [law11_FunChooses_l1C, law11_FunChooses_b2C] Tryz.f9 law11_FunChoosesS.ins law11_FunChoosesS.outs x = law11_FunChoosesS.f x := fun x => by kernel_rfl
theorem law11_FunChooses_k : fnK Tryz.f9 law11_FunChoosesS.ins law11_FunChoosesS.outs = true := by kernel_rfl
theorem law11_FunChooses_in : cutsOf ([law11_FunChooses_l1C, law11_FunChooses_b2C] : List (CutSpec tb)) (bodyOf Tryz.f9) = [(76, .loop (loopAt 76 Tryz.f9)), (168, codeAt 168 Tryz.f9)] := by kernel_rfl
theorem law11_FunChooses_sound : FnSound Tryz.prog tb 9 law11_FunChoosesS := fn_cut mixed Tryz.func9 law11_FunChooses_k law11_FunChoosesG_ok rfl law11_FunChooses_in (.cons rfl law11_FunChooses_l1_cut rfl (.cons rfl law11_FunChooses_b2_cut rfl .nil)) law11_FunChooses_eq
end Go.Proofs.YtdgpkbnnljblmaaGreatDoor
