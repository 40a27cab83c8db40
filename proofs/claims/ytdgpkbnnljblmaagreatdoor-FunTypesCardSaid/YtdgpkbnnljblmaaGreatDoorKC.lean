/- KC -/
import Derived.Test.YtdgpkbnnljblmaaGreatDoorV2
namespace Go.Proofs.YtdgpkbnnljblmaaGreatDoor
open Go Go.Ev
set_option linter.unusedVariables false
abbrev law11_FunTypesG : List (Nat × FSpec tb) := [(16, law11_knownS), (38, val_CheckS), (25, fun_OneS), (19, fun_ApplyS), (32, val_FaultS), (26, law9_NS), (1099511627805, mutS)]
theorem law11_FunTypesG_ok : AllSound Tryz.prog tb law11_FunTypesG := (.cons law11_known_sound (.cons val_Check_sound (.cons fun_One_sound (.cons fun_Apply_sound (.cons val_Fault_sound (.cons law9_N_sound (.consK mut_sound .nil)))))))
def law11_FunTypes_l1F (back : Val × List (Arg) × Int → Option (List (Arg))) (x : Val × List (Arg) × Int) : Option (List (Arg)) :=
  brn (decide (x.2.snd < (↑x.2.fst.length : Int)))
    (obnd (fun_OneF x.fst) fun y => obnd (inb x.2.fst.length x.2.snd) fun k => obnd (nth x.2.fst k) fun y_1 => back (x.fst, x.2.fst.set k y, IntKind.i64.wrap (x.2.snd + 1)))
    (some x.2.1)
def law11_FunTypes_l1J : Val × List (Arg) × Int → Option (List (Arg)) := iter law11_FunTypes_l1F big
def law11_FunTypes_l1C : CutSpec tb := ⟨92, [(2, .ro 32), (8, .wr 48), (9, .val 3)], [((.exit 0), [(8, .own 48)])], [30, 31, 32, 33, 36, 37, 38, 39, 40, 34, 35, 9], law11_FunTypes_l1J⟩
theorem law11_FunTypes_l1_eq : ∀ back x, evLoop Tryz.prog tb law11_FunTypesG [] (loopAt 92 Tryz.f10) law11_FunTypes_l1C.ins law11_FunTypes_l1C.outs back x = law11_FunTypes_l1F back x := fun back x => by kernel_rfl
theorem law11_FunTypes_l1_k : cutB Tryz.f10.ntmps law11_FunTypes_l1C (loopAt 92 Tryz.f10) = true := by kernel_rfl
theorem law11_FunTypes_l1_in : cutsOf ([] : List (CutSpec tb)) (loopAt 92 Tryz.f10) = [] := by kernel_rfl
theorem law11_FunTypes_l1_cut : CutSound Tryz.prog tb Tryz.f10.ntmps (.loop (loopAt 92 Tryz.f10)) law11_FunTypes_l1C := loop_it mixed law11_FunTypes_l1_k law11_FunTypesG_ok rfl law11_FunTypes_l1_in .nil law11_FunTypes_l1F law11_FunTypes_l1_eq rfl
def law11_FunTypes_b2J (x : Int) : Option (Bool) :=
  brn (!decide (x = 11))
    (brn (!decide (x = 12))
      (brn (!decide (x = 18))
        (brn (!decide (x = 25))
          (brn (!decide (x = 28))
            (obnd (fun_ApplyF (x, [])) fun y =>
              obnd (val_FaultF 15) fun y_1 =>
                some
                  (bif
                      decide (y.Kind = y_1.Kind) &&
                        (decide (y.N.M = y_1.N.M) && (decide (y.N.S = y_1.N.S) && (decide (y.S = y_1.S) && (decide (y.B = y_1.B) && decide (y.E = y_1.E))))) then
                    false
                  else true))
            (some false))
          (some false))
        (some false))
      (some false))
    (some false)
def law11_FunTypes_b2C : CutSpec tb := ⟨112, [(7, .val 3)], [(.normal, [(64, .val 4)])], [41, 42, 43, 44, 45, 46, 47, 48, 49, 50, 51, 52, 53, 54, 55, 56, 57, 58, 59, 60, 61, 62, 63, 64], law11_FunTypes_b2J⟩
theorem law11_FunTypes_b2_eq : ∀ x, evBlk Tryz.prog tb law11_FunTypesG [] (codeAt 112 Tryz.f10) law11_FunTypes_b2C.ins law11_FunTypes_b2C.outs x = law11_FunTypes_b2C.J x := fun x => by kernel_rfl
theorem law11_FunTypes_b2_k : cutB Tryz.f10.ntmps law11_FunTypes_b2C (codeAt 112 Tryz.f10) = true := by kernel_rfl
theorem law11_FunTypes_b2_in : cutsOf ([] : List (CutSpec tb)) (codeAt 112 Tryz.f10) = [] := by kernel_rfl
theorem law11_FunTypes_b2_cut : CutSound Tryz.prog tb Tryz.f10.ntmps (codeAt 112 Tryz.f10) law11_FunTypes_b2C := blk_ev mixed law11_FunTypes_b2_k law11_FunTypesG_ok rfl law11_FunTypes_b2_in .nil law11_FunTypes_b2_eq
def law11_FunTypes_b3J (x : Int × List Arg) : Option (Bool) :=
  brn (!decide (x.fst = 11))
    (brn (!decide (x.fst = 12))
      (brn (!decide (x.fst = 18))
        (brn (!decide (x.fst = 25))
          (obnd (fun_ApplyF x) fun y =>
            obnd (val_FaultF 15) fun y_1 =>
              some
                (bif
                    decide (y.Kind = y_1.Kind) &&
                      (decide (y.N.M = y_1.N.M) && (decide (y.N.S = y_1.N.S) && (decide (y.S = y_1.S) && (decide (y.B = y_1.B) && decide (y.E = y_1.E))))) then
                  false
                else true))
          (some false))
        (some false))
      (some false))
    (some false)
def law11_FunTypes_b3C : CutSpec tb := ⟨128, [(7, .val 3), (8, .val 34)], [(.normal, [(85, .val 4)])], [65, 66, 67, 68, 69, 70, 71, 72, 73, 74, 75, 76, 77, 78, 79, 80, 81, 82, 83, 84, 85], law11_FunTypes_b3J⟩
theorem law11_FunTypes_b3_eq : ∀ x, evBlk Tryz.prog tb law11_FunTypesG [] (codeAt 128 Tryz.f10) law11_FunTypes_b3C.ins law11_FunTypes_b3C.outs x = law11_FunTypes_b3C.J x := fun x => by kernel_rfl
theorem law11_FunTypes_b3_k : cutB Tryz.f10.ntmps law11_FunTypes_b3C (codeAt 128 Tryz.f10) = true := by kernel_rfl
theorem law11_FunTypes_b3_in : cutsOf ([] : List (CutSpec tb)) (codeAt 128 Tryz.f10) = [] := by kernel_rfl
theorem law11_FunTypes_b3_cut : CutSound Tryz.prog tb Tryz.f10.ntmps (codeAt 128 Tryz.f10) law11_FunTypes_b3C := blk_ev mixed law11_FunTypes_b3_k law11_FunTypesG_ok rfl law11_FunTypes_b3_in .nil law11_FunTypes_b3_eq
def law11_FunTypesF (x : Val × UInt8) : Option (Bool) :=
  obnd (law11_knownF ()) fun y =>
    brn (!y) (some false)
      (brn (decide (1000 < (↑x.fst.S.length : Int))) (some true)
        (obnd (val_CheckF x.fst) fun y =>
          brn (!decide (y = 0)) (some true)
            (obnd (fun_OneF x.fst) fun y =>
              obnd (mkList 32 { Area := false, L := [] } 31 31) fun xs =>
                obnd (law11_FunTypes_l1J (x.fst, xs, 0)) fun y_1 =>
                  obnd (law11_FunTypes_b2J (IntKind.i64.wrap (5 + IntKind.i64.wrap ((↑x.snd.toNat : Int).tmod 25)))) fun y_2 =>
                    brn y_2 (some false)
                      (obnd (law11_FunTypes_b3J (IntKind.i64.wrap (5 + IntKind.i64.wrap ((↑x.snd.toNat : Int).tmod 25)), y_1)) fun y_3 =>
                        brn y_3 (some false)
                          (obnd (fun_ApplyF (29, [y])) fun y_4 =>
                            obnd (idx [1, 1, 2, 4, 16] x.fst.Kind) fun y_5 =>
                              obnd (law9_NF y_5) fun y_6 =>
                                brn
                                  (bif false then
                                    !(decide (y_4.Kind = y_6.Kind) &&
                                        (decide (y_4.N.M = y_6.N.M) &&
                                          (decide (y_4.N.S = y_6.N.S) && (decide (y_4.S = y_6.S) && (decide (y_4.B = y_6.B) && decide (y_4.E = y_6.E))))))
                                  else
                                    decide (y_4.Kind = y_6.Kind) &&
                                      (decide (y_4.N.M = y_6.N.M) && (decide (y_4.N.S = y_6.N.S) && (decide (y_4.S = y_6.S) && (decide (y_4.B = y_6.B) && decide (y_4.E = y_6.E))))))
                                  (obnd (fun_ApplyF (21, [y])) fun y_7 =>
                                    brn
                                      (bif false then
                                        !(decide (y_7.Kind = 3) &&
                                            (decide (y_7.N.M = 0) &&
                                              (decide (y_7.N.S = 0) && (decide (y_7.S = []) && (decide (y_7.B = decide (x.fst.Kind = 0)) && decide (y_7.E = 0))))))
                                      else
                                        decide (y_7.Kind = 3) &&
                                          (decide (y_7.N.M = 0) &&
                                            (decide (y_7.N.S = 0) && (decide (y_7.S = []) && (decide (y_7.B = decide (x.fst.Kind = 0)) && decide (y_7.E = 0))))))
                                      (obnd (fun_ApplyF (22, [y])) fun y =>
                                        some
                                          (match decide (y.Kind = 3) with
                                          | false => false
                                          | true =>
                                            decide (y.N.M = 0) && (decide (y.N.S = 0) && (decide (y.S = []) && (decide (y.B = decide (x.fst.Kind = 4)) && decide (y.E = 0))))))
                                      (some false))
                                  (some false))))))
def law11_FunTypesS : FSpec tb := ⟨[(0, .val 32), (1, .val 5)], [(0, .val 4)], law11_FunTypesF⟩
theorem law11_FunTypes_eq : ∀ x, evFn Tryz.prog tb law11_FunTypesG [law11_FunTypes_l1C, law11_FunTypes_b2C, law11_FunTypes_b3C] Tryz.f10 law11_FunTypesS.ins law11_FunTypesS.outs x = law11_FunTypesS.f x := fun x => by kernel_rfl
theorem law11_FunTypes_k : fnK Tryz.f10 law11_FunTypesS.ins law11_FunTypesS.outs = true := by kernel_rfl
theorem law11_FunTypes_in : cutsOf ([law11_FunTypes_l1C, law11_FunTypes_b2C, law11_FunTypes_b3C] : List (CutSpec tb)) (bodyOf Tryz.f10) = [(92, .loop (loopAt 92 Tryz.f10)), (112, codeAt 112 Tryz.f10), (128, codeAt 128 Tryz.f10)] := by kernel_rfl
theorem law11_FunTypes_sound : FnSound Tryz.prog tb 10 law11_FunTypesS := fn_cut mixed Tryz.func10 law11_FunTypes_k law11_FunTypesG_ok rfl law11_FunTypes_in (.cons rfl law11_FunTypes_l1_cut rfl (.cons rfl law11_FunTypes_b2_cut rfl (.cons rfl law11_FunTypes_b3_cut rfl .nil))) law11_FunTypes_eq
end Go.Proofs.YtdgpkbnnljblmaaGreatDoor
