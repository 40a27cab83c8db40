/- KA -/
import Derived.Test.YtdgpkbnnljblmaaGreatDoorV2
namespace Go.Proofs.YtdgpkbnnljblmaaGreatDoor
open Go Go.Ev
set_option linter.unusedVariables false
abbrev law11_FunNamesG : List (Nat × FSpec tb) := [(16, law11_knownS), (22, ref13_NamesS), (23, fun_NameS), (24, fun_FindS)]
theorem law11_FunNamesG_ok : AllSound Tryz.prog tb law11_FunNamesG := (.cons law11_known_sound (.cons ref13_Names_sound (.cons fun_Name_sound (.cons fun_Find_sound .nil))))
def law11_FunNames_l1F (back : List UInt8 × List (List UInt8) × Int × Bool × Bool × Int → Option ((Bool) ⊕ (Bool))) (x : List UInt8 × List (List UInt8) × Int × Bool × Bool × Int) : Option ((Bool) ⊕ (Bool)) :=
  brn (decide (x.2.2.2.2.snd < (↑x.2.fst.length : Int)))
    (obnd (idx x.2.fst x.2.2.2.2.snd) fun y =>
      brn (decide (y = x.fst))
        (brn (!x.2.2.2.fst) (some (Sum.inr false))
          (brn (!decide (x.2.2.fst = x.2.2.2.2.snd)) (some (Sum.inr false)) (back (x.fst, x.2.fst, x.2.2.fst, x.2.2.2.fst, true, IntKind.i64.wrap (x.2.2.2.2.snd + 1)))))
        (back (x.fst, x.2.fst, x.2.2.fst, x.2.2.2.fst, x.2.2.2.2.fst, IntKind.i64.wrap (x.2.2.2.2.snd + 1))))
    (some (Sum.inl x.2.2.2.2.1))
def law11_FunNames_l1J : List UInt8 × List (List UInt8) × Int × Bool × Bool × Int → Option ((Bool) ⊕ (Bool)) := iter law11_FunNames_l1F big
def law11_FunNames_l1C : CutSpec tb := ⟨92, [(1, .val 9), (5, .val 38), (8, .val 3), (9, .val 4), (10, .val 4), (11, .val 3)], [((.exit 0), [(10, .val 4)]), (.ret, [(4, .val 4)])], [54, 55, 56, 57, 60, 61, 62, 63, 64, 65, 10, 66, 67, 68, 69, 70, 71, 72, 4, 58, 59, 11], law11_FunNames_l1J⟩
theorem law11_FunNames_l1_eq : ∀ back x, evLoop Tryz.prog tb law11_FunNamesG [] (loopAt 92 Tryz.f4) law11_FunNames_l1C.ins law11_FunNames_l1C.outs back x = law11_FunNames_l1F back x := fun back x => by kernel_rfl
theorem law11_FunNames_l1_k : cutB Tryz.f4.ntmps law11_FunNames_l1C (loopAt 92 Tryz.f4) = true := by kernel_rfl
theorem law11_FunNames_l1_in : cutsOf ([] : List (CutSpec tb)) (loopAt 92 Tryz.f4) = [] := by kernel_rfl
theorem law11_FunNames_l1_cut : CutSound Tryz.prog tb Tryz.f4.ntmps (.loop (loopAt 92 Tryz.f4)) law11_FunNames_l1C := loop_it mixed law11_FunNames_l1_k law11_FunNamesG_ok rfl law11_FunNames_l1_in .nil law11_FunNames_l1F law11_FunNames_l1_eq rfl
def law11_FunNamesF (x : Int × List UInt8) : Option (Bool) :=
  obnd (law11_knownF ()) fun y =>
    brn (!y) (some false)
      (obnd (ref13_NamesF ()) fun y =>
        obnd (fun_NameF x.fst) fun y_1 =>
          brn (decide (0 ≤ x.fst))
            (brn (!decide (y_1.snd = decide (x.fst < (↑(List.length y) : Int)))) (some false)
              (brn y_1.snd
                (obnd (idx y x.fst) fun y_2 =>
                  brn (!decide (y_1.fst = y_2)) (some false)
                    (brn (!y_1.snd)
                      (brn (!decide (y_1.fst = [])) (some false)
                        (obnd (fun_FindF x.snd) fun y_3 =>
                          obnd (law11_FunNames_l1J (x.snd, y, y_3.fst, y_3.snd, false, 0)) fun y =>
                            osum y (fun y => brn (decide (y = y_3.snd)) (brn y_3.snd (some true) (some (decide (y_3.fst = 0)))) (some false)) fun y => some y))
                      (obnd (fun_FindF x.snd) fun y_3 =>
                        obnd (law11_FunNames_l1J (x.snd, y, y_3.fst, y_3.snd, false, 0)) fun y =>
                          osum y (fun y => brn (decide (y = y_3.snd)) (brn y_3.snd (some true) (some (decide (y_3.fst = 0)))) (some false)) fun y => some y)))
                (brn (!y_1.snd)
                  (brn (!decide (y_1.fst = [])) (some false)
                    (obnd (fun_FindF x.snd) fun y_2 =>
                      obnd (law11_FunNames_l1J (x.snd, y, y_2.fst, y_2.snd, false, 0)) fun y =>
                        osum y (fun y => brn (decide (y = y_2.snd)) (brn y_2.snd (some true) (some (decide (y_2.fst = 0)))) (some false)) fun y => some y))
                  (obnd (fun_FindF x.snd) fun y_2 =>
                    obnd (law11_FunNames_l1J (x.snd, y, y_2.fst, y_2.snd, false, 0)) fun y =>
                      osum y (fun y => brn (decide (y = y_2.snd)) (brn y_2.snd (some true) (some (decide (y_2.fst = 0)))) (some false)) fun y => some y))))
            (brn (!decide (y_1.snd = false)) (some false)
              (brn y_1.snd
                (obnd (idx y x.fst) fun y_2 =>
                  brn (!decide (y_1.fst = y_2)) (some false)
                    (brn (!y_1.snd)
                      (brn (!decide (y_1.fst = [])) (some false)
                        (obnd (fun_FindF x.snd) fun y_3 =>
                          obnd (law11_FunNames_l1J (x.snd, y, y_3.fst, y_3.snd, false, 0)) fun y =>
                            osum y (fun y => brn (decide (y = y_3.snd)) (brn y_3.snd (some true) (some (decide (y_3.fst = 0)))) (some false)) fun y => some y))
                      (obnd (fun_FindF x.snd) fun y_3 =>
                        obnd (law11_FunNames_l1J (x.snd, y, y_3.fst, y_3.snd, false, 0)) fun y =>
                          osum y (fun y => brn (decide (y = y_3.snd)) (brn y_3.snd (some true) (some (decide (y_3.fst = 0)))) (some false)) fun y => some y)))
                (brn (!y_1.snd)
                  (brn (!decide (y_1.fst = [])) (some false)
                    (obnd (fun_FindF x.snd) fun y_2 =>
                      obnd (law11_FunNames_l1J (x.snd, y, y_2.fst, y_2.snd, false, 0)) fun y =>
                        osum y (fun y => brn (decide (y = y_2.snd)) (brn y_2.snd (some true) (some (decide (y_2.fst = 0)))) (some false)) fun y => some y))
                  (obnd (fun_FindF x.snd) fun y_2 =>
                    obnd (law11_FunNames_l1J (x.snd, y, y_2.fst, y_2.snd, false, 0)) fun y =>
                      osum y (fun y => brn (decide (y = y_2.snd)) (brn y_2.snd (some true) (some (decide (y_2.fst = 0)))) (some false)) fun y => some y)))))
def law11_FunNamesS : FSpec tb := ⟨[(0, .val 3), (1, .val 9)], [(0, .val 4)], law11_FunNamesF⟩
theorem law11_FunNames_eq : ∀ x, evFn Tryz.prog tb law11_FunNamesG [law11_FunNames_l1C] Tryz.f4 law11_FunNamesS.ins law11_FunNamesS.outs x = law11_FunNamesS.f x := fun x => by kernel_rfl
theorem law11_FunNames_k : fnK Tryz.f4 law11_FunNamesS.ins law11_FunNamesS.outs = true := by kernel_rfl
theorem law11_FunNames_in : cutsOf ([law11_FunNames_l1C] : List (CutSpec tb)) (bodyOf Tryz.f4) = [(92, .loop (loopAt 92 Tryz.f4))] := by kernel_rfl
theorem law11_FunNames_sound : FnSound Tryz.prog tb 4 law11_FunNamesS := fn_cut mixed Tryz.func4 law11_FunNames_k law11_FunNamesG_ok rfl law11_FunNames_in (.cons rfl law11_FunNames_l1_cut rfl .nil) law11_FunNames_eq
end Go.Proofs.YtdgpkbnnljblmaaGreatDoor
