/- G1 -/
import Derived.Test.YtdgpkbnnljblmaaGreatDoorB1
namespace Go.Proofs.YtdgpkbnnljblmaaGreatDoor
open Go Go.Ev
set_option linter.unusedVariables false
def fun_allF (x : Unit) : Option (List (Function)) :=
  some
    [{ name := [83, 85, 77], lo := 0, hi := 9223372036854775807 }, { name := [77, 73, 78], lo := 0, hi := 9223372036854775807 },
      { name := [77, 65, 88], lo := 0, hi := 9223372036854775807 }, { name := U8s [67, 79, 85, 78, 84], lo := 0, hi := 9223372036854775807 },
      { name := U8s [65, 86, 69, 82, 65, 71, 69], lo := 0, hi := 9223372036854775807 }, { name := [65, 66, 83], lo := 1, hi := 1 }, { name := [83, 73, 71, 78], lo := 1, hi := 1 },
      { name := [73, 78, 84], lo := 1, hi := 1 }, { name := [77, 79, 68], lo := 2, hi := 2 }, { name := U8s [82, 79, 85, 78, 68], lo := 2, hi := 2 },
      { name := [73, 70], lo := 2, hi := 3 }, { name := [65, 78, 68], lo := 0, hi := 9223372036854775807 }, { name := [79, 82], lo := 0, hi := 9223372036854775807 },
      { name := [78, 79, 84], lo := 1, hi := 1 }, { name := [76, 69, 78], lo := 1, hi := 1 }, { name := [76, 69, 70, 84], lo := 1, hi := 2 },
      { name := U8s [82, 73, 71, 72, 84], lo := 1, hi := 2 }, { name := [77, 73, 68], lo := 3, hi := 3 },
      { name := U8s [67, 79, 78, 67, 65, 84], lo := 0, hi := 9223372036854775807 }, { name := U8s [85, 80, 80, 69, 82], lo := 1, hi := 1 },
      { name := U8s [76, 79, 87, 69, 82], lo := 1, hi := 1 }, { name := U8s [73, 83, 66, 76, 65, 78, 75], lo := 1, hi := 1 },
      { name := U8s [73, 83, 69, 82, 82, 79, 82], lo := 1, hi := 1 }, { name := U8s [73, 70, 69, 82, 82, 79, 82], lo := 2, hi := 2 },
      { name := U8s [73, 78, 68, 69, 88], lo := 2, hi := 2 }, { name := U8s [67, 72, 79, 79, 83, 69], lo := 2, hi := 9223372036854775807 },
      { name := U8s [69, 88, 65, 67, 84], lo := 2, hi := 2 }, { name := [82, 69, 80, 84], lo := 2, hi := 2 }, { name := [78, 65], lo := 0, hi := 0 },
      { name := [84, 89, 80, 69], lo := 1, hi := 1 }]
def fun_allS : FSpec tb := ⟨[], [(0, .own 130)], fun_allF⟩
theorem fun_all_eq : ∀ x, evFn Tryz.prog tb [] [] Tryz.f59 fun_allS.ins fun_allS.outs x = fun_allS.f x := fun x => by kernel_rfl
theorem fun_all_k : fnK Tryz.f59 fun_allS.ins fun_allS.outs = true := by kernel_rfl
theorem fun_all_sound : FnSound Tryz.prog tb 59 fun_allS := fn_ev mixed Tryz.func59 fun_all_k .nil rfl fun_all_eq
def fun_Find_1F (x : Function × List UInt8) : Option (Bool) :=
  some (decide (x.fst.name = x.snd))
def fun_Find_1S : FSpec tb := ⟨[(0, .val 130), (1, .ro 9)], [(0, .val 4)], fun_Find_1F⟩
theorem fun_Find_1_eq : ∀ x, evFn Tryz.prog tb [] [] Tryz.f79 fun_Find_1S.ins fun_Find_1S.outs x = fun_Find_1S.f x := fun x => by kernel_rfl
theorem fun_Find_1_k : fnK Tryz.f79 fun_Find_1S.ins fun_Find_1S.outs = true := by kernel_rfl
theorem fun_Find_1_sound : FnSound Tryz.prog tb 79 fun_Find_1S := fn_ev mixed Tryz.func79 fun_Find_1_k .nil rfl fun_Find_1_eq
abbrev slices_IndexFunc_fun_function_fun_function_fun_Find_1G : List (Nat × FSpec tb) := [(79, fun_Find_1S)]
theorem slices_IndexFunc_fun_function_fun_function_fun_Find_1G_ok : AllSound Tryz.prog tb slices_IndexFunc_fun_function_fun_function_fun_Find_1G := (.cons fun_Find_1_sound .nil)
def slices_IndexFunc_fun_function_fun_function_fun_Find_1_l1F (back : List UInt8 × List Function × Unit × Int × Int → Option ((Unit) ⊕ (Int))) (x : List UInt8 × List Function × Unit × Int × Int) : Option ((Unit) ⊕ (Int)) :=
  brn (decide (x.2.2.2.snd < x.2.2.2.fst))
    (obnd (idx x.2.fst x.2.2.2.snd) fun y =>
      obnd (fun_Find_1F (y, x.fst)) fun y => brn y (some (Sum.inr x.2.2.2.2)) (back (x.fst, x.2.fst, (), x.2.2.2.fst, IntKind.i64.wrap (x.2.2.2.snd + 1))))
    (some (Sum.inl PUnit.unit))
def slices_IndexFunc_fun_function_fun_function_fun_Find_1_l1J : List UInt8 × List Function × Unit × Int × Int → Option ((Unit) ⊕ (Int)) := iter slices_IndexFunc_fun_function_fun_function_fun_Find_1_l1F big
def slices_IndexFunc_fun_function_fun_function_fun_Find_1_l1C : CutSpec tb := ⟨28, [(4294967297, .ro 9), (0, .val 127), (1, .fnp 79 1), (7, .val 3), (8, .val 3)], [((.exit 0), []), (.ret, [(4, .val 3)])], [9, 10, 5, 11, 12, 13, 14, 15, 16, 17, 4, 18, 8], slices_IndexFunc_fun_function_fun_function_fun_Find_1_l1J⟩
theorem slices_IndexFunc_fun_function_fun_function_fun_Find_1_l1_eq : ∀ back x, evLoop Tryz.prog tb slices_IndexFunc_fun_function_fun_function_fun_Find_1G [] (loopAt 28 Tryz.f78) slices_IndexFunc_fun_function_fun_function_fun_Find_1_l1C.ins slices_IndexFunc_fun_function_fun_function_fun_Find_1_l1C.outs back x = slices_IndexFunc_fun_function_fun_function_fun_Find_1_l1F back x := fun back x => by kernel_rfl
theorem slices_IndexFunc_fun_function_fun_function_fun_Find_1_l1_k : cutB Tryz.f78.ntmps slices_IndexFunc_fun_function_fun_function_fun_Find_1_l1C (loopAt 28 Tryz.f78) = true := by kernel_rfl
theorem slices_IndexFunc_fun_function_fun_function_fun_Find_1_l1_in : cutsOf ([] : List (CutSpec tb)) (loopAt 28 Tryz.f78) = [] := by kernel_rfl
theorem slices_IndexFunc_fun_function_fun_function_fun_Find_1_l1_cut : CutSound Tryz.prog tb Tryz.f78.ntmps (.loop (loopAt 28 Tryz.f78)) slices_IndexFunc_fun_function_fun_function_fun_Find_1_l1C := loop_it mixed slices_IndexFunc_fun_function_fun_function_fun_Find_1_l1_k slices_IndexFunc_fun_function_fun_function_fun_Find_1G_ok rfl slices_IndexFunc_fun_function_fun_function_fun_Find_1_l1_in .nil slices_IndexFunc_fun_function_fun_function_fun_Find_1_l1F slices_IndexFunc_fun_function_fun_function_fun_Find_1_l1_eq rfl
def slices_IndexFunc_fun_function_fun_function_fun_Find_1F (x : List UInt8 × List Function × Unit) : Option (Int) :=
  obnd (slices_IndexFunc_fun_function_fun_function_fun_Find_1_l1J (x.fst, x.2.fst, (), (↑x.2.fst.length : Int), 0)) fun y => osum y (fun y => some (-1)) fun y => some y
def slices_IndexFunc_fun_function_fun_function_fun_Find_1S : FSpec tb := ⟨[(4294967297, .ro 9), (0, .val 127), (1, .fnp 79 1)], [(0, .val 3)], slices_IndexFunc_fun_function_fun_function_fun_Find_1F⟩
theorem slices_IndexFunc_fun_function_fun_function_fun_Find_1_eq : ∀ x, evFn Tryz.prog tb slices_IndexFunc_fun_function_fun_function_fun_Find_1G [slices_IndexFunc_fun_function_fun_function_fun_Find_1_l1C] Tryz.f78 slices_IndexFunc_fun_function_fun_function_fun_Find_1S.ins slices_IndexFunc_fun_function_fun_function_fun_Find_1S.outs x = slices_IndexFunc_fun_function_fun_function_fun_Find_1S.f x := fun x => by kernel_rfl
theorem slices_IndexFunc_fun_function_fun_function_fun_Find_1_k : fnK Tryz.f78 slices_IndexFunc_fun_function_fun_function_fun_Find_1S.ins slices_IndexFunc_fun_function_fun_function_fun_Find_1S.outs = true := by kernel_rfl
theorem slices_IndexFunc_fun_function_fun_function_fun_Find_1_in : cutsOf ([slices_IndexFunc_fun_function_fun_function_fun_Find_1_l1C] : List (CutSpec tb)) (bodyOf Tryz.f78) = [(28, .loop (loopAt 28 Tryz.f78))] := by kernel_rfl
theorem slices_IndexFunc_fun_function_fun_function_fun_Find_1_sound : FnSound Tryz.prog tb 78 slices_IndexFunc_fun_function_fun_function_fun_Find_1S := fn_cut mixed Tryz.func78 slices_IndexFunc_fun_function_fun_function_fun_Find_1_k slices_IndexFunc_fun_function_fun_function_fun_Find_1G_ok rfl slices_IndexFunc_fun_function_fun_function_fun_Find_1_in (.cons rfl slices_IndexFunc_fun_function_fun_function_fun_Find_1_l1_cut rfl .nil) slices_IndexFunc_fun_function_fun_function_fun_Find_1_eq
def fun_FindF (x : List UInt8) : Option (Int × Bool) :=
  obnd (fun_allF ()) fun y => obnd (slices_IndexFunc_fun_function_fun_function_fun_Find_1F (x, y, ())) fun y => some (bif decide (y < 0) then 0 else y, decide (0 ≤ y))
def fun_FindS : FSpec tb := ⟨[(0, .val 9)], [(0, .val 3), (1, .val 4)], fun_FindF⟩
theorem fun_Find_eq : ∀ x, evFn Tryz.prog tb [(59, fun_allS), (78, slices_IndexFunc_fun_function_fun_function_fun_Find_1S)] [] Tryz.f24 fun_FindS.ins fun_FindS.outs x = fun_FindS.f x := fun x => by kernel_rfl
theorem fun_Find_k : fnK Tryz.f24 fun_FindS.ins fun_FindS.outs = true := by kernel_rfl
theorem fun_Find_sound : FnSound Tryz.prog tb 24 fun_FindS := fn_ev mixed Tryz.func24 fun_Find_k (.cons fun_all_sound (.cons slices_IndexFunc_fun_function_fun_function_fun_Find_1_sound .nil)) rfl fun_Find_eq
def fun_NameF (x : Int) : Option (List UInt8 × Bool) :=
  obnd (fun_allF ()) fun y => brn (decide (x < 0)) (some ([], false)) (brn (decide ((↑(List.length y) : Int) ≤ x)) (some ([], false)) (obnd (idx y x) fun y => some (y.name, true)))
def fun_NameS : FSpec tb := ⟨[(0, .val 3)], [(0, .val 9), (1, .val 4)], fun_NameF⟩
theorem fun_Name_eq : ∀ x, evFn Tryz.prog tb [(59, fun_allS)] [] Tryz.f23 fun_NameS.ins fun_NameS.outs x = fun_NameS.f x := fun x => by kernel_rfl
theorem fun_Name_k : fnK Tryz.f23 fun_NameS.ins fun_NameS.outs = true := by kernel_rfl
theorem fun_Name_sound : FnSound Tryz.prog tb 23 fun_NameS := fn_ev mixed Tryz.func23 fun_Name_k (.cons fun_all_sound .nil) rfl fun_Name_eq
def fun_OneF (x : Val) : Option (Arg) :=
  some { Area := false, L := [x] }
def fun_OneS : FSpec tb := ⟨[(0, .val 32)], [(0, .val 48)], fun_OneF⟩
theorem fun_One_eq : ∀ x, evFn Tryz.prog tb [] [] Tryz.f25 fun_OneS.ins fun_OneS.outs x = fun_OneS.f x := fun x => by kernel_rfl
theorem fun_One_k : fnK Tryz.f25 fun_OneS.ins fun_OneS.outs = true := by kernel_rfl
theorem fun_One_sound : FnSound Tryz.prog tb 25 fun_OneS := fn_ev mixed Tryz.func25 fun_One_k .nil rfl fun_One_eq
def fun_many_1F (x : Arg) : Option (Bool) :=
  brn (!x.Area) (some (bif decide ((↑x.L.length : Int) = 1) then false else true)) (some false)
def fun_many_1S : FSpec tb := ⟨[(0, .val 48)], [(0, .val 4)], fun_many_1F⟩
theorem fun_many_1_eq : ∀ x, evFn Tryz.prog tb [] [] Tryz.f138 fun_many_1S.ins fun_many_1S.outs x = fun_many_1S.f x := fun x => by kernel_rfl
theorem fun_many_1_k : fnK Tryz.f138 fun_many_1S.ins fun_many_1S.outs = true := by kernel_rfl
theorem fun_many_1_sound : FnSound Tryz.prog tb 138 fun_many_1S := fn_ev mixed Tryz.func138 fun_many_1_k .nil rfl fun_many_1_eq
abbrev slices_IndexFunc_fun_Arg_fun_Arg_fun_many_1G : List (Nat × FSpec tb) := [(138, fun_many_1S)]
theorem slices_IndexFunc_fun_Arg_fun_Arg_fun_many_1G_ok : AllSound Tryz.prog tb slices_IndexFunc_fun_Arg_fun_Arg_fun_many_1G := (.cons fun_many_1_sound .nil)
def slices_IndexFunc_fun_Arg_fun_Arg_fun_many_1_l1F (back : List Arg × Unit × Int × Int → Option ((Unit) ⊕ (Int))) (x : List Arg × Unit × Int × Int) : Option ((Unit) ⊕ (Int)) :=
  brn (decide (x.2.2.snd < x.2.2.fst))
    (obnd (idx x.fst x.2.2.snd) fun y => obnd (fun_many_1F y) fun y => brn y (some (Sum.inr x.2.2.2)) (back (x.fst, (), x.2.2.fst, IntKind.i64.wrap (x.2.2.snd + 1))))
    (some (Sum.inl PUnit.unit))
def slices_IndexFunc_fun_Arg_fun_Arg_fun_many_1_l1J : List Arg × Unit × Int × Int → Option ((Unit) ⊕ (Int)) := iter slices_IndexFunc_fun_Arg_fun_Arg_fun_many_1_l1F big
def slices_IndexFunc_fun_Arg_fun_Arg_fun_many_1_l1C : CutSpec tb := ⟨28, [(0, .val 34), (1, .fnp 138 0), (7, .val 3), (8, .val 3)], [((.exit 0), []), (.ret, [(4, .val 3)])], [9, 10, 5, 11, 12, 13, 14, 15, 16, 17, 4, 18, 8], slices_IndexFunc_fun_Arg_fun_Arg_fun_many_1_l1J⟩
theorem slices_IndexFunc_fun_Arg_fun_Arg_fun_many_1_l1_eq : ∀ back x, evLoop Tryz.prog tb slices_IndexFunc_fun_Arg_fun_Arg_fun_many_1G [] (loopAt 28 Tryz.f216) slices_IndexFunc_fun_Arg_fun_Arg_fun_many_1_l1C.ins slices_IndexFunc_fun_Arg_fun_Arg_fun_many_1_l1C.outs back x = slices_IndexFunc_fun_Arg_fun_Arg_fun_many_1_l1F back x := fun back x => by kernel_rfl
theorem slices_IndexFunc_fun_Arg_fun_Arg_fun_many_1_l1_k : cutB Tryz.f216.ntmps slices_IndexFunc_fun_Arg_fun_Arg_fun_many_1_l1C (loopAt 28 Tryz.f216) = true := by kernel_rfl
theorem slices_IndexFunc_fun_Arg_fun_Arg_fun_many_1_l1_in : cutsOf ([] : List (CutSpec tb)) (loopAt 28 Tryz.f216) = [] := by kernel_rfl
theorem slices_IndexFunc_fun_Arg_fun_Arg_fun_many_1_l1_cut : CutSound Tryz.prog tb Tryz.f216.ntmps (.loop (loopAt 28 Tryz.f216)) slices_IndexFunc_fun_Arg_fun_Arg_fun_many_1_l1C := loop_it mixed slices_IndexFunc_fun_Arg_fun_Arg_fun_many_1_l1_k slices_IndexFunc_fun_Arg_fun_Arg_fun_many_1G_ok rfl slices_IndexFunc_fun_Arg_fun_Arg_fun_many_1_l1_in .nil slices_IndexFunc_fun_Arg_fun_Arg_fun_many_1_l1F slices_IndexFunc_fun_Arg_fun_Arg_fun_many_1_l1_eq rfl
def slices_IndexFunc_fun_Arg_fun_Arg_fun_many_1F (x : List Arg × Unit) : Option (Int) :=
  obnd (slices_IndexFunc_fun_Arg_fun_Arg_fun_many_1_l1J (x.fst, (), (↑x.fst.length : Int), 0)) fun y => osum y (fun y => some (-1)) fun y => some y
def slices_IndexFunc_fun_Arg_fun_Arg_fun_many_1S : FSpec tb := ⟨[(0, .val 34), (1, .fnp 138 0)], [(0, .val 3)], slices_IndexFunc_fun_Arg_fun_Arg_fun_many_1F⟩
theorem slices_IndexFunc_fun_Arg_fun_Arg_fun_many_1_eq : ∀ x, evFn Tryz.prog tb slices_IndexFunc_fun_Arg_fun_Arg_fun_many_1G [slices_IndexFunc_fun_Arg_fun_Arg_fun_many_1_l1C] Tryz.f216 slices_IndexFunc_fun_Arg_fun_Arg_fun_many_1S.ins slices_IndexFunc_fun_Arg_fun_Arg_fun_many_1S.outs x = slices_IndexFunc_fun_Arg_fun_Arg_fun_many_1S.f x := fun x => by kernel_rfl
theorem slices_IndexFunc_fun_Arg_fun_Arg_fun_many_1_k : fnK Tryz.f216 slices_IndexFunc_fun_Arg_fun_Arg_fun_many_1S.ins slices_IndexFunc_fun_Arg_fun_Arg_fun_many_1S.outs = true := by kernel_rfl
theorem slices_IndexFunc_fun_Arg_fun_Arg_fun_many_1_in : cutsOf ([slices_IndexFunc_fun_Arg_fun_Arg_fun_many_1_l1C] : List (CutSpec tb)) (bodyOf Tryz.f216) = [(28, .loop (loopAt 28 Tryz.f216))] := by kernel_rfl
theorem slices_IndexFunc_fun_Arg_fun_Arg_fun_many_1_sound : FnSound Tryz.prog tb 216 slices_IndexFunc_fun_Arg_fun_Arg_fun_many_1S := fn_cut mixed Tryz.func216 slices_IndexFunc_fun_Arg_fun_Arg_fun_many_1_k slices_IndexFunc_fun_Arg_fun_Arg_fun_many_1G_ok rfl slices_IndexFunc_fun_Arg_fun_Arg_fun_many_1_in (.cons rfl slices_IndexFunc_fun_Arg_fun_Arg_fun_many_1_l1_cut rfl .nil) slices_IndexFunc_fun_Arg_fun_Arg_fun_many_1_eq
def slices_ContainsFunc_fun_Arg_fun_Arg_fun_many_1F (x : List Arg × Unit) : Option (Bool) :=
  obnd (slices_IndexFunc_fun_Arg_fun_Arg_fun_many_1F (x.fst, ())) fun y => some (decide (0 ≤ y))
def slices_ContainsFunc_fun_Arg_fun_Arg_fun_many_1S : FSpec tb := ⟨[(0, .val 34), (1, .fnp 138 0)], [(0, .val 4)], slices_ContainsFunc_fun_Arg_fun_Arg_fun_many_1F⟩
theorem slices_ContainsFunc_fun_Arg_fun_Arg_fun_many_1_eq : ∀ x, evFn Tryz.prog tb [(216, slices_IndexFunc_fun_Arg_fun_Arg_fun_many_1S)] [] Tryz.f137 slices_ContainsFunc_fun_Arg_fun_Arg_fun_many_1S.ins slices_ContainsFunc_fun_Arg_fun_Arg_fun_many_1S.outs x = slices_ContainsFunc_fun_Arg_fun_Arg_fun_many_1S.f x := fun x => by kernel_rfl
theorem slices_ContainsFunc_fun_Arg_fun_Arg_fun_many_1_k : fnK Tryz.f137 slices_ContainsFunc_fun_Arg_fun_Arg_fun_many_1S.ins slices_ContainsFunc_fun_Arg_fun_Arg_fun_many_1S.outs = true := by kernel_rfl
theorem slices_ContainsFunc_fun_Arg_fun_Arg_fun_many_1_sound : FnSound Tryz.prog tb 137 slices_ContainsFunc_fun_Arg_fun_Arg_fun_many_1S := fn_ev mixed Tryz.func137 slices_ContainsFunc_fun_Arg_fun_Arg_fun_many_1_k (.cons slices_IndexFunc_fun_Arg_fun_Arg_fun_many_1_sound .nil) rfl slices_ContainsFunc_fun_Arg_fun_Arg_fun_many_1_eq
abbrev fun_countedG : List (Nat × FSpec tb) := [(85, val_NumberS)]
theorem fun_countedG_ok : AllSound Tryz.prog tb fun_countedG := (.cons val_Number_sound .nil)
def fun_counted_l2F (back : Int × Arg × List Val × Int × Int → Option (Int)) (x : Int × Arg × List Val × Int × Int) : Option (Int) :=
  brn (decide (x.2.2.2.snd < x.2.2.2.fst))
    (obnd (idx x.2.2.fst x.2.2.2.snd) fun y =>
      obnd (val_NumberF y) fun y_1 =>
        brn y_1.2.snd
          (brn (!x.2.fst.Area) (back (IntKind.i64.wrap (x.fst + 1), x.2.fst, x.2.2.fst, x.2.2.2.fst, IntKind.i64.wrap (x.2.2.2.snd + 1)))
            (brn (decide (y.Kind = 1)) (back (IntKind.i64.wrap (x.fst + 1), x.2.fst, x.2.2.fst, x.2.2.2.fst, IntKind.i64.wrap (x.2.2.2.snd + 1)))
              (back (x.fst, x.2.fst, x.2.2.fst, x.2.2.2.fst, IntKind.i64.wrap (x.2.2.2.snd + 1)))))
          (back (x.fst, x.2.fst, x.2.2.fst, x.2.2.2.fst, IntKind.i64.wrap (x.2.2.2.snd + 1))))
    (some x.1)
def fun_counted_l2J : Int × Arg × List Val × Int × Int → Option (Int) := iter fun_counted_l2F big
def fun_counted_l2C : CutSpec tb := ⟨60, [(3, .val 3), (5, .ro 48), (18, .val 46), (19, .val 3), (20, .val 3)], [((.exit 2), [(3, .val 3)])], [21, 22, 23, 7, 25, 26, 24, 27, 28, 29, 8, 9, 10, 30, 31, 32, 33, 34, 35, 36, 37, 38, 39, 40, 41, 42, 3, 43, 20], fun_counted_l2J⟩
theorem fun_counted_l2_eq : ∀ back x, evLoop Tryz.prog tb fun_countedG [] (loopAt 60 Tryz.f139) fun_counted_l2C.ins fun_counted_l2C.outs back x = fun_counted_l2F back x := fun back x => by kernel_rfl
theorem fun_counted_l2_k : cutB Tryz.f139.ntmps fun_counted_l2C (loopAt 60 Tryz.f139) = true := by kernel_rfl
theorem fun_counted_l2_in : cutsOf ([] : List (CutSpec tb)) (loopAt 60 Tryz.f139) = [] := by kernel_rfl
theorem fun_counted_l2_cut : CutSound Tryz.prog tb Tryz.f139.ntmps (.loop (loopAt 60 Tryz.f139)) fun_counted_l2C := loop_it mixed fun_counted_l2_k fun_countedG_ok rfl fun_counted_l2_in .nil fun_counted_l2F fun_counted_l2_eq rfl
def fun_counted_l1F (back : Int × List Arg × Int × Int → Option (Int)) (x : Int × List Arg × Int × Int) : Option (Int) :=
  brn (decide (x.2.2.snd < x.2.2.fst))
    (obnd (idx x.2.fst x.2.2.snd) fun y => obnd (fun_counted_l2J (x.fst, y, y.L, (↑y.L.length : Int), 0)) fun y => back (y, x.2.fst, x.2.2.fst, IntKind.i64.wrap (x.2.2.snd + 1)))
    (some x.1)
def fun_counted_l1J : Int × List Arg × Int × Int → Option (Int) := iter fun_counted_l1F big
def fun_counted_l1C : CutSpec tb := ⟨36, [(3, .val 3), (11, .val 34), (12, .val 3), (13, .val 3)], [((.exit 0), [(3, .val 3)])], [14, 15, 16, 5, 17, 18, 19, 20, 21, 22, 23, 7, 25, 26, 24, 27, 28, 29, 8, 9, 10, 30, 31, 32, 33, 34, 35, 36, 37, 38, 39, 40, 41, 42, 3, 43, 44, 13], fun_counted_l1J⟩
theorem fun_counted_l1_eq : ∀ back x, evLoop Tryz.prog tb fun_countedG [fun_counted_l2C] (loopAt 36 Tryz.f139) fun_counted_l1C.ins fun_counted_l1C.outs back x = fun_counted_l1F back x := fun back x => by kernel_rfl
theorem fun_counted_l1_k : cutB Tryz.f139.ntmps fun_counted_l1C (loopAt 36 Tryz.f139) = true := by kernel_rfl
theorem fun_counted_l1_in : cutsOf ([fun_counted_l2C] : List (CutSpec tb)) (loopAt 36 Tryz.f139) = [(60, .loop (loopAt 60 Tryz.f139))] := by kernel_rfl
theorem fun_counted_l1_cut : CutSound Tryz.prog tb Tryz.f139.ntmps (.loop (loopAt 36 Tryz.f139)) fun_counted_l1C := loop_it mixed fun_counted_l1_k fun_countedG_ok rfl fun_counted_l1_in (.cons rfl fun_counted_l2_cut rfl .nil) fun_counted_l1F fun_counted_l1_eq rfl
def fun_countedF (x : List Arg) : Option (Int) :=
  obnd (fun_counted_l1J (0, x, (↑x.length : Int), 0)) fun y => some y
def fun_countedS : FSpec tb := ⟨[(0, .val 34)], [(0, .val 3)], fun_countedF⟩
theorem fun_counted_eq : ∀ x, evFn Tryz.prog tb fun_countedG [fun_counted_l1C] Tryz.f139 fun_countedS.ins fun_countedS.outs x = fun_countedS.f x := fun x => by kernel_rfl
theorem fun_counted_k : fnK Tryz.f139 fun_countedS.ins fun_countedS.outs = true := by kernel_rfl
theorem fun_counted_in : cutsOf ([fun_counted_l1C] : List (CutSpec tb)) (bodyOf Tryz.f139) = [(36, .loop (loopAt 36 Tryz.f139))] := by kernel_rfl
theorem fun_counted_sound : FnSound Tryz.prog tb 139 fun_countedS := fn_cut mixed Tryz.func139 fun_counted_k fun_countedG_ok rfl fun_counted_in (.cons rfl fun_counted_l1_cut rfl .nil) fun_counted_eq
def fun_numF (x : Dec × Int) : Option (Val) :=
  brn (decide (x.snd = 0)) (some { Kind := 1, N := x.fst, S := [], B := false, E := 0 })
    (brn (decide (x.snd = 9)) (obnd (val_FaultF 7) fun y => some y) (obnd (val_FaultF 36) fun y => some y))
def fun_numS : FSpec tb := ⟨[(0, .val 30), (1, .val 63)], [(0, .val 32)], fun_numF⟩
theorem fun_num_eq : ∀ x, evFn Tryz.prog tb [(32, val_FaultS)] [] Tryz.f86 fun_numS.ins fun_numS.outs x = fun_numS.f x := fun x => by kernel_rfl
theorem fun_num_k : fnK Tryz.f86 fun_numS.ins fun_numS.outs = true := by kernel_rfl
theorem fun_num_sound : FnSound Tryz.prog tb 86 fun_numS := fn_ev mixed Tryz.func86 fun_num_k (.cons val_Fault_sound .nil) rfl fun_num_eq
def fun_integerF (x : Int) : Option (Val) :=
  obnd (dec_IntF x) fun y => obnd (fun_numF (y, 0)) fun y => some y
def fun_integerS : FSpec tb := ⟨[(0, .val 3)], [(0, .val 32)], fun_integerF⟩
theorem fun_integer_eq : ∀ x, evFn Tryz.prog tb [(33, dec_IntS), (86, fun_numS)] [] Tryz.f64 fun_integerS.ins fun_integerS.outs x = fun_integerS.f x := fun x => by kernel_rfl
theorem fun_integer_k : fnK Tryz.f64 fun_integerS.ins fun_integerS.outs = true := by kernel_rfl
theorem fun_integer_sound : FnSound Tryz.prog tb 64 fun_integerS := fn_ev mixed Tryz.func64 fun_integer_k (.cons dec_Int_sound (.cons fun_num_sound .nil)) rfl fun_integer_eq
abbrev fun_truthsG : List (Nat × FSpec tb) := [(65, val_TruthS)]
theorem fun_truthsG_ok : AllSound Tryz.prog tb fun_truthsG := (.cons val_Truth_sound .nil)
def fun_truths_l2F (back : Val × List (Bool) × Arg × List Val × Int × Int → Option (((List (Bool)) × Val) ⊕ ((List (Bool) × Bool) × Val))) (x : Val × List (Bool) × Arg × List Val × Int × Int) : Option (((List (Bool)) × Val) ⊕ ((List (Bool) × Bool) × Val)) :=
  brn (decide (x.2.2.2.2.snd < x.2.2.2.2.fst))
    (obnd (idx x.2.2.2.fst x.2.2.2.2.snd) fun y =>
      brn x.2.2.fst.Area
        (brn (!decide (y.Kind = 1))
          (brn (!decide (y.Kind = 3))
            (brn (!decide (y.Kind = 4)) (back (x.fst, x.2.fst, x.2.2.fst, x.2.2.2.fst, x.2.2.2.2.fst, IntKind.i64.wrap (x.2.2.2.2.snd + 1)))
              (obnd (val_TruthF y) fun y =>
                brn (!y.2.snd) (some (Sum.inr (([], false), y.2.fst)))
                  (obnd (app 1 x.2.fst [y.fst]) fun zs => back (x.fst, zs, x.2.2.fst, x.2.2.2.fst, x.2.2.2.2.fst, IntKind.i64.wrap (x.2.2.2.2.snd + 1)))))
            (obnd (val_TruthF y) fun y =>
              brn (!y.2.snd) (some (Sum.inr (([], false), y.2.fst)))
                (obnd (app 1 x.2.fst [y.fst]) fun zs => back (x.fst, zs, x.2.2.fst, x.2.2.2.fst, x.2.2.2.2.fst, IntKind.i64.wrap (x.2.2.2.2.snd + 1)))))
          (obnd (val_TruthF y) fun y =>
            brn (!y.2.snd) (some (Sum.inr (([], false), y.2.fst)))
              (obnd (app 1 x.2.fst [y.fst]) fun zs => back (x.fst, zs, x.2.2.fst, x.2.2.2.fst, x.2.2.2.2.fst, IntKind.i64.wrap (x.2.2.2.2.snd + 1)))))
        (obnd (val_TruthF y) fun y =>
          brn (!y.2.snd) (some (Sum.inr (([], false), y.2.fst)))
            (obnd (app 1 x.2.fst [y.fst]) fun zs => back (x.fst, zs, x.2.2.fst, x.2.2.2.fst, x.2.2.2.2.fst, IntKind.i64.wrap (x.2.2.2.2.snd + 1)))))
    (some (Sum.inl (x.2.fst, x.fst)))
def fun_truths_l2J : Val × List (Bool) × Arg × List Val × Int × Int → Option (((List (Bool)) × Val) ⊕ ((List (Bool) × Bool) × Val)) := iter fun_truths_l2F big
def fun_truths_l2C : CutSpec tb := ⟨60, [(3, .ref 32), (5, .own 4), (7, .ro 48), (20, .val 46), (21, .val 3), (22, .val 3)], [((.exit 2), [(5, .own 4)]), (.ret, [(2, .own 4), (4, .val 4)])], [23, 24, 25, 9, 26, 27, 28, 29, 30, 31, 32, 33, 34, 35, 36, 37, 38, 39, 40, 41, 42, 44, 45, 43, 46, 47, 48, 11, 10, 12, 49, 50, 51, 2, 4, 52, 53, 54, 55, 5, 56, 22], fun_truths_l2J⟩
theorem fun_truths_l2_eq : ∀ back x, evLoop Tryz.prog tb fun_truthsG [] (loopAt 60 Tryz.f140) fun_truths_l2C.ins fun_truths_l2C.outs back x = fun_truths_l2F back x := fun back x => by kernel_rfl
theorem fun_truths_l2_k : cutB Tryz.f140.ntmps fun_truths_l2C (loopAt 60 Tryz.f140) = true := by kernel_rfl
theorem fun_truths_l2_in : cutsOf ([] : List (CutSpec tb)) (loopAt 60 Tryz.f140) = [] := by kernel_rfl
theorem fun_truths_l2_cut : CutSound Tryz.prog tb Tryz.f140.ntmps (.loop (loopAt 60 Tryz.f140)) fun_truths_l2C := loop_it mixed fun_truths_l2_k fun_truthsG_ok rfl fun_truths_l2_in .nil fun_truths_l2F fun_truths_l2_eq rfl
def fun_truths_l1F (back : Val × List (Bool) × List Arg × Int × Int → Option (((List (Bool)) × Val) ⊕ ((List (Bool) × Bool) × Val))) (x : Val × List (Bool) × List Arg × Int × Int) : Option (((List (Bool)) × Val) ⊕ ((List (Bool) × Bool) × Val)) :=
  brn (decide (x.2.2.2.snd < x.2.2.2.fst))
    (obnd (idx x.2.2.fst x.2.2.2.snd) fun y =>
      obnd (fun_truths_l2J (x.fst, x.2.fst, y, y.L, (↑y.L.length : Int), 0)) fun y =>
        osum y (fun y => back (y.2, y.1, x.2.2.fst, x.2.2.2.fst, IntKind.i64.wrap (x.2.2.2.snd + 1))) fun y => some (Sum.inr (y.1, y.2)))
    (some (Sum.inl (x.2.fst, x.fst)))
def fun_truths_l1J : Val × List (Bool) × List Arg × Int × Int → Option (((List (Bool)) × Val) ⊕ ((List (Bool) × Bool) × Val)) := iter fun_truths_l1F big
def fun_truths_l1C : CutSpec tb := ⟨36, [(3, .ref 32), (5, .own 4), (13, .val 34), (14, .val 3), (15, .val 3)], [((.exit 0), [(5, .own 4)]), (.ret, [(2, .own 4), (4, .val 4)])], [16, 17, 18, 7, 19, 20, 21, 22, 23, 24, 25, 9, 26, 27, 28, 29, 30, 31, 32, 33, 34, 35, 36, 37, 38, 39, 40, 41, 42, 44, 45, 43, 46, 47, 48, 11, 10, 12, 49, 50, 51, 2, 4, 52, 53, 54, 55, 5, 56, 57, 15], fun_truths_l1J⟩
theorem fun_truths_l1_eq : ∀ back x, evLoop Tryz.prog tb fun_truthsG [fun_truths_l2C] (loopAt 36 Tryz.f140) fun_truths_l1C.ins fun_truths_l1C.outs back x = fun_truths_l1F back x := fun back x => by kernel_rfl
theorem fun_truths_l1_k : cutB Tryz.f140.ntmps fun_truths_l1C (loopAt 36 Tryz.f140) = true := by kernel_rfl
theorem fun_truths_l1_in : cutsOf ([fun_truths_l2C] : List (CutSpec tb)) (loopAt 36 Tryz.f140) = [(60, .loop (loopAt 60 Tryz.f140))] := by kernel_rfl
theorem fun_truths_l1_cut : CutSound Tryz.prog tb Tryz.f140.ntmps (.loop (loopAt 36 Tryz.f140)) fun_truths_l1C := loop_it mixed fun_truths_l1_k fun_truthsG_ok rfl fun_truths_l1_in (.cons rfl fun_truths_l2_cut rfl .nil) fun_truths_l1F fun_truths_l1_eq rfl
def fun_truthsF (x : List Arg) : Option (List (Bool) × Val × Bool) :=
  obnd (fun_truths_l1J ({ Kind := 0, N := { M := 0, S := 0 }, S := [], B := false, E := 0 }, [], x, (↑x.length : Int), 0)) fun y =>
    osum y (fun y => some (y.1, { Kind := 0, N := { M := 0, S := 0 }, S := [], B := false, E := 0 }, decide (0 < (↑(List.length y.1) : Int)))) fun y => some (y.1.fst, y.2, y.1.snd)
def fun_truthsS : FSpec tb := ⟨[(0, .val 34)], [(0, .own 4), (1, .val 32), (2, .val 4)], fun_truthsF⟩
theorem fun_truths_eq : ∀ x, evFn Tryz.prog tb fun_truthsG [fun_truths_l1C] Tryz.f140 fun_truthsS.ins fun_truthsS.outs x = fun_truthsS.f x := fun x => by kernel_rfl
theorem fun_truths_k : fnK Tryz.f140 fun_truthsS.ins fun_truthsS.outs = true := by kernel_rfl
theorem fun_truths_in : cutsOf ([fun_truths_l1C] : List (CutSpec tb)) (bodyOf Tryz.f140) = [(36, .loop (loopAt 36 Tryz.f140))] := by kernel_rfl
theorem fun_truths_sound : FnSound Tryz.prog tb 140 fun_truthsS := fn_cut mixed Tryz.func140 fun_truths_k fun_truthsG_ok rfl fun_truths_in (.cons rfl fun_truths_l1_cut rfl .nil) fun_truths_eq
def slices_Index_bool_bool_l1F (back : List Bool × Bool × Int × Int → Option ((Unit) ⊕ (Int))) (x : List Bool × Bool × Int × Int) : Option ((Unit) ⊕ (Int)) :=
  brn (decide (x.2.2.snd < x.2.2.fst))
    (obnd (idx x.fst x.2.2.snd) fun y => brn (decide (x.2.fst = y)) (some (Sum.inr x.2.2.2)) (back (x.fst, x.2.fst, x.2.2.fst, IntKind.i64.wrap (x.2.2.snd + 1))))
    (some (Sum.inl PUnit.unit))
def slices_Index_bool_bool_l1J : List Bool × Bool × Int × Int → Option ((Unit) ⊕ (Int)) := iter slices_Index_bool_bool_l1F big
def slices_Index_bool_bool_l1C : CutSpec tb := ⟨28, [(0, .val 147), (1, .val 4), (7, .val 3), (8, .val 3)], [((.exit 0), []), (.ret, [(4, .val 3)])], [9, 10, 5, 11, 12, 13, 14, 15, 16, 17, 4, 18, 8], slices_Index_bool_bool_l1J⟩
theorem slices_Index_bool_bool_l1_eq : ∀ back x, evLoop Tryz.prog tb [] [] (loopAt 28 Tryz.f217) slices_Index_bool_bool_l1C.ins slices_Index_bool_bool_l1C.outs back x = slices_Index_bool_bool_l1F back x := fun back x => by kernel_rfl
theorem slices_Index_bool_bool_l1_k : cutB Tryz.f217.ntmps slices_Index_bool_bool_l1C (loopAt 28 Tryz.f217) = true := by kernel_rfl
theorem slices_Index_bool_bool_l1_in : cutsOf ([] : List (CutSpec tb)) (loopAt 28 Tryz.f217) = [] := by kernel_rfl
theorem slices_Index_bool_bool_l1_cut : CutSound Tryz.prog tb Tryz.f217.ntmps (.loop (loopAt 28 Tryz.f217)) slices_Index_bool_bool_l1C := loop_it mixed slices_Index_bool_bool_l1_k .nil rfl slices_Index_bool_bool_l1_in .nil slices_Index_bool_bool_l1F slices_Index_bool_bool_l1_eq rfl
def slices_Index_bool_boolF (x : List Bool × Bool) : Option (Int) :=
  obnd (slices_Index_bool_bool_l1J (x.fst, x.snd, (↑x.fst.length : Int), 0)) fun y => osum y (fun y => some (-1)) fun y => some y
def slices_Index_bool_boolS : FSpec tb := ⟨[(0, .val 147), (1, .val 4)], [(0, .val 3)], slices_Index_bool_boolF⟩
theorem slices_Index_bool_bool_eq : ∀ x, evFn Tryz.prog tb [] [slices_Index_bool_bool_l1C] Tryz.f217 slices_Index_bool_boolS.ins slices_Index_bool_boolS.outs x = slices_Index_bool_boolS.f x := fun x => by kernel_rfl
theorem slices_Index_bool_bool_k : fnK Tryz.f217 slices_Index_bool_boolS.ins slices_Index_bool_boolS.outs = true := by kernel_rfl
theorem slices_Index_bool_bool_in : cutsOf ([slices_Index_bool_bool_l1C] : List (CutSpec tb)) (bodyOf Tryz.f217) = [(28, .loop (loopAt 28 Tryz.f217))] := by kernel_rfl
theorem slices_Index_bool_bool_sound : FnSound Tryz.prog tb 217 slices_Index_bool_boolS := fn_cut mixed Tryz.func217 slices_Index_bool_bool_k .nil rfl slices_Index_bool_bool_in (.cons rfl slices_Index_bool_bool_l1_cut rfl .nil) slices_Index_bool_bool_eq
def slices_Contains_bool_boolF (x : List Bool × Bool) : Option (Bool) :=
  obnd (slices_Index_bool_boolF x) fun y => some (decide (0 ≤ y))
def slices_Contains_bool_boolS : FSpec tb := ⟨[(0, .val 147), (1, .val 4)], [(0, .val 4)], slices_Contains_bool_boolF⟩
theorem slices_Contains_bool_bool_eq : ∀ x, evFn Tryz.prog tb [(217, slices_Index_bool_boolS)] [] Tryz.f141 slices_Contains_bool_boolS.ins slices_Contains_bool_boolS.outs x = slices_Contains_bool_boolS.f x := fun x => by kernel_rfl
theorem slices_Contains_bool_bool_k : fnK Tryz.f141 slices_Contains_bool_boolS.ins slices_Contains_bool_boolS.outs = true := by kernel_rfl
theorem slices_Contains_bool_bool_sound : FnSound Tryz.prog tb 141 slices_Contains_bool_boolS := fn_ev mixed Tryz.func141 slices_Contains_bool_bool_k (.cons slices_Index_bool_bool_sound .nil) rfl slices_Contains_bool_bool_eq
def fun_truthF (x : Bool) : Option (Val) :=
  some { Kind := 3, N := { M := 0, S := 0 }, S := [], B := x, E := 0 }
def fun_truthS : FSpec tb := ⟨[(0, .val 4)], [(0, .val 32)], fun_truthF⟩
theorem fun_truth_eq : ∀ x, evFn Tryz.prog tb [] [] Tryz.f63 fun_truthS.ins fun_truthS.outs x = fun_truthS.f x := fun x => by kernel_rfl
theorem fun_truth_k : fnK Tryz.f63 fun_truthS.ins fun_truthS.outs = true := by kernel_rfl
theorem fun_truth_sound : FnSound Tryz.prog tb 63 fun_truthS := fn_ev mixed Tryz.func63 fun_truth_k .nil rfl fun_truth_eq
def fun_textF (x : List UInt8) : Option (Val) :=
  obnd (str_UnitsF x) fun y => brn (!decide (y.snd = 0)) (obnd (val_FaultF 15) fun y => some y) (some { Kind := 2, N := { M := 0, S := 0 }, S := x, B := false, E := 0 })
def fun_textS : FSpec tb := ⟨[(0, .val 9)], [(0, .val 32)], fun_textF⟩
theorem fun_text_eq : ∀ x, evFn Tryz.prog tb [(101, str_UnitsS), (32, val_FaultS)] [] Tryz.f83 fun_textS.ins fun_textS.outs x = fun_textS.f x := fun x => by kernel_rfl
theorem fun_text_k : fnK Tryz.f83 fun_textS.ins fun_textS.outs = true := by kernel_rfl
theorem fun_text_sound : FnSound Tryz.prog tb 83 fun_textS := fn_ev mixed Tryz.func83 fun_text_k (.cons str_Units_sound (.cons val_Fault_sound .nil)) rfl fun_text_eq
abbrev fun_numbersG : List (Nat × FSpec tb) := [(85, val_NumberS)]
theorem fun_numbersG_ok : AllSound Tryz.prog tb fun_numbersG := (.cons val_Number_sound .nil)
def fun_numbers_l2F (back : Val × List (Dec) × Arg × List Val × Int × Int → Option (((List (Dec)) × Val) ⊕ ((List (Dec) × Bool) × Val))) (x : Val × List (Dec) × Arg × List Val × Int × Int) : Option (((List (Dec)) × Val) ⊕ ((List (Dec) × Bool) × Val)) :=
  brn (decide (x.2.2.2.2.snd < x.2.2.2.2.fst))
    (obnd (idx x.2.2.2.fst x.2.2.2.2.snd) fun y =>
      brn x.2.2.fst.Area
        (brn (!decide (y.Kind = 1))
          (brn (!decide (y.Kind = 4)) (back (x.fst, x.2.fst, x.2.2.fst, x.2.2.2.fst, x.2.2.2.2.fst, IntKind.i64.wrap (x.2.2.2.2.snd + 1)))
            (obnd (val_NumberF y) fun y =>
              brn (!y.2.snd) (some (Sum.inr (([], false), y.2.fst)))
                (obnd (app 16 x.2.fst [y.fst]) fun zs => back (x.fst, zs, x.2.2.fst, x.2.2.2.fst, x.2.2.2.2.fst, IntKind.i64.wrap (x.2.2.2.2.snd + 1)))))
          (obnd (val_NumberF y) fun y =>
            brn (!y.2.snd) (some (Sum.inr (([], false), y.2.fst)))
              (obnd (app 16 x.2.fst [y.fst]) fun zs => back (x.fst, zs, x.2.2.fst, x.2.2.2.fst, x.2.2.2.2.fst, IntKind.i64.wrap (x.2.2.2.2.snd + 1)))))
        (obnd (val_NumberF y) fun y =>
          brn (!y.2.snd) (some (Sum.inr (([], false), y.2.fst)))
            (obnd (app 16 x.2.fst [y.fst]) fun zs => back (x.fst, zs, x.2.2.fst, x.2.2.2.fst, x.2.2.2.2.fst, IntKind.i64.wrap (x.2.2.2.2.snd + 1)))))
    (some (Sum.inl (x.2.fst, x.fst)))
def fun_numbers_l2J : Val × List (Dec) × Arg × List Val × Int × Int → Option (((List (Dec)) × Val) ⊕ ((List (Dec) × Bool) × Val)) := iter fun_numbers_l2F big
def fun_numbers_l2C : CutSpec tb := ⟨60, [(3, .ref 32), (5, .own 30), (7, .ro 48), (20, .val 46), (21, .val 3), (22, .val 3)], [((.exit 2), [(5, .own 30)]), (.ret, [(2, .own 30), (4, .val 4)])], [23, 24, 25, 9, 26, 27, 28, 29, 30, 31, 32, 33, 34, 35, 36, 37, 39, 40, 38, 41, 42, 43, 10, 11, 12, 44, 45, 46, 2, 4, 47, 48, 49, 50, 5, 51, 22], fun_numbers_l2J⟩
theorem fun_numbers_l2_eq : ∀ back x, evLoop Tryz.prog tb fun_numbersG [] (loopAt 60 Tryz.f145) fun_numbers_l2C.ins fun_numbers_l2C.outs back x = fun_numbers_l2F back x := fun back x => by kernel_rfl
theorem fun_numbers_l2_k : cutB Tryz.f145.ntmps fun_numbers_l2C (loopAt 60 Tryz.f145) = true := by kernel_rfl
theorem fun_numbers_l2_in : cutsOf ([] : List (CutSpec tb)) (loopAt 60 Tryz.f145) = [] := by kernel_rfl
theorem fun_numbers_l2_cut : CutSound Tryz.prog tb Tryz.f145.ntmps (.loop (loopAt 60 Tryz.f145)) fun_numbers_l2C := loop_it mixed fun_numbers_l2_k fun_numbersG_ok rfl fun_numbers_l2_in .nil fun_numbers_l2F fun_numbers_l2_eq rfl
def fun_numbers_l1F (back : Val × List (Dec) × List Arg × Int × Int → Option (((List (Dec)) × Val) ⊕ ((List (Dec) × Bool) × Val))) (x : Val × List (Dec) × List Arg × Int × Int) : Option (((List (Dec)) × Val) ⊕ ((List (Dec) × Bool) × Val)) :=
  brn (decide (x.2.2.2.snd < x.2.2.2.fst))
    (obnd (idx x.2.2.fst x.2.2.2.snd) fun y =>
      obnd (fun_numbers_l2J (x.fst, x.2.fst, y, y.L, (↑y.L.length : Int), 0)) fun y =>
        osum y (fun y => back (y.2, y.1, x.2.2.fst, x.2.2.2.fst, IntKind.i64.wrap (x.2.2.2.snd + 1))) fun y => some (Sum.inr (y.1, y.2)))
    (some (Sum.inl (x.2.fst, x.fst)))
def fun_numbers_l1J : Val × List (Dec) × List Arg × Int × Int → Option (((List (Dec)) × Val) ⊕ ((List (Dec) × Bool) × Val)) := iter fun_numbers_l1F big
def fun_numbers_l1C : CutSpec tb := ⟨36, [(3, .ref 32), (5, .own 30), (13, .val 34), (14, .val 3), (15, .val 3)], [((.exit 0), [(5, .own 30)]), (.ret, [(2, .own 30), (4, .val 4)])], [16, 17, 18, 7, 19, 20, 21, 22, 23, 24, 25, 9, 26, 27, 28, 29, 30, 31, 32, 33, 34, 35, 36, 37, 39, 40, 38, 41, 42, 43, 10, 11, 12, 44, 45, 46, 2, 4, 47, 48, 49, 50, 5, 51, 52, 15], fun_numbers_l1J⟩
theorem fun_numbers_l1_eq : ∀ back x, evLoop Tryz.prog tb fun_numbersG [fun_numbers_l2C] (loopAt 36 Tryz.f145) fun_numbers_l1C.ins fun_numbers_l1C.outs back x = fun_numbers_l1F back x := fun back x => by kernel_rfl
theorem fun_numbers_l1_k : cutB Tryz.f145.ntmps fun_numbers_l1C (loopAt 36 Tryz.f145) = true := by kernel_rfl
theorem fun_numbers_l1_in : cutsOf ([fun_numbers_l2C] : List (CutSpec tb)) (loopAt 36 Tryz.f145) = [(60, .loop (loopAt 60 Tryz.f145))] := by kernel_rfl
theorem fun_numbers_l1_cut : CutSound Tryz.prog tb Tryz.f145.ntmps (.loop (loopAt 36 Tryz.f145)) fun_numbers_l1C := loop_it mixed fun_numbers_l1_k fun_numbersG_ok rfl fun_numbers_l1_in (.cons rfl fun_numbers_l2_cut rfl .nil) fun_numbers_l1F fun_numbers_l1_eq rfl
def fun_numbersF (x : List Arg) : Option (List (Dec) × Val × Bool) :=
  obnd (fun_numbers_l1J ({ Kind := 0, N := { M := 0, S := 0 }, S := [], B := false, E := 0 }, [], x, (↑x.length : Int), 0)) fun y =>
    osum y (fun y => some (y.1, { Kind := 0, N := { M := 0, S := 0 }, S := [], B := false, E := 0 }, true)) fun y => some (y.1.fst, y.2, y.1.snd)
def fun_numbersS : FSpec tb := ⟨[(0, .val 34)], [(0, .own 30), (1, .val 32), (2, .val 4)], fun_numbersF⟩
theorem fun_numbers_eq : ∀ x, evFn Tryz.prog tb fun_numbersG [fun_numbers_l1C] Tryz.f145 fun_numbersS.ins fun_numbersS.outs x = fun_numbersS.f x := fun x => by kernel_rfl
theorem fun_numbers_k : fnK Tryz.f145 fun_numbersS.ins fun_numbersS.outs = true := by kernel_rfl
theorem fun_numbers_in : cutsOf ([fun_numbers_l1C] : List (CutSpec tb)) (bodyOf Tryz.f145) = [(36, .loop (loopAt 36 Tryz.f145))] := by kernel_rfl
theorem fun_numbers_sound : FnSound Tryz.prog tb 145 fun_numbersS := fn_cut mixed Tryz.func145 fun_numbers_k fun_numbersG_ok rfl fun_numbers_in (.cons rfl fun_numbers_l1_cut rfl .nil) fun_numbers_eq
abbrev slices_MinFunc_dec_Dec_dec_Dec_dec_CompareG : List (Nat × FSpec tb) := [(34, dec_CompareS)]
theorem slices_MinFunc_dec_Dec_dec_Dec_dec_CompareG_ok : AllSound Tryz.prog tb slices_MinFunc_dec_Dec_dec_Dec_dec_CompareG := (.cons dec_Compare_sound .nil)
def slices_MinFunc_dec_Dec_dec_Dec_dec_Compare_l1F (back : List Dec × Unit × Dec × Int → Option ((Unit) × Dec)) (x : List Dec × Unit × Dec × Int) : Option ((Unit) × Dec) :=
  brn (decide (x.2.2.snd < (↑x.fst.length : Int)))
    (obnd (idx x.fst x.2.2.snd) fun y =>
      obnd (dec_CompareF (y, x.2.2.fst)) fun y =>
        brn (decide (y < 0)) (obnd (idx x.fst x.2.2.snd) fun y => back (x.fst, (), y, IntKind.i64.wrap (x.2.2.snd + 1)))
          (back (x.fst, (), x.2.2.fst, IntKind.i64.wrap (x.2.2.snd + 1))))
    (some ((), x.2.2.fst))
def slices_MinFunc_dec_Dec_dec_Dec_dec_Compare_l1J : List Dec × Unit × Dec × Int → Option ((Unit) × Dec) := iter slices_MinFunc_dec_Dec_dec_Dec_dec_Compare_l1F big
def slices_MinFunc_dec_Dec_dec_Dec_dec_Compare_l1C : CutSpec tb := ⟨52, [(0, .val 226), (1, .fnp 34 0), (5, .ref 30), (6, .val 3)], [((.exit 0), [])], [14, 15, 16, 17, 20, 21, 22, 23, 24, 25, 26, 27, 28, 29, 30, 31, 18, 19, 6], slices_MinFunc_dec_Dec_dec_Dec_dec_Compare_l1J⟩
theorem slices_MinFunc_dec_Dec_dec_Dec_dec_Compare_l1_eq : ∀ back x, evLoop Tryz.prog tb slices_MinFunc_dec_Dec_dec_Dec_dec_CompareG [] (loopAt 52 Tryz.f146) slices_MinFunc_dec_Dec_dec_Dec_dec_Compare_l1C.ins slices_MinFunc_dec_Dec_dec_Dec_dec_Compare_l1C.outs back x = slices_MinFunc_dec_Dec_dec_Dec_dec_Compare_l1F back x := fun back x => by kernel_rfl
theorem slices_MinFunc_dec_Dec_dec_Dec_dec_Compare_l1_k : cutB Tryz.f146.ntmps slices_MinFunc_dec_Dec_dec_Dec_dec_Compare_l1C (loopAt 52 Tryz.f146) = true := by kernel_rfl
theorem slices_MinFunc_dec_Dec_dec_Dec_dec_Compare_l1_in : cutsOf ([] : List (CutSpec tb)) (loopAt 52 Tryz.f146) = [] := by kernel_rfl
theorem slices_MinFunc_dec_Dec_dec_Dec_dec_Compare_l1_cut : CutSound Tryz.prog tb Tryz.f146.ntmps (.loop (loopAt 52 Tryz.f146)) slices_MinFunc_dec_Dec_dec_Dec_dec_Compare_l1C := loop_it mixed slices_MinFunc_dec_Dec_dec_Dec_dec_Compare_l1_k slices_MinFunc_dec_Dec_dec_Dec_dec_CompareG_ok rfl slices_MinFunc_dec_Dec_dec_Dec_dec_Compare_l1_in .nil slices_MinFunc_dec_Dec_dec_Dec_dec_Compare_l1F slices_MinFunc_dec_Dec_dec_Dec_dec_Compare_l1_eq rfl
def slices_MinFunc_dec_Dec_dec_Dec_dec_CompareF (x : List Dec × Unit) : Option (Dec) :=
  brn (decide ((↑x.fst.length : Int) < 1)) none (obnd (idx x.fst 0) fun y => obnd (slices_MinFunc_dec_Dec_dec_Dec_dec_Compare_l1J (x.fst, (), y, 1)) fun y => some y.2)
def slices_MinFunc_dec_Dec_dec_Dec_dec_CompareS : FSpec tb := ⟨[(0, .val 226), (1, .fnp 34 0)], [(0, .val 30)], slices_MinFunc_dec_Dec_dec_Dec_dec_CompareF⟩
theorem slices_MinFunc_dec_Dec_dec_Dec_dec_Compare_eq : ∀ x, evFn Tryz.prog tb slices_MinFunc_dec_Dec_dec_Dec_dec_CompareG [slices_MinFunc_dec_Dec_dec_Dec_dec_Compare_l1C] Tryz.f146 slices_MinFunc_dec_Dec_dec_Dec_dec_CompareS.ins slices_MinFunc_dec_Dec_dec_Dec_dec_CompareS.outs x = slices_MinFunc_dec_Dec_dec_Dec_dec_CompareS.f x := fun x => by kernel_rfl
theorem slices_MinFunc_dec_Dec_dec_Dec_dec_Compare_k : fnK Tryz.f146 slices_MinFunc_dec_Dec_dec_Dec_dec_CompareS.ins slices_MinFunc_dec_Dec_dec_Dec_dec_CompareS.outs = true := by kernel_rfl
theorem slices_MinFunc_dec_Dec_dec_Dec_dec_Compare_in : cutsOf ([slices_MinFunc_dec_Dec_dec_Dec_dec_Compare_l1C] : List (CutSpec tb)) (bodyOf Tryz.f146) = [(52, .loop (loopAt 52 Tryz.f146))] := by kernel_rfl
theorem slices_MinFunc_dec_Dec_dec_Dec_dec_Compare_sound : FnSound Tryz.prog tb 146 slices_MinFunc_dec_Dec_dec_Dec_dec_CompareS := fn_cut mixed Tryz.func146 slices_MinFunc_dec_Dec_dec_Dec_dec_Compare_k slices_MinFunc_dec_Dec_dec_Dec_dec_CompareG_ok rfl slices_MinFunc_dec_Dec_dec_Dec_dec_Compare_in (.cons rfl slices_MinFunc_dec_Dec_dec_Dec_dec_Compare_l1_cut rfl .nil) slices_MinFunc_dec_Dec_dec_Dec_dec_Compare_eq
abbrev slices_MaxFunc_dec_Dec_dec_Dec_dec_CompareG : List (Nat × FSpec tb) := [(34, dec_CompareS)]
theorem slices_MaxFunc_dec_Dec_dec_Dec_dec_CompareG_ok : AllSound Tryz.prog tb slices_MaxFunc_dec_Dec_dec_Dec_dec_CompareG := (.cons dec_Compare_sound .nil)
def slices_MaxFunc_dec_Dec_dec_Dec_dec_Compare_l1F (back : List Dec × Unit × Dec × Int → Option ((Unit) × Dec)) (x : List Dec × Unit × Dec × Int) : Option ((Unit) × Dec) :=
  brn (decide (x.2.2.snd < (↑x.fst.length : Int)))
    (obnd (idx x.fst x.2.2.snd) fun y =>
      obnd (dec_CompareF (y, x.2.2.fst)) fun y =>
        brn (decide (0 < y)) (obnd (idx x.fst x.2.2.snd) fun y => back (x.fst, (), y, IntKind.i64.wrap (x.2.2.snd + 1)))
          (back (x.fst, (), x.2.2.fst, IntKind.i64.wrap (x.2.2.snd + 1))))
    (some ((), x.2.2.fst))
def slices_MaxFunc_dec_Dec_dec_Dec_dec_Compare_l1J : List Dec × Unit × Dec × Int → Option ((Unit) × Dec) := iter slices_MaxFunc_dec_Dec_dec_Dec_dec_Compare_l1F big
def slices_MaxFunc_dec_Dec_dec_Dec_dec_Compare_l1C : CutSpec tb := ⟨52, [(0, .val 226), (1, .fnp 34 0), (5, .ref 30), (6, .val 3)], [((.exit 0), [])], [14, 15, 16, 17, 20, 21, 22, 23, 24, 25, 26, 27, 28, 29, 30, 31, 18, 19, 6], slices_MaxFunc_dec_Dec_dec_Dec_dec_Compare_l1J⟩
theorem slices_MaxFunc_dec_Dec_dec_Dec_dec_Compare_l1_eq : ∀ back x, evLoop Tryz.prog tb slices_MaxFunc_dec_Dec_dec_Dec_dec_CompareG [] (loopAt 52 Tryz.f147) slices_MaxFunc_dec_Dec_dec_Dec_dec_Compare_l1C.ins slices_MaxFunc_dec_Dec_dec_Dec_dec_Compare_l1C.outs back x = slices_MaxFunc_dec_Dec_dec_Dec_dec_Compare_l1F back x := fun back x => by kernel_rfl
theorem slices_MaxFunc_dec_Dec_dec_Dec_dec_Compare_l1_k : cutB Tryz.f147.ntmps slices_MaxFunc_dec_Dec_dec_Dec_dec_Compare_l1C (loopAt 52 Tryz.f147) = true := by kernel_rfl
theorem slices_MaxFunc_dec_Dec_dec_Dec_dec_Compare_l1_in : cutsOf ([] : List (CutSpec tb)) (loopAt 52 Tryz.f147) = [] := by kernel_rfl
theorem slices_MaxFunc_dec_Dec_dec_Dec_dec_Compare_l1_cut : CutSound Tryz.prog tb Tryz.f147.ntmps (.loop (loopAt 52 Tryz.f147)) slices_MaxFunc_dec_Dec_dec_Dec_dec_Compare_l1C := loop_it mixed slices_MaxFunc_dec_Dec_dec_Dec_dec_Compare_l1_k slices_MaxFunc_dec_Dec_dec_Dec_dec_CompareG_ok rfl slices_MaxFunc_dec_Dec_dec_Dec_dec_Compare_l1_in .nil slices_MaxFunc_dec_Dec_dec_Dec_dec_Compare_l1F slices_MaxFunc_dec_Dec_dec_Dec_dec_Compare_l1_eq rfl
def slices_MaxFunc_dec_Dec_dec_Dec_dec_CompareF (x : List Dec × Unit) : Option (Dec) :=
  brn (decide ((↑x.fst.length : Int) < 1)) none (obnd (idx x.fst 0) fun y => obnd (slices_MaxFunc_dec_Dec_dec_Dec_dec_Compare_l1J (x.fst, (), y, 1)) fun y => some y.2)
def slices_MaxFunc_dec_Dec_dec_Dec_dec_CompareS : FSpec tb := ⟨[(0, .val 226), (1, .fnp 34 0)], [(0, .val 30)], slices_MaxFunc_dec_Dec_dec_Dec_dec_CompareF⟩
theorem slices_MaxFunc_dec_Dec_dec_Dec_dec_Compare_eq : ∀ x, evFn Tryz.prog tb slices_MaxFunc_dec_Dec_dec_Dec_dec_CompareG [slices_MaxFunc_dec_Dec_dec_Dec_dec_Compare_l1C] Tryz.f147 slices_MaxFunc_dec_Dec_dec_Dec_dec_CompareS.ins slices_MaxFunc_dec_Dec_dec_Dec_dec_CompareS.outs x = slices_MaxFunc_dec_Dec_dec_Dec_dec_CompareS.f x := fun x => by kernel_rfl
theorem slices_MaxFunc_dec_Dec_dec_Dec_dec_Compare_k : fnK Tryz.f147 slices_MaxFunc_dec_Dec_dec_Dec_dec_CompareS.ins slices_MaxFunc_dec_Dec_dec_Dec_dec_CompareS.outs = true := by kernel_rfl
theorem slices_MaxFunc_dec_Dec_dec_Dec_dec_Compare_in : cutsOf ([slices_MaxFunc_dec_Dec_dec_Dec_dec_Compare_l1C] : List (CutSpec tb)) (bodyOf Tryz.f147) = [(52, .loop (loopAt 52 Tryz.f147))] := by kernel_rfl
theorem slices_MaxFunc_dec_Dec_dec_Dec_dec_Compare_sound : FnSound Tryz.prog tb 147 slices_MaxFunc_dec_Dec_dec_Dec_dec_CompareS := fn_cut mixed Tryz.func147 slices_MaxFunc_dec_Dec_dec_Dec_dec_Compare_k slices_MaxFunc_dec_Dec_dec_Dec_dec_CompareG_ok rfl slices_MaxFunc_dec_Dec_dec_Dec_dec_Compare_in (.cons rfl slices_MaxFunc_dec_Dec_dec_Dec_dec_Compare_l1_cut rfl .nil) slices_MaxFunc_dec_Dec_dec_Dec_dec_Compare_eq
abbrev fun_manyG : List (Nat × FSpec tb) := [(137, slices_ContainsFunc_fun_Arg_fun_Arg_fun_many_1S), (32, val_FaultS), (139, fun_countedS), (64, fun_integerS), (140, fun_truthsS), (141, slices_Contains_bool_boolS), (63, fun_truthS), (142, val_WordsS), (143, strings_Builder_WriteStringS), (144, bld_StringS), (83, fun_textS), (145, fun_numbersS), (146, slices_MinFunc_dec_Dec_dec_Dec_dec_CompareS), (86, fun_numS), (147, slices_MaxFunc_dec_Dec_dec_Dec_dec_CompareS), (33, dec_IntS), (87, dec_AddS), (36, dec_DivS)]
theorem fun_manyG_ok : AllSound Tryz.prog tb fun_manyG := (.cons slices_ContainsFunc_fun_Arg_fun_Arg_fun_many_1_sound (.cons val_Fault_sound (.cons fun_counted_sound (.cons fun_integer_sound (.cons fun_truths_sound (.cons slices_Contains_bool_bool_sound (.cons fun_truth_sound (.cons val_Words_sound (.cons strings_Builder_WriteString_sound (.consK bld_String_sound (.cons fun_text_sound (.cons fun_numbers_sound (.cons slices_MinFunc_dec_Dec_dec_Dec_dec_Compare_sound (.cons fun_num_sound (.cons slices_MaxFunc_dec_Dec_dec_Dec_dec_Compare_sound (.cons dec_Int_sound (.cons dec_Add_sound (.cons dec_Div_sound .nil))))))))))))))))))
def fun_many_l3F (back : List (UInt8) × Val × Unit × List Val × Int × Int → Option (((List (UInt8)) × (Val × Unit)) ⊕ ((List (UInt8)) × (Val × Unit)))) (x : List (UInt8) × Val × Unit × List Val × Int × Int) : Option (((List (UInt8)) × (Val × Unit)) ⊕ ((List (UInt8)) × (Val × Unit))) :=
  brn (decide (x.2.2.2.2.snd < x.2.2.2.2.fst))
    (obnd (idx x.2.2.2.fst x.2.2.2.2.snd) fun y =>
      obnd (val_WordsF y) fun y =>
        brn (!y.2.snd) (some (Sum.inr (x.fst, y.2.fst, ())))
          (obnd (strings_Builder_WriteStringF (x.fst, (), y.fst)) fun y => back (y.1.fst, x.2.fst, (), x.2.2.2.fst, x.2.2.2.2.fst, IntKind.i64.wrap (x.2.2.2.2.snd + 1))))
    (some (Sum.inl (x.fst, x.2.fst, ())))
def fun_many_l3J : List (UInt8) × Val × Unit × List Val × Int × Int → Option (((List (UInt8)) × (Val × Unit)) ⊕ ((List (UInt8)) × (Val × Unit))) := iter fun_many_l3F big
def fun_many_l3C : CutSpec tb := ⟨172, [(8589934600, .own 5), (4, .ref 32), (8, .box 229638146), (71, .val 46), (72, .val 3), (73, .val 3)], [((.exit 4), [(8589934600, .own 5)]), (.ret, [(8589934600, .own 5)])], [74, 75, 76, 12, 78, 79, 77, 80, 81, 82, 14, 13, 15, 83, 84, 85, 86, 87, 88, 73], fun_many_l3J⟩
theorem fun_many_l3_eq : ∀ back x, evLoop Tryz.prog tb fun_manyG [] (loopAt 172 Tryz.f60) fun_many_l3C.ins fun_many_l3C.outs back x = fun_many_l3F back x := fun back x => by kernel_rfl
theorem fun_many_l3_k : cutB Tryz.f60.ntmps fun_many_l3C (loopAt 172 Tryz.f60) = true := by kernel_rfl
theorem fun_many_l3_in : cutsOf ([] : List (CutSpec tb)) (loopAt 172 Tryz.f60) = [] := by kernel_rfl
theorem fun_many_l3_cut : CutSound Tryz.prog tb Tryz.f60.ntmps (.loop (loopAt 172 Tryz.f60)) fun_many_l3C := loop_it mixed fun_many_l3_k fun_manyG_ok rfl fun_many_l3_in .nil fun_many_l3F fun_many_l3_eq rfl
def fun_many_l2F (back : List (UInt8) × Val × Unit × List Arg × Int × Int → Option (((List (UInt8)) × (Val × Unit)) ⊕ ((List (UInt8)) × (Val × Unit)))) (x : List (UInt8) × Val × Unit × List Arg × Int × Int) : Option (((List (UInt8)) × (Val × Unit)) ⊕ ((List (UInt8)) × (Val × Unit))) :=
  brn (decide (x.2.2.2.2.snd < x.2.2.2.2.fst))
    (obnd (idx x.2.2.2.fst x.2.2.2.2.snd) fun y =>
      obnd (fun_many_l3J (x.fst, x.2.fst, (), y.L, (↑y.L.length : Int), 0)) fun y =>
        osum y (fun y => back (y.1, y.2.fst, (), x.2.2.2.fst, x.2.2.2.2.fst, IntKind.i64.wrap (x.2.2.2.2.snd + 1))) fun y => some (Sum.inr (y.1, y.2.fst, ())))
    (some (Sum.inl (x.fst, x.2.fst, ())))
def fun_many_l2J : List (UInt8) × Val × Unit × List Arg × Int × Int → Option (((List (UInt8)) × (Val × Unit)) ⊕ ((List (UInt8)) × (Val × Unit))) := iter fun_many_l2F big
def fun_many_l2C : CutSpec tb := ⟨148, [(8589934600, .own 5), (4, .ref 32), (8, .box 229638146), (64, .val 34), (65, .val 3), (66, .val 3)], [((.exit 2), [(8589934600, .own 5)]), (.ret, [(8589934600, .own 5)])], [67, 68, 69, 10, 70, 71, 72, 73, 74, 75, 76, 12, 78, 79, 77, 80, 81, 82, 14, 13, 15, 83, 84, 85, 86, 87, 88, 89, 66], fun_many_l2J⟩
theorem fun_many_l2_eq : ∀ back x, evLoop Tryz.prog tb fun_manyG [fun_many_l3C] (loopAt 148 Tryz.f60) fun_many_l2C.ins fun_many_l2C.outs back x = fun_many_l2F back x := fun back x => by kernel_rfl
theorem fun_many_l2_k : cutB Tryz.f60.ntmps fun_many_l2C (loopAt 148 Tryz.f60) = true := by kernel_rfl
theorem fun_many_l2_in : cutsOf ([fun_many_l3C] : List (CutSpec tb)) (loopAt 148 Tryz.f60) = [(172, .loop (loopAt 172 Tryz.f60))] := by kernel_rfl
theorem fun_many_l2_cut : CutSound Tryz.prog tb Tryz.f60.ntmps (.loop (loopAt 148 Tryz.f60)) fun_many_l2C := loop_it mixed fun_many_l2_k fun_manyG_ok rfl fun_many_l2_in (.cons rfl fun_many_l3_cut rfl .nil) fun_many_l2F fun_many_l2_eq rfl
def fun_many_b1J (x : Int × List Arg × Val × Int) : Option (((Unit) × Val) ⊕ ((Unit) × Val)) :=
  brn (decide (x.2.2.snd = 3)) (obnd (fun_countedF x.2.fst) fun y => obnd (fun_integerF y) fun y => some (Sum.inr ((), y)))
    (brn (decide (x.2.2.snd = 11))
      (brn (decide (x.2.2.snd = 11))
        (obnd (fun_truthsF x.2.fst) fun y =>
          brn (!y.2.snd)
            (brn (!decide (y.2.fst.Kind = 4)) (obnd (val_FaultF 15) fun y => some (Sum.inr ((), y)))
              (brn (!y.2.snd) (some (Sum.inr ((), y.2.fst)))
                (obnd (slices_Contains_bool_boolF (y.fst, decide (x.fst = 12))) fun y => obnd (fun_truthF (decide (y = decide (x.fst = 12)))) fun y => some (Sum.inr ((), y)))))
            (brn (!y.2.snd) (some (Sum.inr ((), y.2.fst)))
              (obnd (slices_Contains_bool_boolF (y.fst, decide (x.fst = 12))) fun y => obnd (fun_truthF (decide (y = decide (x.fst = 12)))) fun y => some (Sum.inr ((), y)))))
        (brn (decide (x.2.2.snd = 18))
          (obnd (fun_many_l2J ([], x.2.2.fst, (), x.2.fst, (↑x.2.fst.length : Int), 0)) fun y =>
            osum y (fun y => obnd (bld_StringF (y.1, ())) fun y => obnd (fun_textF y.1) fun y => some (Sum.inr ((), y))) fun y => some (Sum.inr ((), y.2.fst)))
          (some (Sum.inl ((), x.2.2.fst)))))
      (brn (decide (x.2.2.snd = 12))
        (obnd (fun_truthsF x.2.fst) fun y =>
          brn (!y.2.snd)
            (brn (!decide (y.2.fst.Kind = 4)) (obnd (val_FaultF 15) fun y => some (Sum.inr ((), y)))
              (brn (!y.2.snd) (some (Sum.inr ((), y.2.fst)))
                (obnd (slices_Contains_bool_boolF (y.fst, decide (x.fst = 12))) fun y => obnd (fun_truthF (decide (y = decide (x.fst = 12)))) fun y => some (Sum.inr ((), y)))))
            (brn (!y.2.snd) (some (Sum.inr ((), y.2.fst)))
              (obnd (slices_Contains_bool_boolF (y.fst, decide (x.fst = 12))) fun y => obnd (fun_truthF (decide (y = decide (x.fst = 12)))) fun y => some (Sum.inr ((), y)))))
        (brn (decide (x.2.2.snd = 18))
          (obnd (fun_many_l2J ([], x.2.2.fst, (), x.2.fst, (↑x.2.fst.length : Int), 0)) fun y =>
            osum y (fun y => obnd (bld_StringF (y.1, ())) fun y => obnd (fun_textF y.1) fun y => some (Sum.inr ((), y))) fun y => some (Sum.inr ((), y.2.fst)))
          (some (Sum.inl ((), x.2.2.fst))))))
def fun_many_b1C : CutSpec tb := ⟨43, [(0, .val 3), (1, .val 34), (4, .ref 32), (26, .val 3)], [(.normal, []), (.ret, [])], [28, 27, 29, 30, 31, 33, 32, 34, 36, 37, 35, 38, 39, 40, 6, 5, 7, 42, 43, 44, 45, 46, 47, 48, 41, 49, 51, 52, 50, 53, 54, 55, 56, 57, 58, 59, 60, 61, 63, 62, 8, 64, 65, 66, 67, 68, 69, 10, 70, 71, 72, 73, 74, 75, 76, 12, 78, 79, 77, 80, 81, 82, 14, 13, 15, 83, 84, 85, 86, 87, 88, 89, 90, 91], fun_many_b1J⟩
theorem fun_many_b1_eq : ∀ x, evBlk Tryz.prog tb fun_manyG [fun_many_l2C] (codeAt 43 Tryz.f60) fun_many_b1C.ins fun_many_b1C.outs x = fun_many_b1C.J x := fun x => by kernel_rfl
theorem fun_many_b1_k : cutB Tryz.f60.ntmps fun_many_b1C (codeAt 43 Tryz.f60) = true := by kernel_rfl
theorem fun_many_b1_in : cutsOf ([fun_many_l2C] : List (CutSpec tb)) (codeAt 43 Tryz.f60) = [(148, .loop (loopAt 148 Tryz.f60))] := by kernel_rfl
theorem fun_many_b1_cut : CutSound Tryz.prog tb Tryz.f60.ntmps (codeAt 43 Tryz.f60) fun_many_b1C := blk_ev mixed fun_many_b1_k fun_manyG_ok rfl fun_many_b1_in (.cons rfl fun_many_l2_cut rfl .nil) fun_many_b1_eq
def fun_many_b4J (x : Int × Val × List Dec) : Option (((Unit) × Val) ⊕ ((Unit) × Val)) :=
  brn (decide (x.fst = 1))
    (brn (decide (0 < (↑x.2.snd.length : Int))) (obnd (slices_MinFunc_dec_Dec_dec_Dec_dec_CompareF (x.2.snd, ())) fun y => obnd (fun_numF (y, 0)) fun y => some (Sum.inr ((), y)))
      (brn (decide (x.fst = 2))
        (brn (decide (0 < (↑x.2.snd.length : Int))) (obnd (slices_MaxFunc_dec_Dec_dec_Dec_dec_CompareF (x.2.snd, ())) fun y => obnd (fun_numF (y, 0)) fun y => some (Sum.inr ((), y)))
          (brn (decide (x.fst = 1)) (obnd (fun_integerF 0) fun y => some (Sum.inr ((), y)))
            (brn (decide (x.fst = 2)) (obnd (fun_integerF 0) fun y => some (Sum.inr ((), y))) (some (Sum.inl ((), x.2.fst))))))
        (brn (decide (x.fst = 1)) (obnd (fun_integerF 0) fun y => some (Sum.inr ((), y)))
          (brn (decide (x.fst = 2)) (obnd (fun_integerF 0) fun y => some (Sum.inr ((), y))) (some (Sum.inl ((), x.2.fst)))))))
    (brn (decide (x.fst = 2))
      (brn (decide (0 < (↑x.2.snd.length : Int))) (obnd (slices_MaxFunc_dec_Dec_dec_Dec_dec_CompareF (x.2.snd, ())) fun y => obnd (fun_numF (y, 0)) fun y => some (Sum.inr ((), y)))
        (brn (decide (x.fst = 1)) (obnd (fun_integerF 0) fun y => some (Sum.inr ((), y)))
          (brn (decide (x.fst = 2)) (obnd (fun_integerF 0) fun y => some (Sum.inr ((), y))) (some (Sum.inl ((), x.2.fst))))))
      (brn (decide (x.fst = 1)) (obnd (fun_integerF 0) fun y => some (Sum.inr ((), y)))
        (brn (decide (x.fst = 2)) (obnd (fun_integerF 0) fun y => some (Sum.inr ((), y))) (some (Sum.inl ((), x.2.fst))))))
def fun_many_b4C : CutSpec tb := ⟨267, [(0, .val 3), (4, .ref 32), (16, .val 226)], [(.normal, []), (.ret, [])], [102, 103, 104, 105, 106, 107, 108, 101, 109, 110, 111, 113, 114, 115, 116, 117, 118, 119, 112, 120, 121, 122, 124, 125, 126, 127, 128, 129, 123, 130], fun_many_b4J⟩
theorem fun_many_b4_eq : ∀ x, evBlk Tryz.prog tb fun_manyG [] (codeAt 267 Tryz.f60) fun_many_b4C.ins fun_many_b4C.outs x = fun_many_b4C.J x := fun x => by kernel_rfl
theorem fun_many_b4_k : cutB Tryz.f60.ntmps fun_many_b4C (codeAt 267 Tryz.f60) = true := by kernel_rfl
theorem fun_many_b4_in : cutsOf ([] : List (CutSpec tb)) (codeAt 267 Tryz.f60) = [] := by kernel_rfl
theorem fun_many_b4_cut : CutSound Tryz.prog tb Tryz.f60.ntmps (codeAt 267 Tryz.f60) fun_many_b4C := blk_ev mixed fun_many_b4_k fun_manyG_ok rfl fun_many_b4_in .nil fun_many_b4_eq
def fun_many_l5F (back : Val × Dec × List Dec × Int × Int → Option (((Unit) × (Val × Dec)) ⊕ ((Unit) × (Val × Dec)))) (x : Val × Dec × List Dec × Int × Int) : Option (((Unit) × (Val × Dec)) ⊕ ((Unit) × (Val × Dec))) :=
  brn (decide (x.2.2.2.snd < x.2.2.2.fst))
    (obnd (idx x.2.2.fst x.2.2.2.snd) fun y =>
      obnd (dec_AddF (x.2.fst, y)) fun y =>
        brn (!decide (y.snd = 0)) (obnd (fun_numF y) fun y_1 => some (Sum.inr ((), y_1, y.fst))) (back (x.fst, y.fst, x.2.2.fst, x.2.2.2.fst, IntKind.i64.wrap (x.2.2.2.snd + 1))))
    (some (Sum.inl ((), x.fst, x.2.fst)))
def fun_many_l5J : Val × Dec × List Dec × Int × Int → Option (((Unit) × (Val × Dec)) ⊕ ((Unit) × (Val × Dec))) := iter fun_many_l5F big
def fun_many_l5C : CutSpec tb := ⟨332, [(4, .ref 32), (19, .ref 30), (132, .val 226), (133, .val 3), (134, .val 3)], [((.exit 7), []), (.ret, [])], [135, 136, 137, 22, 139, 140, 141, 138, 142, 143, 20, 144, 145, 146, 147, 148, 149, 134], fun_many_l5J⟩
theorem fun_many_l5_eq : ∀ back x, evLoop Tryz.prog tb fun_manyG [] (loopAt 332 Tryz.f60) fun_many_l5C.ins fun_many_l5C.outs back x = fun_many_l5F back x := fun back x => by kernel_rfl
theorem fun_many_l5_k : cutB Tryz.f60.ntmps fun_many_l5C (loopAt 332 Tryz.f60) = true := by kernel_rfl
theorem fun_many_l5_in : cutsOf ([] : List (CutSpec tb)) (loopAt 332 Tryz.f60) = [] := by kernel_rfl
theorem fun_many_l5_cut : CutSound Tryz.prog tb Tryz.f60.ntmps (.loop (loopAt 332 Tryz.f60)) fun_many_l5C := loop_it mixed fun_many_l5_k fun_manyG_ok rfl fun_many_l5_in .nil fun_many_l5F fun_many_l5_eq rfl
def fun_manyF (x : Int × List Arg) : Option (Val) :=
  obnd (slices_ContainsFunc_fun_Arg_fun_Arg_fun_many_1F (x.snd, ())) fun y =>
    brn y (obnd (val_FaultF 15) fun y => some y)
      (obnd (fun_many_b1J (x.fst, x.snd, { Kind := 0, N := { M := 0, S := 0 }, S := [], B := false, E := 0 }, x.fst)) fun y =>
        osum y
          (fun y =>
            obnd (fun_numbersF x.snd) fun y_1 =>
              brn (!y_1.2.snd) (some y_1.2.fst)
                (obnd (fun_many_b4J (x.fst, y.2, y_1.fst)) fun y =>
                  osum y
                    (fun y =>
                      obnd (dec_IntF 0) fun y_2 =>
                        obnd (fun_many_l5J (y.2, y_2, y_1.fst, (↑(List.length y_1.fst) : Int), 0)) fun y =>
                          osum y
                            (fun y =>
                              brn (decide (x.fst = 0)) (obnd (fun_numF (y.2.snd, 0)) fun y => some y)
                                (obnd (dec_IntF (↑(List.length y_1.fst) : Int)) fun y_3 => obnd (dec_DivF (y.2.snd, y_3)) fun y => obnd (fun_numF y) fun y => some y))
                            fun y => some y.2.fst)
                    fun y => some y.2))
          fun y => some y.2)
def fun_manyS : FSpec tb := ⟨[(0, .val 3), (1, .val 34)], [(0, .val 32)], fun_manyF⟩
theorem fun_many_eq : ∀ x, evFn Tryz.prog tb fun_manyG [fun_many_b1C, fun_many_b4C, fun_many_l5C] Tryz.f60 fun_manyS.ins fun_manyS.outs x = fun_manyS.f x := fun x => by kernel_rfl
theorem fun_many_k : fnK Tryz.f60 fun_manyS.ins fun_manyS.outs = true := by kernel_rfl
theorem fun_many_in : cutsOf ([fun_many_b1C, fun_many_b4C, fun_many_l5C] : List (CutSpec tb)) (bodyOf Tryz.f60) = [(43, codeAt 43 Tryz.f60), (267, codeAt 267 Tryz.f60), (332, .loop (loopAt 332 Tryz.f60))] := by kernel_rfl
theorem fun_many_sound : FnSound Tryz.prog tb 60 fun_manyS := fn_cut mixed Tryz.func60 fun_many_k fun_manyG_ok rfl fun_many_in (.cons rfl fun_many_b1_cut rfl (.cons rfl fun_many_b4_cut rfl (.cons rfl fun_many_l5_cut rfl .nil))) fun_many_eq
def fun_shaped_1F (x : Arg) : Option (Bool) :=
  brn x.Area (some true) (some (bif decide ((↑x.L.length : Int) = 1) then false else true))
def fun_shaped_1S : FSpec tb := ⟨[(0, .val 48)], [(0, .val 4)], fun_shaped_1F⟩
theorem fun_shaped_1_eq : ∀ x, evFn Tryz.prog tb [] [] Tryz.f150 fun_shaped_1S.ins fun_shaped_1S.outs x = fun_shaped_1S.f x := fun x => by kernel_rfl
theorem fun_shaped_1_k : fnK Tryz.f150 fun_shaped_1S.ins fun_shaped_1S.outs = true := by kernel_rfl
theorem fun_shaped_1_sound : FnSound Tryz.prog tb 150 fun_shaped_1S := fn_ev mixed Tryz.func150 fun_shaped_1_k .nil rfl fun_shaped_1_eq
abbrev slices_IndexFunc_fun_Arg_fun_Arg_fun_shaped_1G : List (Nat × FSpec tb) := [(150, fun_shaped_1S)]
theorem slices_IndexFunc_fun_Arg_fun_Arg_fun_shaped_1G_ok : AllSound Tryz.prog tb slices_IndexFunc_fun_Arg_fun_Arg_fun_shaped_1G := (.cons fun_shaped_1_sound .nil)
def slices_IndexFunc_fun_Arg_fun_Arg_fun_shaped_1_l1F (back : List Arg × Unit × Int × Int → Option ((Unit) ⊕ (Int))) (x : List Arg × Unit × Int × Int) : Option ((Unit) ⊕ (Int)) :=
  brn (decide (x.2.2.snd < x.2.2.fst))
    (obnd (idx x.fst x.2.2.snd) fun y => obnd (fun_shaped_1F y) fun y => brn y (some (Sum.inr x.2.2.2)) (back (x.fst, (), x.2.2.fst, IntKind.i64.wrap (x.2.2.snd + 1))))
    (some (Sum.inl PUnit.unit))
def slices_IndexFunc_fun_Arg_fun_Arg_fun_shaped_1_l1J : List Arg × Unit × Int × Int → Option ((Unit) ⊕ (Int)) := iter slices_IndexFunc_fun_Arg_fun_Arg_fun_shaped_1_l1F big
def slices_IndexFunc_fun_Arg_fun_Arg_fun_shaped_1_l1C : CutSpec tb := ⟨28, [(0, .val 34), (1, .fnp 150 0), (7, .val 3), (8, .val 3)], [((.exit 0), []), (.ret, [(4, .val 3)])], [9, 10, 5, 11, 12, 13, 14, 15, 16, 17, 4, 18, 8], slices_IndexFunc_fun_Arg_fun_Arg_fun_shaped_1_l1J⟩
theorem slices_IndexFunc_fun_Arg_fun_Arg_fun_shaped_1_l1_eq : ∀ back x, evLoop Tryz.prog tb slices_IndexFunc_fun_Arg_fun_Arg_fun_shaped_1G [] (loopAt 28 Tryz.f216) slices_IndexFunc_fun_Arg_fun_Arg_fun_shaped_1_l1C.ins slices_IndexFunc_fun_Arg_fun_Arg_fun_shaped_1_l1C.outs back x = slices_IndexFunc_fun_Arg_fun_Arg_fun_shaped_1_l1F back x := fun back x => by kernel_rfl
theorem slices_IndexFunc_fun_Arg_fun_Arg_fun_shaped_1_l1_k : cutB Tryz.f216.ntmps slices_IndexFunc_fun_Arg_fun_Arg_fun_shaped_1_l1C (loopAt 28 Tryz.f216) = true := by kernel_rfl
theorem slices_IndexFunc_fun_Arg_fun_Arg_fun_shaped_1_l1_in : cutsOf ([] : List (CutSpec tb)) (loopAt 28 Tryz.f216) = [] := by kernel_rfl
theorem slices_IndexFunc_fun_Arg_fun_Arg_fun_shaped_1_l1_cut : CutSound Tryz.prog tb Tryz.f216.ntmps (.loop (loopAt 28 Tryz.f216)) slices_IndexFunc_fun_Arg_fun_Arg_fun_shaped_1_l1C := loop_it mixed slices_IndexFunc_fun_Arg_fun_Arg_fun_shaped_1_l1_k slices_IndexFunc_fun_Arg_fun_Arg_fun_shaped_1G_ok rfl slices_IndexFunc_fun_Arg_fun_Arg_fun_shaped_1_l1_in .nil slices_IndexFunc_fun_Arg_fun_Arg_fun_shaped_1_l1F slices_IndexFunc_fun_Arg_fun_Arg_fun_shaped_1_l1_eq rfl
def slices_IndexFunc_fun_Arg_fun_Arg_fun_shaped_1F (x : List Arg × Unit) : Option (Int) :=
  obnd (slices_IndexFunc_fun_Arg_fun_Arg_fun_shaped_1_l1J (x.fst, (), (↑x.fst.length : Int), 0)) fun y => osum y (fun y => some (-1)) fun y => some y
def slices_IndexFunc_fun_Arg_fun_Arg_fun_shaped_1S : FSpec tb := ⟨[(0, .val 34), (1, .fnp 150 0)], [(0, .val 3)], slices_IndexFunc_fun_Arg_fun_Arg_fun_shaped_1F⟩
theorem slices_IndexFunc_fun_Arg_fun_Arg_fun_shaped_1_eq : ∀ x, evFn Tryz.prog tb slices_IndexFunc_fun_Arg_fun_Arg_fun_shaped_1G [slices_IndexFunc_fun_Arg_fun_Arg_fun_shaped_1_l1C] Tryz.f216 slices_IndexFunc_fun_Arg_fun_Arg_fun_shaped_1S.ins slices_IndexFunc_fun_Arg_fun_Arg_fun_shaped_1S.outs x = slices_IndexFunc_fun_Arg_fun_Arg_fun_shaped_1S.f x := fun x => by kernel_rfl
theorem slices_IndexFunc_fun_Arg_fun_Arg_fun_shaped_1_k : fnK Tryz.f216 slices_IndexFunc_fun_Arg_fun_Arg_fun_shaped_1S.ins slices_IndexFunc_fun_Arg_fun_Arg_fun_shaped_1S.outs = true := by kernel_rfl
theorem slices_IndexFunc_fun_Arg_fun_Arg_fun_shaped_1_in : cutsOf ([slices_IndexFunc_fun_Arg_fun_Arg_fun_shaped_1_l1C] : List (CutSpec tb)) (bodyOf Tryz.f216) = [(28, .loop (loopAt 28 Tryz.f216))] := by kernel_rfl
theorem slices_IndexFunc_fun_Arg_fun_Arg_fun_shaped_1_sound : FnSound Tryz.prog tb 216 slices_IndexFunc_fun_Arg_fun_Arg_fun_shaped_1S := fn_cut mixed Tryz.func216 slices_IndexFunc_fun_Arg_fun_Arg_fun_shaped_1_k slices_IndexFunc_fun_Arg_fun_Arg_fun_shaped_1G_ok rfl slices_IndexFunc_fun_Arg_fun_Arg_fun_shaped_1_in (.cons rfl slices_IndexFunc_fun_Arg_fun_Arg_fun_shaped_1_l1_cut rfl .nil) slices_IndexFunc_fun_Arg_fun_Arg_fun_shaped_1_eq
def slices_ContainsFunc_fun_Arg_fun_Arg_fun_shaped_1F (x : List Arg × Unit) : Option (Bool) :=
  obnd (slices_IndexFunc_fun_Arg_fun_Arg_fun_shaped_1F (x.fst, ())) fun y => some (decide (0 ≤ y))
def slices_ContainsFunc_fun_Arg_fun_Arg_fun_shaped_1S : FSpec tb := ⟨[(0, .val 34), (1, .fnp 150 0)], [(0, .val 4)], slices_ContainsFunc_fun_Arg_fun_Arg_fun_shaped_1F⟩
theorem slices_ContainsFunc_fun_Arg_fun_Arg_fun_shaped_1_eq : ∀ x, evFn Tryz.prog tb [(216, slices_IndexFunc_fun_Arg_fun_Arg_fun_shaped_1S)] [] Tryz.f137 slices_ContainsFunc_fun_Arg_fun_Arg_fun_shaped_1S.ins slices_ContainsFunc_fun_Arg_fun_Arg_fun_shaped_1S.outs x = slices_ContainsFunc_fun_Arg_fun_Arg_fun_shaped_1S.f x := fun x => by kernel_rfl
theorem slices_ContainsFunc_fun_Arg_fun_Arg_fun_shaped_1_k : fnK Tryz.f137 slices_ContainsFunc_fun_Arg_fun_Arg_fun_shaped_1S.ins slices_ContainsFunc_fun_Arg_fun_Arg_fun_shaped_1S.outs = true := by kernel_rfl
theorem slices_ContainsFunc_fun_Arg_fun_Arg_fun_shaped_1_sound : FnSound Tryz.prog tb 137 slices_ContainsFunc_fun_Arg_fun_Arg_fun_shaped_1S := fn_ev mixed Tryz.func137 slices_ContainsFunc_fun_Arg_fun_Arg_fun_shaped_1_k (.cons slices_IndexFunc_fun_Arg_fun_Arg_fun_shaped_1_sound .nil) rfl slices_ContainsFunc_fun_Arg_fun_Arg_fun_shaped_1_eq
def fun_shapedF (x : List Arg) : Option (Bool) :=
  obnd (slices_ContainsFunc_fun_Arg_fun_Arg_fun_shaped_1F (x, ())) fun y => some (bif y then false else true)
def fun_shapedS : FSpec tb := ⟨[(0, .val 34)], [(0, .val 4)], fun_shapedF⟩
theorem fun_shaped_eq : ∀ x, evFn Tryz.prog tb [(137, slices_ContainsFunc_fun_Arg_fun_Arg_fun_shaped_1S)] [] Tryz.f62 fun_shapedS.ins fun_shapedS.outs x = fun_shapedS.f x := fun x => by kernel_rfl
theorem fun_shaped_k : fnK Tryz.f62 fun_shapedS.ins fun_shapedS.outs = true := by kernel_rfl
theorem fun_shaped_sound : FnSound Tryz.prog tb 62 fun_shapedS := fn_ev mixed Tryz.func62 fun_shaped_k (.cons slices_ContainsFunc_fun_Arg_fun_Arg_fun_shaped_1_sound .nil) rfl fun_shaped_eq
def fun_indexedF (x : List Arg) : Option (Val) :=
  obnd (idx x 0) fun y =>
    brn (!y.Area) (obnd (val_FaultF 15) fun y => some y)
      (obnd (sub x 1 (↑x.length : Int)) fun z =>
        obnd (fun_shapedF z) fun y =>
          brn (!y) (obnd (val_FaultF 15) fun y => some y)
            (obnd (idx x 1) fun y =>
              obnd (idx y.L 0) fun y =>
                obnd (val_NumberF y) fun y =>
                  brn (!y.2.snd) (some y.2.fst)
                    (brn (!decide (y.fst.S = 0)) (obnd (val_FaultF 15) fun y => some y)
                      (brn (decide (y.fst.M < 1)) (obnd (val_FaultF 23) fun y => some y)
                        (obnd (idx x 0) fun y_1 =>
                          brn (decide ((↑y_1.L.length : Int) < y.fst.M)) (obnd (val_FaultF 23) fun y => some y)
                            (obnd (idx x 0) fun y_2 => obnd (idx y_2.L (IntKind.i64.wrap (y.fst.M - 1))) fun y => some y))))))
def fun_indexedS : FSpec tb := ⟨[(0, .val 34)], [(0, .val 32)], fun_indexedF⟩
theorem fun_indexed_eq : ∀ x, evFn Tryz.prog tb [(62, fun_shapedS), (32, val_FaultS), (85, val_NumberS)] [] Tryz.f148 fun_indexedS.ins fun_indexedS.outs x = fun_indexedS.f x := fun x => by kernel_rfl
theorem fun_indexed_k : fnK Tryz.f148 fun_indexedS.ins fun_indexedS.outs = true := by kernel_rfl
theorem fun_indexed_sound : FnSound Tryz.prog tb 148 fun_indexedS := fn_ev mixed Tryz.func148 fun_indexed_k (.cons fun_shaped_sound (.cons val_Fault_sound (.cons val_Number_sound .nil))) rfl fun_indexed_eq
def fun_singleF (x : Arg) : Option (Val) :=
  brn x.Area (obnd (val_FaultF 15) fun y => some y) (brn (!decide ((↑x.L.length : Int) = 1)) (obnd (val_FaultF 15) fun y => some y) (obnd (idx x.L 0) fun y => some y))
def fun_singleS : FSpec tb := ⟨[(0, .val 48)], [(0, .val 32)], fun_singleF⟩
theorem fun_single_eq : ∀ x, evFn Tryz.prog tb [(32, val_FaultS)] [] Tryz.f149 fun_singleS.ins fun_singleS.outs x = fun_singleS.f x := fun x => by kernel_rfl
theorem fun_single_k : fnK Tryz.f149 fun_singleS.ins fun_singleS.outs = true := by kernel_rfl
theorem fun_single_sound : FnSound Tryz.prog tb 149 fun_singleS := fn_ev mixed Tryz.func149 fun_single_k (.cons val_Fault_sound .nil) rfl fun_single_eq
def fun_chosenF (x : Int × List Arg) : Option (Val) :=
  brn (decide (x.fst = 24)) (obnd (fun_indexedF x.snd) fun y => some y)
    (obnd (sub x.snd 0 1) fun z =>
      obnd (fun_shapedF z) fun y =>
        brn (!y) (obnd (val_FaultF 15) fun y => some y)
          (obnd (idx x.snd 0) fun y =>
            obnd (idx y.L 0) fun y =>
              brn (decide (x.fst = 23)) (brn (decide (y.Kind = 4)) (obnd (idx x.snd 1) fun y => obnd (fun_singleF y) fun y => some y) (some y))
                (brn (decide (x.fst = 10))
                  (obnd (val_TruthF y) fun y =>
                    brn (!y.2.snd) (some y.2.fst)
                      (brn y.fst (obnd (idx x.snd 1) fun y => obnd (fun_singleF y) fun y => some y)
                        (brn (decide ((↑x.snd.length : Int) = 2)) (obnd (fun_truthF false) fun y => some y) (obnd (idx x.snd 2) fun y => obnd (fun_singleF y) fun y => some y))))
                  (obnd (val_NumberF y) fun y =>
                    brn (!y.2.snd) (some y.2.fst)
                      (brn (!decide (y.fst.S = 0)) (obnd (val_FaultF 15) fun y => some y)
                        (brn (decide (y.fst.M < 1)) (obnd (val_FaultF 15) fun y => some y)
                          (brn (decide ((↑x.snd.length : Int) ≤ y.fst.M)) (obnd (val_FaultF 15) fun y => some y)
                            (obnd (idx x.snd y.fst.M) fun y => obnd (fun_singleF y) fun y => some y))))))))
def fun_chosenS : FSpec tb := ⟨[(0, .val 3), (1, .val 34)], [(0, .val 32)], fun_chosenF⟩
theorem fun_chosen_eq : ∀ x, evFn Tryz.prog tb [(148, fun_indexedS), (62, fun_shapedS), (32, val_FaultS), (149, fun_singleS), (65, val_TruthS), (63, fun_truthS), (85, val_NumberS)] [] Tryz.f61 fun_chosenS.ins fun_chosenS.outs x = fun_chosenS.f x := fun x => by kernel_rfl
theorem fun_chosen_k : fnK Tryz.f61 fun_chosenS.ins fun_chosenS.outs = true := by kernel_rfl
theorem fun_chosen_sound : FnSound Tryz.prog tb 61 fun_chosenS := fn_ev mixed Tryz.func61 fun_chosen_k (.cons fun_indexed_sound (.cons fun_shaped_sound (.cons val_Fault_sound (.cons fun_single_sound (.cons val_Truth_sound (.cons fun_truth_sound (.cons val_Number_sound .nil))))))) rfl fun_chosen_eq
def fun_scaled_l1F (back : Int × Dec → Option (((Unit) × Dec) ⊕ ((Int × Bool) × Dec))) (x : Int × Dec) : Option (((Unit) × Dec) ⊕ ((Int × Bool) × Dec)) :=
  brn (decide (x.snd.S < x.fst))
    (brn (!decide (IntKind.i64.wrap ((IntKind.i64.wrap (x.snd.M * 10)).tdiv 10) = x.snd.M)) (some (Sum.inr ((0, false), x.snd)))
      (back (x.fst, { M := IntKind.i64.wrap (x.snd.M * 10), S := IntKind.i64.wrap (x.snd.S + 1) })))
    (some (Sum.inl ((), x.snd)))
def fun_scaled_l1J : Int × Dec → Option (((Unit) × Dec) ⊕ ((Int × Bool) × Dec)) := iter fun_scaled_l1F big
def fun_scaled_l1C : CutSpec tb := ⟨20, [(1, .val 3), (2, .ref 30)], [((.exit 0), []), (.ret, [(4, .val 2), (5, .val 4)])], [6, 7, 8, 9, 14, 15, 16, 17, 18, 19, 20, 4, 5, 21, 22, 23, 24, 10, 11, 12, 13], fun_scaled_l1J⟩
theorem fun_scaled_l1_eq : ∀ back x, evLoop Tryz.prog tb [] [] (loopAt 20 Tryz.f219) fun_scaled_l1C.ins fun_scaled_l1C.outs back x = fun_scaled_l1F back x := fun back x => by kernel_rfl
theorem fun_scaled_l1_k : cutB Tryz.f219.ntmps fun_scaled_l1C (loopAt 20 Tryz.f219) = true := by kernel_rfl
theorem fun_scaled_l1_in : cutsOf ([] : List (CutSpec tb)) (loopAt 20 Tryz.f219) = [] := by kernel_rfl
theorem fun_scaled_l1_cut : CutSound Tryz.prog tb Tryz.f219.ntmps (.loop (loopAt 20 Tryz.f219)) fun_scaled_l1C := loop_it mixed fun_scaled_l1_k .nil rfl fun_scaled_l1_in .nil fun_scaled_l1F fun_scaled_l1_eq rfl
def fun_scaledF (x : Dec × Int) : Option (Int × Bool) :=
  obnd (fun_scaled_l1J (x.snd, x.fst)) fun y => osum y (fun y => some (y.2.M, true)) fun y => some y.1
def fun_scaledS : FSpec tb := ⟨[(0, .val 30), (1, .val 3)], [(0, .val 2), (1, .val 4)], fun_scaledF⟩
theorem fun_scaled_eq : ∀ x, evFn Tryz.prog tb [] [fun_scaled_l1C] Tryz.f219 fun_scaledS.ins fun_scaledS.outs x = fun_scaledS.f x := fun x => by kernel_rfl
theorem fun_scaled_k : fnK Tryz.f219 fun_scaledS.ins fun_scaledS.outs = true := by kernel_rfl
theorem fun_scaled_in : cutsOf ([fun_scaled_l1C] : List (CutSpec tb)) (bodyOf Tryz.f219) = [(20, .loop (loopAt 20 Tryz.f219))] := by kernel_rfl
theorem fun_scaled_sound : FnSound Tryz.prog tb 219 fun_scaledS := fn_cut mixed Tryz.func219 fun_scaled_k .nil rfl fun_scaled_in (.cons rfl fun_scaled_l1_cut rfl .nil) fun_scaled_eq
def fun_restF (x : Dec × Dec) : Option (Val) :=
  brn (decide (x.snd.M = 0)) (obnd (val_FaultF 7) fun y => some y)
    (obnd (fun_scaledF (x.fst, bif decide (x.fst.S < x.snd.S) then x.snd.S else x.fst.S)) fun y =>
      obnd (fun_scaledF (x.snd, bif decide (x.fst.S < x.snd.S) then x.snd.S else x.fst.S)) fun y_1 =>
        brn (!y.snd) (obnd (val_FaultF 36) fun y => some y)
          (brn (!y_1.snd) (obnd (val_FaultF 36) fun y => some y)
            (brn (decide (y_1.fst = 0)) none
              (brn (!decide (Int.tmod y.fst y_1.fst = 0))
                (brn (!decide (decide (Int.tmod y.fst y_1.fst < 0) = decide (y_1.fst < 0)))
                  (obnd (dec_NormF { M := IntKind.i64.wrap (Int.tmod y.fst y_1.fst + y_1.fst), S := bif decide (x.fst.S < x.snd.S) then x.snd.S else x.fst.S }) fun y =>
                    obnd (fun_numF (y, 0)) fun y => some y)
                  (obnd (dec_NormF { M := Int.tmod y.fst y_1.fst, S := bif decide (x.fst.S < x.snd.S) then x.snd.S else x.fst.S }) fun y => obnd (fun_numF (y, 0)) fun y => some y))
                (obnd (dec_NormF { M := Int.tmod y.fst y_1.fst, S := bif decide (x.fst.S < x.snd.S) then x.snd.S else x.fst.S }) fun y => obnd (fun_numF (y, 0)) fun y => some y)))))
def fun_restS : FSpec tb := ⟨[(0, .val 30), (1, .val 30)], [(0, .val 32)], fun_restF⟩
theorem fun_rest_eq : ∀ x, evFn Tryz.prog tb [(32, val_FaultS), (219, fun_scaledS), (31, dec_NormS), (86, fun_numS)] [] Tryz.f152 fun_restS.ins fun_restS.outs x = fun_restS.f x := fun x => by kernel_rfl
theorem fun_rest_k : fnK Tryz.f152 fun_restS.ins fun_restS.outs = true := by kernel_rfl
theorem fun_rest_sound : FnSound Tryz.prog tb 152 fun_restS := fn_ev mixed Tryz.func152 fun_rest_k (.cons val_Fault_sound (.cons fun_scaled_sound (.cons dec_Norm_sound (.cons fun_num_sound .nil)))) rfl fun_rest_eq
abbrev fun_reckonedG : List (Nat × FSpec tb) := [(85, val_NumberS), (33, dec_IntS), (34, dec_CompareS), (35, dec_SubS), (86, fun_numS), (64, fun_integerS), (151, dec_FloorS), (152, fun_restS), (32, val_FaultS), (153, dec_RoundS)]
theorem fun_reckonedG_ok : AllSound Tryz.prog tb fun_reckonedG := (.cons val_Number_sound (.cons dec_Int_sound (.cons dec_Compare_sound (.cons dec_Sub_sound (.cons fun_num_sound (.cons fun_integer_sound (.cons dec_Floor_sound (.cons fun_rest_sound (.cons val_Fault_sound (.cons dec_Round_sound .nil))))))))))
def fun_reckoned_l1F (back : Val × List (Dec) × List Val × Int × Int → Option (((List (Dec)) × Val) ⊕ ((Unit) × Val))) (x : Val × List (Dec) × List Val × Int × Int) : Option (((List (Dec)) × Val) ⊕ ((Unit) × Val)) :=
  brn (decide (x.2.2.2.snd < x.2.2.2.fst))
    (obnd (idx x.2.2.fst x.2.2.2.snd) fun y =>
      obnd (val_NumberF y) fun y =>
        brn (!y.2.snd) (some (Sum.inr ((), y.2.fst))) (obnd (app 16 x.2.fst [y.fst]) fun zs => back (x.fst, zs, x.2.2.fst, x.2.2.2.fst, IntKind.i64.wrap (x.2.2.2.snd + 1))))
    (some (Sum.inl (x.2.fst, x.fst)))
def fun_reckoned_l1J : Val × List (Dec) × List Val × Int × Int → Option (((List (Dec)) × Val) ⊕ ((Unit) × Val)) := iter fun_reckoned_l1F big
def fun_reckoned_l1C : CutSpec tb := ⟨36, [(4, .ref 32), (5, .own 30), (12, .val 46), (13, .val 3), (14, .val 3)], [((.exit 0), [(5, .own 30)]), (.ret, [])], [15, 16, 17, 7, 19, 20, 18, 21, 22, 23, 8, 9, 10, 24, 25, 26, 27, 28, 29, 30, 5, 31, 14], fun_reckoned_l1J⟩
theorem fun_reckoned_l1_eq : ∀ back x, evLoop Tryz.prog tb fun_reckonedG [] (loopAt 36 Tryz.f66) fun_reckoned_l1C.ins fun_reckoned_l1C.outs back x = fun_reckoned_l1F back x := fun back x => by kernel_rfl
theorem fun_reckoned_l1_k : cutB Tryz.f66.ntmps fun_reckoned_l1C (loopAt 36 Tryz.f66) = true := by kernel_rfl
theorem fun_reckoned_l1_in : cutsOf ([] : List (CutSpec tb)) (loopAt 36 Tryz.f66) = [] := by kernel_rfl
theorem fun_reckoned_l1_cut : CutSound Tryz.prog tb Tryz.f66.ntmps (.loop (loopAt 36 Tryz.f66)) fun_reckoned_l1C := loop_it mixed fun_reckoned_l1_k fun_reckonedG_ok rfl fun_reckoned_l1_in .nil fun_reckoned_l1F fun_reckoned_l1_eq rfl
def fun_reckonedF (x : Int × List Val) : Option (Val) :=
  obnd (fun_reckoned_l1J ({ Kind := 0, N := { M := 0, S := 0 }, S := [], B := false, E := 0 }, [], x.snd, (↑x.snd.length : Int), 0)) fun y =>
    osum y
      (fun y =>
        obnd (idx y.1 0) fun y_1 =>
          obnd (dec_IntF 0) fun y_2 =>
            obnd (dec_CompareF (y_1, y_2)) fun y_3 =>
              brn (decide (x.fst = 5))
                (brn (decide (y_3 < 0)) (obnd (dec_IntF 0) fun y_4 => obnd (idx y.1 0) fun y => obnd (dec_SubF (y_4, y)) fun y => obnd (fun_numF y) fun y => some y)
                  (obnd (idx y.1 0) fun y => obnd (fun_numF (y, 0)) fun y => some y))
                (brn (decide (x.fst = 6)) (obnd (fun_integerF y_3) fun y => some y)
                  (brn (decide (x.fst = 7)) (obnd (idx y.1 0) fun y => obnd (dec_FloorF y) fun y => obnd (fun_numF y) fun y => some y)
                    (brn (decide (x.fst = 8)) (obnd (idx y.1 0) fun y_4 => obnd (idx y.1 1) fun y => obnd (fun_restF (y_4, y)) fun y => some y)
                      (obnd (idx y.1 1) fun y_4 =>
                        brn (!decide (y_4.S = 0)) (obnd (val_FaultF 36) fun y => some y)
                          (obnd (idx y.1 0) fun y_5 => obnd (idx y.1 1) fun y => obnd (dec_RoundF (y_5, y.M)) fun y => obnd (fun_numF y) fun y => some y))))))
      fun y => some y.2
def fun_reckonedS : FSpec tb := ⟨[(0, .val 3), (1, .val 46)], [(0, .val 32)], fun_reckonedF⟩
theorem fun_reckoned_eq : ∀ x, evFn Tryz.prog tb fun_reckonedG [fun_reckoned_l1C] Tryz.f66 fun_reckonedS.ins fun_reckonedS.outs x = fun_reckonedS.f x := fun x => by kernel_rfl
theorem fun_reckoned_k : fnK Tryz.f66 fun_reckonedS.ins fun_reckonedS.outs = true := by kernel_rfl
theorem fun_reckoned_in : cutsOf ([fun_reckoned_l1C] : List (CutSpec tb)) (bodyOf Tryz.f66) = [(36, .loop (loopAt 36 Tryz.f66))] := by kernel_rfl
theorem fun_reckoned_sound : FnSound Tryz.prog tb 66 fun_reckonedS := fn_cut mixed Tryz.func66 fun_reckoned_k fun_reckonedG_ok rfl fun_reckoned_in (.cons rfl fun_reckoned_l1_cut rfl .nil) fun_reckoned_eq
abbrev fun_casedG : List (Nat × FSpec tb) := [(220, strings_Builder_WriteRuneS), (144, bld_StringS)]
theorem fun_casedG_ok : AllSound Tryz.prog tb fun_casedG := (.cons strings_Builder_WriteRune_sound (.consK bld_String_sound .nil))
def fun_cased_l1F (back : List (UInt8) × Bool × Unit × ((List UInt8 × Nat)) → Option ((List (UInt8)) × (Unit × ((List UInt8 × Nat))))) (x : List (UInt8) × Bool × Unit × ((List UInt8 × Nat))) : Option ((List (UInt8)) × (Unit × ((List UInt8 × Nat)))) :=
  brn (decide (x.2.2.snd.snd < x.2.2.snd.fst.length))
    (brn x.2.fst
      (brn (decide (97 ≤ (↑(rune x.2.2.snd.fst x.2.2.snd.snd).fst : Int)))
        (brn (decide ((↑(rune x.2.2.snd.fst x.2.2.snd.snd).fst : Int) ≤ 122))
          (obnd (strings_Builder_WriteRuneF (x.fst, (), IntKind.i32.wrap ((↑(rune x.2.2.snd.fst x.2.2.snd.snd).fst : Int) + -32))) fun y =>
            back (y.1.fst, x.2.fst, (), x.2.2.snd.fst, x.2.2.snd.snd + (rune x.2.2.snd.fst x.2.2.snd.snd).snd))
          (brn (!x.2.fst)
            (brn (decide (65 ≤ (↑(rune x.2.2.snd.fst x.2.2.snd.snd).fst : Int)))
              (brn (decide ((↑(rune x.2.2.snd.fst x.2.2.snd.snd).fst : Int) ≤ 90))
                (obnd (strings_Builder_WriteRuneF (x.fst, (), IntKind.i32.wrap ((↑(rune x.2.2.snd.fst x.2.2.snd.snd).fst : Int) + 32))) fun y =>
                  back (y.1.fst, x.2.fst, (), x.2.2.snd.fst, x.2.2.snd.snd + (rune x.2.2.snd.fst x.2.2.snd.snd).snd))
                (obnd (strings_Builder_WriteRuneF (x.fst, (), (↑(rune x.2.2.snd.fst x.2.2.snd.snd).fst : Int))) fun y =>
                  back (y.1.fst, x.2.fst, (), x.2.2.snd.fst, x.2.2.snd.snd + (rune x.2.2.snd.fst x.2.2.snd.snd).snd)))
              (obnd (strings_Builder_WriteRuneF (x.fst, (), (↑(rune x.2.2.snd.fst x.2.2.snd.snd).fst : Int))) fun y =>
                back (y.1.fst, x.2.fst, (), x.2.2.snd.fst, x.2.2.snd.snd + (rune x.2.2.snd.fst x.2.2.snd.snd).snd)))
            (obnd (strings_Builder_WriteRuneF (x.fst, (), (↑(rune x.2.2.snd.fst x.2.2.snd.snd).fst : Int))) fun y =>
              back (y.1.fst, x.2.fst, (), x.2.2.snd.fst, x.2.2.snd.snd + (rune x.2.2.snd.fst x.2.2.snd.snd).snd))))
        (brn (!x.2.fst)
          (brn (decide (65 ≤ (↑(rune x.2.2.snd.fst x.2.2.snd.snd).fst : Int)))
            (brn (decide ((↑(rune x.2.2.snd.fst x.2.2.snd.snd).fst : Int) ≤ 90))
              (obnd (strings_Builder_WriteRuneF (x.fst, (), IntKind.i32.wrap ((↑(rune x.2.2.snd.fst x.2.2.snd.snd).fst : Int) + 32))) fun y =>
                back (y.1.fst, x.2.fst, (), x.2.2.snd.fst, x.2.2.snd.snd + (rune x.2.2.snd.fst x.2.2.snd.snd).snd))
              (obnd (strings_Builder_WriteRuneF (x.fst, (), (↑(rune x.2.2.snd.fst x.2.2.snd.snd).fst : Int))) fun y =>
                back (y.1.fst, x.2.fst, (), x.2.2.snd.fst, x.2.2.snd.snd + (rune x.2.2.snd.fst x.2.2.snd.snd).snd)))
            (obnd (strings_Builder_WriteRuneF (x.fst, (), (↑(rune x.2.2.snd.fst x.2.2.snd.snd).fst : Int))) fun y =>
              back (y.1.fst, x.2.fst, (), x.2.2.snd.fst, x.2.2.snd.snd + (rune x.2.2.snd.fst x.2.2.snd.snd).snd)))
          (obnd (strings_Builder_WriteRuneF (x.fst, (), (↑(rune x.2.2.snd.fst x.2.2.snd.snd).fst : Int))) fun y =>
            back (y.1.fst, x.2.fst, (), x.2.2.snd.fst, x.2.2.snd.snd + (rune x.2.2.snd.fst x.2.2.snd.snd).snd))))
      (brn (!x.2.fst)
        (brn (decide (65 ≤ (↑(rune x.2.2.snd.fst x.2.2.snd.snd).fst : Int)))
          (brn (decide ((↑(rune x.2.2.snd.fst x.2.2.snd.snd).fst : Int) ≤ 90))
            (obnd (strings_Builder_WriteRuneF (x.fst, (), IntKind.i32.wrap ((↑(rune x.2.2.snd.fst x.2.2.snd.snd).fst : Int) + 32))) fun y =>
              back (y.1.fst, x.2.fst, (), x.2.2.snd.fst, x.2.2.snd.snd + (rune x.2.2.snd.fst x.2.2.snd.snd).snd))
            (obnd (strings_Builder_WriteRuneF (x.fst, (), (↑(rune x.2.2.snd.fst x.2.2.snd.snd).fst : Int))) fun y =>
              back (y.1.fst, x.2.fst, (), x.2.2.snd.fst, x.2.2.snd.snd + (rune x.2.2.snd.fst x.2.2.snd.snd).snd)))
          (obnd (strings_Builder_WriteRuneF (x.fst, (), (↑(rune x.2.2.snd.fst x.2.2.snd.snd).fst : Int))) fun y =>
            back (y.1.fst, x.2.fst, (), x.2.2.snd.fst, x.2.2.snd.snd + (rune x.2.2.snd.fst x.2.2.snd.snd).snd)))
        (obnd (strings_Builder_WriteRuneF (x.fst, (), (↑(rune x.2.2.snd.fst x.2.2.snd.snd).fst : Int))) fun y =>
          back (y.1.fst, x.2.fst, (), x.2.2.snd.fst, x.2.2.snd.snd + (rune x.2.2.snd.fst x.2.2.snd.snd).snd))))
    (some (x.fst, (), x.2.2.snd))
def fun_cased_l1J : List (UInt8) × Bool × Unit × ((List UInt8 × Nat)) → Option ((List (UInt8)) × (Unit × ((List UInt8 × Nat)))) := iter fun_cased_l1F big
def fun_cased_l1C : CutSpec tb := ⟨36, [(8589934597, .own 5), (1, .val 4), (5, .box 229638146), (9, .iter)], [((.exit 0), [(8589934597, .own 5)])], [10, 11, 12, 7, 14, 15, 16, 17, 18, 19, 20, 21, 22, 13, 23, 24, 26, 27, 28, 29, 30, 31, 32, 33, 34, 35, 25, 36, 37, 38, 39], fun_cased_l1J⟩
theorem fun_cased_l1_eq : ∀ back x, evLoop Tryz.prog tb fun_casedG [] (loopAt 36 Tryz.f154) fun_cased_l1C.ins fun_cased_l1C.outs back x = fun_cased_l1F back x := fun back x => by kernel_rfl
theorem fun_cased_l1_k : cutB Tryz.f154.ntmps fun_cased_l1C (loopAt 36 Tryz.f154) = true := by kernel_rfl
theorem fun_cased_l1_in : cutsOf ([] : List (CutSpec tb)) (loopAt 36 Tryz.f154) = [] := by kernel_rfl
theorem fun_cased_l1_cut : CutSound Tryz.prog tb Tryz.f154.ntmps (.loop (loopAt 36 Tryz.f154)) fun_cased_l1C := loop_it mixed fun_cased_l1_k fun_casedG_ok rfl fun_cased_l1_in .nil fun_cased_l1F fun_cased_l1_eq rfl
def fun_casedF (x : List UInt8 × Bool) : Option (List UInt8) :=
  obnd (fun_cased_l1J ([], x.snd, (), x.fst, 0)) fun y => obnd (bld_StringF (y.1, ())) fun y => some y.1
def fun_casedS : FSpec tb := ⟨[(0, .val 9), (1, .val 4)], [(0, .val 9)], fun_casedF⟩
theorem fun_cased_eq : ∀ x, evFn Tryz.prog tb fun_casedG [fun_cased_l1C] Tryz.f154 fun_casedS.ins fun_casedS.outs x = fun_casedS.f x := fun x => by kernel_rfl
theorem fun_cased_k : fnK Tryz.f154 fun_casedS.ins fun_casedS.outs = true := by kernel_rfl
theorem fun_cased_in : cutsOf ([fun_cased_l1C] : List (CutSpec tb)) (bodyOf Tryz.f154) = [(36, .loop (loopAt 36 Tryz.f154))] := by kernel_rfl
theorem fun_cased_sound : FnSound Tryz.prog tb 154 fun_casedS := fn_cut mixed Tryz.func154 fun_cased_k fun_casedG_ok rfl fun_cased_in (.cons rfl fun_cased_l1_cut rfl .nil) fun_cased_eq
def fun_amountF (x : Val × Int) : Option (Int × Val × Bool) :=
  obnd (val_NumberF x.fst) fun y =>
    brn (!y.2.snd) (some (0, y.2.fst, false))
      (brn (!decide (y.fst.S = 0)) (obnd (val_FaultF 15) fun y => some (0, y, false))
        (brn (decide (y.fst.M < x.snd)) (obnd (val_FaultF 15) fun y => some (0, y, false))
          (some (y.fst.M, { Kind := 0, N := { M := 0, S := 0 }, S := [], B := false, E := 0 }, true))))
def fun_amountS : FSpec tb := ⟨[(0, .val 32), (1, .val 2)], [(0, .val 2), (1, .val 32), (2, .val 4)], fun_amountF⟩
theorem fun_amount_eq : ∀ x, evFn Tryz.prog tb [(85, val_NumberS), (32, val_FaultS)] [] Tryz.f155 fun_amountS.ins fun_amountS.outs x = fun_amountS.f x := fun x => by kernel_rfl
theorem fun_amount_k : fnK Tryz.f155 fun_amountS.ins fun_amountS.outs = true := by kernel_rfl
theorem fun_amount_sound : FnSound Tryz.prog tb 155 fun_amountS := fn_ev mixed Tryz.func155 fun_amount_k (.cons val_Number_sound (.cons val_Fault_sound .nil)) rfl fun_amount_eq
abbrev fun_partG : List (Nat × FSpec tb) := [(220, strings_Builder_WriteRuneS), (144, bld_StringS)]
theorem fun_partG_ok : AllSound Tryz.prog tb fun_partG := (.cons strings_Builder_WriteRune_sound (.consK bld_String_sound .nil))
def fun_part_l1F (back : List (UInt8) × Int × Int × Unit × Int × ((List UInt8 × Nat)) → Option ((List (UInt8)) × (Unit × ((List UInt8 × Nat))))) (x : List (UInt8) × Int × Int × Unit × Int × ((List UInt8 × Nat))) : Option ((List (UInt8)) × (Unit × ((List UInt8 × Nat)))) :=
  brn (decide (x.2.2.2.2.snd.snd < x.2.2.2.2.snd.fst.length))
    (brn (decide (x.2.fst ≤ x.2.2.2.2.fst))
      (brn (decide (IntKind.i64.wrap (x.2.2.2.2.fst - x.2.fst) < x.2.2.fst))
        (obnd (strings_Builder_WriteRuneF (x.fst, (), (↑(rune x.2.2.2.2.snd.fst x.2.2.2.2.snd.snd).fst : Int))) fun y =>
          back (y.1.fst, x.2.fst, x.2.2.fst, (), IntKind.i64.wrap (x.2.2.2.2.fst + 1), x.2.2.2.2.snd.fst, x.2.2.2.2.snd.snd + (rune x.2.2.2.2.snd.fst x.2.2.2.2.snd.snd).snd))
        (back (x.fst, x.2.fst, x.2.2.fst, (), IntKind.i64.wrap (x.2.2.2.2.fst + 1), x.2.2.2.2.snd.fst, x.2.2.2.2.snd.snd + (rune x.2.2.2.2.snd.fst x.2.2.2.2.snd.snd).snd)))
      (back (x.fst, x.2.fst, x.2.2.fst, (), IntKind.i64.wrap (x.2.2.2.2.fst + 1), x.2.2.2.2.snd.fst, x.2.2.2.2.snd.snd + (rune x.2.2.2.2.snd.fst x.2.2.2.2.snd.snd).snd)))
    (some (x.fst, (), x.2.2.2.2.snd))
def fun_part_l1J : List (UInt8) × Int × Int × Unit × Int × ((List UInt8 × Nat)) → Option ((List (UInt8)) × (Unit × ((List UInt8 × Nat)))) := iter fun_part_l1F big
def fun_part_l1C : CutSpec tb := ⟨44, [(8589934599, .own 5), (1, .val 2), (2, .val 2), (7, .box 229638146), (8, .val 2), (12, .iter)], [((.exit 0), [(8589934599, .own 5)])], [13, 14, 15, 10, 16, 17, 18, 19, 20, 21, 22, 23, 24, 25, 26, 27, 28, 29, 8], fun_part_l1J⟩
theorem fun_part_l1_eq : ∀ back x, evLoop Tryz.prog tb fun_partG [] (loopAt 44 Tryz.f156) fun_part_l1C.ins fun_part_l1C.outs back x = fun_part_l1F back x := fun back x => by kernel_rfl
theorem fun_part_l1_k : cutB Tryz.f156.ntmps fun_part_l1C (loopAt 44 Tryz.f156) = true := by kernel_rfl
theorem fun_part_l1_in : cutsOf ([] : List (CutSpec tb)) (loopAt 44 Tryz.f156) = [] := by kernel_rfl
theorem fun_part_l1_cut : CutSound Tryz.prog tb Tryz.f156.ntmps (.loop (loopAt 44 Tryz.f156)) fun_part_l1C := loop_it mixed fun_part_l1_k fun_partG_ok rfl fun_part_l1_in .nil fun_part_l1F fun_part_l1_eq rfl
def fun_partF (x : List UInt8 × Int × Int) : Option (List UInt8) :=
  obnd (fun_part_l1J ([], x.2.fst, x.2.snd, (), 0, x.fst, 0)) fun y => obnd (bld_StringF (y.1, ())) fun y => some y.1
def fun_partS : FSpec tb := ⟨[(0, .val 9), (1, .val 2), (2, .val 2)], [(0, .val 9)], fun_partF⟩
theorem fun_part_eq : ∀ x, evFn Tryz.prog tb fun_partG [fun_part_l1C] Tryz.f156 fun_partS.ins fun_partS.outs x = fun_partS.f x := fun x => by kernel_rfl
theorem fun_part_k : fnK Tryz.f156 fun_partS.ins fun_partS.outs = true := by kernel_rfl
theorem fun_part_in : cutsOf ([fun_part_l1C] : List (CutSpec tb)) (bodyOf Tryz.f156) = [(44, .loop (loopAt 44 Tryz.f156))] := by kernel_rfl
theorem fun_part_sound : FnSound Tryz.prog tb 156 fun_partS := fn_cut mixed Tryz.func156 fun_part_k fun_partG_ok rfl fun_part_in (.cons rfl fun_part_l1_cut rfl .nil) fun_part_eq
abbrev fun_wordedG : List (Nat × FSpec tb) := [(142, val_WordsS), (101, str_UnitsS), (64, fun_integerS), (154, fun_casedS), (83, fun_textS), (63, fun_truthS), (155, fun_amountS), (156, fun_partS), (32, val_FaultS), (157, strings_RepeatS), (1099511627844, mutS)]
theorem fun_wordedG_ok : AllSound Tryz.prog tb fun_wordedG := (.cons val_Words_sound (.cons str_Units_sound (.cons fun_integer_sound (.cons fun_cased_sound (.cons fun_text_sound (.cons fun_truth_sound (.cons fun_amount_sound (.cons fun_part_sound (.cons val_Fault_sound (.cons strings_Repeat_sound (.consK mut_sound .nil)))))))))))
def fun_worded_b1J (x : Int × List Val × Val × List UInt8 × Int) : Option (((Unit) × Val) ⊕ ((Unit) × Val)) :=
  brn (decide (x.2.2.2.snd = 14)) (obnd (str_UnitsF x.2.2.2.fst) fun y => obnd (fun_integerF y.fst) fun y => some (Sum.inr ((), y)))
    (brn (decide (x.2.2.2.snd = 19))
      (brn (decide (x.2.2.2.snd = 19)) (obnd (fun_casedF (x.2.2.2.fst, decide (x.fst = 19))) fun y => obnd (fun_textF y) fun y => some (Sum.inr ((), y)))
        (brn (decide (x.2.2.2.snd = 26))
          (obnd (idx x.2.fst 1) fun y =>
            obnd (val_WordsF y) fun y => brn (!y.2.snd) (some (Sum.inr ((), y.2.fst))) (obnd (fun_truthF (decide (x.2.2.2.fst = y.fst))) fun y => some (Sum.inr ((), y))))
          (some (Sum.inl ((), x.2.2.fst)))))
      (brn (decide (x.2.2.2.snd = 20)) (obnd (fun_casedF (x.2.2.2.fst, decide (x.fst = 19))) fun y => obnd (fun_textF y) fun y => some (Sum.inr ((), y)))
        (brn (decide (x.2.2.2.snd = 26))
          (obnd (idx x.2.fst 1) fun y =>
            obnd (val_WordsF y) fun y => brn (!y.2.snd) (some (Sum.inr ((), y.2.fst))) (obnd (fun_truthF (decide (x.2.2.2.fst = y.fst))) fun y => some (Sum.inr ((), y))))
          (some (Sum.inl ((), x.2.2.fst))))))
def fun_worded_b1C : CutSpec tb := ⟨51, [(0, .val 3), (1, .val 46), (4, .ref 32), (5, .val 9), (33, .val 3)], [(.normal, []), (.ret, [])], [35, 34, 37, 38, 36, 39, 40, 8, 9, 41, 42, 44, 43, 45, 46, 47, 48, 49, 50, 52, 51, 54, 55, 56, 57, 53, 58, 59, 60, 11, 10, 12, 61, 62, 63, 64, 65, 66, 67], fun_worded_b1J⟩
theorem fun_worded_b1_eq : ∀ x, evBlk Tryz.prog tb fun_wordedG [] (codeAt 51 Tryz.f67) fun_worded_b1C.ins fun_worded_b1C.outs x = fun_worded_b1C.J x := fun x => by kernel_rfl
theorem fun_worded_b1_k : cutB Tryz.f67.ntmps fun_worded_b1C (codeAt 51 Tryz.f67) = true := by kernel_rfl
theorem fun_worded_b1_in : cutsOf ([] : List (CutSpec tb)) (codeAt 51 Tryz.f67) = [] := by kernel_rfl
theorem fun_worded_b1_cut : CutSound Tryz.prog tb Tryz.f67.ntmps (codeAt 51 Tryz.f67) fun_worded_b1C := blk_ev mixed fun_worded_b1_k fun_wordedG_ok rfl fun_worded_b1_in .nil fun_worded_b1_eq
def fun_worded_l2F (back : Int × Val × List (Int) × List Val × Int × Int → Option (((List (Int)) × Val) ⊕ ((Unit) × Val))) (x : Int × Val × List (Int) × List Val × Int × Int) : Option (((List (Int)) × Val) ⊕ ((Unit) × Val)) :=
  brn (decide (x.2.2.2.2.snd < x.2.2.2.2.fst))
    (obnd (idx x.2.2.2.fst x.2.2.2.2.snd) fun y =>
      brn (decide (x.fst = 17))
        (brn (decide (x.2.2.2.2.snd = 0))
          (obnd (fun_amountF (y, 1)) fun y =>
            brn (!y.2.snd) (some (Sum.inr ((), y.2.fst)))
              (obnd (inb x.2.2.fst.length x.2.2.2.2.snd) fun k =>
                obnd (nth x.2.2.fst k) fun y_1 => back (x.fst, x.2.fst, x.2.2.fst.set k y.fst, x.2.2.2.fst, x.2.2.2.2.fst, IntKind.i64.wrap (x.2.2.2.2.snd + 1))))
          (obnd (fun_amountF (y, 0)) fun y =>
            brn (!y.2.snd) (some (Sum.inr ((), y.2.fst)))
              (obnd (inb x.2.2.fst.length x.2.2.2.2.snd) fun k =>
                obnd (nth x.2.2.fst k) fun y_1 => back (x.fst, x.2.fst, x.2.2.fst.set k y.fst, x.2.2.2.fst, x.2.2.2.2.fst, IntKind.i64.wrap (x.2.2.2.2.snd + 1)))))
        (obnd (fun_amountF (y, 0)) fun y =>
          brn (!y.2.snd) (some (Sum.inr ((), y.2.fst)))
            (obnd (inb x.2.2.fst.length x.2.2.2.2.snd) fun k =>
              obnd (nth x.2.2.fst k) fun y_1 => back (x.fst, x.2.fst, x.2.2.fst.set k y.fst, x.2.2.2.fst, x.2.2.2.2.fst, IntKind.i64.wrap (x.2.2.2.2.snd + 1)))))
    (some (Sum.inl (x.2.2.fst, x.2.fst)))
def fun_worded_l2J : Int × Val × List (Int) × List Val × Int × Int → Option (((List (Int)) × Val) ⊕ ((Unit) × Val)) := iter fun_worded_l2F big
def fun_worded_l2C : CutSpec tb := ⟨156, [(0, .val 3), (4, .ref 32), (13, .wr 2), (70, .val 46), (71, .val 3), (72, .val 3)], [((.exit 1), [(13, .own 2)]), (.ret, [])], [73, 74, 75, 76, 15, 14, 16, 77, 78, 79, 80, 81, 82, 84, 85, 86, 83, 87, 88, 89, 18, 17, 19, 90, 91, 92, 93, 94, 95, 96, 97, 72], fun_worded_l2J⟩
theorem fun_worded_l2_eq : ∀ back x, evLoop Tryz.prog tb fun_wordedG [] (loopAt 156 Tryz.f67) fun_worded_l2C.ins fun_worded_l2C.outs back x = fun_worded_l2F back x := fun back x => by kernel_rfl
theorem fun_worded_l2_k : cutB Tryz.f67.ntmps fun_worded_l2C (loopAt 156 Tryz.f67) = true := by kernel_rfl
theorem fun_worded_l2_in : cutsOf ([] : List (CutSpec tb)) (loopAt 156 Tryz.f67) = [] := by kernel_rfl
theorem fun_worded_l2_cut : CutSound Tryz.prog tb Tryz.f67.ntmps (.loop (loopAt 156 Tryz.f67)) fun_worded_l2C := loop_it mixed fun_worded_l2_k fun_wordedG_ok rfl fun_worded_l2_in .nil fun_worded_l2F fun_worded_l2_eq rfl
def fun_wordedF (x : Int × List Val) : Option (Val) :=
  obnd (idx x.snd 0) fun y =>
    obnd (val_WordsF y) fun y =>
      brn (!y.2.snd) (some y.2.fst)
        (obnd (fun_worded_b1J (x.fst, x.snd, { Kind := 0, N := { M := 0, S := 0 }, S := [], B := false, E := 0 }, y.fst, x.fst)) fun y_1 =>
          osum y_1
            (fun y_2 =>
              obnd (sub x.snd 1 (↑x.snd.length : Int)) fun z =>
                obnd (fun_worded_l2J (x.fst, y_2.2, [1, 1], z, (↑z.length : Int), 0)) fun y_3 =>
                  osum y_3
                    (fun y_4 =>
                      brn (decide (x.fst = 15)) (obnd (idx y_4.1 0) fun y_5 => obnd (fun_partF (y.fst, 0, y_5)) fun y => obnd (fun_textF y) fun y => some y)
                        (brn (decide (x.fst = 16))
                          (obnd (bif (List.length y.fst).ble 70368744177664 then some (runesL y.fst (List.length y.fst) 0) else none) fun rs =>
                            obnd (idx y_4.1 0) fun y_5 =>
                              obnd (idx y_4.1 0) fun y_6 =>
                                obnd (fun_partF (y.fst, bif decide (IntKind.i64.wrap ((↑rs.length : Int) - y_5) < 0) then 0 else IntKind.i64.wrap ((↑rs.length : Int) - y_5), y_6))
                                  fun y => obnd (fun_textF y) fun y => some y)
                          (brn (decide (x.fst = 17))
                            (obnd (idx y_4.1 0) fun y_5 =>
                              obnd (idx y_4.1 1) fun y_6 => obnd (fun_partF (y.fst, IntKind.i64.wrap (y_5 - 1), y_6)) fun y => obnd (fun_textF y) fun y => some y)
                            (obnd (str_UnitsF y.fst) fun y_5 =>
                              brn (decide (y_5.fst = 0)) (obnd (fun_textF []) fun y => some y)
                                (obnd (idx y_4.1 0) fun y_6 =>
                                  brn (decide (y_5.fst = 0)) none
                                    (brn (decide (IntKind.i64.wrap (Int.tdiv 1000 y_5.fst) < y_6)) (obnd (val_FaultF 15) fun y => some y)
                                      (obnd (idx y_4.1 0) fun y_7 => obnd (strings_RepeatF (y.fst, y_7)) fun y => obnd (fun_textF y) fun y => some y)))))))
                    fun y => some y.2)
            fun y => some y.2)
def fun_wordedS : FSpec tb := ⟨[(0, .val 3), (1, .val 46)], [(0, .val 32)], fun_wordedF⟩
theorem fun_worded_eq : ∀ x, evFn Tryz.prog tb fun_wordedG [fun_worded_b1C, fun_worded_l2C] Tryz.f67 fun_wordedS.ins fun_wordedS.outs x = fun_wordedS.f x := fun x => by kernel_rfl
theorem fun_worded_k : fnK Tryz.f67 fun_wordedS.ins fun_wordedS.outs = true := by kernel_rfl
theorem fun_worded_in : cutsOf ([fun_worded_b1C, fun_worded_l2C] : List (CutSpec tb)) (bodyOf Tryz.f67) = [(51, codeAt 51 Tryz.f67), (156, .loop (loopAt 156 Tryz.f67))] := by kernel_rfl
theorem fun_worded_sound : FnSound Tryz.prog tb 67 fun_wordedS := fn_cut mixed Tryz.func67 fun_worded_k fun_wordedG_ok rfl fun_worded_in (.cons rfl fun_worded_b1_cut rfl (.cons rfl fun_worded_l2_cut rfl .nil)) fun_worded_eq
abbrev fun_ApplyG : List (Nat × FSpec tb) := [(59, fun_allS), (32, val_FaultS), (60, fun_manyS), (61, fun_chosenS), (62, fun_shapedS), (63, fun_truthS), (64, fun_integerS), (65, val_TruthS), (66, fun_reckonedS), (67, fun_wordedS)]
theorem fun_ApplyG_ok : AllSound Tryz.prog tb fun_ApplyG := (.cons fun_all_sound (.cons val_Fault_sound (.cons fun_many_sound (.cons fun_chosen_sound (.cons fun_shaped_sound (.cons fun_truth_sound (.cons fun_integer_sound (.cons val_Truth_sound (.cons fun_reckoned_sound (.cons fun_worded_sound .nil))))))))))
def fun_Apply_b2J (x : Int × List Arg × Val × Int × Bool) : Option (((Unit) × Val) ⊕ ((Unit) × Val)) :=
  brn x.2.2.2.snd (obnd (fun_manyF (x.fst, x.2.fst)) fun y => some (Sum.inr ((), y)))
    (brn (decide (x.2.2.2.fst = 10))
      (brn (decide (x.2.2.2.fst = 10)) (obnd (fun_chosenF (x.fst, x.2.fst)) fun y => some (Sum.inr ((), y)))
        (brn (decide (x.2.2.2.fst = 28)) (obnd (val_FaultF 42) fun y => some (Sum.inr ((), y))) (some (Sum.inl ((), x.2.2.fst)))))
      (brn (decide (x.2.2.2.fst = 23))
        (brn (decide (x.2.2.2.fst = 23)) (obnd (fun_chosenF (x.fst, x.2.fst)) fun y => some (Sum.inr ((), y)))
          (brn (decide (x.2.2.2.fst = 28)) (obnd (val_FaultF 42) fun y => some (Sum.inr ((), y))) (some (Sum.inl ((), x.2.2.fst)))))
        (brn (decide (x.2.2.2.fst = 24))
          (brn (decide (x.2.2.2.fst = 24)) (obnd (fun_chosenF (x.fst, x.2.fst)) fun y => some (Sum.inr ((), y)))
            (brn (decide (x.2.2.2.fst = 28)) (obnd (val_FaultF 42) fun y => some (Sum.inr ((), y))) (some (Sum.inl ((), x.2.2.fst)))))
          (brn (decide (x.2.2.2.fst = 25)) (obnd (fun_chosenF (x.fst, x.2.fst)) fun y => some (Sum.inr ((), y)))
            (brn (decide (x.2.2.2.fst = 28)) (obnd (val_FaultF 42) fun y => some (Sum.inr ((), y))) (some (Sum.inl ((), x.2.2.fst))))))))
def fun_Apply_b2C : CutSpec tb := ⟨114, [(0, .val 3), (1, .val 34), (4, .ref 32), (42, .val 3), (43, .val 4)], [(.normal, []), (.ret, [])], [52, 53, 54, 56, 55, 57, 58, 59, 60, 61, 62, 64, 63, 65], fun_Apply_b2J⟩
theorem fun_Apply_b2_eq : ∀ x, evBlk Tryz.prog tb fun_ApplyG [] (codeAt 114 Tryz.f19) fun_Apply_b2C.ins fun_Apply_b2C.outs x = fun_Apply_b2C.J x := fun x => by kernel_rfl
theorem fun_Apply_b2_k : cutB Tryz.f19.ntmps fun_Apply_b2C (codeAt 114 Tryz.f19) = true := by kernel_rfl
theorem fun_Apply_b2_in : cutsOf ([] : List (CutSpec tb)) (codeAt 114 Tryz.f19) = [] := by kernel_rfl
theorem fun_Apply_b2_cut : CutSound Tryz.prog tb Tryz.f19.ntmps (codeAt 114 Tryz.f19) fun_Apply_b2C := blk_ev mixed fun_Apply_b2_k fun_ApplyG_ok rfl fun_Apply_b2_in .nil fun_Apply_b2_eq
def fun_Apply_b1J (x : Int × List Arg × Val × Int) : Option (((Unit) × Val) ⊕ ((Unit) × Val)) :=
  brn (decide (x.2.2.snd = 0))
    (obnd (fun_Apply_b2J (x.fst, x.2.fst, x.2.2.fst, x.2.2.snd, decide (x.2.2.snd = 0))) fun y => osum y (fun y => some (Sum.inl ((), y.2))) fun y => some (Sum.inr ((), y.2)))
    (brn (decide (x.2.2.snd = 1))
      (obnd (fun_Apply_b2J (x.fst, x.2.fst, x.2.2.fst, x.2.2.snd, decide (x.2.2.snd = 1))) fun y => osum y (fun y => some (Sum.inl ((), y.2))) fun y => some (Sum.inr ((), y.2)))
      (brn (decide (x.2.2.snd = 2))
        (obnd (fun_Apply_b2J (x.fst, x.2.fst, x.2.2.fst, x.2.2.snd, decide (x.2.2.snd = 2))) fun y => osum y (fun y => some (Sum.inl ((), y.2))) fun y => some (Sum.inr ((), y.2)))
        (brn (decide (x.2.2.snd = 3))
          (obnd (fun_Apply_b2J (x.fst, x.2.fst, x.2.2.fst, x.2.2.snd, decide (x.2.2.snd = 3))) fun y => osum y (fun y => some (Sum.inl ((), y.2))) fun y => some (Sum.inr ((), y.2)))
          (brn (decide (x.2.2.snd = 4))
            (obnd (fun_Apply_b2J (x.fst, x.2.fst, x.2.2.fst, x.2.2.snd, decide (x.2.2.snd = 4))) fun y =>
              osum y (fun y => some (Sum.inl ((), y.2))) fun y => some (Sum.inr ((), y.2)))
            (brn (decide (x.2.2.snd = 11))
              (obnd (fun_Apply_b2J (x.fst, x.2.fst, x.2.2.fst, x.2.2.snd, decide (x.2.2.snd = 11))) fun y =>
                osum y (fun y => some (Sum.inl ((), y.2))) fun y => some (Sum.inr ((), y.2)))
              (brn (decide (x.2.2.snd = 12))
                (obnd (fun_Apply_b2J (x.fst, x.2.fst, x.2.2.fst, x.2.2.snd, decide (x.2.2.snd = 12))) fun y =>
                  osum y (fun y => some (Sum.inl ((), y.2))) fun y => some (Sum.inr ((), y.2)))
                (obnd (fun_Apply_b2J (x.fst, x.2.fst, x.2.2.fst, x.2.2.snd, decide (x.2.2.snd = 18))) fun y =>
                  osum y (fun y => some (Sum.inl ((), y.2))) fun y => some (Sum.inr ((), y.2)))))))))
def fun_Apply_b1C : CutSpec tb := ⟨51, [(0, .val 3), (1, .val 34), (4, .ref 32), (42, .val 3)], [(.normal, []), (.ret, [])], [44, 43, 45, 46, 47, 48, 49, 50, 51, 52, 53, 54, 56, 55, 57, 58, 59, 60, 61, 62, 64, 63, 65], fun_Apply_b1J⟩
theorem fun_Apply_b1_eq : ∀ x, evBlk Tryz.prog tb fun_ApplyG [fun_Apply_b2C] (codeAt 51 Tryz.f19) fun_Apply_b1C.ins fun_Apply_b1C.outs x = fun_Apply_b1C.J x := fun x => by kernel_rfl
theorem fun_Apply_b1_k : cutB Tryz.f19.ntmps fun_Apply_b1C (codeAt 51 Tryz.f19) = true := by kernel_rfl
theorem fun_Apply_b1_in : cutsOf ([fun_Apply_b2C] : List (CutSpec tb)) (codeAt 51 Tryz.f19) = [(114, codeAt 114 Tryz.f19)] := by kernel_rfl
theorem fun_Apply_b1_cut : CutSound Tryz.prog tb Tryz.f19.ntmps (codeAt 51 Tryz.f19) fun_Apply_b1C := blk_ev mixed fun_Apply_b1_k fun_ApplyG_ok rfl fun_Apply_b1_in (.cons rfl fun_Apply_b2_cut rfl .nil) fun_Apply_b1_eq
def fun_Apply_l3F (back : List (Val) × List Arg × Int × Int → Option (List (Val))) (x : List (Val) × List Arg × Int × Int) : Option (List (Val)) :=
  brn (decide (x.2.2.snd < x.2.2.fst))
    (obnd (idx x.2.fst x.2.2.snd) fun y => obnd (idx y.L 0) fun y => obnd (app 56 x.fst [y]) fun zs => back (zs, x.2.fst, x.2.2.fst, IntKind.i64.wrap (x.2.2.snd + 1))) (some x.1)
def fun_Apply_l3J : List (Val) × List Arg × Int × Int → Option (List (Val)) := iter fun_Apply_l3F big
def fun_Apply_l3C : CutSpec tb := ⟨212, [(6, .own 32), (70, .val 34), (71, .val 3), (72, .val 3)], [((.exit 1), [(6, .own 32)])], [73, 74, 75, 8, 76, 77, 78, 79, 80, 81, 82, 6, 83, 72], fun_Apply_l3J⟩
theorem fun_Apply_l3_eq : ∀ back x, evLoop Tryz.prog tb fun_ApplyG [] (loopAt 212 Tryz.f19) fun_Apply_l3C.ins fun_Apply_l3C.outs back x = fun_Apply_l3F back x := fun back x => by kernel_rfl
theorem fun_Apply_l3_k : cutB Tryz.f19.ntmps fun_Apply_l3C (loopAt 212 Tryz.f19) = true := by kernel_rfl
theorem fun_Apply_l3_in : cutsOf ([] : List (CutSpec tb)) (loopAt 212 Tryz.f19) = [] := by kernel_rfl
theorem fun_Apply_l3_cut : CutSound Tryz.prog tb Tryz.f19.ntmps (.loop (loopAt 212 Tryz.f19)) fun_Apply_l3C := loop_it mixed fun_Apply_l3_k fun_ApplyG_ok rfl fun_Apply_l3_in .nil fun_Apply_l3F fun_Apply_l3_eq rfl
def fun_Apply_b4J (x : Int × Val × List Val × Int) : Option (((Unit) × Val) ⊕ ((Unit) × Val)) :=
  brn (decide (x.2.2.snd = 21)) (obnd (idx x.2.2.fst 0) fun y => obnd (fun_truthF (decide (y.Kind = 0))) fun y => some (Sum.inr ((), y)))
    (brn (decide (x.2.2.snd = 22)) (obnd (idx x.2.2.fst 0) fun y => obnd (fun_truthF (decide (y.Kind = 4))) fun y => some (Sum.inr ((), y)))
      (brn (decide (x.2.2.snd = 29))
        (obnd (idx x.2.2.fst 0) fun y =>
          obnd (fun_integerF (mpGetD keq3 0 y.Kind (mpPut keq3 4 16 (mpPut keq3 3 4 (mpPut keq3 2 2 (mpPut keq3 1 1 (mpPut keq3 0 1 [])))))))
            fun y => some (Sum.inr ((), y)))
        (brn (decide (x.2.2.snd = 13))
          (obnd (idx x.2.2.fst 0) fun y => obnd (val_TruthF y) fun y => brn (!y.2.snd) (some (Sum.inr ((), y.2.fst))) (obnd (fun_truthF !y.fst) fun y => some (Sum.inr ((), y))))
          (brn (decide (x.2.2.snd = 5)) (brn (decide (x.2.2.snd = 5)) (obnd (fun_reckonedF (x.fst, x.2.2.fst)) fun y => some (Sum.inr ((), y))) (some (Sum.inl ((), x.2.fst))))
            (brn (decide (x.2.2.snd = 6)) (brn (decide (x.2.2.snd = 6)) (obnd (fun_reckonedF (x.fst, x.2.2.fst)) fun y => some (Sum.inr ((), y))) (some (Sum.inl ((), x.2.fst))))
              (brn (decide (x.2.2.snd = 7)) (brn (decide (x.2.2.snd = 7)) (obnd (fun_reckonedF (x.fst, x.2.2.fst)) fun y => some (Sum.inr ((), y))) (some (Sum.inl ((), x.2.fst))))
                (brn (decide (x.2.2.snd = 8)) (brn (decide (x.2.2.snd = 8)) (obnd (fun_reckonedF (x.fst, x.2.2.fst)) fun y => some (Sum.inr ((), y))) (some (Sum.inl ((), x.2.fst))))
                  (brn (decide (x.2.2.snd = 9)) (obnd (fun_reckonedF (x.fst, x.2.2.fst)) fun y => some (Sum.inr ((), y))) (some (Sum.inl ((), x.2.fst)))))))))))
def fun_Apply_b4C : CutSpec tb := ⟨251, [(0, .val 3), (4, .ref 32), (6, .val 46), (84, .val 3)], [(.normal, []), (.ret, [])], [86, 85, 87, 88, 89, 90, 91, 92, 94, 93, 95, 96, 97, 98, 99, 100, 102, 101, 103, 104, 105, 106, 107, 108, 109, 110, 112, 111, 114, 115, 116, 117, 113, 118, 119, 120, 10, 9, 11, 121, 122, 123, 124, 125, 126, 128, 127, 129, 130, 131, 132, 133, 134, 135], fun_Apply_b4J⟩
theorem fun_Apply_b4_eq : ∀ x, evBlk Tryz.prog tb fun_ApplyG [] (codeAt 251 Tryz.f19) fun_Apply_b4C.ins fun_Apply_b4C.outs x = fun_Apply_b4C.J x := fun x => by kernel_rfl
theorem fun_Apply_b4_k : cutB Tryz.f19.ntmps fun_Apply_b4C (codeAt 251 Tryz.f19) = true := by kernel_rfl
theorem fun_Apply_b4_in : cutsOf ([] : List (CutSpec tb)) (codeAt 251 Tryz.f19) = [] := by kernel_rfl
theorem fun_Apply_b4_cut : CutSound Tryz.prog tb Tryz.f19.ntmps (codeAt 251 Tryz.f19) fun_Apply_b4C := blk_ev mixed fun_Apply_b4_k fun_ApplyG_ok rfl fun_Apply_b4_in .nil fun_Apply_b4_eq
def fun_ApplyF (x : Int × List Arg) : Option (Val) :=
  obnd (fun_allF ()) fun y =>
    brn (decide (x.fst < 0)) (obnd (val_FaultF 15) fun y => some y)
      (brn (decide ((↑(List.length y) : Int) ≤ x.fst)) (obnd (val_FaultF 15) fun y => some y)
        (obnd (idx y x.fst) fun y_1 =>
          brn (decide ((↑x.snd.length : Int) < y_1.lo)) (obnd (val_FaultF 15) fun y => some y)
            (obnd (idx y x.fst) fun y =>
              brn (decide (y.hi < (↑x.snd.length : Int))) (obnd (val_FaultF 15) fun y => some y)
                (obnd (fun_Apply_b1J (x.fst, x.snd, { Kind := 0, N := { M := 0, S := 0 }, S := [], B := false, E := 0 }, x.fst)) fun y =>
                  osum y
                    (fun y =>
                      obnd (fun_shapedF x.snd) fun y_2 =>
                        brn (!y_2) (obnd (val_FaultF 15) fun y => some y)
                          (obnd (fun_Apply_l3J ([], x.snd, (↑x.snd.length : Int), 0)) fun y_3 =>
                            obnd (fun_Apply_b4J (x.fst, y.2, y_3, x.fst)) fun y => osum y (fun y => obnd (fun_wordedF (x.fst, y_3)) fun y => some y) fun y => some y.2))
                    fun y => some y.2))))
def fun_ApplyS : FSpec tb := ⟨[(0, .val 3), (1, .val 34)], [(0, .val 32)], fun_ApplyF⟩
theorem fun_Apply_eq : ∀ x, evFn Tryz.prog tb fun_ApplyG [fun_Apply_b1C, fun_Apply_l3C, fun_Apply_b4C] Tryz.f19 fun_ApplyS.ins fun_ApplyS.outs x = fun_ApplyS.f x := fun x => by kernel_rfl
theorem fun_Apply_k : fnK Tryz.f19 fun_ApplyS.ins fun_ApplyS.outs = true := by kernel_rfl
theorem fun_Apply_in : cutsOf ([fun_Apply_b1C, fun_Apply_l3C, fun_Apply_b4C] : List (CutSpec tb)) (bodyOf Tryz.f19) = [(51, codeAt 51 Tryz.f19), (212, .loop (loopAt 212 Tryz.f19)), (251, codeAt 251 Tryz.f19)] := by kernel_rfl
theorem fun_Apply_sound : FnSound Tryz.prog tb 19 fun_ApplyS := fn_cut mixed Tryz.func19 fun_Apply_k fun_ApplyG_ok rfl fun_Apply_in (.cons rfl fun_Apply_b1_cut rfl (.cons rfl fun_Apply_l3_cut rfl (.cons rfl fun_Apply_b4_cut rfl .nil))) fun_Apply_eq
abbrev fun_powerG : List (Nat × FSpec tb) := [(32, val_FaultS), (33, dec_IntS), (37, dec_MulS), (86, fun_numS), (36, dec_DivS)]
theorem fun_powerG_ok : AllSound Tryz.prog tb fun_powerG := (.cons val_Fault_sound (.cons dec_Int_sound (.cons dec_Mul_sound (.cons fun_num_sound (.cons dec_Div_sound .nil)))))
def fun_power_l1F (back : Dec × Val × Dec × Int × Int → Option (((Unit) × (Val × Dec)) ⊕ ((Unit) × (Val × Dec)))) (x : Dec × Val × Dec × Int × Int) : Option (((Unit) × (Val × Dec)) ⊕ ((Unit) × (Val × Dec))) :=
  brn (decide (x.2.2.2.snd < x.2.2.2.fst))
    (obnd (dec_MulF (x.2.2.fst, x.fst)) fun y =>
      brn (!decide (y.snd = 0)) (obnd (fun_numF y) fun y_1 => some (Sum.inr ((), y_1, y.fst))) (back (x.fst, x.2.fst, y.fst, x.2.2.2.fst, IntKind.i64.wrap (x.2.2.2.snd + 1))))
    (some (Sum.inl ((), x.2.fst, x.2.2.fst)))
def fun_power_l1J : Dec × Val × Dec × Int × Int → Option (((Unit) × (Val × Dec)) ⊕ ((Unit) × (Val × Dec))) := iter fun_power_l1F big
def fun_power_l1C : CutSpec tb := ⟨52, [(2, .ro 30), (4, .ref 32), (5, .ref 30), (27, .val 2), (28, .val 2)], [((.exit 0), []), (.ret, [])], [29, 31, 32, 33, 30, 34, 35, 6, 36, 37, 38, 39, 40, 41, 28], fun_power_l1J⟩
theorem fun_power_l1_eq : ∀ back x, evLoop Tryz.prog tb fun_powerG [] (loopAt 52 Tryz.f88) fun_power_l1C.ins fun_power_l1C.outs back x = fun_power_l1F back x := fun back x => by kernel_rfl
theorem fun_power_l1_k : cutB Tryz.f88.ntmps fun_power_l1C (loopAt 52 Tryz.f88) = true := by kernel_rfl
theorem fun_power_l1_in : cutsOf ([] : List (CutSpec tb)) (loopAt 52 Tryz.f88) = [] := by kernel_rfl
theorem fun_power_l1_cut : CutSound Tryz.prog tb Tryz.f88.ntmps (.loop (loopAt 52 Tryz.f88)) fun_power_l1C := loop_it mixed fun_power_l1_k fun_powerG_ok rfl fun_power_l1_in .nil fun_power_l1F fun_power_l1_eq rfl
def fun_powerF (x : Dec × Dec) : Option (Val) :=
  brn (!decide (x.snd.S = 0)) (obnd (val_FaultF 36) fun y => some y)
    (brn (decide (x.snd.M < -64)) (obnd (val_FaultF 36) fun y => some y)
      (brn (decide (64 < x.snd.M)) (obnd (val_FaultF 36) fun y => some y)
        (obnd (dec_IntF 1) fun y =>
          obnd
            (fun_power_l1J
              (x.fst, { Kind := 0, N := { M := 0, S := 0 }, S := [], B := false, E := 0 }, y,
                bif decide (x.snd.M < IntKind.i64.wrap (0 - x.snd.M)) then IntKind.i64.wrap (0 - x.snd.M) else x.snd.M, 0))
            fun y =>
            osum y
              (fun y =>
                brn (decide (x.snd.M < 0)) (obnd (dec_IntF 1) fun y_1 => obnd (dec_DivF (y_1, y.2.snd)) fun y => obnd (fun_numF y) fun y => some y)
                  (obnd (fun_numF (y.2.snd, 0)) fun y => some y))
              fun y => some y.2.fst)))
def fun_powerS : FSpec tb := ⟨[(0, .val 30), (1, .val 30)], [(0, .val 32)], fun_powerF⟩
theorem fun_power_eq : ∀ x, evFn Tryz.prog tb fun_powerG [fun_power_l1C] Tryz.f88 fun_powerS.ins fun_powerS.outs x = fun_powerS.f x := fun x => by kernel_rfl
theorem fun_power_k : fnK Tryz.f88 fun_powerS.ins fun_powerS.outs = true := by kernel_rfl
theorem fun_power_in : cutsOf ([fun_power_l1C] : List (CutSpec tb)) (bodyOf Tryz.f88) = [(52, .loop (loopAt 52 Tryz.f88))] := by kernel_rfl
theorem fun_power_sound : FnSound Tryz.prog tb 88 fun_powerS := fn_cut mixed Tryz.func88 fun_power_k fun_powerG_ok rfl fun_power_in (.cons rfl fun_power_l1_cut rfl .nil) fun_power_eq
abbrev fun_BinaryG : List (Nat × FSpec tb) := [(32, val_FaultS), (84, val_TextS), (83, fun_textS), (27, val_CompareS), (63, fun_truthS), (85, val_NumberS), (87, dec_AddS), (86, fun_numS), (35, dec_SubS), (37, dec_MulS), (36, dec_DivS), (88, fun_powerS)]
theorem fun_BinaryG_ok : AllSound Tryz.prog tb fun_BinaryG := (.cons val_Fault_sound (.cons val_Text_sound (.cons fun_text_sound (.cons val_Compare_sound (.cons fun_truth_sound (.cons val_Number_sound (.cons dec_Add_sound (.cons fun_num_sound (.cons dec_Sub_sound (.cons dec_Mul_sound (.cons dec_Div_sound (.cons fun_power_sound .nil))))))))))))
def fun_Binary_b1J (x : Int × Val × Val × Val) : Option (((Unit) × Val) ⊕ ((Unit) × Val)) :=
  brn (decide (x.2.fst.Kind = 4)) (some (Sum.inr ((), x.2.fst)))
    (brn (decide (x.2.2.fst.Kind = 4)) (some (Sum.inr ((), x.2.2.fst)))
      (brn (decide (x.fst < 1)) (obnd (val_FaultF 15) fun y => some (Sum.inr ((), y)))
        (brn (decide (12 < x.fst)) (obnd (val_FaultF 15) fun y => some (Sum.inr ((), y)))
          (brn (decide (x.fst = 6))
            (obnd (val_TextF x.2.fst) fun y => obnd (val_TextF x.2.2.fst) fun y_1 => obnd (cat y y_1) fun z => obnd (fun_textF z) fun y => some (Sum.inr ((), y)))
            (brn (decide (6 < x.fst))
              (obnd (val_CompareF (x.2.fst, x.2.2.fst)) fun y =>
                obnd (idx [decide (y = 0), !decide (y = 0), decide (y < 0), decide (y ≤ 0), decide (0 < y), decide (0 ≤ y)] (IntKind.i64.wrap (x.fst - 7))) fun y =>
                  obnd (fun_truthF y) fun y => some (Sum.inr ((), y)))
              (some (Sum.inl ((), x.2.2.snd))))))))
def fun_Binary_b1C : CutSpec tb := ⟨19, [(0, .val 3), (4, .ro 32), (5, .ro 32), (6, .ref 32)], [(.normal, []), (.ret, [])], [13, 14, 15, 12, 16, 18, 19, 20, 17, 21, 23, 24, 25, 26, 27, 28, 22, 29, 31, 32, 30, 33, 34, 35, 36, 37, 38, 40, 41, 39, 42, 43, 44, 7, 45, 46, 47, 48, 49, 50, 51, 52, 53, 54, 55, 56, 57, 58, 59, 60, 61, 62], fun_Binary_b1J⟩
theorem fun_Binary_b1_eq : ∀ x, evBlk Tryz.prog tb fun_BinaryG [] (codeAt 19 Tryz.f30) fun_Binary_b1C.ins fun_Binary_b1C.outs x = fun_Binary_b1C.J x := fun x => by kernel_rfl
theorem fun_Binary_b1_k : cutB Tryz.f30.ntmps fun_Binary_b1C (codeAt 19 Tryz.f30) = true := by kernel_rfl
theorem fun_Binary_b1_in : cutsOf ([] : List (CutSpec tb)) (codeAt 19 Tryz.f30) = [] := by kernel_rfl
theorem fun_Binary_b1_cut : CutSound Tryz.prog tb Tryz.f30.ntmps (codeAt 19 Tryz.f30) fun_Binary_b1C := blk_ev mixed fun_Binary_b1_k fun_BinaryG_ok rfl fun_Binary_b1_in .nil fun_Binary_b1_eq
def fun_BinaryF (x : Int × Val × Val) : Option (Val) :=
  obnd (fun_Binary_b1J (x.fst, x.2.fst, x.2.snd, { Kind := 0, N := { M := 0, S := 0 }, S := [], B := false, E := 0 })) fun y =>
    osum y
      (fun y =>
        obnd (val_NumberF x.2.fst) fun y =>
          brn (!y.2.snd) (some y.2.fst)
            (obnd (val_NumberF x.2.snd) fun y_1 =>
              brn (!y_1.2.snd) (some y_1.2.fst)
                (brn (decide (x.fst = 1)) (obnd (dec_AddF (y.fst, y_1.fst)) fun y => obnd (fun_numF y) fun y => some y)
                  (brn (decide (x.fst = 2)) (obnd (dec_SubF (y.fst, y_1.fst)) fun y => obnd (fun_numF y) fun y => some y)
                    (brn (decide (x.fst = 3)) (obnd (dec_MulF (y.fst, y_1.fst)) fun y => obnd (fun_numF y) fun y => some y)
                      (brn (decide (x.fst = 4)) (obnd (dec_DivF (y.fst, y_1.fst)) fun y => obnd (fun_numF y) fun y => some y)
                        (obnd (fun_powerF (y.fst, y_1.fst)) fun y => some y)))))))
      fun y => some y.2
def fun_BinaryS : FSpec tb := ⟨[(0, .val 3), (1, .val 32), (2, .val 32)], [(0, .val 32)], fun_BinaryF⟩
theorem fun_Binary_eq : ∀ x, evFn Tryz.prog tb fun_BinaryG [fun_Binary_b1C] Tryz.f30 fun_BinaryS.ins fun_BinaryS.outs x = fun_BinaryS.f x := fun x => by kernel_rfl
theorem fun_Binary_k : fnK Tryz.f30 fun_BinaryS.ins fun_BinaryS.outs = true := by kernel_rfl
theorem fun_Binary_in : cutsOf ([fun_Binary_b1C] : List (CutSpec tb)) (bodyOf Tryz.f30) = [(19, codeAt 19 Tryz.f30)] := by kernel_rfl
theorem fun_Binary_sound : FnSound Tryz.prog tb 30 fun_BinaryS := fn_cut mixed Tryz.func30 fun_Binary_k fun_BinaryG_ok rfl fun_Binary_in (.cons rfl fun_Binary_b1_cut rfl .nil) fun_Binary_eq
def fun_UnaryF (x : Int × Val) : Option (Val) :=
  brn (decide (x.fst = 2)) (some x.snd)
    (brn (!decide (x.fst = 1))
      (brn (!decide (x.fst = 3)) (obnd (val_FaultF 15) fun y => some y)
        (obnd (val_NumberF x.snd) fun y =>
          brn (!y.2.snd) (some y.2.fst)
            (brn (decide (x.fst = 1)) (obnd (dec_IntF 0) fun y_1 => obnd (dec_SubF (y_1, y.fst)) fun y => obnd (fun_numF y) fun y => some y)
              (obnd (dec_IntF 100) fun y_1 => obnd (dec_DivF (y.fst, y_1)) fun y => obnd (fun_numF y) fun y => some y))))
      (obnd (val_NumberF x.snd) fun y =>
        brn (!y.2.snd) (some y.2.fst)
          (brn (decide (x.fst = 1)) (obnd (dec_IntF 0) fun y_1 => obnd (dec_SubF (y_1, y.fst)) fun y => obnd (fun_numF y) fun y => some y)
            (obnd (dec_IntF 100) fun y_1 => obnd (dec_DivF (y.fst, y_1)) fun y => obnd (fun_numF y) fun y => some y))))
def fun_UnaryS : FSpec tb := ⟨[(0, .val 3), (1, .val 32)], [(0, .val 32)], fun_UnaryF⟩
theorem fun_Unary_eq : ∀ x, evFn Tryz.prog tb [(32, val_FaultS), (85, val_NumberS), (33, dec_IntS), (35, dec_SubS), (86, fun_numS), (36, dec_DivS)] [] Tryz.f40 fun_UnaryS.ins fun_UnaryS.outs x = fun_UnaryS.f x := fun x => by kernel_rfl
theorem fun_Unary_k : fnK Tryz.f40 fun_UnaryS.ins fun_UnaryS.outs = true := by kernel_rfl
theorem fun_Unary_sound : FnSound Tryz.prog tb 40 fun_UnaryS := fn_ev mixed Tryz.func40 fun_Unary_k (.cons val_Fault_sound (.cons val_Number_sound (.cons dec_Int_sound (.cons dec_Sub_sound (.cons fun_num_sound (.cons dec_Div_sound .nil)))))) rfl fun_Unary_eq
end Go.Proofs.YtdgpkbnnljblmaaGreatDoor
