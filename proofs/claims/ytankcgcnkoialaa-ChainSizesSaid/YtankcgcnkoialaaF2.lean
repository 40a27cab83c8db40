/- The document's functions: what each computes, and that it does. (by gen.py) -/
import Derived.Test.YtankcgcnkoialaaF1
namespace Go.Proofs.Ytankcgcnkoialaa
open Go Go.Ev
set_option linter.unusedVariables false


noncomputable section

/-! ### law8_OfCell -/
def law8_OfCellF (x : Cell) : Option (Cell) :=
  some x
def law8_OfCellS : FSpec tb := ⟨[(0, .val 40)], [(0, .val 108)], law8_OfCellF⟩
theorem law8_OfCell_eq : ∀ x, evFn Try.prog tb [] [] Try.f68 law8_OfCellS.ins law8_OfCellS.outs x = law8_OfCellS.f x := fun x => by kernel_rfl
theorem law8_OfCell_k : fnK Try.f68 law8_OfCellS.ins law8_OfCellS.outs = true := by kernel_rfl
theorem law8_OfCell_sound : FnSound Try.prog tb 68 law8_OfCellS := fn_ev mixed Try.func68 law8_OfCell_k .nil rfl law8_OfCell_eq

/-! ### law14_OfPlace -/
def law14_OfPlaceF (x : Place) : Option (Place) :=
  obnd (law8_OfCellF x.At) fun y => some { Sheet := x.Sheet, At := y }
def law14_OfPlaceS : FSpec tb := ⟨[(0, .val 42)], [(0, .val 110)], law14_OfPlaceF⟩
theorem law14_OfPlace_eq : ∀ x, evFn Try.prog tb [(68, law8_OfCellS)] [] Try.f48 law14_OfPlaceS.ins law14_OfPlaceS.outs x = law14_OfPlaceS.f x := fun x => by kernel_rfl
theorem law14_OfPlace_k : fnK Try.f48 law14_OfPlaceS.ins law14_OfPlaceS.outs = true := by kernel_rfl
theorem law14_OfPlace_sound : FnSound Try.prog tb 48 law14_OfPlaceS := fn_ev mixed Try.func48 law14_OfPlace_k (.cons law8_OfCell_sound .nil) rfl law14_OfPlace_eq

/-! ### law14_OfPlaces -/
abbrev law14_OfPlacesG : List (Nat × FSpec tb) := [(48, law14_OfPlaceS)]
theorem law14_OfPlacesG_ok : AllSound Try.prog tb (law14_OfPlacesG) := (.cons law14_OfPlace_sound .nil)
def law14_OfPlaces_l1F (back : List Place × List (Place) × Int → Option (List (Place))) (x : List Place × List (Place) × Int) : Option (List (Place)) :=
  brn (decide (x.2.snd < (↑x.fst.length : Int)))
    (obnd (idx x.fst x.2.snd) fun y => obnd (law14_OfPlaceF y) fun y => obnd (app 24 x.2.fst [y]) fun zs => back (x.fst, zs, IntKind.i64.wrap (x.2.snd + 1))) (some x.2.1)
def law14_OfPlaces_l1J : List Place × List (Place) × Int → Option (List (Place)) := iter law14_OfPlaces_l1F big
def law14_OfPlaces_l1C : CutSpec tb := ⟨36, [(0, .val 37), (3, .own 110), (4, .val 3)], [((.exit 0), [(3, .own 110)])], [5, 6, 7, 8, 11, 12, 13, 14, 15, 16, 17, 18, 3, 9, 10, 4], law14_OfPlaces_l1J⟩
theorem law14_OfPlaces_l1_eq : ∀ back x, evLoop Try.prog tb law14_OfPlacesG [] (loopAt 36 Try.f23) (law14_OfPlaces_l1C).ins (law14_OfPlaces_l1C).outs back x = law14_OfPlaces_l1F back x := fun back x => by kernel_rfl
theorem law14_OfPlaces_l1_k : cutB Try.f23.ntmps (law14_OfPlaces_l1C) (loopAt 36 Try.f23) = true := by kernel_rfl
theorem law14_OfPlaces_l1_in : cutsOf ([] : List (CutSpec tb)) (loopAt 36 Try.f23) = [] := by kernel_rfl
theorem law14_OfPlaces_l1_cut : CutSound Try.prog tb Try.f23.ntmps (.loop (loopAt 36 Try.f23)) (law14_OfPlaces_l1C) := loop_it mixed law14_OfPlaces_l1_k law14_OfPlacesG_ok rfl law14_OfPlaces_l1_in .nil law14_OfPlaces_l1F law14_OfPlaces_l1_eq rfl
def law14_OfPlacesF (x : List Place) : Option (List (Place)) :=
  obnd (law14_OfPlaces_l1J (x, [], 0)) fun y => some y
def law14_OfPlacesS : FSpec tb := ⟨[(0, .val 37)], [(0, .own 110)], law14_OfPlacesF⟩
theorem law14_OfPlaces_eq : ∀ x, evFn Try.prog tb law14_OfPlacesG [law14_OfPlaces_l1C] Try.f23 law14_OfPlacesS.ins law14_OfPlacesS.outs x = law14_OfPlacesS.f x := fun x => by kernel_rfl
theorem law14_OfPlaces_k : fnK Try.f23 law14_OfPlacesS.ins law14_OfPlacesS.outs = true := by kernel_rfl
theorem law14_OfPlaces_in : cutsOf ([law14_OfPlaces_l1C] : List (CutSpec tb)) (bodyOf Try.f23) = [(36, .loop (loopAt 36 Try.f23))] := by kernel_rfl
theorem law14_OfPlaces_sound : FnSound Try.prog tb 23 law14_OfPlacesS := fn_cut mixed Try.func23 law14_OfPlaces_k law14_OfPlacesG_ok rfl law14_OfPlaces_in (.cons rfl law14_OfPlaces_l1_cut rfl .nil) law14_OfPlaces_eq

/-! ### ref7_PutLow -/
def ref7_PutLow_l1F (back : Int × Int × List (UInt8) × Int → Option (List (UInt8))) (x : Int × Int × List (UInt8) × Int) : Option (List (UInt8)) :=
  brn (decide (x.2.2.snd < x.2.fst))
    (brn (decide (IntKind.u64.wrap (IntKind.i64.wrap (8 * x.2.2.snd)) < 0)) none
      (obnd (app 1 x.2.2.fst [UInt8.ofNat (IntKind.u8.wrap (x.fst.fdiv (2 ^ min (IntKind.u64.wrap (IntKind.i64.wrap (8 * x.2.2.snd))).toNat 64))).toNat]) fun zs =>
        back (x.fst, x.2.fst, zs, IntKind.i64.wrap (x.2.2.snd + 1))))
    (some x.2.2.1)
def ref7_PutLow_l1J : Int × Int × List (UInt8) × Int → Option (List (UInt8)) := iter ref7_PutLow_l1F big
def ref7_PutLow_l1C : CutSpec tb := ⟨36, [(1, .val 106), (2, .val 3), (7, .own 5), (8, .val 3)], [((.exit 0), [(7, .own 5)])], [12, 13, 14, 17, 18, 19, 20, 21, 22, 23, 24, 25, 7, 15, 16, 8], ref7_PutLow_l1J⟩
theorem ref7_PutLow_l1_eq : ∀ back x, evLoop Try.prog tb [] [] (loopAt 36 Try.f45) (ref7_PutLow_l1C).ins (ref7_PutLow_l1C).outs back x = ref7_PutLow_l1F back x := fun back x => by kernel_rfl
theorem ref7_PutLow_l1_k : cutB Try.f45.ntmps (ref7_PutLow_l1C) (loopAt 36 Try.f45) = true := by kernel_rfl
theorem ref7_PutLow_l1_in : cutsOf ([] : List (CutSpec tb)) (loopAt 36 Try.f45) = [] := by kernel_rfl
theorem ref7_PutLow_l1_cut : CutSound Try.prog tb Try.f45.ntmps (.loop (loopAt 36 Try.f45)) (ref7_PutLow_l1C) := loop_it mixed ref7_PutLow_l1_k .nil rfl ref7_PutLow_l1_in .nil ref7_PutLow_l1F ref7_PutLow_l1_eq rfl
def ref7_PutLowF (x : List UInt8 × Int × Int) : Option (List (UInt8)) :=
  obnd (app 1 [] x.fst) fun zs => obnd (ref7_PutLow_l1J (x.2.fst, x.2.snd, zs, 0)) fun y => some y
def ref7_PutLowS : FSpec tb := ⟨[(0, .val 49), (1, .val 106), (2, .val 3)], [(0, .own 5)], ref7_PutLowF⟩
theorem ref7_PutLow_eq : ∀ x, evFn Try.prog tb [] [ref7_PutLow_l1C] Try.f45 ref7_PutLowS.ins ref7_PutLowS.outs x = ref7_PutLowS.f x := fun x => by kernel_rfl
theorem ref7_PutLow_k : fnK Try.f45 ref7_PutLowS.ins ref7_PutLowS.outs = true := by kernel_rfl
theorem ref7_PutLow_in : cutsOf ([ref7_PutLow_l1C] : List (CutSpec tb)) (bodyOf Try.f45) = [(36, .loop (loopAt 36 Try.f45))] := by kernel_rfl
theorem ref7_PutLow_sound : FnSound Try.prog tb 45 ref7_PutLowS := fn_cut mixed Try.func45 ref7_PutLow_k .nil rfl ref7_PutLow_in (.cons rfl ref7_PutLow_l1_cut rfl .nil) ref7_PutLow_eq

/-! ### ref13_Good -/
def ref13_GoodF (x : Cell) : Option (Bool) :=
  brn (decide (0 ≤ x.Row)) (brn (decide (x.Row < 65536)) (brn (decide (0 ≤ x.Col)) (some (decide (x.Col < 256))) (some false)) (some false)) (some false)
def ref13_GoodS : FSpec tb := ⟨[(0, .val 108)], [(0, .val 4)], ref13_GoodF⟩
theorem ref13_Good_eq : ∀ x, evFn Try.prog tb [] [] Try.f67 ref13_GoodS.ins ref13_GoodS.outs x = ref13_GoodS.f x := fun x => by kernel_rfl
theorem ref13_Good_k : fnK Try.f67 ref13_GoodS.ins ref13_GoodS.outs = true := by kernel_rfl
theorem ref13_Good_sound : FnSound Try.prog tb 67 ref13_GoodS := fn_ev mixed Try.func67 ref13_Good_k .nil rfl ref13_Good_eq

/-! ### ref18_GoodPlace -/
def ref18_GoodPlaceF (x : Place × Int) : Option (Bool) :=
  brn (decide (0 ≤ x.fst.Sheet)) (brn (decide (x.fst.Sheet < x.snd)) (obnd (ref13_GoodF x.fst.At) fun y => some y) (some false)) (some false)
def ref18_GoodPlaceS : FSpec tb := ⟨[(0, .val 110), (1, .val 3)], [(0, .val 4)], ref18_GoodPlaceF⟩
theorem ref18_GoodPlace_eq : ∀ x, evFn Try.prog tb [(67, ref13_GoodS)] [] Try.f46 ref18_GoodPlaceS.ins ref18_GoodPlaceS.outs x = ref18_GoodPlaceS.f x := fun x => by kernel_rfl
theorem ref18_GoodPlace_k : fnK Try.f46 ref18_GoodPlaceS.ins ref18_GoodPlaceS.outs = true := by kernel_rfl
theorem ref18_GoodPlace_sound : FnSound Try.prog tb 46 ref18_GoodPlaceS := fn_ev mixed Try.func46 ref18_GoodPlace_k (.cons ref13_Good_sound .nil) rfl ref18_GoodPlace_eq

/-! ### ref7_CutRec -/
def ref7_CutRec_l1F (back : List (Int) × Rec × Int → Option ((List (Int)) × Rec)) (x : List (Int) × Rec × Int) : Option ((List (Int)) × Rec) :=
  brn (decide (x.2.snd < (↑x.2.fst.Data.length : Int)))
    (obnd (app 8 x.fst [x.2.snd]) fun zs => back (zs, { Type_ := x.2.fst.Type_, Data := x.2.fst.Data, Cuts := zs, At := x.2.fst.At }, IntKind.i64.wrap (x.2.snd + 224)))
    (some (x.fst, { Type_ := x.2.fst.Type_, Data := x.2.fst.Data, Cuts := x.fst, At := x.2.fst.At }))
def ref7_CutRec_l1J : List (Int) × Rec × Int → Option ((List (Int)) × Rec) := iter ref7_CutRec_l1F big
def ref7_CutRec_l1C : CutSpec tb := ⟨36, [(12884901889, .own 3), (1, .ref 61), (3, .val 3)], [((.exit 0), [(12884901889, .own 3)])], [5, 6, 7, 8, 9, 12, 13, 14, 15, 16, 17, 10, 11, 3], ref7_CutRec_l1J⟩
theorem ref7_CutRec_l1_eq : ∀ back x, evLoop Try.prog tb [] [] (loopAt 36 Try.f47) (ref7_CutRec_l1C).ins (ref7_CutRec_l1C).outs back x = ref7_CutRec_l1F back x := fun back x => by kernel_rfl
theorem ref7_CutRec_l1_k : cutB Try.f47.ntmps (ref7_CutRec_l1C) (loopAt 36 Try.f47) = true := by kernel_rfl
theorem ref7_CutRec_l1_in : cutsOf ([] : List (CutSpec tb)) (loopAt 36 Try.f47) = [] := by kernel_rfl
theorem ref7_CutRec_l1_cut : CutSound Try.prog tb Try.f47.ntmps (.loop (loopAt 36 Try.f47)) (ref7_CutRec_l1C) := loop_it mixed ref7_CutRec_l1_k .nil rfl ref7_CutRec_l1_in .nil ref7_CutRec_l1F ref7_CutRec_l1_eq rfl
def ref7_CutRecF (x : Rec) : Option (Rec) :=
  obnd (ref7_CutRec_l1J ([], { Type_ := x.Type_, Data := x.Data, Cuts := [], At := x.At }, 224)) fun y => some { Type_ := y.2.Type_, Data := y.2.Data, Cuts := y.1, At := y.2.At }
def ref7_CutRecS : FSpec tb := ⟨[(0, .val 61)], [(0, .val 61)], ref7_CutRecF⟩
theorem ref7_CutRec_eq : ∀ x, evFn Try.prog tb [] [ref7_CutRec_l1C] Try.f47 ref7_CutRecS.ins ref7_CutRecS.outs x = ref7_CutRecS.f x := fun x => by kernel_rfl
theorem ref7_CutRec_k : fnK Try.f47 ref7_CutRecS.ins ref7_CutRecS.outs = true := by kernel_rfl
theorem ref7_CutRec_in : cutsOf ([ref7_CutRec_l1C] : List (CutSpec tb)) (bodyOf Try.f47) = [(36, .loop (loopAt 36 Try.f47))] := by kernel_rfl
theorem ref7_CutRec_sound : FnSound Try.prog tb 47 ref7_CutRecS := fn_cut mixed Try.func47 ref7_CutRec_k .nil rfl ref7_CutRec_in (.cons rfl ref7_CutRec_l1_cut rfl .nil) ref7_CutRec_eq

/-! ### ref18_EncodeChain -/
abbrev ref18_EncodeChainG : List (Nat × FSpec tb) := [(45, ref7_PutLowS), (46, ref18_GoodPlaceS), (47, ref7_CutRecS)]
theorem ref18_EncodeChainG_ok : AllSound Try.prog tb (ref18_EncodeChainG) := (.cons ref7_PutLow_sound (.cons ref18_GoodPlace_sound (.cons ref7_CutRec_sound .nil)))
def ref18_EncodeChain_l1F (back : List Place × Rec × List (UInt8) × Int → Option (((List (UInt8)) × Rec) ⊕ ((Int) × Rec))) (x : List Place × Rec × List (UInt8) × Int) : Option (((List (UInt8)) × Rec) ⊕ ((Int) × Rec)) :=
  brn (decide (x.2.2.snd < (↑x.fst.length : Int)))
    (obnd (idx x.fst x.2.2.snd) fun y =>
      obnd (ref18_GoodPlaceF (y, 8)) fun y =>
        brn (!y) (some (Sum.inr (12, { Type_ := 0, Data := [], Cuts := [], At := 0 })))
          (obnd (idx x.fst x.2.2.snd) fun y =>
            obnd (app 1 x.2.2.fst [UInt8.ofNat (IntKind.u8.wrap y.Sheet).toNat]) fun zs =>
              obnd (idx x.fst x.2.2.snd) fun y =>
                obnd (ref7_PutLowF (zs, IntKind.u64.wrap y.At.Row, 2)) fun y =>
                  obnd (idx x.fst x.2.2.snd) fun y_1 =>
                    obnd (app 1 y [UInt8.ofNat (IntKind.u8.wrap y_1.At.Col).toNat]) fun zs => back (x.fst, x.2.fst, zs, IntKind.i64.wrap (x.2.2.snd + 1))))
    (some (Sum.inl (x.2.2.fst, x.2.fst)))
def ref18_EncodeChain_l1J : List Place × Rec × List (UInt8) × Int → Option (((List (UInt8)) × Rec) ⊕ ((Int) × Rec)) := iter ref18_EncodeChain_l1F big
def ref18_EncodeChain_l1C : CutSpec tb := ⟨52, [(0, .val 68), (2, .ref 61), (4, .own 5), (5, .val 3)], [((.exit 0), [(4, .own 5)]), (.ret, [(3, .val 3)])], [14, 15, 16, 17, 20, 21, 22, 23, 24, 25, 26, 3, 27, 28, 29, 30, 31, 32, 33, 34, 35, 36, 37, 38, 39, 40, 41, 42, 43, 44, 45, 46, 47, 48, 49, 50, 51, 52, 4, 18, 19, 5], ref18_EncodeChain_l1J⟩
theorem ref18_EncodeChain_l1_eq : ∀ back x, evLoop Try.prog tb ref18_EncodeChainG [] (loopAt 52 Try.f22) (ref18_EncodeChain_l1C).ins (ref18_EncodeChain_l1C).outs back x = ref18_EncodeChain_l1F back x := fun back x => by kernel_rfl
theorem ref18_EncodeChain_l1_k : cutB Try.f22.ntmps (ref18_EncodeChain_l1C) (loopAt 52 Try.f22) = true := by kernel_rfl
theorem ref18_EncodeChain_l1_in : cutsOf ([] : List (CutSpec tb)) (loopAt 52 Try.f22) = [] := by kernel_rfl
theorem ref18_EncodeChain_l1_cut : CutSound Try.prog tb Try.f22.ntmps (.loop (loopAt 52 Try.f22)) (ref18_EncodeChain_l1C) := loop_it mixed ref18_EncodeChain_l1_k ref18_EncodeChainG_ok rfl ref18_EncodeChain_l1_in .nil ref18_EncodeChain_l1F ref18_EncodeChain_l1_eq rfl
def ref18_EncodeChainF (x : List Place) : Option (Rec × Int) :=
  brn (decide (4096 < (↑x.length : Int))) (some ({ Type_ := 0, Data := [], Cuts := [], At := 0 }, 4))
    (obnd (ref7_PutLowF ([], IntKind.u64.wrap (↑x.length : Int), 2)) fun y =>
      obnd (ref18_EncodeChain_l1J (x, { Type_ := 0, Data := [], Cuts := [], At := 0 }, y, 0)) fun y =>
        osum y (fun y => obnd (ref7_CutRecF { Type_ := 6247, Data := y.1, Cuts := [], At := 0 }) fun y => some (y, 0)) fun y => some (y.2, y.1))
def ref18_EncodeChainS : FSpec tb := ⟨[(0, .val 68)], [(0, .val 61), (1, .val 3)], ref18_EncodeChainF⟩
theorem ref18_EncodeChain_eq : ∀ x, evFn Try.prog tb ref18_EncodeChainG [ref18_EncodeChain_l1C] Try.f22 ref18_EncodeChainS.ins ref18_EncodeChainS.outs x = ref18_EncodeChainS.f x := fun x => by kernel_rfl
theorem ref18_EncodeChain_k : fnK Try.f22 ref18_EncodeChainS.ins ref18_EncodeChainS.outs = true := by kernel_rfl
theorem ref18_EncodeChain_in : cutsOf ([ref18_EncodeChain_l1C] : List (CutSpec tb)) (bodyOf Try.f22) = [(52, .loop (loopAt 52 Try.f22))] := by kernel_rfl
theorem ref18_EncodeChain_sound : FnSound Try.prog tb 22 ref18_EncodeChainS := fn_cut mixed Try.func22 ref18_EncodeChain_k ref18_EncodeChainG_ok rfl ref18_EncodeChain_in (.cons rfl ref18_EncodeChain_l1_cut rfl .nil) ref18_EncodeChain_eq

/-! ### law1_Of -/
def law1_OfF (x : Rec) : Option (Rec) :=
  some x
def law1_OfS : FSpec tb := ⟨[(0, .val 62)], [(0, .val 61)], law1_OfF⟩
theorem law1_Of_eq : ∀ x, evFn Try.prog tb [] [] Try.f25 law1_OfS.ins law1_OfS.outs x = law1_OfS.f x := fun x => by kernel_rfl
theorem law1_Of_k : fnK Try.f25 law1_OfS.ins law1_OfS.outs = true := by kernel_rfl
theorem law1_Of_sound : FnSound Try.prog tb 25 law1_OfS := fn_ev mixed Try.func25 law1_Of_k .nil rfl law1_Of_eq

/-! ### ref7_SameRec -/
def ref7_SameRec_l1F (back : Rec × Rec × Int → Option ((Unit) ⊕ (Bool))) (x : Rec × Rec × Int) : Option ((Unit) ⊕ (Bool)) :=
  brn (decide (x.2.snd < (↑x.fst.Cuts.length : Int)))
    (obnd (idx x.fst.Cuts x.2.snd) fun y =>
      obnd (idx x.2.fst.Cuts x.2.snd) fun y_1 => brn (!decide (y = y_1)) (some (Sum.inr false)) (back (x.fst, x.2.fst, IntKind.i64.wrap (x.2.snd + 1))))
    (some (Sum.inl PUnit.unit))
def ref7_SameRec_l1J : Rec × Rec × Int → Option ((Unit) ⊕ (Bool)) := iter ref7_SameRec_l1F big
def ref7_SameRec_l1C : CutSpec tb := ⟨44, [(2, .ro 61), (3, .ro 61), (5, .val 3)], [((.exit 0), []), (.ret, [(4, .val 4)])], [29, 30, 31, 32, 33, 36, 37, 38, 39, 40, 41, 42, 43, 44, 45, 46, 4, 34, 35, 5], ref7_SameRec_l1J⟩
theorem ref7_SameRec_l1_eq : ∀ back x, evLoop Try.prog tb [] [] (loopAt 44 Try.f24) (ref7_SameRec_l1C).ins (ref7_SameRec_l1C).outs back x = ref7_SameRec_l1F back x := fun back x => by kernel_rfl
theorem ref7_SameRec_l1_k : cutB Try.f24.ntmps (ref7_SameRec_l1C) (loopAt 44 Try.f24) = true := by kernel_rfl
theorem ref7_SameRec_l1_in : cutsOf ([] : List (CutSpec tb)) (loopAt 44 Try.f24) = [] := by kernel_rfl
theorem ref7_SameRec_l1_cut : CutSound Try.prog tb Try.f24.ntmps (.loop (loopAt 44 Try.f24)) (ref7_SameRec_l1C) := loop_it mixed ref7_SameRec_l1_k .nil rfl ref7_SameRec_l1_in .nil ref7_SameRec_l1F ref7_SameRec_l1_eq rfl
def ref7_SameRecF (x : Rec × Rec) : Option (Bool) :=
  brn (!decide (x.fst.Type_ = x.snd.Type_)) (some false)
    (brn (!decide (x.fst.Data = x.snd.Data)) (some false)
      (brn (!decide ((↑x.fst.Cuts.length : Int) = (↑x.snd.Cuts.length : Int))) (some false)
        (obnd (ref7_SameRec_l1J (x.fst, x.snd, 0)) fun y => osum y (fun y => some true) fun y => some y)))
def ref7_SameRecS : FSpec tb := ⟨[(0, .val 61), (1, .val 61)], [(0, .val 4)], ref7_SameRecF⟩
theorem ref7_SameRec_eq : ∀ x, evFn Try.prog tb [] [ref7_SameRec_l1C] Try.f24 ref7_SameRecS.ins ref7_SameRecS.outs x = ref7_SameRecS.f x := fun x => by kernel_rfl
theorem ref7_SameRec_k : fnK Try.f24 ref7_SameRecS.ins ref7_SameRecS.outs = true := by kernel_rfl
theorem ref7_SameRec_in : cutsOf ([ref7_SameRec_l1C] : List (CutSpec tb)) (bodyOf Try.f24) = [(44, .loop (loopAt 44 Try.f24))] := by kernel_rfl
theorem ref7_SameRec_sound : FnSound Try.prog tb 24 ref7_SameRecS := fn_cut mixed Try.func24 ref7_SameRec_k .nil rfl ref7_SameRec_in (.cons rfl ref7_SameRec_l1_cut rfl .nil) ref7_SameRec_eq

/-! ### law14_SamePlaces -/
abbrev law14_SamePlacesG : List (Nat × FSpec tb) := [(48, law14_OfPlaceS)]
theorem law14_SamePlacesG_ok : AllSound Try.prog tb (law14_SamePlacesG) := (.cons law14_OfPlace_sound .nil)
def law14_SamePlaces_l1F (back : List Place × List Place × Int → Option ((Unit) ⊕ (Bool))) (x : List Place × List Place × Int) : Option ((Unit) ⊕ (Bool)) :=
  brn (decide (x.2.snd < (↑x.fst.length : Int)))
    (obnd (idx x.fst x.2.snd) fun y =>
      obnd (law14_OfPlaceF y) fun y =>
        obnd (idx x.2.fst x.2.snd) fun y_1 =>
          brn
            (bif true then !(decide (y.Sheet = y_1.Sheet) && (decide (y.At.Row = y_1.At.Row) && decide (y.At.Col = y_1.At.Col)))
            else decide (y.Sheet = y_1.Sheet) && (decide (y.At.Row = y_1.At.Row) && decide (y.At.Col = y_1.At.Col)))
            (some (Sum.inr false)) (back (x.fst, x.2.fst, IntKind.i64.wrap (x.2.snd + 1))))
    (some (Sum.inl PUnit.unit))
def law14_SamePlaces_l1J : List Place × List Place × Int → Option ((Unit) ⊕ (Bool)) := iter law14_SamePlaces_l1F big
def law14_SamePlaces_l1C : CutSpec tb := ⟨44, [(0, .val 37), (1, .val 68), (5, .val 3)], [((.exit 0), []), (.ret, [(4, .val 4)])], [11, 12, 13, 14, 17, 18, 19, 20, 21, 22, 23, 24, 25, 26, 4, 15, 16, 5], law14_SamePlaces_l1J⟩
theorem law14_SamePlaces_l1_eq : ∀ back x, evLoop Try.prog tb law14_SamePlacesG [] (loopAt 44 Try.f27) (law14_SamePlaces_l1C).ins (law14_SamePlaces_l1C).outs back x = law14_SamePlaces_l1F back x := fun back x => by kernel_rfl
theorem law14_SamePlaces_l1_k : cutB Try.f27.ntmps (law14_SamePlaces_l1C) (loopAt 44 Try.f27) = true := by kernel_rfl
theorem law14_SamePlaces_l1_in : cutsOf ([] : List (CutSpec tb)) (loopAt 44 Try.f27) = [] := by kernel_rfl
theorem law14_SamePlaces_l1_cut : CutSound Try.prog tb Try.f27.ntmps (.loop (loopAt 44 Try.f27)) (law14_SamePlaces_l1C) := loop_it mixed law14_SamePlaces_l1_k law14_SamePlacesG_ok rfl law14_SamePlaces_l1_in .nil law14_SamePlaces_l1F law14_SamePlaces_l1_eq rfl
def law14_SamePlacesF (x : List Place × List Place) : Option (Bool) :=
  brn (!decide ((↑x.fst.length : Int) = (↑x.snd.length : Int))) (some false) (obnd (law14_SamePlaces_l1J (x.fst, x.snd, 0)) fun y => osum y (fun y => some true) fun y => some y)
def law14_SamePlacesS : FSpec tb := ⟨[(0, .val 37), (1, .val 68)], [(0, .val 4)], law14_SamePlacesF⟩
theorem law14_SamePlaces_eq : ∀ x, evFn Try.prog tb law14_SamePlacesG [law14_SamePlaces_l1C] Try.f27 law14_SamePlacesS.ins law14_SamePlacesS.outs x = law14_SamePlacesS.f x := fun x => by kernel_rfl
theorem law14_SamePlaces_k : fnK Try.f27 law14_SamePlacesS.ins law14_SamePlacesS.outs = true := by kernel_rfl
theorem law14_SamePlaces_in : cutsOf ([law14_SamePlaces_l1C] : List (CutSpec tb)) (bodyOf Try.f27) = [(44, .loop (loopAt 44 Try.f27))] := by kernel_rfl
theorem law14_SamePlaces_sound : FnSound Try.prog tb 27 law14_SamePlacesS := fn_cut mixed Try.func27 law14_SamePlaces_k law14_SamePlacesG_ok rfl law14_SamePlaces_in (.cons rfl law14_SamePlaces_l1_cut rfl .nil) law14_SamePlaces_eq

/-! ### law1_To -/
def law1_ToF (x : Rec) : Option (Rec) :=
  obnd (app 1 [] x.Data) fun zs => obnd (app 8 [] x.Cuts) fun zs_1 => some { Type_ := x.Type_, Data := zs, Cuts := zs_1, At := x.At }
def law1_ToS : FSpec tb := ⟨[(0, .val 61)], [(0, .val 62)], law1_ToF⟩
theorem law1_To_eq : ∀ x, evFn Try.prog tb [] [] Try.f28 law1_ToS.ins law1_ToS.outs x = law1_ToS.f x := fun x => by kernel_rfl
theorem law1_To_k : fnK Try.f28 law1_ToS.ins law1_ToS.outs = true := by kernel_rfl
theorem law1_To_sound : FnSound Try.prog tb 28 law1_ToS := fn_ev mixed Try.func28 law1_To_k .nil rfl law1_To_eq

/-! ### ref7_bad -/
def ref7_badF (x : Cursor) : Option (Bool) :=
  brn (decide (x.At < 0)) (some true) (some (decide ((↑x.B.length : Int) < x.At)))
def ref7_badS : FSpec tb := ⟨[(0, .val 118)], [(0, .val 4)], ref7_badF⟩
theorem ref7_bad_eq : ∀ x, evFn Try.prog tb [] [] Try.f70 ref7_badS.ins ref7_badS.outs x = ref7_badS.f x := fun x => by kernel_rfl
theorem ref7_bad_k : fnK Try.f70 ref7_badS.ins ref7_badS.outs = true := by kernel_rfl
theorem ref7_bad_sound : FnSound Try.prog tb 70 ref7_badS := fn_ev mixed Try.func70 ref7_bad_k .nil rfl ref7_bad_eq

/-! ### ref7_Low -/
abbrev ref7_LowG : List (Nat × FSpec tb) := [(70, ref7_badS)]
theorem ref7_LowG_ok : AllSound Try.prog tb (ref7_LowG) := (.cons ref7_bad_sound .nil)
def ref7_Low_l1F (back : Cursor × Int × Int → Option (Int)) (x : Cursor × Int × Int) : Option (Int) :=
  brn (decide (0 ≤ x.2.snd))
    (obnd (idx x.fst.B (IntKind.i64.wrap (x.fst.At + x.2.snd))) fun y =>
      back (x.fst, bitsOf BinOp.or IntKind.u64 (IntKind.u64.wrap (x.2.fst * 256)) (IntKind.u64.wrap (↑(UInt8.toNat y) : Int)), IntKind.i64.wrap (x.2.snd - 1)))
    (some x.2.1)
def ref7_Low_l1J : Cursor × Int × Int → Option (Int) := iter ref7_Low_l1F big
def ref7_Low_l1C : CutSpec tb := ⟨68, [(2, .ro 118), (7, .val 106), (8, .val 3)], [((.exit 0), [(7, .val 106)])], [23, 24, 27, 28, 29, 30, 31, 32, 33, 34, 35, 36, 37, 38, 7, 25, 26, 8], ref7_Low_l1J⟩
theorem ref7_Low_l1_eq : ∀ back x, evLoop Try.prog tb ref7_LowG [] (loopAt 68 Try.f52) (ref7_Low_l1C).ins (ref7_Low_l1C).outs back x = ref7_Low_l1F back x := fun back x => by kernel_rfl
theorem ref7_Low_l1_k : cutB Try.f52.ntmps (ref7_Low_l1C) (loopAt 68 Try.f52) = true := by kernel_rfl
theorem ref7_Low_l1_in : cutsOf ([] : List (CutSpec tb)) (loopAt 68 Try.f52) = [] := by kernel_rfl
theorem ref7_Low_l1_cut : CutSound Try.prog tb Try.f52.ntmps (.loop (loopAt 68 Try.f52)) (ref7_Low_l1C) := loop_it mixed ref7_Low_l1_k ref7_LowG_ok rfl ref7_Low_l1_in .nil ref7_Low_l1F ref7_Low_l1_eq rfl
def ref7_LowF (x : Cursor × Int) : Option (Int × Cursor × Int) :=
  obnd (ref7_badF x.fst) fun y =>
    brn y (some (0, x.fst, 1))
      (brn (decide (IntKind.i64.wrap ((↑x.fst.B.length : Int) - x.fst.At) < x.snd)) (some (0, x.fst, 5))
        (obnd (ref7_Low_l1J (x.fst, 0, IntKind.i64.wrap (x.snd - 1))) fun y => some (y, { B := x.fst.B, At := IntKind.i64.wrap (x.fst.At + x.snd) }, 0)))
def ref7_LowS : FSpec tb := ⟨[(0, .val 118), (1, .val 3)], [(0, .val 106), (1, .val 118), (2, .val 3)], ref7_LowF⟩
theorem ref7_Low_eq : ∀ x, evFn Try.prog tb ref7_LowG [ref7_Low_l1C] Try.f52 ref7_LowS.ins ref7_LowS.outs x = ref7_LowS.f x := fun x => by kernel_rfl
theorem ref7_Low_k : fnK Try.f52 ref7_LowS.ins ref7_LowS.outs = true := by kernel_rfl
theorem ref7_Low_in : cutsOf ([ref7_Low_l1C] : List (CutSpec tb)) (bodyOf Try.f52) = [(68, .loop (loopAt 68 Try.f52))] := by kernel_rfl
theorem ref7_Low_sound : FnSound Try.prog tb 52 ref7_LowS := fn_cut mixed Try.func52 ref7_Low_k ref7_LowG_ok rfl ref7_Low_in (.cons rfl ref7_Low_l1_cut rfl .nil) ref7_Low_eq

/-! ### ref7_End -/
def ref7_EndF (x : Cursor) : Option (Int) :=
  obnd (ref7_badF x) fun y => brn y (some 1) (brn (decide (x.At < (↑x.B.length : Int))) (some 4) (some 0))
def ref7_EndS : FSpec tb := ⟨[(0, .val 118)], [(0, .val 3)], ref7_EndF⟩
theorem ref7_End_eq : ∀ x, evFn Try.prog tb [(70, ref7_badS)] [] Try.f53 ref7_EndS.ins ref7_EndS.outs x = ref7_EndS.f x := fun x => by kernel_rfl
theorem ref7_End_k : fnK Try.f53 ref7_EndS.ins ref7_EndS.outs = true := by kernel_rfl
theorem ref7_End_sound : FnSound Try.prog tb 53 ref7_EndS := fn_ev mixed Try.func53 ref7_End_k (.cons ref7_bad_sound .nil) rfl ref7_End_eq

/-! ### ref18_DecodeChain -/
abbrev ref18_DecodeChainG : List (Nat × FSpec tb) := [(52, ref7_LowS), (53, ref7_EndS)]
theorem ref18_DecodeChainG_ok : AllSound Try.prog tb (ref18_DecodeChainG) := (.cons ref7_Low_sound (.cons ref7_End_sound .nil))
def ref18_DecodeChain_l1F (back : Int × Cursor × List (Place) × Int → Option (((List (Place)) × Cursor) ⊕ ((List (Place) × Int × Int) × Cursor))) (x : Int × Cursor × List (Place) × Int) : Option (((List (Place)) × Cursor) ⊕ ((List (Place) × Int × Int) × Cursor)) :=
  brn (decide (x.2.2.snd < IntKind.i64.wrap x.fst))
    (obnd (ref7_LowF (x.2.fst, 1)) fun y =>
      brn (!decide (y.2.snd = 0)) (some (Sum.inr (([], x.2.fst.At, y.2.snd), x.2.fst)))
        (obnd (ref7_LowF (y.2.fst, 2)) fun y_1 =>
          brn (!decide (y_1.2.snd = 0)) (some (Sum.inr (([], y.2.fst.At, y_1.2.snd), x.2.fst)))
            (obnd (ref7_LowF (y_1.2.fst, 1)) fun y_2 =>
              brn (!decide (y_2.2.snd = 0)) (some (Sum.inr (([], y_1.2.fst.At, y_2.2.snd), x.2.fst)))
                (brn (decide (8 ≤ y.fst)) (some (Sum.inr (([], x.2.fst.At, 12), x.2.fst)))
                  (obnd (app 24 x.2.2.fst [{ Sheet := IntKind.i64.wrap y.fst, At := { Row := IntKind.i64.wrap y_1.fst, Col := IntKind.i64.wrap y_2.fst } }]) fun zs =>
                    back (x.fst, y_2.2.fst, zs, IntKind.i64.wrap (x.2.2.snd + 1)))))))
    (some (Sum.inl (x.2.2.fst, x.2.fst)))
def ref18_DecodeChain_l1J : Int × Cursor × List (Place) × Int → Option (((List (Place)) × Cursor) ⊕ ((List (Place) × Int × Int) × Cursor)) := iter ref18_DecodeChain_l1F big
def ref18_DecodeChain_l1C : CutSpec tb := ⟨92, [(5, .val 106), (6, .ref 118), (8, .own 110), (9, .val 3)], [((.exit 0), [(8, .own 110)]), (.ret, [(2, .own 110), (3, .val 3), (4, .val 3)])], [36, 37, 38, 39, 42, 43, 10, 45, 46, 44, 47, 48, 49, 12, 11, 13, 50, 51, 52, 53, 54, 2, 3, 4, 56, 57, 55, 58, 59, 60, 15, 14, 16, 61, 62, 63, 64, 65, 67, 68, 66, 69, 70, 71, 18, 17, 19, 72, 73, 74, 75, 76, 77, 78, 79, 80, 81, 82, 83, 84, 85, 86, 87, 88, 89, 90, 8, 91, 40, 41, 9], ref18_DecodeChain_l1J⟩
theorem ref18_DecodeChain_l1_eq : ∀ back x, evLoop Try.prog tb ref18_DecodeChainG [] (loopAt 92 Try.f29) (ref18_DecodeChain_l1C).ins (ref18_DecodeChain_l1C).outs back x = ref18_DecodeChain_l1F back x := fun back x => by kernel_rfl
theorem ref18_DecodeChain_l1_k : cutB Try.f29.ntmps (ref18_DecodeChain_l1C) (loopAt 92 Try.f29) = true := by kernel_rfl
theorem ref18_DecodeChain_l1_in : cutsOf ([] : List (CutSpec tb)) (loopAt 92 Try.f29) = [] := by kernel_rfl
theorem ref18_DecodeChain_l1_cut : CutSound Try.prog tb Try.f29.ntmps (.loop (loopAt 92 Try.f29)) (ref18_DecodeChain_l1C) := loop_it mixed ref18_DecodeChain_l1_k ref18_DecodeChainG_ok rfl ref18_DecodeChain_l1_in .nil ref18_DecodeChain_l1F ref18_DecodeChain_l1_eq rfl
def ref18_DecodeChainF (x : Rec) : Option (List (Place) × Int × Int) :=
  brn (!decide (x.Type_ = 6247)) (some ([], 0, 2))
    (obnd (ref7_LowF ({ B := x.Data, At := 0 }, 2)) fun y =>
      brn (!decide (y.2.snd = 0)) (some ([], 0, y.2.snd))
        (brn (decide (4096 < y.fst)) (some ([], 0, 4))
          (obnd (ref18_DecodeChain_l1J (y.fst, y.2.fst, [], 0)) fun y =>
            osum y (fun y => obnd (ref7_EndF y.2) fun y_1 => brn (!decide (y_1 = 0)) (some ([], y.2.At, 4)) (some (y.1, 0, 0))) fun y => some (y.1.fst, y.1.2))))
def ref18_DecodeChainS : FSpec tb := ⟨[(0, .val 61)], [(0, .own 110), (1, .val 3), (2, .val 3)], ref18_DecodeChainF⟩
theorem ref18_DecodeChain_eq : ∀ x, evFn Try.prog tb ref18_DecodeChainG [ref18_DecodeChain_l1C] Try.f29 ref18_DecodeChainS.ins ref18_DecodeChainS.outs x = ref18_DecodeChainS.f x := fun x => by kernel_rfl
theorem ref18_DecodeChain_k : fnK Try.f29 ref18_DecodeChainS.ins ref18_DecodeChainS.outs = true := by kernel_rfl
theorem ref18_DecodeChain_in : cutsOf ([ref18_DecodeChain_l1C] : List (CutSpec tb)) (bodyOf Try.f29) = [(92, .loop (loopAt 92 Try.f29))] := by kernel_rfl
theorem ref18_DecodeChain_sound : FnSound Try.prog tb 29 ref18_DecodeChainS := fn_cut mixed Try.func29 ref18_DecodeChain_k ref18_DecodeChainG_ok rfl ref18_DecodeChain_in (.cons rfl ref18_DecodeChain_l1_cut rfl .nil) ref18_DecodeChain_eq

/-! ### rec_Check -/
def rec_Check_s1_0J (x : Unit) : Option (Int) :=
  some 4
def rec_Check_s1_0C : CutSpec tb := ⟨185, [], [(.ret, [(2, .val 63)])], [2], rec_Check_s1_0J⟩
theorem rec_Check_s1_0_eq : ∀ x, evScope Try.prog tb [] [] [] (restAt (scopeAt 21 Try.f30) 0) rec_Check_s1_0C.ins rec_Check_s1_0C.outs x = rec_Check_s1_0C.J x := fun x => by kernel_rfl
theorem rec_Check_s1_0_k : cutB Try.f30.ntmps rec_Check_s1_0C (restAt (scopeAt 21 Try.f30) 0) = true := by kernel_rfl
theorem rec_Check_s1_0_in : cutsOf ([] : List (CutSpec tb)) (restAt (scopeAt 21 Try.f30) 0) = [] := by kernel_rfl
theorem rec_Check_s1_0_lab : LabelSound Try.prog tb Try.f30.ntmps (scopeAt 21 Try.f30) 0 rec_Check_s1_0C := label_ev mixed (by kernel_rfl) rec_Check_s1_0_k .nil rfl rec_Check_s1_0_in .nil .nil rec_Check_s1_0_eq
def rec_Check_l2F (back : Rec × Int × List Int × Int × Int → Option ((Unit) ⊕ (Int))) (x : Rec × Int × List Int × Int × Int) : Option ((Unit) ⊕ (Int)) :=
  brn (decide (x.2.2.2.snd < x.2.2.2.fst))
    (obnd (idx x.2.2.fst x.2.2.2.snd) fun y =>
      brn (decide (y ≤ x.2.fst)) (some (Sum.inr 6))
        (brn (decide ((↑x.fst.Data.length : Int) ≤ y)) (some (Sum.inr 6)) (back (x.fst, y, x.2.2.fst, x.2.2.2.fst, IntKind.i64.wrap (x.2.2.2.snd + 1)))))
    (some (Sum.inl PUnit.unit))
def rec_Check_l2J : Rec × Int × List Int × Int × Int → Option ((Unit) ⊕ (Int)) := iter rec_Check_l2F big
def rec_Check_l2C : CutSpec tb := ⟨68, [(1, .ro 62), (3, .val 3), (26, .val 55), (27, .val 3), (28, .val 3)], [((.exit 0), []), (.ret, [(2, .val 63)])], [29, 30, 31, 5, 32, 33, 34, 35, 36, 37, 38, 39, 40, 41, 2, 42, 3, 43, 28], rec_Check_l2J⟩
theorem rec_Check_l2_eq : ∀ back x, evLoop Try.prog tb [] [] (loopAt 68 Try.f30) (rec_Check_l2C).ins (rec_Check_l2C).outs back x = rec_Check_l2F back x := fun back x => by kernel_rfl
theorem rec_Check_l2_k : cutB Try.f30.ntmps (rec_Check_l2C) (loopAt 68 Try.f30) = true := by kernel_rfl
theorem rec_Check_l2_in : cutsOf ([] : List (CutSpec tb)) (loopAt 68 Try.f30) = [] := by kernel_rfl
theorem rec_Check_l2_cut : CutSound Try.prog tb Try.f30.ntmps (.loop (loopAt 68 Try.f30)) (rec_Check_l2C) := loop_it mixed rec_Check_l2_k .nil rfl rec_Check_l2_in .nil rec_Check_l2F rec_Check_l2_eq rfl
def rec_Check_l3F (back : Int × List Int × Int × Int → Option ((Int) ⊕ (Unit))) (x : Int × List Int × Int × Int) : Option ((Int) ⊕ (Unit)) :=
  brn (decide (x.2.2.snd < x.2.2.fst))
    (obnd (idx x.2.fst x.2.2.snd) fun y =>
      brn (decide (224 < IntKind.i64.wrap (y - x.fst))) (some (Sum.inr PUnit.unit)) (back (y, x.2.fst, x.2.2.fst, IntKind.i64.wrap (x.2.2.snd + 1))))
    (some (Sum.inl x.1))
def rec_Check_l3J : Int × List Int × Int × Int → Option ((Int) ⊕ (Unit)) := iter rec_Check_l3F big
def rec_Check_l3C : CutSpec tb := ⟨132, [(3, .val 3), (45, .val 55), (46, .val 3), (47, .val 3)], [((.exit 2), [(3, .val 3)]), ((.goto 0), [])], [48, 49, 50, 7, 51, 52, 53, 54, 55, 3, 56, 47], rec_Check_l3J⟩
theorem rec_Check_l3_eq : ∀ back x, evLoop Try.prog tb [] [] (loopAt 132 Try.f30) (rec_Check_l3C).ins (rec_Check_l3C).outs back x = rec_Check_l3F back x := fun back x => by kernel_rfl
theorem rec_Check_l3_k : cutB Try.f30.ntmps (rec_Check_l3C) (loopAt 132 Try.f30) = true := by kernel_rfl
theorem rec_Check_l3_in : cutsOf ([] : List (CutSpec tb)) (loopAt 132 Try.f30) = [] := by kernel_rfl
theorem rec_Check_l3_cut : CutSound Try.prog tb Try.f30.ntmps (.loop (loopAt 132 Try.f30)) (rec_Check_l3C) := loop_it mixed rec_Check_l3_k .nil rfl rec_Check_l3_in .nil rec_Check_l3F rec_Check_l3_eq rfl
def rec_Check_s1J (x : Rec) : Option ((Unit) ⊕ (Int)) :=
  brn (decide (x.Type_ < 0)) (some (Sum.inr 1))
    (brn (decide (65535 < x.Type_)) (some (Sum.inr 1))
      (brn (decide (x.Type_ = 60)) (some (Sum.inr 1))
        (brn (decide (65536 < (↑x.Data.length : Int))) (some (Sum.inr 4))
          (obnd (rec_Check_l2J (x, 0, x.Cuts, (↑x.Cuts.length : Int), 0)) fun y =>
            osum y
              (fun y =>
                obnd (rec_Check_l3J (0, x.Cuts, (↑x.Cuts.length : Int), 0)) fun y =>
                  osum y (fun y => brn (decide (IntKind.i64.wrap ((↑x.Data.length : Int) - y) ≤ 224)) (some (Sum.inr 0)) (some (Sum.inr 4))) fun y =>
                    obnd (rec_Check_s1_0J ()) fun y => some (Sum.inr y))
              fun y => some (Sum.inr y)))))
def rec_Check_s1C : CutSpec tb := ⟨21, [(1, .ro 62)], [(.normal, []), (.ret, [(2, .val 63)])], [3, 8, 9, 10, 11, 12, 13, 14, 15, 16, 17, 18, 19, 20, 2, 21, 22, 23, 24, 25, 26, 27, 28, 29, 30, 31, 5, 32, 33, 34, 35, 36, 37, 38, 39, 40, 41, 42, 43, 44, 45, 46, 47, 48, 49, 50, 7, 51, 52, 53, 54, 55, 56, 57, 58, 59, 60, 61, 62], rec_Check_s1J⟩
theorem rec_Check_s1_eq : ∀ x, evScope Try.prog tb [] [rec_Check_l2C, rec_Check_l3C] [(0, rec_Check_s1_0C)] (scopeAt 21 Try.f30) rec_Check_s1C.ins rec_Check_s1C.outs x = rec_Check_s1C.J x := fun x => by kernel_rfl
theorem rec_Check_s1_k : cutB Try.f30.ntmps rec_Check_s1C (scopeAt 21 Try.f30) = true := by kernel_rfl
theorem rec_Check_s1_in : cutsOf ([rec_Check_l2C, rec_Check_l3C] : List (CutSpec tb)) (scopeAt 21 Try.f30) = [(68, .loop (loopAt 68 Try.f30)), (132, .loop (loopAt 132 Try.f30))] := by kernel_rfl
theorem rec_Check_s1_cut : CutSound Try.prog tb Try.f30.ntmps (.scope (scopeAt 21 Try.f30)) rec_Check_s1C := scope_ev mixed rec_Check_s1_k .nil rfl rec_Check_s1_in (.cons rfl rec_Check_l2_cut rfl (.cons rfl rec_Check_l3_cut rfl .nil)) (.cons rec_Check_s1_0_lab rfl .nil) rec_Check_s1_eq
def rec_CheckF (x : Rec) : Option (Int) :=
  obnd (rec_Check_s1J x) fun y => osum y (fun y => none) fun y => some y
def rec_CheckS : FSpec tb := ⟨[(0, .val 62)], [(0, .val 63)], rec_CheckF⟩
theorem rec_Check_eq : ∀ x, evFn Try.prog tb [] [rec_Check_s1C] Try.f30 rec_CheckS.ins rec_CheckS.outs x = rec_CheckS.f x := fun x => by kernel_rfl
theorem rec_Check_k : fnK Try.f30 rec_CheckS.ins rec_CheckS.outs = true := by kernel_rfl
theorem rec_Check_in : cutsOf ([rec_Check_s1C] : List (CutSpec tb)) (bodyOf Try.f30) = [(21, .scope (scopeAt 21 Try.f30))] := by kernel_rfl
theorem rec_Check_sound : FnSound Try.prog tb 30 rec_CheckS := fn_cut mixed Try.func30 rec_Check_k .nil rfl rec_Check_in (.cons rfl rec_Check_s1_cut rfl .nil) rec_Check_eq
end
end Go.Proofs.Ytankcgcnkoialaa
