/- Chains, what leans on what, places, bytes: what each computes, and that it does. (by gen.py) -/
import Derived.Test.YtankcgcnkoialaaT1
namespace Go.Proofs.Ytankcgcnkoialaa
open Go Go.Ev
set_option linter.unusedVariables false
theorem mixed : Try.prog.follows .mixedOrders = true := by kernel_rfl

noncomputable section

/-! ### law10_At -/
def law10_AtF (x : Int × Int) : Option (Expr) :=
  some
    { Kind := 2, V := { Kind := 0, N := { M := 0, S := 0 }, S := [], B := false, E := 0 },
      A := { A := { Row := x.fst, Col := x.snd, RelRow := false, RelCol := false }, B := { Row := 0, Col := 0, RelRow := false, RelCol := false } }, Sheet := 0, Op := 0, Kids := [] }
def law10_AtS : FSpec tb := ⟨[(0, .val 3), (1, .val 3)], [(0, .val 33)], law10_AtF⟩
theorem law10_At_eq : ∀ x, evFn Try.prog tb [] [] Try.f13 law10_AtS.ins law10_AtS.outs x = law10_AtS.f x := fun x => by kernel_rfl
theorem law10_At_k : fnK Try.f13 law10_AtS.ins law10_AtS.outs = true := by kernel_rfl
theorem law10_At_sound : FnSound Try.prog tb 13 law10_AtS := fn_ev mixed Try.func13 law10_At_k .nil rfl law10_At_eq

/-! ### law14_P -/
def law14_PF (x : Int × Int × Int) : Option (Place) :=
  some { Sheet := x.fst, At := { Row := x.2.fst, Col := x.2.snd } }
def law14_PS : FSpec tb := ⟨[(0, .val 3), (1, .val 3), (2, .val 3)], [(0, .val 42)], law14_PF⟩
theorem law14_P_eq : ∀ x, evFn Try.prog tb [] [] Try.f14 law14_PS.ins law14_PS.outs x = law14_PS.f x := fun x => by kernel_rfl
theorem law14_P_k : fnK Try.f14 law14_PS.ins law14_PS.outs = true := by kernel_rfl
theorem law14_P_sound : FnSound Try.prog tb 14 law14_PS := fn_ev mixed Try.func14 law14_P_k .nil rfl law14_P_eq

/-! ### law16_Node -/
def law16_NodeF (x : Int × Int × Expr) : Option (Node) :=
  obnd (law14_PF (0, x.fst, x.2.fst)) fun y => some { P := y, Base := { Row := x.fst, Col := x.2.fst }, E := eExpr x.2.snd }
def law16_NodeS : FSpec tb := ⟨[(0, .val 3), (1, .val 3), (2, .val 33)], [(0, .val 44)], law16_NodeF⟩
theorem law16_Node_eq : ∀ x, evFn Try.prog tb [(14, law14_PS)] [] Try.f12 law16_NodeS.ins law16_NodeS.outs x = law16_NodeS.f x := fun x => by kernel_rfl
theorem law16_Node_k : fnK Try.f12 law16_NodeS.ins law16_NodeS.outs = true := by kernel_rfl
theorem law16_Node_sound : FnSound Try.prog tb 12 law16_NodeS := fn_ev mixed Try.func12 law16_Node_k (.cons law14_P_sound .nil) rfl law16_Node_eq

/-! ### dec_Int -/
def dec_IntF (x : Int) : Option (Dec) :=
  some { M := x, S := 0 }
def dec_IntS : FSpec tb := ⟨[(0, .val 2)], [(0, .val 24)], dec_IntF⟩
theorem dec_Int_eq : ∀ x, evFn Try.prog tb [] [] Try.f61 dec_IntS.ins dec_IntS.outs x = dec_IntS.f x := fun x => by kernel_rfl
theorem dec_Int_k : fnK Try.f61 dec_IntS.ins dec_IntS.outs = true := by kernel_rfl
theorem dec_Int_sound : FnSound Try.prog tb 61 dec_IntS := fn_ev mixed Try.func61 dec_Int_k .nil rfl dec_Int_eq

/-! ### law9_N -/
def law9_NF (x : Int) : Option (Val) :=
  obnd (dec_IntF x) fun y => some { Kind := 1, N := y, S := [], B := false, E := 0 }
def law9_NS : FSpec tb := ⟨[(0, .val 2)], [(0, .val 26)], law9_NF⟩
theorem law9_N_eq : ∀ x, evFn Try.prog tb [(61, dec_IntS)] [] Try.f37 law9_NS.ins law9_NS.outs x = law9_NS.f x := fun x => by kernel_rfl
theorem law9_N_k : fnK Try.f37 law9_NS.ins law9_NS.outs = true := by kernel_rfl
theorem law9_N_sound : FnSound Try.prog tb 37 law9_NS := fn_ev mixed Try.func37 law9_N_k (.cons dec_Int_sound .nil) rfl law9_N_eq

/-! ### law10_Num -/
def law10_NumF (x : Int) : Option (Expr) :=
  obnd (law9_NF x) fun y =>
    some
      { Kind := 1, V := y, A := { A := { Row := 0, Col := 0, RelRow := false, RelCol := false }, B := { Row := 0, Col := 0, RelRow := false, RelCol := false } }, Sheet := 0, Op := 0,
        Kids := [] }
def law10_NumS : FSpec tb := ⟨[(0, .val 2)], [(0, .val 33)], law10_NumF⟩
theorem law10_Num_eq : ∀ x, evFn Try.prog tb [(37, law9_NS)] [] Try.f15 law10_NumS.ins law10_NumS.outs x = law10_NumS.f x := fun x => by kernel_rfl
theorem law10_Num_k : fnK Try.f15 law10_NumS.ins law10_NumS.outs = true := by kernel_rfl
theorem law10_Num_sound : FnSound Try.prog tb 15 law10_NumS := fn_ev mixed Try.func15 law10_Num_k (.cons law9_N_sound .nil) rfl law10_Num_eq

/-! ### slices_Clone_byte_byte -/
def slices_Clone_byte_byteF (x : List UInt8) : Option (List (UInt8)) :=
  brn x.isEmpty (agree (some []) (obnd (app 1 [] x) fun zs => some zs)) (obnd (app 1 [] x) fun zs => some zs)
def slices_Clone_byte_byteS : FSpec tb := ⟨[(0, .val 49)], [(0, .own 5)], slices_Clone_byte_byteF⟩
theorem slices_Clone_byte_byte_eq : ∀ x, evFn Try.prog tb [] [] Try.f65 slices_Clone_byte_byteS.ins slices_Clone_byte_byteS.outs x = slices_Clone_byte_byteS.f x := fun x => by kernel_rfl
theorem slices_Clone_byte_byte_k : fnK Try.f65 slices_Clone_byte_byteS.ins slices_Clone_byte_byteS.outs = true := by kernel_rfl
theorem slices_Clone_byte_byte_sound : FnSound Try.prog tb 65 slices_Clone_byte_byteS := fn_ev mixed Try.func65 slices_Clone_byte_byte_k .nil rfl slices_Clone_byte_byte_eq

/-! ### le_put -/
abbrev le_putG : List (Nat × FSpec tb) := [(65, slices_Clone_byte_byteS)]
theorem le_putG_ok : AllSound Try.prog tb (le_putG) := (.cons slices_Clone_byte_byte_sound .nil)
def le_put_l1F (back : List (UInt8) × Int × Int × Int → Option (List (UInt8))) (x : List (UInt8) × Int × Int × Int) : Option (List (UInt8)) :=
  brn (decide (x.2.2.snd < x.2.2.fst))
    (brn (decide (IntKind.i64.wrap (8 * x.2.2.snd) < 0)) none
      (obnd (app 1 x.fst [UInt8.ofNat (IntKind.u8.wrap (x.2.fst.fdiv (2 ^ min (IntKind.i64.wrap (8 * x.2.2.snd)).toNat 64))).toNat]) fun zs =>
        back (zs, x.2.fst, x.2.2.fst, IntKind.i64.wrap (x.2.2.snd + 1))))
    (some x.1)
def le_put_l1J : List (UInt8) × Int × Int × Int → Option (List (UInt8)) := iter le_put_l1F big
def le_put_l1C : CutSpec tb := ⟨36, [(0, .own 5), (1, .val 106), (10, .val 3), (11, .val 3)], [((.exit 0), [(0, .own 5)])], [12, 13, 7, 14, 15, 16, 17, 18, 19, 20, 21, 0, 22, 11], le_put_l1J⟩
theorem le_put_l1_eq : ∀ back x, evLoop Try.prog tb le_putG [] (loopAt 36 Try.f66) (le_put_l1C).ins (le_put_l1C).outs back x = le_put_l1F back x := fun back x => by kernel_rfl
theorem le_put_l1_k : cutB Try.f66.ntmps (le_put_l1C) (loopAt 36 Try.f66) = true := by kernel_rfl
theorem le_put_l1_in : cutsOf ([] : List (CutSpec tb)) (loopAt 36 Try.f66) = [] := by kernel_rfl
theorem le_put_l1_cut : CutSound Try.prog tb Try.f66.ntmps (.loop (loopAt 36 Try.f66)) (le_put_l1C) := loop_it mixed le_put_l1_k le_putG_ok rfl le_put_l1_in .nil le_put_l1F le_put_l1_eq rfl
def le_putF (x : List UInt8 × Int × Int) : Option (List (UInt8)) :=
  obnd (slices_Clone_byte_byteF x.fst) fun y => obnd (le_put_l1J (y, x.2.fst, x.2.snd, 0)) fun y => some y
def le_putS : FSpec tb := ⟨[(0, .val 49), (1, .val 106), (2, .val 3)], [(0, .own 5)], le_putF⟩
theorem le_put_eq : ∀ x, evFn Try.prog tb le_putG [le_put_l1C] Try.f66 le_putS.ins le_putS.outs x = le_putS.f x := fun x => by kernel_rfl
theorem le_put_k : fnK Try.f66 le_putS.ins le_putS.outs = true := by kernel_rfl
theorem le_put_in : cutsOf ([le_put_l1C] : List (CutSpec tb)) (bodyOf Try.f66) = [(36, .loop (loopAt 36 Try.f66))] := by kernel_rfl
theorem le_put_sound : FnSound Try.prog tb 66 le_putS := fn_cut mixed Try.func66 le_put_k le_putG_ok rfl le_put_in (.cons rfl le_put_l1_cut rfl .nil) le_put_eq

/-! ### le_Put16 -/
def le_Put16F (x : List UInt8 × Int) : Option (List (UInt8) × Int) :=
  brn (decide (x.snd < 0)) (obnd (slices_Clone_byte_byteF x.fst) fun y => some (y, 1))
    (brn (decide (65535 < x.snd)) (obnd (slices_Clone_byte_byteF x.fst) fun y => some (y, 1)) (obnd (le_putF (x.fst, IntKind.u64.wrap x.snd, 2)) fun y => some (y, 0)))
def le_Put16S : FSpec tb := ⟨[(0, .val 49), (1, .val 3)], [(0, .own 5), (1, .val 63)], le_Put16F⟩
theorem le_Put16_eq : ∀ x, evFn Try.prog tb [(65, slices_Clone_byte_byteS), (66, le_putS)] [] Try.f42 le_Put16S.ins le_Put16S.outs x = le_Put16S.f x := fun x => by kernel_rfl
theorem le_Put16_k : fnK Try.f42 le_Put16S.ins le_Put16S.outs = true := by kernel_rfl
theorem le_Put16_sound : FnSound Try.prog tb 42 le_Put16S := fn_ev mixed Try.func42 le_Put16_k (.cons slices_Clone_byte_byte_sound (.cons le_put_sound .nil)) rfl le_Put16_eq

/-! ### ref_Good -/
def ref_GoodF (x : Cell) : Option (Bool) :=
  brn (decide (0 ≤ x.Row)) (brn (decide (x.Row < 65536)) (brn (decide (0 ≤ x.Col)) (some (decide (x.Col < 256))) (some false)) (some false)) (some false)
def ref_GoodS : FSpec tb := ⟨[(0, .val 40)], [(0, .val 4)], ref_GoodF⟩
theorem ref_Good_eq : ∀ x, evFn Try.prog tb [] [] Try.f43 ref_GoodS.ins ref_GoodS.outs x = ref_GoodS.f x := fun x => by kernel_rfl
theorem ref_Good_k : fnK Try.f43 ref_GoodS.ins ref_GoodS.outs = true := by kernel_rfl
theorem ref_Good_sound : FnSound Try.prog tb 43 ref_GoodS := fn_ev mixed Try.func43 ref_Good_k .nil rfl ref_Good_eq

/-! ### rec_Cut -/
abbrev rec_CutG : List (Nat × FSpec tb) := [(65, slices_Clone_byte_byteS)]
theorem rec_CutG_ok : AllSound Try.prog tb (rec_CutG) := (.cons slices_Clone_byte_byte_sound .nil)
def rec_Cut_l1F (back : List (Int) × Rec × Rec × Int → Option ((List (Int)) × Rec)) (x : List (Int) × Rec × Rec × Int) : Option ((List (Int)) × Rec) :=
  brn (decide (x.2.2.snd < (↑x.2.fst.Data.length : Int)))
    (obnd (app 8 x.fst [x.2.2.snd]) fun zs =>
      back (zs, x.2.fst, { Type_ := x.2.2.fst.Type_, Data := x.2.2.fst.Data, Cuts := zs, At := x.2.2.fst.At }, IntKind.i64.wrap (x.2.2.snd + 224)))
    (some (x.fst, { Type_ := x.2.2.fst.Type_, Data := x.2.2.fst.Data, Cuts := x.fst, At := x.2.2.fst.At }))
def rec_Cut_l1J : List (Int) × Rec × Rec × Int → Option ((List (Int)) × Rec) := iter rec_Cut_l1F big
def rec_Cut_l1C : CutSpec tb := ⟨36, [(12884901891, .own 3), (1, .ro 62), (3, .ref 62), (4, .val 3)], [((.exit 0), [(12884901891, .own 3)])], [13, 14, 15, 16, 17, 20, 21, 22, 23, 24, 25, 18, 19, 4], rec_Cut_l1J⟩
theorem rec_Cut_l1_eq : ∀ back x, evLoop Try.prog tb rec_CutG [] (loopAt 36 Try.f44) (rec_Cut_l1C).ins (rec_Cut_l1C).outs back x = rec_Cut_l1F back x := fun back x => by kernel_rfl
theorem rec_Cut_l1_k : cutB Try.f44.ntmps (rec_Cut_l1C) (loopAt 36 Try.f44) = true := by kernel_rfl
theorem rec_Cut_l1_in : cutsOf ([] : List (CutSpec tb)) (loopAt 36 Try.f44) = [] := by kernel_rfl
theorem rec_Cut_l1_cut : CutSound Try.prog tb Try.f44.ntmps (.loop (loopAt 36 Try.f44)) (rec_Cut_l1C) := loop_it mixed rec_Cut_l1_k rec_CutG_ok rfl rec_Cut_l1_in .nil rec_Cut_l1F rec_Cut_l1_eq rfl
def rec_CutF (x : Rec) : Option (Rec) :=
  obnd (slices_Clone_byte_byteF x.Data) fun y =>
    obnd (rec_Cut_l1J ([], x, { Type_ := x.Type_, Data := y, Cuts := [], At := x.At }, 224)) fun y => some { Type_ := y.2.Type_, Data := y.2.Data, Cuts := y.1, At := y.2.At }
def rec_CutS : FSpec tb := ⟨[(0, .val 62)], [(0, .val 62)], rec_CutF⟩
theorem rec_Cut_eq : ∀ x, evFn Try.prog tb rec_CutG [rec_Cut_l1C] Try.f44 rec_CutS.ins rec_CutS.outs x = rec_CutS.f x := fun x => by kernel_rfl
theorem rec_Cut_k : fnK Try.f44 rec_CutS.ins rec_CutS.outs = true := by kernel_rfl
theorem rec_Cut_in : cutsOf ([rec_Cut_l1C] : List (CutSpec tb)) (bodyOf Try.f44) = [(36, .loop (loopAt 36 Try.f44))] := by kernel_rfl
theorem rec_Cut_sound : FnSound Try.prog tb 44 rec_CutS := fn_cut mixed Try.func44 rec_Cut_k rec_CutG_ok rfl rec_Cut_in (.cons rfl rec_Cut_l1_cut rfl .nil) rec_Cut_eq

/-! ### chain_Encode -/
abbrev chain_EncodeG : List (Nat × FSpec tb) := [(42, le_Put16S), (43, ref_GoodS), (44, rec_CutS)]
theorem chain_EncodeG_ok : AllSound Try.prog tb (chain_EncodeG) := (.cons le_Put16_sound (.cons ref_Good_sound (.cons rec_Cut_sound .nil)))
def chain_Encode_l1F (back : Rec × List (UInt8) × List Place × Int × Int → Option (((List (UInt8)) × Rec) ⊕ ((Int) × Rec))) (x : Rec × List (UInt8) × List Place × Int × Int) : Option (((List (UInt8)) × Rec) ⊕ ((Int) × Rec)) :=
  brn (decide (x.2.2.2.snd < x.2.2.2.fst))
    (obnd (idx x.2.2.fst x.2.2.2.snd) fun y =>
      brn (decide (y.Sheet < 0)) (some (Sum.inr (12, { Type_ := 0, Data := [], Cuts := [], At := 0 })))
        (brn (decide (8 ≤ y.Sheet)) (some (Sum.inr (12, { Type_ := 0, Data := [], Cuts := [], At := 0 })))
          (obnd (ref_GoodF y.At) fun y_1 =>
            brn (!y_1) (some (Sum.inr (12, { Type_ := 0, Data := [], Cuts := [], At := 0 })))
              (obnd
                (app 1 x.2.fst
                  [UInt8.ofNat (IntKind.u8.wrap y.Sheet).toNat, UInt8.ofNat (IntKind.u8.wrap y.At.Row).toNat, UInt8.ofNat (IntKind.u8.wrap (y.At.Row.fdiv 256)).toNat,
                    UInt8.ofNat (IntKind.u8.wrap y.At.Col).toNat])
                fun zs => back (x.fst, zs, x.2.2.fst, x.2.2.2.fst, IntKind.i64.wrap (x.2.2.2.snd + 1))))))
    (some (Sum.inl (x.2.fst, x.fst)))
def chain_Encode_l1J : Rec × List (UInt8) × List Place × Int × Int → Option (((List (UInt8)) × Rec) ⊕ ((Int) × Rec)) := iter chain_Encode_l1F big
def chain_Encode_l1C : CutSpec tb := ⟨52, [(2, .ref 62), (4, .own 5), (18, .val 37), (19, .val 3), (20, .val 3)], [((.exit 0), [(4, .own 5)]), (.ret, [(3, .val 63)])], [21, 22, 23, 7, 24, 25, 26, 27, 28, 29, 30, 31, 32, 33, 34, 35, 36, 37, 38, 3, 39, 40, 41, 42, 43, 44, 45, 46, 47, 48, 49, 50, 51, 52, 53, 54, 55, 56, 57, 4, 58, 20], chain_Encode_l1J⟩
theorem chain_Encode_l1_eq : ∀ back x, evLoop Try.prog tb chain_EncodeG [] (loopAt 52 Try.f21) (chain_Encode_l1C).ins (chain_Encode_l1C).outs back x = chain_Encode_l1F back x := fun back x => by kernel_rfl
theorem chain_Encode_l1_k : cutB Try.f21.ntmps (chain_Encode_l1C) (loopAt 52 Try.f21) = true := by kernel_rfl
theorem chain_Encode_l1_in : cutsOf ([] : List (CutSpec tb)) (loopAt 52 Try.f21) = [] := by kernel_rfl
theorem chain_Encode_l1_cut : CutSound Try.prog tb Try.f21.ntmps (.loop (loopAt 52 Try.f21)) (chain_Encode_l1C) := loop_it mixed chain_Encode_l1_k chain_EncodeG_ok rfl chain_Encode_l1_in .nil chain_Encode_l1F chain_Encode_l1_eq rfl
def chain_EncodeF (x : List Place) : Option (Rec × Int) :=
  brn (decide (4096 < (↑x.length : Int))) (some ({ Type_ := 0, Data := [], Cuts := [], At := 0 }, 4))
    (obnd (le_Put16F ([], (↑x.length : Int))) fun y =>
      obnd (chain_Encode_l1J ({ Type_ := 0, Data := [], Cuts := [], At := 0 }, y.fst, x, (↑x.length : Int), 0)) fun y =>
        osum y (fun y => obnd (rec_CutF { Type_ := 6247, Data := y.1, Cuts := [], At := 0 }) fun y => some (y, 0)) fun y => some (y.2, y.1))
def chain_EncodeS : FSpec tb := ⟨[(0, .val 37)], [(0, .val 62), (1, .val 63)], chain_EncodeF⟩
theorem chain_Encode_eq : ∀ x, evFn Try.prog tb chain_EncodeG [chain_Encode_l1C] Try.f21 chain_EncodeS.ins chain_EncodeS.outs x = chain_EncodeS.f x := fun x => by kernel_rfl
theorem chain_Encode_k : fnK Try.f21 chain_EncodeS.ins chain_EncodeS.outs = true := by kernel_rfl
theorem chain_Encode_in : cutsOf ([chain_Encode_l1C] : List (CutSpec tb)) (bodyOf Try.f21) = [(52, .loop (loopAt 52 Try.f21))] := by kernel_rfl
theorem chain_Encode_sound : FnSound Try.prog tb 21 chain_EncodeS := fn_cut mixed Try.func21 chain_Encode_k chain_EncodeG_ok rfl chain_Encode_in (.cons rfl chain_Encode_l1_cut rfl .nil) chain_Encode_eq

/-! ### le_take -/
def le_take_s1_0J (x : Cursor × Cursor × Int) : Option ((List UInt8 × Int) × Cursor) :=
  some (([], x.2.snd), x.fst)
def le_take_s1_0C : CutSpec tb := ⟨57, [(2, .ro 114), (5, .ref 114), (6, .val 63)], [(.ret, [(4, .val 49), (6, .val 63)])], [46, 47, 4, 6], le_take_s1_0J⟩
theorem le_take_s1_0_eq : ∀ x, evScope Try.prog tb [] [] [] (restAt (scopeAt 21 Try.f87) 0) le_take_s1_0C.ins le_take_s1_0C.outs x = le_take_s1_0C.J x := fun x => by kernel_rfl
theorem le_take_s1_0_k : cutB Try.f87.ntmps le_take_s1_0C (restAt (scopeAt 21 Try.f87) 0) = true := by kernel_rfl
theorem le_take_s1_0_in : cutsOf ([] : List (CutSpec tb)) (restAt (scopeAt 21 Try.f87) 0) = [] := by kernel_rfl
theorem le_take_s1_0_lab : LabelSound Try.prog tb Try.f87.ntmps (scopeAt 21 Try.f87) 0 le_take_s1_0C := label_ev mixed (by kernel_rfl) le_take_s1_0_k .nil rfl le_take_s1_0_in .nil .nil le_take_s1_0_eq
def le_take_s1J (x : Int × Cursor × Cursor) : Option (((Unit) × Cursor) ⊕ ((List UInt8 × Int) × Cursor)) :=
  brn (decide (x.2.fst.At < 0)) (obnd (le_take_s1_0J (x.2.fst, x.2.snd, 1)) fun y => some (Sum.inr (y.1, y.2)))
    (brn (decide ((↑x.2.fst.B.length : Int) < x.2.fst.At)) (obnd (le_take_s1_0J (x.2.fst, x.2.snd, 1)) fun y => some (Sum.inr (y.1, y.2)))
      (brn (decide (x.fst < 0)) (obnd (le_take_s1_0J (x.2.fst, x.2.snd, 1)) fun y => some (Sum.inr (y.1, y.2)))
        (brn (decide (IntKind.i64.wrap ((↑x.2.fst.B.length : Int) - x.2.fst.At) < x.fst)) (obnd (le_take_s1_0J (x.2.fst, x.2.snd, 5)) fun y => some (Sum.inr (y.1, y.2)))
          (obnd (sub x.2.fst.B x.2.fst.At (IntKind.i64.wrap (x.2.fst.At + x.fst))) fun z =>
            some (Sum.inr ((z, 0), { B := x.2.fst.B, At := IntKind.i64.wrap (x.2.fst.At + x.fst) }))))))
def le_take_s1C : CutSpec tb := ⟨21, [(1, .val 3), (2, .ro 114), (5, .ref 114)], [(.normal, []), (.ret, [(4, .val 49), (6, .val 63)])], [7, 8, 9, 10, 11, 12, 13, 14, 15, 16, 17, 18, 19, 20, 21, 6, 22, 23, 24, 25, 26, 27, 28, 29, 30, 31, 32, 33, 34, 35, 36, 37, 38, 39, 40, 41, 42, 43, 44, 45, 4, 46, 47], le_take_s1J⟩
theorem le_take_s1_eq : ∀ x, evScope Try.prog tb [] [] [(0, le_take_s1_0C)] (scopeAt 21 Try.f87) le_take_s1C.ins le_take_s1C.outs x = le_take_s1C.J x := fun x => by kernel_rfl
theorem le_take_s1_k : cutB Try.f87.ntmps le_take_s1C (scopeAt 21 Try.f87) = true := by kernel_rfl
theorem le_take_s1_in : cutsOf ([] : List (CutSpec tb)) (scopeAt 21 Try.f87) = [] := by kernel_rfl
theorem le_take_s1_cut : CutSound Try.prog tb Try.f87.ntmps (.scope (scopeAt 21 Try.f87)) le_take_s1C := scope_ev mixed le_take_s1_k .nil rfl le_take_s1_in .nil (.cons le_take_s1_0_lab rfl .nil) le_take_s1_eq
def le_takeF (x : Cursor × Int) : Option (List UInt8 × Cursor × Int) :=
  obnd (le_take_s1J (x.snd, x.fst, { B := [], At := 0 })) fun y => osum y (fun y => none) fun y => some (y.1.fst, y.2, y.1.snd)
def le_takeS : FSpec tb := ⟨[(0, .val 114), (1, .val 3)], [(0, .val 49), (1, .val 114), (2, .val 63)], le_takeF⟩
theorem le_take_eq : ∀ x, evFn Try.prog tb [] [le_take_s1C] Try.f87 le_takeS.ins le_takeS.outs x = le_takeS.f x := fun x => by kernel_rfl
theorem le_take_k : fnK Try.f87 le_takeS.ins le_takeS.outs = true := by kernel_rfl
theorem le_take_in : cutsOf ([le_take_s1C] : List (CutSpec tb)) (bodyOf Try.f87) = [(21, .scope (scopeAt 21 Try.f87))] := by kernel_rfl
theorem le_take_sound : FnSound Try.prog tb 87 le_takeS := fn_cut mixed Try.func87 le_take_k .nil rfl le_take_in (.cons rfl le_take_s1_cut rfl .nil) le_take_eq

/-! ### le_number -/
abbrev le_numberG : List (Nat × FSpec tb) := [(87, le_takeS)]
theorem le_numberG_ok : AllSound Try.prog tb (le_numberG) := (.cons le_take_sound .nil)
def le_number_l1F (back : Int × List UInt8 × Int × Int → Option (Int)) (x : Int × List UInt8 × Int × Int) : Option (Int) :=
  brn (decide (x.2.2.snd < x.2.2.fst))
    (obnd (idx x.2.fst x.2.2.snd) fun y =>
      brn (decide (IntKind.i64.wrap (8 * x.2.2.snd) < 0)) none
        (back
          (bitsOf BinOp.or IntKind.u64 x.fst (IntKind.u64.wrap (IntKind.u64.wrap (↑(UInt8.toNat y) : Int) * 2 ^ min (IntKind.i64.wrap (8 * x.2.2.snd)).toNat 64)), x.2.fst, x.2.2.fst,
            IntKind.i64.wrap (x.2.2.snd + 1))))
    (some x.1)
def le_number_l1J : Int × List UInt8 × Int × Int → Option (Int) := iter le_number_l1F big
def le_number_l1C : CutSpec tb := ⟨44, [(10, .val 106), (20, .val 49), (21, .val 3), (22, .val 3)], [((.exit 0), [(10, .val 106)])], [23, 24, 25, 26, 11, 12, 27, 28, 29, 30, 31, 32, 33, 10, 34, 22], le_number_l1J⟩
theorem le_number_l1_eq : ∀ back x, evLoop Try.prog tb le_numberG [] (loopAt 44 Try.f69) (le_number_l1C).ins (le_number_l1C).outs back x = le_number_l1F back x := fun back x => by kernel_rfl
theorem le_number_l1_k : cutB Try.f69.ntmps (le_number_l1C) (loopAt 44 Try.f69) = true := by kernel_rfl
theorem le_number_l1_in : cutsOf ([] : List (CutSpec tb)) (loopAt 44 Try.f69) = [] := by kernel_rfl
theorem le_number_l1_cut : CutSound Try.prog tb Try.f69.ntmps (.loop (loopAt 44 Try.f69)) (le_number_l1C) := loop_it mixed le_number_l1_k le_numberG_ok rfl le_number_l1_in .nil le_number_l1F le_number_l1_eq rfl
def le_numberF (x : Cursor × Int) : Option (Int × Cursor × Int) :=
  obnd (le_takeF x) fun y => obnd (le_number_l1J (0, y.fst, (↑(List.length y.fst) : Int), 0)) fun y_1 => some (y_1, y.2)
def le_numberS : FSpec tb := ⟨[(0, .val 114), (1, .val 3)], [(0, .val 106), (1, .val 114), (2, .val 63)], le_numberF⟩
theorem le_number_eq : ∀ x, evFn Try.prog tb le_numberG [le_number_l1C] Try.f69 le_numberS.ins le_numberS.outs x = le_numberS.f x := fun x => by kernel_rfl
theorem le_number_k : fnK Try.f69 le_numberS.ins le_numberS.outs = true := by kernel_rfl
theorem le_number_in : cutsOf ([le_number_l1C] : List (CutSpec tb)) (bodyOf Try.f69) = [(44, .loop (loopAt 44 Try.f69))] := by kernel_rfl
theorem le_number_sound : FnSound Try.prog tb 69 le_numberS := fn_cut mixed Try.func69 le_number_k le_numberG_ok rfl le_number_in (.cons rfl le_number_l1_cut rfl .nil) le_number_eq

/-! ### le_U16 -/
def le_U16F (x : Cursor) : Option (Int × Cursor × Int) :=
  obnd (le_numberF (x, 2)) fun y => some (IntKind.i64.wrap y.fst, y.2)
def le_U16S : FSpec tb := ⟨[(0, .val 114)], [(0, .val 3), (1, .val 114), (2, .val 63)], le_U16F⟩
theorem le_U16_eq : ∀ x, evFn Try.prog tb [(69, le_numberS)] [] Try.f49 le_U16S.ins le_U16S.outs x = le_U16S.f x := fun x => by kernel_rfl
theorem le_U16_k : fnK Try.f49 le_U16S.ins le_U16S.outs = true := by kernel_rfl
theorem le_U16_sound : FnSound Try.prog tb 49 le_U16S := fn_ev mixed Try.func49 le_U16_k (.cons le_number_sound .nil) rfl le_U16_eq

/-! ### le_End -/
def le_EndF (x : Cursor) : Option (Int) :=
  brn (decide (x.At < 0)) (some 1) (brn (decide ((↑x.B.length : Int) < x.At)) (some 1) (brn (decide (x.At < (↑x.B.length : Int))) (some 4) (some 0)))
def le_EndS : FSpec tb := ⟨[(0, .val 114)], [(0, .val 63)], le_EndF⟩
theorem le_End_eq : ∀ x, evFn Try.prog tb [] [] Try.f50 le_EndS.ins le_EndS.outs x = le_EndS.f x := fun x => by kernel_rfl
theorem le_End_k : fnK Try.f50 le_EndS.ins le_EndS.outs = true := by kernel_rfl
theorem le_End_sound : FnSound Try.prog tb 50 le_EndS := fn_ev mixed Try.func50 le_End_k .nil rfl le_End_eq

/-! ### le_U8 -/
def le_U8F (x : Cursor) : Option (Int × Cursor × Int) :=
  obnd (le_numberF (x, 1)) fun y => some (IntKind.i64.wrap y.fst, y.2)
def le_U8S : FSpec tb := ⟨[(0, .val 114)], [(0, .val 3), (1, .val 114), (2, .val 63)], le_U8F⟩
theorem le_U8_eq : ∀ x, evFn Try.prog tb [(69, le_numberS)] [] Try.f51 le_U8S.ins le_U8S.outs x = le_U8S.f x := fun x => by kernel_rfl
theorem le_U8_k : fnK Try.f51 le_U8S.ins le_U8S.outs = true := by kernel_rfl
theorem le_U8_sound : FnSound Try.prog tb 51 le_U8S := fn_ev mixed Try.func51 le_U8_k (.cons le_number_sound .nil) rfl le_U8_eq

/-! ### chain_Decode -/
abbrev chain_DecodeG : List (Nat × FSpec tb) := [(49, le_U16S), (50, le_EndS), (51, le_U8S)]
theorem chain_DecodeG_ok : AllSound Try.prog tb (chain_DecodeG) := (.cons le_U16_sound (.cons le_End_sound (.cons le_U8_sound .nil)))
def chain_Decode_s1_0J (x : Int × Int) : Option (List (Place) × Int × Int) :=
  some ([], x)
def chain_Decode_s1_0C : CutSpec tb := ⟨217, [(3, .val 3), (4, .val 63)], [(.ret, [(2, .own 42), (3, .val 3), (4, .val 63)])], [80, 81, 2, 3, 4], chain_Decode_s1_0J⟩
theorem chain_Decode_s1_0_eq : ∀ x, evScope Try.prog tb chain_DecodeG [] [] (restAt (scopeAt 21 Try.f26) 0) chain_Decode_s1_0C.ins chain_Decode_s1_0C.outs x = chain_Decode_s1_0C.J x := fun x => by kernel_rfl
theorem chain_Decode_s1_0_k : cutB Try.f26.ntmps chain_Decode_s1_0C (restAt (scopeAt 21 Try.f26) 0) = true := by kernel_rfl
theorem chain_Decode_s1_0_in : cutsOf ([] : List (CutSpec tb)) (restAt (scopeAt 21 Try.f26) 0) = [] := by kernel_rfl
theorem chain_Decode_s1_0_lab : LabelSound Try.prog tb Try.f26.ntmps (scopeAt 21 Try.f26) 0 chain_Decode_s1_0C := label_ev mixed (by kernel_rfl) chain_Decode_s1_0_k chain_DecodeG_ok rfl chain_Decode_s1_0_in .nil .nil chain_Decode_s1_0_eq
def chain_Decode_s1_1F (back : List (Place) × Cursor × Int → Option ((List (Place) × Int × Int) × Cursor)) (x : List (Place) × Cursor × Int) : Option ((List (Place) × Int × Int) × Cursor) :=
  brn (decide ((↑x.fst.length : Int) = x.2.snd))
    (obnd (le_EndF x.2.fst) fun y => brn (decide (y = 0)) (some ((x.fst, 0, 0), x.2.fst)) (obnd (chain_Decode_s1_0J (x.2.fst.At, y)) fun y => some ((y.fst, y.2), x.2.fst)))
    (obnd (le_U8F x.2.fst) fun y =>
      brn (!decide (y.2.snd = 0)) (obnd (chain_Decode_s1_0J (x.2.fst.At, y.2.snd)) fun y_1 => some ((y_1.fst, y_1.2), y.2.fst))
        (obnd (le_U16F y.2.fst) fun y_1 =>
          brn (!decide (y_1.2.snd = 0)) (obnd (chain_Decode_s1_0J (y.2.fst.At, y_1.2.snd)) fun y => some ((y.fst, y.2), y_1.2.fst))
            (obnd (le_U8F y_1.2.fst) fun y_2 =>
              brn (!decide (y_2.2.snd = 0)) (obnd (chain_Decode_s1_0J (y_1.2.fst.At, y_2.2.snd)) fun y => some ((y.fst, y.2), y_2.2.fst))
                (brn (decide (8 ≤ y.fst)) (obnd (chain_Decode_s1_0J (IntKind.i64.wrap (y_2.2.fst.At - 4), 12)) fun y => some ((y.fst, y.2), y_2.2.fst))
                  (obnd (app 24 x.fst [{ Sheet := y.fst, At := { Row := y_1.fst, Col := y_2.fst } }]) fun zs =>
                    obnd (back (zs, y_2.2.fst, x.2.snd)) fun y => some ((y.1.fst, y.1.2), y.2))))))
def chain_Decode_s1_1J : List (Place) × Cursor × Int → Option ((List (Place) × Int × Int) × Cursor) := iter chain_Decode_s1_1F big
def chain_Decode_s1_1C : CutSpec tb := ⟨81, [(2, .own 42), (5, .ref 114), (6, .val 3)], [(.ret, [(2, .own 42), (3, .val 3), (4, .val 63)])], [26, 27, 28, 29, 30, 31, 4, 32, 33, 34, 2, 3, 35, 36, 37, 38, 40, 41, 39, 42, 43, 44, 7, 45, 46, 47, 48, 50, 51, 49, 52, 53, 54, 8, 55, 56, 57, 58, 60, 61, 59, 62, 63, 64, 9, 65, 66, 67, 68, 69, 70, 71, 72, 73, 74, 75, 76, 77, 78, 79, 80, 81], chain_Decode_s1_1J⟩
theorem chain_Decode_s1_1_eq : ∀ back x, evScope Try.prog tb chain_DecodeG [] [(1, (⟨81, [(2, .own 42), (5, .ref 114), (6, .val 3)], [(.ret, [(2, .own 42), (3, .val 3), (4, .val 63)])], [26, 27, 28, 29, 30, 31, 4, 32, 33, 34, 2, 3, 35, 36, 37, 38, 40, 41, 39, 42, 43, 44, 7, 45, 46, 47, 48, 50, 51, 49, 52, 53, 54, 8, 55, 56, 57, 58, 60, 61, 59, 62, 63, 64, 9, 65, 66, 67, 68, 69, 70, 71, 72, 73, 74, 75, 76, 77, 78, 79, 80, 81], back⟩ : CutSpec tb)), (0, chain_Decode_s1_0C)] (restAt (scopeAt 21 Try.f26) 1) chain_Decode_s1_1C.ins chain_Decode_s1_1C.outs x = chain_Decode_s1_1F back x := fun back x => by kernel_rfl
theorem chain_Decode_s1_1_k : cutB Try.f26.ntmps chain_Decode_s1_1C (restAt (scopeAt 21 Try.f26) 1) = true := by kernel_rfl
theorem chain_Decode_s1_1_in : cutsOf ([] : List (CutSpec tb)) (restAt (scopeAt 21 Try.f26) 1) = [] := by kernel_rfl
theorem chain_Decode_s1_1_lab : LabelSound Try.prog tb Try.f26.ntmps (scopeAt 21 Try.f26) 1 chain_Decode_s1_1C := label_it fun self hself => label_ev mixed (by kernel_rfl) chain_Decode_s1_1_k chain_DecodeG_ok rfl chain_Decode_s1_1_in .nil (.cons hself rfl (.cons chain_Decode_s1_0_lab rfl .nil)) (chain_Decode_s1_1_eq self)
def chain_Decode_s1J (x : Rec × List (Place) × Int) : Option ((Unit) ⊕ (List (Place) × Int × Int)) :=
  brn (!decide (x.fst.Type_ = 6247)) (obnd (chain_Decode_s1_0J (x.2.snd, 2)) fun y => some (Sum.inr (y.fst, y.2)))
    (obnd (le_U16F { B := x.fst.Data, At := 0 }) fun y =>
      brn (!decide (y.2.snd = 0)) (obnd (chain_Decode_s1_0J (x.2.snd, y.2.snd)) fun y => some (Sum.inr (y.fst, y.2)))
        (brn (decide (4096 < y.fst)) (obnd (chain_Decode_s1_0J (x.2.snd, 4)) fun y => some (Sum.inr (y.fst, y.2)))
          (brn (decide ((↑x.2.fst.length : Int) = y.fst))
            (obnd (le_EndF y.2.fst) fun y_1 =>
              brn (decide (y_1 = 0)) (some (Sum.inr (x.2.fst, 0, 0))) (obnd (chain_Decode_s1_0J (y.2.fst.At, y_1)) fun y => some (Sum.inr (y.fst, y.2))))
            (obnd (le_U8F y.2.fst) fun y_1 =>
              brn (!decide (y_1.2.snd = 0)) (obnd (chain_Decode_s1_0J (y.2.fst.At, y_1.2.snd)) fun y => some (Sum.inr (y.fst, y.2)))
                (obnd (le_U16F y_1.2.fst) fun y_2 =>
                  brn (!decide (y_2.2.snd = 0)) (obnd (chain_Decode_s1_0J (y_1.2.fst.At, y_2.2.snd)) fun y => some (Sum.inr (y.fst, y.2)))
                    (obnd (le_U8F y_2.2.fst) fun y_3 =>
                      brn (!decide (y_3.2.snd = 0)) (obnd (chain_Decode_s1_0J (y_2.2.fst.At, y_3.2.snd)) fun y => some (Sum.inr (y.fst, y.2)))
                        (brn (decide (8 ≤ y_1.fst)) (obnd (chain_Decode_s1_0J (IntKind.i64.wrap (y_3.2.fst.At - 4), 12)) fun y => some (Sum.inr (y.fst, y.2)))
                          (obnd (app 24 x.2.fst [{ Sheet := y_1.fst, At := { Row := y_2.fst, Col := y_3.fst } }]) fun zs =>
                            obnd (chain_Decode_s1_1J (zs, y_3.2.fst, y.fst)) fun y => some (Sum.inr (y.1.fst, y.1.2))))))))))
def chain_Decode_s1C : CutSpec tb := ⟨21, [(1, .ro 62), (2, .own 42), (3, .val 3)], [(.normal, []), (.ret, [(2, .own 42), (3, .val 3), (4, .val 63)])], [10, 11, 12, 5, 6, 7, 8, 9, 13, 14, 15, 4, 17, 18, 16, 19, 20, 21, 22, 23, 24, 25, 26, 27, 28, 29, 30, 31, 32, 33, 34, 2, 3, 35, 36, 37, 38, 40, 41, 39, 42, 43, 44, 45, 46, 47, 48, 50, 51, 49, 52, 53, 54, 55, 56, 57, 58, 60, 61, 59, 62, 63, 64, 65, 66, 67, 68, 69, 70, 71, 72, 73, 74, 75, 76, 77, 78, 79, 80, 81], chain_Decode_s1J⟩
theorem chain_Decode_s1_eq : ∀ x, evScope Try.prog tb chain_DecodeG [] [(1, chain_Decode_s1_1C), (0, chain_Decode_s1_0C)] (scopeAt 21 Try.f26) chain_Decode_s1C.ins chain_Decode_s1C.outs x = chain_Decode_s1C.J x := fun x => by kernel_rfl
theorem chain_Decode_s1_k : cutB Try.f26.ntmps chain_Decode_s1C (scopeAt 21 Try.f26) = true := by kernel_rfl
theorem chain_Decode_s1_in : cutsOf ([] : List (CutSpec tb)) (scopeAt 21 Try.f26) = [] := by kernel_rfl
theorem chain_Decode_s1_cut : CutSound Try.prog tb Try.f26.ntmps (.scope (scopeAt 21 Try.f26)) chain_Decode_s1C := scope_ev mixed chain_Decode_s1_k chain_DecodeG_ok rfl chain_Decode_s1_in .nil (.cons chain_Decode_s1_1_lab rfl (.cons chain_Decode_s1_0_lab rfl .nil)) chain_Decode_s1_eq
def chain_DecodeF (x : Rec) : Option (List (Place) × Int × Int) :=
  obnd (chain_Decode_s1J (x, [], 0)) fun y => osum y (fun y => none) fun y => some (y.fst, y.2)
def chain_DecodeS : FSpec tb := ⟨[(0, .val 62)], [(0, .own 42), (1, .val 3), (2, .val 63)], chain_DecodeF⟩
theorem chain_Decode_eq : ∀ x, evFn Try.prog tb chain_DecodeG [chain_Decode_s1C] Try.f26 chain_DecodeS.ins chain_DecodeS.outs x = chain_DecodeS.f x := fun x => by kernel_rfl
theorem chain_Decode_k : fnK Try.f26 chain_DecodeS.ins chain_DecodeS.outs = true := by kernel_rfl
theorem chain_Decode_in : cutsOf ([chain_Decode_s1C] : List (CutSpec tb)) (bodyOf Try.f26) = [(21, .scope (scopeAt 21 Try.f26))] := by kernel_rfl
theorem chain_Decode_sound : FnSound Try.prog tb 26 chain_DecodeS := fn_cut mixed Try.func26 chain_Decode_k chain_DecodeG_ok rfl chain_Decode_in (.cons rfl chain_Decode_s1_cut rfl .nil) chain_Decode_eq

/-! ### expr_within -/
def expr_withinF (x : Int × Int × Int) : Option (Bool) :=
  brn (decide (x.2.fst ≤ x.fst)) (some (decide (x.fst ≤ x.2.snd))) (some false)
def expr_withinS : FSpec tb := ⟨[(0, .val 3), (1, .val 3), (2, .val 3)], [(0, .val 4)], expr_withinF⟩
theorem expr_within_eq : ∀ x, evFn Try.prog tb [] [] Try.f55 expr_withinS.ins expr_withinS.outs x = expr_withinS.f x := fun x => by kernel_rfl
theorem expr_within_k : fnK Try.f55 expr_withinS.ins expr_withinS.outs = true := by kernel_rfl
theorem expr_within_sound : FnSound Try.prog tb 55 expr_withinS := fn_ev mixed Try.func55 expr_within_k .nil rfl expr_within_eq

/-! ### expr_Refs -/
def expr_RefsT (self : Expr → Option (List (Expr))) : FSpec tb := ⟨[(0, .val 33)], [(0, .own 33)], self⟩
abbrev expr_RefsG (self : Expr → Option (List (Expr))) : List (Nat × FSpec tb) := [(55, expr_withinS), (32, (expr_RefsT self))]
theorem expr_RefsG_ok (self : Expr → Option (List (Expr))) (hself : FnSound Try.prog tb 32 (expr_RefsT self)) : AllSound Try.prog tb (expr_RefsG self) := (.cons expr_within_sound (.cons hself .nil))
def expr_Refs_l1F (self : Expr → Option (List (Expr))) (back : List (Expr) × List Expr × Int × Int → Option (List (Expr))) (x : List (Expr) × List Expr × Int × Int) : Option (List (Expr)) :=
  brn (decide (x.2.2.snd < x.2.2.fst))
    (obnd (idx x.2.fst x.2.2.snd) fun y => obnd (self (eExpr y)) fun y => obnd (app 152 x.fst y) fun zs => back (zs, x.2.fst, x.2.2.fst, IntKind.i64.wrap (x.2.2.snd + 1)))
    (some x.1)
def expr_Refs_l1J (self : Expr → Option (List (Expr))) : List (Expr) × List Expr × Int × Int → Option (List (Expr)) := iter (expr_Refs_l1F self) big
def expr_Refs_l1C (self : Expr → Option (List (Expr))) : CutSpec tb := ⟨52, [(3, .own 33), (12, .val 31), (13, .val 3), (14, .val 3)], [((.exit 0), [(3, .own 33)])], [15, 16, 17, 5, 18, 19, 20, 21, 3, 22, 14], (expr_Refs_l1J self)⟩
theorem expr_Refs_l1_eq (self : Expr → Option (List (Expr))) : ∀ back x, evLoop Try.prog tb (expr_RefsG self) [] (loopAt 52 Try.f32) (expr_Refs_l1C self).ins (expr_Refs_l1C self).outs back x = expr_Refs_l1F self back x := fun back x => by kernel_rfl
theorem expr_Refs_l1_k (self : Expr → Option (List (Expr))) : cutB Try.f32.ntmps (expr_Refs_l1C self) (loopAt 52 Try.f32) = true := by kernel_rfl
theorem expr_Refs_l1_in (self : Expr → Option (List (Expr))) : cutsOf ([] : List (CutSpec tb)) (loopAt 52 Try.f32) = [] := by kernel_rfl
theorem expr_Refs_l1_cut (self : Expr → Option (List (Expr))) (hself : FnSound Try.prog tb 32 (expr_RefsT self)) : CutSound Try.prog tb Try.f32.ntmps (.loop (loopAt 52 Try.f32)) (expr_Refs_l1C self) := loop_it mixed (expr_Refs_l1_k self) (expr_RefsG_ok self hself) rfl (expr_Refs_l1_in self) .nil (expr_Refs_l1F self) (expr_Refs_l1_eq self) rfl
def expr_RefsR (self : Expr → Option (List (Expr))) (x : Expr) : Option (List (Expr)) :=
  obnd (expr_withinF (x.Kind, 2, 6)) fun y => brn y (some [eExpr x]) (obnd ((expr_Refs_l1J self) ([], x.Kids, (↑x.Kids.length : Int), 0)) fun y => some y)
theorem expr_Refs_eq (self : Expr → Option (List (Expr))) : ∀ x, evFn Try.prog tb (expr_RefsG self) [(expr_Refs_l1C self)] Try.f32 (expr_RefsT (expr_RefsR self)).ins (expr_RefsT (expr_RefsR self)).outs x = (expr_RefsT (expr_RefsR self)).f x := fun x => by kernel_rfl
theorem expr_Refs_k (self : Expr → Option (List (Expr))) : fnK Try.f32 (expr_RefsT (expr_RefsR self)).ins (expr_RefsT (expr_RefsR self)).outs = true := by kernel_rfl
theorem expr_Refs_in (self : Expr → Option (List (Expr))) : cutsOf ([(expr_Refs_l1C self)] : List (CutSpec tb)) (bodyOf Try.f32) = [(52, .loop (loopAt 52 Try.f32))] := by kernel_rfl
theorem expr_Refs_step (self : Expr → Option (List (Expr))) (hself : FnSound Try.prog tb 32 (expr_RefsT self)) : FnSound Try.prog tb 32 (expr_RefsT (expr_RefsR self)) := fn_cut mixed Try.func32 (expr_Refs_k self) (expr_RefsG_ok self hself) rfl (expr_Refs_in self) (.cons rfl (expr_Refs_l1_cut self hself) rfl .nil) (expr_Refs_eq self)
def expr_RefsF : Expr → Option (List (Expr)) := iter expr_RefsR big
def expr_RefsS : FSpec tb := expr_RefsT expr_RefsF
theorem expr_Refs_sound : FnSound Try.prog tb 32 expr_RefsS := fn_it (enters_fn Try.func32 (by kernel_rfl)) expr_Refs_step

/-! ### ref_mod -/
def ref_modF (x : Int × Int) : Option (Int) :=
  brn (decide (x.snd = 0)) none (brn (decide (x.snd = 0)) none (some ((IntKind.i64.wrap (x.fst.tmod x.snd + x.snd)).tmod x.snd)))
def ref_modS : FSpec tb := ⟨[(0, .val 3), (1, .val 3)], [(0, .val 3)], ref_modF⟩
theorem ref_mod_eq : ∀ x, evFn Try.prog tb [] [] Try.f72 ref_modS.ins ref_modS.outs x = ref_modS.f x := fun x => by kernel_rfl
theorem ref_mod_k : fnK Try.f72 ref_modS.ins ref_modS.outs = true := by kernel_rfl
theorem ref_mod_sound : FnSound Try.prog tb 72 ref_modS := fn_ev mixed Try.func72 ref_mod_k .nil rfl ref_mod_eq

/-! ### ref_sum -/
def ref_sumF (x : Int × Int × Int) : Option (Int) :=
  obnd (ref_modF (x.fst, x.2.snd)) fun y => obnd (ref_modF x.2) fun y_1 => obnd (ref_modF (IntKind.i64.wrap (y + y_1), x.2.snd)) fun y => some y
def ref_sumS : FSpec tb := ⟨[(0, .val 3), (1, .val 3), (2, .val 3)], [(0, .val 3)], ref_sumF⟩
theorem ref_sum_eq : ∀ x, evFn Try.prog tb [(72, ref_modS)] [] Try.f73 ref_sumS.ins ref_sumS.outs x = ref_sumS.f x := fun x => by kernel_rfl
theorem ref_sum_k : fnK Try.f73 ref_sumS.ins ref_sumS.outs = true := by kernel_rfl
theorem ref_sum_sound : FnSound Try.prog tb 73 ref_sumS := fn_ev mixed Try.func73 ref_sum_k (.cons ref_mod_sound .nil) rfl ref_sum_eq

/-! ### ref_At -/
def ref_AtF (x : Ref × Cell) : Option (Cell) :=
  obnd (ref_modF (x.fst.Row, 65536)) fun y =>
    obnd (ref_modF (x.fst.Col, 256)) fun y_1 =>
      brn x.fst.RelRow
        (obnd (ref_sumF (x.fst.Row, x.snd.Row, 65536)) fun y =>
          brn x.fst.RelCol (obnd (ref_sumF (x.fst.Col, x.snd.Col, 256)) fun y_2 => some { Row := y, Col := y_2 }) (some { Row := y, Col := y_1 }))
        (brn x.fst.RelCol (obnd (ref_sumF (x.fst.Col, x.snd.Col, 256)) fun y_2 => some { Row := y, Col := y_2 }) (some { Row := y, Col := y_1 }))
def ref_AtS : FSpec tb := ⟨[(0, .val 28), (1, .val 40)], [(0, .val 40)], ref_AtF⟩
theorem ref_At_eq : ∀ x, evFn Try.prog tb [(72, ref_modS), (73, ref_sumS)] [] Try.f56 ref_AtS.ins ref_AtS.outs x = ref_AtS.f x := fun x => by kernel_rfl
theorem ref_At_k : fnK Try.f56 ref_AtS.ins ref_AtS.outs = true := by kernel_rfl
theorem ref_At_sound : FnSound Try.prog tb 56 ref_AtS := fn_ev mixed Try.func56 ref_At_k (.cons ref_mod_sound (.cons ref_sum_sound .nil)) rfl ref_At_eq

/-! ### ref_Bounds -/
def ref_BoundsF (x : Area × Cell) : Option (Cell × Cell) :=
  obnd (ref_AtF (x.fst.A, x.snd)) fun y =>
    obnd (ref_AtF (x.fst.B, x.snd)) fun y_1 =>
      some
        ({ Row := bif decide (y_1.Row < y.Row) then y_1.Row else y.Row, Col := bif decide (y_1.Col < y.Col) then y_1.Col else y.Col },
          { Row := bif decide (y.Row < y_1.Row) then y_1.Row else y.Row, Col := bif decide (y.Col < y_1.Col) then y_1.Col else y.Col })
def ref_BoundsS : FSpec tb := ⟨[(0, .val 30), (1, .val 40)], [(0, .val 40), (1, .val 40)], ref_BoundsF⟩
theorem ref_Bounds_eq : ∀ x, evFn Try.prog tb [(56, ref_AtS)] [] Try.f74 ref_BoundsS.ins ref_BoundsS.outs x = ref_BoundsS.f x := fun x => by kernel_rfl
theorem ref_Bounds_k : fnK Try.f74 ref_BoundsS.ins ref_BoundsS.outs = true := by kernel_rfl
theorem ref_Bounds_sound : FnSound Try.prog tb 74 ref_BoundsS := fn_ev mixed Try.func74 ref_Bounds_k (.cons ref_At_sound .nil) rfl ref_Bounds_eq

/-! ### ref_Cells -/
abbrev ref_CellsG : List (Nat × FSpec tb) := [(74, ref_BoundsS)]
theorem ref_CellsG_ok : AllSound Try.prog tb (ref_CellsG) := (.cons ref_Bounds_sound .nil)
def ref_Cells_l2F (back : Cell × List (Cell) × Int × Int → Option (List (Cell))) (x : Cell × List (Cell) × Int × Int) : Option (List (Cell)) :=
  brn (decide (x.2.2.snd ≤ x.fst.Col)) (obnd (app 16 x.2.fst [{ Row := x.2.2.fst, Col := x.2.2.snd }]) fun zs => back (x.fst, zs, x.2.2.fst, IntKind.i64.wrap (x.2.2.snd + 1)))
    (some x.2.1)
def ref_Cells_l2J : Cell × List (Cell) × Int × Int → Option (List (Cell)) := iter ref_Cells_l2F big
def ref_Cells_l2C : CutSpec tb := ⟨84, [(6, .ro 40), (7, .own 40), (8, .val 3), (9, .val 3)], [((.exit 2), [(7, .own 40)])], [40, 41, 42, 43, 46, 47, 48, 49, 50, 51, 7, 44, 45, 9], ref_Cells_l2J⟩
theorem ref_Cells_l2_eq : ∀ back x, evLoop Try.prog tb ref_CellsG [] (loopAt 84 Try.f57) (ref_Cells_l2C).ins (ref_Cells_l2C).outs back x = ref_Cells_l2F back x := fun back x => by kernel_rfl
theorem ref_Cells_l2_k : cutB Try.f57.ntmps (ref_Cells_l2C) (loopAt 84 Try.f57) = true := by kernel_rfl
theorem ref_Cells_l2_in : cutsOf ([] : List (CutSpec tb)) (loopAt 84 Try.f57) = [] := by kernel_rfl
theorem ref_Cells_l2_cut : CutSound Try.prog tb Try.f57.ntmps (.loop (loopAt 84 Try.f57)) (ref_Cells_l2C) := loop_it mixed ref_Cells_l2_k ref_CellsG_ok rfl ref_Cells_l2_in .nil ref_Cells_l2F ref_Cells_l2_eq rfl
def ref_Cells_l1F (back : Cell × Cell × List (Cell) × Int → Option (List (Cell))) (x : Cell × Cell × List (Cell) × Int) : Option (List (Cell)) :=
  brn (decide (x.2.2.snd ≤ x.2.fst.Row)) (obnd (ref_Cells_l2J (x.2.fst, x.2.2.fst, x.2.2.snd, x.fst.Col)) fun y => back (x.fst, x.2.fst, y, IntKind.i64.wrap (x.2.2.snd + 1)))
    (some x.2.2.1)
def ref_Cells_l1J : Cell × Cell × List (Cell) × Int → Option (List (Cell)) := iter ref_Cells_l1F big
def ref_Cells_l1C : CutSpec tb := ⟨60, [(5, .ro 40), (6, .ro 40), (7, .own 40), (8, .val 3)], [((.exit 0), [(7, .own 40)])], [32, 33, 34, 35, 38, 39, 9, 40, 41, 42, 43, 46, 47, 48, 49, 50, 51, 7, 44, 45, 36, 37, 8], ref_Cells_l1J⟩
theorem ref_Cells_l1_eq : ∀ back x, evLoop Try.prog tb ref_CellsG [ref_Cells_l2C] (loopAt 60 Try.f57) (ref_Cells_l1C).ins (ref_Cells_l1C).outs back x = ref_Cells_l1F back x := fun back x => by kernel_rfl
theorem ref_Cells_l1_k : cutB Try.f57.ntmps (ref_Cells_l1C) (loopAt 60 Try.f57) = true := by kernel_rfl
theorem ref_Cells_l1_in : cutsOf ([ref_Cells_l2C] : List (CutSpec tb)) (loopAt 60 Try.f57) = [(84, .loop (loopAt 84 Try.f57))] := by kernel_rfl
theorem ref_Cells_l1_cut : CutSound Try.prog tb Try.f57.ntmps (.loop (loopAt 60 Try.f57)) (ref_Cells_l1C) := loop_it mixed ref_Cells_l1_k ref_CellsG_ok rfl ref_Cells_l1_in (.cons rfl ref_Cells_l2_cut rfl .nil) ref_Cells_l1F ref_Cells_l1_eq rfl
def ref_CellsF (x : Area × Cell) : Option (List (Cell)) :=
  obnd (ref_BoundsF x) fun y =>
    brn (decide (4096 < IntKind.i64.wrap (IntKind.i64.wrap (IntKind.i64.wrap (y.snd.Row - y.fst.Row) + 1) * IntKind.i64.wrap (IntKind.i64.wrap (y.snd.Col - y.fst.Col) + 1))))
      (some []) (obnd (ref_Cells_l1J (y.fst, y.snd, [], y.fst.Row)) fun y => some y)
def ref_CellsS : FSpec tb := ⟨[(0, .val 30), (1, .val 40)], [(0, .own 40)], ref_CellsF⟩
theorem ref_Cells_eq : ∀ x, evFn Try.prog tb ref_CellsG [ref_Cells_l1C] Try.f57 ref_CellsS.ins ref_CellsS.outs x = ref_CellsS.f x := fun x => by kernel_rfl
theorem ref_Cells_k : fnK Try.f57 ref_CellsS.ins ref_CellsS.outs = true := by kernel_rfl
theorem ref_Cells_in : cutsOf ([ref_Cells_l1C] : List (CutSpec tb)) (bodyOf Try.f57) = [(60, .loop (loopAt 60 Try.f57))] := by kernel_rfl
theorem ref_Cells_sound : FnSound Try.prog tb 57 ref_CellsS := fn_cut mixed Try.func57 ref_Cells_k ref_CellsG_ok rfl ref_Cells_in (.cons rfl ref_Cells_l1_cut rfl .nil) ref_Cells_eq

/-! ### deps_places -/
abbrev deps_placesG : List (Nat × FSpec tb) := [(56, ref_AtS), (57, ref_CellsS)]
theorem deps_placesG_ok : AllSound Try.prog tb (deps_placesG) := (.cons ref_At_sound (.cons ref_Cells_sound .nil))
def deps_places_l4F (back : List (Place) × Int × List Cell × Int × Int → Option (List (Place))) (x : List (Place) × Int × List Cell × Int × Int) : Option (List (Place)) :=
  brn (decide (x.2.2.2.snd < x.2.2.2.fst))
    (obnd (idx x.2.2.fst x.2.2.2.snd) fun y =>
      obnd (app 24 x.fst [{ Sheet := x.2.fst, At := y }]) fun zs => back (zs, x.2.fst, x.2.2.fst, x.2.2.2.fst, IntKind.i64.wrap (x.2.2.2.snd + 1)))
    (some x.1)
def deps_places_l4J : List (Place) × Int × List Cell × Int × Int → Option (List (Place)) := iter deps_places_l4F big
def deps_places_l4C : CutSpec tb := ⟨132, [(7, .own 42), (10, .val 3), (51, .val 125), (52, .val 3), (53, .val 3)], [((.exit 3), [(7, .own 42)])], [54, 55, 56, 12, 57, 58, 59, 60, 61, 62, 7, 63, 53], deps_places_l4J⟩
theorem deps_places_l4_eq : ∀ back x, evLoop Try.prog tb deps_placesG [] (loopAt 132 Try.f33) (deps_places_l4C).ins (deps_places_l4C).outs back x = deps_places_l4F back x := fun back x => by kernel_rfl
theorem deps_places_l4_k : cutB Try.f33.ntmps (deps_places_l4C) (loopAt 132 Try.f33) = true := by kernel_rfl
theorem deps_places_l4_in : cutsOf ([] : List (CutSpec tb)) (loopAt 132 Try.f33) = [] := by kernel_rfl
theorem deps_places_l4_cut : CutSound Try.prog tb Try.f33.ntmps (.loop (loopAt 132 Try.f33)) (deps_places_l4C) := loop_it mixed deps_places_l4_k deps_placesG_ok rfl deps_places_l4_in .nil deps_places_l4F deps_places_l4_eq rfl
def deps_places_b3J (x : Cell × List (Place) × Expr × Int × Int) : Option (List (Place)) :=
  brn (decide (x.2.2.2.snd = 2))
    (brn (decide (x.2.2.2.snd = 2)) (obnd (ref_AtF (x.2.2.fst.A.A, x.fst)) fun y => obnd (app 24 x.2.fst [{ Sheet := x.2.2.2.fst, At := y }]) fun zs => some zs)
      (brn (decide (x.2.2.2.snd = 3))
        (brn (decide (x.2.2.2.snd = 3))
          (obnd (ref_CellsF (x.2.2.fst.A, x.fst)) fun y => obnd (deps_places_l4J (x.2.fst, x.2.2.2.fst, y, (↑(List.length y) : Int), 0)) fun y => some y) (some x.2.1))
        (brn (decide (x.2.2.2.snd = 5))
          (obnd (ref_CellsF (x.2.2.fst.A, x.fst)) fun y => obnd (deps_places_l4J (x.2.fst, x.2.2.2.fst, y, (↑(List.length y) : Int), 0)) fun y => some y) (some x.2.1))))
    (brn (decide (x.2.2.2.snd = 4)) (obnd (ref_AtF (x.2.2.fst.A.A, x.fst)) fun y => obnd (app 24 x.2.fst [{ Sheet := x.2.2.2.fst, At := y }]) fun zs => some zs)
      (brn (decide (x.2.2.2.snd = 3))
        (brn (decide (x.2.2.2.snd = 3))
          (obnd (ref_CellsF (x.2.2.fst.A, x.fst)) fun y => obnd (deps_places_l4J (x.2.fst, x.2.2.2.fst, y, (↑(List.length y) : Int), 0)) fun y => some y) (some x.2.1))
        (brn (decide (x.2.2.2.snd = 5))
          (obnd (ref_CellsF (x.2.2.fst.A, x.fst)) fun y => obnd (deps_places_l4J (x.2.fst, x.2.2.2.fst, y, (↑(List.length y) : Int), 0)) fun y => some y) (some x.2.1))))
def deps_places_b3C : CutSpec tb := ⟨83, [(5, .ro 40), (7, .own 42), (9, .ro 33), (10, .val 3), (31, .val 3)], [(.normal, [(7, .own 42)])], [33, 32, 34, 35, 36, 37, 38, 39, 40, 41, 42, 43, 44, 7, 46, 45, 47, 48, 49, 50, 51, 52, 53, 54, 55, 56, 12, 57, 58, 59, 60, 61, 62, 63], (deps_places_b3J)⟩
theorem deps_places_b3_eq : ∀ x, evBlk Try.prog tb deps_placesG [deps_places_l4C] (codeAt 83 Try.f33) (deps_places_b3C).ins (deps_places_b3C).outs x = (deps_places_b3C).J x := fun x => by kernel_rfl
theorem deps_places_b3_k : cutB Try.f33.ntmps (deps_places_b3C) (codeAt 83 Try.f33) = true := by kernel_rfl
theorem deps_places_b3_in : cutsOf ([deps_places_l4C] : List (CutSpec tb)) (codeAt 83 Try.f33) = [(132, .loop (loopAt 132 Try.f33))] := by kernel_rfl
theorem deps_places_b3_cut : CutSound Try.prog tb Try.f33.ntmps (codeAt 83 Try.f33) (deps_places_b3C) := blk_ev mixed deps_places_b3_k deps_placesG_ok rfl deps_places_b3_in (.cons rfl deps_places_l4_cut rfl .nil) deps_places_b3_eq
def deps_places_b2J (x : Int × Cell × List (Place) × List Expr × Int) : Option (List (Place)) :=
  obnd (idx x.2.2.2.fst x.2.2.2.snd) fun y =>
    brn (decide (y.Kind = 4)) (obnd (deps_places_b3J (x.2.fst, x.2.2.fst, eExpr y, y.Sheet, y.Kind)) fun y => some y)
      (brn (decide (y.Kind = 5)) (obnd (deps_places_b3J (x.2.fst, x.2.2.fst, eExpr y, y.Sheet, y.Kind)) fun y => some y)
        (obnd (deps_places_b3J (x.2.fst, x.2.2.fst, eExpr y, x.fst, y.Kind)) fun y => some y))
def deps_places_b2C : CutSpec tb := ⟨43, [(1, .val 3), (5, .ro 40), (7, .own 42), (13, .val 31), (15, .val 3)], [(.normal, [(7, .own 42)])], [17, 18, 9, 19, 10, 20, 21, 22, 23, 24, 25, 26, 27, 28, 29, 30, 31, 33, 32, 34, 35, 36, 37, 38, 39, 40, 41, 42, 43, 44, 7, 46, 45, 47, 48, 49, 50, 51, 52, 53, 54, 55, 56, 12, 57, 58, 59, 60, 61, 62, 63], (deps_places_b2J)⟩
theorem deps_places_b2_eq : ∀ x, evBlk Try.prog tb deps_placesG [deps_places_b3C] (codeAt 43 Try.f33) (deps_places_b2C).ins (deps_places_b2C).outs x = (deps_places_b2C).J x := fun x => by kernel_rfl
theorem deps_places_b2_k : cutB Try.f33.ntmps (deps_places_b2C) (codeAt 43 Try.f33) = true := by kernel_rfl
theorem deps_places_b2_in : cutsOf ([deps_places_b3C] : List (CutSpec tb)) (codeAt 43 Try.f33) = [(83, codeAt 83 Try.f33)] := by kernel_rfl
theorem deps_places_b2_cut : CutSound Try.prog tb Try.f33.ntmps (codeAt 43 Try.f33) (deps_places_b2C) := blk_ev mixed deps_places_b2_k deps_placesG_ok rfl deps_places_b2_in (.cons rfl deps_places_b3_cut rfl .nil) deps_places_b2_eq
def deps_places_l1F (back : Int × Cell × List (Place) × List Expr × Int × Int → Option (List (Place))) (x : Int × Cell × List (Place) × List Expr × Int × Int) : Option (List (Place)) :=
  brn (decide (x.2.2.2.2.snd < x.2.2.2.2.fst))
    (obnd (deps_places_b2J (x.fst, x.2.fst, x.2.2.fst, x.2.2.2.fst, x.2.2.2.2.snd)) fun y =>
      back (x.fst, x.2.fst, y, x.2.2.2.fst, x.2.2.2.2.fst, IntKind.i64.wrap (x.2.2.2.2.snd + 1)))
    (some x.2.2.1)
def deps_places_l1J : Int × Cell × List (Place) × List Expr × Int × Int → Option (List (Place)) := iter deps_places_l1F big
def deps_places_l1C : CutSpec tb := ⟨36, [(1, .val 3), (5, .ro 40), (7, .own 42), (13, .val 31), (14, .val 3), (15, .val 3)], [((.exit 0), [(7, .own 42)])], [16, 17, 18, 9, 19, 10, 20, 21, 22, 23, 24, 25, 26, 27, 28, 29, 30, 31, 33, 32, 34, 35, 36, 37, 38, 39, 40, 41, 42, 43, 44, 7, 46, 45, 47, 48, 49, 50, 51, 52, 53, 54, 55, 56, 12, 57, 58, 59, 60, 61, 62, 63, 64, 15], deps_places_l1J⟩
theorem deps_places_l1_eq : ∀ back x, evLoop Try.prog tb deps_placesG [deps_places_b2C] (loopAt 36 Try.f33) (deps_places_l1C).ins (deps_places_l1C).outs back x = deps_places_l1F back x := fun back x => by kernel_rfl
theorem deps_places_l1_k : cutB Try.f33.ntmps (deps_places_l1C) (loopAt 36 Try.f33) = true := by kernel_rfl
theorem deps_places_l1_in : cutsOf ([deps_places_b2C] : List (CutSpec tb)) (loopAt 36 Try.f33) = [(43, codeAt 43 Try.f33)] := by kernel_rfl
theorem deps_places_l1_cut : CutSound Try.prog tb Try.f33.ntmps (.loop (loopAt 36 Try.f33)) (deps_places_l1C) := loop_it mixed deps_places_l1_k deps_placesG_ok rfl deps_places_l1_in (.cons rfl deps_places_b2_cut rfl .nil) deps_places_l1F deps_places_l1_eq rfl
def deps_placesF (x : List Expr × Int × Cell) : Option (List (Place)) :=
  obnd (deps_places_l1J (x.2.fst, x.2.snd, [], x.fst, (↑x.fst.length : Int), 0)) fun y => some y
def deps_placesS : FSpec tb := ⟨[(0, .val 31), (1, .val 3), (2, .val 40)], [(0, .own 42)], deps_placesF⟩
theorem deps_places_eq : ∀ x, evFn Try.prog tb deps_placesG [deps_places_l1C] Try.f33 deps_placesS.ins deps_placesS.outs x = deps_placesS.f x := fun x => by kernel_rfl
theorem deps_places_k : fnK Try.f33 deps_placesS.ins deps_placesS.outs = true := by kernel_rfl
theorem deps_places_in : cutsOf ([deps_places_l1C] : List (CutSpec tb)) (bodyOf Try.f33) = [(36, .loop (loopAt 36 Try.f33))] := by kernel_rfl
theorem deps_places_sound : FnSound Try.prog tb 33 deps_placesS := fn_cut mixed Try.func33 deps_places_k deps_placesG_ok rfl deps_places_in (.cons rfl deps_places_l1_cut rfl .nil) deps_places_eq

/-! ### bits_Len32 -/
def bits_Len32F (x : Int) : Option (Int) :=
  brn (decide (65536 ≤ x))
    (brn (decide (256 ≤ x.fdiv 65536))
      (obnd
        (idx
          (U8s
            [0, 1, 2, 2, 3, 3, 3, 3, 4, 4, 4, 4, 4, 4, 4, 4, 5, 5, 5, 5, 5, 5, 5, 5, 5, 5, 5, 5, 5, 5, 5, 5, 6, 6, 6, 6, 6, 6, 6, 6, 6, 6, 6, 6, 6, 6, 6, 6, 6, 6, 6, 6, 6, 6, 6, 6,
              6, 6, 6, 6, 6, 6, 6, 6, 7, 7, 7, 7, 7, 7, 7, 7, 7, 7, 7, 7, 7, 7, 7, 7, 7, 7, 7, 7, 7, 7, 7, 7, 7, 7, 7, 7, 7, 7, 7, 7, 7, 7, 7, 7, 7, 7, 7, 7, 7, 7, 7, 7, 7, 7, 7, 7,
              7, 7, 7, 7, 7, 7, 7, 7, 7, 7, 7, 7, 7, 7, 7, 7, 8, 8, 8, 8, 8, 8, 8, 8, 8, 8, 8, 8, 8, 8, 8, 8, 8, 8, 8, 8, 8, 8, 8, 8, 8, 8, 8, 8, 8, 8, 8, 8, 8, 8, 8, 8, 8, 8, 8, 8,
              8, 8, 8, 8, 8, 8, 8, 8, 8, 8, 8, 8, 8, 8, 8, 8, 8, 8, 8, 8, 8, 8, 8, 8, 8, 8, 8, 8, 8, 8, 8, 8, 8, 8, 8, 8, 8, 8, 8, 8, 8, 8, 8, 8, 8, 8, 8, 8, 8, 8, 8, 8, 8, 8, 8, 8,
              8, 8, 8, 8, 8, 8, 8, 8, 8, 8, 8, 8, 8, 8, 8, 8, 8, 8, 8, 8, 8, 8, 8, 8, 8, 8, 8, 8, 8, 8, 8, 8])
          (IntKind.u8.wrap ((x.fdiv 65536).fdiv 256)))
        fun y => some (IntKind.i64.wrap (24 + IntKind.i64.wrap (↑y.toNat : Int))))
      (obnd
        (idx
          (U8s
            [0, 1, 2, 2, 3, 3, 3, 3, 4, 4, 4, 4, 4, 4, 4, 4, 5, 5, 5, 5, 5, 5, 5, 5, 5, 5, 5, 5, 5, 5, 5, 5, 6, 6, 6, 6, 6, 6, 6, 6, 6, 6, 6, 6, 6, 6, 6, 6, 6, 6, 6, 6, 6, 6, 6, 6,
              6, 6, 6, 6, 6, 6, 6, 6, 7, 7, 7, 7, 7, 7, 7, 7, 7, 7, 7, 7, 7, 7, 7, 7, 7, 7, 7, 7, 7, 7, 7, 7, 7, 7, 7, 7, 7, 7, 7, 7, 7, 7, 7, 7, 7, 7, 7, 7, 7, 7, 7, 7, 7, 7, 7, 7,
              7, 7, 7, 7, 7, 7, 7, 7, 7, 7, 7, 7, 7, 7, 7, 7, 8, 8, 8, 8, 8, 8, 8, 8, 8, 8, 8, 8, 8, 8, 8, 8, 8, 8, 8, 8, 8, 8, 8, 8, 8, 8, 8, 8, 8, 8, 8, 8, 8, 8, 8, 8, 8, 8, 8, 8,
              8, 8, 8, 8, 8, 8, 8, 8, 8, 8, 8, 8, 8, 8, 8, 8, 8, 8, 8, 8, 8, 8, 8, 8, 8, 8, 8, 8, 8, 8, 8, 8, 8, 8, 8, 8, 8, 8, 8, 8, 8, 8, 8, 8, 8, 8, 8, 8, 8, 8, 8, 8, 8, 8, 8, 8,
              8, 8, 8, 8, 8, 8, 8, 8, 8, 8, 8, 8, 8, 8, 8, 8, 8, 8, 8, 8, 8, 8, 8, 8, 8, 8, 8, 8, 8, 8, 8, 8])
          (IntKind.u8.wrap (x.fdiv 65536)))
        fun y => some (IntKind.i64.wrap (16 + IntKind.i64.wrap (↑y.toNat : Int)))))
    (brn (decide (256 ≤ x))
      (obnd
        (idx
          (U8s
            [0, 1, 2, 2, 3, 3, 3, 3, 4, 4, 4, 4, 4, 4, 4, 4, 5, 5, 5, 5, 5, 5, 5, 5, 5, 5, 5, 5, 5, 5, 5, 5, 6, 6, 6, 6, 6, 6, 6, 6, 6, 6, 6, 6, 6, 6, 6, 6, 6, 6, 6, 6, 6, 6, 6, 6,
              6, 6, 6, 6, 6, 6, 6, 6, 7, 7, 7, 7, 7, 7, 7, 7, 7, 7, 7, 7, 7, 7, 7, 7, 7, 7, 7, 7, 7, 7, 7, 7, 7, 7, 7, 7, 7, 7, 7, 7, 7, 7, 7, 7, 7, 7, 7, 7, 7, 7, 7, 7, 7, 7, 7, 7,
              7, 7, 7, 7, 7, 7, 7, 7, 7, 7, 7, 7, 7, 7, 7, 7, 8, 8, 8, 8, 8, 8, 8, 8, 8, 8, 8, 8, 8, 8, 8, 8, 8, 8, 8, 8, 8, 8, 8, 8, 8, 8, 8, 8, 8, 8, 8, 8, 8, 8, 8, 8, 8, 8, 8, 8,
              8, 8, 8, 8, 8, 8, 8, 8, 8, 8, 8, 8, 8, 8, 8, 8, 8, 8, 8, 8, 8, 8, 8, 8, 8, 8, 8, 8, 8, 8, 8, 8, 8, 8, 8, 8, 8, 8, 8, 8, 8, 8, 8, 8, 8, 8, 8, 8, 8, 8, 8, 8, 8, 8, 8, 8,
              8, 8, 8, 8, 8, 8, 8, 8, 8, 8, 8, 8, 8, 8, 8, 8, 8, 8, 8, 8, 8, 8, 8, 8, 8, 8, 8, 8, 8, 8, 8, 8])
          (IntKind.u8.wrap (x.fdiv 256)))
        fun y => some (IntKind.i64.wrap (8 + IntKind.i64.wrap (↑y.toNat : Int))))
      (obnd
        (idx
          (U8s
            [0, 1, 2, 2, 3, 3, 3, 3, 4, 4, 4, 4, 4, 4, 4, 4, 5, 5, 5, 5, 5, 5, 5, 5, 5, 5, 5, 5, 5, 5, 5, 5, 6, 6, 6, 6, 6, 6, 6, 6, 6, 6, 6, 6, 6, 6, 6, 6, 6, 6, 6, 6, 6, 6, 6, 6,
              6, 6, 6, 6, 6, 6, 6, 6, 7, 7, 7, 7, 7, 7, 7, 7, 7, 7, 7, 7, 7, 7, 7, 7, 7, 7, 7, 7, 7, 7, 7, 7, 7, 7, 7, 7, 7, 7, 7, 7, 7, 7, 7, 7, 7, 7, 7, 7, 7, 7, 7, 7, 7, 7, 7, 7,
              7, 7, 7, 7, 7, 7, 7, 7, 7, 7, 7, 7, 7, 7, 7, 7, 8, 8, 8, 8, 8, 8, 8, 8, 8, 8, 8, 8, 8, 8, 8, 8, 8, 8, 8, 8, 8, 8, 8, 8, 8, 8, 8, 8, 8, 8, 8, 8, 8, 8, 8, 8, 8, 8, 8, 8,
              8, 8, 8, 8, 8, 8, 8, 8, 8, 8, 8, 8, 8, 8, 8, 8, 8, 8, 8, 8, 8, 8, 8, 8, 8, 8, 8, 8, 8, 8, 8, 8, 8, 8, 8, 8, 8, 8, 8, 8, 8, 8, 8, 8, 8, 8, 8, 8, 8, 8, 8, 8, 8, 8, 8, 8,
              8, 8, 8, 8, 8, 8, 8, 8, 8, 8, 8, 8, 8, 8, 8, 8, 8, 8, 8, 8, 8, 8, 8, 8, 8, 8, 8, 8, 8, 8, 8, 8])
          (IntKind.u8.wrap x))
        fun y => some (IntKind.i64.wrap (0 + IntKind.i64.wrap (↑y.toNat : Int)))))
def bits_Len32S : FSpec tb := ⟨[(0, .val 164)], [(0, .val 3)], bits_Len32F⟩
theorem bits_Len32_eq : ∀ x, evFn Try.prog tb [] [] Try.f83 bits_Len32S.ins bits_Len32S.outs x = bits_Len32S.f x := fun x => by kernel_rfl
theorem bits_Len32_k : fnK Try.f83 bits_Len32S.ins bits_Len32S.outs = true := by kernel_rfl
theorem bits_Len32_sound : FnSound Try.prog tb 83 bits_Len32S := fn_ev mixed Try.func83 bits_Len32_k .nil rfl bits_Len32_eq

/-! ### bits_Len64 -/
def bits_Len64F (x : Int) : Option (Int) :=
  brn (decide (4294967296 ≤ x))
    (brn (decide (65536 ≤ x.fdiv 4294967296))
      (brn (decide (256 ≤ (x.fdiv 4294967296).fdiv 65536))
        (obnd
          (idx
            (U8s
              [0, 1, 2, 2, 3, 3, 3, 3, 4, 4, 4, 4, 4, 4, 4, 4, 5, 5, 5, 5, 5, 5, 5, 5, 5, 5, 5, 5, 5, 5, 5, 5, 6, 6, 6, 6, 6, 6, 6, 6, 6, 6, 6, 6, 6, 6, 6, 6, 6, 6, 6, 6, 6, 6, 6, 6,
                6, 6, 6, 6, 6, 6, 6, 6, 7, 7, 7, 7, 7, 7, 7, 7, 7, 7, 7, 7, 7, 7, 7, 7, 7, 7, 7, 7, 7, 7, 7, 7, 7, 7, 7, 7, 7, 7, 7, 7, 7, 7, 7, 7, 7, 7, 7, 7, 7, 7, 7, 7, 7, 7, 7,
                7, 7, 7, 7, 7, 7, 7, 7, 7, 7, 7, 7, 7, 7, 7, 7, 7, 8, 8, 8, 8, 8, 8, 8, 8, 8, 8, 8, 8, 8, 8, 8, 8, 8, 8, 8, 8, 8, 8, 8, 8, 8, 8, 8, 8, 8, 8, 8, 8, 8, 8, 8, 8, 8, 8,
                8, 8, 8, 8, 8, 8, 8, 8, 8, 8, 8, 8, 8, 8, 8, 8, 8, 8, 8, 8, 8, 8, 8, 8, 8, 8, 8, 8, 8, 8, 8, 8, 8, 8, 8, 8, 8, 8, 8, 8, 8, 8, 8, 8, 8, 8, 8, 8, 8, 8, 8, 8, 8, 8, 8,
                8, 8, 8, 8, 8, 8, 8, 8, 8, 8, 8, 8, 8, 8, 8, 8, 8, 8, 8, 8, 8, 8, 8, 8, 8, 8, 8, 8, 8, 8, 8, 8, 8, 8, 8])
            (IntKind.u8.wrap (((x.fdiv 4294967296).fdiv 65536).fdiv 256)))
          fun y => some (IntKind.i64.wrap (56 + IntKind.i64.wrap (↑y.toNat : Int))))
        (obnd
          (idx
            (U8s
              [0, 1, 2, 2, 3, 3, 3, 3, 4, 4, 4, 4, 4, 4, 4, 4, 5, 5, 5, 5, 5, 5, 5, 5, 5, 5, 5, 5, 5, 5, 5, 5, 6, 6, 6, 6, 6, 6, 6, 6, 6, 6, 6, 6, 6, 6, 6, 6, 6, 6, 6, 6, 6, 6, 6, 6,
                6, 6, 6, 6, 6, 6, 6, 6, 7, 7, 7, 7, 7, 7, 7, 7, 7, 7, 7, 7, 7, 7, 7, 7, 7, 7, 7, 7, 7, 7, 7, 7, 7, 7, 7, 7, 7, 7, 7, 7, 7, 7, 7, 7, 7, 7, 7, 7, 7, 7, 7, 7, 7, 7, 7,
                7, 7, 7, 7, 7, 7, 7, 7, 7, 7, 7, 7, 7, 7, 7, 7, 7, 8, 8, 8, 8, 8, 8, 8, 8, 8, 8, 8, 8, 8, 8, 8, 8, 8, 8, 8, 8, 8, 8, 8, 8, 8, 8, 8, 8, 8, 8, 8, 8, 8, 8, 8, 8, 8, 8,
                8, 8, 8, 8, 8, 8, 8, 8, 8, 8, 8, 8, 8, 8, 8, 8, 8, 8, 8, 8, 8, 8, 8, 8, 8, 8, 8, 8, 8, 8, 8, 8, 8, 8, 8, 8, 8, 8, 8, 8, 8, 8, 8, 8, 8, 8, 8, 8, 8, 8, 8, 8, 8, 8, 8,
                8, 8, 8, 8, 8, 8, 8, 8, 8, 8, 8, 8, 8, 8, 8, 8, 8, 8, 8, 8, 8, 8, 8, 8, 8, 8, 8, 8, 8, 8, 8, 8, 8, 8, 8])
            (IntKind.u8.wrap ((x.fdiv 4294967296).fdiv 65536)))
          fun y => some (IntKind.i64.wrap (48 + IntKind.i64.wrap (↑y.toNat : Int)))))
      (brn (decide (256 ≤ x.fdiv 4294967296))
        (obnd
          (idx
            (U8s
              [0, 1, 2, 2, 3, 3, 3, 3, 4, 4, 4, 4, 4, 4, 4, 4, 5, 5, 5, 5, 5, 5, 5, 5, 5, 5, 5, 5, 5, 5, 5, 5, 6, 6, 6, 6, 6, 6, 6, 6, 6, 6, 6, 6, 6, 6, 6, 6, 6, 6, 6, 6, 6, 6, 6, 6,
                6, 6, 6, 6, 6, 6, 6, 6, 7, 7, 7, 7, 7, 7, 7, 7, 7, 7, 7, 7, 7, 7, 7, 7, 7, 7, 7, 7, 7, 7, 7, 7, 7, 7, 7, 7, 7, 7, 7, 7, 7, 7, 7, 7, 7, 7, 7, 7, 7, 7, 7, 7, 7, 7, 7,
                7, 7, 7, 7, 7, 7, 7, 7, 7, 7, 7, 7, 7, 7, 7, 7, 7, 8, 8, 8, 8, 8, 8, 8, 8, 8, 8, 8, 8, 8, 8, 8, 8, 8, 8, 8, 8, 8, 8, 8, 8, 8, 8, 8, 8, 8, 8, 8, 8, 8, 8, 8, 8, 8, 8,
                8, 8, 8, 8, 8, 8, 8, 8, 8, 8, 8, 8, 8, 8, 8, 8, 8, 8, 8, 8, 8, 8, 8, 8, 8, 8, 8, 8, 8, 8, 8, 8, 8, 8, 8, 8, 8, 8, 8, 8, 8, 8, 8, 8, 8, 8, 8, 8, 8, 8, 8, 8, 8, 8, 8,
                8, 8, 8, 8, 8, 8, 8, 8, 8, 8, 8, 8, 8, 8, 8, 8, 8, 8, 8, 8, 8, 8, 8, 8, 8, 8, 8, 8, 8, 8, 8, 8, 8, 8, 8])
            (IntKind.u8.wrap ((x.fdiv 4294967296).fdiv 256)))
          fun y => some (IntKind.i64.wrap (40 + IntKind.i64.wrap (↑y.toNat : Int))))
        (obnd
          (idx
            (U8s
              [0, 1, 2, 2, 3, 3, 3, 3, 4, 4, 4, 4, 4, 4, 4, 4, 5, 5, 5, 5, 5, 5, 5, 5, 5, 5, 5, 5, 5, 5, 5, 5, 6, 6, 6, 6, 6, 6, 6, 6, 6, 6, 6, 6, 6, 6, 6, 6, 6, 6, 6, 6, 6, 6, 6, 6,
                6, 6, 6, 6, 6, 6, 6, 6, 7, 7, 7, 7, 7, 7, 7, 7, 7, 7, 7, 7, 7, 7, 7, 7, 7, 7, 7, 7, 7, 7, 7, 7, 7, 7, 7, 7, 7, 7, 7, 7, 7, 7, 7, 7, 7, 7, 7, 7, 7, 7, 7, 7, 7, 7, 7,
                7, 7, 7, 7, 7, 7, 7, 7, 7, 7, 7, 7, 7, 7, 7, 7, 7, 8, 8, 8, 8, 8, 8, 8, 8, 8, 8, 8, 8, 8, 8, 8, 8, 8, 8, 8, 8, 8, 8, 8, 8, 8, 8, 8, 8, 8, 8, 8, 8, 8, 8, 8, 8, 8, 8,
                8, 8, 8, 8, 8, 8, 8, 8, 8, 8, 8, 8, 8, 8, 8, 8, 8, 8, 8, 8, 8, 8, 8, 8, 8, 8, 8, 8, 8, 8, 8, 8, 8, 8, 8, 8, 8, 8, 8, 8, 8, 8, 8, 8, 8, 8, 8, 8, 8, 8, 8, 8, 8, 8, 8,
                8, 8, 8, 8, 8, 8, 8, 8, 8, 8, 8, 8, 8, 8, 8, 8, 8, 8, 8, 8, 8, 8, 8, 8, 8, 8, 8, 8, 8, 8, 8, 8, 8, 8, 8])
            (IntKind.u8.wrap (x.fdiv 4294967296)))
          fun y => some (IntKind.i64.wrap (32 + IntKind.i64.wrap (↑y.toNat : Int))))))
    (brn (decide (65536 ≤ x))
      (brn (decide (256 ≤ x.fdiv 65536))
        (obnd
          (idx
            (U8s
              [0, 1, 2, 2, 3, 3, 3, 3, 4, 4, 4, 4, 4, 4, 4, 4, 5, 5, 5, 5, 5, 5, 5, 5, 5, 5, 5, 5, 5, 5, 5, 5, 6, 6, 6, 6, 6, 6, 6, 6, 6, 6, 6, 6, 6, 6, 6, 6, 6, 6, 6, 6, 6, 6, 6, 6,
                6, 6, 6, 6, 6, 6, 6, 6, 7, 7, 7, 7, 7, 7, 7, 7, 7, 7, 7, 7, 7, 7, 7, 7, 7, 7, 7, 7, 7, 7, 7, 7, 7, 7, 7, 7, 7, 7, 7, 7, 7, 7, 7, 7, 7, 7, 7, 7, 7, 7, 7, 7, 7, 7, 7,
                7, 7, 7, 7, 7, 7, 7, 7, 7, 7, 7, 7, 7, 7, 7, 7, 7, 8, 8, 8, 8, 8, 8, 8, 8, 8, 8, 8, 8, 8, 8, 8, 8, 8, 8, 8, 8, 8, 8, 8, 8, 8, 8, 8, 8, 8, 8, 8, 8, 8, 8, 8, 8, 8, 8,
                8, 8, 8, 8, 8, 8, 8, 8, 8, 8, 8, 8, 8, 8, 8, 8, 8, 8, 8, 8, 8, 8, 8, 8, 8, 8, 8, 8, 8, 8, 8, 8, 8, 8, 8, 8, 8, 8, 8, 8, 8, 8, 8, 8, 8, 8, 8, 8, 8, 8, 8, 8, 8, 8, 8,
                8, 8, 8, 8, 8, 8, 8, 8, 8, 8, 8, 8, 8, 8, 8, 8, 8, 8, 8, 8, 8, 8, 8, 8, 8, 8, 8, 8, 8, 8, 8, 8, 8, 8, 8])
            (IntKind.u8.wrap ((x.fdiv 65536).fdiv 256)))
          fun y => some (IntKind.i64.wrap (24 + IntKind.i64.wrap (↑y.toNat : Int))))
        (obnd
          (idx
            (U8s
              [0, 1, 2, 2, 3, 3, 3, 3, 4, 4, 4, 4, 4, 4, 4, 4, 5, 5, 5, 5, 5, 5, 5, 5, 5, 5, 5, 5, 5, 5, 5, 5, 6, 6, 6, 6, 6, 6, 6, 6, 6, 6, 6, 6, 6, 6, 6, 6, 6, 6, 6, 6, 6, 6, 6, 6,
                6, 6, 6, 6, 6, 6, 6, 6, 7, 7, 7, 7, 7, 7, 7, 7, 7, 7, 7, 7, 7, 7, 7, 7, 7, 7, 7, 7, 7, 7, 7, 7, 7, 7, 7, 7, 7, 7, 7, 7, 7, 7, 7, 7, 7, 7, 7, 7, 7, 7, 7, 7, 7, 7, 7,
                7, 7, 7, 7, 7, 7, 7, 7, 7, 7, 7, 7, 7, 7, 7, 7, 7, 8, 8, 8, 8, 8, 8, 8, 8, 8, 8, 8, 8, 8, 8, 8, 8, 8, 8, 8, 8, 8, 8, 8, 8, 8, 8, 8, 8, 8, 8, 8, 8, 8, 8, 8, 8, 8, 8,
                8, 8, 8, 8, 8, 8, 8, 8, 8, 8, 8, 8, 8, 8, 8, 8, 8, 8, 8, 8, 8, 8, 8, 8, 8, 8, 8, 8, 8, 8, 8, 8, 8, 8, 8, 8, 8, 8, 8, 8, 8, 8, 8, 8, 8, 8, 8, 8, 8, 8, 8, 8, 8, 8, 8,
                8, 8, 8, 8, 8, 8, 8, 8, 8, 8, 8, 8, 8, 8, 8, 8, 8, 8, 8, 8, 8, 8, 8, 8, 8, 8, 8, 8, 8, 8, 8, 8, 8, 8, 8])
            (IntKind.u8.wrap (x.fdiv 65536)))
          fun y => some (IntKind.i64.wrap (16 + IntKind.i64.wrap (↑y.toNat : Int)))))
      (brn (decide (256 ≤ x))
        (obnd
          (idx
            (U8s
              [0, 1, 2, 2, 3, 3, 3, 3, 4, 4, 4, 4, 4, 4, 4, 4, 5, 5, 5, 5, 5, 5, 5, 5, 5, 5, 5, 5, 5, 5, 5, 5, 6, 6, 6, 6, 6, 6, 6, 6, 6, 6, 6, 6, 6, 6, 6, 6, 6, 6, 6, 6, 6, 6, 6, 6,
                6, 6, 6, 6, 6, 6, 6, 6, 7, 7, 7, 7, 7, 7, 7, 7, 7, 7, 7, 7, 7, 7, 7, 7, 7, 7, 7, 7, 7, 7, 7, 7, 7, 7, 7, 7, 7, 7, 7, 7, 7, 7, 7, 7, 7, 7, 7, 7, 7, 7, 7, 7, 7, 7, 7,
                7, 7, 7, 7, 7, 7, 7, 7, 7, 7, 7, 7, 7, 7, 7, 7, 7, 8, 8, 8, 8, 8, 8, 8, 8, 8, 8, 8, 8, 8, 8, 8, 8, 8, 8, 8, 8, 8, 8, 8, 8, 8, 8, 8, 8, 8, 8, 8, 8, 8, 8, 8, 8, 8, 8,
                8, 8, 8, 8, 8, 8, 8, 8, 8, 8, 8, 8, 8, 8, 8, 8, 8, 8, 8, 8, 8, 8, 8, 8, 8, 8, 8, 8, 8, 8, 8, 8, 8, 8, 8, 8, 8, 8, 8, 8, 8, 8, 8, 8, 8, 8, 8, 8, 8, 8, 8, 8, 8, 8, 8,
                8, 8, 8, 8, 8, 8, 8, 8, 8, 8, 8, 8, 8, 8, 8, 8, 8, 8, 8, 8, 8, 8, 8, 8, 8, 8, 8, 8, 8, 8, 8, 8, 8, 8, 8])
            (IntKind.u8.wrap (x.fdiv 256)))
          fun y => some (IntKind.i64.wrap (8 + IntKind.i64.wrap (↑y.toNat : Int))))
        (obnd
          (idx
            (U8s
              [0, 1, 2, 2, 3, 3, 3, 3, 4, 4, 4, 4, 4, 4, 4, 4, 5, 5, 5, 5, 5, 5, 5, 5, 5, 5, 5, 5, 5, 5, 5, 5, 6, 6, 6, 6, 6, 6, 6, 6, 6, 6, 6, 6, 6, 6, 6, 6, 6, 6, 6, 6, 6, 6, 6, 6,
                6, 6, 6, 6, 6, 6, 6, 6, 7, 7, 7, 7, 7, 7, 7, 7, 7, 7, 7, 7, 7, 7, 7, 7, 7, 7, 7, 7, 7, 7, 7, 7, 7, 7, 7, 7, 7, 7, 7, 7, 7, 7, 7, 7, 7, 7, 7, 7, 7, 7, 7, 7, 7, 7, 7,
                7, 7, 7, 7, 7, 7, 7, 7, 7, 7, 7, 7, 7, 7, 7, 7, 7, 8, 8, 8, 8, 8, 8, 8, 8, 8, 8, 8, 8, 8, 8, 8, 8, 8, 8, 8, 8, 8, 8, 8, 8, 8, 8, 8, 8, 8, 8, 8, 8, 8, 8, 8, 8, 8, 8,
                8, 8, 8, 8, 8, 8, 8, 8, 8, 8, 8, 8, 8, 8, 8, 8, 8, 8, 8, 8, 8, 8, 8, 8, 8, 8, 8, 8, 8, 8, 8, 8, 8, 8, 8, 8, 8, 8, 8, 8, 8, 8, 8, 8, 8, 8, 8, 8, 8, 8, 8, 8, 8, 8, 8,
                8, 8, 8, 8, 8, 8, 8, 8, 8, 8, 8, 8, 8, 8, 8, 8, 8, 8, 8, 8, 8, 8, 8, 8, 8, 8, 8, 8, 8, 8, 8, 8, 8, 8, 8])
            (IntKind.u8.wrap x))
          fun y => some (IntKind.i64.wrap (0 + IntKind.i64.wrap (↑y.toNat : Int))))))
def bits_Len64S : FSpec tb := ⟨[(0, .val 106)], [(0, .val 3)], bits_Len64F⟩
theorem bits_Len64_eq : ∀ x, evFn Try.prog tb [] [] Try.f84 bits_Len64S.ins bits_Len64S.outs x = bits_Len64S.f x := fun x => by kernel_rfl
theorem bits_Len64_k : fnK Try.f84 bits_Len64S.ins bits_Len64S.outs = true := by kernel_rfl
theorem bits_Len64_sound : FnSound Try.prog tb 84 bits_Len64S := fn_ev mixed Try.func84 bits_Len64_k .nil rfl bits_Len64_eq

/-! ### bits_Len -/
def bits_LenF (x : Int) : Option (Int) :=
  obnd (bits_Len64F x) fun y => some y
def bits_LenS : FSpec tb := ⟨[(0, .val 103)], [(0, .val 3)], bits_LenF⟩
theorem bits_Len_eq : ∀ x, evFn Try.prog tb [(83, bits_Len32S), (84, bits_Len64S)] [] Try.f59 bits_LenS.ins bits_LenS.outs x = bits_LenS.f x := fun x => by kernel_rfl
theorem bits_Len_k : fnK Try.f59 bits_LenS.ins bits_LenS.outs = true := by kernel_rfl
theorem bits_Len_sound : FnSound Try.prog tb 59 bits_LenS := fn_ev mixed Try.func59 bits_Len_k (.cons bits_Len32_sound (.cons bits_Len64_sound .nil)) rfl bits_Len_eq

/-! ### cmp_isNaN_int -/
def cmp_isNaN_intF (x : Int) : Option (Bool) :=
  some (bif decide (x = x) then false else true)
def cmp_isNaN_intS : FSpec tb := ⟨[(0, .val 3)], [(0, .val 4)], cmp_isNaN_intF⟩
theorem cmp_isNaN_int_eq : ∀ x, evFn Try.prog tb [] [] Try.f96 cmp_isNaN_intS.ins cmp_isNaN_intS.outs x = cmp_isNaN_intS.f x := fun x => by kernel_rfl
theorem cmp_isNaN_int_k : fnK Try.f96 cmp_isNaN_intS.ins cmp_isNaN_intS.outs = true := by kernel_rfl
theorem cmp_isNaN_int_sound : FnSound Try.prog tb 96 cmp_isNaN_intS := fn_ev mixed Try.func96 cmp_isNaN_int_k .nil rfl cmp_isNaN_int_eq

/-! ### cmp_Compare_int -/
def cmp_Compare_intF (x : Int × Int) : Option (Int) :=
  obnd (cmp_isNaN_intF x.fst) fun y =>
    obnd (cmp_isNaN_intF x.snd) fun y_1 =>
      brn y (brn y_1 (some 0) (some (-1))) (brn y_1 (some 1) (brn (decide (x.fst < x.snd)) (some (-1)) (brn (decide (x.snd < x.fst)) (some 1) (some 0))))
def cmp_Compare_intS : FSpec tb := ⟨[(0, .val 3), (1, .val 3)], [(0, .val 3)], cmp_Compare_intF⟩
theorem cmp_Compare_int_eq : ∀ x, evFn Try.prog tb [(96, cmp_isNaN_intS)] [] Try.f94 cmp_Compare_intS.ins cmp_Compare_intS.outs x = cmp_Compare_intS.f x := fun x => by kernel_rfl
theorem cmp_Compare_int_k : fnK Try.f94 cmp_Compare_intS.ins cmp_Compare_intS.outs = true := by kernel_rfl
theorem cmp_Compare_int_sound : FnSound Try.prog tb 94 cmp_Compare_intS := fn_ev mixed Try.func94 cmp_Compare_int_k (.cons cmp_isNaN_int_sound .nil) rfl cmp_Compare_int_eq

/-! ### cmp_Or_int -/
def cmp_Or_int_l1F (back : Int × List Int × Int × Int → Option ((Unit) ⊕ (Int))) (x : Int × List Int × Int × Int) : Option ((Unit) ⊕ (Int)) :=
  brn (decide (x.2.2.snd < x.2.2.fst))
    (obnd (idx x.2.fst x.2.2.snd) fun y => brn (!decide (y = x.fst)) (some (Sum.inr y)) (back (x.fst, x.2.fst, x.2.2.fst, IntKind.i64.wrap (x.2.2.snd + 1))))
    (some (Sum.inl PUnit.unit))
def cmp_Or_int_l1J : Int × List Int × Int × Int → Option ((Unit) ⊕ (Int)) := iter cmp_Or_int_l1F big
def cmp_Or_int_l1C : CutSpec tb := ⟨36, [(3, .val 3), (6, .val 55), (7, .val 3), (8, .val 3)], [((.exit 0), []), (.ret, [(2, .val 3)])], [9, 10, 11, 5, 12, 13, 14, 15, 2, 16, 8], cmp_Or_int_l1J⟩
theorem cmp_Or_int_l1_eq : ∀ back x, evLoop Try.prog tb [] [] (loopAt 36 Try.f93) (cmp_Or_int_l1C).ins (cmp_Or_int_l1C).outs back x = cmp_Or_int_l1F back x := fun back x => by kernel_rfl
theorem cmp_Or_int_l1_k : cutB Try.f93.ntmps (cmp_Or_int_l1C) (loopAt 36 Try.f93) = true := by kernel_rfl
theorem cmp_Or_int_l1_in : cutsOf ([] : List (CutSpec tb)) (loopAt 36 Try.f93) = [] := by kernel_rfl
theorem cmp_Or_int_l1_cut : CutSound Try.prog tb Try.f93.ntmps (.loop (loopAt 36 Try.f93)) (cmp_Or_int_l1C) := loop_it mixed cmp_Or_int_l1_k .nil rfl cmp_Or_int_l1_in .nil cmp_Or_int_l1F cmp_Or_int_l1_eq rfl
def cmp_Or_intF (x : List Int) : Option (Int) :=
  obnd (cmp_Or_int_l1J (0, x, (↑x.length : Int), 0)) fun y => osum y (fun y => some 0) fun y => some y
def cmp_Or_intS : FSpec tb := ⟨[(0, .val 55)], [(0, .val 3)], cmp_Or_intF⟩
theorem cmp_Or_int_eq : ∀ x, evFn Try.prog tb [] [cmp_Or_int_l1C] Try.f93 cmp_Or_intS.ins cmp_Or_intS.outs x = cmp_Or_intS.f x := fun x => by kernel_rfl
theorem cmp_Or_int_k : fnK Try.f93 cmp_Or_intS.ins cmp_Or_intS.outs = true := by kernel_rfl
theorem cmp_Or_int_in : cutsOf ([cmp_Or_int_l1C] : List (CutSpec tb)) (bodyOf Try.f93) = [(36, .loop (loopAt 36 Try.f93))] := by kernel_rfl
theorem cmp_Or_int_sound : FnSound Try.prog tb 93 cmp_Or_intS := fn_cut mixed Try.func93 cmp_Or_int_k .nil rfl cmp_Or_int_in (.cons rfl cmp_Or_int_l1_cut rfl .nil) cmp_Or_int_eq

/-! ### env_order -/
def env_orderF (x : Place × Place) : Option (Int) :=
  obnd (cmp_Compare_intF (x.fst.Sheet, x.snd.Sheet)) fun y =>
    obnd (cmp_Compare_intF (x.fst.At.Row, x.snd.At.Row)) fun y_1 => obnd (cmp_Compare_intF (x.fst.At.Col, x.snd.At.Col)) fun y_2 => obnd (cmp_Or_intF [y, y_1, y_2]) fun y => some y
def env_orderS : FSpec tb := ⟨[(0, .val 42), (1, .val 42)], [(0, .val 3)], env_orderF⟩
theorem env_order_eq : ∀ x, evFn Try.prog tb [(94, cmp_Compare_intS), (93, cmp_Or_intS)] [] Try.f85 env_orderS.ins env_orderS.outs x = env_orderS.f x := fun x => by kernel_rfl
theorem env_order_k : fnK Try.f85 env_orderS.ins env_orderS.outs = true := by kernel_rfl
theorem env_order_sound : FnSound Try.prog tb 85 env_orderS := fn_ev mixed Try.func85 env_order_k (.cons cmp_Compare_int_sound (.cons cmp_Or_int_sound .nil)) rfl env_order_eq

/-! ### env_Less -/
def env_LessF (x : Place × Place) : Option (Bool) :=
  obnd (env_orderF x) fun y => some (decide (y < 0))
def env_LessS : FSpec tb := ⟨[(0, .val 42), (1, .val 42)], [(0, .val 4)], env_LessF⟩
theorem env_Less_eq : ∀ x, evFn Try.prog tb [(85, env_orderS)] [] Try.f60 env_LessS.ins env_LessS.outs x = env_LessS.f x := fun x => by kernel_rfl
theorem env_Less_k : fnK Try.f60 env_LessS.ins env_LessS.outs = true := by kernel_rfl
theorem env_Less_sound : FnSound Try.prog tb 60 env_LessS := fn_ev mixed Try.func60 env_Less_k (.cons env_order_sound .nil) rfl env_Less_eq

/-! ### deps_order -/
def deps_orderF (x : Place × Place) : Option (Int) :=
  obnd (env_LessF x) fun y =>
    brn y (some (-1))
      (brn
        (bif false then !(decide (x.fst.Sheet = x.snd.Sheet) && (decide (x.fst.At.Row = x.snd.At.Row) && decide (x.fst.At.Col = x.snd.At.Col)))
        else decide (x.fst.Sheet = x.snd.Sheet) && (decide (x.fst.At.Row = x.snd.At.Row) && decide (x.fst.At.Col = x.snd.At.Col)))
        (some 0) (some 1))
def deps_orderS : FSpec tb := ⟨[(0, .val 42), (1, .val 42)], [(0, .val 3)], deps_orderF⟩
theorem deps_order_eq : ∀ x, evFn Try.prog tb [(60, env_LessS)] [] Try.f35 deps_orderS.ins deps_orderS.outs x = deps_orderS.f x := fun x => by kernel_rfl
theorem deps_order_k : fnK Try.f35 deps_orderS.ins deps_orderS.outs = true := by kernel_rfl
theorem deps_order_sound : FnSound Try.prog tb 35 deps_orderS := fn_ev mixed Try.func35 deps_order_k (.cons env_Less_sound .nil) rfl deps_order_eq

/-! ### slices_insertionSortCmpFunc_env_Place_deps_order -/
abbrev slices_insertionSortCmpFunc_env_Place_deps_orderG : List (Nat × FSpec tb) := [(35, deps_orderS)]
theorem slices_insertionSortCmpFunc_env_Place_deps_orderG_ok : AllSound Try.prog tb (slices_insertionSortCmpFunc_env_Place_deps_orderG) := (.cons deps_order_sound .nil)
def slices_insertionSortCmpFunc_env_Place_deps_order_l2F (back : List Place × Int × Unit × Int → Option (Unit)) (x : List Place × Int × Unit × Int) : Option (Unit) :=
  brn (decide (x.2.fst < x.2.2.snd))
    (obnd (idx x.fst x.2.2.snd) fun y =>
      obnd (idx x.fst (IntKind.i64.wrap (x.2.2.snd - 1))) fun y_1 =>
        obnd (deps_orderF (y, y_1)) fun y =>
          brn (decide (y < 0)) (obnd (idx x.fst (IntKind.i64.wrap (x.2.2.snd - 1))) fun y => obnd (idx x.fst x.2.2.snd) fun y => obnd (idx x.fst x.2.2.snd) fun y => none)
            (some PUnit.unit))
    (some PUnit.unit)
def slices_insertionSortCmpFunc_env_Place_deps_order_l2J : List Place × Int × Unit × Int → Option (Unit) := iter slices_insertionSortCmpFunc_env_Place_deps_order_l2F big
def slices_insertionSortCmpFunc_env_Place_deps_order_l2C : CutSpec tb := ⟨44, [(0, .val 37), (1, .val 3), (3, .fnp 35 0), (9, .val 3)], [((.exit 2), [])], [18, 19, 20, 21, 22, 23, 24, 25, 26, 27, 28, 29, 30, 31, 32, 33, 34, 37, 38, 39, 40, 41, 42, 43, 44, 45, 46, 47, 48, 49, 50, 51, 52, 35, 36, 9], slices_insertionSortCmpFunc_env_Place_deps_order_l2J⟩
theorem slices_insertionSortCmpFunc_env_Place_deps_order_l2_eq : ∀ back x, evLoop Try.prog tb slices_insertionSortCmpFunc_env_Place_deps_orderG [] (loopAt 44 Try.f75) (slices_insertionSortCmpFunc_env_Place_deps_order_l2C).ins (slices_insertionSortCmpFunc_env_Place_deps_order_l2C).outs back x = slices_insertionSortCmpFunc_env_Place_deps_order_l2F back x := fun back x => by kernel_rfl
theorem slices_insertionSortCmpFunc_env_Place_deps_order_l2_k : cutB Try.f75.ntmps (slices_insertionSortCmpFunc_env_Place_deps_order_l2C) (loopAt 44 Try.f75) = true := by kernel_rfl
theorem slices_insertionSortCmpFunc_env_Place_deps_order_l2_in : cutsOf ([] : List (CutSpec tb)) (loopAt 44 Try.f75) = [] := by kernel_rfl
theorem slices_insertionSortCmpFunc_env_Place_deps_order_l2_cut : CutSound Try.prog tb Try.f75.ntmps (.loop (loopAt 44 Try.f75)) (slices_insertionSortCmpFunc_env_Place_deps_order_l2C) := loop_it mixed slices_insertionSortCmpFunc_env_Place_deps_order_l2_k slices_insertionSortCmpFunc_env_Place_deps_orderG_ok rfl slices_insertionSortCmpFunc_env_Place_deps_order_l2_in .nil slices_insertionSortCmpFunc_env_Place_deps_order_l2F slices_insertionSortCmpFunc_env_Place_deps_order_l2_eq rfl
def slices_insertionSortCmpFunc_env_Place_deps_order_l1F (back : List Place × Int × Int × Unit × Int → Option (Unit)) (x : List Place × Int × Int × Unit × Int) : Option (Unit) :=
  brn (decide (x.2.2.2.snd < x.2.2.fst))
    (obnd (slices_insertionSortCmpFunc_env_Place_deps_order_l2J (x.fst, x.2.fst, (), x.2.2.2.snd)) fun y => back (x.fst, x.2.fst, x.2.2.fst, (), IntKind.i64.wrap (x.2.2.2.snd + 1)))
    (some PUnit.unit)
def slices_insertionSortCmpFunc_env_Place_deps_order_l1J : List Place × Int × Int × Unit × Int → Option (Unit) := iter slices_insertionSortCmpFunc_env_Place_deps_order_l1F big
def slices_insertionSortCmpFunc_env_Place_deps_order_l1C : CutSpec tb := ⟨20, [(0, .val 37), (1, .val 3), (2, .val 3), (3, .fnp 35 0), (8, .val 3)], [((.exit 0), [])], [12, 13, 14, 17, 9, 18, 19, 20, 21, 22, 23, 24, 25, 26, 27, 28, 29, 30, 31, 32, 33, 34, 37, 38, 39, 40, 41, 42, 43, 44, 45, 46, 47, 48, 49, 50, 51, 52, 35, 36, 15, 16, 8], slices_insertionSortCmpFunc_env_Place_deps_order_l1J⟩
theorem slices_insertionSortCmpFunc_env_Place_deps_order_l1_eq : ∀ back x, evLoop Try.prog tb slices_insertionSortCmpFunc_env_Place_deps_orderG [slices_insertionSortCmpFunc_env_Place_deps_order_l2C] (loopAt 20 Try.f75) (slices_insertionSortCmpFunc_env_Place_deps_order_l1C).ins (slices_insertionSortCmpFunc_env_Place_deps_order_l1C).outs back x = slices_insertionSortCmpFunc_env_Place_deps_order_l1F back x := fun back x => by kernel_rfl
theorem slices_insertionSortCmpFunc_env_Place_deps_order_l1_k : cutB Try.f75.ntmps (slices_insertionSortCmpFunc_env_Place_deps_order_l1C) (loopAt 20 Try.f75) = true := by kernel_rfl
theorem slices_insertionSortCmpFunc_env_Place_deps_order_l1_in : cutsOf ([slices_insertionSortCmpFunc_env_Place_deps_order_l2C] : List (CutSpec tb)) (loopAt 20 Try.f75) = [(44, .loop (loopAt 44 Try.f75))] := by kernel_rfl
theorem slices_insertionSortCmpFunc_env_Place_deps_order_l1_cut : CutSound Try.prog tb Try.f75.ntmps (.loop (loopAt 20 Try.f75)) (slices_insertionSortCmpFunc_env_Place_deps_order_l1C) := loop_it mixed slices_insertionSortCmpFunc_env_Place_deps_order_l1_k slices_insertionSortCmpFunc_env_Place_deps_orderG_ok rfl slices_insertionSortCmpFunc_env_Place_deps_order_l1_in (.cons rfl slices_insertionSortCmpFunc_env_Place_deps_order_l2_cut rfl .nil) slices_insertionSortCmpFunc_env_Place_deps_order_l1F slices_insertionSortCmpFunc_env_Place_deps_order_l1_eq rfl
def slices_insertionSortCmpFunc_env_Place_deps_orderF (x : List Place × Int × Int × Unit) : Option (Unit) :=
  obnd (slices_insertionSortCmpFunc_env_Place_deps_order_l1J (x.fst, x.2.fst, x.2.2.fst, (), IntKind.i64.wrap (x.2.fst + 1))) fun y => some PUnit.unit
def slices_insertionSortCmpFunc_env_Place_deps_orderS : FSpec tb := ⟨[(0, .val 37), (1, .val 3), (2, .val 3), (3, .fnp 35 0)], [], slices_insertionSortCmpFunc_env_Place_deps_orderF⟩
theorem slices_insertionSortCmpFunc_env_Place_deps_order_eq : ∀ x, evFn Try.prog tb slices_insertionSortCmpFunc_env_Place_deps_orderG [slices_insertionSortCmpFunc_env_Place_deps_order_l1C] Try.f75 slices_insertionSortCmpFunc_env_Place_deps_orderS.ins slices_insertionSortCmpFunc_env_Place_deps_orderS.outs x = slices_insertionSortCmpFunc_env_Place_deps_orderS.f x := fun x => by kernel_rfl
theorem slices_insertionSortCmpFunc_env_Place_deps_order_k : fnK Try.f75 slices_insertionSortCmpFunc_env_Place_deps_orderS.ins slices_insertionSortCmpFunc_env_Place_deps_orderS.outs = true := by kernel_rfl
theorem slices_insertionSortCmpFunc_env_Place_deps_order_in : cutsOf ([slices_insertionSortCmpFunc_env_Place_deps_order_l1C] : List (CutSpec tb)) (bodyOf Try.f75) = [(20, .loop (loopAt 20 Try.f75))] := by kernel_rfl
theorem slices_insertionSortCmpFunc_env_Place_deps_order_sound : FnSound Try.prog tb 75 slices_insertionSortCmpFunc_env_Place_deps_orderS := fn_cut mixed Try.func75 slices_insertionSortCmpFunc_env_Place_deps_order_k slices_insertionSortCmpFunc_env_Place_deps_orderG_ok rfl slices_insertionSortCmpFunc_env_Place_deps_order_in (.cons rfl slices_insertionSortCmpFunc_env_Place_deps_order_l1_cut rfl .nil) slices_insertionSortCmpFunc_env_Place_deps_order_eq

/-! ### slices_heapSortCmpFunc_env_Place_deps_order -/
def slices_heapSortCmpFunc_env_Place_deps_orderF (_ : List Place × Int × Int × Unit) : Option (Unit) := none
def slices_heapSortCmpFunc_env_Place_deps_orderS : FSpec tb := ⟨[(0, .val 37), (1, .val 3), (2, .val 3), (3, .fnp 35 0)], [], slices_heapSortCmpFunc_env_Place_deps_orderF⟩
theorem slices_heapSortCmpFunc_env_Place_deps_order_sound : FnSound Try.prog tb 76 slices_heapSortCmpFunc_env_Place_deps_orderS := stub_sound (enters_fn Try.func76 (by kernel_rfl))

/-! ### slices_breakPatternsCmpFunc_env_Place_deps_order -/
def slices_breakPatternsCmpFunc_env_Place_deps_orderF (_ : List Place × Int × Int × Unit) : Option (Unit) := none
def slices_breakPatternsCmpFunc_env_Place_deps_orderS : FSpec tb := ⟨[(0, .val 37), (1, .val 3), (2, .val 3), (3, .fnp 35 0)], [], slices_breakPatternsCmpFunc_env_Place_deps_orderF⟩
theorem slices_breakPatternsCmpFunc_env_Place_deps_order_sound : FnSound Try.prog tb 77 slices_breakPatternsCmpFunc_env_Place_deps_orderS := stub_sound (enters_fn Try.func77 (by kernel_rfl))

/-! ### slices_choosePivotCmpFunc_env_Place_deps_order -/
def slices_choosePivotCmpFunc_env_Place_deps_orderF (_ : List Place × Int × Int × Unit) : Option (Int × Int) := none
def slices_choosePivotCmpFunc_env_Place_deps_orderS : FSpec tb := ⟨[(0, .val 37), (1, .val 3), (2, .val 3), (3, .fnp 35 0)], [(0, .val 3), (1, .val 157)], slices_choosePivotCmpFunc_env_Place_deps_orderF⟩
theorem slices_choosePivotCmpFunc_env_Place_deps_order_sound : FnSound Try.prog tb 78 slices_choosePivotCmpFunc_env_Place_deps_orderS := stub_sound (enters_fn Try.func78 (by kernel_rfl))

/-! ### slices_reverseRangeCmpFunc_env_Place_deps_order -/
def slices_reverseRangeCmpFunc_env_Place_deps_orderF (_ : List Place × Int × Int × Unit) : Option (Unit) := none
def slices_reverseRangeCmpFunc_env_Place_deps_orderS : FSpec tb := ⟨[(0, .val 37), (1, .val 3), (2, .val 3), (3, .fnp 35 0)], [], slices_reverseRangeCmpFunc_env_Place_deps_orderF⟩
theorem slices_reverseRangeCmpFunc_env_Place_deps_order_sound : FnSound Try.prog tb 79 slices_reverseRangeCmpFunc_env_Place_deps_orderS := stub_sound (enters_fn Try.func79 (by kernel_rfl))

/-! ### slices_partialInsertionSortCmpFunc_env_Place_deps_order -/
def slices_partialInsertionSortCmpFunc_env_Place_deps_orderF (_ : List Place × Int × Int × Unit) : Option (Bool) := none
def slices_partialInsertionSortCmpFunc_env_Place_deps_orderS : FSpec tb := ⟨[(0, .val 37), (1, .val 3), (2, .val 3), (3, .fnp 35 0)], [(0, .val 4)], slices_partialInsertionSortCmpFunc_env_Place_deps_orderF⟩
theorem slices_partialInsertionSortCmpFunc_env_Place_deps_order_sound : FnSound Try.prog tb 80 slices_partialInsertionSortCmpFunc_env_Place_deps_orderS := stub_sound (enters_fn Try.func80 (by kernel_rfl))

/-! ### slices_partitionEqualCmpFunc_env_Place_deps_order -/
def slices_partitionEqualCmpFunc_env_Place_deps_orderF (_ : List Place × Int × Int × Int × Unit) : Option (Int) := none
def slices_partitionEqualCmpFunc_env_Place_deps_orderS : FSpec tb := ⟨[(0, .val 37), (1, .val 3), (2, .val 3), (3, .val 3), (4, .fnp 35 0)], [(0, .val 3)], slices_partitionEqualCmpFunc_env_Place_deps_orderF⟩
theorem slices_partitionEqualCmpFunc_env_Place_deps_order_sound : FnSound Try.prog tb 81 slices_partitionEqualCmpFunc_env_Place_deps_orderS := stub_sound (enters_fn Try.func81 (by kernel_rfl))

/-! ### slices_partitionCmpFunc_env_Place_deps_order -/
def slices_partitionCmpFunc_env_Place_deps_orderF (_ : List Place × Int × Int × Int × Unit) : Option (Int × Bool) := none
def slices_partitionCmpFunc_env_Place_deps_orderS : FSpec tb := ⟨[(0, .val 37), (1, .val 3), (2, .val 3), (3, .val 3), (4, .fnp 35 0)], [(0, .val 3), (1, .val 4)], slices_partitionCmpFunc_env_Place_deps_orderF⟩
theorem slices_partitionCmpFunc_env_Place_deps_order_sound : FnSound Try.prog tb 82 slices_partitionCmpFunc_env_Place_deps_orderS := stub_sound (enters_fn Try.func82 (by kernel_rfl))

/-! ### slices_pdqsortCmpFunc_env_Place_deps_order -/
def slices_pdqsortCmpFunc_env_Place_deps_orderT (self : List Place × Int × Int × Int × Unit → Option (Unit)) : FSpec tb := ⟨[(0, .val 37), (1, .val 3), (2, .val 3), (3, .val 3), (4, .fnp 35 0)], [], self⟩
abbrev slices_pdqsortCmpFunc_env_Place_deps_orderG (self : List Place × Int × Int × Int × Unit → Option (Unit)) : List (Nat × FSpec tb) := [(75, slices_insertionSortCmpFunc_env_Place_deps_orderS), (76, slices_heapSortCmpFunc_env_Place_deps_orderS), (77, slices_breakPatternsCmpFunc_env_Place_deps_orderS), (78, slices_choosePivotCmpFunc_env_Place_deps_orderS), (79, slices_reverseRangeCmpFunc_env_Place_deps_orderS), (80, slices_partialInsertionSortCmpFunc_env_Place_deps_orderS), (35, deps_orderS), (81, slices_partitionEqualCmpFunc_env_Place_deps_orderS), (82, slices_partitionCmpFunc_env_Place_deps_orderS), (58, (slices_pdqsortCmpFunc_env_Place_deps_orderT self))]
theorem slices_pdqsortCmpFunc_env_Place_deps_orderG_ok (self : List Place × Int × Int × Int × Unit → Option (Unit)) (hself : FnSound Try.prog tb 58 (slices_pdqsortCmpFunc_env_Place_deps_orderT self)) : AllSound Try.prog tb (slices_pdqsortCmpFunc_env_Place_deps_orderG self) := (.cons slices_insertionSortCmpFunc_env_Place_deps_order_sound (.cons slices_heapSortCmpFunc_env_Place_deps_order_sound (.cons slices_breakPatternsCmpFunc_env_Place_deps_order_sound (.cons slices_choosePivotCmpFunc_env_Place_deps_order_sound (.cons slices_reverseRangeCmpFunc_env_Place_deps_order_sound (.cons slices_partialInsertionSortCmpFunc_env_Place_deps_order_sound (.cons deps_order_sound (.cons slices_partitionEqualCmpFunc_env_Place_deps_order_sound (.cons slices_partitionCmpFunc_env_Place_deps_order_sound (.cons hself .nil))))))))))
def slices_pdqsortCmpFunc_env_Place_deps_order_l1F (self : List Place × Int × Int × Int × Unit → Option (Unit)) (back : List Place × Int × Int × Int × Unit × Bool × Bool → Option (Unit)) (x : List Place × Int × Int × Int × Unit × Bool × Bool) : Option (Unit) :=
  brn (decide (IntKind.i64.wrap (x.2.2.fst - x.2.fst) ≤ 12)) (obnd (slices_insertionSortCmpFunc_env_Place_deps_orderF (x.fst, x.2.fst, x.2.2.fst, ())) fun y => some PUnit.unit)
    (brn (decide (x.2.2.2.fst = 0)) none (brn (!x.2.2.2.2.2.fst) none none))
def slices_pdqsortCmpFunc_env_Place_deps_order_l1J (self : List Place × Int × Int × Int × Unit → Option (Unit)) : List Place × Int × Int × Int × Unit × Bool × Bool → Option (Unit) := iter (slices_pdqsortCmpFunc_env_Place_deps_order_l1F self) big
def slices_pdqsortCmpFunc_env_Place_deps_order_l1C (self : List Place × Int × Int × Int × Unit → Option (Unit)) : CutSpec tb := ⟨28, [(0, .val 37), (1, .val 3), (2, .val 3), (3, .val 3), (4, .fnp 35 0), (10, .val 4), (11, .val 4)], [(.ret, [])], [21, 22, 23, 12, 24, 25, 26, 27, 28, 29, 30, 31, 32, 33, 34, 35, 36, 37, 38, 39, 40, 41, 42, 43, 44, 45, 46, 3, 48, 49, 50, 51, 52, 47, 53, 54, 13, 14, 55, 56, 57, 58, 59, 60, 61, 62, 63, 64, 65, 66, 67, 68, 69, 70, 71, 72, 73, 74, 75, 76, 77, 78, 79, 80, 81, 82, 83, 84, 85, 86, 87, 88, 89, 90, 91, 92, 93, 94, 95, 96, 97, 98, 99, 100, 101, 102, 103, 15, 104, 1, 106, 107, 108, 109, 110, 111, 105, 112, 113, 16, 17, 114, 11, 115, 116, 117, 118, 119, 120, 18, 19, 121, 122, 20, 123, 124, 125, 126, 127, 128, 10, 129, 130, 131, 132, 133, 134, 135, 136, 137, 138, 139, 140, 141, 142, 143, 144, 145, 146, 147, 2], (slices_pdqsortCmpFunc_env_Place_deps_order_l1J self)⟩
theorem slices_pdqsortCmpFunc_env_Place_deps_order_l1_eq (self : List Place × Int × Int × Int × Unit → Option (Unit)) : ∀ back x, evLoop Try.prog tb (slices_pdqsortCmpFunc_env_Place_deps_orderG self) [] (loopAt 28 Try.f58) (slices_pdqsortCmpFunc_env_Place_deps_order_l1C self).ins (slices_pdqsortCmpFunc_env_Place_deps_order_l1C self).outs back x = slices_pdqsortCmpFunc_env_Place_deps_order_l1F self back x := fun back x => by kernel_rfl
theorem slices_pdqsortCmpFunc_env_Place_deps_order_l1_k (self : List Place × Int × Int × Int × Unit → Option (Unit)) : cutB Try.f58.ntmps (slices_pdqsortCmpFunc_env_Place_deps_order_l1C self) (loopAt 28 Try.f58) = true := by kernel_rfl
theorem slices_pdqsortCmpFunc_env_Place_deps_order_l1_in (self : List Place × Int × Int × Int × Unit → Option (Unit)) : cutsOf ([] : List (CutSpec tb)) (loopAt 28 Try.f58) = [] := by kernel_rfl
theorem slices_pdqsortCmpFunc_env_Place_deps_order_l1_cut (self : List Place × Int × Int × Int × Unit → Option (Unit)) (hself : FnSound Try.prog tb 58 (slices_pdqsortCmpFunc_env_Place_deps_orderT self)) : CutSound Try.prog tb Try.f58.ntmps (.loop (loopAt 28 Try.f58)) (slices_pdqsortCmpFunc_env_Place_deps_order_l1C self) := loop_it mixed (slices_pdqsortCmpFunc_env_Place_deps_order_l1_k self) (slices_pdqsortCmpFunc_env_Place_deps_orderG_ok self hself) rfl (slices_pdqsortCmpFunc_env_Place_deps_order_l1_in self) .nil (slices_pdqsortCmpFunc_env_Place_deps_order_l1F self) (slices_pdqsortCmpFunc_env_Place_deps_order_l1_eq self) rfl
def slices_pdqsortCmpFunc_env_Place_deps_orderR (self : List Place × Int × Int × Int × Unit → Option (Unit)) (x : List Place × Int × Int × Int × Unit) : Option (Unit) :=
  obnd ((slices_pdqsortCmpFunc_env_Place_deps_order_l1J self) (x.fst, x.2.fst, x.2.2.fst, x.2.2.2.fst, (), true, true)) fun y => some PUnit.unit
theorem slices_pdqsortCmpFunc_env_Place_deps_order_eq (self : List Place × Int × Int × Int × Unit → Option (Unit)) : ∀ x, evFn Try.prog tb (slices_pdqsortCmpFunc_env_Place_deps_orderG self) [(slices_pdqsortCmpFunc_env_Place_deps_order_l1C self)] Try.f58 (slices_pdqsortCmpFunc_env_Place_deps_orderT (slices_pdqsortCmpFunc_env_Place_deps_orderR self)).ins (slices_pdqsortCmpFunc_env_Place_deps_orderT (slices_pdqsortCmpFunc_env_Place_deps_orderR self)).outs x = (slices_pdqsortCmpFunc_env_Place_deps_orderT (slices_pdqsortCmpFunc_env_Place_deps_orderR self)).f x := fun x => by kernel_rfl
theorem slices_pdqsortCmpFunc_env_Place_deps_order_k (self : List Place × Int × Int × Int × Unit → Option (Unit)) : fnK Try.f58 (slices_pdqsortCmpFunc_env_Place_deps_orderT (slices_pdqsortCmpFunc_env_Place_deps_orderR self)).ins (slices_pdqsortCmpFunc_env_Place_deps_orderT (slices_pdqsortCmpFunc_env_Place_deps_orderR self)).outs = true := by kernel_rfl
theorem slices_pdqsortCmpFunc_env_Place_deps_order_in (self : List Place × Int × Int × Int × Unit → Option (Unit)) : cutsOf ([(slices_pdqsortCmpFunc_env_Place_deps_order_l1C self)] : List (CutSpec tb)) (bodyOf Try.f58) = [(28, .loop (loopAt 28 Try.f58))] := by kernel_rfl
theorem slices_pdqsortCmpFunc_env_Place_deps_order_step (self : List Place × Int × Int × Int × Unit → Option (Unit)) (hself : FnSound Try.prog tb 58 (slices_pdqsortCmpFunc_env_Place_deps_orderT self)) : FnSound Try.prog tb 58 (slices_pdqsortCmpFunc_env_Place_deps_orderT (slices_pdqsortCmpFunc_env_Place_deps_orderR self)) := fn_cut mixed Try.func58 (slices_pdqsortCmpFunc_env_Place_deps_order_k self) (slices_pdqsortCmpFunc_env_Place_deps_orderG_ok self hself) rfl (slices_pdqsortCmpFunc_env_Place_deps_order_in self) (.cons rfl (slices_pdqsortCmpFunc_env_Place_deps_order_l1_cut self hself) rfl .nil) (slices_pdqsortCmpFunc_env_Place_deps_order_eq self)
def slices_pdqsortCmpFunc_env_Place_deps_orderF : List Place × Int × Int × Int × Unit → Option (Unit) := iter slices_pdqsortCmpFunc_env_Place_deps_orderR big
def slices_pdqsortCmpFunc_env_Place_deps_orderS : FSpec tb := slices_pdqsortCmpFunc_env_Place_deps_orderT slices_pdqsortCmpFunc_env_Place_deps_orderF
theorem slices_pdqsortCmpFunc_env_Place_deps_order_sound : FnSound Try.prog tb 58 slices_pdqsortCmpFunc_env_Place_deps_orderS := fn_it (enters_fn Try.func58 (by kernel_rfl)) slices_pdqsortCmpFunc_env_Place_deps_order_step

/-! ### slices_SortFunc_env_Place_env_Place_deps_order -/
def slices_SortFunc_env_Place_env_Place_deps_orderF (x : List Place × Unit) : Option (Unit) :=
  obnd (bits_LenF (IntKind.u64.wrap (↑x.fst.length : Int))) fun y =>
    obnd (slices_pdqsortCmpFunc_env_Place_deps_orderF (x.fst, 0, (↑x.fst.length : Int), y, ())) fun y => some PUnit.unit
def slices_SortFunc_env_Place_env_Place_deps_orderS : FSpec tb := ⟨[(0, .val 37), (1, .fnp 35 0)], [], slices_SortFunc_env_Place_env_Place_deps_orderF⟩
theorem slices_SortFunc_env_Place_env_Place_deps_order_eq : ∀ x, evFn Try.prog tb [(59, bits_LenS), (58, slices_pdqsortCmpFunc_env_Place_deps_orderS)] [] Try.f34 slices_SortFunc_env_Place_env_Place_deps_orderS.ins slices_SortFunc_env_Place_env_Place_deps_orderS.outs x = slices_SortFunc_env_Place_env_Place_deps_orderS.f x := fun x => by kernel_rfl
theorem slices_SortFunc_env_Place_env_Place_deps_order_k : fnK Try.f34 slices_SortFunc_env_Place_env_Place_deps_orderS.ins slices_SortFunc_env_Place_env_Place_deps_orderS.outs = true := by kernel_rfl
theorem slices_SortFunc_env_Place_env_Place_deps_order_sound : FnSound Try.prog tb 34 slices_SortFunc_env_Place_env_Place_deps_orderS := fn_ev mixed Try.func34 slices_SortFunc_env_Place_env_Place_deps_order_k (.cons bits_Len_sound (.cons slices_pdqsortCmpFunc_env_Place_deps_order_sound .nil)) rfl slices_SortFunc_env_Place_env_Place_deps_order_eq

/-! ### slices_Compact_env_Place_env_Place -/
def slices_Compact_env_Place_env_Place_l2F (back : List Place × Int × List Place × Int → Option (Int)) (x : List Place × Int × List Place × Int) : Option (Int) :=
  brn (decide (x.2.2.snd < (↑x.2.2.fst.length : Int)))
    (obnd (idx x.2.2.fst x.2.2.snd) fun y =>
      obnd (idx x.2.2.fst (IntKind.i64.wrap (x.2.2.snd - 1))) fun y_1 =>
        brn
          (bif true then !(decide (y.Sheet = y_1.Sheet) && (decide (y.At.Row = y_1.At.Row) && decide (y.At.Col = y_1.At.Col)))
          else decide (y.Sheet = y_1.Sheet) && (decide (y.At.Row = y_1.At.Row) && decide (y.At.Col = y_1.At.Col)))
          (obnd (idx x.2.2.fst x.2.2.snd) fun y => obnd (idx x.fst x.2.fst) fun y => none) (back (x.fst, x.2.fst, x.2.2.fst, IntKind.i64.wrap (x.2.2.snd + 1))))
    (some x.2.1)
def slices_Compact_env_Place_env_Place_l2J : List Place × Int × List Place × Int → Option (Int) := iter slices_Compact_env_Place_env_Place_l2F big
def slices_Compact_env_Place_env_Place_l2C : CutSpec tb := ⟨84, [(0, .val 37), (3, .val 3), (4, .val 37), (5, .val 3)], [((.exit 2), [(3, .val 3)])], [29, 30, 31, 32, 35, 36, 37, 38, 39, 40, 41, 42, 43, 44, 45, 46, 47, 48, 49, 50, 51, 52, 53, 3, 33, 34, 5], slices_Compact_env_Place_env_Place_l2J⟩
theorem slices_Compact_env_Place_env_Place_l2_eq : ∀ back x, evLoop Try.prog tb [] [] (loopAt 84 Try.f36) (slices_Compact_env_Place_env_Place_l2C).ins (slices_Compact_env_Place_env_Place_l2C).outs back x = slices_Compact_env_Place_env_Place_l2F back x := fun back x => by kernel_rfl
theorem slices_Compact_env_Place_env_Place_l2_k : cutB Try.f36.ntmps (slices_Compact_env_Place_env_Place_l2C) (loopAt 84 Try.f36) = true := by kernel_rfl
theorem slices_Compact_env_Place_env_Place_l2_in : cutsOf ([] : List (CutSpec tb)) (loopAt 84 Try.f36) = [] := by kernel_rfl
theorem slices_Compact_env_Place_env_Place_l2_cut : CutSound Try.prog tb Try.f36.ntmps (.loop (loopAt 84 Try.f36)) (slices_Compact_env_Place_env_Place_l2C) := loop_it mixed slices_Compact_env_Place_env_Place_l2_k .nil rfl slices_Compact_env_Place_env_Place_l2_in .nil slices_Compact_env_Place_env_Place_l2F slices_Compact_env_Place_env_Place_l2_eq rfl
def slices_Compact_env_Place_env_Place_l1F (back : List Place × Int → Option ((Unit) ⊕ (List Place))) (x : List Place × Int) : Option ((Unit) ⊕ (List Place)) :=
  brn (decide (x.snd < (↑x.fst.length : Int)))
    (obnd (idx x.fst x.snd) fun y =>
      obnd (idx x.fst (IntKind.i64.wrap (x.snd - 1))) fun y_1 =>
        brn
          (bif false then !(decide (y.Sheet = y_1.Sheet) && (decide (y.At.Row = y_1.At.Row) && decide (y.At.Col = y_1.At.Col)))
          else decide (y.Sheet = y_1.Sheet) && (decide (y.At.Row = y_1.At.Row) && decide (y.At.Col = y_1.At.Col)))
          (obnd (sub x.fst x.snd (↑x.fst.length : Int)) fun z =>
            obnd (slices_Compact_env_Place_env_Place_l2J (x.fst, x.snd, z, 1)) fun y => obnd (sub x.fst y (↑x.fst.length : Int)) fun z => none)
          (back (x.fst, IntKind.i64.wrap (x.snd + 1))))
    (some (Sum.inl PUnit.unit))
def slices_Compact_env_Place_env_Place_l1J : List Place × Int → Option ((Unit) ⊕ (List Place)) := iter slices_Compact_env_Place_env_Place_l1F big
def slices_Compact_env_Place_env_Place_l1C : CutSpec tb := ⟨44, [(0, .val 37), (3, .val 3)], [((.exit 0), []), (.ret, [(2, .val 37)])], [10, 11, 12, 13, 16, 17, 18, 19, 20, 21, 22, 23, 24, 25, 26, 27, 28, 4, 5, 29, 30, 31, 32, 35, 36, 37, 38, 39, 40, 41, 42, 43, 44, 45, 46, 47, 48, 49, 50, 51, 52, 53, 3, 33, 34, 54, 55, 56, 57, 58, 59, 2, 14, 15], slices_Compact_env_Place_env_Place_l1J⟩
theorem slices_Compact_env_Place_env_Place_l1_eq : ∀ back x, evLoop Try.prog tb [] [slices_Compact_env_Place_env_Place_l2C] (loopAt 44 Try.f36) (slices_Compact_env_Place_env_Place_l1C).ins (slices_Compact_env_Place_env_Place_l1C).outs back x = slices_Compact_env_Place_env_Place_l1F back x := fun back x => by kernel_rfl
theorem slices_Compact_env_Place_env_Place_l1_k : cutB Try.f36.ntmps (slices_Compact_env_Place_env_Place_l1C) (loopAt 44 Try.f36) = true := by kernel_rfl
theorem slices_Compact_env_Place_env_Place_l1_in : cutsOf ([slices_Compact_env_Place_env_Place_l2C] : List (CutSpec tb)) (loopAt 44 Try.f36) = [(84, .loop (loopAt 84 Try.f36))] := by kernel_rfl
theorem slices_Compact_env_Place_env_Place_l1_cut : CutSound Try.prog tb Try.f36.ntmps (.loop (loopAt 44 Try.f36)) (slices_Compact_env_Place_env_Place_l1C) := loop_it mixed slices_Compact_env_Place_env_Place_l1_k .nil rfl slices_Compact_env_Place_env_Place_l1_in (.cons rfl slices_Compact_env_Place_env_Place_l2_cut rfl .nil) slices_Compact_env_Place_env_Place_l1F slices_Compact_env_Place_env_Place_l1_eq rfl
def slices_Compact_env_Place_env_PlaceF (x : List Place) : Option (List Place) :=
  brn (decide ((↑x.length : Int) < 2)) (some x) (obnd (slices_Compact_env_Place_env_Place_l1J (x, 1)) fun y => osum y (fun y => some x) fun y => some y)
def slices_Compact_env_Place_env_PlaceS : FSpec tb := ⟨[(0, .val 37)], [(0, .val 37)], slices_Compact_env_Place_env_PlaceF⟩
theorem slices_Compact_env_Place_env_Place_eq : ∀ x, evFn Try.prog tb [] [slices_Compact_env_Place_env_Place_l1C] Try.f36 slices_Compact_env_Place_env_PlaceS.ins slices_Compact_env_Place_env_PlaceS.outs x = slices_Compact_env_Place_env_PlaceS.f x := fun x => by kernel_rfl
theorem slices_Compact_env_Place_env_Place_k : fnK Try.f36 slices_Compact_env_Place_env_PlaceS.ins slices_Compact_env_Place_env_PlaceS.outs = true := by kernel_rfl
theorem slices_Compact_env_Place_env_Place_in : cutsOf ([slices_Compact_env_Place_env_Place_l1C] : List (CutSpec tb)) (bodyOf Try.f36) = [(44, .loop (loopAt 44 Try.f36))] := by kernel_rfl
theorem slices_Compact_env_Place_env_Place_sound : FnSound Try.prog tb 36 slices_Compact_env_Place_env_PlaceS := fn_cut mixed Try.func36 slices_Compact_env_Place_env_Place_k .nil rfl slices_Compact_env_Place_env_Place_in (.cons rfl slices_Compact_env_Place_env_Place_l1_cut rfl .nil) slices_Compact_env_Place_env_Place_eq

/-! ### deps_Of -/
abbrev deps_OfG : List (Nat × FSpec tb) := [(32, expr_RefsS), (33, deps_placesS), (34, slices_SortFunc_env_Place_env_Place_deps_orderS), (36, slices_Compact_env_Place_env_PlaceS)]
theorem deps_OfG_ok : AllSound Try.prog tb (deps_OfG) := (.cons expr_Refs_sound (.cons deps_places_sound (.cons slices_SortFunc_env_Place_env_Place_deps_order_sound (.cons slices_Compact_env_Place_env_Place_sound .nil))))
def deps_Of_l1F (back : List Expr × Node × List (Place) × List Expr × Int × Int → Option (List (Place))) (x : List Expr × Node × List (Place) × List Expr × Int × Int) : Option (List (Place)) :=
  brn (decide (x.2.2.2.2.snd < x.2.2.2.2.fst))
    (obnd (idx x.2.2.2.fst x.2.2.2.2.snd) fun y =>
      brn (decide (y.Kind = 6))
        (brn (decide (0 ≤ y.Op))
          (brn (decide (y.Op < (↑x.fst.length : Int)))
            (obnd (idx x.fst y.Op) fun y =>
              obnd (expr_RefsF (eExpr y)) fun y =>
                obnd (deps_placesF (y, x.2.fst.P.Sheet, x.2.fst.Base)) fun y =>
                  obnd (app 24 x.2.2.fst y) fun zs =>
                    back (x.fst, { P := x.2.fst.P, Base := x.2.fst.Base, E := eExpr x.2.fst.E }, zs, x.2.2.2.fst, x.2.2.2.2.fst, IntKind.i64.wrap (x.2.2.2.2.snd + 1)))
            (back (x.fst, { P := x.2.fst.P, Base := x.2.fst.Base, E := eExpr x.2.fst.E }, x.2.2.fst, x.2.2.2.fst, x.2.2.2.2.fst, IntKind.i64.wrap (x.2.2.2.2.snd + 1))))
          (back (x.fst, { P := x.2.fst.P, Base := x.2.fst.Base, E := eExpr x.2.fst.E }, x.2.2.fst, x.2.2.2.fst, x.2.2.2.2.fst, IntKind.i64.wrap (x.2.2.2.2.snd + 1))))
        (back (x.fst, { P := x.2.fst.P, Base := x.2.fst.Base, E := eExpr x.2.fst.E }, x.2.2.fst, x.2.2.2.fst, x.2.2.2.2.fst, IntKind.i64.wrap (x.2.2.2.2.snd + 1))))
    (some x.2.2.1)
def deps_Of_l1J : List Expr × Node × List (Place) × List Expr × Int × Int → Option (List (Place)) := iter deps_Of_l1F big
def deps_Of_l1C : CutSpec tb := ⟨44, [(1, .val 31), (2, .ro 44), (6, .own 42), (19, .val 31), (20, .val 3), (21, .val 3)], [((.exit 0), [(6, .own 42)])], [22, 23, 24, 8, 25, 26, 27, 28, 29, 30, 31, 32, 33, 34, 35, 36, 37, 38, 39, 40, 41, 42, 43, 44, 45, 46, 47, 48, 49, 50, 51, 52, 53, 6, 54, 21], deps_Of_l1J⟩
theorem deps_Of_l1_eq : ∀ back x, evLoop Try.prog tb deps_OfG [] (loopAt 44 Try.f11) (deps_Of_l1C).ins (deps_Of_l1C).outs back x = deps_Of_l1F back x := fun back x => by kernel_rfl
theorem deps_Of_l1_k : cutB Try.f11.ntmps (deps_Of_l1C) (loopAt 44 Try.f11) = true := by kernel_rfl
theorem deps_Of_l1_in : cutsOf ([] : List (CutSpec tb)) (loopAt 44 Try.f11) = [] := by kernel_rfl
theorem deps_Of_l1_cut : CutSound Try.prog tb Try.f11.ntmps (.loop (loopAt 44 Try.f11)) (deps_Of_l1C) := loop_it mixed deps_Of_l1_k deps_OfG_ok rfl deps_Of_l1_in .nil deps_Of_l1F deps_Of_l1_eq rfl
def deps_OfF (x : Node × List Expr) : Option (List Place) :=
  obnd (expr_RefsF (eExpr x.fst.E)) fun y =>
    obnd (deps_placesF (y, x.fst.P.Sheet, x.fst.Base)) fun y_1 =>
      obnd (deps_Of_l1J (x.snd, { P := x.fst.P, Base := x.fst.Base, E := eExpr x.fst.E }, y_1, y, (↑(List.length y) : Int), 0)) fun y =>
        obnd (slices_SortFunc_env_Place_env_Place_deps_orderF (y, ())) fun y_2 => obnd (slices_Compact_env_Place_env_PlaceF y) fun y => some y
def deps_OfS : FSpec tb := ⟨[(0, .val 44), (1, .val 31)], [(0, .val 37)], deps_OfF⟩
theorem deps_Of_eq : ∀ x, evFn Try.prog tb deps_OfG [deps_Of_l1C] Try.f11 deps_OfS.ins deps_OfS.outs x = deps_OfS.f x := fun x => by kernel_rfl
theorem deps_Of_k : fnK Try.f11 deps_OfS.ins deps_OfS.outs = true := by kernel_rfl
theorem deps_Of_in : cutsOf ([deps_Of_l1C] : List (CutSpec tb)) (bodyOf Try.f11) = [(44, .loop (loopAt 44 Try.f11))] := by kernel_rfl
theorem deps_Of_sound : FnSound Try.prog tb 11 deps_OfS := fn_cut mixed Try.func11 deps_Of_k deps_OfG_ok rfl deps_Of_in (.cons rfl deps_Of_l1_cut rfl .nil) deps_Of_eq

/-! ### chain_Check -/
abbrev chain_CheckG : List (Nat × FSpec tb) := [(11, deps_OfS)]
theorem chain_CheckG_ok : AllSound Try.prog tb (chain_CheckG) := (.cons deps_Of_sound .nil)
def chain_Check_s1_0J (x : Unit) : Option (Int) :=
  some 14
def chain_Check_s1_0C : CutSpec tb := ⟨217, [], [(.ret, [(6, .val 63)])], [6], chain_Check_s1_0J⟩
theorem chain_Check_s1_0_eq : ∀ x, evScope Try.prog tb chain_CheckG [] [] (restAt (scopeAt 21 Try.f41) 0) chain_Check_s1_0C.ins chain_Check_s1_0C.outs x = chain_Check_s1_0C.J x := fun x => by kernel_rfl
theorem chain_Check_s1_0_k : cutB Try.f41.ntmps chain_Check_s1_0C (restAt (scopeAt 21 Try.f41) 0) = true := by kernel_rfl
theorem chain_Check_s1_0_in : cutsOf ([] : List (CutSpec tb)) (restAt (scopeAt 21 Try.f41) 0) = [] := by kernel_rfl
theorem chain_Check_s1_0_lab : LabelSound Try.prog tb Try.f41.ntmps (scopeAt 21 Try.f41) 0 chain_Check_s1_0C := label_ev mixed (by kernel_rfl) chain_Check_s1_0_k chain_CheckG_ok rfl chain_Check_s1_0_in .nil .nil chain_Check_s1_0_eq
def chain_Check_l2F (back : (List (Place × Int)) × List Place × Int × Int → Option ((Unit) × (List (Place × Int)))) (x : (List (Place × Int)) × List Place × Int × Int) : Option ((Unit) × (List (Place × Int))) :=
  brn (decide (x.2.2.snd < x.2.2.fst)) (obnd (idx x.2.fst x.2.2.snd) fun y => back (mpPut keq42 y x.2.2.snd x.fst, x.2.fst, x.2.2.fst, IntKind.i64.wrap (x.2.2.snd + 1)))
    (some ((), x.fst))
def chain_Check_l2J : (List (Place × Int)) × List Place × Int × Int → Option ((Unit) × (List (Place × Int))) := iter chain_Check_l2F big
def chain_Check_l2C : CutSpec tb := ⟨36, [(7, .mp 42 3), (23, .val 37), (24, .val 3), (25, .val 3)], [((.exit 0), [])], [26, 27, 28, 29, 10, 9, 30, 31, 32, 33, 25], chain_Check_l2J⟩
theorem chain_Check_l2_eq : ∀ back x, evLoop Try.prog tb chain_CheckG [] (loopAt 36 Try.f41) (chain_Check_l2C).ins (chain_Check_l2C).outs back x = chain_Check_l2F back x := fun back x => by kernel_rfl
theorem chain_Check_l2_k : cutB Try.f41.ntmps (chain_Check_l2C) (loopAt 36 Try.f41) = true := by kernel_rfl
theorem chain_Check_l2_in : cutsOf ([] : List (CutSpec tb)) (loopAt 36 Try.f41) = [] := by kernel_rfl
theorem chain_Check_l2_cut : CutSound Try.prog tb Try.f41.ntmps (.loop (loopAt 36 Try.f41)) (chain_Check_l2C) := loop_it mixed chain_Check_l2_k chain_CheckG_ok rfl chain_Check_l2_in .nil chain_Check_l2F chain_Check_l2_eq rfl
def chain_Check_l3F (back : (List (Place × Bool)) × List Node × Int × Int → Option ((Unit) × (List (Place × Bool)))) (x : (List (Place × Bool)) × List Node × Int × Int) : Option ((Unit) × (List (Place × Bool))) :=
  brn (decide (x.2.2.snd < x.2.2.fst)) (obnd (idx x.2.fst x.2.2.snd) fun y => back (mpPut keq42 y.P true x.fst, x.2.fst, x.2.2.fst, IntKind.i64.wrap (x.2.2.snd + 1)))
    (some ((), x.fst))
def chain_Check_l3J : (List (Place × Bool)) × List Node × Int × Int → Option ((Unit) × (List (Place × Bool))) := iter chain_Check_l3F big
def chain_Check_l3C : CutSpec tb := ⟨76, [(8, .mp 42 4), (34, .val 51), (35, .val 3), (36, .val 3)], [((.exit 2), [])], [37, 38, 39, 12, 40, 41, 42, 43, 36], chain_Check_l3J⟩
theorem chain_Check_l3_eq : ∀ back x, evLoop Try.prog tb chain_CheckG [] (loopAt 76 Try.f41) (chain_Check_l3C).ins (chain_Check_l3C).outs back x = chain_Check_l3F back x := fun back x => by kernel_rfl
theorem chain_Check_l3_k : cutB Try.f41.ntmps (chain_Check_l3C) (loopAt 76 Try.f41) = true := by kernel_rfl
theorem chain_Check_l3_in : cutsOf ([] : List (CutSpec tb)) (loopAt 76 Try.f41) = [] := by kernel_rfl
theorem chain_Check_l3_cut : CutSound Try.prog tb Try.f41.ntmps (.loop (loopAt 76 Try.f41)) (chain_Check_l3C) := loop_it mixed chain_Check_l3_k chain_CheckG_ok rfl chain_Check_l3_in .nil chain_Check_l3F chain_Check_l3_eq rfl
def chain_Check_l5F (back : (List (Place × Int)) × Node × List Place × Int × Int → Option (((Unit) × (List (Place × Int))) ⊕ ((Unit) × (List (Place × Int))))) (x : (List (Place × Int)) × Node × List Place × Int × Int) : Option (((Unit) × (List (Place × Int))) ⊕ ((Unit) × (List (Place × Int)))) :=
  brn (decide (x.2.2.2.snd < x.2.2.2.fst))
    (obnd (idx x.2.2.fst x.2.2.2.snd) fun y =>
      brn (mpHas keq42 y x.fst)
        (brn (decide (mpGetD keq42 0 x.2.fst.P x.fst ≤ mpGetD keq42 0 y x.fst)) (some (Sum.inr ((), x.fst)))
          (back (x.fst, { P := x.2.fst.P, Base := x.2.fst.Base, E := eExpr x.2.fst.E }, x.2.2.fst, x.2.2.2.fst, IntKind.i64.wrap (x.2.2.2.snd + 1))))
        (back (x.fst, { P := x.2.fst.P, Base := x.2.fst.Base, E := eExpr x.2.fst.E }, x.2.2.fst, x.2.2.2.fst, IntKind.i64.wrap (x.2.2.2.snd + 1))))
    (some (Sum.inl ((), x.fst)))
def chain_Check_l5J : (List (Place × Int)) × Node × List Place × Int × Int → Option (((Unit) × (List (Place × Int))) ⊕ ((Unit) × (List (Place × Int)))) := iter chain_Check_l5F big
def chain_Check_l5C : CutSpec tb := ⟨164, [(7, .mp 42 3), (14, .ro 44), (73, .val 37), (74, .val 3), (75, .val 3)], [((.exit 6), []), ((.goto 0), [])], [76, 77, 78, 18, 80, 81, 82, 79, 83, 84, 19, 20, 85, 86, 87, 88, 89, 90, 91, 92, 93, 94, 75], chain_Check_l5J⟩
theorem chain_Check_l5_eq : ∀ back x, evLoop Try.prog tb chain_CheckG [] (loopAt 164 Try.f41) (chain_Check_l5C).ins (chain_Check_l5C).outs back x = chain_Check_l5F back x := fun back x => by kernel_rfl
theorem chain_Check_l5_k : cutB Try.f41.ntmps (chain_Check_l5C) (loopAt 164 Try.f41) = true := by kernel_rfl
theorem chain_Check_l5_in : cutsOf ([] : List (CutSpec tb)) (loopAt 164 Try.f41) = [] := by kernel_rfl
theorem chain_Check_l5_cut : CutSound Try.prog tb Try.f41.ntmps (.loop (loopAt 164 Try.f41)) (chain_Check_l5C) := loop_it mixed chain_Check_l5_k chain_CheckG_ok rfl chain_Check_l5_in .nil chain_Check_l5F chain_Check_l5_eq rfl
def chain_Check_l4F (back : List Expr × (List (Place × Int)) × List Node × Int × Int → Option (((Unit) × (List (Place × Int))) ⊕ ((Unit) × (List (Place × Int))))) (x : List Expr × (List (Place × Int)) × List Node × Int × Int) : Option (((Unit) × (List (Place × Int))) ⊕ ((Unit) × (List (Place × Int)))) :=
  brn (decide (x.2.2.2.snd < x.2.2.2.fst))
    (obnd (idx x.2.2.fst x.2.2.2.snd) fun y =>
      brn (!mpHas keq42 y.P x.2.fst) (some (Sum.inr ((), x.2.fst)))
        (obnd (deps_OfF ({ P := y.P, Base := y.Base, E := eExpr y.E }, x.fst)) fun y_1 =>
          obnd (chain_Check_l5J (x.2.fst, { P := y.P, Base := y.Base, E := eExpr y.E }, y_1, (↑(List.length y_1) : Int), 0)) fun y =>
            osum y (fun y => back (x.fst, y.2, x.2.2.fst, x.2.2.2.fst, IntKind.i64.wrap (x.2.2.2.snd + 1))) fun y => some (Sum.inr ((), y.2))))
    (some (Sum.inl ((), x.2.fst)))
def chain_Check_l4J : List Expr × (List (Place × Int)) × List Node × Int × Int → Option (((Unit) × (List (Place × Int))) ⊕ ((Unit) × (List (Place × Int)))) := iter chain_Check_l4F big
def chain_Check_l4C : CutSpec tb := ⟨124, [(2, .val 31), (7, .mp 42 3), (56, .val 51), (57, .val 3), (58, .val 3)], [((.exit 4), []), ((.goto 0), [])], [59, 60, 61, 14, 63, 64, 65, 66, 62, 67, 68, 15, 16, 69, 70, 71, 72, 73, 74, 75, 76, 77, 78, 18, 80, 81, 82, 79, 83, 84, 19, 20, 85, 86, 87, 88, 89, 90, 91, 92, 93, 94, 95, 58], chain_Check_l4J⟩
theorem chain_Check_l4_eq : ∀ back x, evLoop Try.prog tb chain_CheckG [chain_Check_l5C] (loopAt 124 Try.f41) (chain_Check_l4C).ins (chain_Check_l4C).outs back x = chain_Check_l4F back x := fun back x => by kernel_rfl
theorem chain_Check_l4_k : cutB Try.f41.ntmps (chain_Check_l4C) (loopAt 124 Try.f41) = true := by kernel_rfl
theorem chain_Check_l4_in : cutsOf ([chain_Check_l5C] : List (CutSpec tb)) (loopAt 124 Try.f41) = [(164, .loop (loopAt 164 Try.f41))] := by kernel_rfl
theorem chain_Check_l4_cut : CutSound Try.prog tb Try.f41.ntmps (.loop (loopAt 124 Try.f41)) (chain_Check_l4C) := loop_it mixed chain_Check_l4_k chain_CheckG_ok rfl chain_Check_l4_in (.cons rfl chain_Check_l5_cut rfl .nil) chain_Check_l4F chain_Check_l4_eq rfl
def chain_Check_s1J (x : List Place × List Node × List Expr) : Option ((Unit) ⊕ (Int)) :=
  obnd (chain_Check_l2J ([], x.fst, (↑x.fst.length : Int), 0)) fun y =>
    obnd (chain_Check_l3J ([], x.2.fst, (↑x.2.fst.length : Int), 0)) fun y_1 =>
      brn (fits (List.length y.2))
        (brn (!decide ((↑(List.length y.2) : Int) = (↑x.fst.length : Int))) (obnd (chain_Check_s1_0J ()) fun y => some (Sum.inr y))
          (brn (fits (List.length y.2))
            (brn (fits (List.length y_1.2))
              (brn (!decide ((↑(List.length y.2) : Int) = (↑(List.length y_1.2) : Int))) (obnd (chain_Check_s1_0J ()) fun y => some (Sum.inr y))
                (obnd (chain_Check_l4J (x.2.snd, y.2, x.2.fst, (↑x.2.fst.length : Int), 0)) fun y =>
                  osum y (fun y => some (Sum.inr 0)) fun y => obnd (chain_Check_s1_0J ()) fun y => some (Sum.inr y)))
              none)
            none))
        none
def chain_Check_s1C : CutSpec tb := ⟨21, [(0, .val 37), (1, .val 51), (2, .val 31)], [(.normal, []), (.ret, [(6, .val 63)])], [21, 22, 7, 8, 23, 24, 25, 26, 27, 28, 29, 10, 9, 30, 31, 32, 33, 34, 35, 36, 37, 38, 39, 12, 40, 41, 42, 43, 44, 45, 46, 47, 48, 49, 50, 51, 52, 53, 54, 55, 56, 57, 58, 59, 60, 61, 14, 63, 64, 65, 66, 62, 67, 68, 15, 16, 69, 70, 71, 72, 73, 74, 75, 76, 77, 78, 18, 80, 81, 82, 79, 83, 84, 19, 20, 85, 86, 87, 88, 89, 90, 91, 92, 93, 94, 95, 6], chain_Check_s1J⟩
theorem chain_Check_s1_eq : ∀ x, evScope Try.prog tb chain_CheckG [chain_Check_l2C, chain_Check_l3C, chain_Check_l4C] [(0, chain_Check_s1_0C)] (scopeAt 21 Try.f41) chain_Check_s1C.ins chain_Check_s1C.outs x = chain_Check_s1C.J x := fun x => by kernel_rfl
theorem chain_Check_s1_k : cutB Try.f41.ntmps chain_Check_s1C (scopeAt 21 Try.f41) = true := by kernel_rfl
theorem chain_Check_s1_in : cutsOf ([chain_Check_l2C, chain_Check_l3C, chain_Check_l4C] : List (CutSpec tb)) (scopeAt 21 Try.f41) = [(36, .loop (loopAt 36 Try.f41)), (76, .loop (loopAt 76 Try.f41)), (124, .loop (loopAt 124 Try.f41))] := by kernel_rfl
theorem chain_Check_s1_cut : CutSound Try.prog tb Try.f41.ntmps (.scope (scopeAt 21 Try.f41)) chain_Check_s1C := scope_ev mixed chain_Check_s1_k chain_CheckG_ok rfl chain_Check_s1_in (.cons rfl chain_Check_l2_cut rfl (.cons rfl chain_Check_l3_cut rfl (.cons rfl chain_Check_l4_cut rfl .nil))) (.cons chain_Check_s1_0_lab rfl .nil) chain_Check_s1_eq
def chain_CheckF (x : List Place × List Node × List Expr) : Option (Int) :=
  obnd (chain_Check_s1J (x.fst, x.2)) fun y => osum y (fun y => none) fun y => some y
def chain_CheckS : FSpec tb := ⟨[(0, .val 37), (1, .val 51), (2, .val 31)], [(0, .val 63)], chain_CheckF⟩
theorem chain_Check_eq : ∀ x, evFn Try.prog tb chain_CheckG [chain_Check_s1C] Try.f41 chain_CheckS.ins chain_CheckS.outs x = chain_CheckS.f x := fun x => by kernel_rfl
theorem chain_Check_k : fnK Try.f41 chain_CheckS.ins chain_CheckS.outs = true := by kernel_rfl
theorem chain_Check_in : cutsOf ([chain_Check_s1C] : List (CutSpec tb)) (bodyOf Try.f41) = [(21, .scope (scopeAt 21 Try.f41))] := by kernel_rfl
theorem chain_Check_sound : FnSound Try.prog tb 41 chain_CheckS := fn_cut mixed Try.func41 chain_Check_k chain_CheckG_ok rfl chain_Check_in (.cons rfl chain_Check_s1_cut rfl .nil) chain_Check_eq

/-! ### law17_known -/
def law17_knownF (x : Unit) : Option (Bool) :=
  obnd (law10_AtF (1, 0)) fun y =>
    obnd (law16_NodeF (0, 0, eExpr y)) fun y =>
      obnd (law10_NumF 1) fun y_1 =>
        obnd (law16_NodeF (1, 0, eExpr y_1)) fun y_2 =>
          obnd (law14_PF (0, 0, 0)) fun y_3 =>
            obnd (law14_PF (0, 1, 0)) fun y_4 =>
              obnd (law14_PF (7, 65535, 255)) fun y_5 =>
                obnd (chain_EncodeF [y_4, y_5]) fun y_6 =>
                  obnd (chain_DecodeF y_6.fst) fun y_7 =>
                    obnd (chain_DecodeF { Type_ := 6247, Data := [UInt8.ofNat 1, UInt8.ofNat 0, UInt8.ofNat 8, UInt8.ofNat 0, UInt8.ofNat 0, UInt8.ofNat 0], Cuts := [], At := 0 })
                      fun y_8 =>
                      obnd (chain_DecodeF { Type_ := 6247, Data := [UInt8.ofNat 1, UInt8.ofNat 0, UInt8.ofNat 7, UInt8.ofNat 0], Cuts := [], At := 0 }) fun y_9 =>
                        brn (!decide ((↑(List.length y_7.fst) : Int) = 2)) (some false)
                          (obnd (chain_CheckF ([y_4, y_3], [{ P := y.P, Base := y.Base, E := eExpr y.E }, { P := y_2.P, Base := y_2.Base, E := eExpr y_2.E }], [])) fun y_10 =>
                            brn (decide (y_10 = 0))
                              (obnd (chain_CheckF ([y_3, y_4], [{ P := y.P, Base := y.Base, E := eExpr y.E }, { P := y_2.P, Base := y_2.Base, E := eExpr y_2.E }], [])) fun y_11 =>
                                brn (decide (y_11 = 14))
                                  (obnd (chain_CheckF ([y_4], [{ P := y.P, Base := y.Base, E := eExpr y.E }, { P := y_2.P, Base := y_2.Base, E := eExpr y_2.E }], [])) fun y =>
                                    brn (decide (y = 14))
                                      (brn (decide (IntKind.i64.wrap (y_6.snd + y_7.2.snd) = 0))
                                        (brn (decide (y_6.fst.Data = U8s [2, 0, 0, 1, 0, 0, 7, 255, 255, 255]))
                                          (obnd (idx y_7.fst 0) fun y =>
                                            brn
                                              (bif false then !(decide (y.Sheet = y_4.Sheet) && (decide (y.At.Row = y_4.At.Row) && decide (y.At.Col = y_4.At.Col)))
                                              else decide (y.Sheet = y_4.Sheet) && (decide (y.At.Row = y_4.At.Row) && decide (y.At.Col = y_4.At.Col)))
                                              (brn (decide (y_8.2.fst = 2))
                                                (brn (decide (y_8.2.snd = 12)) (brn (decide (y_9.2.fst = 3)) (some (decide (y_9.2.snd = 5))) (some false)) (some false)) (some false))
                                              (some false))
                                          (some false))
                                        (some false))
                                      (some false))
                                  (some false))
                              (some false))
def law17_knownS : FSpec tb := ⟨[], [(0, .val 4)], law17_knownF⟩
theorem law17_known_eq : ∀ x, evFn Try.prog tb [(13, law10_AtS), (12, law16_NodeS), (15, law10_NumS), (14, law14_PS), (21, chain_EncodeS), (26, chain_DecodeS), (41, chain_CheckS)] [] Try.f20 law17_knownS.ins law17_knownS.outs x = law17_knownS.f x := fun x => by kernel_rfl
theorem law17_known_k : fnK Try.f20 law17_knownS.ins law17_knownS.outs = true := by kernel_rfl
theorem law17_known_sound : FnSound Try.prog tb 20 law17_knownS := fn_ev mixed Try.func20 law17_known_k (.cons law10_At_sound (.cons law16_Node_sound (.cons law10_Num_sound (.cons law14_P_sound (.cons chain_Encode_sound (.cons chain_Decode_sound (.cons chain_Check_sound .nil))))))) rfl law17_known_eq
end
end Go.Proofs.Ytankcgcnkoialaa
