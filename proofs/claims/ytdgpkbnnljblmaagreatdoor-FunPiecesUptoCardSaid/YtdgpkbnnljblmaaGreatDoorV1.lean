/- V1 -/
import Derived.Test.YtdgpkbnnljblmaaGreatDoorU1
namespace Go.Proofs.YtdgpkbnnljblmaaGreatDoor
open Go Go.Ev
set_option linter.unusedVariables false
def law9_NF (x : Int) : Option (Val) :=
  obnd (dec_IntF x) fun y => some { Kind := 1, N := y, S := [], B := false, E := 0 }
def law9_NS : FSpec tb := ⟨[(0, .val 2)], [(0, .val 32)], law9_NF⟩
theorem law9_N_eq : ∀ x, evFn Tryz.prog tb [(33, dec_IntS)] [] Tryz.f26 law9_NS.ins law9_NS.outs x = law9_NS.f x := fun x => by kernel_rfl
theorem law9_N_k : fnK Tryz.f26 law9_NS.ins law9_NS.outs = true := by kernel_rfl
theorem law9_N_sound : FnSound Tryz.prog tb 26 law9_NS := fn_ev mixed Tryz.func26 law9_N_k (.cons dec_Int_sound .nil) rfl law9_N_eq
def law9_SF (x : List UInt8) : Option (Val) :=
  some { Kind := 2, N := { M := 0, S := 0 }, S := x, B := false, E := 0 }
def law9_SS : FSpec tb := ⟨[(0, .val 9)], [(0, .val 32)], law9_SF⟩
theorem law9_S_eq : ∀ x, evFn Tryz.prog tb [] [] Tryz.f29 law9_SS.ins law9_SS.outs x = law9_SS.f x := fun x => by kernel_rfl
theorem law9_S_k : fnK Tryz.f29 law9_SS.ins law9_SS.outs = true := by kernel_rfl
theorem law9_S_sound : FnSound Tryz.prog tb 29 law9_SS := fn_ev mixed Tryz.func29 law9_S_k .nil rfl law9_S_eq
def val_FaultF (x : Int) : Option (Val) :=
  some { Kind := 4, N := { M := 0, S := 0 }, S := [], B := false, E := x }
def val_FaultS : FSpec tb := ⟨[(0, .val 3)], [(0, .val 32)], val_FaultF⟩
theorem val_Fault_eq : ∀ x, evFn Tryz.prog tb [] [] Tryz.f32 val_FaultS.ins val_FaultS.outs x = val_FaultS.f x := fun x => by kernel_rfl
theorem val_Fault_k : fnK Tryz.f32 val_FaultS.ins val_FaultS.outs = true := by kernel_rfl
theorem val_Fault_sound : FnSound Tryz.prog tb 32 val_FaultS := fn_ev mixed Tryz.func32 val_Fault_k .nil rfl val_Fault_eq
def val_NumberF (x : Val) : Option (Dec × Val × Bool) :=
  brn (decide (x.Kind = 1)) (some (x.N, { Kind := 0, N := { M := 0, S := 0 }, S := [], B := false, E := 0 }, true))
    (brn (decide (x.Kind = 2))
      (obnd (dec_ParseF x.S) fun y =>
        brn (decide (y.snd = 0)) (some (y.fst, { Kind := 0, N := { M := 0, S := 0 }, S := [], B := false, E := 0 }, true))
          (obnd (val_FaultF 15) fun y => some ({ M := 0, S := 0 }, y, false)))
      (brn (decide (x.Kind = 3))
        (brn x.B (obnd (dec_IntF 1) fun y => some (y, { Kind := 0, N := { M := 0, S := 0 }, S := [], B := false, E := 0 }, true))
          (some ({ M := 0, S := 0 }, { Kind := 0, N := { M := 0, S := 0 }, S := [], B := false, E := 0 }, true)))
        (brn (decide (x.Kind = 4)) (some ({ M := 0, S := 0 }, x, false)) (some ({ M := 0, S := 0 }, { Kind := 0, N := { M := 0, S := 0 }, S := [], B := false, E := 0 }, true)))))
def val_NumberS : FSpec tb := ⟨[(0, .val 32)], [(0, .val 30), (1, .val 32), (2, .val 4)], val_NumberF⟩
theorem val_Number_eq : ∀ x, evFn Tryz.prog tb [(176, dec_ParseS), (32, val_FaultS), (33, dec_IntS)] [] Tryz.f85 val_NumberS.ins val_NumberS.outs x = val_NumberS.f x := fun x => by kernel_rfl
theorem val_Number_k : fnK Tryz.f85 val_NumberS.ins val_NumberS.outs = true := by kernel_rfl
theorem val_Number_sound : FnSound Tryz.prog tb 85 val_NumberS := fn_ev mixed Tryz.func85 val_Number_k (.cons dec_Parse_sound (.cons val_Fault_sound (.cons dec_Int_sound .nil))) rfl val_Number_eq
def val_TruthF (x : Val) : Option (Bool × Val × Bool) :=
  brn (decide (x.Kind = 1)) (some (!decide (x.N.M = 0), { Kind := 0, N := { M := 0, S := 0 }, S := [], B := false, E := 0 }, true))
    (brn (decide (x.Kind = 2))
      (brn (!decide (x.S = [84, 82, 85, 69]))
        (brn (!decide (x.S = U8s [70, 65, 76, 83, 69])) (obnd (val_FaultF 15) fun y => some (false, y, false))
          (some (decide (x.S = [84, 82, 85, 69]), { Kind := 0, N := { M := 0, S := 0 }, S := [], B := false, E := 0 }, true)))
        (some (decide (x.S = [84, 82, 85, 69]), { Kind := 0, N := { M := 0, S := 0 }, S := [], B := false, E := 0 }, true)))
      (brn (decide (x.Kind = 3)) (some (x.B, { Kind := 0, N := { M := 0, S := 0 }, S := [], B := false, E := 0 }, true))
        (brn (decide (x.Kind = 4)) (some (false, x, false)) (some (false, { Kind := 0, N := { M := 0, S := 0 }, S := [], B := false, E := 0 }, true)))))
def val_TruthS : FSpec tb := ⟨[(0, .val 32)], [(0, .val 4), (1, .val 32), (2, .val 4)], val_TruthF⟩
theorem val_Truth_eq : ∀ x, evFn Tryz.prog tb [(32, val_FaultS)] [] Tryz.f65 val_TruthS.ins val_TruthS.outs x = val_TruthS.f x := fun x => by kernel_rfl
theorem val_Truth_k : fnK Tryz.f65 val_TruthS.ins val_TruthS.outs = true := by kernel_rfl
theorem val_Truth_sound : FnSound Tryz.prog tb 65 val_TruthS := fn_ev mixed Tryz.func65 val_Truth_k (.cons val_Fault_sound .nil) rfl val_Truth_eq
def val_nameF (x : Int) : Option (List UInt8) :=
  brn (decide (x = 0)) (some (U8s [35, 78, 85, 76, 76, 33]))
    (brn (decide (x = 7)) (some (U8s [35, 68, 73, 86, 47, 48, 33]))
      (brn (decide (x = 15)) (some (U8s [35, 86, 65, 76, 85, 69, 33]))
        (brn (decide (x = 23)) (some (U8s [35, 82, 69, 70, 33]))
          (brn (decide (x = 29)) (some (U8s [35, 78, 65, 77, 69, 63]))
            (brn (decide (x = 36)) (some (U8s [35, 78, 85, 77, 33])) (brn (decide (x = 42)) (some [35, 78, 47, 65]) (some [])))))))
def val_nameS : FSpec tb := ⟨[(0, .val 3)], [(0, .val 9)], val_nameF⟩
theorem val_name_eq : ∀ x, evFn Tryz.prog tb [] [] Tryz.f102 val_nameS.ins val_nameS.outs x = val_nameS.f x := fun x => by kernel_rfl
theorem val_name_k : fnK Tryz.f102 val_nameS.ins val_nameS.outs = true := by kernel_rfl
theorem val_name_sound : FnSound Tryz.prog tb 102 val_nameS := fn_ev mixed Tryz.func102 val_name_k .nil rfl val_name_eq
def val_TextF (x : Val) : Option (List UInt8) :=
  brn (decide (x.Kind = 1)) (obnd (dec_TextF x.N) fun y => some y)
    (brn (decide (x.Kind = 2)) (some x.3)
      (brn (decide (x.Kind = 3)) (brn x.B (some [84, 82, 85, 69]) (some (U8s [70, 65, 76, 83, 69]))) (brn (decide (x.Kind = 4)) (obnd (val_nameF x.E) fun y => some y) (some []))))
def val_TextS : FSpec tb := ⟨[(0, .val 32)], [(0, .val 9)], val_TextF⟩
theorem val_Text_eq : ∀ x, evFn Tryz.prog tb [(175, dec_TextS), (102, val_nameS)] [] Tryz.f84 val_TextS.ins val_TextS.outs x = val_TextS.f x := fun x => by kernel_rfl
theorem val_Text_k : fnK Tryz.f84 val_TextS.ins val_TextS.outs = true := by kernel_rfl
theorem val_Text_sound : FnSound Tryz.prog tb 84 val_TextS := fn_ev mixed Tryz.func84 val_Text_k (.cons dec_Text_sound (.cons val_name_sound .nil)) rfl val_Text_eq
def val_WordsF (x : Val) : Option (List UInt8 × Val × Bool) :=
  brn (decide (x.Kind = 4)) (some ([], x, false)) (obnd (val_TextF x) fun y => some (y, { Kind := 0, N := { M := 0, S := 0 }, S := [], B := false, E := 0 }, true))
def val_WordsS : FSpec tb := ⟨[(0, .val 32)], [(0, .val 9), (1, .val 32), (2, .val 4)], val_WordsF⟩
theorem val_Words_eq : ∀ x, evFn Tryz.prog tb [(84, val_TextS)] [] Tryz.f142 val_WordsS.ins val_WordsS.outs x = val_WordsS.f x := fun x => by kernel_rfl
theorem val_Words_k : fnK Tryz.f142 val_WordsS.ins val_WordsS.outs = true := by kernel_rfl
theorem val_Words_sound : FnSound Tryz.prog tb 142 val_WordsS := fn_ev mixed Tryz.func142 val_Words_k (.cons val_Text_sound .nil) rfl val_Words_eq
def str_units_l1F (back : List (Int) × ((List UInt8 × Nat)) → Option ((List (Int)) × ((List UInt8 × Nat)))) (x : List (Int) × ((List UInt8 × Nat))) : Option ((List (Int)) × ((List UInt8 × Nat))) :=
  brn (decide (x.snd.snd < x.snd.fst.length))
    (brn (decide ((↑(rune x.snd.fst x.snd.snd).fst : Int) < 65536))
      (obnd (app 8 x.fst [IntKind.i64.wrap (↑(rune x.snd.fst x.snd.snd).fst : Int)]) fun zs => back (zs, x.snd.fst, x.snd.snd + (rune x.snd.fst x.snd.snd).snd))
      (obnd
        (app 8 x.fst
          [IntKind.i64.wrap (55296 + IntKind.i64.wrap ((IntKind.i32.wrap ((↑(rune x.snd.fst x.snd.snd).fst : Int) - 65536)).fdiv 1024)),
            IntKind.i64.wrap (56320 + IntKind.i64.wrap (bitsOf BinOp.and IntKind.i32 (IntKind.i32.wrap ((↑(rune x.snd.fst x.snd.snd).fst : Int) - 65536)) 1023))])
        fun zs => back (zs, x.snd.fst, x.snd.snd + (rune x.snd.fst x.snd.snd).snd)))
    (some x)
def str_units_l1J : List (Int) × ((List UInt8 × Nat)) → Option ((List (Int)) × ((List UInt8 × Nat))) := iter str_units_l1F big
def str_units_l1C : CutSpec tb := ⟨36, [(3, .own 3), (7, .iter)], [((.exit 0), [(3, .own 3)])], [8, 9, 10, 5, 11, 12, 13, 14, 15, 16, 17, 3, 18, 19, 20, 21, 22, 23, 24, 25, 26, 27, 28, 29, 30], str_units_l1J⟩
set_option maxRecDepth 100000 in
theorem str_units_l1_eq : ∀ back x, evLoop Tryz.prog tb [] [] (loopAt 36 Tryz.f183) str_units_l1C.ins str_units_l1C.outs back x = str_units_l1F back x := fun back x => by kernel_rfl
theorem str_units_l1_k : cutB Tryz.f183.ntmps str_units_l1C (loopAt 36 Tryz.f183) = true := by kernel_rfl
theorem str_units_l1_in : cutsOf ([] : List (CutSpec tb)) (loopAt 36 Tryz.f183) = [] := by kernel_rfl
theorem str_units_l1_cut : CutSound Tryz.prog tb Tryz.f183.ntmps (.loop (loopAt 36 Tryz.f183)) str_units_l1C := loop_it mixed str_units_l1_k .nil rfl str_units_l1_in .nil str_units_l1F str_units_l1_eq rfl
def str_unitsF (x : List UInt8) : Option (List (Int)) :=
  obnd (str_units_l1J ([], x, 0)) fun y => some y.1
def str_unitsS : FSpec tb := ⟨[(0, .val 9)], [(0, .own 3)], str_unitsF⟩
theorem str_units_eq : ∀ x, evFn Tryz.prog tb [] [str_units_l1C] Tryz.f183 str_unitsS.ins str_unitsS.outs x = str_unitsS.f x := fun x => by kernel_rfl
theorem str_units_k : fnK Tryz.f183 str_unitsS.ins str_unitsS.outs = true := by kernel_rfl
theorem str_units_in : cutsOf ([str_units_l1C] : List (CutSpec tb)) (bodyOf Tryz.f183) = [(36, .loop (loopAt 36 Tryz.f183))] := by kernel_rfl
theorem str_units_sound : FnSound Tryz.prog tb 183 str_unitsS := fn_cut mixed Tryz.func183 str_units_k .nil rfl str_units_in (.cons rfl str_units_l1_cut rfl .nil) str_units_eq
def str_UnitsF (x : List UInt8) : Option (Int × Int) :=
  obnd (utf8_ValidStringF x) fun y =>
    brn (!y) (some (0, 2)) (obnd (str_unitsF x) fun y => brn (decide (1000 < (↑(List.length y) : Int))) (some (0, 4)) (some ((↑(List.length y) : Int), 0)))
def str_UnitsS : FSpec tb := ⟨[(0, .val 9)], [(0, .val 3), (1, .val 63)], str_UnitsF⟩
theorem str_Units_eq : ∀ x, evFn Tryz.prog tb [(182, utf8_ValidStringS), (183, str_unitsS)] [] Tryz.f101 str_UnitsS.ins str_UnitsS.outs x = str_UnitsS.f x := fun x => by kernel_rfl
theorem str_Units_k : fnK Tryz.f101 str_UnitsS.ins str_UnitsS.outs = true := by kernel_rfl
theorem str_Units_sound : FnSound Tryz.prog tb 101 str_UnitsS := fn_ev mixed Tryz.func101 str_Units_k (.cons utf8_ValidString_sound (.cons str_units_sound .nil)) rfl str_Units_eq
abbrev val_textsG : List (Nat × FSpec tb) := [(174, cmp_Compare_runeS), (80, cmp_Compare_intS)]
theorem val_textsG_ok : AllSound Tryz.prog tb val_textsG := (.cons cmp_Compare_rune_sound (.cons cmp_Compare_int_sound .nil))
def val_texts_l1F (back : List Int × Int × ((List UInt8 × Nat)) → Option (((Int) × ((List UInt8 × Nat))) ⊕ ((Int) × ((List UInt8 × Nat))))) (x : List Int × Int × ((List UInt8 × Nat))) : Option (((Int) × ((List UInt8 × Nat))) ⊕ ((Int) × ((List UInt8 × Nat)))) :=
  brn (decide (x.2.snd.snd < x.2.snd.fst.length))
    (brn (decide (x.2.fst = (↑x.fst.length : Int))) (some (Sum.inr (1, x.2.snd.fst, x.2.snd.snd + (rune x.2.snd.fst x.2.snd.snd).snd)))
      (obnd (idx x.fst x.2.fst) fun y =>
        brn (!decide ((↑(rune x.2.snd.fst x.2.snd.snd).fst : Int) = y))
          (obnd (idx x.fst x.2.fst) fun y =>
            obnd (cmp_Compare_runeF ((↑(rune x.2.snd.fst x.2.snd.snd).fst : Int), y)) fun y => some (Sum.inr (y, x.2.snd.fst, x.2.snd.snd + (rune x.2.snd.fst x.2.snd.snd).snd)))
          (back (x.fst, IntKind.i64.wrap (x.2.fst + 1), x.2.snd.fst, x.2.snd.snd + (rune x.2.snd.fst x.2.snd.snd).snd))))
    (some (Sum.inl x.2))
def val_texts_l1J : List Int × Int × ((List UInt8 × Nat)) → Option (((Int) × ((List UInt8 × Nat))) ⊕ ((Int) × ((List UInt8 × Nat)))) := iter val_texts_l1F big
def val_texts_l1C : CutSpec tb := ⟨44, [(5, .val 45), (6, .val 3), (12, .iter)], [((.exit 0), [(6, .val 3)]), (.ret, [(4, .val 3)])], [13, 14, 15, 8, 16, 17, 18, 19, 4, 20, 21, 22, 23, 24, 25, 26, 27, 28, 29, 30, 31, 32, 33, 6], val_texts_l1J⟩
theorem val_texts_l1_eq : ∀ back x, evLoop Tryz.prog tb val_textsG [] (loopAt 44 Tryz.f81) val_texts_l1C.ins val_texts_l1C.outs back x = val_texts_l1F back x := fun back x => by kernel_rfl
theorem val_texts_l1_k : cutB Tryz.f81.ntmps val_texts_l1C (loopAt 44 Tryz.f81) = true := by kernel_rfl
theorem val_texts_l1_in : cutsOf ([] : List (CutSpec tb)) (loopAt 44 Tryz.f81) = [] := by kernel_rfl
theorem val_texts_l1_cut : CutSound Tryz.prog tb Tryz.f81.ntmps (.loop (loopAt 44 Tryz.f81)) val_texts_l1C := loop_it mixed val_texts_l1_k val_textsG_ok rfl val_texts_l1_in .nil val_texts_l1F val_texts_l1_eq rfl
def val_textsF (x : List UInt8 × List UInt8) : Option (Int) :=
  obnd (bif x.snd.length.ble 70368744177664 then some (runesL x.snd x.snd.length 0) else none) fun rs =>
    obnd (val_texts_l1J (rs, 0, x.fst, 0)) fun y => osum y (fun y => obnd (cmp_Compare_intF (y.1, (↑rs.length : Int))) fun y => some y) fun y => some y.1
def val_textsS : FSpec tb := ⟨[(0, .val 9), (1, .val 9)], [(0, .val 3)], val_textsF⟩
theorem val_texts_eq : ∀ x, evFn Tryz.prog tb val_textsG [val_texts_l1C] Tryz.f81 val_textsS.ins val_textsS.outs x = val_textsS.f x := fun x => by kernel_rfl
theorem val_texts_k : fnK Tryz.f81 val_textsS.ins val_textsS.outs = true := by kernel_rfl
theorem val_texts_in : cutsOf ([val_texts_l1C] : List (CutSpec tb)) (bodyOf Tryz.f81) = [(44, .loop (loopAt 44 Tryz.f81))] := by kernel_rfl
theorem val_texts_sound : FnSound Tryz.prog tb 81 val_textsS := fn_cut mixed Tryz.func81 val_texts_k val_textsG_ok rfl val_texts_in (.cons rfl val_texts_l1_cut rfl .nil) val_texts_eq
def val_numberF (x : Bool) : Option (Int) :=
  brn x (some 1) (some 0)
def val_numberS : FSpec tb := ⟨[(0, .val 4)], [(0, .val 3)], val_numberF⟩
theorem val_number_eq : ∀ x, evFn Tryz.prog tb [] [] Tryz.f82 val_numberS.ins val_numberS.outs x = val_numberS.f x := fun x => by kernel_rfl
theorem val_number_k : fnK Tryz.f82 val_numberS.ins val_numberS.outs = true := by kernel_rfl
theorem val_number_sound : FnSound Tryz.prog tb 82 val_numberS := fn_ev mixed Tryz.func82 val_number_k .nil rfl val_number_eq
abbrev val_CompareG : List (Nat × FSpec tb) := [(80, cmp_Compare_intS), (34, dec_CompareS), (81, val_textsS), (82, val_numberS)]
theorem val_CompareG_ok : AllSound Tryz.prog tb val_CompareG := (.cons cmp_Compare_int_sound (.cons dec_Compare_sound (.cons val_texts_sound (.cons val_number_sound .nil))))
def val_Compare_b1J (x : Val × Val) : Option (Bool) :=
  brn (decide (x.fst.Kind = 0)) (some (bif decide (x.snd.Kind = 4) then false else true)) (some false)
def val_Compare_b1C : CutSpec tb := ⟨16, [(2, .ro 32), (3, .ro 32)], [(.normal, [(12, .val 4)])], [5, 6, 7, 8, 9, 10, 11, 12], val_Compare_b1J⟩
theorem val_Compare_b1_eq : ∀ x, evBlk Tryz.prog tb val_CompareG [] (codeAt 16 Tryz.f27) val_Compare_b1C.ins val_Compare_b1C.outs x = val_Compare_b1C.J x := fun x => by kernel_rfl
theorem val_Compare_b1_k : cutB Tryz.f27.ntmps val_Compare_b1C (codeAt 16 Tryz.f27) = true := by kernel_rfl
theorem val_Compare_b1_in : cutsOf ([] : List (CutSpec tb)) (codeAt 16 Tryz.f27) = [] := by kernel_rfl
theorem val_Compare_b1_cut : CutSound Tryz.prog tb Tryz.f27.ntmps (codeAt 16 Tryz.f27) val_Compare_b1C := blk_ev mixed val_Compare_b1_k val_CompareG_ok rfl val_Compare_b1_in .nil val_Compare_b1_eq
def val_Compare_b2J (x : Val × Val × Int) : Option ((Unit) ⊕ (Int)) :=
  brn (decide (x.2.snd = 1)) (obnd (dec_CompareF (x.fst.N, x.2.fst.N)) fun y => some (Sum.inr y))
    (brn (decide (x.2.snd = 2)) (obnd (val_textsF (x.fst.S, x.2.fst.S)) fun y => some (Sum.inr y))
      (brn (decide (x.2.snd = 3)) (obnd (val_numberF x.fst.B) fun y => obnd (val_numberF x.2.fst.B) fun y_1 => obnd (cmp_Compare_intF (y, y_1)) fun y => some (Sum.inr y))
        (brn (decide (x.2.snd = 4)) (obnd (cmp_Compare_intF (x.fst.E, x.2.fst.E)) fun y => some (Sum.inr y)) (some (Sum.inl PUnit.unit)))))
def val_Compare_b2C : CutSpec tb := ⟨75, [(2, .ro 32), (3, .ro 32), (38, .val 3)], [(.normal, []), (.ret, [(4, .val 3)])], [40, 39, 41, 42, 43, 44, 45, 4, 47, 46, 48, 49, 50, 51, 52, 54, 53, 55, 56, 57, 58, 59, 60, 61, 63, 62, 64, 65, 66, 67, 68], val_Compare_b2J⟩
theorem val_Compare_b2_eq : ∀ x, evBlk Tryz.prog tb val_CompareG [] (codeAt 75 Tryz.f27) val_Compare_b2C.ins val_Compare_b2C.outs x = val_Compare_b2C.J x := fun x => by kernel_rfl
theorem val_Compare_b2_k : cutB Tryz.f27.ntmps val_Compare_b2C (codeAt 75 Tryz.f27) = true := by kernel_rfl
theorem val_Compare_b2_in : cutsOf ([] : List (CutSpec tb)) (codeAt 75 Tryz.f27) = [] := by kernel_rfl
theorem val_Compare_b2_cut : CutSound Tryz.prog tb Tryz.f27.ntmps (codeAt 75 Tryz.f27) val_Compare_b2C := blk_ev mixed val_Compare_b2_k val_CompareG_ok rfl val_Compare_b2_in .nil val_Compare_b2_eq
def val_CompareF (x : Val × Val) : Option (Int) :=
  obnd (val_Compare_b1J x) fun y =>
    brn y
      (brn (decide (x.snd.Kind = 0))
        (brn (!decide (x.snd.Kind = 4))
          (brn (!decide (x.snd.Kind = x.snd.Kind)) (obnd (cmp_Compare_intF (x.snd.Kind, x.snd.Kind)) fun y => some y)
            (obnd
              (val_Compare_b2J
                ({ Kind := x.snd.Kind, N := { M := 0, S := 0 }, S := [], B := false, E := 0 }, { Kind := x.snd.Kind, N := { M := 0, S := 0 }, S := [], B := false, E := 0 },
                  x.snd.Kind))
              fun y => osum y (fun y => some 0) fun y => some y))
          (brn (!decide (x.snd.Kind = x.snd.Kind)) (obnd (cmp_Compare_intF (x.snd.Kind, x.snd.Kind)) fun y => some y)
            (obnd (val_Compare_b2J ({ Kind := x.snd.Kind, N := { M := 0, S := 0 }, S := [], B := false, E := 0 }, x.snd, x.snd.Kind)) fun y =>
              osum y (fun y => some 0) fun y => some y)))
        (brn (!decide (x.snd.Kind = x.snd.Kind)) (obnd (cmp_Compare_intF (x.snd.Kind, x.snd.Kind)) fun y => some y)
          (obnd (val_Compare_b2J ({ Kind := x.snd.Kind, N := { M := 0, S := 0 }, S := [], B := false, E := 0 }, x.snd, x.snd.Kind)) fun y =>
            osum y (fun y => some 0) fun y => some y)))
      (brn (decide (x.snd.Kind = 0))
        (brn (!decide (x.fst.Kind = 4))
          (brn (!decide (x.fst.Kind = x.fst.Kind)) (obnd (cmp_Compare_intF (x.fst.Kind, x.fst.Kind)) fun y => some y)
            (obnd (val_Compare_b2J (x.fst, { Kind := x.fst.Kind, N := { M := 0, S := 0 }, S := [], B := false, E := 0 }, x.fst.Kind)) fun y =>
              osum y (fun y => some 0) fun y => some y))
          (brn (!decide (x.fst.Kind = x.snd.Kind)) (obnd (cmp_Compare_intF (x.fst.Kind, x.snd.Kind)) fun y => some y)
            (obnd (val_Compare_b2J (x.fst, x.snd, x.fst.Kind)) fun y => osum y (fun y => some 0) fun y => some y)))
        (brn (!decide (x.fst.Kind = x.snd.Kind)) (obnd (cmp_Compare_intF (x.fst.Kind, x.snd.Kind)) fun y => some y)
          (obnd (val_Compare_b2J (x.fst, x.snd, x.fst.Kind)) fun y => osum y (fun y => some 0) fun y => some y)))
def val_CompareS : FSpec tb := ⟨[(0, .val 32), (1, .val 32)], [(0, .val 3)], val_CompareF⟩
theorem val_Compare_eq : ∀ x, evFn Tryz.prog tb val_CompareG [val_Compare_b1C, val_Compare_b2C] Tryz.f27 val_CompareS.ins val_CompareS.outs x = val_CompareS.f x := fun x => by kernel_rfl
theorem val_Compare_k : fnK Tryz.f27 val_CompareS.ins val_CompareS.outs = true := by kernel_rfl
theorem val_Compare_in : cutsOf ([val_Compare_b1C, val_Compare_b2C] : List (CutSpec tb)) (bodyOf Tryz.f27) = [(16, codeAt 16 Tryz.f27), (75, codeAt 75 Tryz.f27)] := by kernel_rfl
theorem val_Compare_sound : FnSound Tryz.prog tb 27 val_CompareS := fn_cut mixed Tryz.func27 val_Compare_k val_CompareG_ok rfl val_Compare_in (.cons rfl val_Compare_b1_cut rfl (.cons rfl val_Compare_b2_cut rfl .nil)) val_Compare_eq
def ref7_Runes_b3J (x : Int × Int × Int) : Option ((Int × Int × Int) ⊕ (List (Int) × Bool)) :=
  brn (decide (x.fst < 128)) (some (Sum.inl (x.2.fst, x.fst, x.2.snd)))
    (brn (decide (194 ≤ x.fst))
      (brn (decide (x.fst < 224)) (some (Sum.inl (1, bitsOf BinOp.and IntKind.i64 x.fst 31, 128)))
        (brn (decide (224 ≤ x.fst))
          (brn (decide (x.fst < 240)) (some (Sum.inl (2, bitsOf BinOp.and IntKind.i64 x.fst 15, 2048)))
            (brn (decide (240 ≤ x.fst)) (brn (decide (x.fst < 245)) (some (Sum.inl (3, bitsOf BinOp.and IntKind.i64 x.fst 7, 65536))) (some (Sum.inr ([], false))))
              (some (Sum.inr ([], false)))))
          (brn (decide (240 ≤ x.fst)) (brn (decide (x.fst < 245)) (some (Sum.inl (3, bitsOf BinOp.and IntKind.i64 x.fst 7, 65536))) (some (Sum.inr ([], false))))
            (some (Sum.inr ([], false))))))
      (brn (decide (224 ≤ x.fst))
        (brn (decide (x.fst < 240)) (some (Sum.inl (2, bitsOf BinOp.and IntKind.i64 x.fst 15, 2048)))
          (brn (decide (240 ≤ x.fst)) (brn (decide (x.fst < 245)) (some (Sum.inl (3, bitsOf BinOp.and IntKind.i64 x.fst 7, 65536))) (some (Sum.inr ([], false))))
            (some (Sum.inr ([], false)))))
        (brn (decide (240 ≤ x.fst)) (brn (decide (x.fst < 245)) (some (Sum.inl (3, bitsOf BinOp.and IntKind.i64 x.fst 7, 65536))) (some (Sum.inr ([], false))))
          (some (Sum.inr ([], false))))))
def ref7_Runes_b3C : CutSpec tb := ⟨83, [(6, .val 3), (7, .val 3), (9, .val 3)], [(.normal, [(7, .val 3), (8, .val 3), (9, .val 3)]), (.ret, [(2, .own 3), (3, .val 4)])], [21, 22, 20, 23, 8, 25, 26, 27, 28, 29, 30, 24, 7, 31, 32, 9, 34, 35, 36, 37, 38, 39, 33, 40, 41, 43, 44, 45, 46, 47, 48, 42, 49, 50, 2, 3], ref7_Runes_b3J⟩
set_option maxRecDepth 100000 in
theorem ref7_Runes_b3_eq : ∀ x, evBlk Tryz.prog tb [] [] (codeAt 83 Tryz.f28) ref7_Runes_b3C.ins ref7_Runes_b3C.outs x = ref7_Runes_b3C.J x := fun x => by kernel_rfl
theorem ref7_Runes_b3_k : cutB Tryz.f28.ntmps ref7_Runes_b3C (codeAt 83 Tryz.f28) = true := by kernel_rfl
theorem ref7_Runes_b3_in : cutsOf ([] : List (CutSpec tb)) (codeAt 83 Tryz.f28) = [] := by kernel_rfl
theorem ref7_Runes_b3_cut : CutSound Tryz.prog tb Tryz.f28.ntmps (codeAt 83 Tryz.f28) ref7_Runes_b3C := blk_ev mixed ref7_Runes_b3_k .nil rfl ref7_Runes_b3_in .nil ref7_Runes_b3_eq
def ref7_Runes_l4F (back : List UInt8 × Int × Int × Int × Int → Option ((Int) ⊕ (List (Int) × Bool))) (x : List UInt8 × Int × Int × Int × Int) : Option ((Int) ⊕ (List (Int) × Bool)) :=
  brn (decide (x.2.2.2.snd ≤ x.2.2.fst))
    (obnd (idx x.fst (IntKind.i64.wrap (x.2.fst + x.2.2.2.snd))) fun y =>
      brn (!decide (bitsOf BinOp.and IntKind.i64 (IntKind.i64.wrap (↑y.toNat : Int)) 192 = 128)) (some (Sum.inr ([], false)))
        (back
          (x.fst, x.2.fst, x.2.2.fst, bitsOf BinOp.or IntKind.i64 (IntKind.i64.wrap (x.2.2.2.fst * 64)) (bitsOf BinOp.and IntKind.i64 (IntKind.i64.wrap (↑y.toNat : Int)) 63),
            IntKind.i64.wrap (x.2.2.2.snd + 1))))
    (some (Sum.inl x.2.2.2.1))
def ref7_Runes_l4J : List UInt8 × Int × Int × Int × Int → Option ((Int) ⊕ (List (Int) × Bool)) := iter ref7_Runes_l4F big
def ref7_Runes_l4C : CutSpec tb := ⟨220, [(0, .val 9), (5, .val 3), (7, .val 3), (8, .val 3), (10, .val 3)], [((.exit 3), [(8, .val 3)]), (.ret, [(2, .own 3), (3, .val 4)])], [57, 58, 59, 62, 63, 64, 65, 66, 67, 11, 68, 69, 70, 2, 3, 71, 72, 73, 74, 75, 8, 60, 61, 10], ref7_Runes_l4J⟩
set_option maxRecDepth 100000 in
theorem ref7_Runes_l4_eq : ∀ back x, evLoop Tryz.prog tb [] [] (loopAt 220 Tryz.f28) ref7_Runes_l4C.ins ref7_Runes_l4C.outs back x = ref7_Runes_l4F back x := fun back x => by kernel_rfl
theorem ref7_Runes_l4_k : cutB Tryz.f28.ntmps ref7_Runes_l4C (loopAt 220 Tryz.f28) = true := by kernel_rfl
theorem ref7_Runes_l4_in : cutsOf ([] : List (CutSpec tb)) (loopAt 220 Tryz.f28) = [] := by kernel_rfl
theorem ref7_Runes_l4_cut : CutSound Tryz.prog tb Tryz.f28.ntmps (.loop (loopAt 220 Tryz.f28)) ref7_Runes_l4C := loop_it mixed ref7_Runes_l4_k .nil rfl ref7_Runes_l4_in .nil ref7_Runes_l4F ref7_Runes_l4_eq rfl
def ref7_Runes_b2J (x : List UInt8 × List (Int) × Int) : Option ((List (Int) × Int) ⊕ (List (Int) × Bool)) :=
  obnd (idx x.fst x.2.snd) fun y =>
    obnd (ref7_Runes_b3J (IntKind.i64.wrap (↑y.toNat : Int), 0, 0)) fun y =>
      osum y
        (fun y =>
          brn (decide (IntKind.i64.wrap ((↑x.fst.length : Int) - x.2.snd) ≤ y.fst)) (some (Sum.inr ([], false)))
            (obnd (ref7_Runes_l4J (x.fst, x.2.snd, y.fst, y.2.fst, 1)) fun y_1 =>
              osum y_1
                (fun y_2 =>
                  brn (decide (y_2 < y.2.snd)) (some (Sum.inr ([], false)))
                    (brn (decide (55296 ≤ y_2))
                      (brn (decide (y_2 < 57344)) (some (Sum.inr ([], false)))
                        (brn (decide (1114111 < y_2)) (some (Sum.inr ([], false)))
                          (obnd (app 8 x.2.fst [y_2]) fun zs => some (Sum.inl (zs, IntKind.i64.wrap (IntKind.i64.wrap (x.2.snd + y.fst) + 1))))))
                      (brn (decide (1114111 < y_2)) (some (Sum.inr ([], false)))
                        (obnd (app 8 x.2.fst [y_2]) fun zs => some (Sum.inl (zs, IntKind.i64.wrap (IntKind.i64.wrap (x.2.snd + y.fst) + 1)))))))
                fun y => some (Sum.inr y)))
        fun y => some (Sum.inr y)
def ref7_Runes_b2C : CutSpec tb := ⟨43, [(0, .val 9), (4, .own 3), (5, .val 3)], [(.normal, [(4, .own 3), (5, .val 3)]), (.ret, [(2, .own 3), (3, .val 4)])], [16, 17, 18, 19, 6, 7, 8, 9, 21, 22, 20, 23, 25, 26, 27, 28, 29, 30, 24, 31, 32, 34, 35, 36, 37, 38, 39, 33, 40, 41, 43, 44, 45, 46, 47, 48, 42, 49, 50, 2, 3, 51, 52, 53, 54, 55, 56, 10, 57, 58, 59, 62, 63, 64, 65, 66, 67, 11, 68, 69, 70, 71, 72, 73, 74, 75, 60, 61, 76, 77, 78, 79, 80, 81, 82, 83, 84, 85, 86, 87, 88, 89, 90, 91, 92, 93, 94, 4, 95, 96, 97, 98, 5], ref7_Runes_b2J⟩
set_option maxRecDepth 100000 in
theorem ref7_Runes_b2_eq : ∀ x, evBlk Tryz.prog tb [] [ref7_Runes_b3C, ref7_Runes_l4C] (codeAt 43 Tryz.f28) ref7_Runes_b2C.ins ref7_Runes_b2C.outs x = ref7_Runes_b2C.J x := fun x => by kernel_rfl
theorem ref7_Runes_b2_k : cutB Tryz.f28.ntmps ref7_Runes_b2C (codeAt 43 Tryz.f28) = true := by kernel_rfl
theorem ref7_Runes_b2_in : cutsOf ([ref7_Runes_b3C, ref7_Runes_l4C] : List (CutSpec tb)) (codeAt 43 Tryz.f28) = [(83, codeAt 83 Tryz.f28), (220, .loop (loopAt 220 Tryz.f28))] := by kernel_rfl
theorem ref7_Runes_b2_cut : CutSound Tryz.prog tb Tryz.f28.ntmps (codeAt 43 Tryz.f28) ref7_Runes_b2C := blk_ev mixed ref7_Runes_b2_k .nil rfl ref7_Runes_b2_in (.cons rfl ref7_Runes_b3_cut rfl (.cons rfl ref7_Runes_l4_cut rfl .nil)) ref7_Runes_b2_eq
def ref7_Runes_l1F (back : List UInt8 × List (Int) × Int → Option ((List (Int)) ⊕ (List (Int) × Bool))) (x : List UInt8 × List (Int) × Int) : Option ((List (Int)) ⊕ (List (Int) × Bool)) :=
  brn (decide (x.2.snd < (↑x.fst.length : Int))) (obnd (ref7_Runes_b2J (x.fst, x.2)) fun y => osum y (fun y => back (x.fst, y)) fun y => some (Sum.inr y)) (some (Sum.inl x.2.1))
def ref7_Runes_l1J : List UInt8 × List (Int) × Int → Option ((List (Int)) ⊕ (List (Int) × Bool)) := iter ref7_Runes_l1F big
def ref7_Runes_l1C : CutSpec tb := ⟨36, [(0, .val 9), (4, .own 3), (5, .val 3)], [((.exit 0), [(4, .own 3)]), (.ret, [(2, .own 3), (3, .val 4)])], [12, 13, 14, 15, 16, 17, 18, 19, 6, 7, 8, 9, 21, 22, 20, 23, 25, 26, 27, 28, 29, 30, 24, 31, 32, 34, 35, 36, 37, 38, 39, 33, 40, 41, 43, 44, 45, 46, 47, 48, 42, 49, 50, 2, 3, 51, 52, 53, 54, 55, 56, 10, 57, 58, 59, 62, 63, 64, 65, 66, 67, 11, 68, 69, 70, 71, 72, 73, 74, 75, 60, 61, 76, 77, 78, 79, 80, 81, 82, 83, 84, 85, 86, 87, 88, 89, 90, 91, 92, 93, 94, 4, 95, 96, 97, 98, 5], ref7_Runes_l1J⟩
set_option maxRecDepth 100000 in
theorem ref7_Runes_l1_eq : ∀ back x, evLoop Tryz.prog tb [] [ref7_Runes_b2C] (loopAt 36 Tryz.f28) ref7_Runes_l1C.ins ref7_Runes_l1C.outs back x = ref7_Runes_l1F back x := fun back x => by kernel_rfl
theorem ref7_Runes_l1_k : cutB Tryz.f28.ntmps ref7_Runes_l1C (loopAt 36 Tryz.f28) = true := by kernel_rfl
theorem ref7_Runes_l1_in : cutsOf ([ref7_Runes_b2C] : List (CutSpec tb)) (loopAt 36 Tryz.f28) = [(43, codeAt 43 Tryz.f28)] := by kernel_rfl
theorem ref7_Runes_l1_cut : CutSound Tryz.prog tb Tryz.f28.ntmps (.loop (loopAt 36 Tryz.f28)) ref7_Runes_l1C := loop_it mixed ref7_Runes_l1_k .nil rfl ref7_Runes_l1_in (.cons rfl ref7_Runes_b2_cut rfl .nil) ref7_Runes_l1F ref7_Runes_l1_eq rfl
def ref7_RunesF (x : List UInt8) : Option (List (Int) × Bool) :=
  obnd (ref7_Runes_l1J (x, [], 0)) fun y => osum y (fun y => some (y, true)) fun y => some y
def ref7_RunesS : FSpec tb := ⟨[(0, .val 9)], [(0, .own 3), (1, .val 4)], ref7_RunesF⟩
set_option maxRecDepth 100000 in
theorem ref7_Runes_eq : ∀ x, evFn Tryz.prog tb [] [ref7_Runes_l1C] Tryz.f28 ref7_RunesS.ins ref7_RunesS.outs x = ref7_RunesS.f x := fun x => by kernel_rfl
theorem ref7_Runes_k : fnK Tryz.f28 ref7_RunesS.ins ref7_RunesS.outs = true := by kernel_rfl
theorem ref7_Runes_in : cutsOf ([ref7_Runes_l1C] : List (CutSpec tb)) (bodyOf Tryz.f28) = [(36, .loop (loopAt 36 Tryz.f28))] := by kernel_rfl
theorem ref7_Runes_sound : FnSound Tryz.prog tb 28 ref7_RunesS := fn_cut mixed Tryz.func28 ref7_Runes_k .nil rfl ref7_Runes_in (.cons rfl ref7_Runes_l1_cut rfl .nil) ref7_Runes_eq
def ref13_ErrTextF (x : Int) : Option (List UInt8) :=
  brn (decide (x = 0)) (some (U8s [35, 78, 85, 76, 76, 33]))
    (brn (decide (x = 7)) (some (U8s [35, 68, 73, 86, 47, 48, 33]))
      (brn (decide (x = 15)) (some (U8s [35, 86, 65, 76, 85, 69, 33]))
        (brn (decide (x = 23)) (some (U8s [35, 82, 69, 70, 33]))
          (brn (decide (x = 29)) (some (U8s [35, 78, 65, 77, 69, 63]))
            (brn (decide (x = 36)) (some (U8s [35, 78, 85, 77, 33])) (brn (decide (x = 42)) (some [35, 78, 47, 65]) (some [])))))))
def ref13_FaultF (x : Int) : Option (Val) :=
  some { Kind := 4, N := { M := 0, S := 0 }, S := [], B := false, E := x }
def ref7_trim_l1F (back : Big × Int → Option (Int)) (x : Big × Int) : Option (Int) :=
  brn (decide (0 < x.snd)) (obnd (idx x.fst.D (IntKind.i64.wrap (x.snd - 1))) fun y => brn (decide (y = 0)) (back (x.fst, IntKind.i64.wrap (x.snd - 1))) (some x.2)) (some x.2)
def ref7_trim_l1J : Big × Int → Option (Int) := iter ref7_trim_l1F big
def ref7_trimF (x : Big) : Option (Big) :=
  obnd (ref7_trim_l1J (x, (↑x.D.length : Int))) fun y => obnd (sub x.D 0 y) fun z => brn (decide (y = 0)) (some { Minus := false, D := z }) (some { Minus := x.Minus, D := z })
def ref7_small_l1F (back : Int × Big → Option ((Int) × Big)) (x : Int × Big) : Option ((Int) × Big) :=
  brn (decide (0 < x.fst))
    (brn (decide ((↑x.snd.D.length : Int) = 0))
      (brn (decide (0 < (↑x.snd.D.length : Int))) (obnd (sub x.snd.D 1 (↑x.snd.D.length : Int)) fun z => back (IntKind.i64.wrap (x.fst - 1), { Minus := x.snd.Minus, D := z }))
        (back (IntKind.i64.wrap (x.fst - 1), x.snd)))
      (obnd (idx x.snd.D 0) fun y =>
        brn (decide (y = 0))
          (brn (decide (0 < (↑x.snd.D.length : Int))) (obnd (sub x.snd.D 1 (↑x.snd.D.length : Int)) fun z => back (IntKind.i64.wrap (x.fst - 1), { Minus := x.snd.Minus, D := z }))
            (back (IntKind.i64.wrap (x.fst - 1), x.snd)))
          (some x)))
    (some x)
def ref7_small_l1J : Int × Big → Option ((Int) × Big) := iter ref7_small_l1F big
def ref7_small_l2F (back : Big × Int × Int → Option (Int)) (x : Big × Int × Int) : Option (Int) :=
  brn (decide (0 ≤ x.2.snd))
    (obnd (idx x.fst.D x.2.snd) fun y => back (x.fst, IntKind.u64.wrap (IntKind.u64.wrap (10 * x.2.fst) + IntKind.u64.wrap y), IntKind.i64.wrap (x.2.snd - 1))) (some x.2.1)
def ref7_small_l2J : Big × Int × Int → Option (Int) := iter ref7_small_l2F big
def ref7_smallF (x : Big × Int) : Option (Dec × Int) :=
  obnd (ref7_small_l1J (x.snd, x.fst)) fun y =>
    brn (decide (19 < (↑y.2.D.length : Int))) (some ({ M := 0, S := 0 }, 8))
      (obnd (ref7_small_l2J (y.2, 0, IntKind.i64.wrap ((↑y.2.D.length : Int) - 1))) fun y_1 =>
        brn y.2.Minus (brn (decide (9223372036854775808 < y_1)) (some ({ M := 0, S := 0 }, 8)) (some ({ M := IntKind.i64.wrap (IntKind.u64.wrap (0 - y_1)), S := y.1 }, 0)))
          (brn (decide (9223372036854775807 < y_1)) (some ({ M := 0, S := 0 }, 8)) (some ({ M := IntKind.i64.wrap y_1, S := y.1 }, 0))))
def ref7_ParseDec_b1J (x : List UInt8) : Option (Bool) :=
  brn (decide (0 < (↑x.length : Int))) (obnd (idx x 0) fun y => some (decide ((↑y.toNat : Int) = 45))) (some false)
def ref7_ParseDec_b2J (x : Big × Int × Bool) : Option ((Int) × Big) :=
  brn x.2.snd (some (IntKind.i64.wrap (x.2.fst + 1), { Minus := true, D := x.fst.D })) (some (x.2.fst, x.fst))
def ref7_ParseDec_l3F (back : List UInt8 × Dec × Big × Int × Int × Int → Option (((Int) × (Dec × Big)) ⊕ ((Int) × (Dec × Big)))) (x : List UInt8 × Dec × Big × Int × Int × Int) : Option (((Int) × (Dec × Big)) ⊕ ((Int) × (Dec × Big))) :=
  brn (decide (x.2.2.2.2.snd < (↑x.fst.length : Int)))
    (obnd (idx x.fst x.2.2.2.2.snd) fun y =>
      brn (decide ((↑y.toNat : Int) = 46))
        (brn (decide (x.2.2.2.2.fst < 0))
          (brn (decide (x.2.2.2.fst < x.2.2.2.2.snd)) (back (x.fst, x.2.fst, x.2.2.fst, x.2.2.2.fst, x.2.2.2.2.snd, IntKind.i64.wrap (x.2.2.2.2.snd + 1)))
            (obnd (idx x.fst x.2.2.2.2.snd) fun y =>
              brn (decide (48 ≤ (↑y.toNat : Int)))
                (obnd (idx x.fst x.2.2.2.2.snd) fun y =>
                  brn (decide ((↑y.toNat : Int) ≤ 57))
                    (obnd (idx x.fst x.2.2.2.2.snd) fun y =>
                      obnd (app 8 [IntKind.i64.wrap (IntKind.u8.wrap ((↑y.toNat : Int) - 48))] x.2.2.fst.D) fun zs =>
                        back (x.fst, x.2.fst, { Minus := x.2.2.fst.Minus, D := zs }, x.2.2.2.fst, x.2.2.2.2.fst, IntKind.i64.wrap (x.2.2.2.2.snd + 1)))
                    (some (Sum.inr (2, { M := 0, S := 0 }, x.2.2.fst))))
                (some (Sum.inr (2, { M := 0, S := 0 }, x.2.2.fst)))))
          (obnd (idx x.fst x.2.2.2.2.snd) fun y =>
            brn (decide (48 ≤ (↑y.toNat : Int)))
              (obnd (idx x.fst x.2.2.2.2.snd) fun y =>
                brn (decide ((↑y.toNat : Int) ≤ 57))
                  (obnd (idx x.fst x.2.2.2.2.snd) fun y =>
                    obnd (app 8 [IntKind.i64.wrap (IntKind.u8.wrap ((↑y.toNat : Int) - 48))] x.2.2.fst.D) fun zs =>
                      back (x.fst, x.2.fst, { Minus := x.2.2.fst.Minus, D := zs }, x.2.2.2.fst, x.2.2.2.2.fst, IntKind.i64.wrap (x.2.2.2.2.snd + 1)))
                  (some (Sum.inr (2, { M := 0, S := 0 }, x.2.2.fst))))
              (some (Sum.inr (2, { M := 0, S := 0 }, x.2.2.fst)))))
        (obnd (idx x.fst x.2.2.2.2.snd) fun y =>
          brn (decide (48 ≤ (↑y.toNat : Int)))
            (obnd (idx x.fst x.2.2.2.2.snd) fun y =>
              brn (decide ((↑y.toNat : Int) ≤ 57))
                (obnd (idx x.fst x.2.2.2.2.snd) fun y =>
                  obnd (app 8 [IntKind.i64.wrap (IntKind.u8.wrap ((↑y.toNat : Int) - 48))] x.2.2.fst.D) fun zs =>
                    back (x.fst, x.2.fst, { Minus := x.2.2.fst.Minus, D := zs }, x.2.2.2.fst, x.2.2.2.2.fst, IntKind.i64.wrap (x.2.2.2.2.snd + 1)))
                (some (Sum.inr (2, { M := 0, S := 0 }, x.2.2.fst))))
            (some (Sum.inr (2, { M := 0, S := 0 }, x.2.2.fst)))))
    (some (Sum.inl (x.2.2.2.2.fst, x.2.fst, x.2.2.fst)))
def ref7_ParseDec_l3J : List UInt8 × Dec × Big × Int × Int × Int → Option (((Int) × (Dec × Big)) ⊕ ((Int) × (Dec × Big))) := iter ref7_ParseDec_l3F big
def ref7_ParseDec_b4J (x : Int × Int × Int × Bool) : Option (Int) :=
  brn x.2.2.snd (some (IntKind.i64.wrap (x.2.fst - x.fst))) (some x.2.2.1)
def ref7_ParseDec_b5J (x : List UInt8 × Int × Int × Int) : Option (Bool) :=
  brn (decide (x.2.2.snd = 0)) (some true)
    (brn (decide (x.2.2.fst = IntKind.i64.wrap ((↑x.fst.length : Int) - 1))) (some true)
      (obnd (idx x.fst x.2.fst) fun y => brn (decide ((↑y.toNat : Int) = 48)) (some (decide (1 < x.2.2.snd))) (some false)))
def ref7_ParseDec_b6J (x : Int × Bool × Big) : Option (Bool) :=
  brn (decide ((↑x.2.snd.D.length : Int) = 0)) (brn x.2.fst (some (decide (x.fst = 0))) (some false)) (some false)
def ref7_ParseDecF (x : List UInt8) : Option (Dec × Int) :=
  obnd (ref7_ParseDec_b1J x) fun y =>
    obnd (ref7_ParseDec_b2J ({ Minus := false, D := [] }, 0, y)) fun y =>
      obnd (ref7_ParseDec_l3J (x, { M := 0, S := 0 }, y.2, y.1, -1, y.1)) fun y_1 =>
        osum y_1
          (fun y_2 =>
            obnd (ref7_ParseDec_b4J (y.1, y_2.1, IntKind.i64.wrap ((↑x.length : Int) - y.1), decide (0 ≤ y_2.1))) fun y_3 =>
              obnd (ref7_ParseDec_b5J (x, y.1, y_2.1, y_3)) fun y =>
                brn y (some ({ M := 0, S := 0 }, 2))
                  (brn (decide (0 ≤ y_2.1))
                    (obnd (ref7_trimF y_2.2.snd) fun y =>
                      obnd (ref7_ParseDec_b6J (IntKind.i64.wrap (IntKind.i64.wrap ((↑x.length : Int) - y_2.1) - 1), y_2.2.snd.Minus, y)) fun y_4 =>
                        brn y_4 (some ({ M := 0, S := 0 }, 2))
                          (obnd (ref7_smallF (y, 0)) fun y =>
                            brn (!decide (y.snd = 0)) (some ({ M := 0, S := 0 }, y.snd))
                              (brn (decide (9 < IntKind.i64.wrap (IntKind.i64.wrap ((↑x.length : Int) - y_2.1) - 1))) (some ({ M := 0, S := 0 }, 1))
                                (brn (decide (0 < IntKind.i64.wrap (IntKind.i64.wrap ((↑x.length : Int) - y_2.1) - 1)))
                                  (obnd (idx x (IntKind.i64.wrap ((↑x.length : Int) - 1))) fun y_5 =>
                                    brn (decide ((↑y_5.toNat : Int) = 48)) (some ({ M := 0, S := 0 }, 1))
                                      (some ({ M := y.fst.M, S := IntKind.i64.wrap (IntKind.i64.wrap ((↑x.length : Int) - y_2.1) - 1) }, 0)))
                                  (some ({ M := y.fst.M, S := IntKind.i64.wrap (IntKind.i64.wrap ((↑x.length : Int) - y_2.1) - 1) }, 0))))))
                    (obnd (ref7_trimF y_2.2.snd) fun y =>
                      obnd (ref7_ParseDec_b6J (0, y_2.2.snd.Minus, y)) fun y_4 =>
                        brn y_4 (some ({ M := 0, S := 0 }, 2))
                          (obnd (ref7_smallF (y, 0)) fun y => brn (!decide (y.snd = 0)) (some ({ M := 0, S := 0 }, y.snd)) (some ({ M := y.fst.M, S := 0 }, 0))))))
          fun y => some (y.2.fst, y.1)
def ref13_NumberF (x : Val) : Option (Dec × Val × Bool) :=
  brn (decide (x.Kind = 1)) (some (x.N, { Kind := 0, N := { M := 0, S := 0 }, S := [], B := false, E := 0 }, true))
    (brn (decide (x.Kind = 3))
      (brn x.B (some ({ M := 1, S := 0 }, { Kind := 0, N := { M := 0, S := 0 }, S := [], B := false, E := 0 }, true))
        (some ({ M := 0, S := 0 }, { Kind := 0, N := { M := 0, S := 0 }, S := [], B := false, E := 0 }, true)))
      (brn (decide (x.Kind = 2))
        (obnd (ref7_ParseDecF x.S) fun y =>
          brn (!decide (y.snd = 0)) (obnd (ref13_FaultF 15) fun y => some ({ M := 0, S := 0 }, y, false))
            (some (y.fst, { Kind := 0, N := { M := 0, S := 0 }, S := [], B := false, E := 0 }, true)))
        (brn (decide (x.Kind = 4)) (some ({ M := 0, S := 0 }, x, false)) (some ({ M := 0, S := 0 }, { Kind := 0, N := { M := 0, S := 0 }, S := [], B := false, E := 0 }, true)))))
def ref7_big_l1F (back : List (Int) × Big × Int → Option ((List (Int)) × Big)) (x : List (Int) × Big × Int) : Option ((List (Int)) × Big) :=
  brn (decide (0 < x.2.snd)) (obnd (app 8 x.fst [IntKind.i64.wrap (x.2.snd.tmod 10)]) fun zs => back (zs, { Minus := x.2.fst.Minus, D := zs }, IntKind.u64.wrap (x.2.snd.tdiv 10)))
    (some (x.fst, { Minus := x.2.fst.Minus, D := x.fst }))
def ref7_big_l1J : List (Int) × Big × Int → Option ((List (Int)) × Big) := iter ref7_big_l1F big
def ref7_bigF (x : Int) : Option (List (Int) × Big) :=
  brn (decide (x < 0))
    (obnd (ref7_big_l1J ([], { Minus := decide (x < 0), D := [] }, IntKind.u64.wrap (0 - IntKind.u64.wrap x))) fun y => some (y.1, { Minus := y.2.Minus, D := y.1 }))
    (obnd (ref7_big_l1J ([], { Minus := decide (x < 0), D := [] }, IntKind.u64.wrap x)) fun y => some (y.1, { Minus := y.2.Minus, D := y.1 }))
def ref7_DecText_l1F (back : List (Int) × Dec × Big → Option ((List (Int)) × Big)) (x : List (Int) × Dec × Big) : Option ((List (Int)) × Big) :=
  brn (decide ((↑x.fst.length : Int) ≤ x.2.fst.S)) (obnd (app 8 x.fst [0]) fun zs => back (zs, x.2.fst, { Minus := x.2.snd.Minus, D := zs }))
    (some (x.fst, { Minus := x.2.snd.Minus, D := x.fst }))
def ref7_DecText_l1J : List (Int) × Dec × Big → Option ((List (Int)) × Big) := iter ref7_DecText_l1F big
def ref7_DecText_l2F (back : Dec × Big × List UInt8 × Int → Option (List UInt8)) (x : Dec × Big × List UInt8 × Int) : Option (List UInt8) :=
  brn (decide (x.2.2.snd < (↑x.2.fst.D.length : Int)))
    (brn (decide (x.2.2.snd = x.fst.S))
      (brn (decide (0 < x.2.2.snd))
        (obnd (cat [46] x.2.2.fst) fun z =>
          obnd (idx x.2.fst.D x.2.2.snd) fun y =>
            obnd (cat [UInt8.ofNat (IntKind.u8.wrap (IntKind.i64.wrap (48 + y))).toNat] z) fun z => back (x.fst, x.2.fst, z, IntKind.i64.wrap (x.2.2.snd + 1)))
        (obnd (idx x.2.fst.D x.2.2.snd) fun y =>
          obnd (cat [UInt8.ofNat (IntKind.u8.wrap (IntKind.i64.wrap (48 + y))).toNat] x.2.2.fst) fun z => back (x.fst, x.2.fst, z, IntKind.i64.wrap (x.2.2.snd + 1))))
      (obnd (idx x.2.fst.D x.2.2.snd) fun y =>
        obnd (cat [UInt8.ofNat (IntKind.u8.wrap (IntKind.i64.wrap (48 + y))).toNat] x.2.2.fst) fun z => back (x.fst, x.2.fst, z, IntKind.i64.wrap (x.2.2.snd + 1))))
    (some x.2.2.1)
def ref7_DecText_l2J : Dec × Big × List UInt8 × Int → Option (List UInt8) := iter ref7_DecText_l2F big
def ref7_DecTextF (x : Dec) : Option (List UInt8) :=
  obnd (ref7_bigF x.M) fun y =>
    obnd (ref7_DecText_l1J (y.fst, x, { Minus := y.snd.Minus, D := y.fst })) fun y =>
      obnd (ref7_DecText_l2J (x, { Minus := y.2.Minus, D := y.1 }, [], 0)) fun y_1 => brn y.2.Minus (obnd (cat [45] y_1) fun z => some z) (some y_1)
def ref13_ValTextF (x : Val) : Option (List UInt8) :=
  brn (decide (x.Kind = 1)) (obnd (ref7_DecTextF x.N) fun y => some y)
    (brn (decide (x.Kind = 2)) (some x.3)
      (brn (decide (x.Kind = 3)) (brn x.B (some [84, 82, 85, 69]) (some (U8s [70, 65, 76, 83, 69])))
        (brn (decide (x.Kind = 4)) (obnd (ref13_ErrTextF x.E) fun y => some y) (some []))))
def ref13_WordsF (x : Val) : Option (List UInt8 × Val × Bool) :=
  brn (decide (x.Kind = 4)) (some ([], x, false)) (obnd (ref13_ValTextF x) fun y => some (y, { Kind := 0, N := { M := 0, S := 0 }, S := [], B := false, E := 0 }, true))
end Go.Proofs.YtdgpkbnnljblmaaGreatDoor
