/- V1 -/
import Derived.Test.YtdgpkbnnljblmaaGreatDoorU1
namespace Go.Proofs.YtdgpkbnnljblmaaGreatDoor
open Go Go.Ev
set_option linter.unusedVariables false
def law9_NF (x : Int) : Option (Val) :=
  obnd (dec_IntF x) fun y => some { Kind := 1, N := y, S := [], B := false, E := 0 }
def law9_NS : FSpec tb := ⟨[(0, .val 2)], [(0, .val 32)], law9_NF⟩
theorem law9_N_eq : ∀ x, evFn Tryz.prog tb [(33, dec_IntS)] [] Tryz.f26 law9_NS.ins law9_NS.outs x = law9_NS.f x := fun x => by kernel_rfl
theorem law9_N_k : fnK Tryz.f26 law9_NS.ins law9_NS.outs = true := by kernel_rfl
theorem law9_N_sound : FnSound Tryz.prog tb 26 law9_NS := fn_ev mixed Tryz.func26 law9_N_k (.cons dec_Int_sound .nil) rfl law9_N_eq
def law9_SF (x : List UInt8) : Option (Val) :=
  some { Kind := 2, N := { M := 0, S := 0 }, S := x, B := false, E := 0 }
def law9_SS : FSpec tb := ⟨[(0, .val 9)], [(0, .val 32)], law9_SF⟩
theorem law9_S_eq : ∀ x, evFn Tryz.prog tb [] [] Tryz.f29 law9_SS.ins law9_SS.outs x = law9_SS.f x := fun x => by kernel_rfl
theorem law9_S_k : fnK Tryz.f29 law9_SS.ins law9_SS.outs = true := by kernel_rfl
theorem law9_S_sound : FnSound Tryz.prog tb 29 law9_SS := fn_ev mixed Tryz.func29 law9_S_k .nil rfl law9_S_eq
def val_FaultF (x : Int) : Option (Val) :=
  some { Kind := 4, N := { M := 0, S := 0 }, S := [], B := false, E := x }
def val_FaultS : FSpec tb := ⟨[(0, .val 3)], [(0, .val 32)], val_FaultF⟩
theorem val_Fault_eq : ∀ x, evFn Tryz.prog tb [] [] Tryz.f32 val_FaultS.ins val_FaultS.outs x = val_FaultS.f x := fun x => by kernel_rfl
theorem val_Fault_k : fnK Tryz.f32 val_FaultS.ins val_FaultS.outs = true := by kernel_rfl
theorem val_Fault_sound : FnSound Tryz.prog tb 32 val_FaultS := fn_ev mixed Tryz.func32 val_Fault_k .nil rfl val_Fault_eq
def val_NumberF (x : Val) : Option (Dec × Val × Bool) :=
  brn (decide (x.Kind = 1)) (some (x.N, { Kind := 0, N := { M := 0, S := 0 }, S := [], B := false, E := 0 }, true))
    (brn (decide (x.Kind = 2))
      (obnd (dec_ParseF x.S) fun y =>
        brn (decide (y.snd = 0)) (some (y.fst, { Kind := 0, N := { M := 0, S := 0 }, S := [], B := false, E := 0 }, true))
          (obnd (val_FaultF 15) fun y => some ({ M := 0, S := 0 }, y, false)))
      (brn (decide (x.Kind = 3))
        (brn x.B (obnd (dec_IntF 1) fun y => some (y, { Kind := 0, N := { M := 0, S := 0 }, S := [], B := false, E := 0 }, true))
          (some ({ M := 0, S := 0 }, { Kind := 0, N := { M := 0, S := 0 }, S := [], B := false, E := 0 }, true)))
        (brn (decide (x.Kind = 4)) (some ({ M := 0, S := 0 }, x, false)) (some ({ M := 0, S := 0 }, { Kind := 0, N := { M := 0, S := 0 }, S := [], B := false, E := 0 }, true)))))
def val_NumberS : FSpec tb := ⟨[(0, .val 32)], [(0, .val 30), (1, .val 32), (2, .val 4)], val_NumberF⟩
theorem val_Number_eq : ∀ x, evFn Tryz.prog tb [(176, dec_ParseS), (32, val_FaultS), (33, dec_IntS)] [] Tryz.f85 val_NumberS.ins val_NumberS.outs x = val_NumberS.f x := fun x => by kernel_rfl
theorem val_Number_k : fnK Tryz.f85 val_NumberS.ins val_NumberS.outs = true := by kernel_rfl
theorem val_Number_sound : FnSound Tryz.prog tb 85 val_NumberS := fn_ev mixed Tryz.func85 val_Number_k (.cons dec_Parse_sound (.cons val_Fault_sound (.cons dec_Int_sound .nil))) rfl val_Number_eq
def val_TruthF (x : Val) : Option (Bool × Val × Bool) :=
  brn (decide (x.Kind = 1)) (some (!decide (x.N.M = 0), { Kind := 0, N := { M := 0, S := 0 }, S := [], B := false, E := 0 }, true))
    (brn (decide (x.Kind = 2))
      (brn (!decide (x.S = [84, 82, 85, 69]))
        (brn (!decide (x.S = U8s [70, 65, 76, 83, 69])) (obnd (val_FaultF 15) fun y => some (false, y, false))
          (some (decide (x.S = [84, 82, 85, 69]), { Kind := 0, N := { M := 0, S := 0 }, S := [], B := false, E := 0 }, true)))
        (some (decide (x.S = [84, 82, 85, 69]), { Kind := 0, N := { M := 0, S := 0 }, S := [], B := false, E := 0 }, true)))
      (brn (decide (x.Kind = 3)) (some (x.B, { Kind := 0, N := { M := 0, S := 0 }, S := [], B := false, E := 0 }, true))
        (brn (decide (x.Kind = 4)) (some (false, x, false)) (some (false, { Kind := 0, N := { M := 0, S := 0 }, S := [], B := false, E := 0 }, true)))))
def val_TruthS : FSpec tb := ⟨[(0, .val 32)], [(0, .val 4), (1, .val 32), (2, .val 4)], val_TruthF⟩
theorem val_Truth_eq : ∀ x, evFn Tryz.prog tb [(32, val_FaultS)] [] Tryz.f65 val_TruthS.ins val_TruthS.outs x = val_TruthS.f x := fun x => by kernel_rfl
theorem val_Truth_k : fnK Tryz.f65 val_TruthS.ins val_TruthS.outs = true := by kernel_rfl
theorem val_Truth_sound : FnSound Tryz.prog tb 65 val_TruthS := fn_ev mixed Tryz.func65 val_Truth_k (.cons val_Fault_sound .nil) rfl val_Truth_eq
def val_nameF (x : Int) : Option (List UInt8) :=
  brn (decide (x = 0)) (some (U8s [35, 78, 85, 76, 76, 33]))
    (brn (decide (x = 7)) (some (U8s [35, 68, 73, 86, 47, 48, 33]))
      (brn (decide (x = 15)) (some (U8s [35, 86, 65, 76, 85, 69, 33]))
        (brn (decide (x = 23)) (some (U8s [35, 82, 69, 70, 33]))
          (brn (decide (x = 29)) (some (U8s [35, 78, 65, 77, 69, 63]))
            (brn (decide (x = 36)) (some (U8s [35, 78, 85, 77, 33])) (brn (decide (x = 42)) (some [35, 78, 47, 65]) (some [])))))))
def val_nameS : FSpec tb := ⟨[(0, .val 3)], [(0, .val 9)], val_nameF⟩
theorem val_name_eq : ∀ x, evFn Tryz.prog tb [] [] Tryz.f102 val_nameS.ins val_nameS.outs x = val_nameS.f x := fun x => by kernel_rfl
theorem val_name_k : fnK Tryz.f102 val_nameS.ins val_nameS.outs = true := by kernel_rfl
theorem val_name_sound : FnSound Tryz.prog tb 102 val_nameS := fn_ev mixed Tryz.func102 val_name_k .nil rfl val_name_eq
def val_TextF (x : Val) : Option (List UInt8) :=
  brn (decide (x.Kind = 1)) (obnd (dec_TextF x.N) fun y => some y)
    (brn (decide (x.Kind = 2)) (some x.3)
      (brn (decide (x.Kind = 3)) (brn x.B (some [84, 82, 85, 69]) (some (U8s [70, 65, 76, 83, 69]))) (brn (decide (x.Kind = 4)) (obnd (val_nameF x.E) fun y => some y) (some []))))
def val_TextS : FSpec tb := ⟨[(0, .val 32)], [(0, .val 9)], val_TextF⟩
theorem val_Text_eq : ∀ x, evFn Tryz.prog tb [(175, dec_TextS), (102, val_nameS)] [] Tryz.f84 val_TextS.ins val_TextS.outs x = val_TextS.f x := fun x => by kernel_rfl
theorem val_Text_k : fnK Tryz.f84 val_TextS.ins val_TextS.outs = true := by kernel_rfl
theorem val_Text_sound : FnSound Tryz.prog tb 84 val_TextS := fn_ev mixed Tryz.func84 val_Text_k (.cons dec_Text_sound (.cons val_name_sound .nil)) rfl val_Text_eq
def val_WordsF (x : Val) : Option (List UInt8 × Val × Bool) :=
  brn (decide (x.Kind = 4)) (some ([], x, false)) (obnd (val_TextF x) fun y => some (y, { Kind := 0, N := { M := 0, S := 0 }, S := [], B := false, E := 0 }, true))
def val_WordsS : FSpec tb := ⟨[(0, .val 32)], [(0, .val 9), (1, .val 32), (2, .val 4)], val_WordsF⟩
theorem val_Words_eq : ∀ x, evFn Tryz.prog tb [(84, val_TextS)] [] Tryz.f142 val_WordsS.ins val_WordsS.outs x = val_WordsS.f x := fun x => by kernel_rfl
theorem val_Words_k : fnK Tryz.f142 val_WordsS.ins val_WordsS.outs = true := by kernel_rfl
theorem val_Words_sound : FnSound Tryz.prog tb 142 val_WordsS := fn_ev mixed Tryz.func142 val_Words_k (.cons val_Text_sound .nil) rfl val_Words_eq
def str_units_l1F (back : List (Int) × ((List UInt8 × Nat)) → Option ((List (Int)) × ((List UInt8 × Nat)))) (x : List (Int) × ((List UInt8 × Nat))) : Option ((List (Int)) × ((List UInt8 × Nat))) :=
  brn (decide (x.snd.snd < x.snd.fst.length))
    (brn (decide ((↑(rune x.snd.fst x.snd.snd).fst : Int) < 65536))
      (obnd (app 8 x.fst [IntKind.i64.wrap (↑(rune x.snd.fst x.snd.snd).fst : Int)]) fun zs => back (zs, x.snd.fst, x.snd.snd + (rune x.snd.fst x.snd.snd).snd))
      (obnd
        (app 8 x.fst
          [IntKind.i64.wrap (55296 + IntKind.i64.wrap ((IntKind.i32.wrap ((↑(rune x.snd.fst x.snd.snd).fst : Int) - 65536)).fdiv 1024)),
            IntKind.i64.wrap (56320 + IntKind.i64.wrap (bitsOf BinOp.and IntKind.i32 (IntKind.i32.wrap ((↑(rune x.snd.fst x.snd.snd).fst : Int) - 65536)) 1023))])
        fun zs => back (zs, x.snd.fst, x.snd.snd + (rune x.snd.fst x.snd.snd).snd)))
    (some x)
def str_units_l1J : List (Int) × ((List UInt8 × Nat)) → Option ((List (Int)) × ((List UInt8 × Nat))) := iter str_units_l1F big
def str_units_l1C : CutSpec tb := ⟨36, [(3, .own 3), (7, .iter)], [((.exit 0), [(3, .own 3)])], [8, 9, 10, 5, 11, 12, 13, 14, 15, 16, 17, 3, 18, 19, 20, 21, 22, 23, 24, 25, 26, 27, 28, 29, 30], str_units_l1J⟩
set_option maxRecDepth 100000 in
theorem str_units_l1_eq : ∀ back x, evLoop Tryz.prog tb [] [] (loopAt 36 Tryz.f183) str_units_l1C.ins str_units_l1C.outs back x = str_units_l1F back x := fun back x => by kernel_rfl
theorem str_units_l1_k : cutB Tryz.f183.ntmps str_units_l1C (loopAt 36 Tryz.f183) = true := by kernel_rfl
theorem str_units_l1_in : cutsOf ([] : List (CutSpec tb)) (loopAt 36 Tryz.f183) = [] := by kernel_rfl
theorem str_units_l1_cut : CutSound Tryz.prog tb Tryz.f183.ntmps (.loop (loopAt 36 Tryz.f183)) str_units_l1C := loop_it mixed str_units_l1_k .nil rfl str_units_l1_in .nil str_units_l1F str_units_l1_eq rfl
def str_unitsF (x : List UInt8) : Option (List (Int)) :=
  obnd (str_units_l1J ([], x, 0)) fun y => some y.1
def str_unitsS : FSpec tb := ⟨[(0, .val 9)], [(0, .own 3)], str_unitsF⟩
theorem str_units_eq : ∀ x, evFn Tryz.prog tb [] [str_units_l1C] Tryz.f183 str_unitsS.ins str_unitsS.outs x = str_unitsS.f x := fun x => by kernel_rfl
theorem str_units_k : fnK Tryz.f183 str_unitsS.ins str_unitsS.outs = true := by kernel_rfl
theorem str_units_in : cutsOf ([str_units_l1C] : List (CutSpec tb)) (bodyOf Tryz.f183) = [(36, .loop (loopAt 36 Tryz.f183))] := by kernel_rfl
theorem str_units_sound : FnSound Tryz.prog tb 183 str_unitsS := fn_cut mixed Tryz.func183 str_units_k .nil rfl str_units_in (.cons rfl str_units_l1_cut rfl .nil) str_units_eq
def str_UnitsF (x : List UInt8) : Option (Int × Int) :=
  obnd (utf8_ValidStringF x) fun y =>
    brn (!y) (some (0, 2)) (obnd (str_unitsF x) fun y => brn (decide (1000 < (↑(List.length y) : Int))) (some (0, 4)) (some ((↑(List.length y) : Int), 0)))
def str_UnitsS : FSpec tb := ⟨[(0, .val 9)], [(0, .val 3), (1, .val 63)], str_UnitsF⟩
theorem str_Units_eq : ∀ x, evFn Tryz.prog tb [(182, utf8_ValidStringS), (183, str_unitsS)] [] Tryz.f101 str_UnitsS.ins str_UnitsS.outs x = str_UnitsS.f x := fun x => by kernel_rfl
theorem str_Units_k : fnK Tryz.f101 str_UnitsS.ins str_UnitsS.outs = true := by kernel_rfl
theorem str_Units_sound : FnSound Tryz.prog tb 101 str_UnitsS := fn_ev mixed Tryz.func101 str_Units_k (.cons utf8_ValidString_sound (.cons str_units_sound .nil)) rfl str_Units_eq
abbrev val_textsG : List (Nat × FSpec tb) := [(174, cmp_Compare_runeS), (80, cmp_Compare_intS)]
theorem val_textsG_ok : AllSound Tryz.prog tb val_textsG := (.cons cmp_Compare_rune_sound (.cons cmp_Compare_int_sound .nil))
def val_texts_l1F (back : List Int × Int × ((List UInt8 × Nat)) → Option (((Int) × ((List UInt8 × Nat))) ⊕ ((Int) × ((List UInt8 × Nat))))) (x : List Int × Int × ((List UInt8 × Nat))) : Option (((Int) × ((List UInt8 × Nat))) ⊕ ((Int) × ((List UInt8 × Nat)))) :=
  brn (decide (x.2.snd.snd < x.2.snd.fst.length))
    (brn (decide (x.2.fst = (↑x.fst.length : Int))) (some (Sum.inr (1, x.2.snd.fst, x.2.snd.snd + (rune x.2.snd.fst x.2.snd.snd).snd)))
      (obnd (idx x.fst x.2.fst) fun y =>
        brn (!decide ((↑(rune x.2.snd.fst x.2.snd.snd).fst : Int) = y))
          (obnd (idx x.fst x.2.fst) fun y =>
            obnd (cmp_Compare_runeF ((↑(rune x.2.snd.fst x.2.snd.snd).fst : Int), y)) fun y => some (Sum.inr (y, x.2.snd.fst, x.2.snd.snd + (rune x.2.snd.fst x.2.snd.snd).snd)))
          (back (x.fst, IntKind.i64.wrap (x.2.fst + 1), x.2.snd.fst, x.2.snd.snd + (rune x.2.snd.fst x.2.snd.snd).snd))))
    (some (Sum.inl x.2))
def val_texts_l1J : List Int × Int × ((List UInt8 × Nat)) → Option (((Int) × ((List UInt8 × Nat))) ⊕ ((Int) × ((List UInt8 × Nat)))) := iter val_texts_l1F big
def val_texts_l1C : CutSpec tb := ⟨44, [(5, .val 45), (6, .val 3), (12, .iter)], [((.exit 0), [(6, .val 3)]), (.ret, [(4, .val 3)])], [13, 14, 15, 8, 16, 17, 18, 19, 4, 20, 21, 22, 23, 24, 25, 26, 27, 28, 29, 30, 31, 32, 33, 6], val_texts_l1J⟩
theorem val_texts_l1_eq : ∀ back x, evLoop Tryz.prog tb val_textsG [] (loopAt 44 Tryz.f81) val_texts_l1C.ins val_texts_l1C.outs back x = val_texts_l1F back x := fun back x => by kernel_rfl
theorem val_texts_l1_k : cutB Tryz.f81.ntmps val_texts_l1C (loopAt 44 Tryz.f81) = true := by kernel_rfl
theorem val_texts_l1_in : cutsOf ([] : List (CutSpec tb)) (loopAt 44 Tryz.f81) = [] := by kernel_rfl
theorem val_texts_l1_cut : CutSound Tryz.prog tb Tryz.f81.ntmps (.loop (loopAt 44 Tryz.f81)) val_texts_l1C := loop_it mixed val_texts_l1_k val_textsG_ok rfl val_texts_l1_in .nil val_texts_l1F val_texts_l1_eq rfl
def val_textsF (x : List UInt8 × List UInt8) : Option (Int) :=
  obnd (bif x.snd.length.ble 70368744177664 then some (runesL x.snd x.snd.length 0) else none) fun rs =>
    obnd (val_texts_l1J (rs, 0, x.fst, 0)) fun y => osum y (fun y => obnd (cmp_Compare_intF (y.1, (↑rs.length : Int))) fun y => some y) fun y => some y.1
def val_textsS : FSpec tb := ⟨[(0, .val 9), (1, .val 9)], [(0, .val 3)], val_textsF⟩
theorem val_texts_eq : ∀ x, evFn Tryz.prog tb val_textsG [val_texts_l1C] Tryz.f81 val_textsS.ins val_textsS.outs x = val_textsS.f x := fun x => by kernel_rfl
theorem val_texts_k : fnK Tryz.f81 val_textsS.ins val_textsS.outs = true := by kernel_rfl
theorem val_texts_in : cutsOf ([val_texts_l1C] : List (CutSpec tb)) (bodyOf Tryz.f81) = [(44, .loop (loopAt 44 Tryz.f81))] := by kernel_rfl
theorem val_texts_sound : FnSound Tryz.prog tb 81 val_textsS := fn_cut mixed Tryz.func81 val_texts_k val_textsG_ok rfl val_texts_in (.cons rfl val_texts_l1_cut rfl .nil) val_texts_eq
def val_numberF (x : Bool) : Option (Int) :=
  brn x (some 1) (some 0)
def val_numberS : FSpec tb := ⟨[(0, .val 4)], [(0, .val 3)], val_numberF⟩
theorem val_number_eq : ∀ x, evFn Tryz.prog tb [] [] Tryz.f82 val_numberS.ins val_numberS.outs x = val_numberS.f x := fun x => by kernel_rfl
theorem val_number_k : fnK Tryz.f82 val_numberS.ins val_numberS.outs = true := by kernel_rfl
theorem val_number_sound : FnSound Tryz.prog tb 82 val_numberS := fn_ev mixed Tryz.func82 val_number_k .nil rfl val_number_eq
abbrev val_CompareG : List (Nat × FSpec tb) := [(80, cmp_Compare_intS), (34, dec_CompareS), (81, val_textsS), (82, val_numberS)]
theorem val_CompareG_ok : AllSound Tryz.prog tb val_CompareG := (.cons cmp_Compare_int_sound (.cons dec_Compare_sound (.cons val_texts_sound (.cons val_number_sound .nil))))
def val_Compare_b1J (x : Val × Val) : Option (Bool) :=
  brn (decide (x.fst.Kind = 0)) (some (bif decide (x.snd.Kind = 4) then false else true)) (some false)
def val_Compare_b1C : CutSpec tb := ⟨16, [(2, .ro 32), (3, .ro 32)], [(.normal, [(12, .val 4)])], [5, 6, 7, 8, 9, 10, 11, 12], val_Compare_b1J⟩
theorem val_Compare_b1_eq : ∀ x, evBlk Tryz.prog tb val_CompareG [] (codeAt 16 Tryz.f27) val_Compare_b1C.ins val_Compare_b1C.outs x = val_Compare_b1C.J x := fun x => by kernel_rfl
theorem val_Compare_b1_k : cutB Tryz.f27.ntmps val_Compare_b1C (codeAt 16 Tryz.f27) = true := by kernel_rfl
theorem val_Compare_b1_in : cutsOf ([] : List (CutSpec tb)) (codeAt 16 Tryz.f27) = [] := by kernel_rfl
theorem val_Compare_b1_cut : CutSound Tryz.prog tb Tryz.f27.ntmps (codeAt 16 Tryz.f27) val_Compare_b1C := blk_ev mixed val_Compare_b1_k val_CompareG_ok rfl val_Compare_b1_in .nil val_Compare_b1_eq
def val_Compare_b2J (x : Val × Val × Int) : Option ((Unit) ⊕ (Int)) :=
  brn (decide (x.2.snd = 1)) (obnd (dec_CompareF (x.fst.N, x.2.fst.N)) fun y => some (Sum.inr y))
    (brn (decide (x.2.snd = 2)) (obnd (val_textsF (x.fst.S, x.2.fst.S)) fun y => some (Sum.inr y))
      (brn (decide (x.2.snd = 3)) (obnd (val_numberF x.fst.B) fun y => obnd (val_numberF x.2.fst.B) fun y_1 => obnd (cmp_Compare_intF (y, y_1)) fun y => some (Sum.inr y))
        (brn (decide (x.2.snd = 4)) (obnd (cmp_Compare_intF (x.fst.E, x.2.fst.E)) fun y => some (Sum.inr y)) (some (Sum.inl PUnit.unit)))))
def val_Compare_b2C : CutSpec tb := ⟨75, [(2, .ro 32), (3, .ro 32), (38, .val 3)], [(.normal, []), (.ret, [(4, .val 3)])], [40, 39, 41, 42, 43, 44, 45, 4, 47, 46, 48, 49, 50, 51, 52, 54, 53, 55, 56, 57, 58, 59, 60, 61, 63, 62, 64, 65, 66, 67, 68], val_Compare_b2J⟩
theorem val_Compare_b2_eq : ∀ x, evBlk Tryz.prog tb val_CompareG [] (codeAt 75 Tryz.f27) val_Compare_b2C.ins val_Compare_b2C.outs x = val_Compare_b2C.J x := fun x => by kernel_rfl
theorem val_Compare_b2_k : cutB Tryz.f27.ntmps val_Compare_b2C (codeAt 75 Tryz.f27) = true := by kernel_rfl
theorem val_Compare_b2_in : cutsOf ([] : List (CutSpec tb)) (codeAt 75 Tryz.f27) = [] := by kernel_rfl
theorem val_Compare_b2_cut : CutSound Tryz.prog tb Tryz.f27.ntmps (codeAt 75 Tryz.f27) val_Compare_b2C := blk_ev mixed val_Compare_b2_k val_CompareG_ok rfl val_Compare_b2_in .nil val_Compare_b2_eq
def val_CompareF (x : Val × Val) : Option (Int) :=
  obnd (val_Compare_b1J x) fun y =>
    brn y
      (brn (decide (x.snd.Kind = 0))
        (brn (!decide (x.snd.Kind = 4))
          (brn (!decide (x.snd.Kind = x.snd.Kind)) (obnd (cmp_Compare_intF (x.snd.Kind, x.snd.Kind)) fun y => some y)
            (obnd
              (val_Compare_b2J
                ({ Kind := x.snd.Kind, N := { M := 0, S := 0 }, S := [], B := false, E := 0 }, { Kind := x.snd.Kind, N := { M := 0, S := 0 }, S := [], B := false, E := 0 },
                  x.snd.Kind))
              fun y => osum y (fun y => some 0) fun y => some y))
          (brn (!decide (x.snd.Kind = x.snd.Kind)) (obnd (cmp_Compare_intF (x.snd.Kind, x.snd.Kind)) fun y => some y)
            (obnd (val_Compare_b2J ({ Kind := x.snd.Kind, N := { M := 0, S := 0 }, S := [], B := false, E := 0 }, x.snd, x.snd.Kind)) fun y =>
              osum y (fun y => some 0) fun y => some y)))
        (brn (!decide (x.snd.Kind = x.snd.Kind)) (obnd (cmp_Compare_intF (x.snd.Kind, x.snd.Kind)) fun y => some y)
          (obnd (val_Compare_b2J ({ Kind := x.snd.Kind, N := { M := 0, S := 0 }, S := [], B := false, E := 0 }, x.snd, x.snd.Kind)) fun y =>
            osum y (fun y => some 0) fun y => some y)))
      (brn (decide (x.snd.Kind = 0))
        (brn (!decide (x.fst.Kind = 4))
          (brn (!decide (x.fst.Kind = x.fst.Kind)) (obnd (cmp_Compare_intF (x.fst.Kind, x.fst.Kind)) fun y => some y)
            (obnd (val_Compare_b2J (x.fst, { Kind := x.fst.Kind, N := { M := 0, S := 0 }, S := [], B := false, E := 0 }, x.fst.Kind)) fun y =>
              osum y (fun y => some 0) fun y => some y))
          (brn (!decide (x.fst.Kind = x.snd.Kind)) (obnd (cmp_Compare_intF (x.fst.Kind, x.snd.Kind)) fun y => some y)
            (obnd (val_Compare_b2J (x.fst, x.snd, x.fst.Kind)) fun y => osum y (fun y => some 0) fun y => some y)))
        (brn (!decide (x.fst.Kind = x.snd.Kind)) (obnd (cmp_Compare_intF (x.fst.Kind, x.snd.Kind)) fun y => some y)
          (obnd (val_Compare_b2J (x.fst, x.snd, x.fst.Kind)) fun y => osum y (fun y => some 0) fun y => some y)))
def val_CompareS : FSpec tb := ⟨[(0, .val 32), (1, .val 32)], [(0, .val 3)], val_CompareF⟩
theorem val_Compare_eq : ∀ x, evFn Tryz.prog tb val_CompareG [val_Compare_b1C, val_Compare_b2C] Tryz.f27 val_CompareS.ins val_CompareS.outs x = val_CompareS.f x := fun x => by kernel_rfl
theorem val_Compare_k : fnK Tryz.f27 val_CompareS.ins val_CompareS.outs = true := by kernel_rfl
theorem val_Compare_in : cutsOf ([val_Compare_b1C, val_Compare_b2C] : List (CutSpec tb)) (bodyOf Tryz.f27) = [(16, codeAt 16 Tryz.f27), (75, codeAt 75 Tryz.f27)] := by kernel_rfl
theorem val_Compare_sound : FnSound Tryz.prog tb 27 val_CompareS := fn_cut mixed Tryz.func27 val_Compare_k val_CompareG_ok rfl val_Compare_in (.cons rfl val_Compare_b1_cut rfl (.cons rfl val_Compare_b2_cut rfl .nil)) val_Compare_eq
def ref7_CheckDecF (x : Dec) : Option (Int) :=
  brn (decide (x.S < 0)) (some 1) (brn (decide (9 < x.S)) (some 1) (brn (decide (0 < x.S)) (brn (decide (x.M.tmod 10 = 0)) (some 1) (some 0)) (some 0)))
def ref7_Runes_b3J (x : Int × Int × Int) : Option ((Int × Int × Int) ⊕ (List (Int) × Bool)) :=
  brn (decide (x.fst < 128)) (some (Sum.inl (x.2.fst, x.fst, x.2.snd)))
    (brn (decide (194 ≤ x.fst))
      (brn (decide (x.fst < 224)) (some (Sum.inl (1, bitsOf BinOp.and IntKind.i64 x.fst 31, 128)))
        (brn (decide (224 ≤ x.fst))
          (brn (decide (x.fst < 240)) (some (Sum.inl (2, bitsOf BinOp.and IntKind.i64 x.fst 15, 2048)))
            (brn (decide (240 ≤ x.fst)) (brn (decide (x.fst < 245)) (some (Sum.inl (3, bitsOf BinOp.and IntKind.i64 x.fst 7, 65536))) (some (Sum.inr ([], false))))
              (some (Sum.inr ([], false)))))
          (brn (decide (240 ≤ x.fst)) (brn (decide (x.fst < 245)) (some (Sum.inl (3, bitsOf BinOp.and IntKind.i64 x.fst 7, 65536))) (some (Sum.inr ([], false))))
            (some (Sum.inr ([], false))))))
      (brn (decide (224 ≤ x.fst))
        (brn (decide (x.fst < 240)) (some (Sum.inl (2, bitsOf BinOp.and IntKind.i64 x.fst 15, 2048)))
          (brn (decide (240 ≤ x.fst)) (brn (decide (x.fst < 245)) (some (Sum.inl (3, bitsOf BinOp.and IntKind.i64 x.fst 7, 65536))) (some (Sum.inr ([], false))))
            (some (Sum.inr ([], false)))))
        (brn (decide (240 ≤ x.fst)) (brn (decide (x.fst < 245)) (some (Sum.inl (3, bitsOf BinOp.and IntKind.i64 x.fst 7, 65536))) (some (Sum.inr ([], false))))
          (some (Sum.inr ([], false))))))
def ref7_Runes_b3C : CutSpec tb := ⟨83, [(6, .val 3), (7, .val 3), (9, .val 3)], [(.normal, [(7, .val 3), (8, .val 3), (9, .val 3)]), (.ret, [(2, .own 3), (3, .val 4)])], [21, 22, 20, 23, 8, 25, 26, 27, 28, 29, 30, 24, 7, 31, 32, 9, 34, 35, 36, 37, 38, 39, 33, 40, 41, 43, 44, 45, 46, 47, 48, 42, 49, 50, 2, 3], ref7_Runes_b3J⟩
set_option maxRecDepth 100000 in
theorem ref7_Runes_b3_eq : ∀ x, evBlk Tryz.prog tb [] [] (codeAt 83 Tryz.f28) ref7_Runes_b3C.ins ref7_Runes_b3C.outs x = ref7_Runes_b3C.J x := fun x => by kernel_rfl
theorem ref7_Runes_b3_k : cutB Tryz.f28.ntmps ref7_Runes_b3C (codeAt 83 Tryz.f28) = true := by kernel_rfl
theorem ref7_Runes_b3_in : cutsOf ([] : List (CutSpec tb)) (codeAt 83 Tryz.f28) = [] := by kernel_rfl
theorem ref7_Runes_b3_cut : CutSound Tryz.prog tb Tryz.f28.ntmps (codeAt 83 Tryz.f28) ref7_Runes_b3C := blk_ev mixed ref7_Runes_b3_k .nil rfl ref7_Runes_b3_in .nil ref7_Runes_b3_eq
def ref7_Runes_l4F (back : List UInt8 × Int × Int × Int × Int → Option ((Int) ⊕ (List (Int) × Bool))) (x : List UInt8 × Int × Int × Int × Int) : Option ((Int) ⊕ (List (Int) × Bool)) :=
  brn (decide (x.2.2.2.snd ≤ x.2.2.fst))
    (obnd (idx x.fst (IntKind.i64.wrap (x.2.fst + x.2.2.2.snd))) fun y =>
      brn (!decide (bitsOf BinOp.and IntKind.i64 (IntKind.i64.wrap (↑y.toNat : Int)) 192 = 128)) (some (Sum.inr ([], false)))
        (back
          (x.fst, x.2.fst, x.2.2.fst, bitsOf BinOp.or IntKind.i64 (IntKind.i64.wrap (x.2.2.2.fst * 64)) (bitsOf BinOp.and IntKind.i64 (IntKind.i64.wrap (↑y.toNat : Int)) 63),
            IntKind.i64.wrap (x.2.2.2.snd + 1))))
    (some (Sum.inl x.2.2.2.1))
def ref7_Runes_l4J : List UInt8 × Int × Int × Int × Int → Option ((Int) ⊕ (List (Int) × Bool)) := iter ref7_Runes_l4F big
def ref7_Runes_l4C : CutSpec tb := ⟨220, [(0, .val 9), (5, .val 3), (7, .val 3), (8, .val 3), (10, .val 3)], [((.exit 3), [(8, .val 3)]), (.ret, [(2, .own 3), (3, .val 4)])], [57, 58, 59, 62, 63, 64, 65, 66, 67, 11, 68, 69, 70, 2, 3, 71, 72, 73, 74, 75, 8, 60, 61, 10], ref7_Runes_l4J⟩
set_option maxRecDepth 100000 in
theorem ref7_Runes_l4_eq : ∀ back x, evLoop Tryz.prog tb [] [] (loopAt 220 Tryz.f28) ref7_Runes_l4C.ins ref7_Runes_l4C.outs back x = ref7_Runes_l4F back x := fun back x => by kernel_rfl
theorem ref7_Runes_l4_k : cutB Tryz.f28.ntmps ref7_Runes_l4C (loopAt 220 Tryz.f28) = true := by kernel_rfl
theorem ref7_Runes_l4_in : cutsOf ([] : List (CutSpec tb)) (loopAt 220 Tryz.f28) = [] := by kernel_rfl
theorem ref7_Runes_l4_cut : CutSound Tryz.prog tb Tryz.f28.ntmps (.loop (loopAt 220 Tryz.f28)) ref7_Runes_l4C := loop_it mixed ref7_Runes_l4_k .nil rfl ref7_Runes_l4_in .nil ref7_Runes_l4F ref7_Runes_l4_eq rfl
def ref7_Runes_b2J (x : List UInt8 × List (Int) × Int) : Option ((List (Int) × Int) ⊕ (List (Int) × Bool)) :=
  obnd (idx x.fst x.2.snd) fun y =>
    obnd (ref7_Runes_b3J (IntKind.i64.wrap (↑y.toNat : Int), 0, 0)) fun y =>
      osum y
        (fun y =>
          brn (decide (IntKind.i64.wrap ((↑x.fst.length : Int) - x.2.snd) ≤ y.fst)) (some (Sum.inr ([], false)))
            (obnd (ref7_Runes_l4J (x.fst, x.2.snd, y.fst, y.2.fst, 1)) fun y_1 =>
              osum y_1
                (fun y_2 =>
                  brn (decide (y_2 < y.2.snd)) (some (Sum.inr ([], false)))
                    (brn (decide (55296 ≤ y_2))
                      (brn (decide (y_2 < 57344)) (some (Sum.inr ([], false)))
                        (brn (decide (1114111 < y_2)) (some (Sum.inr ([], false)))
                          (obnd (app 8 x.2.fst [y_2]) fun zs => some (Sum.inl (zs, IntKind.i64.wrap (IntKind.i64.wrap (x.2.snd + y.fst) + 1))))))
                      (brn (decide (1114111 < y_2)) (some (Sum.inr ([], false)))
                        (obnd (app 8 x.2.fst [y_2]) fun zs => some (Sum.inl (zs, IntKind.i64.wrap (IntKind.i64.wrap (x.2.snd + y.fst) + 1)))))))
                fun y => some (Sum.inr y)))
        fun y => some (Sum.inr y)
def ref7_Runes_b2C : CutSpec tb := ⟨43, [(0, .val 9), (4, .own 3), (5, .val 3)], [(.normal, [(4, .own 3), (5, .val 3)]), (.ret, [(2, .own 3), (3, .val 4)])], [16, 17, 18, 19, 6, 7, 8, 9, 21, 22, 20, 23, 25, 26, 27, 28, 29, 30, 24, 31, 32, 34, 35, 36, 37, 38, 39, 33, 40, 41, 43, 44, 45, 46, 47, 48, 42, 49, 50, 2, 3, 51, 52, 53, 54, 55, 56, 10, 57, 58, 59, 62, 63, 64, 65, 66, 67, 11, 68, 69, 70, 71, 72, 73, 74, 75, 60, 61, 76, 77, 78, 79, 80, 81, 82, 83, 84, 85, 86, 87, 88, 89, 90, 91, 92, 93, 94, 4, 95, 96, 97, 98, 5], ref7_Runes_b2J⟩
set_option maxRecDepth 100000 in
theorem ref7_Runes_b2_eq : ∀ x, evBlk Tryz.prog tb [] [ref7_Runes_b3C, ref7_Runes_l4C] (codeAt 43 Tryz.f28) ref7_Runes_b2C.ins ref7_Runes_b2C.outs x = ref7_Runes_b2C.J x := fun x => by kernel_rfl
theorem ref7_Runes_b2_k : cutB Tryz.f28.ntmps ref7_Runes_b2C (codeAt 43 Tryz.f28) = true := by kernel_rfl
theorem ref7_Runes_b2_in : cutsOf ([ref7_Runes_b3C, ref7_Runes_l4C] : List (CutSpec tb)) (codeAt 43 Tryz.f28) = [(83, codeAt 83 Tryz.f28), (220, .loop (loopAt 220 Tryz.f28))] := by kernel_rfl
theorem ref7_Runes_b2_cut : CutSound Tryz.prog tb Tryz.f28.ntmps (codeAt 43 Tryz.f28) ref7_Runes_b2C := blk_ev mixed ref7_Runes_b2_k .nil rfl ref7_Runes_b2_in (.cons rfl ref7_Runes_b3_cut rfl (.cons rfl ref7_Runes_l4_cut rfl .nil)) ref7_Runes_b2_eq
def ref7_Runes_l1F (back : List UInt8 × List (Int) × Int → Option ((List (Int)) ⊕ (List (Int) × Bool))) (x : List UInt8 × List (Int) × Int) : Option ((List (Int)) ⊕ (List (Int) × Bool)) :=
  brn (decide (x.2.snd < (↑x.fst.length : Int))) (obnd (ref7_Runes_b2J (x.fst, x.2)) fun y => osum y (fun y => back (x.fst, y)) fun y => some (Sum.inr y)) (some (Sum.inl x.2.1))
def ref7_Runes_l1J : List UInt8 × List (Int) × Int → Option ((List (Int)) ⊕ (List (Int) × Bool)) := iter ref7_Runes_l1F big
def ref7_Runes_l1C : CutSpec tb := ⟨36, [(0, .val 9), (4, .own 3), (5, .val 3)], [((.exit 0), [(4, .own 3)]), (.ret, [(2, .own 3), (3, .val 4)])], [12, 13, 14, 15, 16, 17, 18, 19, 6, 7, 8, 9, 21, 22, 20, 23, 25, 26, 27, 28, 29, 30, 24, 31, 32, 34, 35, 36, 37, 38, 39, 33, 40, 41, 43, 44, 45, 46, 47, 48, 42, 49, 50, 2, 3, 51, 52, 53, 54, 55, 56, 10, 57, 58, 59, 62, 63, 64, 65, 66, 67, 11, 68, 69, 70, 71, 72, 73, 74, 75, 60, 61, 76, 77, 78, 79, 80, 81, 82, 83, 84, 85, 86, 87, 88, 89, 90, 91, 92, 93, 94, 4, 95, 96, 97, 98, 5], ref7_Runes_l1J⟩
set_option maxRecDepth 100000 in
theorem ref7_Runes_l1_eq : ∀ back x, evLoop Tryz.prog tb [] [ref7_Runes_b2C] (loopAt 36 Tryz.f28) ref7_Runes_l1C.ins ref7_Runes_l1C.outs back x = ref7_Runes_l1F back x := fun back x => by kernel_rfl
theorem ref7_Runes_l1_k : cutB Tryz.f28.ntmps ref7_Runes_l1C (loopAt 36 Tryz.f28) = true := by kernel_rfl
theorem ref7_Runes_l1_in : cutsOf ([ref7_Runes_b2C] : List (CutSpec tb)) (loopAt 36 Tryz.f28) = [(43, codeAt 43 Tryz.f28)] := by kernel_rfl
theorem ref7_Runes_l1_cut : CutSound Tryz.prog tb Tryz.f28.ntmps (.loop (loopAt 36 Tryz.f28)) ref7_Runes_l1C := loop_it mixed ref7_Runes_l1_k .nil rfl ref7_Runes_l1_in (.cons rfl ref7_Runes_b2_cut rfl .nil) ref7_Runes_l1F ref7_Runes_l1_eq rfl
def ref7_RunesF (x : List UInt8) : Option (List (Int) × Bool) :=
  obnd (ref7_Runes_l1J (x, [], 0)) fun y => osum y (fun y => some (y, true)) fun y => some y
def ref7_RunesS : FSpec tb := ⟨[(0, .val 9)], [(0, .own 3), (1, .val 4)], ref7_RunesF⟩
set_option maxRecDepth 100000 in
theorem ref7_Runes_eq : ∀ x, evFn Tryz.prog tb [] [ref7_Runes_l1C] Tryz.f28 ref7_RunesS.ins ref7_RunesS.outs x = ref7_RunesS.f x := fun x => by kernel_rfl
theorem ref7_Runes_k : fnK Tryz.f28 ref7_RunesS.ins ref7_RunesS.outs = true := by kernel_rfl
theorem ref7_Runes_in : cutsOf ([ref7_Runes_l1C] : List (CutSpec tb)) (bodyOf Tryz.f28) = [(36, .loop (loopAt 36 Tryz.f28))] := by kernel_rfl
theorem ref7_Runes_sound : FnSound Tryz.prog tb 28 ref7_RunesS := fn_cut mixed Tryz.func28 ref7_Runes_k .nil rfl ref7_Runes_in (.cons rfl ref7_Runes_l1_cut rfl .nil) ref7_Runes_eq
def ref7_units_l1F (back : List Int × List (Int) × Int → Option (List (Int))) (x : List Int × List (Int) × Int) : Option (List (Int)) :=
  brn (decide (x.2.snd < (↑x.fst.length : Int)))
    (obnd (idx x.fst x.2.snd) fun y =>
      brn (decide (y < 65536)) (obnd (idx x.fst x.2.snd) fun y => obnd (app 8 x.2.fst [y]) fun zs => back (x.fst, zs, IntKind.i64.wrap (x.2.snd + 1)))
        (obnd (idx x.fst x.2.snd) fun y =>
          obnd
            (app 8 x.2.fst
              [bitsOf BinOp.or IntKind.i64 55296 ((IntKind.i64.wrap (y - 65536)).fdiv 1024),
                bitsOf BinOp.or IntKind.i64 56320 (bitsOf BinOp.and IntKind.i64 (IntKind.i64.wrap (y - 65536)) 1023)])
            fun zs => back (x.fst, zs, IntKind.i64.wrap (x.2.snd + 1))))
    (some x.2.1)
def ref7_units_l1J : List Int × List (Int) × Int → Option (List (Int)) := iter ref7_units_l1F big
def ref7_units_l1C : CutSpec tb := ⟨36, [(0, .val 53), (3, .own 3), (4, .val 3)], [((.exit 0), [(3, .own 3)])], [6, 7, 8, 9, 12, 13, 14, 15, 16, 17, 18, 19, 20, 21, 22, 23, 3, 24, 25, 26, 27, 28, 5, 29, 30, 31, 32, 33, 34, 35, 36, 37, 10, 11, 4], ref7_units_l1J⟩
set_option maxRecDepth 100000 in
theorem ref7_units_l1_eq : ∀ back x, evLoop Tryz.prog tb [] [] (loopAt 36 Tryz.f215) ref7_units_l1C.ins ref7_units_l1C.outs back x = ref7_units_l1F back x := fun back x => by kernel_rfl
theorem ref7_units_l1_k : cutB Tryz.f215.ntmps ref7_units_l1C (loopAt 36 Tryz.f215) = true := by kernel_rfl
theorem ref7_units_l1_in : cutsOf ([] : List (CutSpec tb)) (loopAt 36 Tryz.f215) = [] := by kernel_rfl
theorem ref7_units_l1_cut : CutSound Tryz.prog tb Tryz.f215.ntmps (.loop (loopAt 36 Tryz.f215)) ref7_units_l1C := loop_it mixed ref7_units_l1_k .nil rfl ref7_units_l1_in .nil ref7_units_l1F ref7_units_l1_eq rfl
def ref7_unitsF (x : List Int) : Option (List (Int)) :=
  obnd (ref7_units_l1J (x, [], 0)) fun y => some y
def ref7_unitsS : FSpec tb := ⟨[(0, .val 53)], [(0, .own 3)], ref7_unitsF⟩
set_option maxRecDepth 100000 in
theorem ref7_units_eq : ∀ x, evFn Tryz.prog tb [] [ref7_units_l1C] Tryz.f215 ref7_unitsS.ins ref7_unitsS.outs x = ref7_unitsS.f x := fun x => by kernel_rfl
theorem ref7_units_k : fnK Tryz.f215 ref7_unitsS.ins ref7_unitsS.outs = true := by kernel_rfl
theorem ref7_units_in : cutsOf ([ref7_units_l1C] : List (CutSpec tb)) (bodyOf Tryz.f215) = [(36, .loop (loopAt 36 Tryz.f215))] := by kernel_rfl
theorem ref7_units_sound : FnSound Tryz.prog tb 215 ref7_unitsS := fn_cut mixed Tryz.func215 ref7_units_k .nil rfl ref7_units_in (.cons rfl ref7_units_l1_cut rfl .nil) ref7_units_eq
def ref7_UnitsF (x : List UInt8) : Option (Int × Int) :=
  obnd (ref7_RunesF x) fun y =>
    brn (!y.snd) (some (0, 2)) (obnd (ref7_unitsF y.fst) fun y => brn (decide (1000 < (↑(List.length y) : Int))) (some (0, 4)) (some ((↑(List.length y) : Int), 0)))
def ref7_UnitsS : FSpec tb := ⟨[(0, .val 9)], [(0, .val 3), (1, .val 3)], ref7_UnitsF⟩
set_option maxRecDepth 100000 in
theorem ref7_Units_eq : ∀ x, evFn Tryz.prog tb [(28, ref7_RunesS), (215, ref7_unitsS)] [] Tryz.f135 ref7_UnitsS.ins ref7_UnitsS.outs x = ref7_UnitsS.f x := fun x => by kernel_rfl
theorem ref7_Units_k : fnK Tryz.f135 ref7_UnitsS.ins ref7_UnitsS.outs = true := by kernel_rfl
theorem ref7_Units_sound : FnSound Tryz.prog tb 135 ref7_UnitsS := fn_ev mixed Tryz.func135 ref7_Units_k (.cons ref7_Runes_sound (.cons ref7_units_sound .nil)) rfl ref7_Units_eq
def ref13_ErrTextF (x : Int) : Option (List UInt8) :=
  brn (decide (x = 0)) (some (U8s [35, 78, 85, 76, 76, 33]))
    (brn (decide (x = 7)) (some (U8s [35, 68, 73, 86, 47, 48, 33]))
      (brn (decide (x = 15)) (some (U8s [35, 86, 65, 76, 85, 69, 33]))
        (brn (decide (x = 23)) (some (U8s [35, 82, 69, 70, 33]))
          (brn (decide (x = 29)) (some (U8s [35, 78, 65, 77, 69, 63]))
            (brn (decide (x = 36)) (some (U8s [35, 78, 85, 77, 33])) (brn (decide (x = 42)) (some [35, 78, 47, 65]) (some [])))))))
def ref13_ErrTextS : FSpec tb := ⟨[(0, .val 3)], [(0, .val 9)], ref13_ErrTextF⟩
theorem ref13_ErrText_eq : ∀ x, evFn Tryz.prog tb [] [] Tryz.f136 ref13_ErrTextS.ins ref13_ErrTextS.outs x = ref13_ErrTextS.f x := fun x => by kernel_rfl
theorem ref13_ErrText_k : fnK Tryz.f136 ref13_ErrTextS.ins ref13_ErrTextS.outs = true := by kernel_rfl
theorem ref13_ErrText_sound : FnSound Tryz.prog tb 136 ref13_ErrTextS := fn_ev mixed Tryz.func136 ref13_ErrText_k .nil rfl ref13_ErrText_eq
def ref13_CheckVal_b1J (x : Val) : Option (Bool) :=
  brn (!decide (x.Kind = 1))
    (brn (bif true then !(decide (x.N.M = 0) && decide (x.N.S = 0)) else decide (x.N.M = 0) && decide (x.N.S = 0)) (some true)
      (brn (!decide (x.Kind = 2))
        (brn (!decide (x.S = [])) (some true)
          (brn (!decide (x.Kind = 3)) (brn x.B (some true) (brn (!decide (x.Kind = 4)) (some (bif decide (x.E = 0) then false else true)) (some false)))
            (brn (!decide (x.Kind = 4)) (some (bif decide (x.E = 0) then false else true)) (some false))))
        (brn (!decide (x.Kind = 3)) (brn x.B (some true) (brn (!decide (x.Kind = 4)) (some (bif decide (x.E = 0) then false else true)) (some false)))
          (brn (!decide (x.Kind = 4)) (some (bif decide (x.E = 0) then false else true)) (some false)))))
    (brn (!decide (x.Kind = 2))
      (brn (!decide (x.S = [])) (some true)
        (brn (!decide (x.Kind = 3)) (brn x.B (some true) (brn (!decide (x.Kind = 4)) (some (bif decide (x.E = 0) then false else true)) (some false)))
          (brn (!decide (x.Kind = 4)) (some (bif decide (x.E = 0) then false else true)) (some false))))
      (brn (!decide (x.Kind = 3)) (brn x.B (some true) (brn (!decide (x.Kind = 4)) (some (bif decide (x.E = 0) then false else true)) (some false)))
        (brn (!decide (x.Kind = 4)) (some (bif decide (x.E = 0) then false else true)) (some false))))
def ref13_CheckValF (x : Val) : Option (Int) :=
  brn (decide (x.Kind < 0)) (some 1)
    (brn (decide (4 < x.Kind)) (some 1)
      (obnd (ref13_CheckVal_b1J x) fun y =>
        brn y (some 1)
          (brn (decide (x.Kind = 1)) (obnd (ref7_CheckDecF x.N) fun y => some y)
            (brn (decide (x.Kind = 2)) (obnd (ref7_UnitsF x.S) fun y => some y.2)
              (brn (decide (x.Kind = 4)) (obnd (ref13_ErrTextF x.E) fun y => brn (decide (y = [])) (some 1) (some 0)) (some 0))))))
def law4_OfF (x : Dec) : Option (Dec) :=
  some x
def law4_OfS : FSpec tb := ⟨[(0, .val 30)], [(0, .val 26)], law4_OfF⟩
theorem law4_Of_eq : ∀ x, evFn Tryz.prog tb [] [] Tryz.f58 law4_OfS.ins law4_OfS.outs x = law4_OfS.f x := fun x => by kernel_rfl
theorem law4_Of_k : fnK Tryz.f58 law4_OfS.ins law4_OfS.outs = true := by kernel_rfl
theorem law4_Of_sound : FnSound Tryz.prog tb 58 law4_OfS := fn_ev mixed Tryz.func58 law4_Of_k .nil rfl law4_Of_eq
def law9_OfF (x : Val) : Option (Val) :=
  obnd (law4_OfF x.N) fun y => some { Kind := x.Kind, N := y, S := x.S, B := x.B, E := x.E }
def law9_OfS : FSpec tb := ⟨[(0, .val 32)], [(0, .val 28)], law9_OfF⟩
theorem law9_Of_eq : ∀ x, evFn Tryz.prog tb [(58, law4_OfS)] [] Tryz.f18 law9_OfS.ins law9_OfS.outs x = law9_OfS.f x := fun x => by kernel_rfl
theorem law9_Of_k : fnK Tryz.f18 law9_OfS.ins law9_OfS.outs = true := by kernel_rfl
theorem law9_Of_sound : FnSound Tryz.prog tb 18 law9_OfS := fn_ev mixed Tryz.func18 law9_Of_k (.cons law4_Of_sound .nil) rfl law9_Of_eq
def ref13_FaultF (x : Int) : Option (Val) :=
  some { Kind := 4, N := { M := 0, S := 0 }, S := [], B := false, E := x }
def ref13_FaultS : FSpec tb := ⟨[(0, .val 3)], [(0, .val 28)], ref13_FaultF⟩
theorem ref13_Fault_eq : ∀ x, evFn Tryz.prog tb [] [] Tryz.f77 ref13_FaultS.ins ref13_FaultS.outs x = ref13_FaultS.f x := fun x => by kernel_rfl
theorem ref13_Fault_k : fnK Tryz.f77 ref13_FaultS.ins ref13_FaultS.outs = true := by kernel_rfl
theorem ref13_Fault_sound : FnSound Tryz.prog tb 77 ref13_FaultS := fn_ev mixed Tryz.func77 ref13_Fault_k .nil rfl ref13_Fault_eq
def ref7_trim_l1F (back : Big × Int → Option (Int)) (x : Big × Int) : Option (Int) :=
  brn (decide (0 < x.snd)) (obnd (idx x.fst.D (IntKind.i64.wrap (x.snd - 1))) fun y => brn (decide (y = 0)) (back (x.fst, IntKind.i64.wrap (x.snd - 1))) (some x.2)) (some x.2)
def ref7_trim_l1J : Big × Int → Option (Int) := iter ref7_trim_l1F big
def ref7_trim_l1C : CutSpec tb := ⟨28, [(1, .ro 271), (3, .val 3)], [((.exit 0), [(3, .val 3)])], [7, 8, 9, 10, 11, 12, 13, 14, 15, 16, 17, 18, 19, 3], ref7_trim_l1J⟩
set_option maxRecDepth 100000 in
theorem ref7_trim_l1_eq : ∀ back x, evLoop Tryz.prog tb [] [] (loopAt 28 Tryz.f196) ref7_trim_l1C.ins ref7_trim_l1C.outs back x = ref7_trim_l1F back x := fun back x => by kernel_rfl
theorem ref7_trim_l1_k : cutB Tryz.f196.ntmps ref7_trim_l1C (loopAt 28 Tryz.f196) = true := by kernel_rfl
theorem ref7_trim_l1_in : cutsOf ([] : List (CutSpec tb)) (loopAt 28 Tryz.f196) = [] := by kernel_rfl
theorem ref7_trim_l1_cut : CutSound Tryz.prog tb Tryz.f196.ntmps (.loop (loopAt 28 Tryz.f196)) ref7_trim_l1C := loop_it mixed ref7_trim_l1_k .nil rfl ref7_trim_l1_in .nil ref7_trim_l1F ref7_trim_l1_eq rfl
def ref7_trimF (x : Big) : Option (Big) :=
  obnd (ref7_trim_l1J (x, (↑x.D.length : Int))) fun y => obnd (sub x.D 0 y) fun z => brn (decide (y = 0)) (some { Minus := false, D := z }) (some { Minus := x.Minus, D := z })
def ref7_trimS : FSpec tb := ⟨[(0, .val 271)], [(0, .val 271)], ref7_trimF⟩
set_option maxRecDepth 100000 in
theorem ref7_trim_eq : ∀ x, evFn Tryz.prog tb [] [ref7_trim_l1C] Tryz.f196 ref7_trimS.ins ref7_trimS.outs x = ref7_trimS.f x := fun x => by kernel_rfl
theorem ref7_trim_k : fnK Tryz.f196 ref7_trimS.ins ref7_trimS.outs = true := by kernel_rfl
theorem ref7_trim_in : cutsOf ([ref7_trim_l1C] : List (CutSpec tb)) (bodyOf Tryz.f196) = [(28, .loop (loopAt 28 Tryz.f196))] := by kernel_rfl
theorem ref7_trim_sound : FnSound Tryz.prog tb 196 ref7_trimS := fn_cut mixed Tryz.func196 ref7_trim_k .nil rfl ref7_trim_in (.cons rfl ref7_trim_l1_cut rfl .nil) ref7_trim_eq
def ref7_small_l1F (back : Int × Big → Option ((Int) × Big)) (x : Int × Big) : Option ((Int) × Big) :=
  brn (decide (0 < x.fst))
    (brn (decide ((↑x.snd.D.length : Int) = 0))
      (brn (decide (0 < (↑x.snd.D.length : Int))) (obnd (sub x.snd.D 1 (↑x.snd.D.length : Int)) fun z => back (IntKind.i64.wrap (x.fst - 1), { Minus := x.snd.Minus, D := z }))
        (back (IntKind.i64.wrap (x.fst - 1), x.snd)))
      (obnd (idx x.snd.D 0) fun y =>
        brn (decide (y = 0))
          (brn (decide (0 < (↑x.snd.D.length : Int))) (obnd (sub x.snd.D 1 (↑x.snd.D.length : Int)) fun z => back (IntKind.i64.wrap (x.fst - 1), { Minus := x.snd.Minus, D := z }))
            (back (IntKind.i64.wrap (x.fst - 1), x.snd)))
          (some x)))
    (some x)
def ref7_small_l1J : Int × Big → Option ((Int) × Big) := iter ref7_small_l1F big
def ref7_small_l1C : CutSpec tb := ⟨20, [(1, .val 3), (2, .ref 271)], [((.exit 0), [(1, .val 3)])], [8, 9, 10, 11, 12, 13, 14, 15, 16, 17, 18, 19, 20, 21, 22, 23, 24, 25, 26, 27, 28, 29, 30, 31, 32, 33, 34, 1], ref7_small_l1J⟩
set_option maxRecDepth 100000 in
theorem ref7_small_l1_eq : ∀ back x, evLoop Tryz.prog tb [] [] (loopAt 20 Tryz.f188) ref7_small_l1C.ins ref7_small_l1C.outs back x = ref7_small_l1F back x := fun back x => by kernel_rfl
theorem ref7_small_l1_k : cutB Tryz.f188.ntmps ref7_small_l1C (loopAt 20 Tryz.f188) = true := by kernel_rfl
theorem ref7_small_l1_in : cutsOf ([] : List (CutSpec tb)) (loopAt 20 Tryz.f188) = [] := by kernel_rfl
theorem ref7_small_l1_cut : CutSound Tryz.prog tb Tryz.f188.ntmps (.loop (loopAt 20 Tryz.f188)) ref7_small_l1C := loop_it mixed ref7_small_l1_k .nil rfl ref7_small_l1_in .nil ref7_small_l1F ref7_small_l1_eq rfl
def ref7_small_l2F (back : Big × Int × Int → Option (Int)) (x : Big × Int × Int) : Option (Int) :=
  brn (decide (0 ≤ x.2.snd))
    (obnd (idx x.fst.D x.2.snd) fun y => back (x.fst, IntKind.u64.wrap (IntKind.u64.wrap (10 * x.2.fst) + IntKind.u64.wrap y), IntKind.i64.wrap (x.2.snd - 1))) (some x.2.1)
def ref7_small_l2J : Big × Int × Int → Option (Int) := iter ref7_small_l2F big
def ref7_small_l2C : CutSpec tb := ⟨84, [(2, .ro 271), (6, .val 152), (7, .val 3)], [((.exit 2), [(6, .val 152)])], [44, 45, 48, 49, 50, 51, 52, 53, 54, 55, 56, 6, 46, 47, 7], ref7_small_l2J⟩
set_option maxRecDepth 100000 in
theorem ref7_small_l2_eq : ∀ back x, evLoop Tryz.prog tb [] [] (loopAt 84 Tryz.f188) ref7_small_l2C.ins ref7_small_l2C.outs back x = ref7_small_l2F back x := fun back x => by kernel_rfl
theorem ref7_small_l2_k : cutB Tryz.f188.ntmps ref7_small_l2C (loopAt 84 Tryz.f188) = true := by kernel_rfl
theorem ref7_small_l2_in : cutsOf ([] : List (CutSpec tb)) (loopAt 84 Tryz.f188) = [] := by kernel_rfl
theorem ref7_small_l2_cut : CutSound Tryz.prog tb Tryz.f188.ntmps (.loop (loopAt 84 Tryz.f188)) ref7_small_l2C := loop_it mixed ref7_small_l2_k .nil rfl ref7_small_l2_in .nil ref7_small_l2F ref7_small_l2_eq rfl
def ref7_smallF (x : Big × Int) : Option (Dec × Int) :=
  obnd (ref7_small_l1J (x.snd, x.fst)) fun y =>
    brn (decide (19 < (↑y.2.D.length : Int))) (some ({ M := 0, S := 0 }, 8))
      (obnd (ref7_small_l2J (y.2, 0, IntKind.i64.wrap ((↑y.2.D.length : Int) - 1))) fun y_1 =>
        brn y.2.Minus (brn (decide (9223372036854775808 < y_1)) (some ({ M := 0, S := 0 }, 8)) (some ({ M := IntKind.i64.wrap (IntKind.u64.wrap (0 - y_1)), S := y.1 }, 0)))
          (brn (decide (9223372036854775807 < y_1)) (some ({ M := 0, S := 0 }, 8)) (some ({ M := IntKind.i64.wrap y_1, S := y.1 }, 0))))
def ref7_smallS : FSpec tb := ⟨[(0, .val 271), (1, .val 3)], [(0, .val 26), (1, .val 3)], ref7_smallF⟩
set_option maxRecDepth 100000 in
theorem ref7_small_eq : ∀ x, evFn Tryz.prog tb [] [ref7_small_l1C, ref7_small_l2C] Tryz.f188 ref7_smallS.ins ref7_smallS.outs x = ref7_smallS.f x := fun x => by kernel_rfl
theorem ref7_small_k : fnK Tryz.f188 ref7_smallS.ins ref7_smallS.outs = true := by kernel_rfl
theorem ref7_small_in : cutsOf ([ref7_small_l1C, ref7_small_l2C] : List (CutSpec tb)) (bodyOf Tryz.f188) = [(20, .loop (loopAt 20 Tryz.f188)), (84, .loop (loopAt 84 Tryz.f188))] := by kernel_rfl
theorem ref7_small_sound : FnSound Tryz.prog tb 188 ref7_smallS := fn_cut mixed Tryz.func188 ref7_small_k .nil rfl ref7_small_in (.cons rfl ref7_small_l1_cut rfl (.cons rfl ref7_small_l2_cut rfl .nil)) ref7_small_eq
abbrev ref7_ParseDecG : List (Nat × FSpec tb) := [(196, ref7_trimS), (188, ref7_smallS)]
theorem ref7_ParseDecG_ok : AllSound Tryz.prog tb ref7_ParseDecG := (.cons ref7_trim_sound (.cons ref7_small_sound .nil))
def ref7_ParseDec_b1J (x : List UInt8) : Option (Bool) :=
  brn (decide (0 < (↑x.length : Int))) (obnd (idx x 0) fun y => some (decide ((↑y.toNat : Int) = 45))) (some false)
def ref7_ParseDec_b1C : CutSpec tb := ⟨32, [(0, .val 9)], [(.normal, [(23, .val 4)])], [16, 17, 18, 19, 20, 21, 22, 23], ref7_ParseDec_b1J⟩
set_option maxRecDepth 100000 in
theorem ref7_ParseDec_b1_eq : ∀ x, evBlk Tryz.prog tb ref7_ParseDecG [] (codeAt 32 Tryz.f186) ref7_ParseDec_b1C.ins ref7_ParseDec_b1C.outs x = ref7_ParseDec_b1C.J x := fun x => by kernel_rfl
theorem ref7_ParseDec_b1_k : cutB Tryz.f186.ntmps ref7_ParseDec_b1C (codeAt 32 Tryz.f186) = true := by kernel_rfl
theorem ref7_ParseDec_b1_in : cutsOf ([] : List (CutSpec tb)) (codeAt 32 Tryz.f186) = [] := by kernel_rfl
theorem ref7_ParseDec_b1_cut : CutSound Tryz.prog tb Tryz.f186.ntmps (codeAt 32 Tryz.f186) ref7_ParseDec_b1C := blk_ev mixed ref7_ParseDec_b1_k ref7_ParseDecG_ok rfl ref7_ParseDec_b1_in .nil ref7_ParseDec_b1_eq
def ref7_ParseDec_b2J (x : Big × Int × Bool) : Option ((Int) × Big) :=
  brn x.2.snd (some (IntKind.i64.wrap (x.2.fst + 1), { Minus := true, D := x.fst.D })) (some (x.2.fst, x.fst))
def ref7_ParseDec_b2C : CutSpec tb := ⟨42, [(4, .ref 271), (5, .val 3), (23, .val 4)], [(.normal, [(5, .val 3)])], [24, 25, 26, 5], ref7_ParseDec_b2J⟩
set_option maxRecDepth 100000 in
theorem ref7_ParseDec_b2_eq : ∀ x, evBlk Tryz.prog tb ref7_ParseDecG [] (codeAt 42 Tryz.f186) ref7_ParseDec_b2C.ins ref7_ParseDec_b2C.outs x = ref7_ParseDec_b2C.J x := fun x => by kernel_rfl
theorem ref7_ParseDec_b2_k : cutB Tryz.f186.ntmps ref7_ParseDec_b2C (codeAt 42 Tryz.f186) = true := by kernel_rfl
theorem ref7_ParseDec_b2_in : cutsOf ([] : List (CutSpec tb)) (codeAt 42 Tryz.f186) = [] := by kernel_rfl
theorem ref7_ParseDec_b2_cut : CutSound Tryz.prog tb Tryz.f186.ntmps (codeAt 42 Tryz.f186) ref7_ParseDec_b2C := blk_ev mixed ref7_ParseDec_b2_k ref7_ParseDecG_ok rfl ref7_ParseDec_b2_in .nil ref7_ParseDec_b2_eq
def ref7_ParseDec_l3F (back : List UInt8 × Dec × Big × Int × Int × Int → Option (((Int) × (Dec × Big)) ⊕ ((Int) × (Dec × Big)))) (x : List UInt8 × Dec × Big × Int × Int × Int) : Option (((Int) × (Dec × Big)) ⊕ ((Int) × (Dec × Big))) :=
  brn (decide (x.2.2.2.2.snd < (↑x.fst.length : Int)))
    (obnd (idx x.fst x.2.2.2.2.snd) fun y =>
      brn (decide ((↑y.toNat : Int) = 46))
        (brn (decide (x.2.2.2.2.fst < 0))
          (brn (decide (x.2.2.2.fst < x.2.2.2.2.snd)) (back (x.fst, x.2.fst, x.2.2.fst, x.2.2.2.fst, x.2.2.2.2.snd, IntKind.i64.wrap (x.2.2.2.2.snd + 1)))
            (obnd (idx x.fst x.2.2.2.2.snd) fun y =>
              brn (decide (48 ≤ (↑y.toNat : Int)))
                (obnd (idx x.fst x.2.2.2.2.snd) fun y =>
                  brn (decide ((↑y.toNat : Int) ≤ 57))
                    (obnd (idx x.fst x.2.2.2.2.snd) fun y =>
                      obnd (app 8 [IntKind.i64.wrap (IntKind.u8.wrap ((↑y.toNat : Int) - 48))] x.2.2.fst.D) fun zs =>
                        back (x.fst, x.2.fst, { Minus := x.2.2.fst.Minus, D := zs }, x.2.2.2.fst, x.2.2.2.2.fst, IntKind.i64.wrap (x.2.2.2.2.snd + 1)))
                    (some (Sum.inr (2, { M := 0, S := 0 }, x.2.2.fst))))
                (some (Sum.inr (2, { M := 0, S := 0 }, x.2.2.fst)))))
          (obnd (idx x.fst x.2.2.2.2.snd) fun y =>
            brn (decide (48 ≤ (↑y.toNat : Int)))
              (obnd (idx x.fst x.2.2.2.2.snd) fun y =>
                brn (decide ((↑y.toNat : Int) ≤ 57))
                  (obnd (idx x.fst x.2.2.2.2.snd) fun y =>
                    obnd (app 8 [IntKind.i64.wrap (IntKind.u8.wrap ((↑y.toNat : Int) - 48))] x.2.2.fst.D) fun zs =>
                      back (x.fst, x.2.fst, { Minus := x.2.2.fst.Minus, D := zs }, x.2.2.2.fst, x.2.2.2.2.fst, IntKind.i64.wrap (x.2.2.2.2.snd + 1)))
                  (some (Sum.inr (2, { M := 0, S := 0 }, x.2.2.fst))))
              (some (Sum.inr (2, { M := 0, S := 0 }, x.2.2.fst)))))
        (obnd (idx x.fst x.2.2.2.2.snd) fun y =>
          brn (decide (48 ≤ (↑y.toNat : Int)))
            (obnd (idx x.fst x.2.2.2.2.snd) fun y =>
              brn (decide ((↑y.toNat : Int) ≤ 57))
                (obnd (idx x.fst x.2.2.2.2.snd) fun y =>
                  obnd (app 8 [IntKind.i64.wrap (IntKind.u8.wrap ((↑y.toNat : Int) - 48))] x.2.2.fst.D) fun zs =>
                    back (x.fst, x.2.fst, { Minus := x.2.2.fst.Minus, D := zs }, x.2.2.2.fst, x.2.2.2.2.fst, IntKind.i64.wrap (x.2.2.2.2.snd + 1)))
                (some (Sum.inr (2, { M := 0, S := 0 }, x.2.2.fst))))
            (some (Sum.inr (2, { M := 0, S := 0 }, x.2.2.fst)))))
    (some (Sum.inl (x.2.2.2.2.fst, x.2.fst, x.2.2.fst)))
def ref7_ParseDec_l3J : List UInt8 × Dec × Big × Int × Int × Int → Option (((Int) × (Dec × Big)) ⊕ ((Int) × (Dec × Big))) := iter ref7_ParseDec_l3F big
def ref7_ParseDec_l3C : CutSpec tb := ⟨84, [(0, .val 9), (2, .ref 26), (4, .ref 271), (6, .val 3), (7, .val 3), (8, .val 3)], [((.exit 0), [(7, .val 3)]), (.ret, [(3, .val 3)])], [29, 30, 31, 32, 37, 38, 39, 40, 41, 42, 43, 44, 45, 46, 47, 48, 49, 36, 50, 7, 52, 53, 54, 55, 56, 57, 58, 59, 60, 61, 51, 62, 63, 64, 65, 66, 67, 68, 69, 70, 71, 35, 3, 33, 34, 8], ref7_ParseDec_l3J⟩
set_option maxRecDepth 100000 in
theorem ref7_ParseDec_l3_eq : ∀ back x, evLoop Tryz.prog tb ref7_ParseDecG [] (loopAt 84 Tryz.f186) ref7_ParseDec_l3C.ins ref7_ParseDec_l3C.outs back x = ref7_ParseDec_l3F back x := fun back x => by kernel_rfl
theorem ref7_ParseDec_l3_k : cutB Tryz.f186.ntmps ref7_ParseDec_l3C (loopAt 84 Tryz.f186) = true := by kernel_rfl
theorem ref7_ParseDec_l3_in : cutsOf ([] : List (CutSpec tb)) (loopAt 84 Tryz.f186) = [] := by kernel_rfl
theorem ref7_ParseDec_l3_cut : CutSound Tryz.prog tb Tryz.f186.ntmps (.loop (loopAt 84 Tryz.f186)) ref7_ParseDec_l3C := loop_it mixed ref7_ParseDec_l3_k ref7_ParseDecG_ok rfl ref7_ParseDec_l3_in .nil ref7_ParseDec_l3F ref7_ParseDec_l3_eq rfl
def ref7_ParseDec_b4J (x : Int × Int × Int × Bool) : Option (Int) :=
  brn x.2.2.snd (some (IntKind.i64.wrap (x.2.fst - x.fst))) (some x.2.2.1)
def ref7_ParseDec_b4C : CutSpec tb := ⟨154, [(6, .val 3), (7, .val 3), (9, .val 3), (77, .val 4)], [(.normal, [(9, .val 3)])], [78, 79, 80, 9], ref7_ParseDec_b4J⟩
set_option maxRecDepth 100000 in
theorem ref7_ParseDec_b4_eq : ∀ x, evBlk Tryz.prog tb ref7_ParseDecG [] (codeAt 154 Tryz.f186) ref7_ParseDec_b4C.ins ref7_ParseDec_b4C.outs x = ref7_ParseDec_b4C.J x := fun x => by kernel_rfl
theorem ref7_ParseDec_b4_k : cutB Tryz.f186.ntmps ref7_ParseDec_b4C (codeAt 154 Tryz.f186) = true := by kernel_rfl
theorem ref7_ParseDec_b4_in : cutsOf ([] : List (CutSpec tb)) (codeAt 154 Tryz.f186) = [] := by kernel_rfl
theorem ref7_ParseDec_b4_cut : CutSound Tryz.prog tb Tryz.f186.ntmps (codeAt 154 Tryz.f186) ref7_ParseDec_b4C := blk_ev mixed ref7_ParseDec_b4_k ref7_ParseDecG_ok rfl ref7_ParseDec_b4_in .nil ref7_ParseDec_b4_eq
def ref7_ParseDec_b5J (x : List UInt8 × Int × Int × Int) : Option (Bool) :=
  brn (decide (x.2.2.snd = 0)) (some true)
    (brn (decide (x.2.2.fst = IntKind.i64.wrap ((↑x.fst.length : Int) - 1))) (some true)
      (obnd (idx x.fst x.2.fst) fun y => brn (decide ((↑y.toNat : Int) = 48)) (some (decide (1 < x.2.2.snd))) (some false)))
def ref7_ParseDec_b5C : CutSpec tb := ⟨160, [(0, .val 9), (6, .val 3), (7, .val 3), (9, .val 3)], [(.normal, [(99, .val 4)])], [81, 82, 83, 84, 85, 86, 87, 88, 89, 90, 91, 92, 93, 94, 95, 96, 97, 98, 99], ref7_ParseDec_b5J⟩
set_option maxRecDepth 100000 in
theorem ref7_ParseDec_b5_eq : ∀ x, evBlk Tryz.prog tb ref7_ParseDecG [] (codeAt 160 Tryz.f186) ref7_ParseDec_b5C.ins ref7_ParseDec_b5C.outs x = ref7_ParseDec_b5C.J x := fun x => by kernel_rfl
theorem ref7_ParseDec_b5_k : cutB Tryz.f186.ntmps ref7_ParseDec_b5C (codeAt 160 Tryz.f186) = true := by kernel_rfl
theorem ref7_ParseDec_b5_in : cutsOf ([] : List (CutSpec tb)) (codeAt 160 Tryz.f186) = [] := by kernel_rfl
theorem ref7_ParseDec_b5_cut : CutSound Tryz.prog tb Tryz.f186.ntmps (codeAt 160 Tryz.f186) ref7_ParseDec_b5C := blk_ev mixed ref7_ParseDec_b5_k ref7_ParseDecG_ok rfl ref7_ParseDec_b5_in .nil ref7_ParseDec_b5_eq
def ref7_ParseDec_b6J (x : Int × Bool × Big) : Option (Bool) :=
  brn (decide ((↑x.2.snd.D.length : Int) = 0)) (brn x.2.fst (some (decide (x.fst = 0))) (some false)) (some false)
def ref7_ParseDec_b6C : CutSpec tb := ⟨216, [(10, .val 3), (11, .val 4), (12, .ro 271)], [(.normal, [(122, .val 4)])], [112, 113, 114, 115, 116, 117, 118, 119, 120, 121, 122], ref7_ParseDec_b6J⟩
set_option maxRecDepth 100000 in
theorem ref7_ParseDec_b6_eq : ∀ x, evBlk Tryz.prog tb ref7_ParseDecG [] (codeAt 216 Tryz.f186) ref7_ParseDec_b6C.ins ref7_ParseDec_b6C.outs x = ref7_ParseDec_b6C.J x := fun x => by kernel_rfl
theorem ref7_ParseDec_b6_k : cutB Tryz.f186.ntmps ref7_ParseDec_b6C (codeAt 216 Tryz.f186) = true := by kernel_rfl
theorem ref7_ParseDec_b6_in : cutsOf ([] : List (CutSpec tb)) (codeAt 216 Tryz.f186) = [] := by kernel_rfl
theorem ref7_ParseDec_b6_cut : CutSound Tryz.prog tb Tryz.f186.ntmps (codeAt 216 Tryz.f186) ref7_ParseDec_b6C := blk_ev mixed ref7_ParseDec_b6_k ref7_ParseDecG_ok rfl ref7_ParseDec_b6_in .nil ref7_ParseDec_b6_eq
def ref7_ParseDecF (x : List UInt8) : Option (Dec × Int) :=
  obnd (ref7_ParseDec_b1J x) fun y =>
    obnd (ref7_ParseDec_b2J ({ Minus := false, D := [] }, 0, y)) fun y =>
      obnd (ref7_ParseDec_l3J (x, { M := 0, S := 0 }, y.2, y.1, -1, y.1)) fun y_1 =>
        osum y_1
          (fun y_2 =>
            obnd (ref7_ParseDec_b4J (y.1, y_2.1, IntKind.i64.wrap ((↑x.length : Int) - y.1), decide (0 ≤ y_2.1))) fun y_3 =>
              obnd (ref7_ParseDec_b5J (x, y.1, y_2.1, y_3)) fun y =>
                brn y (some ({ M := 0, S := 0 }, 2))
                  (brn (decide (0 ≤ y_2.1))
                    (obnd (ref7_trimF y_2.2.snd) fun y =>
                      obnd (ref7_ParseDec_b6J (IntKind.i64.wrap (IntKind.i64.wrap ((↑x.length : Int) - y_2.1) - 1), y_2.2.snd.Minus, y)) fun y_4 =>
                        brn y_4 (some ({ M := 0, S := 0 }, 2))
                          (obnd (ref7_smallF (y, 0)) fun y =>
                            brn (!decide (y.snd = 0)) (some ({ M := 0, S := 0 }, y.snd))
                              (brn (decide (9 < IntKind.i64.wrap (IntKind.i64.wrap ((↑x.length : Int) - y_2.1) - 1))) (some ({ M := 0, S := 0 }, 1))
                                (brn (decide (0 < IntKind.i64.wrap (IntKind.i64.wrap ((↑x.length : Int) - y_2.1) - 1)))
                                  (obnd (idx x (IntKind.i64.wrap ((↑x.length : Int) - 1))) fun y_5 =>
                                    brn (decide ((↑y_5.toNat : Int) = 48)) (some ({ M := 0, S := 0 }, 1))
                                      (some ({ M := y.fst.M, S := IntKind.i64.wrap (IntKind.i64.wrap ((↑x.length : Int) - y_2.1) - 1) }, 0)))
                                  (some ({ M := y.fst.M, S := IntKind.i64.wrap (IntKind.i64.wrap ((↑x.length : Int) - y_2.1) - 1) }, 0))))))
                    (obnd (ref7_trimF y_2.2.snd) fun y =>
                      obnd (ref7_ParseDec_b6J (0, y_2.2.snd.Minus, y)) fun y_4 =>
                        brn y_4 (some ({ M := 0, S := 0 }, 2))
                          (obnd (ref7_smallF (y, 0)) fun y => brn (!decide (y.snd = 0)) (some ({ M := 0, S := 0 }, y.snd)) (some ({ M := y.fst.M, S := 0 }, 0))))))
          fun y => some (y.2.fst, y.1)
def ref7_ParseDecS : FSpec tb := ⟨[(0, .val 9)], [(0, .val 26), (1, .val 3)], ref7_ParseDecF⟩
set_option maxRecDepth 100000 in
theorem ref7_ParseDec_eq : ∀ x, evFn Tryz.prog tb ref7_ParseDecG [ref7_ParseDec_b1C, ref7_ParseDec_b2C, ref7_ParseDec_l3C, ref7_ParseDec_b4C, ref7_ParseDec_b5C, ref7_ParseDec_b6C] Tryz.f186 ref7_ParseDecS.ins ref7_ParseDecS.outs x = ref7_ParseDecS.f x := fun x => by kernel_rfl
theorem ref7_ParseDec_k : fnK Tryz.f186 ref7_ParseDecS.ins ref7_ParseDecS.outs = true := by kernel_rfl
theorem ref7_ParseDec_in : cutsOf ([ref7_ParseDec_b1C, ref7_ParseDec_b2C, ref7_ParseDec_l3C, ref7_ParseDec_b4C, ref7_ParseDec_b5C, ref7_ParseDec_b6C] : List (CutSpec tb)) (bodyOf Tryz.f186) = [(32, codeAt 32 Tryz.f186), (42, codeAt 42 Tryz.f186), (84, .loop (loopAt 84 Tryz.f186)), (154, codeAt 154 Tryz.f186), (160, codeAt 160 Tryz.f186), (216, codeAt 216 Tryz.f186)] := by kernel_rfl
theorem ref7_ParseDec_sound : FnSound Tryz.prog tb 186 ref7_ParseDecS := fn_cut mixed Tryz.func186 ref7_ParseDec_k ref7_ParseDecG_ok rfl ref7_ParseDec_in (.cons rfl ref7_ParseDec_b1_cut rfl (.cons rfl ref7_ParseDec_b2_cut rfl (.cons rfl ref7_ParseDec_l3_cut rfl (.cons rfl ref7_ParseDec_b4_cut rfl (.cons rfl ref7_ParseDec_b5_cut rfl (.cons rfl ref7_ParseDec_b6_cut rfl .nil)))))) ref7_ParseDec_eq
def ref13_NumberF (x : Val) : Option (Dec × Val × Bool) :=
  brn (decide (x.Kind = 1)) (some (x.N, { Kind := 0, N := { M := 0, S := 0 }, S := [], B := false, E := 0 }, true))
    (brn (decide (x.Kind = 3))
      (brn x.B (some ({ M := 1, S := 0 }, { Kind := 0, N := { M := 0, S := 0 }, S := [], B := false, E := 0 }, true))
        (some ({ M := 0, S := 0 }, { Kind := 0, N := { M := 0, S := 0 }, S := [], B := false, E := 0 }, true)))
      (brn (decide (x.Kind = 2))
        (obnd (ref7_ParseDecF x.S) fun y =>
          brn (!decide (y.snd = 0)) (obnd (ref13_FaultF 15) fun y => some ({ M := 0, S := 0 }, y, false))
            (some (y.fst, { Kind := 0, N := { M := 0, S := 0 }, S := [], B := false, E := 0 }, true)))
        (brn (decide (x.Kind = 4)) (some ({ M := 0, S := 0 }, x, false)) (some ({ M := 0, S := 0 }, { Kind := 0, N := { M := 0, S := 0 }, S := [], B := false, E := 0 }, true)))))
def ref13_NumberS : FSpec tb := ⟨[(0, .val 28)], [(0, .val 26), (1, .val 28), (2, .val 4)], ref13_NumberF⟩
theorem ref13_Number_eq : ∀ x, evFn Tryz.prog tb [(186, ref7_ParseDecS), (77, ref13_FaultS)] [] Tryz.f107 ref13_NumberS.ins ref13_NumberS.outs x = ref13_NumberS.f x := fun x => by kernel_rfl
theorem ref13_Number_k : fnK Tryz.f107 ref13_NumberS.ins ref13_NumberS.outs = true := by kernel_rfl
theorem ref13_Number_sound : FnSound Tryz.prog tb 107 ref13_NumberS := fn_ev mixed Tryz.func107 ref13_Number_k (.cons ref7_ParseDec_sound (.cons ref13_Fault_sound .nil)) rfl ref13_Number_eq
def ref7_big_l1F (back : List (Int) × Big × Int → Option ((List (Int)) × Big)) (x : List (Int) × Big × Int) : Option ((List (Int)) × Big) :=
  brn (decide (0 < x.2.snd)) (obnd (app 8 x.fst [IntKind.i64.wrap (x.2.snd.tmod 10)]) fun zs => back (zs, { Minus := x.2.fst.Minus, D := zs }, IntKind.u64.wrap (x.2.snd.tdiv 10)))
    (some (x.fst, { Minus := x.2.fst.Minus, D := x.fst }))
def ref7_big_l1J : List (Int) × Big × Int → Option ((List (Int)) × Big) := iter ref7_big_l1F big
def ref7_big_l1C : CutSpec tb := ⟨52, [(8589934595, .own 3), (3, .ref 271), (4, .val 152)], [((.exit 0), [(8589934595, .own 3)])], [14, 15, 16, 17, 18, 19, 20, 21, 22, 23, 24, 25, 4], ref7_big_l1J⟩
set_option maxRecDepth 100000 in
theorem ref7_big_l1_eq : ∀ back x, evLoop Tryz.prog tb [] [] (loopAt 52 Tryz.f192) ref7_big_l1C.ins ref7_big_l1C.outs back x = ref7_big_l1F back x := fun back x => by kernel_rfl
theorem ref7_big_l1_k : cutB Tryz.f192.ntmps ref7_big_l1C (loopAt 52 Tryz.f192) = true := by kernel_rfl
theorem ref7_big_l1_in : cutsOf ([] : List (CutSpec tb)) (loopAt 52 Tryz.f192) = [] := by kernel_rfl
theorem ref7_big_l1_cut : CutSound Tryz.prog tb Tryz.f192.ntmps (.loop (loopAt 52 Tryz.f192)) ref7_big_l1C := loop_it mixed ref7_big_l1_k .nil rfl ref7_big_l1_in .nil ref7_big_l1F ref7_big_l1_eq rfl
def ref7_bigF (x : Int) : Option (List (Int) × Big) :=
  brn (decide (x < 0))
    (obnd (ref7_big_l1J ([], { Minus := decide (x < 0), D := [] }, IntKind.u64.wrap (0 - IntKind.u64.wrap x))) fun y => some (y.1, { Minus := y.2.Minus, D := y.1 }))
    (obnd (ref7_big_l1J ([], { Minus := decide (x < 0), D := [] }, IntKind.u64.wrap x)) fun y => some (y.1, { Minus := y.2.Minus, D := y.1 }))
def ref7_bigS : FSpec tb := ⟨[(0, .val 2)], [(8589934592, .own 3), (0, .val 271)], ref7_bigF⟩
set_option maxRecDepth 100000 in
theorem ref7_big_eq : ∀ x, evFn Tryz.prog tb [] [ref7_big_l1C] Tryz.f192 ref7_bigS.ins ref7_bigS.outs x = ref7_bigS.f x := fun x => by kernel_rfl
theorem ref7_big_k : fnK Tryz.f192 ref7_bigS.ins ref7_bigS.outs = true := by kernel_rfl
theorem ref7_big_in : cutsOf ([ref7_big_l1C] : List (CutSpec tb)) (bodyOf Tryz.f192) = [(52, .loop (loopAt 52 Tryz.f192))] := by kernel_rfl
theorem ref7_big_sound : FnSound Tryz.prog tb 192 ref7_bigS := fn_cut mixed Tryz.func192 ref7_big_k .nil rfl ref7_big_in (.cons rfl ref7_big_l1_cut rfl .nil) ref7_big_eq
def ref7_bigPF (x : Int) : Option (Big) := obnd (ref7_bigF x) fun y => some y.2
def ref7_bigPS : FSpec tb := ⟨[(0, .val 2)], [(0, .val 271)], ref7_bigPF⟩
theorem ref7_bigP_sound : FnSound Tryz.prog tb 192 ref7_bigPS := ref7_big_sound.drop1 rfl fun x y h => (by obtain ⟨z, hz, h⟩ := obnd_eq_some.1 h; injection h with h; subst h; exact ⟨z, hz, rfl, rfl⟩)
def ref7_up_l1F (back : List (Int) × Int × Big × Int → Option ((List (Int)) × Big)) (x : List (Int) × Int × Big × Int) : Option ((List (Int)) × Big) :=
  brn (decide (x.2.2.snd < x.2.fst)) (obnd (app 8 x.fst [0]) fun zs => back (zs, x.2.fst, { Minus := x.2.2.fst.Minus, D := zs }, IntKind.i64.wrap (x.2.2.snd + 1)))
    (some (x.fst, { Minus := x.2.2.fst.Minus, D := x.fst }))
def ref7_up_l1J : List (Int) × Int × Big × Int → Option ((List (Int)) × Big) := iter ref7_up_l1F big
def ref7_up_l1C : CutSpec tb := ⟨52, [(8589934597, .own 3), (1, .val 3), (5, .ref 271), (6, .val 3)], [((.exit 0), [(8589934597, .own 3)])], [15, 16, 17, 20, 21, 22, 23, 24, 18, 19, 6], ref7_up_l1J⟩
set_option maxRecDepth 100000 in
theorem ref7_up_l1_eq : ∀ back x, evLoop Tryz.prog tb [] [] (loopAt 52 Tryz.f194) ref7_up_l1C.ins ref7_up_l1C.outs back x = ref7_up_l1F back x := fun back x => by kernel_rfl
theorem ref7_up_l1_k : cutB Tryz.f194.ntmps ref7_up_l1C (loopAt 52 Tryz.f194) = true := by kernel_rfl
theorem ref7_up_l1_in : cutsOf ([] : List (CutSpec tb)) (loopAt 52 Tryz.f194) = [] := by kernel_rfl
theorem ref7_up_l1_cut : CutSound Tryz.prog tb Tryz.f194.ntmps (.loop (loopAt 52 Tryz.f194)) ref7_up_l1C := loop_it mixed ref7_up_l1_k .nil rfl ref7_up_l1_in .nil ref7_up_l1F ref7_up_l1_eq rfl
def ref7_upF (x : Big × Int) : Option (Big) :=
  brn (decide ((↑x.fst.D.length : Int) = 0)) (some x.fst)
    (obnd (ref7_up_l1J ([], x.snd, { Minus := x.fst.Minus, D := [] }, 0)) fun y => obnd (app 8 y.1 x.fst.D) fun zs => some { Minus := y.2.Minus, D := zs })
def ref7_upS : FSpec tb := ⟨[(0, .val 271), (1, .val 3)], [(0, .val 271)], ref7_upF⟩
set_option maxRecDepth 100000 in
theorem ref7_up_eq : ∀ x, evFn Tryz.prog tb [] [ref7_up_l1C] Tryz.f194 ref7_upS.ins ref7_upS.outs x = ref7_upS.f x := fun x => by kernel_rfl
theorem ref7_up_k : fnK Tryz.f194 ref7_upS.ins ref7_upS.outs = true := by kernel_rfl
theorem ref7_up_in : cutsOf ([ref7_up_l1C] : List (CutSpec tb)) (bodyOf Tryz.f194) = [(52, .loop (loopAt 52 Tryz.f194))] := by kernel_rfl
theorem ref7_up_sound : FnSound Tryz.prog tb 194 ref7_upS := fn_cut mixed Tryz.func194 ref7_up_k .nil rfl ref7_up_in (.cons rfl ref7_up_l1_cut rfl .nil) ref7_up_eq
def ref7_alikeF (x : Dec × Dec) : Option (Big × Big × Int) :=
  obnd (ref7_bigPF x.fst.M) fun y =>
    obnd (ref7_bigPF x.snd.M) fun y_1 =>
      brn (decide (x.fst.S < x.snd.S)) (obnd (ref7_upF (y, IntKind.i64.wrap (x.snd.S - x.fst.S))) fun y => some (y, y_1, x.snd.S))
        (obnd (ref7_upF (y_1, IntKind.i64.wrap (x.fst.S - x.snd.S))) fun y_2 => some (y, y_2, x.fst.S))
def ref7_alikeS : FSpec tb := ⟨[(0, .val 26), (1, .val 26)], [(0, .val 271), (1, .val 271), (2, .val 3)], ref7_alikeF⟩
set_option maxRecDepth 100000 in
theorem ref7_alike_eq : ∀ x, evFn Tryz.prog tb [(192, ref7_bigPS), (194, ref7_upS)] [] Tryz.f187 ref7_alikeS.ins ref7_alikeS.outs x = ref7_alikeS.f x := fun x => by kernel_rfl
theorem ref7_alike_k : fnK Tryz.f187 ref7_alikeS.ins ref7_alikeS.outs = true := by kernel_rfl
theorem ref7_alike_sound : FnSound Tryz.prog tb 187 ref7_alikeS := fn_ev mixed Tryz.func187 ref7_alike_k (.cons ref7_bigP_sound (.cons ref7_up_sound .nil)) rfl ref7_alike_eq
def ref7_plus_b2J (x : List Int × List Int × List (Int) × Int × Int) : Option (List (Int) × Int) :=
  brn (decide (x.2.2.2.snd < (↑x.fst.length : Int)))
    (obnd (idx x.fst x.2.2.2.snd) fun y =>
      brn (decide (x.2.2.2.snd < (↑x.2.fst.length : Int)))
        (obnd (idx x.2.fst x.2.2.2.snd) fun y_1 =>
          obnd (app 8 x.2.2.fst [(IntKind.i64.wrap (IntKind.i64.wrap (x.2.2.2.fst + y) + y_1)).tmod 10]) fun zs =>
            some (zs, IntKind.i64.wrap ((IntKind.i64.wrap (IntKind.i64.wrap (x.2.2.2.fst + y) + y_1)).tdiv 10)))
        (obnd (app 8 x.2.2.fst [(IntKind.i64.wrap (x.2.2.2.fst + y)).tmod 10]) fun zs => some (zs, IntKind.i64.wrap ((IntKind.i64.wrap (x.2.2.2.fst + y)).tdiv 10))))
    (brn (decide (x.2.2.2.snd < (↑x.2.fst.length : Int)))
      (obnd (idx x.2.fst x.2.2.2.snd) fun y =>
        obnd (app 8 x.2.2.fst [(IntKind.i64.wrap (x.2.2.2.fst + y)).tmod 10]) fun zs => some (zs, IntKind.i64.wrap ((IntKind.i64.wrap (x.2.2.2.fst + y)).tdiv 10)))
      (obnd (app 8 x.2.2.fst [x.2.2.2.fst.tmod 10]) fun zs => some (zs, IntKind.i64.wrap (x.2.2.2.fst.tdiv 10))))
def ref7_plus_b2C : CutSpec tb := ⟨59, [(0, .val 53), (1, .val 53), (5, .own 3), (6, .val 3), (7, .val 3)], [(.normal, [(5, .own 3), (6, .val 3)])], [24, 25, 26, 27, 28, 29, 30, 31, 32, 33, 6, 34, 35, 36, 37, 38, 39, 40, 41, 42, 43, 44, 45, 46, 47, 48, 5, 49, 50], ref7_plus_b2J⟩
set_option maxRecDepth 100000 in
theorem ref7_plus_b2_eq : ∀ x, evBlk Tryz.prog tb [] [] (codeAt 59 Tryz.f195) ref7_plus_b2C.ins ref7_plus_b2C.outs x = ref7_plus_b2C.J x := fun x => by kernel_rfl
theorem ref7_plus_b2_k : cutB Tryz.f195.ntmps ref7_plus_b2C (codeAt 59 Tryz.f195) = true := by kernel_rfl
theorem ref7_plus_b2_in : cutsOf ([] : List (CutSpec tb)) (codeAt 59 Tryz.f195) = [] := by kernel_rfl
theorem ref7_plus_b2_cut : CutSound Tryz.prog tb Tryz.f195.ntmps (codeAt 59 Tryz.f195) ref7_plus_b2C := blk_ev mixed ref7_plus_b2_k .nil rfl ref7_plus_b2_in .nil ref7_plus_b2_eq
def ref7_plus_l1F (back : List Int × List Int × List (Int) × Int × Int → Option (List (Int))) (x : List Int × List Int × List (Int) × Int × Int) : Option (List (Int)) :=
  brn (decide (x.2.2.2.snd < (↑x.fst.length : Int)))
    (obnd (ref7_plus_b2J (x.fst, x.2.fst, x.2.2.fst, x.2.2.2)) fun y => back (x.fst, x.2.fst, y.fst, y.snd, IntKind.i64.wrap (x.2.2.2.snd + 1)))
    (brn (decide (x.2.2.2.snd < (↑x.2.fst.length : Int)))
      (obnd (ref7_plus_b2J (x.fst, x.2.fst, x.2.2.fst, x.2.2.2)) fun y => back (x.fst, x.2.fst, y.fst, y.snd, IntKind.i64.wrap (x.2.2.2.snd + 1)))
      (brn (decide (0 < x.2.2.2.fst)) (obnd (ref7_plus_b2J (x.fst, x.2.fst, x.2.2.fst, x.2.2.2)) fun y => back (x.fst, x.2.fst, y.fst, y.snd, IntKind.i64.wrap (x.2.2.2.snd + 1)))
        (some x.2.2.1)))
def ref7_plus_l1J : List Int × List Int × List (Int) × Int × Int → Option (List (Int)) := iter ref7_plus_l1F big
def ref7_plus_l1C : CutSpec tb := ⟨44, [(0, .val 53), (1, .val 53), (5, .own 3), (6, .val 3), (7, .val 3)], [((.exit 0), [(5, .own 3)])], [8, 9, 10, 11, 12, 13, 14, 15, 16, 17, 18, 19, 20, 21, 24, 25, 26, 27, 28, 29, 30, 31, 32, 33, 6, 34, 35, 36, 37, 38, 39, 40, 41, 42, 43, 44, 45, 46, 47, 48, 5, 49, 50, 22, 23, 7], ref7_plus_l1J⟩
set_option maxRecDepth 100000 in
theorem ref7_plus_l1_eq : ∀ back x, evLoop Tryz.prog tb [] [ref7_plus_b2C] (loopAt 44 Tryz.f195) ref7_plus_l1C.ins ref7_plus_l1C.outs back x = ref7_plus_l1F back x := fun back x => by kernel_rfl
theorem ref7_plus_l1_k : cutB Tryz.f195.ntmps ref7_plus_l1C (loopAt 44 Tryz.f195) = true := by kernel_rfl
theorem ref7_plus_l1_in : cutsOf ([ref7_plus_b2C] : List (CutSpec tb)) (loopAt 44 Tryz.f195) = [(59, codeAt 59 Tryz.f195)] := by kernel_rfl
theorem ref7_plus_l1_cut : CutSound Tryz.prog tb Tryz.f195.ntmps (.loop (loopAt 44 Tryz.f195)) ref7_plus_l1C := loop_it mixed ref7_plus_l1_k .nil rfl ref7_plus_l1_in (.cons rfl ref7_plus_b2_cut rfl .nil) ref7_plus_l1F ref7_plus_l1_eq rfl
def ref7_plusF (x : List Int × List Int) : Option (List (Int)) :=
  obnd (ref7_plus_l1J (x.fst, x.snd, [], 0, 0)) fun y => some y
def ref7_plusS : FSpec tb := ⟨[(0, .val 53), (1, .val 53)], [(0, .own 3)], ref7_plusF⟩
set_option maxRecDepth 100000 in
theorem ref7_plus_eq : ∀ x, evFn Tryz.prog tb [] [ref7_plus_l1C] Tryz.f195 ref7_plusS.ins ref7_plusS.outs x = ref7_plusS.f x := fun x => by kernel_rfl
theorem ref7_plus_k : fnK Tryz.f195 ref7_plusS.ins ref7_plusS.outs = true := by kernel_rfl
theorem ref7_plus_in : cutsOf ([ref7_plus_l1C] : List (CutSpec tb)) (bodyOf Tryz.f195) = [(44, .loop (loopAt 44 Tryz.f195))] := by kernel_rfl
theorem ref7_plus_sound : FnSound Tryz.prog tb 195 ref7_plusS := fn_cut mixed Tryz.func195 ref7_plus_k .nil rfl ref7_plus_in (.cons rfl ref7_plus_l1_cut rfl .nil) ref7_plus_eq
def ref7_less_l1F (back : List Int × List Int × Int → Option ((Unit) ⊕ (Bool))) (x : List Int × List Int × Int) : Option ((Unit) ⊕ (Bool)) :=
  brn (decide (0 ≤ x.2.snd))
    (obnd (idx x.fst x.2.snd) fun y =>
      obnd (idx x.2.fst x.2.snd) fun y_1 =>
        brn (!decide (y = y_1)) (obnd (idx x.fst x.2.snd) fun y => obnd (idx x.2.fst x.2.snd) fun y_2 => some (Sum.inr (decide (y < y_2))))
          (back (x.fst, x.2.fst, IntKind.i64.wrap (x.2.snd - 1))))
    (some (Sum.inl PUnit.unit))
def ref7_less_l1J : List Int × List Int × Int → Option ((Unit) ⊕ (Bool)) := iter ref7_less_l1F big
def ref7_less_l1C : CutSpec tb := ⟨44, [(0, .val 53), (1, .val 53), (5, .val 3)], [((.exit 0), []), (.ret, [(4, .val 4)])], [19, 20, 23, 24, 25, 26, 27, 28, 29, 30, 31, 32, 33, 34, 35, 36, 37, 38, 39, 40, 4, 21, 22, 5], ref7_less_l1J⟩
set_option maxRecDepth 100000 in
theorem ref7_less_l1_eq : ∀ back x, evLoop Tryz.prog tb [] [] (loopAt 44 Tryz.f235) ref7_less_l1C.ins ref7_less_l1C.outs back x = ref7_less_l1F back x := fun back x => by kernel_rfl
theorem ref7_less_l1_k : cutB Tryz.f235.ntmps ref7_less_l1C (loopAt 44 Tryz.f235) = true := by kernel_rfl
theorem ref7_less_l1_in : cutsOf ([] : List (CutSpec tb)) (loopAt 44 Tryz.f235) = [] := by kernel_rfl
theorem ref7_less_l1_cut : CutSound Tryz.prog tb Tryz.f235.ntmps (.loop (loopAt 44 Tryz.f235)) ref7_less_l1C := loop_it mixed ref7_less_l1_k .nil rfl ref7_less_l1_in .nil ref7_less_l1F ref7_less_l1_eq rfl
def ref7_lessF (x : List Int × List Int) : Option (Bool) :=
  brn (!decide ((↑x.fst.length : Int) = (↑x.snd.length : Int))) (some (decide ((↑x.fst.length : Int) < (↑x.snd.length : Int))))
    (obnd (ref7_less_l1J (x.fst, x.snd, IntKind.i64.wrap ((↑x.fst.length : Int) - 1))) fun y => osum y (fun y => some false) fun y => some y)
def ref7_lessS : FSpec tb := ⟨[(0, .val 53), (1, .val 53)], [(0, .val 4)], ref7_lessF⟩
set_option maxRecDepth 100000 in
theorem ref7_less_eq : ∀ x, evFn Tryz.prog tb [] [ref7_less_l1C] Tryz.f235 ref7_lessS.ins ref7_lessS.outs x = ref7_lessS.f x := fun x => by kernel_rfl
theorem ref7_less_k : fnK Tryz.f235 ref7_lessS.ins ref7_lessS.outs = true := by kernel_rfl
theorem ref7_less_in : cutsOf ([ref7_less_l1C] : List (CutSpec tb)) (bodyOf Tryz.f235) = [(44, .loop (loopAt 44 Tryz.f235))] := by kernel_rfl
theorem ref7_less_sound : FnSound Tryz.prog tb 235 ref7_lessS := fn_cut mixed Tryz.func235 ref7_less_k .nil rfl ref7_less_in (.cons rfl ref7_less_l1_cut rfl .nil) ref7_less_eq
def ref7_minus_l1F (back : List Int × List Int × List (Int) × Int × Int → Option (List (Int))) (x : List Int × List Int × List (Int) × Int × Int) : Option (List (Int)) :=
  brn (decide (x.2.2.2.snd < (↑x.fst.length : Int)))
    (obnd (idx x.fst x.2.2.2.snd) fun y =>
      brn (decide (x.2.2.2.snd < (↑x.2.fst.length : Int)))
        (obnd (idx x.2.fst x.2.2.2.snd) fun y_1 =>
          brn (decide (IntKind.i64.wrap (IntKind.i64.wrap (y - x.2.2.2.fst) - y_1) < 0))
            (obnd (app 8 x.2.2.fst [IntKind.i64.wrap (IntKind.i64.wrap (IntKind.i64.wrap (y - x.2.2.2.fst) - y_1) + 10)]) fun zs =>
              back (x.fst, x.2.fst, zs, 1, IntKind.i64.wrap (x.2.2.2.snd + 1)))
            (obnd (app 8 x.2.2.fst [IntKind.i64.wrap (IntKind.i64.wrap (y - x.2.2.2.fst) - y_1)]) fun zs => back (x.fst, x.2.fst, zs, 0, IntKind.i64.wrap (x.2.2.2.snd + 1))))
        (brn (decide (IntKind.i64.wrap (y - x.2.2.2.fst) < 0))
          (obnd (app 8 x.2.2.fst [IntKind.i64.wrap (IntKind.i64.wrap (y - x.2.2.2.fst) + 10)]) fun zs => back (x.fst, x.2.fst, zs, 1, IntKind.i64.wrap (x.2.2.2.snd + 1)))
          (obnd (app 8 x.2.2.fst [IntKind.i64.wrap (y - x.2.2.2.fst)]) fun zs => back (x.fst, x.2.fst, zs, 0, IntKind.i64.wrap (x.2.2.2.snd + 1)))))
    (some x.2.2.1)
def ref7_minus_l1J : List Int × List Int × List (Int) × Int × Int → Option (List (Int)) := iter ref7_minus_l1F big
def ref7_minus_l1C : CutSpec tb := ⟨44, [(0, .val 53), (1, .val 53), (5, .own 3), (6, .val 3), (7, .val 3)], [((.exit 0), [(5, .own 3)])], [9, 10, 11, 12, 15, 16, 17, 18, 19, 20, 8, 21, 22, 23, 24, 25, 26, 27, 28, 29, 30, 6, 31, 32, 33, 34, 35, 36, 37, 38, 5, 13, 14, 7], ref7_minus_l1J⟩
set_option maxRecDepth 100000 in
theorem ref7_minus_l1_eq : ∀ back x, evLoop Tryz.prog tb [] [] (loopAt 44 Tryz.f236) ref7_minus_l1C.ins ref7_minus_l1C.outs back x = ref7_minus_l1F back x := fun back x => by kernel_rfl
theorem ref7_minus_l1_k : cutB Tryz.f236.ntmps ref7_minus_l1C (loopAt 44 Tryz.f236) = true := by kernel_rfl
theorem ref7_minus_l1_in : cutsOf ([] : List (CutSpec tb)) (loopAt 44 Tryz.f236) = [] := by kernel_rfl
theorem ref7_minus_l1_cut : CutSound Tryz.prog tb Tryz.f236.ntmps (.loop (loopAt 44 Tryz.f236)) ref7_minus_l1C := loop_it mixed ref7_minus_l1_k .nil rfl ref7_minus_l1_in .nil ref7_minus_l1F ref7_minus_l1_eq rfl
def ref7_minusF (x : List Int × List Int) : Option (List (Int)) :=
  obnd (ref7_minus_l1J (x.fst, x.snd, [], 0, 0)) fun y => some y
def ref7_minusS : FSpec tb := ⟨[(0, .val 53), (1, .val 53)], [(0, .own 3)], ref7_minusF⟩
set_option maxRecDepth 100000 in
theorem ref7_minus_eq : ∀ x, evFn Tryz.prog tb [] [ref7_minus_l1C] Tryz.f236 ref7_minusS.ins ref7_minusS.outs x = ref7_minusS.f x := fun x => by kernel_rfl
theorem ref7_minus_k : fnK Tryz.f236 ref7_minusS.ins ref7_minusS.outs = true := by kernel_rfl
theorem ref7_minus_in : cutsOf ([ref7_minus_l1C] : List (CutSpec tb)) (bodyOf Tryz.f236) = [(44, .loop (loopAt 44 Tryz.f236))] := by kernel_rfl
theorem ref7_minus_sound : FnSound Tryz.prog tb 236 ref7_minusS := fn_cut mixed Tryz.func236 ref7_minus_k .nil rfl ref7_minus_in (.cons rfl ref7_minus_l1_cut rfl .nil) ref7_minus_eq
def ref7_addF (x : Big × Big) : Option (Big) :=
  brn (decide (x.fst.Minus = x.snd.Minus)) (obnd (ref7_plusF (x.fst.D, x.snd.D)) fun y => obnd (ref7_trimF { Minus := x.fst.Minus, D := y }) fun y => some y)
    (obnd (ref7_lessF (x.fst.D, x.snd.D)) fun y =>
      brn y (obnd (ref7_minusF (x.snd.D, x.fst.D)) fun y => obnd (ref7_trimF { Minus := x.snd.Minus, D := y }) fun y => some y)
        (obnd (ref7_minusF (x.fst.D, x.snd.D)) fun y => obnd (ref7_trimF { Minus := x.fst.Minus, D := y }) fun y => some y))
def ref7_addS : FSpec tb := ⟨[(0, .val 271), (1, .val 271)], [(0, .val 271)], ref7_addF⟩
set_option maxRecDepth 100000 in
theorem ref7_add_eq : ∀ x, evFn Tryz.prog tb [(195, ref7_plusS), (196, ref7_trimS), (235, ref7_lessS), (236, ref7_minusS)] [] Tryz.f189 ref7_addS.ins ref7_addS.outs x = ref7_addS.f x := fun x => by kernel_rfl
theorem ref7_add_k : fnK Tryz.f189 ref7_addS.ins ref7_addS.outs = true := by kernel_rfl
theorem ref7_add_sound : FnSound Tryz.prog tb 189 ref7_addS := fn_ev mixed Tryz.func189 ref7_add_k (.cons ref7_plus_sound (.cons ref7_trim_sound (.cons ref7_less_sound (.cons ref7_minus_sound .nil)))) rfl ref7_add_eq
def ref7_CompareDecF (x : Dec × Dec) : Option (Int) :=
  obnd (ref7_alikeF x) fun y =>
    brn (!y.2.fst.Minus)
      (obnd (ref7_addF (y.fst, { Minus := decide (0 < (↑y.2.fst.D.length : Int)), D := y.2.fst.D })) fun y =>
        brn (decide ((↑y.D.length : Int) = 0)) (some 0) (brn y.Minus (some (-1)) (some 1)))
      (obnd (ref7_addF (y.fst, { Minus := false, D := y.2.fst.D })) fun y => brn (decide ((↑y.D.length : Int) = 0)) (some 0) (brn y.Minus (some (-1)) (some 1)))
def ref7_CompareDecS : FSpec tb := ⟨[(0, .val 26), (1, .val 26)], [(0, .val 3)], ref7_CompareDecF⟩
set_option maxRecDepth 100000 in
theorem ref7_CompareDec_eq : ∀ x, evFn Tryz.prog tb [(187, ref7_alikeS), (189, ref7_addS)] [] Tryz.f162 ref7_CompareDecS.ins ref7_CompareDecS.outs x = ref7_CompareDecS.f x := fun x => by kernel_rfl
theorem ref7_CompareDec_k : fnK Tryz.f162 ref7_CompareDecS.ins ref7_CompareDecS.outs = true := by kernel_rfl
theorem ref7_CompareDec_sound : FnSound Tryz.prog tb 162 ref7_CompareDecS := fn_ev mixed Tryz.func162 ref7_CompareDec_k (.cons ref7_alike_sound (.cons ref7_add_sound .nil)) rfl ref7_CompareDec_eq
def ref7_AddDecF (x : Dec × Dec) : Option (Dec × Int) :=
  obnd (ref7_alikeF x) fun y => obnd (ref7_addF (y.fst, y.2.fst)) fun y_1 => obnd (ref7_smallF (y_1, y.2.snd)) fun y => some y
def ref7_AddDecS : FSpec tb := ⟨[(0, .val 26), (1, .val 26)], [(0, .val 26), (1, .val 3)], ref7_AddDecF⟩
set_option maxRecDepth 100000 in
theorem ref7_AddDec_eq : ∀ x, evFn Tryz.prog tb [(187, ref7_alikeS), (189, ref7_addS), (188, ref7_smallS)] [] Tryz.f108 ref7_AddDecS.ins ref7_AddDecS.outs x = ref7_AddDecS.f x := fun x => by kernel_rfl
theorem ref7_AddDec_k : fnK Tryz.f108 ref7_AddDecS.ins ref7_AddDecS.outs = true := by kernel_rfl
theorem ref7_AddDec_sound : FnSound Tryz.prog tb 108 ref7_AddDecS := fn_ev mixed Tryz.func108 ref7_AddDec_k (.cons ref7_alike_sound (.cons ref7_add_sound (.cons ref7_small_sound .nil))) rfl ref7_AddDec_eq
abbrev ref7_overG : List (Nat × FSpec tb) := [(196, ref7_trimS), (235, ref7_lessS), (236, ref7_minusS), (195, ref7_plusS)]
theorem ref7_overG_ok : AllSound Tryz.prog tb ref7_overG := (.cons ref7_trim_sound (.cons ref7_less_sound (.cons ref7_minus_sound (.cons ref7_plus_sound .nil))))
def ref7_over_l2F (back : List Int × List Int × Int → Option (List Int × Int)) (x : List Int × List Int × Int) : Option (List Int × Int) :=
  obnd (ref7_lessF (x.2.fst, x.fst)) fun y =>
    brn (!y) (obnd (ref7_minusF (x.2.fst, x.fst)) fun y => obnd (ref7_trimF { Minus := false, D := y }) fun y => back (x.fst, y.D, IntKind.i64.wrap (x.2.snd + 1))) (some x.2)
def ref7_over_l2J : List Int × List Int × Int → Option (List Int × Int) := iter ref7_over_l2F big
def ref7_over_l2C : CutSpec tb := ⟨76, [(1, .val 53), (8, .val 53), (10, .val 3)], [((.exit 2), [(8, .val 53), (10, .val 3)])], [28, 29, 30, 31, 32, 33, 34, 35, 36, 37, 8, 38, 39, 10], ref7_over_l2J⟩
set_option maxRecDepth 100000 in
theorem ref7_over_l2_eq : ∀ back x, evLoop Tryz.prog tb ref7_overG [] (loopAt 76 Tryz.f193) ref7_over_l2C.ins ref7_over_l2C.outs back x = ref7_over_l2F back x := fun back x => by kernel_rfl
theorem ref7_over_l2_k : cutB Tryz.f193.ntmps ref7_over_l2C (loopAt 76 Tryz.f193) = true := by kernel_rfl
theorem ref7_over_l2_in : cutsOf ([] : List (CutSpec tb)) (loopAt 76 Tryz.f193) = [] := by kernel_rfl
theorem ref7_over_l2_cut : CutSound Tryz.prog tb Tryz.f193.ntmps (.loop (loopAt 76 Tryz.f193)) ref7_over_l2C := loop_it mixed ref7_over_l2_k ref7_overG_ok rfl ref7_over_l2_in .nil ref7_over_l2F ref7_over_l2_eq rfl
def ref7_over_l1F (back : List Int × List Int × List (Int) × List Int × Int → Option (List (Int) × List Int)) (x : List Int × List Int × List (Int) × List Int × Int) : Option (List (Int) × List Int) :=
  brn (decide (0 ≤ x.2.2.2.snd))
    (obnd (idx x.fst x.2.2.2.snd) fun y =>
      obnd (app 8 [y] x.2.2.2.fst) fun zs =>
        obnd (ref7_trimF { Minus := false, D := zs }) fun y =>
          obnd (ref7_over_l2J (x.2.fst, y.D, 0)) fun y => obnd (app 8 [y.snd] x.2.2.fst) fun zs => back (x.fst, x.2.fst, zs, y.fst, IntKind.i64.wrap (x.2.2.2.snd - 1)))
    (some (x.2.2.fst, x.2.2.2.fst))
def ref7_over_l1J : List Int × List Int × List (Int) × List Int × Int → Option (List (Int) × List Int) := iter ref7_over_l1F big
def ref7_over_l1C : CutSpec tb := ⟨44, [(0, .val 53), (1, .val 53), (7, .own 3), (8, .val 53), (9, .val 3)], [((.exit 0), [(7, .own 3), (8, .val 53)])], [14, 15, 18, 19, 20, 21, 22, 23, 24, 25, 26, 27, 8, 10, 28, 29, 30, 31, 32, 33, 34, 35, 36, 37, 38, 39, 40, 41, 42, 43, 7, 16, 17, 9], ref7_over_l1J⟩
set_option maxRecDepth 100000 in
theorem ref7_over_l1_eq : ∀ back x, evLoop Tryz.prog tb ref7_overG [ref7_over_l2C] (loopAt 44 Tryz.f193) ref7_over_l1C.ins ref7_over_l1C.outs back x = ref7_over_l1F back x := fun back x => by kernel_rfl
theorem ref7_over_l1_k : cutB Tryz.f193.ntmps ref7_over_l1C (loopAt 44 Tryz.f193) = true := by kernel_rfl
theorem ref7_over_l1_in : cutsOf ([ref7_over_l2C] : List (CutSpec tb)) (loopAt 44 Tryz.f193) = [(76, .loop (loopAt 76 Tryz.f193))] := by kernel_rfl
theorem ref7_over_l1_cut : CutSound Tryz.prog tb Tryz.f193.ntmps (.loop (loopAt 44 Tryz.f193)) ref7_over_l1C := loop_it mixed ref7_over_l1_k ref7_overG_ok rfl ref7_over_l1_in (.cons rfl ref7_over_l2_cut rfl .nil) ref7_over_l1F ref7_over_l1_eq rfl
def ref7_overF (x : List Int × List Int) : Option (List Int × Bool × Bool) :=
  obnd (ref7_over_l1J (x.fst, x.snd, [], [], IntKind.i64.wrap ((↑x.fst.length : Int) - 1))) fun y =>
    obnd (ref7_trimF { Minus := false, D := y.fst }) fun y_1 =>
      obnd (ref7_plusF (y.snd, y.snd)) fun y_2 => obnd (ref7_lessF (y_2, x.snd)) fun y_3 => some (y_1.D, !y_3, decide (0 < (↑(List.length y.snd) : Int)))
def ref7_overS : FSpec tb := ⟨[(0, .val 53), (1, .val 53)], [(0, .val 53), (1, .val 4), (2, .val 4)], ref7_overF⟩
set_option maxRecDepth 100000 in
theorem ref7_over_eq : ∀ x, evFn Tryz.prog tb ref7_overG [ref7_over_l1C] Tryz.f193 ref7_overS.ins ref7_overS.outs x = ref7_overS.f x := fun x => by kernel_rfl
theorem ref7_over_k : fnK Tryz.f193 ref7_overS.ins ref7_overS.outs = true := by kernel_rfl
theorem ref7_over_in : cutsOf ([ref7_over_l1C] : List (CutSpec tb)) (bodyOf Tryz.f193) = [(44, .loop (loopAt 44 Tryz.f193))] := by kernel_rfl
theorem ref7_over_sound : FnSound Tryz.prog tb 193 ref7_overS := fn_cut mixed Tryz.func193 ref7_over_k ref7_overG_ok rfl ref7_over_in (.cons rfl ref7_over_l1_cut rfl .nil) ref7_over_eq
def ref7_DivDecF (x : Dec × Dec) : Option (Dec × Int) :=
  brn (decide (x.snd.M = 0)) (some ({ M := 0, S := 0 }, 9))
    (obnd (ref7_alikeF x) fun y =>
      obnd (ref7_upF (y.fst, 9)) fun y_1 =>
        obnd (ref7_overF (y_1.D, y.2.fst.D)) fun y_2 =>
          brn y_2.2.fst
            (obnd (ref7_plusF (y_2.fst, [1])) fun y_3 =>
              obnd (ref7_trimF { Minus := !decide (y.fst.Minus = y.2.fst.Minus), D := y_3 }) fun y => obnd (ref7_smallF (y, 9)) fun y => some y)
            (obnd (ref7_trimF { Minus := !decide (y.fst.Minus = y.2.fst.Minus), D := y_2.fst }) fun y => obnd (ref7_smallF (y, 9)) fun y => some y))
def ref7_DivDecS : FSpec tb := ⟨[(0, .val 26), (1, .val 26)], [(0, .val 26), (1, .val 3)], ref7_DivDecF⟩
set_option maxRecDepth 100000 in
theorem ref7_DivDec_eq : ∀ x, evFn Tryz.prog tb [(187, ref7_alikeS), (194, ref7_upS), (193, ref7_overS), (195, ref7_plusS), (196, ref7_trimS), (188, ref7_smallS)] [] Tryz.f111 ref7_DivDecS.ins ref7_DivDecS.outs x = ref7_DivDecS.f x := fun x => by kernel_rfl
theorem ref7_DivDec_k : fnK Tryz.f111 ref7_DivDecS.ins ref7_DivDecS.outs = true := by kernel_rfl
theorem ref7_DivDec_sound : FnSound Tryz.prog tb 111 ref7_DivDecS := fn_ev mixed Tryz.func111 ref7_DivDec_k (.cons ref7_alike_sound (.cons ref7_up_sound (.cons ref7_over_sound (.cons ref7_plus_sound (.cons ref7_trim_sound (.cons ref7_small_sound .nil)))))) rfl ref7_DivDec_eq
def ref7_SubDecF (x : Dec × Dec) : Option (Dec × Int) :=
  obnd (ref7_alikeF x) fun y =>
    brn (!y.2.fst.Minus) (obnd (ref7_addF (y.fst, { Minus := decide (0 < (↑y.2.fst.D.length : Int)), D := y.2.fst.D })) fun y_1 => obnd (ref7_smallF (y_1, y.2.snd)) fun y => some y)
      (obnd (ref7_addF (y.fst, { Minus := false, D := y.2.fst.D })) fun y_1 => obnd (ref7_smallF (y_1, y.2.snd)) fun y => some y)
def ref7_SubDecS : FSpec tb := ⟨[(0, .val 26), (1, .val 26)], [(0, .val 26), (1, .val 3)], ref7_SubDecF⟩
set_option maxRecDepth 100000 in
theorem ref7_SubDec_eq : ∀ x, evFn Tryz.prog tb [(187, ref7_alikeS), (189, ref7_addS), (188, ref7_smallS)] [] Tryz.f109 ref7_SubDecS.ins ref7_SubDecS.outs x = ref7_SubDecS.f x := fun x => by kernel_rfl
theorem ref7_SubDec_k : fnK Tryz.f109 ref7_SubDecS.ins ref7_SubDecS.outs = true := by kernel_rfl
theorem ref7_SubDec_sound : FnSound Tryz.prog tb 109 ref7_SubDecS := fn_ev mixed Tryz.func109 ref7_SubDec_k (.cons ref7_alike_sound (.cons ref7_add_sound (.cons ref7_small_sound .nil))) rfl ref7_SubDec_eq
def ref7_roundF (x : Big × Int × Int) : Option (Big × Int) :=
  brn (decide (x.2.fst ≤ x.2.snd)) (some (x.fst, x.2.fst))
    (brn (decide ((↑x.fst.D.length : Int) < IntKind.i64.wrap (x.2.fst - x.2.snd))) (some ({ Minus := false, D := [] }, x.2.snd))
      (obnd (idx x.fst.D (IntKind.i64.wrap (IntKind.i64.wrap (x.2.fst - x.2.snd) - 1))) fun y =>
        obnd (sub x.fst.D (IntKind.i64.wrap (x.2.fst - x.2.snd)) (↑x.fst.D.length : Int)) fun z =>
          obnd (app 8 [] z) fun zs =>
            obnd (ref7_trimF { Minus := x.fst.Minus, D := zs }) fun y_1 =>
              brn (decide (5 ≤ y)) (obnd (ref7_plusF (y_1.D, [1])) fun y => obnd (ref7_trimF { Minus := x.fst.Minus, D := y }) fun y => some (y, x.2.snd)) (some (y_1, x.2.snd))))
def ref7_roundS : FSpec tb := ⟨[(0, .val 271), (1, .val 3), (2, .val 3)], [(0, .val 271), (1, .val 3)], ref7_roundF⟩
set_option maxRecDepth 100000 in
theorem ref7_round_eq : ∀ x, evFn Tryz.prog tb [(196, ref7_trimS), (195, ref7_plusS)] [] Tryz.f190 ref7_roundS.ins ref7_roundS.outs x = ref7_roundS.f x := fun x => by kernel_rfl
theorem ref7_round_k : fnK Tryz.f190 ref7_roundS.ins ref7_roundS.outs = true := by kernel_rfl
theorem ref7_round_sound : FnSound Tryz.prog tb 190 ref7_roundS := fn_ev mixed Tryz.func190 ref7_round_k (.cons ref7_trim_sound (.cons ref7_plus_sound .nil)) rfl ref7_round_eq
abbrev ref7_DecTextG : List (Nat × FSpec tb) := [(192, ref7_bigS)]
theorem ref7_DecTextG_ok : AllSound Tryz.prog tb ref7_DecTextG := (.cons ref7_big_sound .nil)
def ref7_DecText_l1F (back : List (Int) × Dec × Big → Option ((List (Int)) × Big)) (x : List (Int) × Dec × Big) : Option ((List (Int)) × Big) :=
  brn (decide ((↑x.fst.length : Int) ≤ x.2.fst.S)) (obnd (app 8 x.fst [0]) fun zs => back (zs, x.2.fst, { Minus := x.2.snd.Minus, D := zs }))
    (some (x.fst, { Minus := x.2.snd.Minus, D := x.fst }))
def ref7_DecText_l1J : List (Int) × Dec × Big → Option ((List (Int)) × Big) := iter ref7_DecText_l1F big
def ref7_DecText_l1C : CutSpec tb := ⟨28, [(8589934595, .own 3), (1, .ro 26), (3, .ref 271)], [((.exit 0), [(8589934595, .own 3)])], [9, 10, 11, 12, 13, 14, 15, 16, 17, 18, 19], ref7_DecText_l1J⟩
set_option maxRecDepth 100000 in
theorem ref7_DecText_l1_eq : ∀ back x, evLoop Tryz.prog tb ref7_DecTextG [] (loopAt 28 Tryz.f185) ref7_DecText_l1C.ins ref7_DecText_l1C.outs back x = ref7_DecText_l1F back x := fun back x => by kernel_rfl
theorem ref7_DecText_l1_k : cutB Tryz.f185.ntmps ref7_DecText_l1C (loopAt 28 Tryz.f185) = true := by kernel_rfl
theorem ref7_DecText_l1_in : cutsOf ([] : List (CutSpec tb)) (loopAt 28 Tryz.f185) = [] := by kernel_rfl
theorem ref7_DecText_l1_cut : CutSound Tryz.prog tb Tryz.f185.ntmps (.loop (loopAt 28 Tryz.f185)) ref7_DecText_l1C := loop_it mixed ref7_DecText_l1_k ref7_DecTextG_ok rfl ref7_DecText_l1_in .nil ref7_DecText_l1F ref7_DecText_l1_eq rfl
def ref7_DecText_l2F (back : Dec × Big × List UInt8 × Int → Option (List UInt8)) (x : Dec × Big × List UInt8 × Int) : Option (List UInt8) :=
  brn (decide (x.2.2.snd < (↑x.2.fst.D.length : Int)))
    (brn (decide (x.2.2.snd = x.fst.S))
      (brn (decide (0 < x.2.2.snd))
        (obnd (cat [46] x.2.2.fst) fun z =>
          obnd (idx x.2.fst.D x.2.2.snd) fun y =>
            obnd (cat [UInt8.ofNat (IntKind.u8.wrap (IntKind.i64.wrap (48 + y))).toNat] z) fun z => back (x.fst, x.2.fst, z, IntKind.i64.wrap (x.2.2.snd + 1)))
        (obnd (idx x.2.fst.D x.2.2.snd) fun y =>
          obnd (cat [UInt8.ofNat (IntKind.u8.wrap (IntKind.i64.wrap (48 + y))).toNat] x.2.2.fst) fun z => back (x.fst, x.2.fst, z, IntKind.i64.wrap (x.2.2.snd + 1))))
      (obnd (idx x.2.fst.D x.2.2.snd) fun y =>
        obnd (cat [UInt8.ofNat (IntKind.u8.wrap (IntKind.i64.wrap (48 + y))).toNat] x.2.2.fst) fun z => back (x.fst, x.2.fst, z, IntKind.i64.wrap (x.2.2.snd + 1))))
    (some x.2.2.1)
def ref7_DecText_l2J : Dec × Big × List UInt8 × Int → Option (List UInt8) := iter ref7_DecText_l2F big
def ref7_DecText_l2C : CutSpec tb := ⟨60, [(1, .ro 26), (3, .ro 271), (4, .val 9), (5, .val 3)], [((.exit 2), [(4, .val 9)])], [20, 21, 22, 23, 24, 27, 28, 29, 30, 31, 32, 33, 34, 35, 36, 4, 37, 38, 39, 40, 41, 42, 43, 44, 45, 46, 47, 25, 26, 5], ref7_DecText_l2J⟩
set_option maxRecDepth 100000 in
theorem ref7_DecText_l2_eq : ∀ back x, evLoop Tryz.prog tb ref7_DecTextG [] (loopAt 60 Tryz.f185) ref7_DecText_l2C.ins ref7_DecText_l2C.outs back x = ref7_DecText_l2F back x := fun back x => by kernel_rfl
theorem ref7_DecText_l2_k : cutB Tryz.f185.ntmps ref7_DecText_l2C (loopAt 60 Tryz.f185) = true := by kernel_rfl
theorem ref7_DecText_l2_in : cutsOf ([] : List (CutSpec tb)) (loopAt 60 Tryz.f185) = [] := by kernel_rfl
theorem ref7_DecText_l2_cut : CutSound Tryz.prog tb Tryz.f185.ntmps (.loop (loopAt 60 Tryz.f185)) ref7_DecText_l2C := loop_it mixed ref7_DecText_l2_k ref7_DecTextG_ok rfl ref7_DecText_l2_in .nil ref7_DecText_l2F ref7_DecText_l2_eq rfl
def ref7_DecTextF (x : Dec) : Option (List UInt8) :=
  obnd (ref7_bigF x.M) fun y =>
    obnd (ref7_DecText_l1J (y.fst, x, { Minus := y.snd.Minus, D := y.fst })) fun y =>
      obnd (ref7_DecText_l2J (x, { Minus := y.2.Minus, D := y.1 }, [], 0)) fun y_1 => brn y.2.Minus (obnd (cat [45] y_1) fun z => some z) (some y_1)
def ref7_DecTextS : FSpec tb := ⟨[(0, .val 26)], [(0, .val 9)], ref7_DecTextF⟩
set_option maxRecDepth 100000 in
theorem ref7_DecText_eq : ∀ x, evFn Tryz.prog tb ref7_DecTextG [ref7_DecText_l1C, ref7_DecText_l2C] Tryz.f185 ref7_DecTextS.ins ref7_DecTextS.outs x = ref7_DecTextS.f x := fun x => by kernel_rfl
theorem ref7_DecText_k : fnK Tryz.f185 ref7_DecTextS.ins ref7_DecTextS.outs = true := by kernel_rfl
theorem ref7_DecText_in : cutsOf ([ref7_DecText_l1C, ref7_DecText_l2C] : List (CutSpec tb)) (bodyOf Tryz.f185) = [(28, .loop (loopAt 28 Tryz.f185)), (60, .loop (loopAt 60 Tryz.f185))] := by kernel_rfl
theorem ref7_DecText_sound : FnSound Tryz.prog tb 185 ref7_DecTextS := fn_cut mixed Tryz.func185 ref7_DecText_k ref7_DecTextG_ok rfl ref7_DecText_in (.cons rfl ref7_DecText_l1_cut rfl (.cons rfl ref7_DecText_l2_cut rfl .nil)) ref7_DecText_eq
def ref13_ValTextF (x : Val) : Option (List UInt8) :=
  brn (decide (x.Kind = 1)) (obnd (ref7_DecTextF x.N) fun y => some y)
    (brn (decide (x.Kind = 2)) (some x.3)
      (brn (decide (x.Kind = 3)) (brn x.B (some [84, 82, 85, 69]) (some (U8s [70, 65, 76, 83, 69])))
        (brn (decide (x.Kind = 4)) (obnd (ref13_ErrTextF x.E) fun y => some y) (some []))))
def ref13_ValTextS : FSpec tb := ⟨[(0, .val 28)], [(0, .val 9)], ref13_ValTextF⟩
theorem ref13_ValText_eq : ∀ x, evFn Tryz.prog tb [(185, ref7_DecTextS), (136, ref13_ErrTextS)] [] Tryz.f106 ref13_ValTextS.ins ref13_ValTextS.outs x = ref13_ValTextS.f x := fun x => by kernel_rfl
theorem ref13_ValText_k : fnK Tryz.f106 ref13_ValTextS.ins ref13_ValTextS.outs = true := by kernel_rfl
theorem ref13_ValText_sound : FnSound Tryz.prog tb 106 ref13_ValTextS := fn_ev mixed Tryz.func106 ref13_ValText_k (.cons ref7_DecText_sound (.cons ref13_ErrText_sound .nil)) rfl ref13_ValText_eq
def val_ownF (x : Val) : Option (Val) :=
  brn (decide (x.Kind = 1)) (some { Kind := 1, N := x.N, S := [], B := false, E := 0 })
    (brn (decide (x.Kind = 2)) (some { Kind := 2, N := { M := 0, S := 0 }, S := x.S, B := false, E := 0 })
      (brn (decide (x.Kind = 3)) (some { Kind := 3, N := { M := 0, S := 0 }, S := [], B := x.B, E := 0 })
        (brn (decide (x.Kind = 4)) (obnd (val_FaultF x.E) fun y => some y) (some { Kind := x.Kind, N := { M := 0, S := 0 }, S := [], B := false, E := 0 }))))
def val_ownS : FSpec tb := ⟨[(0, .val 32)], [(0, .val 32)], val_ownF⟩
theorem val_own_eq : ∀ x, evFn Tryz.prog tb [(32, val_FaultS)] [] Tryz.f99 val_ownS.ins val_ownS.outs x = val_ownS.f x := fun x => by kernel_rfl
theorem val_own_k : fnK Tryz.f99 val_ownS.ins val_ownS.outs = true := by kernel_rfl
theorem val_own_sound : FnSound Tryz.prog tb 99 val_ownS := fn_ev mixed Tryz.func99 val_own_k (.cons val_Fault_sound .nil) rfl val_own_eq
def val_CheckF (x : Val) : Option (Int) :=
  brn (decide (x.Kind < 0)) (some 1)
    (brn (decide (4 < x.Kind)) (some 1)
      (obnd (val_ownF x) fun y =>
        brn
          (bif true then !(decide (x.Kind = y.Kind) && (decide (x.N.M = y.N.M) && (decide (x.N.S = y.N.S) && (decide (x.S = y.S) && (decide (x.B = y.B) && decide (x.E = y.E))))))
          else decide (x.Kind = y.Kind) && (decide (x.N.M = y.N.M) && (decide (x.N.S = y.N.S) && (decide (x.S = y.S) && (decide (x.B = y.B) && decide (x.E = y.E))))))
          (some 1)
          (brn (decide (x.Kind = 1)) (obnd (dec_CheckF x.N) fun y => some y)
            (brn (decide (x.Kind = 2)) (obnd (str_UnitsF x.S) fun y => some y.2)
              (brn (decide (x.Kind = 4)) (obnd (val_nameF x.E) fun y => brn (decide (y = [])) (some 1) (some 0)) (some 0))))))
def val_CheckS : FSpec tb := ⟨[(0, .val 32)], [(0, .val 63)], val_CheckF⟩
theorem val_Check_eq : ∀ x, evFn Tryz.prog tb [(99, val_ownS), (100, dec_CheckS), (101, str_UnitsS), (102, val_nameS)] [] Tryz.f38 val_CheckS.ins val_CheckS.outs x = val_CheckS.f x := fun x => by kernel_rfl
theorem val_Check_k : fnK Tryz.f38 val_CheckS.ins val_CheckS.outs = true := by kernel_rfl
theorem val_Check_sound : FnSound Tryz.prog tb 38 val_CheckS := fn_ev mixed Tryz.func38 val_Check_k (.cons val_own_sound (.cons dec_Check_sound (.cons str_Units_sound (.cons val_name_sound .nil)))) rfl val_Check_eq
def ref13_asF (x : Val × Int) : Option (Val) :=
  brn (decide (x.fst.Kind = 0))
    (brn (decide (1 ≤ x.snd)) (brn (decide (x.snd ≤ 3)) (some { Kind := x.snd, N := { M := 0, S := 0 }, S := [], B := false, E := 0 }) (some x.fst)) (some x.fst)) (some x.fst)
def ref13_asS : FSpec tb := ⟨[(0, .val 28), (1, .val 3)], [(0, .val 28)], ref13_asF⟩
theorem ref13_as_eq : ∀ x, evFn Tryz.prog tb [] [] Tryz.f184 ref13_asS.ins ref13_asS.outs x = ref13_asS.f x := fun x => by kernel_rfl
theorem ref13_as_k : fnK Tryz.f184 ref13_asS.ins ref13_asS.outs = true := by kernel_rfl
theorem ref13_as_sound : FnSound Tryz.prog tb 184 ref13_asS := fn_ev mixed Tryz.func184 ref13_as_k .nil rfl ref13_as_eq
def ref13_CompareValsF (x : Val × Val) : Option (Int) :=
  obnd (ref13_asF (x.fst, x.snd.Kind)) fun y =>
    obnd (ref13_asF (x.snd, x.fst.Kind)) fun y_1 =>
      brn (!decide (y.Kind = y_1.Kind)) (brn (decide (y.Kind < y_1.Kind)) (some (-1)) (some 1))
        (brn (decide (y.Kind = 1)) (obnd (ref7_CompareDecF (y.N, y_1.N)) fun y => some y)
          (brn (decide (y.Kind = 2)) (brn (!decide (y.S = y_1.S)) (brn (sLt y.S y_1.S) (some (-1)) (some 1)) (some 0))
            (brn (decide (y.Kind = 3)) (brn (!decide (y.B = y_1.B)) (brn y_1.B (some (-1)) (some 1)) (some 0))
              (brn (decide (y.Kind = 4)) (brn (!decide (y.E = y_1.E)) (brn (decide (y.E < y_1.E)) (some (-1)) (some 1)) (some 0)) (some 0)))))
def ref13_CompareValsS : FSpec tb := ⟨[(0, .val 28), (1, .val 28)], [(0, .val 3)], ref13_CompareValsF⟩
theorem ref13_CompareVals_eq : ∀ x, evFn Tryz.prog tb [(184, ref13_asS), (162, ref7_CompareDecS)] [] Tryz.f103 ref13_CompareValsS.ins ref13_CompareValsS.outs x = ref13_CompareValsS.f x := fun x => by kernel_rfl
theorem ref13_CompareVals_k : fnK Tryz.f103 ref13_CompareValsS.ins ref13_CompareValsS.outs = true := by kernel_rfl
theorem ref13_CompareVals_sound : FnSound Tryz.prog tb 103 ref13_CompareValsS := fn_ev mixed Tryz.func103 ref13_CompareVals_k (.cons ref13_as_sound (.cons ref7_CompareDec_sound .nil)) rfl ref13_CompareVals_eq
abbrev ref7_timesG : List (Nat × FSpec tb) := [(196, ref7_trimS), (1099511627799, mutS)]
theorem ref7_timesG_ok : AllSound Tryz.prog tb ref7_timesG := (.cons ref7_trim_sound (.consK mut_sound .nil))
def ref7_times_l2F (back : Bool × List (Int) × Big × Big × Unit × Int × Int × Int → Option ((Bool × List (Int)) × Unit)) (x : Bool × List (Int) × Big × Big × Unit × Int × Int × Int) : Option ((Bool × List (Int)) × Unit) :=
  brn (decide (x.2.2.2.2.2.2.snd < (↑x.2.2.2.fst.D.length : Int)))
    (obnd (inb x.2.fst.length (IntKind.i64.wrap (x.2.2.2.2.2.fst + x.2.2.2.2.2.2.snd))) fun k =>
      obnd (nth x.2.fst k) fun y =>
        brn (decide (x.2.2.2.2.2.2.snd < (↑x.2.2.2.fst.D.length : Int)))
          (obnd (idx x.2.2.fst.D x.2.2.2.2.2.fst) fun y_1 =>
            obnd (idx x.2.2.2.fst.D x.2.2.2.2.2.2.snd) fun y_2 =>
              obnd (inb x.2.fst.length (IntKind.i64.wrap (x.2.2.2.2.2.fst + x.2.2.2.2.2.2.snd))) fun k =>
                obnd (nth x.2.fst k) fun y_3 =>
                  back
                    (x.fst, x.2.fst.set k ((IntKind.i64.wrap (IntKind.i64.wrap (x.2.2.2.2.2.2.fst + y) + IntKind.i64.wrap (y_1 * y_2))).tmod 10), x.2.2.fst, x.2.2.2.fst, (),
                      x.2.2.2.2.2.fst, IntKind.i64.wrap ((IntKind.i64.wrap (IntKind.i64.wrap (x.2.2.2.2.2.2.fst + y) + IntKind.i64.wrap (y_1 * y_2))).tdiv 10),
                      IntKind.i64.wrap (x.2.2.2.2.2.2.snd + 1)))
          (obnd (inb x.2.fst.length (IntKind.i64.wrap (x.2.2.2.2.2.fst + x.2.2.2.2.2.2.snd))) fun k =>
            obnd (nth x.2.fst k) fun y_1 =>
              back
                (x.fst, x.2.fst.set k ((IntKind.i64.wrap (x.2.2.2.2.2.2.fst + y)).tmod 10), x.2.2.fst, x.2.2.2.fst, (), x.2.2.2.2.2.fst,
                  IntKind.i64.wrap ((IntKind.i64.wrap (x.2.2.2.2.2.2.fst + y)).tdiv 10), IntKind.i64.wrap (x.2.2.2.2.2.2.snd + 1))))
    (brn (decide (0 < x.2.2.2.2.2.2.fst))
      (obnd (inb x.2.fst.length (IntKind.i64.wrap (x.2.2.2.2.2.fst + x.2.2.2.2.2.2.snd))) fun k =>
        obnd (nth x.2.fst k) fun y =>
          brn (decide (x.2.2.2.2.2.2.snd < (↑x.2.2.2.fst.D.length : Int)))
            (obnd (idx x.2.2.fst.D x.2.2.2.2.2.fst) fun y_1 =>
              obnd (idx x.2.2.2.fst.D x.2.2.2.2.2.2.snd) fun y_2 =>
                obnd (inb x.2.fst.length (IntKind.i64.wrap (x.2.2.2.2.2.fst + x.2.2.2.2.2.2.snd))) fun k =>
                  obnd (nth x.2.fst k) fun y_3 =>
                    back
                      (x.fst, x.2.fst.set k ((IntKind.i64.wrap (IntKind.i64.wrap (x.2.2.2.2.2.2.fst + y) + IntKind.i64.wrap (y_1 * y_2))).tmod 10), x.2.2.fst, x.2.2.2.fst, (),
                        x.2.2.2.2.2.fst, IntKind.i64.wrap ((IntKind.i64.wrap (IntKind.i64.wrap (x.2.2.2.2.2.2.fst + y) + IntKind.i64.wrap (y_1 * y_2))).tdiv 10),
                        IntKind.i64.wrap (x.2.2.2.2.2.2.snd + 1)))
            (obnd (inb x.2.fst.length (IntKind.i64.wrap (x.2.2.2.2.2.fst + x.2.2.2.2.2.2.snd))) fun k =>
              obnd (nth x.2.fst k) fun y_1 =>
                back
                  (x.fst, x.2.fst.set k ((IntKind.i64.wrap (x.2.2.2.2.2.2.fst + y)).tmod 10), x.2.2.fst, x.2.2.2.fst, (), x.2.2.2.2.2.fst,
                    IntKind.i64.wrap ((IntKind.i64.wrap (x.2.2.2.2.2.2.fst + y)).tdiv 10), IntKind.i64.wrap (x.2.2.2.2.2.2.snd + 1))))
      (some ((x.fst, x.2.fst), ())))
def ref7_times_l2J : Bool × List (Int) × Big × Big × Unit × Int × Int × Int → Option ((Bool × List (Int)) × Unit) := iter ref7_times_l2F big
def ref7_times_l2C : CutSpec tb := ⟨76, [(4294967301, .val 4), (8589934597, .wr 3), (2, .ro 271), (3, .ro 271), (5, .box 2), (6, .val 3), (7, .val 3), (8, .val 3)], [((.exit 2), [(4294967301, .val 4), (8589934597, .wr 3)])], [32, 33, 34, 35, 36, 37, 38, 39, 40, 43, 44, 45, 46, 47, 48, 49, 50, 51, 7, 52, 53, 54, 55, 56, 57, 58, 59, 60, 61, 62, 63, 64, 65, 66, 67, 68, 69, 70, 71, 72, 73, 74, 75, 76, 77, 78, 79, 41, 42, 8], ref7_times_l2J⟩
set_option maxRecDepth 100000 in
theorem ref7_times_l2_eq : ∀ back x, evLoop Tryz.prog tb ref7_timesG [] (loopAt 76 Tryz.f191) ref7_times_l2C.ins ref7_times_l2C.outs back x = ref7_times_l2F back x := fun back x => by kernel_rfl
theorem ref7_times_l2_k : cutB Tryz.f191.ntmps ref7_times_l2C (loopAt 76 Tryz.f191) = true := by kernel_rfl
theorem ref7_times_l2_in : cutsOf ([] : List (CutSpec tb)) (loopAt 76 Tryz.f191) = [] := by kernel_rfl
theorem ref7_times_l2_cut : CutSound Tryz.prog tb Tryz.f191.ntmps (.loop (loopAt 76 Tryz.f191)) ref7_times_l2C := loop_it mixed ref7_times_l2_k ref7_timesG_ok rfl ref7_times_l2_in .nil ref7_times_l2F ref7_times_l2_eq rfl
def ref7_times_l1F (back : Bool × List (Int) × Big × Big × Unit × Int → Option ((Bool × List (Int)) × Unit)) (x : Bool × List (Int) × Big × Big × Unit × Int) : Option ((Bool × List (Int)) × Unit) :=
  brn (decide (x.2.2.2.2.snd < (↑x.2.2.fst.D.length : Int)))
    (obnd (ref7_times_l2J (x.fst, x.2.fst, x.2.2.fst, x.2.2.2.fst, (), x.2.2.2.2.snd, 0, 0)) fun y =>
      back (y.1.fst, y.1.snd, x.2.2.fst, x.2.2.2.fst, (), IntKind.i64.wrap (x.2.2.2.2.snd + 1)))
    (some ((x.fst, x.2.fst), ()))
def ref7_times_l1J : Bool × List (Int) × Big × Big × Unit × Int → Option ((Bool × List (Int)) × Unit) := iter ref7_times_l1F big
def ref7_times_l1C : CutSpec tb := ⟨44, [(4294967301, .val 4), (8589934597, .wr 3), (2, .ro 271), (3, .ro 271), (5, .box 2), (6, .val 3)], [((.exit 0), [(4294967301, .val 4), (8589934597, .own 3)])], [25, 26, 27, 28, 29, 7, 8, 32, 33, 34, 35, 36, 37, 38, 39, 40, 43, 44, 45, 46, 47, 48, 49, 50, 51, 52, 53, 54, 55, 56, 57, 58, 59, 60, 61, 62, 63, 64, 65, 66, 67, 68, 69, 70, 71, 72, 73, 74, 75, 76, 77, 78, 79, 41, 42, 30, 31, 6], ref7_times_l1J⟩
set_option maxRecDepth 100000 in
theorem ref7_times_l1_eq : ∀ back x, evLoop Tryz.prog tb ref7_timesG [ref7_times_l2C] (loopAt 44 Tryz.f191) ref7_times_l1C.ins ref7_times_l1C.outs back x = ref7_times_l1F back x := fun back x => by kernel_rfl
theorem ref7_times_l1_k : cutB Tryz.f191.ntmps ref7_times_l1C (loopAt 44 Tryz.f191) = true := by kernel_rfl
theorem ref7_times_l1_in : cutsOf ([ref7_times_l2C] : List (CutSpec tb)) (loopAt 44 Tryz.f191) = [(76, .loop (loopAt 76 Tryz.f191))] := by kernel_rfl
theorem ref7_times_l1_cut : CutSound Tryz.prog tb Tryz.f191.ntmps (.loop (loopAt 44 Tryz.f191)) ref7_times_l1C := loop_it mixed ref7_times_l1_k ref7_timesG_ok rfl ref7_times_l1_in (.cons rfl ref7_times_l2_cut rfl .nil) ref7_times_l1F ref7_times_l1_eq rfl
def ref7_timesF (x : Big × Big) : Option (Big) :=
  obnd
    (mkList 8 0 (IntKind.i64.wrap (IntKind.i64.wrap ((↑x.fst.D.length : Int) + (↑x.snd.D.length : Int)) + 1))
      (IntKind.i64.wrap (IntKind.i64.wrap ((↑x.fst.D.length : Int) + (↑x.snd.D.length : Int)) + 1)))
    fun xs => obnd (ref7_times_l1J (!decide (x.fst.Minus = x.snd.Minus), xs, x.fst, x.snd, (), 0)) fun y => obnd (ref7_trimF { Minus := y.1.fst, D := y.1.snd }) fun y => some y
def ref7_timesS : FSpec tb := ⟨[(0, .val 271), (1, .val 271)], [(0, .val 271)], ref7_timesF⟩
set_option maxRecDepth 100000 in
theorem ref7_times_eq : ∀ x, evFn Tryz.prog tb ref7_timesG [ref7_times_l1C] Tryz.f191 ref7_timesS.ins ref7_timesS.outs x = ref7_timesS.f x := fun x => by kernel_rfl
theorem ref7_times_k : fnK Tryz.f191 ref7_timesS.ins ref7_timesS.outs = true := by kernel_rfl
theorem ref7_times_in : cutsOf ([ref7_times_l1C] : List (CutSpec tb)) (bodyOf Tryz.f191) = [(44, .loop (loopAt 44 Tryz.f191))] := by kernel_rfl
theorem ref7_times_sound : FnSound Tryz.prog tb 191 ref7_timesS := fn_cut mixed Tryz.func191 ref7_times_k ref7_timesG_ok rfl ref7_times_in (.cons rfl ref7_times_l1_cut rfl .nil) ref7_times_eq
def ref7_MulDecF (x : Dec × Dec) : Option (Dec × Int) :=
  obnd (ref7_bigPF x.fst.M) fun y =>
    obnd (ref7_bigPF x.snd.M) fun y_1 =>
      obnd (ref7_timesF (y, y_1)) fun y => obnd (ref7_roundF (y, IntKind.i64.wrap (x.fst.S + x.snd.S), 9)) fun y => obnd (ref7_smallF y) fun y => some y
def ref7_MulDecS : FSpec tb := ⟨[(0, .val 26), (1, .val 26)], [(0, .val 26), (1, .val 3)], ref7_MulDecF⟩
set_option maxRecDepth 100000 in
theorem ref7_MulDec_eq : ∀ x, evFn Tryz.prog tb [(192, ref7_bigPS), (191, ref7_timesS), (190, ref7_roundS), (188, ref7_smallS)] [] Tryz.f110 ref7_MulDecS.ins ref7_MulDecS.outs x = ref7_MulDecS.f x := fun x => by kernel_rfl
theorem ref7_MulDec_k : fnK Tryz.f110 ref7_MulDecS.ins ref7_MulDecS.outs = true := by kernel_rfl
theorem ref7_MulDec_sound : FnSound Tryz.prog tb 110 ref7_MulDecS := fn_ev mixed Tryz.func110 ref7_MulDec_k (.cons ref7_bigP_sound (.cons ref7_times_sound (.cons ref7_round_sound (.cons ref7_small_sound .nil)))) rfl ref7_MulDec_eq
end Go.Proofs.YtdgpkbnnljblmaaGreatDoor
