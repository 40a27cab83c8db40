/- F1 -/
import Derived.Test.YtdgpkbnnljblmaaGreatDoorU3
namespace Go.Proofs.YtdgpkbnnljblmaaGreatDoor
open Go Go.Ev
set_option linter.unusedVariables false
theorem mixed : Tryz.prog.follows .mixedOrders = true := by kernel_rfl
def dec_IntF (x : Int) : Option (Dec) :=
  some { M := x, S := 0 }
def dec_IntS : FSpec tb := ⟨[(0, .val 2)], [(0, .val 30)], dec_IntF⟩
theorem dec_Int_eq : ∀ x, evFn Tryz.prog tb [] [] Tryz.f33 dec_IntS.ins dec_IntS.outs x = dec_IntS.f x := fun x => by kernel_rfl
theorem dec_Int_k : fnK Tryz.f33 dec_IntS.ins dec_IntS.outs = true := by kernel_rfl
theorem dec_Int_sound : FnSound Tryz.prog tb 33 dec_IntS := fn_ev mixed Tryz.func33 dec_Int_k .nil rfl dec_Int_eq
def istringslite_HasPrefixF (x : List UInt8 × List UInt8) : Option (Bool) :=
  brn (decide ((↑x.snd.length : Int) ≤ (↑x.fst.length : Int))) (obnd (sub x.fst 0 (↑x.snd.length : Int)) fun z => some (decide (z = x.snd))) (some false)
def istringslite_HasPrefixS : FSpec tb := ⟨[(0, .val 9), (1, .val 9)], [(0, .val 4)], istringslite_HasPrefixF⟩
theorem istringslite_HasPrefix_eq : ∀ x, evFn Tryz.prog tb [] [] Tryz.f254 istringslite_HasPrefixS.ins istringslite_HasPrefixS.outs x = istringslite_HasPrefixS.f x := fun x => by kernel_rfl
theorem istringslite_HasPrefix_k : fnK Tryz.f254 istringslite_HasPrefixS.ins istringslite_HasPrefixS.outs = true := by kernel_rfl
theorem istringslite_HasPrefix_sound : FnSound Tryz.prog tb 254 istringslite_HasPrefixS := fn_ev mixed Tryz.func254 istringslite_HasPrefix_k .nil rfl istringslite_HasPrefix_eq
def istringslite_CutPrefixF (x : List UInt8 × List UInt8) : Option (List UInt8 × Bool) :=
  obnd (istringslite_HasPrefixF x) fun y => brn (!y) (some (x.fst, false)) (obnd (sub x.fst (↑x.snd.length : Int) (↑x.fst.length : Int)) fun z => some (z, true))
def istringslite_CutPrefixS : FSpec tb := ⟨[(0, .val 9), (1, .val 9)], [(0, .val 9), (1, .val 4)], istringslite_CutPrefixF⟩
theorem istringslite_CutPrefix_eq : ∀ x, evFn Tryz.prog tb [(254, istringslite_HasPrefixS)] [] Tryz.f257 istringslite_CutPrefixS.ins istringslite_CutPrefixS.outs x = istringslite_CutPrefixS.f x := fun x => by kernel_rfl
theorem istringslite_CutPrefix_k : fnK Tryz.f257 istringslite_CutPrefixS.ins istringslite_CutPrefixS.outs = true := by kernel_rfl
theorem istringslite_CutPrefix_sound : FnSound Tryz.prog tb 257 istringslite_CutPrefixS := fn_ev mixed Tryz.func257 istringslite_CutPrefix_k (.cons istringslite_HasPrefix_sound .nil) rfl istringslite_CutPrefix_eq
def strings_CutPrefixF (x : List UInt8 × List UInt8) : Option (List UInt8 × Bool) :=
  obnd (istringslite_CutPrefixF x) fun y => some y
def strings_CutPrefixS : FSpec tb := ⟨[(0, .val 9), (1, .val 9)], [(0, .val 9), (1, .val 4)], strings_CutPrefixF⟩
theorem strings_CutPrefix_eq : ∀ x, evFn Tryz.prog tb [(257, istringslite_CutPrefixS)] [] Tryz.f230 strings_CutPrefixS.ins strings_CutPrefixS.outs x = strings_CutPrefixS.f x := fun x => by kernel_rfl
theorem strings_CutPrefix_k : fnK Tryz.f230 strings_CutPrefixS.ins strings_CutPrefixS.outs = true := by kernel_rfl
theorem strings_CutPrefix_sound : FnSound Tryz.prog tb 230 strings_CutPrefixS := fn_ev mixed Tryz.func230 strings_CutPrefix_k (.cons istringslite_CutPrefix_sound .nil) rfl strings_CutPrefix_eq
def istringslite_IndexByteF (x : List UInt8 × UInt8) : Option (Int) :=
  obnd (bytealg_IndexByteStringF (x.fst, UInt8.ofNat (↑x.snd.toNat : Int).toNat)) fun y => some y
def istringslite_IndexByteS : FSpec tb := ⟨[(0, .val 9), (1, .val 5)], [(0, .val 3)], istringslite_IndexByteF⟩
theorem istringslite_IndexByte_eq : ∀ x, evFn Tryz.prog tb [(290, bytealg_IndexByteStringS)] [] Tryz.f284 istringslite_IndexByteS.ins istringslite_IndexByteS.outs x = istringslite_IndexByteS.f x := fun x => by kernel_rfl
theorem istringslite_IndexByte_k : fnK Tryz.f284 istringslite_IndexByteS.ins istringslite_IndexByteS.outs = true := by kernel_rfl
theorem istringslite_IndexByte_sound : FnSound Tryz.prog tb 284 istringslite_IndexByteS := fn_ev mixed Tryz.func284 istringslite_IndexByte_k (.consK bytealg_IndexByteString_sound .nil) rfl istringslite_IndexByte_eq
def istringslite_IndexF (x : List UInt8 × List UInt8) : Option (Int) :=
  brn (decide ((↑x.snd.length : Int) = 0)) (some 0)
    (brn (decide (x.snd = x.fst)) (some 0)
      (brn (decide ((↑x.snd.length : Int) = 1)) (obnd (idx x.snd 0) fun y => obnd (istringslite_IndexByteF (x.fst, UInt8.ofNat (↑y.toNat : Int).toNat)) fun y => some y)
        (brn (decide ((↑x.fst.length : Int) ≤ (↑x.snd.length : Int))) (some (-1)) none)))
def istringslite_IndexS : FSpec tb := ⟨[(0, .val 9), (1, .val 9)], [(0, .val 3)], istringslite_IndexF⟩
theorem istringslite_Index_eq : ∀ x, evFn Tryz.prog tb [(284, istringslite_IndexByteS)] [] Tryz.f276 istringslite_IndexS.ins istringslite_IndexS.outs x = istringslite_IndexS.f x := fun x => by kernel_rfl
theorem istringslite_Index_k : fnK Tryz.f276 istringslite_IndexS.ins istringslite_IndexS.outs = true := by kernel_rfl
theorem istringslite_Index_sound : FnSound Tryz.prog tb 276 istringslite_IndexS := fn_ev mixed Tryz.func276 istringslite_Index_k (.cons istringslite_IndexByte_sound .nil) rfl istringslite_Index_eq
def istringslite_CutF (x : List UInt8 × List UInt8) : Option (List UInt8 × List UInt8 × Bool) :=
  obnd (istringslite_IndexF x) fun y =>
    brn (decide (0 ≤ y)) (obnd (sub x.fst 0 y) fun z => obnd (sub x.fst (IntKind.i64.wrap (y + (↑x.snd.length : Int))) (↑x.fst.length : Int)) fun z_1 => some (z, z_1, true))
      (some (x.fst, [], false))
def istringslite_CutS : FSpec tb := ⟨[(0, .val 9), (1, .val 9)], [(0, .val 9), (1, .val 9), (2, .val 4)], istringslite_CutF⟩
theorem istringslite_Cut_eq : ∀ x, evFn Tryz.prog tb [(276, istringslite_IndexS)] [] Tryz.f258 istringslite_CutS.ins istringslite_CutS.outs x = istringslite_CutS.f x := fun x => by kernel_rfl
theorem istringslite_Cut_k : fnK Tryz.f258 istringslite_CutS.ins istringslite_CutS.outs = true := by kernel_rfl
theorem istringslite_Cut_sound : FnSound Tryz.prog tb 258 istringslite_CutS := fn_ev mixed Tryz.func258 istringslite_Cut_k (.cons istringslite_Index_sound .nil) rfl istringslite_Cut_eq
def strings_CutF (x : List UInt8 × List UInt8) : Option (List UInt8 × List UInt8 × Bool) :=
  obnd (istringslite_CutF x) fun y => some (y.fst, y.2)
def strings_CutS : FSpec tb := ⟨[(0, .val 9), (1, .val 9)], [(0, .val 9), (1, .val 9), (2, .val 4)], strings_CutF⟩
theorem strings_Cut_eq : ∀ x, evFn Tryz.prog tb [(258, istringslite_CutS)] [] Tryz.f231 strings_CutS.ins strings_CutS.outs x = strings_CutS.f x := fun x => by kernel_rfl
theorem strings_Cut_k : fnK Tryz.f231 strings_CutS.ins strings_CutS.outs = true := by kernel_rfl
theorem strings_Cut_sound : FnSound Tryz.prog tb 231 strings_CutS := fn_ev mixed Tryz.func231 strings_Cut_k (.cons istringslite_Cut_sound .nil) rfl strings_Cut_eq
def istringslite_HasSuffixF (x : List UInt8 × List UInt8) : Option (Bool) :=
  brn (decide ((↑x.snd.length : Int) ≤ (↑x.fst.length : Int)))
    (obnd (sub x.fst (IntKind.i64.wrap ((↑x.fst.length : Int) - (↑x.snd.length : Int))) (↑x.fst.length : Int)) fun z => some (decide (z = x.snd))) (some false)
def istringslite_HasSuffixS : FSpec tb := ⟨[(0, .val 9), (1, .val 9)], [(0, .val 4)], istringslite_HasSuffixF⟩
theorem istringslite_HasSuffix_eq : ∀ x, evFn Tryz.prog tb [] [] Tryz.f259 istringslite_HasSuffixS.ins istringslite_HasSuffixS.outs x = istringslite_HasSuffixS.f x := fun x => by kernel_rfl
theorem istringslite_HasSuffix_k : fnK Tryz.f259 istringslite_HasSuffixS.ins istringslite_HasSuffixS.outs = true := by kernel_rfl
theorem istringslite_HasSuffix_sound : FnSound Tryz.prog tb 259 istringslite_HasSuffixS := fn_ev mixed Tryz.func259 istringslite_HasSuffix_k .nil rfl istringslite_HasSuffix_eq
def strings_HasSuffixF (x : List UInt8 × List UInt8) : Option (Bool) :=
  obnd (istringslite_HasSuffixF x) fun y => some y
def strings_HasSuffixS : FSpec tb := ⟨[(0, .val 9), (1, .val 9)], [(0, .val 4)], strings_HasSuffixF⟩
theorem strings_HasSuffix_eq : ∀ x, evFn Tryz.prog tb [(259, istringslite_HasSuffixS)] [] Tryz.f232 strings_HasSuffixS.ins strings_HasSuffixS.outs x = strings_HasSuffixS.f x := fun x => by kernel_rfl
theorem strings_HasSuffix_k : fnK Tryz.f232 strings_HasSuffixS.ins strings_HasSuffixS.outs = true := by kernel_rfl
theorem strings_HasSuffix_sound : FnSound Tryz.prog tb 232 strings_HasSuffixS := fn_ev mixed Tryz.func232 strings_HasSuffix_k (.cons istringslite_HasSuffix_sound .nil) rfl strings_HasSuffix_eq
abbrev dec_ParseG : List (Nat × FSpec tb) := [(230, strings_CutPrefixS), (231, strings_CutS), (232, strings_HasSuffixS)]
theorem dec_ParseG_ok : AllSound Tryz.prog tb dec_ParseG := (.cons strings_CutPrefix_sound (.cons strings_Cut_sound (.cons strings_HasSuffix_sound .nil)))
def dec_Parse_l1F (back : Wide × Bool × Bool × ((List UInt8 × Nat)) → Option ((Bool × Bool) × (Wide × ((List UInt8 × Nat))))) (x : Wide × Bool × Bool × ((List UInt8 × Nat))) : Option ((Bool × Bool) × (Wide × ((List UInt8 × Nat)))) :=
  brn (decide (x.2.2.snd.snd < x.2.2.snd.fst.length))
    (brn (decide ((↑(rune x.2.2.snd.fst x.2.2.snd.snd).fst : Int) < 48)) (back (x.fst, true, x.2.2.fst, x.2.2.snd.fst, x.2.2.snd.snd + (rune x.2.2.snd.fst x.2.2.snd.snd).snd))
      (brn (decide (57 < (↑(rune x.2.2.snd.fst x.2.2.snd.snd).fst : Int))) (back (x.fst, true, x.2.2.fst, x.2.2.snd.fst, x.2.2.snd.snd + (rune x.2.2.snd.fst x.2.2.snd.snd).snd))
        (brn x.2.2.fst (back (x.fst, x.2.fst, true, x.2.2.snd.fst, x.2.2.snd.snd + (rune x.2.2.snd.fst x.2.2.snd.snd).snd))
          (brn (!decide (1844674407370955160 < x.fst.lo))
            (back
              ({ hi := x.fst.hi,
                  lo := IntKind.u64.wrap (IntKind.u64.wrap (x.fst.lo * 10) + IntKind.u64.wrap (IntKind.i32.wrap ((↑(rune x.2.2.snd.fst x.2.2.snd.snd).fst : Int) - 48))),
                  minus := x.fst.minus },
                x.2.fst, decide (1844674407370955160 < x.fst.lo), x.2.2.snd.fst, x.2.2.snd.snd + (rune x.2.2.snd.fst x.2.2.snd.snd).snd))
            (back (x.fst, x.2.fst, decide (1844674407370955160 < x.fst.lo), x.2.2.snd.fst, x.2.2.snd.snd + (rune x.2.2.snd.fst x.2.2.snd.snd).snd))))))
    (some ((x.2.fst, x.2.2.fst), x.fst, x.2.2.snd))
def dec_Parse_l1J : Wide × Bool × Bool × ((List UInt8 × Nat)) → Option ((Bool × Bool) × (Wide × ((List UInt8 × Nat)))) := iter dec_Parse_l1F big
def dec_Parse_l1C : CutSpec tb := ⟨68, [(9, .ref 154), (10, .val 4), (11, .val 4), (53, .iter)], [((.exit 0), [(10, .val 4), (11, .val 4)])], [54, 55, 56, 13, 57, 58, 59, 60, 61, 62, 10, 63, 64, 65, 66, 67, 68, 11, 69, 70, 71, 72, 73, 74, 75, 76, 77, 78], dec_Parse_l1J⟩
theorem dec_Parse_l1_eq : ∀ back x, evLoop Tryz.prog tb dec_ParseG [] (loopAt 68 Tryz.f176) dec_Parse_l1C.ins dec_Parse_l1C.outs back x = dec_Parse_l1F back x := fun back x => by kernel_rfl
theorem dec_Parse_l1_k : cutB Tryz.f176.ntmps dec_Parse_l1C (loopAt 68 Tryz.f176) = true := by kernel_rfl
theorem dec_Parse_l1_in : cutsOf ([] : List (CutSpec tb)) (loopAt 68 Tryz.f176) = [] := by kernel_rfl
theorem dec_Parse_l1_cut : CutSound Tryz.prog tb Tryz.f176.ntmps (.loop (loopAt 68 Tryz.f176)) dec_Parse_l1C := loop_it mixed dec_Parse_l1_k dec_ParseG_ok rfl dec_Parse_l1_in .nil dec_Parse_l1F dec_Parse_l1_eq rfl
def dec_Parse_b2J (x : Dec × Bool × List UInt8 × Wide × Bool × Bool) : Option (((Unit) × Dec) ⊕ ((Int) × Dec)) :=
  brn x.2.2.2.2.fst (some (Sum.inr (2, { M := 0, S := 0 })))
    (brn x.2.2.2.2.snd (some (Sum.inr (8, { M := 0, S := 0 })))
      (brn (decide (9223372036854775808 < x.2.2.2.fst.lo)) (some (Sum.inr (8, { M := 0, S := 0 })))
        (brn (decide (x.2.2.2.fst.lo = 9223372036854775808))
          (brn (!x.2.fst) (some (Sum.inr (8, { M := 0, S := 0 })))
            (brn (decide (9 < (↑x.2.2.fst.length : Int))) (some (Sum.inr (1, { M := 0, S := 0 })))
              (obnd (strings_HasSuffixF (x.2.2.fst, [48])) fun y =>
                brn y (some (Sum.inr (1, { M := 0, S := 0 })))
                  (brn x.2.fst (some (Sum.inr (0, { M := IntKind.i64.wrap (IntKind.u64.wrap (0 - x.2.2.2.fst.lo)), S := (↑x.2.2.fst.length : Int) })))
                    (some (Sum.inl ((), x.fst)))))))
          (brn (decide (9 < (↑x.2.2.fst.length : Int))) (some (Sum.inr (1, { M := 0, S := 0 })))
            (obnd (strings_HasSuffixF (x.2.2.fst, [48])) fun y =>
              brn y (some (Sum.inr (1, { M := 0, S := 0 })))
                (brn x.2.fst (some (Sum.inr (0, { M := IntKind.i64.wrap (IntKind.u64.wrap (0 - x.2.2.2.fst.lo)), S := (↑x.2.2.fst.length : Int) })))
                  (some (Sum.inl ((), x.fst)))))))))
def dec_Parse_b2C : CutSpec tb := ⟨123, [(2, .ref 30), (5, .val 4), (7, .val 9), (9, .ro 154), (10, .val 4), (11, .val 4)], [(.normal, []), (.ret, [(3, .val 63)])], [80, 79, 81, 3, 83, 84, 85, 86, 87, 88, 89, 90, 91, 92, 93, 94, 95, 96, 97, 82, 98, 100, 101, 102, 103, 104, 105, 106, 99, 107, 109, 108, 110, 111, 112, 113, 114, 115, 116], dec_Parse_b2J⟩
theorem dec_Parse_b2_eq : ∀ x, evBlk Tryz.prog tb dec_ParseG [] (codeAt 123 Tryz.f176) dec_Parse_b2C.ins dec_Parse_b2C.outs x = dec_Parse_b2C.J x := fun x => by kernel_rfl
theorem dec_Parse_b2_k : cutB Tryz.f176.ntmps dec_Parse_b2C (codeAt 123 Tryz.f176) = true := by kernel_rfl
theorem dec_Parse_b2_in : cutsOf ([] : List (CutSpec tb)) (codeAt 123 Tryz.f176) = [] := by kernel_rfl
theorem dec_Parse_b2_cut : CutSound Tryz.prog tb Tryz.f176.ntmps (codeAt 123 Tryz.f176) dec_Parse_b2C := blk_ev mixed dec_Parse_b2_k dec_ParseG_ok rfl dec_Parse_b2_in .nil dec_Parse_b2_eq
def dec_ParseF (x : List UInt8) : Option (Dec × Int) :=
  obnd (strings_CutPrefixF (x, [45])) fun y =>
    obnd (strings_CutF (y.fst, [46])) fun y_1 =>
      brn (decide (y_1.fst = []))
        (obnd (cat y_1.fst y_1.2.fst) fun z =>
          obnd (dec_Parse_l1J ({ hi := 0, lo := 0, minus := y.snd }, true, false, z, 0)) fun y_2 =>
            obnd (dec_Parse_b2J ({ M := 0, S := 0 }, y.snd, y_1.2.fst, y_2.2.fst, y_2.1)) fun y =>
              osum y (fun y => some ({ M := IntKind.i64.wrap y_2.2.fst.lo, S := (↑(List.length y_1.2.fst) : Int) }, 0)) fun y => some (y.2, y.1))
        (brn y_1.2.snd
          (brn (decide (y_1.2.fst = []))
            (obnd (cat y_1.fst y_1.2.fst) fun z =>
              obnd (dec_Parse_l1J ({ hi := 0, lo := 0, minus := y.snd }, true, false, z, 0)) fun y_2 =>
                obnd (dec_Parse_b2J ({ M := 0, S := 0 }, y.snd, y_1.2.fst, y_2.2.fst, y_2.1)) fun y =>
                  osum y (fun y => some ({ M := IntKind.i64.wrap y_2.2.fst.lo, S := (↑(List.length y_1.2.fst) : Int) }, 0)) fun y => some (y.2, y.1))
            (brn (decide (1 < (↑(List.length y_1.fst) : Int)))
              (obnd (idx y_1.fst 0) fun y_2 =>
                brn (decide ((↑y_2.toNat : Int) = 48))
                  (obnd (cat y_1.fst y_1.2.fst) fun z =>
                    obnd (dec_Parse_l1J ({ hi := 0, lo := 0, minus := y.snd }, true, false, z, 0)) fun y_3 =>
                      obnd (dec_Parse_b2J ({ M := 0, S := 0 }, y.snd, y_1.2.fst, y_3.2.fst, y_3.1)) fun y =>
                        osum y (fun y => some ({ M := IntKind.i64.wrap y_3.2.fst.lo, S := (↑(List.length y_1.2.fst) : Int) }, 0)) fun y => some (y.2, y.1))
                  (obnd (cat y_1.fst y_1.2.fst) fun z =>
                    obnd (dec_Parse_l1J ({ hi := 0, lo := 0, minus := y.snd }, decide (x = [45, 48]), false, z, 0)) fun y_3 =>
                      obnd (dec_Parse_b2J ({ M := 0, S := 0 }, y.snd, y_1.2.fst, y_3.2.fst, y_3.1)) fun y =>
                        osum y (fun y => some ({ M := IntKind.i64.wrap y_3.2.fst.lo, S := (↑(List.length y_1.2.fst) : Int) }, 0)) fun y => some (y.2, y.1)))
              (obnd (cat y_1.fst y_1.2.fst) fun z =>
                obnd (dec_Parse_l1J ({ hi := 0, lo := 0, minus := y.snd }, decide (x = [45, 48]), false, z, 0)) fun y_2 =>
                  obnd (dec_Parse_b2J ({ M := 0, S := 0 }, y.snd, y_1.2.fst, y_2.2.fst, y_2.1)) fun y =>
                    osum y (fun y => some ({ M := IntKind.i64.wrap y_2.2.fst.lo, S := (↑(List.length y_1.2.fst) : Int) }, 0)) fun y => some (y.2, y.1))))
          (brn (decide (1 < (↑(List.length y_1.fst) : Int)))
            (obnd (idx y_1.fst 0) fun y_2 =>
              brn (decide ((↑y_2.toNat : Int) = 48))
                (obnd (cat y_1.fst y_1.2.fst) fun z =>
                  obnd (dec_Parse_l1J ({ hi := 0, lo := 0, minus := y.snd }, true, false, z, 0)) fun y_3 =>
                    obnd (dec_Parse_b2J ({ M := 0, S := 0 }, y.snd, y_1.2.fst, y_3.2.fst, y_3.1)) fun y =>
                      osum y (fun y => some ({ M := IntKind.i64.wrap y_3.2.fst.lo, S := (↑(List.length y_1.2.fst) : Int) }, 0)) fun y => some (y.2, y.1))
                (obnd (cat y_1.fst y_1.2.fst) fun z =>
                  obnd (dec_Parse_l1J ({ hi := 0, lo := 0, minus := y.snd }, decide (x = [45, 48]), false, z, 0)) fun y_3 =>
                    obnd (dec_Parse_b2J ({ M := 0, S := 0 }, y.snd, y_1.2.fst, y_3.2.fst, y_3.1)) fun y =>
                      osum y (fun y => some ({ M := IntKind.i64.wrap y_3.2.fst.lo, S := (↑(List.length y_1.2.fst) : Int) }, 0)) fun y => some (y.2, y.1)))
            (obnd (cat y_1.fst y_1.2.fst) fun z =>
              obnd (dec_Parse_l1J ({ hi := 0, lo := 0, minus := y.snd }, decide (x = [45, 48]), false, z, 0)) fun y_2 =>
                obnd (dec_Parse_b2J ({ M := 0, S := 0 }, y.snd, y_1.2.fst, y_2.2.fst, y_2.1)) fun y =>
                  osum y (fun y => some ({ M := IntKind.i64.wrap y_2.2.fst.lo, S := (↑(List.length y_1.2.fst) : Int) }, 0)) fun y => some (y.2, y.1))))
def dec_ParseS : FSpec tb := ⟨[(0, .val 9)], [(0, .val 30), (1, .val 63)], dec_ParseF⟩
theorem dec_Parse_eq : ∀ x, evFn Tryz.prog tb dec_ParseG [dec_Parse_l1C, dec_Parse_b2C] Tryz.f176 dec_ParseS.ins dec_ParseS.outs x = dec_ParseS.f x := fun x => by kernel_rfl
theorem dec_Parse_k : fnK Tryz.f176 dec_ParseS.ins dec_ParseS.outs = true := by kernel_rfl
theorem dec_Parse_in : cutsOf ([dec_Parse_l1C, dec_Parse_b2C] : List (CutSpec tb)) (bodyOf Tryz.f176) = [(68, .loop (loopAt 68 Tryz.f176)), (123, codeAt 123 Tryz.f176)] := by kernel_rfl
theorem dec_Parse_sound : FnSound Tryz.prog tb 176 dec_ParseS := fn_cut mixed Tryz.func176 dec_Parse_k dec_ParseG_ok rfl dec_Parse_in (.cons rfl dec_Parse_l1_cut rfl (.cons rfl dec_Parse_b2_cut rfl .nil)) dec_Parse_eq
def dec_ofF (x : Int) : Option (Wide) :=
  brn (decide (x < 0)) (some { hi := 0, lo := IntKind.u64.wrap (0 - IntKind.u64.wrap x), minus := true }) (some { hi := 0, lo := IntKind.u64.wrap x, minus := false })
def dec_ofS : FSpec tb := ⟨[(0, .val 2)], [(0, .val 154)], dec_ofF⟩
theorem dec_of_eq : ∀ x, evFn Tryz.prog tb [] [] Tryz.f94 dec_ofS.ins dec_ofS.outs x = dec_ofS.f x := fun x => by kernel_rfl
theorem dec_of_k : fnK Tryz.f94 dec_ofS.ins dec_ofS.outs = true := by kernel_rfl
theorem dec_of_sound : FnSound Tryz.prog tb 94 dec_ofS := fn_ev mixed Tryz.func94 dec_of_k .nil rfl dec_of_eq
def strconv_FormatUintF (x : Int × Int) : Option (List UInt8) :=
  obnd (istrconv_FormatUintF x) fun y => some y
def strconv_FormatUintS : FSpec tb := ⟨[(0, .val 152), (1, .val 3)], [(0, .val 9)], strconv_FormatUintF⟩
theorem strconv_FormatUint_eq : ∀ x, evFn Tryz.prog tb [(256, istrconv_FormatUintS)] [] Tryz.f229 strconv_FormatUintS.ins strconv_FormatUintS.outs x = strconv_FormatUintS.f x := fun x => by kernel_rfl
theorem strconv_FormatUint_k : fnK Tryz.f229 strconv_FormatUintS.ins strconv_FormatUintS.outs = true := by kernel_rfl
theorem strconv_FormatUint_sound : FnSound Tryz.prog tb 229 strconv_FormatUintS := fn_ev mixed Tryz.func229 strconv_FormatUint_k (.cons istrconv_FormatUint_sound .nil) rfl strconv_FormatUint_eq
def dec_TextF (x : Dec) : Option (List UInt8) :=
  obnd (dec_ofF x.M) fun y =>
    obnd (strconv_FormatUintF (y.lo, 10)) fun y_1 =>
      brn (decide (0 < x.S))
        (obnd
          (strings_RepeatF
            ([48],
              bif decide (IntKind.i64.wrap (IntKind.i64.wrap (x.S + 1) - (↑(List.length y_1) : Int)) < 0) then 0
              else IntKind.i64.wrap (IntKind.i64.wrap (x.S + 1) - (↑(List.length y_1) : Int))))
          fun y_2 =>
          obnd (cat y_2 y_1) fun z =>
            obnd (sub z 0 (IntKind.i64.wrap ((↑z.length : Int) - x.S))) fun z_1 =>
              obnd (cat z_1 [46]) fun z_2 =>
                obnd (sub z (IntKind.i64.wrap ((↑z.length : Int) - x.S)) (↑z.length : Int)) fun z =>
                  obnd (cat z_2 z) fun z => brn y.minus (obnd (cat [45] z) fun z => some z) (some z))
        (brn y.minus (obnd (cat [45] y_1) fun z => some z) (some y_1))
def dec_TextS : FSpec tb := ⟨[(0, .val 30)], [(0, .val 9)], dec_TextF⟩
theorem dec_Text_eq : ∀ x, evFn Tryz.prog tb [(94, dec_ofS), (229, strconv_FormatUintS), (157, strings_RepeatS)] [] Tryz.f175 dec_TextS.ins dec_TextS.outs x = dec_TextS.f x := fun x => by kernel_rfl
theorem dec_Text_k : fnK Tryz.f175 dec_TextS.ins dec_TextS.outs = true := by kernel_rfl
theorem dec_Text_sound : FnSound Tryz.prog tb 175 dec_TextS := fn_ev mixed Tryz.func175 dec_Text_k (.cons dec_of_sound (.cons strconv_FormatUint_sound (.cons strings_Repeat_sound .nil))) rfl dec_Text_eq
def dec_power_l1F (back : Int × Int × Int → Option (Int)) (x : Int × Int × Int) : Option (Int) :=
  brn (decide (x.2.snd < x.2.fst)) (back (IntKind.u64.wrap (x.fst * 10), x.2.fst, IntKind.i64.wrap (x.2.snd + 1))) (some x.1)
def dec_power_l1J : Int × Int × Int → Option (Int) := iter dec_power_l1F big
def dec_power_l1C : CutSpec tb := ⟨36, [(3, .val 152), (4, .val 3), (5, .val 3)], [((.exit 0), [(3, .val 152)])], [6, 7, 8, 3, 9, 5], dec_power_l1J⟩
theorem dec_power_l1_eq : ∀ back x, evLoop Tryz.prog tb [] [] (loopAt 36 Tryz.f96) dec_power_l1C.ins dec_power_l1C.outs back x = dec_power_l1F back x := fun back x => by kernel_rfl
theorem dec_power_l1_k : cutB Tryz.f96.ntmps dec_power_l1C (loopAt 36 Tryz.f96) = true := by kernel_rfl
theorem dec_power_l1_in : cutsOf ([] : List (CutSpec tb)) (loopAt 36 Tryz.f96) = [] := by kernel_rfl
theorem dec_power_l1_cut : CutSound Tryz.prog tb Tryz.f96.ntmps (.loop (loopAt 36 Tryz.f96)) dec_power_l1C := loop_it mixed dec_power_l1_k .nil rfl dec_power_l1_in .nil dec_power_l1F dec_power_l1_eq rfl
def dec_powerF (x : Int) : Option (Int) :=
  obnd (dec_power_l1J (1, x, 0)) fun y => some y
def dec_powerS : FSpec tb := ⟨[(0, .val 3)], [(0, .val 152)], dec_powerF⟩
theorem dec_power_eq : ∀ x, evFn Tryz.prog tb [] [dec_power_l1C] Tryz.f96 dec_powerS.ins dec_powerS.outs x = dec_powerS.f x := fun x => by kernel_rfl
theorem dec_power_k : fnK Tryz.f96 dec_powerS.ins dec_powerS.outs = true := by kernel_rfl
theorem dec_power_in : cutsOf ([dec_power_l1C] : List (CutSpec tb)) (bodyOf Tryz.f96) = [(36, .loop (loopAt 36 Tryz.f96))] := by kernel_rfl
theorem dec_power_sound : FnSound Tryz.prog tb 96 dec_powerS := fn_cut mixed Tryz.func96 dec_power_k .nil rfl dec_power_in (.cons rfl dec_power_l1_cut rfl .nil) dec_power_eq
def bits_Mul64F (x : Int × Int) : Option (Int × Int) :=
  some
    (IntKind.u64.wrap
        (IntKind.u64.wrap
            (IntKind.u64.wrap (x.fst.fdiv 4294967296 * x.snd.fdiv 4294967296) +
              (IntKind.u64.wrap
                    (IntKind.u64.wrap (x.fst.fdiv 4294967296 * bitsOf BinOp.and IntKind.u64 x.snd 4294967295) +
                      (IntKind.u64.wrap (bitsOf BinOp.and IntKind.u64 x.fst 4294967295 * bitsOf BinOp.and IntKind.u64 x.snd 4294967295)).fdiv 4294967296)).fdiv
                4294967296) +
          (IntKind.u64.wrap
                (bitsOf BinOp.and IntKind.u64
                    (IntKind.u64.wrap
                      (IntKind.u64.wrap (x.fst.fdiv 4294967296 * bitsOf BinOp.and IntKind.u64 x.snd 4294967295) +
                        (IntKind.u64.wrap (bitsOf BinOp.and IntKind.u64 x.fst 4294967295 * bitsOf BinOp.and IntKind.u64 x.snd 4294967295)).fdiv 4294967296))
                    4294967295 +
                  IntKind.u64.wrap (bitsOf BinOp.and IntKind.u64 x.fst 4294967295 * x.snd.fdiv 4294967296))).fdiv
            4294967296),
      IntKind.u64.wrap (x.fst * x.snd))
def bits_Mul64S : FSpec tb := ⟨[(0, .val 152), (1, .val 152)], [(0, .val 152), (1, .val 152)], bits_Mul64F⟩
theorem bits_Mul64_eq : ∀ x, evFn Tryz.prog tb [] [] Tryz.f98 bits_Mul64S.ins bits_Mul64S.outs x = bits_Mul64S.f x := fun x => by kernel_rfl
theorem bits_Mul64_k : fnK Tryz.f98 bits_Mul64S.ins bits_Mul64S.outs = true := by kernel_rfl
theorem bits_Mul64_sound : FnSound Tryz.prog tb 98 bits_Mul64S := fn_ev mixed Tryz.func98 bits_Mul64_k .nil rfl bits_Mul64_eq
def dec_wide_timesF (x : Wide × Int) : Option (Wide) :=
  obnd (bits_Mul64F (x.fst.lo, x.snd)) fun y => some { hi := IntKind.u64.wrap (IntKind.u64.wrap (x.fst.hi * x.snd) + y.fst), lo := y.snd, minus := x.fst.minus }
def dec_wide_timesS : FSpec tb := ⟨[(0, .val 154), (1, .val 152)], [(0, .val 154)], dec_wide_timesF⟩
theorem dec_wide_times_eq : ∀ x, evFn Tryz.prog tb [(98, bits_Mul64S)] [] Tryz.f95 dec_wide_timesS.ins dec_wide_timesS.outs x = dec_wide_timesS.f x := fun x => by kernel_rfl
theorem dec_wide_times_k : fnK Tryz.f95 dec_wide_timesS.ins dec_wide_timesS.outs = true := by kernel_rfl
theorem dec_wide_times_sound : FnSound Tryz.prog tb 95 dec_wide_timesS := fn_ev mixed Tryz.func95 dec_wide_times_k (.cons bits_Mul64_sound .nil) rfl dec_wide_times_eq
def dec_scaledF (x : Dec) : Option (Wide) :=
  obnd (dec_ofF x.M) fun y => obnd (dec_powerF (IntKind.i64.wrap (9 - x.S))) fun y_1 => obnd (dec_wide_timesF (y, y_1)) fun y => some y
def dec_scaledS : FSpec tb := ⟨[(0, .val 30)], [(0, .val 154)], dec_scaledF⟩
theorem dec_scaled_eq : ∀ x, evFn Tryz.prog tb [(94, dec_ofS), (96, dec_powerS), (95, dec_wide_timesS)] [] Tryz.f89 dec_scaledS.ins dec_scaledS.outs x = dec_scaledS.f x := fun x => by kernel_rfl
theorem dec_scaled_k : fnK Tryz.f89 dec_scaledS.ins dec_scaledS.outs = true := by kernel_rfl
theorem dec_scaled_sound : FnSound Tryz.prog tb 89 dec_scaledS := fn_ev mixed Tryz.func89 dec_scaled_k (.cons dec_of_sound (.cons dec_power_sound (.cons dec_wide_times_sound .nil))) rfl dec_scaled_eq
def cmp_isNaN_int64F (x : Int) : Option (Bool) :=
  some (bif decide (x = x) then false else true)
def cmp_isNaN_int64S : FSpec tb := ⟨[(0, .val 2)], [(0, .val 4)], cmp_isNaN_int64F⟩
theorem cmp_isNaN_int64_eq : ∀ x, evFn Tryz.prog tb [] [] Tryz.f177 cmp_isNaN_int64S.ins cmp_isNaN_int64S.outs x = cmp_isNaN_int64S.f x := fun x => by kernel_rfl
theorem cmp_isNaN_int64_k : fnK Tryz.f177 cmp_isNaN_int64S.ins cmp_isNaN_int64S.outs = true := by kernel_rfl
theorem cmp_isNaN_int64_sound : FnSound Tryz.prog tb 177 cmp_isNaN_int64S := fn_ev mixed Tryz.func177 cmp_isNaN_int64_k .nil rfl cmp_isNaN_int64_eq
def cmp_Compare_int64F (x : Int × Int) : Option (Int) :=
  obnd (cmp_isNaN_int64F x.fst) fun y =>
    obnd (cmp_isNaN_int64F x.snd) fun y_1 =>
      brn y (brn y_1 (some 0) (some (-1))) (brn y_1 (some 1) (brn (decide (x.fst < x.snd)) (some (-1)) (brn (decide (x.snd < x.fst)) (some 1) (some 0))))
def cmp_Compare_int64S : FSpec tb := ⟨[(0, .val 2), (1, .val 2)], [(0, .val 3)], cmp_Compare_int64F⟩
theorem cmp_Compare_int64_eq : ∀ x, evFn Tryz.prog tb [(177, cmp_isNaN_int64S)] [] Tryz.f90 cmp_Compare_int64S.ins cmp_Compare_int64S.outs x = cmp_Compare_int64S.f x := fun x => by kernel_rfl
theorem cmp_Compare_int64_k : fnK Tryz.f90 cmp_Compare_int64S.ins cmp_Compare_int64S.outs = true := by kernel_rfl
theorem cmp_Compare_int64_sound : FnSound Tryz.prog tb 90 cmp_Compare_int64S := fn_ev mixed Tryz.func90 cmp_Compare_int64_k (.cons cmp_isNaN_int64_sound .nil) rfl cmp_Compare_int64_eq
def cmp_isNaN_intF (x : Int) : Option (Bool) :=
  some (bif decide (x = x) then false else true)
def cmp_isNaN_intS : FSpec tb := ⟨[(0, .val 3)], [(0, .val 4)], cmp_isNaN_intF⟩
theorem cmp_isNaN_int_eq : ∀ x, evFn Tryz.prog tb [] [] Tryz.f173 cmp_isNaN_intS.ins cmp_isNaN_intS.outs x = cmp_isNaN_intS.f x := fun x => by kernel_rfl
theorem cmp_isNaN_int_k : fnK Tryz.f173 cmp_isNaN_intS.ins cmp_isNaN_intS.outs = true := by kernel_rfl
theorem cmp_isNaN_int_sound : FnSound Tryz.prog tb 173 cmp_isNaN_intS := fn_ev mixed Tryz.func173 cmp_isNaN_int_k .nil rfl cmp_isNaN_int_eq
def cmp_Compare_intF (x : Int × Int) : Option (Int) :=
  obnd (cmp_isNaN_intF x.fst) fun y =>
    obnd (cmp_isNaN_intF x.snd) fun y_1 =>
      brn y (brn y_1 (some 0) (some (-1))) (brn y_1 (some 1) (brn (decide (x.fst < x.snd)) (some (-1)) (brn (decide (x.snd < x.fst)) (some 1) (some 0))))
def cmp_Compare_intS : FSpec tb := ⟨[(0, .val 3), (1, .val 3)], [(0, .val 3)], cmp_Compare_intF⟩
theorem cmp_Compare_int_eq : ∀ x, evFn Tryz.prog tb [(173, cmp_isNaN_intS)] [] Tryz.f80 cmp_Compare_intS.ins cmp_Compare_intS.outs x = cmp_Compare_intS.f x := fun x => by kernel_rfl
theorem cmp_Compare_int_k : fnK Tryz.f80 cmp_Compare_intS.ins cmp_Compare_intS.outs = true := by kernel_rfl
theorem cmp_Compare_int_sound : FnSound Tryz.prog tb 80 cmp_Compare_intS := fn_ev mixed Tryz.func80 cmp_Compare_int_k (.cons cmp_isNaN_int_sound .nil) rfl cmp_Compare_int_eq
def dec_wide_lessF (x : Wide × Wide) : Option (Bool) :=
  brn (decide (x.fst.hi < x.snd.hi)) (some true) (brn (decide (x.fst.hi = x.snd.hi)) (some (decide (x.fst.lo < x.snd.lo))) (some false))
def dec_wide_lessS : FSpec tb := ⟨[(0, .val 154), (1, .val 154)], [(0, .val 4)], dec_wide_lessF⟩
theorem dec_wide_less_eq : ∀ x, evFn Tryz.prog tb [] [] Tryz.f91 dec_wide_lessS.ins dec_wide_lessS.outs x = dec_wide_lessS.f x := fun x => by kernel_rfl
theorem dec_wide_less_k : fnK Tryz.f91 dec_wide_lessS.ins dec_wide_lessS.outs = true := by kernel_rfl
theorem dec_wide_less_sound : FnSound Tryz.prog tb 91 dec_wide_lessS := fn_ev mixed Tryz.func91 dec_wide_less_k .nil rfl dec_wide_less_eq
def dec_CompareF (x : Dec × Dec) : Option (Int) :=
  obnd (dec_scaledF x.fst) fun y =>
    obnd (dec_scaledF x.snd) fun y_1 =>
      brn (!decide (y.minus = y_1.minus))
        (obnd (cmp_Compare_int64F (x.fst.M, 0)) fun y => obnd (cmp_Compare_int64F (x.snd.M, 0)) fun y_2 => obnd (cmp_Compare_intF (y, y_2)) fun y => some y)
        (brn y.minus (obnd (dec_wide_lessF (y, y_1)) fun y_2 => brn y_2 (some 1) (obnd (dec_wide_lessF (y_1, y)) fun y => brn y (some (-1)) (some 0)))
          (obnd (dec_wide_lessF (y, y_1)) fun y_2 => brn y_2 (some (-1)) (obnd (dec_wide_lessF (y_1, y)) fun y => brn y (some 1) (some 0))))
def dec_CompareS : FSpec tb := ⟨[(0, .val 30), (1, .val 30)], [(0, .val 3)], dec_CompareF⟩
theorem dec_Compare_eq : ∀ x, evFn Tryz.prog tb [(89, dec_scaledS), (90, cmp_Compare_int64S), (80, cmp_Compare_intS), (91, dec_wide_lessS)] [] Tryz.f34 dec_CompareS.ins dec_CompareS.outs x = dec_CompareS.f x := fun x => by kernel_rfl
theorem dec_Compare_k : fnK Tryz.f34 dec_CompareS.ins dec_CompareS.outs = true := by kernel_rfl
theorem dec_Compare_sound : FnSound Tryz.prog tb 34 dec_CompareS := fn_ev mixed Tryz.func34 dec_Compare_k (.cons dec_scaled_sound (.cons cmp_Compare_int64_sound (.cons cmp_Compare_int_sound (.cons dec_wide_less_sound .nil)))) rfl dec_Compare_eq
def dec_wide_plusF (x : Wide × Wide) : Option (Wide) :=
  brn (decide (x.fst.minus = x.snd.minus))
    (obnd (bits_Add64F (x.fst.lo, x.snd.lo, 0)) fun y => some { hi := IntKind.u64.wrap (IntKind.u64.wrap (x.fst.hi + x.snd.hi) + y.snd), lo := y.fst, minus := x.fst.minus })
    (obnd (dec_wide_lessF x) fun y =>
      brn y (obnd (bits_Sub64F (x.snd.lo, x.fst.lo, 0)) fun y => some { hi := IntKind.u64.wrap (IntKind.u64.wrap (x.snd.hi - x.fst.hi) - y.snd), lo := y.fst, minus := x.snd.minus })
        (obnd (bits_Sub64F (x.fst.lo, x.snd.lo, 0)) fun y => some { hi := IntKind.u64.wrap (IntKind.u64.wrap (x.fst.hi - x.snd.hi) - y.snd), lo := y.fst, minus := x.fst.minus }))
def dec_wide_plusS : FSpec tb := ⟨[(0, .val 154), (1, .val 154)], [(0, .val 154)], dec_wide_plusF⟩
theorem dec_wide_plus_eq : ∀ x, evFn Tryz.prog tb [(178, bits_Add64S), (91, dec_wide_lessS), (179, bits_Sub64S)] [] Tryz.f92 dec_wide_plusS.ins dec_wide_plusS.outs x = dec_wide_plusS.f x := fun x => by kernel_rfl
theorem dec_wide_plus_k : fnK Tryz.f92 dec_wide_plusS.ins dec_wide_plusS.outs = true := by kernel_rfl
theorem dec_wide_plus_sound : FnSound Tryz.prog tb 92 dec_wide_plusS := fn_ev mixed Tryz.func92 dec_wide_plus_k (.consK bits_Add64_sound (.cons dec_wide_less_sound (.consK bits_Sub64_sound .nil))) rfl dec_wide_plus_eq
abbrev bits_Div64G : List (Nat × FSpec tb) := [(260, bits_LeadingZeros64S)]
theorem bits_Div64G_ok : AllSound Tryz.prog tb bits_Div64G := (.cons bits_LeadingZeros64_sound .nil)
def bits_Div64_l1F (back : Int × Int × Int × Int × Int → Option (Int)) (x : Int × Int × Int × Int × Int) : Option (Int) :=
  brn (decide (4294967296 ≤ x.2.2.2.fst))
    (brn (decide (4294967296 ≤ IntKind.u64.wrap (x.2.2.2.snd + x.fst))) (some (IntKind.u64.wrap (x.2.2.2.fst - 1)))
      (back (x.fst, x.2.fst, x.2.2.fst, IntKind.u64.wrap (x.2.2.2.fst - 1), IntKind.u64.wrap (x.2.2.2.snd + x.fst))))
    (brn (decide (IntKind.u64.wrap (IntKind.u64.wrap (4294967296 * x.2.2.2.snd) + x.2.2.fst) < IntKind.u64.wrap (x.2.2.2.fst * x.2.fst)))
      (brn (decide (4294967296 ≤ IntKind.u64.wrap (x.2.2.2.snd + x.fst))) (some (IntKind.u64.wrap (x.2.2.2.fst - 1)))
        (back (x.fst, x.2.fst, x.2.2.fst, IntKind.u64.wrap (x.2.2.2.fst - 1), IntKind.u64.wrap (x.2.2.2.snd + x.fst))))
      (some x.2.2.2.1))
def bits_Div64_l1J : Int × Int × Int × Int × Int → Option (Int) := iter bits_Div64_l1F big
def bits_Div64_l1C : CutSpec tb := ⟨148, [(9, .val 152), (10, .val 152), (13, .val 152), (15, .val 152), (16, .val 152)], [((.exit 0), [(15, .val 152)])], [67, 68, 69, 70, 71, 72, 73, 74, 75, 76, 77, 78, 79, 80, 15, 81, 82, 83, 16, 84, 85], bits_Div64_l1J⟩
theorem bits_Div64_l1_eq : ∀ back x, evLoop Tryz.prog tb bits_Div64G [] (loopAt 148 Tryz.f233) bits_Div64_l1C.ins bits_Div64_l1C.outs back x = bits_Div64_l1F back x := fun back x => by kernel_rfl
theorem bits_Div64_l1_k : cutB Tryz.f233.ntmps bits_Div64_l1C (loopAt 148 Tryz.f233) = true := by kernel_rfl
theorem bits_Div64_l1_in : cutsOf ([] : List (CutSpec tb)) (loopAt 148 Tryz.f233) = [] := by kernel_rfl
theorem bits_Div64_l1_cut : CutSound Tryz.prog tb Tryz.f233.ntmps (.loop (loopAt 148 Tryz.f233)) bits_Div64_l1C := loop_it mixed bits_Div64_l1_k bits_Div64G_ok rfl bits_Div64_l1_in .nil bits_Div64_l1F bits_Div64_l1_eq rfl
def bits_Div64_l2F (back : Int × Int × Int × Int × Int → Option (Int)) (x : Int × Int × Int × Int × Int) : Option (Int) :=
  brn (decide (4294967296 ≤ x.2.2.2.snd))
    (brn (decide (4294967296 ≤ IntKind.u64.wrap (x.2.2.2.fst + x.fst))) (some (IntKind.u64.wrap (x.2.2.2.snd - 1)))
      (back (x.fst, x.2.fst, x.2.2.fst, IntKind.u64.wrap (x.2.2.2.fst + x.fst), IntKind.u64.wrap (x.2.2.2.snd - 1))))
    (brn (decide (IntKind.u64.wrap (IntKind.u64.wrap (4294967296 * x.2.2.2.fst) + x.2.2.fst) < IntKind.u64.wrap (x.2.2.2.snd * x.2.fst)))
      (brn (decide (4294967296 ≤ IntKind.u64.wrap (x.2.2.2.fst + x.fst))) (some (IntKind.u64.wrap (x.2.2.2.snd - 1)))
        (back (x.fst, x.2.fst, x.2.2.fst, IntKind.u64.wrap (x.2.2.2.fst + x.fst), IntKind.u64.wrap (x.2.2.2.snd - 1))))
      (some x.2.2.2.2))
def bits_Div64_l2J : Int × Int × Int × Int × Int → Option (Int) := iter bits_Div64_l2F big
def bits_Div64_l2C : CutSpec tb := ⟨204, [(9, .val 152), (10, .val 152), (14, .val 152), (16, .val 152), (18, .val 152)], [((.exit 2), [(18, .val 152)])], [102, 103, 104, 105, 106, 107, 108, 109, 110, 111, 112, 113, 114, 115, 18, 116, 117, 118, 16, 119, 120], bits_Div64_l2J⟩
theorem bits_Div64_l2_eq : ∀ back x, evLoop Tryz.prog tb bits_Div64G [] (loopAt 204 Tryz.f233) bits_Div64_l2C.ins bits_Div64_l2C.outs back x = bits_Div64_l2F back x := fun back x => by kernel_rfl
theorem bits_Div64_l2_k : cutB Tryz.f233.ntmps bits_Div64_l2C (loopAt 204 Tryz.f233) = true := by kernel_rfl
theorem bits_Div64_l2_in : cutsOf ([] : List (CutSpec tb)) (loopAt 204 Tryz.f233) = [] := by kernel_rfl
theorem bits_Div64_l2_cut : CutSound Tryz.prog tb Tryz.f233.ntmps (.loop (loopAt 204 Tryz.f233)) bits_Div64_l2C := loop_it mixed bits_Div64_l2_k bits_Div64G_ok rfl bits_Div64_l2_in .nil bits_Div64_l2F bits_Div64_l2_eq rfl
def bits_Div64F (x : Int × Int × Int) : Option (Int × Int) :=
  brn (decide (x.2.snd = 0)) none
    (brn (decide (x.2.snd ≤ x.fst)) none
      (brn (decide (x.fst = 0)) (brn (decide (x.2.snd = 0)) none (brn (decide (x.2.snd = 0)) none (some (IntKind.u64.wrap (x.2.fst.tdiv x.2.snd), x.2.fst.tmod x.2.snd))))
        (obnd (bits_LeadingZeros64F x.2.snd) fun y =>
          brn (decide (IntKind.u64.wrap y < 0)) none
            (brn (decide (IntKind.u64.wrap y < 0)) none
              (brn (decide (IntKind.u64.wrap (64 - IntKind.u64.wrap y) < 0)) none
                (brn (decide (IntKind.u64.wrap y < 0)) none
                  (brn (decide ((IntKind.u64.wrap (x.2.snd * 2 ^ min (IntKind.u64.wrap y).toNat 64)).fdiv 4294967296 = 0)) none
                    (obnd
                      (bits_Div64_l1J
                        ((IntKind.u64.wrap (x.2.snd * 2 ^ min (IntKind.u64.wrap y).toNat 64)).fdiv 4294967296,
                          bitsOf BinOp.and IntKind.u64 (IntKind.u64.wrap (x.2.snd * 2 ^ min (IntKind.u64.wrap y).toNat 64)) 4294967295,
                          (IntKind.u64.wrap (x.2.fst * 2 ^ min (IntKind.u64.wrap y).toNat 64)).fdiv 4294967296,
                          IntKind.u64.wrap
                            ((bitsOf BinOp.or IntKind.u64 (IntKind.u64.wrap (x.fst * 2 ^ min (IntKind.u64.wrap y).toNat 64))
                                  (x.2.fst.fdiv (2 ^ min (IntKind.u64.wrap (64 - IntKind.u64.wrap y)).toNat 64))).tdiv
                              ((IntKind.u64.wrap (x.2.snd * 2 ^ min (IntKind.u64.wrap y).toNat 64)).fdiv 4294967296)),
                          IntKind.u64.wrap
                            (bitsOf BinOp.or IntKind.u64 (IntKind.u64.wrap (x.fst * 2 ^ min (IntKind.u64.wrap y).toNat 64))
                                (x.2.fst.fdiv (2 ^ min (IntKind.u64.wrap (64 - IntKind.u64.wrap y)).toNat 64)) -
                              IntKind.u64.wrap
                                (IntKind.u64.wrap
                                    ((bitsOf BinOp.or IntKind.u64 (IntKind.u64.wrap (x.fst * 2 ^ min (IntKind.u64.wrap y).toNat 64))
                                          (x.2.fst.fdiv (2 ^ min (IntKind.u64.wrap (64 - IntKind.u64.wrap y)).toNat 64))).tdiv
                                      ((IntKind.u64.wrap (x.2.snd * 2 ^ min (IntKind.u64.wrap y).toNat 64)).fdiv 4294967296)) *
                                  (IntKind.u64.wrap (x.2.snd * 2 ^ min (IntKind.u64.wrap y).toNat 64)).fdiv 4294967296))))
                      fun y_1 =>
                      brn (decide ((IntKind.u64.wrap (x.2.snd * 2 ^ min (IntKind.u64.wrap y).toNat 64)).fdiv 4294967296 = 0)) none
                        (obnd
                          (bits_Div64_l2J
                            ((IntKind.u64.wrap (x.2.snd * 2 ^ min (IntKind.u64.wrap y).toNat 64)).fdiv 4294967296,
                              bitsOf BinOp.and IntKind.u64 (IntKind.u64.wrap (x.2.snd * 2 ^ min (IntKind.u64.wrap y).toNat 64)) 4294967295,
                              bitsOf BinOp.and IntKind.u64 (IntKind.u64.wrap (x.2.fst * 2 ^ min (IntKind.u64.wrap y).toNat 64)) 4294967295,
                              IntKind.u64.wrap
                                (IntKind.u64.wrap
                                    (IntKind.u64.wrap
                                        (IntKind.u64.wrap
                                            (bitsOf BinOp.or IntKind.u64 (IntKind.u64.wrap (x.fst * 2 ^ min (IntKind.u64.wrap y).toNat 64))
                                                (x.2.fst.fdiv (2 ^ min (IntKind.u64.wrap (64 - IntKind.u64.wrap y)).toNat 64)) *
                                              4294967296) +
                                          (IntKind.u64.wrap (x.2.fst * 2 ^ min (IntKind.u64.wrap y).toNat 64)).fdiv 4294967296) -
                                      IntKind.u64.wrap (y_1 * IntKind.u64.wrap (x.2.snd * 2 ^ min (IntKind.u64.wrap y).toNat 64))) -
                                  IntKind.u64.wrap
                                    (IntKind.u64.wrap
                                        ((IntKind.u64.wrap
                                              (IntKind.u64.wrap
                                                  (IntKind.u64.wrap
                                                      (bitsOf BinOp.or IntKind.u64 (IntKind.u64.wrap (x.fst * 2 ^ min (IntKind.u64.wrap y).toNat 64))
                                                          (x.2.fst.fdiv (2 ^ min (IntKind.u64.wrap (64 - IntKind.u64.wrap y)).toNat 64)) *
                                                        4294967296) +
                                                    (IntKind.u64.wrap (x.2.fst * 2 ^ min (IntKind.u64.wrap y).toNat 64)).fdiv 4294967296) -
                                                IntKind.u64.wrap (y_1 * IntKind.u64.wrap (x.2.snd * 2 ^ min (IntKind.u64.wrap y).toNat 64)))).tdiv
                                          ((IntKind.u64.wrap (x.2.snd * 2 ^ min (IntKind.u64.wrap y).toNat 64)).fdiv 4294967296)) *
                                      (IntKind.u64.wrap (x.2.snd * 2 ^ min (IntKind.u64.wrap y).toNat 64)).fdiv 4294967296)),
                              IntKind.u64.wrap
                                ((IntKind.u64.wrap
                                      (IntKind.u64.wrap
                                          (IntKind.u64.wrap
                                              (bitsOf BinOp.or IntKind.u64 (IntKind.u64.wrap (x.fst * 2 ^ min (IntKind.u64.wrap y).toNat 64))
                                                  (x.2.fst.fdiv (2 ^ min (IntKind.u64.wrap (64 - IntKind.u64.wrap y)).toNat 64)) *
                                                4294967296) +
                                            (IntKind.u64.wrap (x.2.fst * 2 ^ min (IntKind.u64.wrap y).toNat 64)).fdiv 4294967296) -
                                        IntKind.u64.wrap (y_1 * IntKind.u64.wrap (x.2.snd * 2 ^ min (IntKind.u64.wrap y).toNat 64)))).tdiv
                                  ((IntKind.u64.wrap (x.2.snd * 2 ^ min (IntKind.u64.wrap y).toNat 64)).fdiv 4294967296))))
                          fun y_2 =>
                          brn (decide (IntKind.u64.wrap y < 0)) none
                            (some
                              (IntKind.u64.wrap (IntKind.u64.wrap (y_1 * 4294967296) + y_2),
                                (IntKind.u64.wrap
                                      (IntKind.u64.wrap
                                          (IntKind.u64.wrap
                                              (IntKind.u64.wrap
                                                  (IntKind.u64.wrap
                                                      (IntKind.u64.wrap
                                                          (bitsOf BinOp.or IntKind.u64 (IntKind.u64.wrap (x.fst * 2 ^ min (IntKind.u64.wrap y).toNat 64))
                                                              (x.2.fst.fdiv (2 ^ min (IntKind.u64.wrap (64 - IntKind.u64.wrap y)).toNat 64)) *
                                                            4294967296) +
                                                        (IntKind.u64.wrap (x.2.fst * 2 ^ min (IntKind.u64.wrap y).toNat 64)).fdiv 4294967296) -
                                                    IntKind.u64.wrap (y_1 * IntKind.u64.wrap (x.2.snd * 2 ^ min (IntKind.u64.wrap y).toNat 64))) *
                                                4294967296) +
                                            bitsOf BinOp.and IntKind.u64 (IntKind.u64.wrap (x.2.fst * 2 ^ min (IntKind.u64.wrap y).toNat 64)) 4294967295) -
                                        IntKind.u64.wrap (y_2 * IntKind.u64.wrap (x.2.snd * 2 ^ min (IntKind.u64.wrap y).toNat 64)))).fdiv
                                  (2 ^ min (IntKind.u64.wrap y).toNat 64))))))))))))
def bits_Div64S : FSpec tb := ⟨[(0, .val 152), (1, .val 152), (2, .val 152)], [(0, .val 152), (1, .val 152)], bits_Div64F⟩
theorem bits_Div64_eq : ∀ x, evFn Tryz.prog tb bits_Div64G [bits_Div64_l1C, bits_Div64_l2C] Tryz.f233 bits_Div64S.ins bits_Div64S.outs x = bits_Div64S.f x := fun x => by kernel_rfl
theorem bits_Div64_k : fnK Tryz.f233 bits_Div64S.ins bits_Div64S.outs = true := by kernel_rfl
theorem bits_Div64_in : cutsOf ([bits_Div64_l1C, bits_Div64_l2C] : List (CutSpec tb)) (bodyOf Tryz.f233) = [(148, .loop (loopAt 148 Tryz.f233)), (204, .loop (loopAt 204 Tryz.f233))] := by kernel_rfl
theorem bits_Div64_sound : FnSound Tryz.prog tb 233 bits_Div64S := fn_cut mixed Tryz.func233 bits_Div64_k bits_Div64G_ok rfl bits_Div64_in (.cons rfl bits_Div64_l1_cut rfl (.cons rfl bits_Div64_l2_cut rfl .nil)) bits_Div64_eq
def dec_wide_byF (x : Wide × Int) : Option (Wide × Int) :=
  brn (decide (x.snd = 0)) none
    (brn (decide (x.snd = 0)) none
      (obnd (bits_Div64F (x.fst.hi.tmod x.snd, x.fst.lo, x.snd)) fun y => some ({ hi := IntKind.u64.wrap (x.fst.hi.tdiv x.snd), lo := y.fst, minus := x.fst.minus }, y.snd)))
def dec_wide_byS : FSpec tb := ⟨[(0, .val 154), (1, .val 152)], [(0, .val 154), (1, .val 152)], dec_wide_byF⟩
theorem dec_wide_by_eq : ∀ x, evFn Tryz.prog tb [(233, bits_Div64S)] [] Tryz.f180 dec_wide_byS.ins dec_wide_byS.outs x = dec_wide_byS.f x := fun x => by kernel_rfl
theorem dec_wide_by_k : fnK Tryz.f180 dec_wide_byS.ins dec_wide_byS.outs = true := by kernel_rfl
theorem dec_wide_by_sound : FnSound Tryz.prog tb 180 dec_wide_byS := fn_ev mixed Tryz.func180 dec_wide_by_k (.cons bits_Div64_sound .nil) rfl dec_wide_by_eq
abbrev dec_wide_decG : List (Nat × FSpec tb) := [(180, dec_wide_byS)]
theorem dec_wide_decG_ok : AllSound Tryz.prog tb dec_wide_decG := (.cons dec_wide_by_sound .nil)
def dec_wide_dec_l1F (back : Int × Wide → Option ((Int) × Wide)) (x : Int × Wide) : Option ((Int) × Wide) :=
  brn (decide (0 < x.fst)) (obnd (dec_wide_byF (x.snd, 10)) fun y => brn (!decide (y.snd = 0)) (some x) (back (IntKind.i64.wrap (x.fst - 1), y.fst))) (some x)
def dec_wide_dec_l1J : Int × Wide → Option ((Int) × Wide) := iter dec_wide_dec_l1F big
def dec_wide_dec_l1C : CutSpec tb := ⟨20, [(1, .val 3), (2, .ref 154)], [((.exit 0), [(1, .val 3)])], [8, 9, 11, 12, 10, 13, 14, 6, 7, 15, 16, 17, 18, 19, 1], dec_wide_dec_l1J⟩
theorem dec_wide_dec_l1_eq : ∀ back x, evLoop Tryz.prog tb dec_wide_decG [] (loopAt 20 Tryz.f93) dec_wide_dec_l1C.ins dec_wide_dec_l1C.outs back x = dec_wide_dec_l1F back x := fun back x => by kernel_rfl
theorem dec_wide_dec_l1_k : cutB Tryz.f93.ntmps dec_wide_dec_l1C (loopAt 20 Tryz.f93) = true := by kernel_rfl
theorem dec_wide_dec_l1_in : cutsOf ([] : List (CutSpec tb)) (loopAt 20 Tryz.f93) = [] := by kernel_rfl
theorem dec_wide_dec_l1_cut : CutSound Tryz.prog tb Tryz.f93.ntmps (.loop (loopAt 20 Tryz.f93)) dec_wide_dec_l1C := loop_it mixed dec_wide_dec_l1_k dec_wide_decG_ok rfl dec_wide_dec_l1_in .nil dec_wide_dec_l1F dec_wide_dec_l1_eq rfl
def dec_wide_decF (x : Wide × Int) : Option (Dec × Int) :=
  obnd (dec_wide_dec_l1J (x.snd, x.fst)) fun y =>
    brn (!decide (y.2.hi = 0)) (some ({ M := 0, S := 0 }, 8))
      (brn (decide (9223372036854775808 < y.2.lo)) (some ({ M := 0, S := 0 }, 8))
        (brn (decide (y.2.lo = 9223372036854775808))
          (brn (!y.2.minus) (some ({ M := 0, S := 0 }, 8))
            (brn y.2.minus (some ({ M := IntKind.i64.wrap (IntKind.u64.wrap (0 - y.2.lo)), S := y.1 }, 0)) (some ({ M := IntKind.i64.wrap y.2.lo, S := y.1 }, 0))))
          (brn y.2.minus (some ({ M := IntKind.i64.wrap (IntKind.u64.wrap (0 - y.2.lo)), S := y.1 }, 0)) (some ({ M := IntKind.i64.wrap y.2.lo, S := y.1 }, 0)))))
def dec_wide_decS : FSpec tb := ⟨[(0, .val 154), (1, .val 3)], [(0, .val 30), (1, .val 63)], dec_wide_decF⟩
theorem dec_wide_dec_eq : ∀ x, evFn Tryz.prog tb dec_wide_decG [dec_wide_dec_l1C] Tryz.f93 dec_wide_decS.ins dec_wide_decS.outs x = dec_wide_decS.f x := fun x => by kernel_rfl
theorem dec_wide_dec_k : fnK Tryz.f93 dec_wide_decS.ins dec_wide_decS.outs = true := by kernel_rfl
theorem dec_wide_dec_in : cutsOf ([dec_wide_dec_l1C] : List (CutSpec tb)) (bodyOf Tryz.f93) = [(20, .loop (loopAt 20 Tryz.f93))] := by kernel_rfl
theorem dec_wide_dec_sound : FnSound Tryz.prog tb 93 dec_wide_decS := fn_cut mixed Tryz.func93 dec_wide_dec_k dec_wide_decG_ok rfl dec_wide_dec_in (.cons rfl dec_wide_dec_l1_cut rfl .nil) dec_wide_dec_eq
def dec_AddF (x : Dec × Dec) : Option (Dec × Int) :=
  obnd (dec_scaledF x.fst) fun y => obnd (dec_scaledF x.snd) fun y_1 => obnd (dec_wide_plusF (y, y_1)) fun y => obnd (dec_wide_decF (y, 9)) fun y => some y
def dec_AddS : FSpec tb := ⟨[(0, .val 30), (1, .val 30)], [(0, .val 30), (1, .val 63)], dec_AddF⟩
theorem dec_Add_eq : ∀ x, evFn Tryz.prog tb [(89, dec_scaledS), (92, dec_wide_plusS), (93, dec_wide_decS)] [] Tryz.f87 dec_AddS.ins dec_AddS.outs x = dec_AddS.f x := fun x => by kernel_rfl
theorem dec_Add_k : fnK Tryz.f87 dec_AddS.ins dec_AddS.outs = true := by kernel_rfl
theorem dec_Add_sound : FnSound Tryz.prog tb 87 dec_AddS := fn_ev mixed Tryz.func87 dec_Add_k (.cons dec_scaled_sound (.cons dec_wide_plus_sound (.cons dec_wide_dec_sound .nil))) rfl dec_Add_eq
def dec_wide_upF (x : Wide) : Option (Wide) :=
  obnd (bits_Add64F (x.lo, 1, 0)) fun y => some { hi := IntKind.u64.wrap (x.hi + y.snd), lo := y.fst, minus := x.minus }
def dec_wide_upS : FSpec tb := ⟨[(0, .val 154)], [(0, .val 154)], dec_wide_upF⟩
theorem dec_wide_up_eq : ∀ x, evFn Tryz.prog tb [(178, bits_Add64S)] [] Tryz.f181 dec_wide_upS.ins dec_wide_upS.outs x = dec_wide_upS.f x := fun x => by kernel_rfl
theorem dec_wide_up_k : fnK Tryz.f181 dec_wide_upS.ins dec_wide_upS.outs = true := by kernel_rfl
theorem dec_wide_up_sound : FnSound Tryz.prog tb 181 dec_wide_upS := fn_ev mixed Tryz.func181 dec_wide_up_k (.consK bits_Add64_sound .nil) rfl dec_wide_up_eq
def dec_wide_roundF (x : Wide × Int) : Option (Wide) :=
  obnd (dec_wide_byF x) fun y => brn (decide (IntKind.u64.wrap (x.snd - y.snd) ≤ y.snd)) (obnd (dec_wide_upF y.fst) fun y => some y) (some y.fst)
def dec_wide_roundS : FSpec tb := ⟨[(0, .val 154), (1, .val 152)], [(0, .val 154)], dec_wide_roundF⟩
theorem dec_wide_round_eq : ∀ x, evFn Tryz.prog tb [(180, dec_wide_byS), (181, dec_wide_upS)] [] Tryz.f97 dec_wide_roundS.ins dec_wide_roundS.outs x = dec_wide_roundS.f x := fun x => by kernel_rfl
theorem dec_wide_round_k : fnK Tryz.f97 dec_wide_roundS.ins dec_wide_roundS.outs = true := by kernel_rfl
theorem dec_wide_round_sound : FnSound Tryz.prog tb 97 dec_wide_roundS := fn_ev mixed Tryz.func97 dec_wide_round_k (.cons dec_wide_by_sound (.cons dec_wide_up_sound .nil)) rfl dec_wide_round_eq
def dec_DivF (x : Dec × Dec) : Option (Dec × Int) :=
  brn (decide (x.snd.M = 0)) (some ({ M := 0, S := 0 }, 9))
    (obnd (dec_ofF x.snd.M) fun y =>
      obnd (dec_scaledF x.fst) fun y_1 =>
        obnd (dec_powerF x.snd.S) fun y_2 =>
          obnd (dec_wide_timesF (y_1, y_2)) fun y_3 =>
            obnd (dec_wide_roundF ({ hi := y_3.hi, lo := y_3.lo, minus := !decide (y_3.minus = y.minus) }, y.lo)) fun y => obnd (dec_wide_decF (y, 9)) fun y => some y)
def dec_DivS : FSpec tb := ⟨[(0, .val 30), (1, .val 30)], [(0, .val 30), (1, .val 63)], dec_DivF⟩
theorem dec_Div_eq : ∀ x, evFn Tryz.prog tb [(94, dec_ofS), (89, dec_scaledS), (96, dec_powerS), (95, dec_wide_timesS), (97, dec_wide_roundS), (93, dec_wide_decS)] [] Tryz.f36 dec_DivS.ins dec_DivS.outs x = dec_DivS.f x := fun x => by kernel_rfl
theorem dec_Div_k : fnK Tryz.f36 dec_DivS.ins dec_DivS.outs = true := by kernel_rfl
theorem dec_Div_sound : FnSound Tryz.prog tb 36 dec_DivS := fn_ev mixed Tryz.func36 dec_Div_k (.cons dec_of_sound (.cons dec_scaled_sound (.cons dec_power_sound (.cons dec_wide_times_sound (.cons dec_wide_round_sound (.cons dec_wide_dec_sound .nil)))))) rfl dec_Div_eq
def dec_SubF (x : Dec × Dec) : Option (Dec × Int) :=
  obnd (dec_scaledF x.snd) fun y =>
    obnd (dec_scaledF x.fst) fun y_1 => obnd (dec_wide_plusF (y_1, { hi := y.hi, lo := y.lo, minus := !y.minus })) fun y => obnd (dec_wide_decF (y, 9)) fun y => some y
def dec_SubS : FSpec tb := ⟨[(0, .val 30), (1, .val 30)], [(0, .val 30), (1, .val 63)], dec_SubF⟩
theorem dec_Sub_eq : ∀ x, evFn Tryz.prog tb [(89, dec_scaledS), (92, dec_wide_plusS), (93, dec_wide_decS)] [] Tryz.f35 dec_SubS.ins dec_SubS.outs x = dec_SubS.f x := fun x => by kernel_rfl
theorem dec_Sub_k : fnK Tryz.f35 dec_SubS.ins dec_SubS.outs = true := by kernel_rfl
theorem dec_Sub_sound : FnSound Tryz.prog tb 35 dec_SubS := fn_ev mixed Tryz.func35 dec_Sub_k (.cons dec_scaled_sound (.cons dec_wide_plus_sound (.cons dec_wide_dec_sound .nil))) rfl dec_Sub_eq
def dec_FloorF (x : Dec) : Option (Dec × Int) :=
  obnd (dec_powerF x.S) fun y =>
    brn (decide (IntKind.i64.wrap y = 0)) none
      (obnd (dec_powerF x.S) fun y_1 =>
        brn (decide (IntKind.i64.wrap y_1 = 0)) none
          (brn (decide (x.M.tmod (IntKind.i64.wrap y_1) < 0)) (some ({ M := IntKind.i64.wrap (IntKind.i64.wrap (x.M.tdiv (IntKind.i64.wrap y)) - 1), S := 0 }, 0))
            (some ({ M := IntKind.i64.wrap (x.M.tdiv (IntKind.i64.wrap y)), S := 0 }, 0))))
def dec_FloorS : FSpec tb := ⟨[(0, .val 30)], [(0, .val 30), (1, .val 63)], dec_FloorF⟩
theorem dec_Floor_eq : ∀ x, evFn Tryz.prog tb [(96, dec_powerS)] [] Tryz.f151 dec_FloorS.ins dec_FloorS.outs x = dec_FloorS.f x := fun x => by kernel_rfl
theorem dec_Floor_k : fnK Tryz.f151 dec_FloorS.ins dec_FloorS.outs = true := by kernel_rfl
theorem dec_Floor_sound : FnSound Tryz.prog tb 151 dec_FloorS := fn_ev mixed Tryz.func151 dec_Floor_k (.cons dec_power_sound .nil) rfl dec_Floor_eq
def dec_Norm_l1F (back : Dec → Option ((Unit) × Dec)) (x : Dec) : Option ((Unit) × Dec) :=
  brn (decide (0 < x.S)) (brn (decide (x.M.tmod 10 = 0)) (back { M := IntKind.i64.wrap (x.M.tdiv 10), S := IntKind.i64.wrap (x.S - 1) }) (some ((), x))) (some ((), x))
def dec_Norm_l1J : Dec → Option ((Unit) × Dec) := iter dec_Norm_l1F big
def dec_Norm_l1C : CutSpec tb := ⟨20, [(1, .ref 30)], [((.exit 0), [])], [3, 4, 5, 6, 7, 8, 9, 10, 11, 12, 13, 14, 15, 16, 17, 18], dec_Norm_l1J⟩
theorem dec_Norm_l1_eq : ∀ back x, evLoop Tryz.prog tb [] [] (loopAt 20 Tryz.f31) dec_Norm_l1C.ins dec_Norm_l1C.outs back x = dec_Norm_l1F back x := fun back x => by kernel_rfl
theorem dec_Norm_l1_k : cutB Tryz.f31.ntmps dec_Norm_l1C (loopAt 20 Tryz.f31) = true := by kernel_rfl
theorem dec_Norm_l1_in : cutsOf ([] : List (CutSpec tb)) (loopAt 20 Tryz.f31) = [] := by kernel_rfl
theorem dec_Norm_l1_cut : CutSound Tryz.prog tb Tryz.f31.ntmps (.loop (loopAt 20 Tryz.f31)) dec_Norm_l1C := loop_it mixed dec_Norm_l1_k .nil rfl dec_Norm_l1_in .nil dec_Norm_l1F dec_Norm_l1_eq rfl
def dec_NormF (x : Dec) : Option (Dec) :=
  obnd (dec_Norm_l1J x) fun y => some y.2
def dec_NormS : FSpec tb := ⟨[(0, .val 30)], [(0, .val 30)], dec_NormF⟩
theorem dec_Norm_eq : ∀ x, evFn Tryz.prog tb [] [dec_Norm_l1C] Tryz.f31 dec_NormS.ins dec_NormS.outs x = dec_NormS.f x := fun x => by kernel_rfl
theorem dec_Norm_k : fnK Tryz.f31 dec_NormS.ins dec_NormS.outs = true := by kernel_rfl
theorem dec_Norm_in : cutsOf ([dec_Norm_l1C] : List (CutSpec tb)) (bodyOf Tryz.f31) = [(20, .loop (loopAt 20 Tryz.f31))] := by kernel_rfl
theorem dec_Norm_sound : FnSound Tryz.prog tb 31 dec_NormS := fn_cut mixed Tryz.func31 dec_Norm_k .nil rfl dec_Norm_in (.cons rfl dec_Norm_l1_cut rfl .nil) dec_Norm_eq
def dec_RoundF (x : Dec × Int) : Option (Dec × Int) :=
  brn (decide (x.snd < -18)) (some ({ M := 0, S := 0 }, 1))
    (brn (decide (9 < x.snd)) (some ({ M := 0, S := 0 }, 1))
      (brn (decide (x.fst.S ≤ x.snd)) (some (x.fst, 0))
        (obnd (dec_ofF x.fst.M) fun y =>
          brn (decide (19 < IntKind.i64.wrap (x.fst.S - x.snd))) (some ({ M := 0, S := 0 }, 0))
            (obnd (dec_powerF (IntKind.i64.wrap (x.fst.S - x.snd))) fun y_1 =>
              obnd (dec_wide_roundF (y, y_1)) fun y =>
                brn (decide (x.snd < 0))
                  (obnd (dec_powerF (IntKind.i64.wrap (0 - x.snd))) fun y_2 => obnd (dec_wide_timesF (y, y_2)) fun y => obnd (dec_wide_decF (y, 0)) fun y => some y)
                  (obnd (dec_wide_decF (y, x.snd)) fun y => some y)))))
def dec_RoundS : FSpec tb := ⟨[(0, .val 30), (1, .val 3)], [(0, .val 30), (1, .val 63)], dec_RoundF⟩
theorem dec_Round_eq : ∀ x, evFn Tryz.prog tb [(94, dec_ofS), (96, dec_powerS), (97, dec_wide_roundS), (95, dec_wide_timesS), (93, dec_wide_decS)] [] Tryz.f153 dec_RoundS.ins dec_RoundS.outs x = dec_RoundS.f x := fun x => by kernel_rfl
theorem dec_Round_k : fnK Tryz.f153 dec_RoundS.ins dec_RoundS.outs = true := by kernel_rfl
theorem dec_Round_sound : FnSound Tryz.prog tb 153 dec_RoundS := fn_ev mixed Tryz.func153 dec_Round_k (.cons dec_of_sound (.cons dec_power_sound (.cons dec_wide_round_sound (.cons dec_wide_times_sound (.cons dec_wide_dec_sound .nil))))) rfl dec_Round_eq
def cmp_isNaN_runeF (x : Int) : Option (Bool) :=
  some (bif decide (x = x) then false else true)
def cmp_isNaN_runeS : FSpec tb := ⟨[(0, .val 21)], [(0, .val 4)], cmp_isNaN_runeF⟩
theorem cmp_isNaN_rune_eq : ∀ x, evFn Tryz.prog tb [] [] Tryz.f228 cmp_isNaN_runeS.ins cmp_isNaN_runeS.outs x = cmp_isNaN_runeS.f x := fun x => by kernel_rfl
theorem cmp_isNaN_rune_k : fnK Tryz.f228 cmp_isNaN_runeS.ins cmp_isNaN_runeS.outs = true := by kernel_rfl
theorem cmp_isNaN_rune_sound : FnSound Tryz.prog tb 228 cmp_isNaN_runeS := fn_ev mixed Tryz.func228 cmp_isNaN_rune_k .nil rfl cmp_isNaN_rune_eq
def cmp_Compare_runeF (x : Int × Int) : Option (Int) :=
  obnd (cmp_isNaN_runeF x.fst) fun y =>
    obnd (cmp_isNaN_runeF x.snd) fun y_1 =>
      brn y (brn y_1 (some 0) (some (-1))) (brn y_1 (some 1) (brn (decide (x.fst < x.snd)) (some (-1)) (brn (decide (x.snd < x.fst)) (some 1) (some 0))))
def cmp_Compare_runeS : FSpec tb := ⟨[(0, .val 21), (1, .val 21)], [(0, .val 3)], cmp_Compare_runeF⟩
theorem cmp_Compare_rune_eq : ∀ x, evFn Tryz.prog tb [(228, cmp_isNaN_runeS)] [] Tryz.f174 cmp_Compare_runeS.ins cmp_Compare_runeS.outs x = cmp_Compare_runeS.f x := fun x => by kernel_rfl
theorem cmp_Compare_rune_k : fnK Tryz.f174 cmp_Compare_runeS.ins cmp_Compare_runeS.outs = true := by kernel_rfl
theorem cmp_Compare_rune_sound : FnSound Tryz.prog tb 174 cmp_Compare_runeS := fn_ev mixed Tryz.func174 cmp_Compare_rune_k (.cons cmp_isNaN_rune_sound .nil) rfl cmp_Compare_rune_eq
def dec_MulF (x : Dec × Dec) : Option (Dec × Int) :=
  obnd (dec_ofF x.fst.M) fun y =>
    obnd (dec_ofF x.snd.M) fun y_1 =>
      obnd (bits_Mul64F (y.lo, y_1.lo)) fun y_2 =>
        brn (decide (9 < IntKind.i64.wrap (x.fst.S + x.snd.S)))
          (obnd (dec_powerF (IntKind.i64.wrap (IntKind.i64.wrap (x.fst.S + x.snd.S) - 9))) fun y_3 =>
            obnd (dec_wide_roundF ({ hi := y_2.fst, lo := y_2.snd, minus := !decide (y.minus = y_1.minus) }, y_3)) fun y => obnd (dec_wide_decF (y, 9)) fun y => some y)
          (obnd (dec_wide_decF ({ hi := y_2.fst, lo := y_2.snd, minus := !decide (y.minus = y_1.minus) }, IntKind.i64.wrap (x.fst.S + x.snd.S))) fun y => some y)
def dec_MulS : FSpec tb := ⟨[(0, .val 30), (1, .val 30)], [(0, .val 30), (1, .val 63)], dec_MulF⟩
theorem dec_Mul_eq : ∀ x, evFn Tryz.prog tb [(94, dec_ofS), (98, bits_Mul64S), (96, dec_powerS), (97, dec_wide_roundS), (93, dec_wide_decS)] [] Tryz.f37 dec_MulS.ins dec_MulS.outs x = dec_MulS.f x := fun x => by kernel_rfl
theorem dec_Mul_k : fnK Tryz.f37 dec_MulS.ins dec_MulS.outs = true := by kernel_rfl
theorem dec_Mul_sound : FnSound Tryz.prog tb 37 dec_MulS := fn_ev mixed Tryz.func37 dec_Mul_k (.cons dec_of_sound (.cons bits_Mul64_sound (.cons dec_power_sound (.cons dec_wide_round_sound (.cons dec_wide_dec_sound .nil))))) rfl dec_Mul_eq
end Go.Proofs.YtdgpkbnnljblmaaGreatDoor
