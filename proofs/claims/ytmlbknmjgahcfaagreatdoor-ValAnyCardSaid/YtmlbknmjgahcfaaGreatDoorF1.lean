/- The functions of the decimals, and of the library that these reach: what each computes, and that it does. (by gen.py) -/
import Derived.Test.YtmlbknmjgahcfaaGreatDoorU3
namespace Go.Proofs.YtmlbknmjgahcfaaGreatDoor
open Go Go.Ev
set_option linter.unusedVariables false
theorem mixed : Tryz.prog.follows .mixedOrders = true := by kernel_rfl

/-! ### istringslite_HasPrefix -/
def istringslite_HasPrefixF (x : List UInt8 × List UInt8) : Option (Bool) :=
  brn (decide ((↑x.snd.length : Int) ≤ (↑x.fst.length : Int))) (obnd (sub x.fst 0 (↑x.snd.length : Int)) fun z => some (decide (z = x.snd))) (some false)
def istringslite_HasPrefixS : FSpec tb := ⟨[(0, .val 9), (1, .val 9)], [(0, .val 4)], istringslite_HasPrefixF⟩
theorem istringslite_HasPrefix_eq : ∀ x, evFn Tryz.prog tb [] [] Tryz.f81 istringslite_HasPrefixS.ins istringslite_HasPrefixS.outs x = istringslite_HasPrefixS.f x := fun x => by kernel_rfl
theorem istringslite_HasPrefix_k : fnK Tryz.f81 istringslite_HasPrefixS.ins istringslite_HasPrefixS.outs = true := by kernel_rfl
theorem istringslite_HasPrefix_sound : FnSound Tryz.prog tb 81 istringslite_HasPrefixS := fn_ev mixed Tryz.func81 istringslite_HasPrefix_k .nil rfl istringslite_HasPrefix_eq

/-! ### istringslite_CutPrefix -/
def istringslite_CutPrefixF (x : List UInt8 × List UInt8) : Option (List UInt8 × Bool) :=
  obnd (istringslite_HasPrefixF x) fun y => brn (!y) (some (x.fst, false)) (obnd (sub x.fst (↑x.snd.length : Int) (↑x.fst.length : Int)) fun z => some (z, true))
def istringslite_CutPrefixS : FSpec tb := ⟨[(0, .val 9), (1, .val 9)], [(0, .val 9), (1, .val 4)], istringslite_CutPrefixF⟩
theorem istringslite_CutPrefix_eq : ∀ x, evFn Tryz.prog tb [(81, istringslite_HasPrefixS)] [] Tryz.f63 istringslite_CutPrefixS.ins istringslite_CutPrefixS.outs x = istringslite_CutPrefixS.f x := fun x => by kernel_rfl
theorem istringslite_CutPrefix_k : fnK Tryz.f63 istringslite_CutPrefixS.ins istringslite_CutPrefixS.outs = true := by kernel_rfl
theorem istringslite_CutPrefix_sound : FnSound Tryz.prog tb 63 istringslite_CutPrefixS := fn_ev mixed Tryz.func63 istringslite_CutPrefix_k (.cons istringslite_HasPrefix_sound .nil) rfl istringslite_CutPrefix_eq

/-! ### strings_CutPrefix -/
def strings_CutPrefixF (x : List UInt8 × List UInt8) : Option (List UInt8 × Bool) :=
  obnd (istringslite_CutPrefixF x) fun y => some y
def strings_CutPrefixS : FSpec tb := ⟨[(0, .val 9), (1, .val 9)], [(0, .val 9), (1, .val 4)], strings_CutPrefixF⟩
theorem strings_CutPrefix_eq : ∀ x, evFn Tryz.prog tb [(63, istringslite_CutPrefixS)] [] Tryz.f46 strings_CutPrefixS.ins strings_CutPrefixS.outs x = strings_CutPrefixS.f x := fun x => by kernel_rfl
theorem strings_CutPrefix_k : fnK Tryz.f46 strings_CutPrefixS.ins strings_CutPrefixS.outs = true := by kernel_rfl
theorem strings_CutPrefix_sound : FnSound Tryz.prog tb 46 strings_CutPrefixS := fn_ev mixed Tryz.func46 strings_CutPrefix_k (.cons istringslite_CutPrefix_sound .nil) rfl strings_CutPrefix_eq

/-! ### istringslite_IndexByte -/
def istringslite_IndexByteF (x : List UInt8 × UInt8) : Option (Int) :=
  obnd (bytealg_IndexByteStringF (x.fst, UInt8.ofNat (↑x.snd.toNat : Int).toNat)) fun y => some y
def istringslite_IndexByteS : FSpec tb := ⟨[(0, .val 9), (1, .val 5)], [(0, .val 3)], istringslite_IndexByteF⟩
theorem istringslite_IndexByte_eq : ∀ x, evFn Tryz.prog tb [(102, bytealg_IndexByteStringS)] [] Tryz.f91 istringslite_IndexByteS.ins istringslite_IndexByteS.outs x = istringslite_IndexByteS.f x := fun x => by kernel_rfl
theorem istringslite_IndexByte_k : fnK Tryz.f91 istringslite_IndexByteS.ins istringslite_IndexByteS.outs = true := by kernel_rfl
theorem istringslite_IndexByte_sound : FnSound Tryz.prog tb 91 istringslite_IndexByteS := fn_ev mixed Tryz.func91 istringslite_IndexByte_k (.consK bytealg_IndexByteString_sound .nil) rfl istringslite_IndexByte_eq

/-! ### istringslite_Index -/
def istringslite_IndexF (x : List UInt8 × List UInt8) : Option (Int) :=
  brn (decide ((↑x.snd.length : Int) = 0)) (some 0)
    (brn (decide (x.snd = x.fst)) (some 0)
      (brn (decide ((↑x.snd.length : Int) = 1)) (obnd (idx x.snd 0) fun y => obnd (istringslite_IndexByteF (x.fst, UInt8.ofNat (↑y.toNat : Int).toNat)) fun y => some y)
        (brn (decide ((↑x.fst.length : Int) ≤ (↑x.snd.length : Int))) (some (-1)) none)))
def istringslite_IndexS : FSpec tb := ⟨[(0, .val 9), (1, .val 9)], [(0, .val 3)], istringslite_IndexF⟩
theorem istringslite_Index_eq : ∀ x, evFn Tryz.prog tb [(91, istringslite_IndexByteS)] [] Tryz.f82 istringslite_IndexS.ins istringslite_IndexS.outs x = istringslite_IndexS.f x := fun x => by kernel_rfl
theorem istringslite_Index_k : fnK Tryz.f82 istringslite_IndexS.ins istringslite_IndexS.outs = true := by kernel_rfl
theorem istringslite_Index_sound : FnSound Tryz.prog tb 82 istringslite_IndexS := fn_ev mixed Tryz.func82 istringslite_Index_k (.cons istringslite_IndexByte_sound .nil) rfl istringslite_Index_eq

/-! ### istringslite_Cut -/
def istringslite_CutF (x : List UInt8 × List UInt8) : Option (List UInt8 × List UInt8 × Bool) :=
  obnd (istringslite_IndexF x) fun y =>
    brn (decide (0 ≤ y)) (obnd (sub x.fst 0 y) fun z => obnd (sub x.fst (IntKind.i64.wrap (y + (↑x.snd.length : Int))) (↑x.fst.length : Int)) fun z_1 => some (z, z_1, true))
      (some (x.fst, [], false))
def istringslite_CutS : FSpec tb := ⟨[(0, .val 9), (1, .val 9)], [(0, .val 9), (1, .val 9), (2, .val 4)], istringslite_CutF⟩
theorem istringslite_Cut_eq : ∀ x, evFn Tryz.prog tb [(82, istringslite_IndexS)] [] Tryz.f64 istringslite_CutS.ins istringslite_CutS.outs x = istringslite_CutS.f x := fun x => by kernel_rfl
theorem istringslite_Cut_k : fnK Tryz.f64 istringslite_CutS.ins istringslite_CutS.outs = true := by kernel_rfl
theorem istringslite_Cut_sound : FnSound Tryz.prog tb 64 istringslite_CutS := fn_ev mixed Tryz.func64 istringslite_Cut_k (.cons istringslite_Index_sound .nil) rfl istringslite_Cut_eq

/-! ### strings_Cut -/
def strings_CutF (x : List UInt8 × List UInt8) : Option (List UInt8 × List UInt8 × Bool) :=
  obnd (istringslite_CutF x) fun y => some (y.fst, y.2)
def strings_CutS : FSpec tb := ⟨[(0, .val 9), (1, .val 9)], [(0, .val 9), (1, .val 9), (2, .val 4)], strings_CutF⟩
theorem strings_Cut_eq : ∀ x, evFn Tryz.prog tb [(64, istringslite_CutS)] [] Tryz.f47 strings_CutS.ins strings_CutS.outs x = strings_CutS.f x := fun x => by kernel_rfl
theorem strings_Cut_k : fnK Tryz.f47 strings_CutS.ins strings_CutS.outs = true := by kernel_rfl
theorem strings_Cut_sound : FnSound Tryz.prog tb 47 strings_CutS := fn_ev mixed Tryz.func47 strings_Cut_k (.cons istringslite_Cut_sound .nil) rfl strings_Cut_eq

/-! ### istringslite_HasSuffix -/
def istringslite_HasSuffixF (x : List UInt8 × List UInt8) : Option (Bool) :=
  brn (decide ((↑x.snd.length : Int) ≤ (↑x.fst.length : Int)))
    (obnd (sub x.fst (IntKind.i64.wrap ((↑x.fst.length : Int) - (↑x.snd.length : Int))) (↑x.fst.length : Int)) fun z => some (decide (z = x.snd))) (some false)
def istringslite_HasSuffixS : FSpec tb := ⟨[(0, .val 9), (1, .val 9)], [(0, .val 4)], istringslite_HasSuffixF⟩
theorem istringslite_HasSuffix_eq : ∀ x, evFn Tryz.prog tb [] [] Tryz.f65 istringslite_HasSuffixS.ins istringslite_HasSuffixS.outs x = istringslite_HasSuffixS.f x := fun x => by kernel_rfl
theorem istringslite_HasSuffix_k : fnK Tryz.f65 istringslite_HasSuffixS.ins istringslite_HasSuffixS.outs = true := by kernel_rfl
theorem istringslite_HasSuffix_sound : FnSound Tryz.prog tb 65 istringslite_HasSuffixS := fn_ev mixed Tryz.func65 istringslite_HasSuffix_k .nil rfl istringslite_HasSuffix_eq

/-! ### strings_HasSuffix -/
def strings_HasSuffixF (x : List UInt8 × List UInt8) : Option (Bool) :=
  obnd (istringslite_HasSuffixF x) fun y => some y
def strings_HasSuffixS : FSpec tb := ⟨[(0, .val 9), (1, .val 9)], [(0, .val 4)], strings_HasSuffixF⟩
theorem strings_HasSuffix_eq : ∀ x, evFn Tryz.prog tb [(65, istringslite_HasSuffixS)] [] Tryz.f48 strings_HasSuffixS.ins strings_HasSuffixS.outs x = strings_HasSuffixS.f x := fun x => by kernel_rfl
theorem strings_HasSuffix_k : fnK Tryz.f48 strings_HasSuffixS.ins strings_HasSuffixS.outs = true := by kernel_rfl
theorem strings_HasSuffix_sound : FnSound Tryz.prog tb 48 strings_HasSuffixS := fn_ev mixed Tryz.func48 strings_HasSuffix_k (.cons istringslite_HasSuffix_sound .nil) rfl strings_HasSuffix_eq

/-! ### dec_Parse -/
def dec_Parse_l1F (back : Wide × Bool × Bool × ((List UInt8 × Nat)) → Option ((Bool × Bool) × (Wide × ((List UInt8 × Nat))))) (x : Wide × Bool × Bool × ((List UInt8 × Nat))) : Option ((Bool × Bool) × (Wide × ((List UInt8 × Nat)))) :=
  brn (decide (x.2.2.snd.snd < x.2.2.snd.fst.length))
    (brn (decide ((↑(rune x.2.2.snd.fst x.2.2.snd.snd).fst : Int) < 48)) (back (x.fst, true, x.2.2.fst, x.2.2.snd.fst, x.2.2.snd.snd + (rune x.2.2.snd.fst x.2.2.snd.snd).snd))
      (brn (decide (57 < (↑(rune x.2.2.snd.fst x.2.2.snd.snd).fst : Int))) (back (x.fst, true, x.2.2.fst, x.2.2.snd.fst, x.2.2.snd.snd + (rune x.2.2.snd.fst x.2.2.snd.snd).snd))
        (brn x.2.2.fst (back (x.fst, x.2.fst, true, x.2.2.snd.fst, x.2.2.snd.snd + (rune x.2.2.snd.fst x.2.2.snd.snd).snd))
          (brn (!decide (1844674407370955160 < x.fst.lo))
            (back
              ({ hi := x.fst.hi,
                  lo := IntKind.u64.wrap (IntKind.u64.wrap (x.fst.lo * 10) + IntKind.u64.wrap (IntKind.i32.wrap ((↑(rune x.2.2.snd.fst x.2.2.snd.snd).fst : Int) - 48))),
                  minus := x.fst.minus },
                x.2.fst, decide (1844674407370955160 < x.fst.lo), x.2.2.snd.fst, x.2.2.snd.snd + (rune x.2.2.snd.fst x.2.2.snd.snd).snd))
            (back (x.fst, x.2.fst, decide (1844674407370955160 < x.fst.lo), x.2.2.snd.fst, x.2.2.snd.snd + (rune x.2.2.snd.fst x.2.2.snd.snd).snd))))))
    (some ((x.2.fst, x.2.2.fst), x.fst, x.2.2.snd))
def dec_Parse_l1J : Wide × Bool × Bool × ((List UInt8 × Nat)) → Option ((Bool × Bool) × (Wide × ((List UInt8 × Nat)))) := iter dec_Parse_l1F big
def dec_Parse_l1C : CutSpec tb := ⟨68, [(9, .ref 89), (10, .val 4), (11, .val 4), (53, .iter)], [((.exit 0), [(10, .val 4), (11, .val 4)])], [54, 55, 56, 13, 57, 58, 59, 60, 61, 62, 10, 63, 64, 65, 66, 67, 68, 11, 69, 70, 71, 72, 73, 74, 75, 76, 77, 78], dec_Parse_l1J⟩
theorem dec_Parse_l1_eq : ∀ back x, evLoop Tryz.prog tb [(46, strings_CutPrefixS), (47, strings_CutS), (48, strings_HasSuffixS)] [] (loopAt 68 Tryz.f31) dec_Parse_l1C.ins dec_Parse_l1C.outs back x = dec_Parse_l1F back x := fun back x => by kernel_rfl
theorem dec_Parse_l1_k : cutB Tryz.f31.ntmps dec_Parse_l1C (loopAt 68 Tryz.f31) = true := by kernel_rfl
theorem dec_Parse_l1_in : cutsOf ([] : List (CutSpec tb)) (loopAt 68 Tryz.f31) = [] := by kernel_rfl
theorem dec_Parse_l1_cut : CutSound Tryz.prog tb Tryz.f31.ntmps (.loop (loopAt 68 Tryz.f31)) dec_Parse_l1C := loop_it mixed dec_Parse_l1_k (.cons strings_CutPrefix_sound (.cons strings_Cut_sound (.cons strings_HasSuffix_sound .nil))) rfl dec_Parse_l1_in .nil dec_Parse_l1F dec_Parse_l1_eq rfl
def dec_Parse_b2J (x : Dec × Bool × List UInt8 × Wide × Bool × Bool) : Option (((Unit) × Dec) ⊕ ((Int) × Dec)) :=
  brn x.2.2.2.2.fst (some (Sum.inr (2, { M := 0, S := 0 })))
    (brn x.2.2.2.2.snd (some (Sum.inr (8, { M := 0, S := 0 })))
      (brn (decide (9223372036854775808 < x.2.2.2.fst.lo)) (some (Sum.inr (8, { M := 0, S := 0 })))
        (brn (decide (x.2.2.2.fst.lo = 9223372036854775808))
          (brn (!x.2.fst) (some (Sum.inr (8, { M := 0, S := 0 })))
            (brn (decide (9 < (↑x.2.2.fst.length : Int))) (some (Sum.inr (1, { M := 0, S := 0 })))
              (obnd (strings_HasSuffixF (x.2.2.fst, [48])) fun y =>
                brn y (some (Sum.inr (1, { M := 0, S := 0 })))
                  (brn x.2.fst (some (Sum.inr (0, { M := IntKind.i64.wrap (IntKind.u64.wrap (0 - x.2.2.2.fst.lo)), S := (↑x.2.2.fst.length : Int) })))
                    (some (Sum.inl ((), x.fst)))))))
          (brn (decide (9 < (↑x.2.2.fst.length : Int))) (some (Sum.inr (1, { M := 0, S := 0 })))
            (obnd (strings_HasSuffixF (x.2.2.fst, [48])) fun y =>
              brn y (some (Sum.inr (1, { M := 0, S := 0 })))
                (brn x.2.fst (some (Sum.inr (0, { M := IntKind.i64.wrap (IntKind.u64.wrap (0 - x.2.2.2.fst.lo)), S := (↑x.2.2.fst.length : Int) })))
                  (some (Sum.inl ((), x.fst)))))))))
def dec_Parse_b2C : CutSpec tb := ⟨123, [(2, .ref 23), (5, .val 4), (7, .val 9), (9, .ro 89), (10, .val 4), (11, .val 4)], [(.normal, []), (.ret, [(3, .val 31)])], [80, 79, 81, 3, 83, 84, 85, 86, 87, 88, 89, 90, 91, 92, 93, 94, 95, 96, 97, 82, 98, 100, 101, 102, 103, 104, 105, 106, 99, 107, 109, 108, 110, 111, 112, 113, 114, 115, 116], dec_Parse_b2J⟩
theorem dec_Parse_b2_eq : ∀ x, evBlk Tryz.prog tb [(46, strings_CutPrefixS), (47, strings_CutS), (48, strings_HasSuffixS)] [] (codeAt 123 Tryz.f31) dec_Parse_b2C.ins dec_Parse_b2C.outs x = dec_Parse_b2C.J x := fun x => by kernel_rfl
theorem dec_Parse_b2_k : cutB Tryz.f31.ntmps dec_Parse_b2C (codeAt 123 Tryz.f31) = true := by kernel_rfl
theorem dec_Parse_b2_in : cutsOf ([] : List (CutSpec tb)) (codeAt 123 Tryz.f31) = [] := by kernel_rfl
theorem dec_Parse_b2_cut : CutSound Tryz.prog tb Tryz.f31.ntmps (codeAt 123 Tryz.f31) dec_Parse_b2C := blk_ev mixed dec_Parse_b2_k (.cons strings_CutPrefix_sound (.cons strings_Cut_sound (.cons strings_HasSuffix_sound .nil))) rfl dec_Parse_b2_in .nil dec_Parse_b2_eq
def dec_ParseF (x : List UInt8) : Option (Dec × Int) :=
  obnd (strings_CutPrefixF (x, [45])) fun y =>
    obnd (strings_CutF (y.fst, [46])) fun y_1 =>
      brn (decide (y_1.fst = []))
        (obnd (cat y_1.fst y_1.2.fst) fun z =>
          obnd (dec_Parse_l1J ({ hi := 0, lo := 0, minus := y.snd }, true, false, z, 0)) fun y_2 =>
            obnd (dec_Parse_b2J ({ M := 0, S := 0 }, y.snd, y_1.2.fst, y_2.2.fst, y_2.1)) fun y =>
              osum y (fun y => some ({ M := IntKind.i64.wrap y_2.2.fst.lo, S := (↑(List.length y_1.2.fst) : Int) }, 0)) fun y => some (y.2, y.1))
        (brn y_1.2.snd
          (brn (decide (y_1.2.fst = []))
            (obnd (cat y_1.fst y_1.2.fst) fun z =>
              obnd (dec_Parse_l1J ({ hi := 0, lo := 0, minus := y.snd }, true, false, z, 0)) fun y_2 =>
                obnd (dec_Parse_b2J ({ M := 0, S := 0 }, y.snd, y_1.2.fst, y_2.2.fst, y_2.1)) fun y =>
                  osum y (fun y => some ({ M := IntKind.i64.wrap y_2.2.fst.lo, S := (↑(List.length y_1.2.fst) : Int) }, 0)) fun y => some (y.2, y.1))
            (brn (decide (1 < (↑(List.length y_1.fst) : Int)))
              (obnd (idx y_1.fst 0) fun y_2 =>
                brn (decide ((↑y_2.toNat : Int) = 48))
                  (obnd (cat y_1.fst y_1.2.fst) fun z =>
                    obnd (dec_Parse_l1J ({ hi := 0, lo := 0, minus := y.snd }, true, false, z, 0)) fun y_3 =>
                      obnd (dec_Parse_b2J ({ M := 0, S := 0 }, y.snd, y_1.2.fst, y_3.2.fst, y_3.1)) fun y =>
                        osum y (fun y => some ({ M := IntKind.i64.wrap y_3.2.fst.lo, S := (↑(List.length y_1.2.fst) : Int) }, 0)) fun y => some (y.2, y.1))
                  (obnd (cat y_1.fst y_1.2.fst) fun z =>
                    obnd (dec_Parse_l1J ({ hi := 0, lo := 0, minus := y.snd }, decide (x = [45, 48]), false, z, 0)) fun y_3 =>
                      obnd (dec_Parse_b2J ({ M := 0, S := 0 }, y.snd, y_1.2.fst, y_3.2.fst, y_3.1)) fun y =>
                        osum y (fun y => some ({ M := IntKind.i64.wrap y_3.2.fst.lo, S := (↑(List.length y_1.2.fst) : Int) }, 0)) fun y => some (y.2, y.1)))
              (obnd (cat y_1.fst y_1.2.fst) fun z =>
                obnd (dec_Parse_l1J ({ hi := 0, lo := 0, minus := y.snd }, decide (x = [45, 48]), false, z, 0)) fun y_2 =>
                  obnd (dec_Parse_b2J ({ M := 0, S := 0 }, y.snd, y_1.2.fst, y_2.2.fst, y_2.1)) fun y =>
                    osum y (fun y => some ({ M := IntKind.i64.wrap y_2.2.fst.lo, S := (↑(List.length y_1.2.fst) : Int) }, 0)) fun y => some (y.2, y.1))))
          (brn (decide (1 < (↑(List.length y_1.fst) : Int)))
            (obnd (idx y_1.fst 0) fun y_2 =>
              brn (decide ((↑y_2.toNat : Int) = 48))
                (obnd (cat y_1.fst y_1.2.fst) fun z =>
                  obnd (dec_Parse_l1J ({ hi := 0, lo := 0, minus := y.snd }, true, false, z, 0)) fun y_3 =>
                    obnd (dec_Parse_b2J ({ M := 0, S := 0 }, y.snd, y_1.2.fst, y_3.2.fst, y_3.1)) fun y =>
                      osum y (fun y => some ({ M := IntKind.i64.wrap y_3.2.fst.lo, S := (↑(List.length y_1.2.fst) : Int) }, 0)) fun y => some (y.2, y.1))
                (obnd (cat y_1.fst y_1.2.fst) fun z =>
                  obnd (dec_Parse_l1J ({ hi := 0, lo := 0, minus := y.snd }, decide (x = [45, 48]), false, z, 0)) fun y_3 =>
                    obnd (dec_Parse_b2J ({ M := 0, S := 0 }, y.snd, y_1.2.fst, y_3.2.fst, y_3.1)) fun y =>
                      osum y (fun y => some ({ M := IntKind.i64.wrap y_3.2.fst.lo, S := (↑(List.length y_1.2.fst) : Int) }, 0)) fun y => some (y.2, y.1)))
            (obnd (cat y_1.fst y_1.2.fst) fun z =>
              obnd (dec_Parse_l1J ({ hi := 0, lo := 0, minus := y.snd }, decide (x = [45, 48]), false, z, 0)) fun y_2 =>
                obnd (dec_Parse_b2J ({ M := 0, S := 0 }, y.snd, y_1.2.fst, y_2.2.fst, y_2.1)) fun y =>
                  osum y (fun y => some ({ M := IntKind.i64.wrap y_2.2.fst.lo, S := (↑(List.length y_1.2.fst) : Int) }, 0)) fun y => some (y.2, y.1))))
def dec_ParseS : FSpec tb := ⟨[(0, .val 9)], [(0, .val 23), (1, .val 31)], dec_ParseF⟩
theorem dec_Parse_eq : ∀ x, evFn Tryz.prog tb [(46, strings_CutPrefixS), (47, strings_CutS), (48, strings_HasSuffixS)] [dec_Parse_l1C, dec_Parse_b2C] Tryz.f31 dec_ParseS.ins dec_ParseS.outs x = dec_ParseS.f x := fun x => by kernel_rfl
theorem dec_Parse_k : fnK Tryz.f31 dec_ParseS.ins dec_ParseS.outs = true := by kernel_rfl
theorem dec_Parse_in : cutsOf ([dec_Parse_l1C, dec_Parse_b2C] : List (CutSpec tb)) (bodyOf Tryz.f31) = [(68, .loop (loopAt 68 Tryz.f31)), (123, codeAt 123 Tryz.f31)] := by kernel_rfl
theorem dec_Parse_sound : FnSound Tryz.prog tb 31 dec_ParseS := fn_cut mixed Tryz.func31 dec_Parse_k (.cons strings_CutPrefix_sound (.cons strings_Cut_sound (.cons strings_HasSuffix_sound .nil))) rfl dec_Parse_in (.cons rfl dec_Parse_l1_cut rfl (.cons rfl dec_Parse_b2_cut rfl .nil)) dec_Parse_eq

/-! ### dec_Int -/
def dec_IntF (x : Int) : Option (Dec) :=
  some { M := x, S := 0 }
def dec_IntS : FSpec tb := ⟨[(0, .val 2)], [(0, .val 23)], dec_IntF⟩
theorem dec_Int_eq : ∀ x, evFn Tryz.prog tb [] [] Tryz.f22 dec_IntS.ins dec_IntS.outs x = dec_IntS.f x := fun x => by kernel_rfl
theorem dec_Int_k : fnK Tryz.f22 dec_IntS.ins dec_IntS.outs = true := by kernel_rfl
theorem dec_Int_sound : FnSound Tryz.prog tb 22 dec_IntS := fn_ev mixed Tryz.func22 dec_Int_k .nil rfl dec_Int_eq

/-! ### dec_of -/
def dec_ofF (x : Int) : Option (Wide) :=
  brn (decide (x < 0)) (some { hi := 0, lo := IntKind.u64.wrap (0 - IntKind.u64.wrap x), minus := true }) (some { hi := 0, lo := IntKind.u64.wrap x, minus := false })
def dec_ofS : FSpec tb := ⟨[(0, .val 2)], [(0, .val 89)], dec_ofF⟩
theorem dec_of_eq : ∀ x, evFn Tryz.prog tb [] [] Tryz.f51 dec_ofS.ins dec_ofS.outs x = dec_ofS.f x := fun x => by kernel_rfl
theorem dec_of_k : fnK Tryz.f51 dec_ofS.ins dec_ofS.outs = true := by kernel_rfl
theorem dec_of_sound : FnSound Tryz.prog tb 51 dec_ofS := fn_ev mixed Tryz.func51 dec_of_k .nil rfl dec_of_eq

/-! ### strconv_FormatUint -/
def strconv_FormatUintF (x : Int × Int) : Option (List UInt8) :=
  obnd (istrconv_FormatUintF x) fun y => some y
def strconv_FormatUintS : FSpec tb := ⟨[(0, .val 87), (1, .val 3)], [(0, .val 9)], strconv_FormatUintF⟩
theorem strconv_FormatUint_eq : ∀ x, evFn Tryz.prog tb [(66, istrconv_FormatUintS)] [] Tryz.f52 strconv_FormatUintS.ins strconv_FormatUintS.outs x = strconv_FormatUintS.f x := fun x => by kernel_rfl
theorem strconv_FormatUint_k : fnK Tryz.f52 strconv_FormatUintS.ins strconv_FormatUintS.outs = true := by kernel_rfl
theorem strconv_FormatUint_sound : FnSound Tryz.prog tb 52 strconv_FormatUintS := fn_ev mixed Tryz.func52 strconv_FormatUint_k (.cons istrconv_FormatUint_sound .nil) rfl strconv_FormatUint_eq

/-! ### dec_Text -/
def dec_TextF (x : Dec) : Option (List UInt8) :=
  obnd (dec_ofF x.M) fun y =>
    obnd (strconv_FormatUintF (y.lo, 10)) fun y_1 =>
      brn (decide (0 < x.S))
        (obnd
          (strings_RepeatF
            ([48],
              bif decide (IntKind.i64.wrap (IntKind.i64.wrap (x.S + 1) - (↑(List.length y_1) : Int)) < 0) then 0
              else IntKind.i64.wrap (IntKind.i64.wrap (x.S + 1) - (↑(List.length y_1) : Int))))
          fun y_2 =>
          obnd (cat y_2 y_1) fun z =>
            obnd (sub z 0 (IntKind.i64.wrap ((↑z.length : Int) - x.S))) fun z_1 =>
              obnd (cat z_1 [46]) fun z_2 =>
                obnd (sub z (IntKind.i64.wrap ((↑z.length : Int) - x.S)) (↑z.length : Int)) fun z =>
                  obnd (cat z_2 z) fun z => brn y.minus (obnd (cat [45] z) fun z => some z) (some z))
        (brn y.minus (obnd (cat [45] y_1) fun z => some z) (some y_1))
def dec_TextS : FSpec tb := ⟨[(0, .val 23)], [(0, .val 9)], dec_TextF⟩
theorem dec_Text_eq : ∀ x, evFn Tryz.prog tb [(51, dec_ofS), (52, strconv_FormatUintS), (53, strings_RepeatS)] [] Tryz.f34 dec_TextS.ins dec_TextS.outs x = dec_TextS.f x := fun x => by kernel_rfl
theorem dec_Text_k : fnK Tryz.f34 dec_TextS.ins dec_TextS.outs = true := by kernel_rfl
theorem dec_Text_sound : FnSound Tryz.prog tb 34 dec_TextS := fn_ev mixed Tryz.func34 dec_Text_k (.cons dec_of_sound (.cons strconv_FormatUint_sound (.cons strings_Repeat_sound .nil))) rfl dec_Text_eq

/-! ### cmp_isNaN_int -/
def cmp_isNaN_intF (x : Int) : Option (Bool) :=
  some (bif decide (x = x) then false else true)
def cmp_isNaN_intS : FSpec tb := ⟨[(0, .val 3)], [(0, .val 4)], cmp_isNaN_intF⟩
theorem cmp_isNaN_int_eq : ∀ x, evFn Tryz.prog tb [] [] Tryz.f55 cmp_isNaN_intS.ins cmp_isNaN_intS.outs x = cmp_isNaN_intS.f x := fun x => by kernel_rfl
theorem cmp_isNaN_int_k : fnK Tryz.f55 cmp_isNaN_intS.ins cmp_isNaN_intS.outs = true := by kernel_rfl
theorem cmp_isNaN_int_sound : FnSound Tryz.prog tb 55 cmp_isNaN_intS := fn_ev mixed Tryz.func55 cmp_isNaN_int_k .nil rfl cmp_isNaN_int_eq

/-! ### cmp_Compare_int -/
def cmp_Compare_intF (x : Int × Int) : Option (Int) :=
  obnd (cmp_isNaN_intF x.fst) fun y =>
    obnd (cmp_isNaN_intF x.snd) fun y_1 =>
      brn y (brn y_1 (some 0) (some (-1))) (brn y_1 (some 1) (brn (decide (x.fst < x.snd)) (some (-1)) (brn (decide (x.snd < x.fst)) (some 1) (some 0))))
def cmp_Compare_intS : FSpec tb := ⟨[(0, .val 3), (1, .val 3)], [(0, .val 3)], cmp_Compare_intF⟩
theorem cmp_Compare_int_eq : ∀ x, evFn Tryz.prog tb [(55, cmp_isNaN_intS)] [] Tryz.f36 cmp_Compare_intS.ins cmp_Compare_intS.outs x = cmp_Compare_intS.f x := fun x => by kernel_rfl
theorem cmp_Compare_int_k : fnK Tryz.f36 cmp_Compare_intS.ins cmp_Compare_intS.outs = true := by kernel_rfl
theorem cmp_Compare_int_sound : FnSound Tryz.prog tb 36 cmp_Compare_intS := fn_ev mixed Tryz.func36 cmp_Compare_int_k (.cons cmp_isNaN_int_sound .nil) rfl cmp_Compare_int_eq

/-! ### dec_power -/
def dec_power_l1F (back : Int × Int × Int → Option (Int)) (x : Int × Int × Int) : Option (Int) :=
  brn (decide (x.2.snd < x.2.fst)) (back (IntKind.u64.wrap (x.fst * 10), x.2.fst, IntKind.i64.wrap (x.2.snd + 1))) (some x.1)
def dec_power_l1J : Int × Int × Int → Option (Int) := iter dec_power_l1F big
def dec_power_l1C : CutSpec tb := ⟨36, [(3, .val 87), (4, .val 3), (5, .val 3)], [((.exit 0), [(3, .val 87)])], [6, 7, 8, 3, 9, 5], dec_power_l1J⟩
theorem dec_power_l1_eq : ∀ back x, evLoop Tryz.prog tb [] [] (loopAt 36 Tryz.f74) dec_power_l1C.ins dec_power_l1C.outs back x = dec_power_l1F back x := fun back x => by kernel_rfl
theorem dec_power_l1_k : cutB Tryz.f74.ntmps dec_power_l1C (loopAt 36 Tryz.f74) = true := by kernel_rfl
theorem dec_power_l1_in : cutsOf ([] : List (CutSpec tb)) (loopAt 36 Tryz.f74) = [] := by kernel_rfl
theorem dec_power_l1_cut : CutSound Tryz.prog tb Tryz.f74.ntmps (.loop (loopAt 36 Tryz.f74)) dec_power_l1C := loop_it mixed dec_power_l1_k .nil rfl dec_power_l1_in .nil dec_power_l1F dec_power_l1_eq rfl
def dec_powerF (x : Int) : Option (Int) :=
  obnd (dec_power_l1J (1, x, 0)) fun y => some y
def dec_powerS : FSpec tb := ⟨[(0, .val 3)], [(0, .val 87)], dec_powerF⟩
theorem dec_power_eq : ∀ x, evFn Tryz.prog tb [] [dec_power_l1C] Tryz.f74 dec_powerS.ins dec_powerS.outs x = dec_powerS.f x := fun x => by kernel_rfl
theorem dec_power_k : fnK Tryz.f74 dec_powerS.ins dec_powerS.outs = true := by kernel_rfl
theorem dec_power_in : cutsOf ([dec_power_l1C] : List (CutSpec tb)) (bodyOf Tryz.f74) = [(36, .loop (loopAt 36 Tryz.f74))] := by kernel_rfl
theorem dec_power_sound : FnSound Tryz.prog tb 74 dec_powerS := fn_cut mixed Tryz.func74 dec_power_k .nil rfl dec_power_in (.cons rfl dec_power_l1_cut rfl .nil) dec_power_eq

/-! ### bits_Mul64 -/
def bits_Mul64F (x : Int × Int) : Option (Int × Int) :=
  some
    (IntKind.u64.wrap
        (IntKind.u64.wrap
            (IntKind.u64.wrap (x.fst.fdiv 4294967296 * x.snd.fdiv 4294967296) +
              (IntKind.u64.wrap
                    (IntKind.u64.wrap (x.fst.fdiv 4294967296 * bitsOf BinOp.and IntKind.u64 x.snd 4294967295) +
                      (IntKind.u64.wrap (bitsOf BinOp.and IntKind.u64 x.fst 4294967295 * bitsOf BinOp.and IntKind.u64 x.snd 4294967295)).fdiv 4294967296)).fdiv
                4294967296) +
          (IntKind.u64.wrap
                (bitsOf BinOp.and IntKind.u64
                    (IntKind.u64.wrap
                      (IntKind.u64.wrap (x.fst.fdiv 4294967296 * bitsOf BinOp.and IntKind.u64 x.snd 4294967295) +
                        (IntKind.u64.wrap (bitsOf BinOp.and IntKind.u64 x.fst 4294967295 * bitsOf BinOp.and IntKind.u64 x.snd 4294967295)).fdiv 4294967296))
                    4294967295 +
                  IntKind.u64.wrap (bitsOf BinOp.and IntKind.u64 x.fst 4294967295 * x.snd.fdiv 4294967296))).fdiv
            4294967296),
      IntKind.u64.wrap (x.fst * x.snd))
def bits_Mul64S : FSpec tb := ⟨[(0, .val 87), (1, .val 87)], [(0, .val 87), (1, .val 87)], bits_Mul64F⟩
theorem bits_Mul64_eq : ∀ x, evFn Tryz.prog tb [] [] Tryz.f88 bits_Mul64S.ins bits_Mul64S.outs x = bits_Mul64S.f x := fun x => by kernel_rfl
theorem bits_Mul64_k : fnK Tryz.f88 bits_Mul64S.ins bits_Mul64S.outs = true := by kernel_rfl
theorem bits_Mul64_sound : FnSound Tryz.prog tb 88 bits_Mul64S := fn_ev mixed Tryz.func88 bits_Mul64_k .nil rfl bits_Mul64_eq

/-! ### dec_wide_times -/
def dec_wide_timesF (x : Wide × Int) : Option (Wide) :=
  obnd (bits_Mul64F (x.fst.lo, x.snd)) fun y => some { hi := IntKind.u64.wrap (IntKind.u64.wrap (x.fst.hi * x.snd) + y.fst), lo := y.snd, minus := x.fst.minus }
def dec_wide_timesS : FSpec tb := ⟨[(0, .val 89), (1, .val 87)], [(0, .val 89)], dec_wide_timesF⟩
theorem dec_wide_times_eq : ∀ x, evFn Tryz.prog tb [(88, bits_Mul64S)] [] Tryz.f73 dec_wide_timesS.ins dec_wide_timesS.outs x = dec_wide_timesS.f x := fun x => by kernel_rfl
theorem dec_wide_times_k : fnK Tryz.f73 dec_wide_timesS.ins dec_wide_timesS.outs = true := by kernel_rfl
theorem dec_wide_times_sound : FnSound Tryz.prog tb 73 dec_wide_timesS := fn_ev mixed Tryz.func73 dec_wide_times_k (.cons bits_Mul64_sound .nil) rfl dec_wide_times_eq

/-! ### dec_scaled -/
def dec_scaledF (x : Dec) : Option (Wide) :=
  obnd (dec_ofF x.M) fun y => obnd (dec_powerF (IntKind.i64.wrap (9 - x.S))) fun y_1 => obnd (dec_wide_timesF (y, y_1)) fun y => some y
def dec_scaledS : FSpec tb := ⟨[(0, .val 23)], [(0, .val 89)], dec_scaledF⟩
theorem dec_scaled_eq : ∀ x, evFn Tryz.prog tb [(51, dec_ofS), (74, dec_powerS), (73, dec_wide_timesS)] [] Tryz.f56 dec_scaledS.ins dec_scaledS.outs x = dec_scaledS.f x := fun x => by kernel_rfl
theorem dec_scaled_k : fnK Tryz.f56 dec_scaledS.ins dec_scaledS.outs = true := by kernel_rfl
theorem dec_scaled_sound : FnSound Tryz.prog tb 56 dec_scaledS := fn_ev mixed Tryz.func56 dec_scaled_k (.cons dec_of_sound (.cons dec_power_sound (.cons dec_wide_times_sound .nil))) rfl dec_scaled_eq

/-! ### cmp_isNaN_int64 -/
def cmp_isNaN_int64F (x : Int) : Option (Bool) :=
  some (bif decide (x = x) then false else true)
def cmp_isNaN_int64S : FSpec tb := ⟨[(0, .val 2)], [(0, .val 4)], cmp_isNaN_int64F⟩
theorem cmp_isNaN_int64_eq : ∀ x, evFn Tryz.prog tb [] [] Tryz.f75 cmp_isNaN_int64S.ins cmp_isNaN_int64S.outs x = cmp_isNaN_int64S.f x := fun x => by kernel_rfl
theorem cmp_isNaN_int64_k : fnK Tryz.f75 cmp_isNaN_int64S.ins cmp_isNaN_int64S.outs = true := by kernel_rfl
theorem cmp_isNaN_int64_sound : FnSound Tryz.prog tb 75 cmp_isNaN_int64S := fn_ev mixed Tryz.func75 cmp_isNaN_int64_k .nil rfl cmp_isNaN_int64_eq

/-! ### cmp_Compare_int64 -/
def cmp_Compare_int64F (x : Int × Int) : Option (Int) :=
  obnd (cmp_isNaN_int64F x.fst) fun y =>
    obnd (cmp_isNaN_int64F x.snd) fun y_1 =>
      brn y (brn y_1 (some 0) (some (-1))) (brn y_1 (some 1) (brn (decide (x.fst < x.snd)) (some (-1)) (brn (decide (x.snd < x.fst)) (some 1) (some 0))))
def cmp_Compare_int64S : FSpec tb := ⟨[(0, .val 2), (1, .val 2)], [(0, .val 3)], cmp_Compare_int64F⟩
theorem cmp_Compare_int64_eq : ∀ x, evFn Tryz.prog tb [(75, cmp_isNaN_int64S)] [] Tryz.f57 cmp_Compare_int64S.ins cmp_Compare_int64S.outs x = cmp_Compare_int64S.f x := fun x => by kernel_rfl
theorem cmp_Compare_int64_k : fnK Tryz.f57 cmp_Compare_int64S.ins cmp_Compare_int64S.outs = true := by kernel_rfl
theorem cmp_Compare_int64_sound : FnSound Tryz.prog tb 57 cmp_Compare_int64S := fn_ev mixed Tryz.func57 cmp_Compare_int64_k (.cons cmp_isNaN_int64_sound .nil) rfl cmp_Compare_int64_eq

/-! ### dec_wide_less -/
def dec_wide_lessF (x : Wide × Wide) : Option (Bool) :=
  brn (decide (x.fst.hi < x.snd.hi)) (some true) (brn (decide (x.fst.hi = x.snd.hi)) (some (decide (x.fst.lo < x.snd.lo))) (some false))
def dec_wide_lessS : FSpec tb := ⟨[(0, .val 89), (1, .val 89)], [(0, .val 4)], dec_wide_lessF⟩
theorem dec_wide_less_eq : ∀ x, evFn Tryz.prog tb [] [] Tryz.f58 dec_wide_lessS.ins dec_wide_lessS.outs x = dec_wide_lessS.f x := fun x => by kernel_rfl
theorem dec_wide_less_k : fnK Tryz.f58 dec_wide_lessS.ins dec_wide_lessS.outs = true := by kernel_rfl
theorem dec_wide_less_sound : FnSound Tryz.prog tb 58 dec_wide_lessS := fn_ev mixed Tryz.func58 dec_wide_less_k .nil rfl dec_wide_less_eq

/-! ### dec_Compare -/
def dec_CompareF (x : Dec × Dec) : Option (Int) :=
  obnd (dec_scaledF x.fst) fun y =>
    obnd (dec_scaledF x.snd) fun y_1 =>
      brn (!decide (y.minus = y_1.minus))
        (obnd (cmp_Compare_int64F (x.fst.M, 0)) fun y => obnd (cmp_Compare_int64F (x.snd.M, 0)) fun y_2 => obnd (cmp_Compare_intF (y, y_2)) fun y => some y)
        (brn y.minus (obnd (dec_wide_lessF (y, y_1)) fun y_2 => brn y_2 (some 1) (obnd (dec_wide_lessF (y_1, y)) fun y => brn y (some (-1)) (some 0)))
          (obnd (dec_wide_lessF (y, y_1)) fun y_2 => brn y_2 (some (-1)) (obnd (dec_wide_lessF (y_1, y)) fun y => brn y (some 1) (some 0))))
def dec_CompareS : FSpec tb := ⟨[(0, .val 23), (1, .val 23)], [(0, .val 3)], dec_CompareF⟩
theorem dec_Compare_eq : ∀ x, evFn Tryz.prog tb [(56, dec_scaledS), (57, cmp_Compare_int64S), (36, cmp_Compare_intS), (58, dec_wide_lessS)] [] Tryz.f37 dec_CompareS.ins dec_CompareS.outs x = dec_CompareS.f x := fun x => by kernel_rfl
theorem dec_Compare_k : fnK Tryz.f37 dec_CompareS.ins dec_CompareS.outs = true := by kernel_rfl
theorem dec_Compare_sound : FnSound Tryz.prog tb 37 dec_CompareS := fn_ev mixed Tryz.func37 dec_Compare_k (.cons dec_scaled_sound (.cons cmp_Compare_int64_sound (.cons cmp_Compare_int_sound (.cons dec_wide_less_sound .nil)))) rfl dec_Compare_eq

/-! ### cmp_isNaN_rune -/
def cmp_isNaN_runeF (x : Int) : Option (Bool) :=
  some (bif decide (x = x) then false else true)
def cmp_isNaN_runeS : FSpec tb := ⟨[(0, .val 21)], [(0, .val 4)], cmp_isNaN_runeF⟩
theorem cmp_isNaN_rune_eq : ∀ x, evFn Tryz.prog tb [] [] Tryz.f76 cmp_isNaN_runeS.ins cmp_isNaN_runeS.outs x = cmp_isNaN_runeS.f x := fun x => by kernel_rfl
theorem cmp_isNaN_rune_k : fnK Tryz.f76 cmp_isNaN_runeS.ins cmp_isNaN_runeS.outs = true := by kernel_rfl
theorem cmp_isNaN_rune_sound : FnSound Tryz.prog tb 76 cmp_isNaN_runeS := fn_ev mixed Tryz.func76 cmp_isNaN_rune_k .nil rfl cmp_isNaN_rune_eq

/-! ### cmp_Compare_rune -/
def cmp_Compare_runeF (x : Int × Int) : Option (Int) :=
  obnd (cmp_isNaN_runeF x.fst) fun y =>
    obnd (cmp_isNaN_runeF x.snd) fun y_1 =>
      brn y (brn y_1 (some 0) (some (-1))) (brn y_1 (some 1) (brn (decide (x.fst < x.snd)) (some (-1)) (brn (decide (x.snd < x.fst)) (some 1) (some 0))))
def cmp_Compare_runeS : FSpec tb := ⟨[(0, .val 21), (1, .val 21)], [(0, .val 3)], cmp_Compare_runeF⟩
theorem cmp_Compare_rune_eq : ∀ x, evFn Tryz.prog tb [(76, cmp_isNaN_runeS)] [] Tryz.f59 cmp_Compare_runeS.ins cmp_Compare_runeS.outs x = cmp_Compare_runeS.f x := fun x => by kernel_rfl
theorem cmp_Compare_rune_k : fnK Tryz.f59 cmp_Compare_runeS.ins cmp_Compare_runeS.outs = true := by kernel_rfl
theorem cmp_Compare_rune_sound : FnSound Tryz.prog tb 59 cmp_Compare_runeS := fn_ev mixed Tryz.func59 cmp_Compare_rune_k (.cons cmp_isNaN_rune_sound .nil) rfl cmp_Compare_rune_eq

/-! ### dec_Check -/
def dec_CheckF (x : Dec) : Option (Int) :=
  brn (decide (x.S < 0)) (some 1) (brn (decide (9 < x.S)) (some 1) (brn (decide (0 < x.S)) (brn (decide (x.M.tmod 10 = 0)) (some 1) (some 0)) (some 0)))
def dec_CheckS : FSpec tb := ⟨[(0, .val 23)], [(0, .val 31)], dec_CheckF⟩
theorem dec_Check_eq : ∀ x, evFn Tryz.prog tb [] [] Tryz.f25 dec_CheckS.ins dec_CheckS.outs x = dec_CheckS.f x := fun x => by kernel_rfl
theorem dec_Check_k : fnK Tryz.f25 dec_CheckS.ins dec_CheckS.outs = true := by kernel_rfl
theorem dec_Check_sound : FnSound Tryz.prog tb 25 dec_CheckS := fn_ev mixed Tryz.func25 dec_Check_k .nil rfl dec_Check_eq
end Go.Proofs.YtmlbknmjgahcfaaGreatDoor
