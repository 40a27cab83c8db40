/- B1 -/
import Derived.Test.YtdgpkbnnljblmaaGreatDoorW2
namespace Go.Proofs.YtdgpkbnnljblmaaGreatDoor
open Go Go.Ev
set_option linter.unusedVariables false
def strings_Builder_WriteStringF (x : List (UInt8) × Unit × List UInt8) : Option ((List (UInt8) × Int × Unit) × Unit) :=
  obnd (bld_copyCheckF (x.fst, ())) fun y => obnd (app 1 y.1 x.2.snd) fun zs => some ((zs, (↑x.2.snd.length : Int), ()), ())
def strings_Builder_WriteStringS : FSpec tb := ⟨[(8589934592, .own 5), (0, .box 229638146), (1, .val 9)], [(8589967360, .own 5), (0, .val 3), (1, .val 222)], strings_Builder_WriteStringF⟩
theorem strings_Builder_WriteString_eq : ∀ x, evFn Tryz.prog tb [(218, bld_copyCheckS)] [] Tryz.f143 strings_Builder_WriteStringS.ins strings_Builder_WriteStringS.outs x = strings_Builder_WriteStringS.f x := fun x => by kernel_rfl
theorem strings_Builder_WriteString_k : fnK Tryz.f143 strings_Builder_WriteStringS.ins strings_Builder_WriteStringS.outs = true := by kernel_rfl
theorem strings_Builder_WriteString_sound : FnSound Tryz.prog tb 143 strings_Builder_WriteStringS := fn_ev mixed Tryz.func143 strings_Builder_WriteString_k (.consK bld_copyCheck_sound .nil) rfl strings_Builder_WriteString_eq
def utf8_appendRuneNonASCII_b1J (x : Int × Bool) : Option (Bool) :=
  brn x.snd (some x.2) (brn (decide (57343 < x.fst)) (some (decide (x.fst ≤ 65535))) (some false))
def utf8_appendRuneNonASCII_b1C : CutSpec tb := ⟨58, [(5, .val 340), (25, .val 4)], [(.normal, [(25, .val 4)])], [28, 29, 30, 31, 32, 33, 25], utf8_appendRuneNonASCII_b1J⟩
theorem utf8_appendRuneNonASCII_b1_eq : ∀ x, evBlk Tryz.prog tb [] [] (codeAt 58 Tryz.f270) utf8_appendRuneNonASCII_b1C.ins utf8_appendRuneNonASCII_b1C.outs x = utf8_appendRuneNonASCII_b1C.J x := fun x => by kernel_rfl
theorem utf8_appendRuneNonASCII_b1_k : cutB Tryz.f270.ntmps utf8_appendRuneNonASCII_b1C (codeAt 58 Tryz.f270) = true := by kernel_rfl
theorem utf8_appendRuneNonASCII_b1_in : cutsOf ([] : List (CutSpec tb)) (codeAt 58 Tryz.f270) = [] := by kernel_rfl
theorem utf8_appendRuneNonASCII_b1_cut : CutSound Tryz.prog tb Tryz.f270.ntmps (codeAt 58 Tryz.f270) utf8_appendRuneNonASCII_b1C := blk_ev mixed utf8_appendRuneNonASCII_b1_k .nil rfl utf8_appendRuneNonASCII_b1_in .nil utf8_appendRuneNonASCII_b1_eq
def utf8_appendRuneNonASCIIF (x : List (UInt8) × Int) : Option (List (UInt8)) :=
  brn (decide (IntKind.u32.wrap x.snd ≤ 2047))
    (obnd
      (app 1 x.fst
        [UInt8.ofNat (bitsOf BinOp.or IntKind.u8 192 (IntKind.u8.wrap (x.snd.fdiv 64))).toNat,
          UInt8.ofNat (bitsOf BinOp.or IntKind.u8 128 (bitsOf BinOp.and IntKind.u8 (IntKind.u8.wrap x.snd) 63)).toNat])
      fun zs => some zs)
    (obnd (utf8_appendRuneNonASCII_b1J (IntKind.u32.wrap x.snd, decide (IntKind.u32.wrap x.snd < 55296))) fun y =>
      brn y
        (obnd
          (app 1 x.fst
            [UInt8.ofNat (bitsOf BinOp.or IntKind.u8 224 (IntKind.u8.wrap (x.snd.fdiv 4096))).toNat,
              UInt8.ofNat (bitsOf BinOp.or IntKind.u8 128 (bitsOf BinOp.and IntKind.u8 (IntKind.u8.wrap (x.snd.fdiv 64)) 63)).toNat,
              UInt8.ofNat (bitsOf BinOp.or IntKind.u8 128 (bitsOf BinOp.and IntKind.u8 (IntKind.u8.wrap x.snd) 63)).toNat])
          fun zs => some zs)
        (brn (decide (65535 < IntKind.u32.wrap x.snd))
          (brn (decide (IntKind.u32.wrap x.snd ≤ 1114111))
            (obnd
              (app 1 x.fst
                [UInt8.ofNat (bitsOf BinOp.or IntKind.u8 240 (IntKind.u8.wrap (x.snd.fdiv 262144))).toNat,
                  UInt8.ofNat (bitsOf BinOp.or IntKind.u8 128 (bitsOf BinOp.and IntKind.u8 (IntKind.u8.wrap (x.snd.fdiv 4096)) 63)).toNat,
                  UInt8.ofNat (bitsOf BinOp.or IntKind.u8 128 (bitsOf BinOp.and IntKind.u8 (IntKind.u8.wrap (x.snd.fdiv 64)) 63)).toNat,
                  UInt8.ofNat (bitsOf BinOp.or IntKind.u8 128 (bitsOf BinOp.and IntKind.u8 (IntKind.u8.wrap x.snd) 63)).toNat])
              fun zs => some zs)
            (obnd (app 1 x.fst [UInt8.ofNat 239, UInt8.ofNat 191, UInt8.ofNat 189]) fun zs => some zs))
          (obnd (app 1 x.fst [UInt8.ofNat 239, UInt8.ofNat 191, UInt8.ofNat 189]) fun zs => some zs)))
def utf8_appendRuneNonASCIIS : FSpec tb := ⟨[(0, .own 5), (1, .val 21)], [(0, .own 5)], utf8_appendRuneNonASCIIF⟩
theorem utf8_appendRuneNonASCII_eq : ∀ x, evFn Tryz.prog tb [] [utf8_appendRuneNonASCII_b1C] Tryz.f270 utf8_appendRuneNonASCIIS.ins utf8_appendRuneNonASCIIS.outs x = utf8_appendRuneNonASCIIS.f x := fun x => by kernel_rfl
theorem utf8_appendRuneNonASCII_k : fnK Tryz.f270 utf8_appendRuneNonASCIIS.ins utf8_appendRuneNonASCIIS.outs = true := by kernel_rfl
theorem utf8_appendRuneNonASCII_in : cutsOf ([utf8_appendRuneNonASCII_b1C] : List (CutSpec tb)) (bodyOf Tryz.f270) = [(58, codeAt 58 Tryz.f270)] := by kernel_rfl
theorem utf8_appendRuneNonASCII_sound : FnSound Tryz.prog tb 270 utf8_appendRuneNonASCIIS := fn_cut mixed Tryz.func270 utf8_appendRuneNonASCII_k .nil rfl utf8_appendRuneNonASCII_in (.cons rfl utf8_appendRuneNonASCII_b1_cut rfl .nil) utf8_appendRuneNonASCII_eq
def utf8_AppendRuneF (x : List (UInt8) × Int) : Option (List (UInt8)) :=
  brn (decide (IntKind.u32.wrap x.snd ≤ 127)) (obnd (app 1 x.fst [UInt8.ofNat (IntKind.u8.wrap x.snd).toNat]) fun zs => some zs) (obnd (utf8_appendRuneNonASCIIF x) fun y => some y)
def utf8_AppendRuneS : FSpec tb := ⟨[(0, .own 5), (1, .val 21)], [(0, .own 5)], utf8_AppendRuneF⟩
theorem utf8_AppendRune_eq : ∀ x, evFn Tryz.prog tb [(270, utf8_appendRuneNonASCIIS)] [] Tryz.f252 utf8_AppendRuneS.ins utf8_AppendRuneS.outs x = utf8_AppendRuneS.f x := fun x => by kernel_rfl
theorem utf8_AppendRune_k : fnK Tryz.f252 utf8_AppendRuneS.ins utf8_AppendRuneS.outs = true := by kernel_rfl
theorem utf8_AppendRune_sound : FnSound Tryz.prog tb 252 utf8_AppendRuneS := fn_ev mixed Tryz.func252 utf8_AppendRune_k (.cons utf8_appendRuneNonASCII_sound .nil) rfl utf8_AppendRune_eq
def strings_Builder_WriteRuneF (x : List (UInt8) × Unit × Int) : Option ((List (UInt8) × Int × Unit) × Unit) :=
  obnd (bld_copyCheckF (x.fst, ())) fun y =>
    obnd (utf8_AppendRuneF (y.1, x.2.snd)) fun y_1 => some ((y_1, IntKind.i64.wrap ((↑(List.length y_1) : Int) - (↑(List.length y.1) : Int)), ()), ())
def strings_Builder_WriteRuneS : FSpec tb := ⟨[(8589934592, .own 5), (0, .box 229638146), (1, .val 21)], [(8589967360, .own 5), (0, .val 3), (1, .val 222)], strings_Builder_WriteRuneF⟩
theorem strings_Builder_WriteRune_eq : ∀ x, evFn Tryz.prog tb [(218, bld_copyCheckS), (252, utf8_AppendRuneS)] [] Tryz.f220 strings_Builder_WriteRuneS.ins strings_Builder_WriteRuneS.outs x = strings_Builder_WriteRuneS.f x := fun x => by kernel_rfl
theorem strings_Builder_WriteRune_k : fnK Tryz.f220 strings_Builder_WriteRuneS.ins strings_Builder_WriteRuneS.outs = true := by kernel_rfl
theorem strings_Builder_WriteRune_sound : FnSound Tryz.prog tb 220 strings_Builder_WriteRuneS := fn_ev mixed Tryz.func220 strings_Builder_WriteRune_k (.consK bld_copyCheck_sound (.cons utf8_AppendRune_sound .nil)) rfl strings_Builder_WriteRune_eq
end Go.Proofs.YtdgpkbnnljblmaaGreatDoor
