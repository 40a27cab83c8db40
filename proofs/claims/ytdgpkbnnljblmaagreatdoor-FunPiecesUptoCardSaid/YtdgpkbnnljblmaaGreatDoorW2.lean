/- W2 -/
import Derived.Test.YtdgpkbnnljblmaaGreatDoorW1
import Derived.Test.YtdgpkbnnljblmaaGreatDoorV1
namespace Go.Proofs.YtdgpkbnnljblmaaGreatDoor
open Go Go.Ev Go.Proofs
theorem bldX : Builder.Extra Tryz.prog Tryz.lays105_ren where
  sizeBuilder := by kernel_rfl
  liesBuilder := by kernel_rfl
  t5 := Tryz.underlying5
  a5 := Tryz.isAgg5
  z5 := Tryz.sizeOf5
  v5 := Tryz.zeroValue5
  infoByte := by kernel_rfl
  cellsByte := by kernel_rfl
  sizeByte := by kernel_rfl
  neB5 := by decide
def bld_copyCheckF (x : List UInt8 × Unit) : Option (List UInt8 × Unit) := some (x.1, ())
def bld_copyCheckS : FSpec tb := ⟨[(8589934592, .own 5), (0, .box 229638146)], [(8589967360, .own 5)], bld_copyCheckF⟩
theorem bld_copyCheck_sound : FnKeeps Tryz.prog tb 218 bld_copyCheckS := copyCheck_keeps (ρ := Tryz.lays105_ren) (tu := 5) { Tryz.lays105 with } bldX.toX72
def bld_StringF (x : List UInt8 × Unit) : Option (List UInt8 × Unit) := some (x.1, ())
def bld_StringS : FSpec tb := ⟨[(8589934592, .own 5), (0, .box 229638146)], [(0, .val 9)], bld_StringF⟩
theorem bldStr : IsStr tb 5 9 (fun (xs : List UInt8) => (xs : List UInt8)) := fun (xs : List UInt8) => ⟨xs, enc9_eq xs, rfl, fun _ x h => ⟨x, h, enc5_eq x⟩⟩
theorem bld_String_sound : FnKeeps Tryz.prog tb 144 bld_StringS :=
  string_keeps (tb := tb) (ρ := Tryz.lays105_ren) (f := fun (xs : List UInt8) => (xs : List UInt8)) { Tryz.lays105 with } bldX bldStr notAgg9
end Go.Proofs.YtdgpkbnnljblmaaGreatDoor
