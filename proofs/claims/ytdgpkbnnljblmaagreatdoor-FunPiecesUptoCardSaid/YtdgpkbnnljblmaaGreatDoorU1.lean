/- U1 -/
import Derived.Test.YtdgpkbnnljblmaaGreatDoorF1
import Derived.Shelf.Unicode.ValidAny
namespace Go.Proofs
open Go.Shelf
def Tryz.lays196_ren : Go.Shelf.Ren := ⟨fun | 196 => 182 | 259 => 234 | n => n, fun | 9 => 9 | 4 => 4 | 3 => 3 | 5 => 5 | 12 => 12 | 119 => 320 | 0 => 0 | 46 => 145 | 139 => 323 | 138 => 322 | 53 => 152 | n => n, fun | 3 => 0 | 4 => 1 | n => n⟩
theorem Tryz.lays196 : Go.Proofs.Lays.n196 Tryz.prog Tryz.lays196_ren where
  mixed := by kernel_rfl
  f196 := Tryz.func182.trans (congrArg some (by kernel_rfl))
  f259 := Tryz.func234.trans (congrArg some (by kernel_rfl))
  t0 := Tryz.underlying0
  a0 := Tryz.isAgg0
  z0 := Tryz.sizeOf0
  v0 := Tryz.zeroValue0
  t3 := Tryz.underlying3
  a3 := Tryz.isAgg3
  z3 := Tryz.sizeOf3
  v3 := Tryz.zeroValue3
  t4 := Tryz.underlying4
  a4 := Tryz.isAgg4
  z4 := Tryz.sizeOf4
  v4 := Tryz.zeroValue4
  t5 := Tryz.underlying5
  a5 := Tryz.isAgg5
  z5 := Tryz.sizeOf5
  v5 := Tryz.zeroValue5
  t9 := Tryz.underlying9
  a9 := Tryz.isAgg9
  z9 := Tryz.sizeOf9
  v9 := Tryz.zeroValue9
  t12 := Tryz.underlying12
  a12 := Tryz.isAgg12
  z12 := Tryz.sizeOf12
  v12 := Tryz.zeroValue12
  t46 := Tryz.underlying145
  a46 := Tryz.isAgg145
  z46 := Tryz.sizeOf145
  v46 := Tryz.zeroValue145
  t53 := Tryz.underlying152
  a53 := Tryz.isAgg152
  z53 := Tryz.sizeOf152
  v53 := Tryz.zeroValue152
  t119 := Tryz.underlying320
  a119 := Tryz.isAgg320
  z119 := Tryz.sizeOf320
  t138 := Tryz.underlying322
  a138 := Tryz.isAgg322
  z138 := Tryz.sizeOf322
  v138 := Tryz.zeroValue322
  t139 := Tryz.underlying323
  a139 := Tryz.isAgg323
  z139 := Tryz.sizeOf323
  v139 := Tryz.zeroValue323
  g3 := by kernel_rfl
  g4 := by kernel_rfl
end Go.Proofs
namespace Go.Proofs.YtdgpkbnnljblmaaGreatDoor
open Go Go.Ev Go.RowKit
def utf8_ValidStringF (x : List UInt8) : Option Bool := some (Lib.validD x)
def utf8_ValidStringS : FSpec tb := ⟨[(0, .val 9)], [(0, .val 4)], utf8_ValidStringF⟩
set_option maxRecDepth 100000 in
theorem utf8_ValidString_sound : FnSound Tryz.prog tb 182 utf8_ValidStringS := by
  refine fn_libN (enters_of (c := bodyOf Tryz.f182) Tryz.func182 (by kernel_rfl) (by kernel_rfl)) rfl fun g w (x : List UInt8) vs bs (y : Bool) hy hinv hh => ?_
  obtain ⟨v0, vs, b0, bs, rfl, rfl⟩ := holds_cons_inv hh
  have h0 := hh
  obtain ⟨rfl, rfl⟩ : vs = [] ∧ bs = [] := by
    cases vs <;> cases bs <;> first | exact ⟨rfl, rfl⟩ | exact h0.elim
  obtain ⟨e0, r0⟩ := holdsV_str notAgg9 (enc9_eq _) h0.1
  subst e0
  have hy := Option.some.inj (show some (Lib.validD x) = some y from hy)
  subst hy
  refine ⟨_, [.bool (Lib.validD x)], rfl, fun g w => ⟨holdsV_bool_mk notAgg4 (enc4_eq _), rfl⟩, ?_⟩
  refine (Any.utf8_ValidString Tryz.lays196 ⟨x.toArray⟩ w (by simp [ByteArray.size]; unfold mxLen at r0; omega) hinv.2.2.1).mono ?_
  rintro e w' ⟨rfl, hb⟩
  exact ⟨rfl, grows_below hb⟩
end Go.Proofs.YtdgpkbnnljblmaaGreatDoor
