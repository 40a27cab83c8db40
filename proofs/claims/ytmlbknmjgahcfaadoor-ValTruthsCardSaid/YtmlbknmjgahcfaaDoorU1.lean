/- unicode/utf8.ValidString, as the shelf has it, as a contract. -/
import Derived.Test.YtmlbknmjgahcfaaDoorF1
import Derived.Shelf.Unicode.ValidAny
namespace Go.Proofs
open Go.Shelf
def Tryd.lays196_ren : Go.Shelf.Ren := ⟨fun | 196 => 86 | 259 => 100 | n => n, fun | 9 => 9 | 4 => 4 | 3 => 3 | 5 => 5 | 12 => 12 | 119 => 136 | 0 => 0 | 46 => 114 | 139 => 139 | 138 => 138 | 53 => 64 | n => n, fun | 3 => 0 | 4 => 1 | n => n⟩
theorem Tryd.lays196 : Go.Proofs.Lays.n196 Tryd.prog Tryd.lays196_ren where
  mixed := by kernel_rfl
  f196 := Tryd.func86.trans (congrArg some (by kernel_rfl))
  f259 := Tryd.func100.trans (congrArg some (by kernel_rfl))
  t0 := Tryd.underlying0
  a0 := Tryd.isAgg0
  z0 := Tryd.sizeOf0
  v0 := Tryd.zeroValue0
  t3 := Tryd.underlying3
  a3 := Tryd.isAgg3
  z3 := Tryd.sizeOf3
  v3 := Tryd.zeroValue3
  t4 := Tryd.underlying4
  a4 := Tryd.isAgg4
  z4 := Tryd.sizeOf4
  v4 := Tryd.zeroValue4
  t5 := Tryd.underlying5
  a5 := Tryd.isAgg5
  z5 := Tryd.sizeOf5
  v5 := Tryd.zeroValue5
  t9 := Tryd.underlying9
  a9 := Tryd.isAgg9
  z9 := Tryd.sizeOf9
  v9 := Tryd.zeroValue9
  t12 := Tryd.underlying12
  a12 := Tryd.isAgg12
  z12 := Tryd.sizeOf12
  v12 := Tryd.zeroValue12
  t46 := Tryd.underlying114
  a46 := Tryd.isAgg114
  z46 := Tryd.sizeOf114
  v46 := Tryd.zeroValue114
  t53 := Tryd.underlying64
  a53 := Tryd.isAgg64
  z53 := Tryd.sizeOf64
  v53 := Tryd.zeroValue64
  t119 := Tryd.underlying136
  a119 := Tryd.isAgg136
  z119 := Tryd.sizeOf136
  t138 := Tryd.underlying138
  a138 := Tryd.isAgg138
  z138 := Tryd.sizeOf138
  v138 := Tryd.zeroValue138
  t139 := Tryd.underlying139
  a139 := Tryd.isAgg139
  z139 := Tryd.sizeOf139
  v139 := Tryd.zeroValue139
  g3 := by kernel_rfl
  g4 := by kernel_rfl
end Go.Proofs
namespace Go.Proofs.YtmlbknmjgahcfaaDoor
open Go Go.Ev Go.RowKit

def utf8_ValidStringF (x : List UInt8) : Option Bool := some (Lib.validD x)
def utf8_ValidStringS : FSpec tb := ⟨[(0, .val 9)], [(0, .val 4)], utf8_ValidStringF⟩
set_option maxRecDepth 100000 in
theorem utf8_ValidString_sound : FnSound Tryd.prog tb 86 utf8_ValidStringS := by
  refine fn_libN (enters_of (c := bodyOf Tryd.f86) Tryd.func86 (by kernel_rfl) (by kernel_rfl)) rfl fun g w (x : List UInt8) vs bs (y : Bool) hy hinv hh => ?_
  obtain ⟨v0, vs, b0, bs, rfl, rfl⟩ := holds_cons_inv hh
  have h0 := hh
  obtain ⟨rfl, rfl⟩ : vs = [] ∧ bs = [] := by
    cases vs <;> cases bs <;> first | exact ⟨rfl, rfl⟩ | exact h0.elim
  obtain ⟨e0, r0⟩ := holdsV_str notAgg9 (enc9_eq _) h0.1
  subst e0
  have hy := Option.some.inj (show some (Lib.validD x) = some y from hy)
  subst hy
  refine ⟨_, [.bool (Lib.validD x)], rfl, fun g w => ⟨holdsV_bool_mk notAgg4 (enc4_eq _), rfl⟩, ?_⟩
  refine (Any.utf8_ValidString Tryd.lays196 ⟨x.toArray⟩ w (by simp [ByteArray.size]; unfold mxLen at r0; omega) hinv.2.2.1).mono ?_
  rintro e w' ⟨rfl, hb⟩
  exact ⟨rfl, grows_below hb⟩
end Go.Proofs.YtmlbknmjgahcfaaDoor
