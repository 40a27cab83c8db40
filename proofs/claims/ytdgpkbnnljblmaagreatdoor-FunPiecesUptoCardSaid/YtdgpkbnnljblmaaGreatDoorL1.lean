/- L1 -/
import Derived.Test.YtdgpkbnnljblmaaGreatDoorT1
import Derived.Shelf.Spec.BitsCarry
import Derived.Lib.Bytealg
import Derived.Shelf.Small.Bits
namespace Go.Proofs
open Go.Shelf
def Tryz.lays134_ren : Go.Shelf.Ren := ⟨fun | 134 => 260 | 129 => 277 | n => n, fun | 53 => 152 | 3 => 3 | 4 => 4 | 46 => 145 | 5 => 5 | 9 => 9 | n => n, fun | n => n⟩
theorem Tryz.lays134 : Go.Proofs.Lays.n134 Tryz.prog Tryz.lays134_ren where
  mixed := by kernel_rfl
  f129 := Tryz.func277.trans (congrArg some (by kernel_rfl))
  f134 := Tryz.func260.trans (congrArg some (by kernel_rfl))
  t3 := Tryz.underlying3
  a3 := Tryz.isAgg3
  z3 := Tryz.sizeOf3
  v3 := Tryz.zeroValue3
  t4 := Tryz.underlying4
  a4 := Tryz.isAgg4
  z4 := Tryz.sizeOf4
  v4 := Tryz.zeroValue4
  t5 := Tryz.underlying5
  a5 := Tryz.isAgg5
  z5 := Tryz.sizeOf5
  v5 := Tryz.zeroValue5
  t9 := Tryz.underlying9
  a9 := Tryz.isAgg9
  z9 := Tryz.sizeOf9
  v9 := Tryz.zeroValue9
  t46 := Tryz.underlying145
  a46 := Tryz.isAgg145
  z46 := Tryz.sizeOf145
  v46 := Tryz.zeroValue145
  t53 := Tryz.underlying152
  a53 := Tryz.isAgg152
  z53 := Tryz.sizeOf152
  v53 := Tryz.zeroValue152
end Go.Proofs
namespace Go.Proofs.YtdgpkbnnljblmaaGreatDoor
open Go Go.Ev
theorem notAgg152 : isAggB Tryz.prog 152 = false := by kernel_rfl
theorem notAgg9 : isAggB Tryz.prog 9 = false := by kernel_rfl
theorem notAgg5 : isAggB Tryz.prog 5 = false := by kernel_rfl
theorem notAgg3 : isAggB Tryz.prog 3 = false := by kernel_rfl
theorem notAgg4 : isAggB Tryz.prog 4 = false := by kernel_rfl
def bits_Add64F (x : Int × Int × Int) : Option (Int × Int) :=
  bif decide (x.2.2 = 0) || decide (x.2.2 = 1) then some ((x.1 + x.2.1 + x.2.2) % 18446744073709551616, (x.1 + x.2.1 + x.2.2) / 18446744073709551616) else none
def bits_Add64S : FSpec tb := ⟨[(0, .val 152), (1, .val 152), (2, .val 152)], [(0, .val 152), (1, .val 152)], bits_Add64F⟩
set_option maxRecDepth 100000 in
theorem bits_Add64_sound : FnKeeps Tryz.prog tb 178 bits_Add64S := by
  refine fn_at_once rfl fun g w (x : Int × Int × Int) vs bs (y : Int × Int) hy hinv hh => ?_
  obtain ⟨a, b, c⟩ := x
  obtain ⟨v0, vs, b0, bs, rfl, rfl⟩ := holds_cons_inv hh
  obtain ⟨v1, vs, b1, bs, rfl, rfl⟩ := holds_cons_inv hh.2
  obtain ⟨v2, vs, b2, bs, rfl, rfl⟩ := holds_cons_inv hh.2.2
  obtain ⟨h0, h1, h2⟩ := hh
  obtain ⟨rfl, rfl⟩ : vs = [] ∧ bs = [] := by
    cases vs <;> cases bs <;> first | exact ⟨rfl, rfl⟩ | exact h2.elim
  obtain ⟨e0, r0⟩ := holdsV_int notAgg152 (enc152_eq _) h0.1
  obtain ⟨e1, r1⟩ := holdsV_int notAgg152 (enc152_eq _) h1.1
  obtain ⟨e2, r2⟩ := holdsV_int notAgg152 (enc152_eq _) h2.1
  subst e0; subst e1; subst e2
  simp only [Ev.inR, lo, hi] at r0 r1 r2
  have hy : bits_Add64F (a, b, c) = some y := hy
  unfold bits_Add64F at hy
  simp only at hy
  cases hc : (decide (c = 0) || decide (c = 1)) with
  | false => rw [hc] at hy; cases hy
  | true =>
    rw [hc] at hy
    have hy := Option.some.inj hy
    subst hy
    simp only [Bool.or_eq_true, decide_eq_true_eq] at hc
    refine ⟨_, [.int .u64 ((a + b + c) % 18446744073709551616), .int .u64 ((a + b + c) / 18446744073709551616)], rfl, fun g w => ⟨⟨holdsV_int_mk notAgg152 (enc152_eq _) (by simp only [Ev.inR, lo, hi]; omega), rfl⟩, ⟨holdsV_int_mk notAgg152 (enc152_eq _) (by simp only [Ev.inR, lo, hi]; omega), rfl⟩⟩, ?_⟩
    obtain ⟨a, rfl⟩ := Int.eq_ofNat_of_zero_le r0.1
    obtain ⟨b, rfl⟩ := Int.eq_ofNat_of_zero_le r1.1
    obtain ⟨c, rfl⟩ := Int.eq_ofNat_of_zero_le r2.1
    show (callFunc 178 #[.int .u64 a, .int .u64 b, .int .u64 c]).run Tryz.prog w = _
    rw [run_callFunc_extern Tryz.func178 (by kernel_rfl) (by kernel_rfl) (by kernel_rfl) (e := add64Entry) (by kernel_rfl), run_add64 a b c (by omega) (by omega) (by omega) (by omega)]
    simp only [Result.andThen]
def bits_Sub64F (x : Int × Int × Int) : Option (Int × Int) :=
  bif decide (x.2.2 = 0) || decide (x.2.2 = 1) then some ((x.1 - x.2.1 - x.2.2) % 18446744073709551616, bif decide (x.1 < x.2.1 + x.2.2) then 1 else 0) else none
def bits_Sub64S : FSpec tb := ⟨[(0, .val 152), (1, .val 152), (2, .val 152)], [(0, .val 152), (1, .val 152)], bits_Sub64F⟩
set_option maxRecDepth 100000 in
theorem bits_Sub64_sound : FnKeeps Tryz.prog tb 179 bits_Sub64S := by
  refine fn_at_once rfl fun g w (x : Int × Int × Int) vs bs (y : Int × Int) hy hinv hh => ?_
  obtain ⟨a, b, c⟩ := x
  obtain ⟨v0, vs, b0, bs, rfl, rfl⟩ := holds_cons_inv hh
  obtain ⟨v1, vs, b1, bs, rfl, rfl⟩ := holds_cons_inv hh.2
  obtain ⟨v2, vs, b2, bs, rfl, rfl⟩ := holds_cons_inv hh.2.2
  obtain ⟨h0, h1, h2⟩ := hh
  obtain ⟨rfl, rfl⟩ : vs = [] ∧ bs = [] := by
    cases vs <;> cases bs <;> first | exact ⟨rfl, rfl⟩ | exact h2.elim
  obtain ⟨e0, r0⟩ := holdsV_int notAgg152 (enc152_eq _) h0.1
  obtain ⟨e1, r1⟩ := holdsV_int notAgg152 (enc152_eq _) h1.1
  obtain ⟨e2, r2⟩ := holdsV_int notAgg152 (enc152_eq _) h2.1
  subst e0; subst e1; subst e2
  simp only [Ev.inR, lo, hi] at r0 r1 r2
  have hy : bits_Sub64F (a, b, c) = some y := hy
  unfold bits_Sub64F at hy
  simp only at hy
  cases hc : (decide (c = 0) || decide (c = 1)) with
  | false => rw [hc] at hy; cases hy
  | true =>
    rw [hc] at hy
    have hy := Option.some.inj hy
    subst hy
    simp only [Bool.or_eq_true, decide_eq_true_eq] at hc
    refine ⟨_, [.int .u64 ((a - b - c) % 18446744073709551616), .int .u64 (bif decide (a < b + c) then 1 else 0)], rfl, fun g w => ⟨⟨holdsV_int_mk notAgg152 (enc152_eq _) (by simp only [Ev.inR, lo, hi]; omega), rfl⟩, ⟨holdsV_int_mk notAgg152 (enc152_eq _) (by cases decide (a < b + c) <;> simp [Ev.inR, lo, hi]), rfl⟩⟩, ?_⟩
    obtain ⟨a, rfl⟩ := Int.eq_ofNat_of_zero_le r0.1
    obtain ⟨b, rfl⟩ := Int.eq_ofNat_of_zero_le r1.1
    obtain ⟨c, rfl⟩ := Int.eq_ofNat_of_zero_le r2.1
    show (callFunc 179 #[.int .u64 a, .int .u64 b, .int .u64 c]).run Tryz.prog w = _
    rw [run_callFunc_extern Tryz.func179 (by kernel_rfl) (by kernel_rfl) (by kernel_rfl) (e := sub64Entry) (by kernel_rfl), run_sub64 a b c (by omega)]
    simp only [Result.andThen]
    have e1 : (((a + 18446744073709551616 - b - c) % 18446744073709551616 : Nat) : Int) = ((a : Int) - b - c) % 18446744073709551616 := by omega
    have e2 : ((if a < b + c then 1 else 0 : Nat) : Int) = (bif decide ((a : Int) < b + c) then 1 else 0) := by
      by_cases h : a < b + c
      · have : (a : Int) < b + c := by omega
        simp [h, this]
      · have : ¬ (a : Int) < b + c := by omega
        simp [h, this]
    rw [e1, e2]
def bytealg_IndexByteStringF (x : List UInt8 × UInt8) : Option Int := some (Lib.indexByte x.1 x.2)
def bytealg_IndexByteStringS : FSpec tb := ⟨[(0, .val 9), (1, .val 5)], [(0, .val 3)], bytealg_IndexByteStringF⟩
theorem indexByte_len : ∀ (s : List UInt8) (c : UInt8), -1 ≤ Lib.indexByte s c ∧ Lib.indexByte s c < (s.length : Int) + 1 := by
  intro s c
  induction s with
  | nil => simp [Lib.indexByte]
  | cons b l ih =>
    unfold Lib.indexByte
    simp only [List.length_cons]
    split
    · omega
    · split <;> omega
set_option maxRecDepth 100000 in
theorem bytealg_IndexByteString_sound : FnKeeps Tryz.prog tb 290 bytealg_IndexByteStringS := by
  refine fn_at_once rfl fun g w (x : List UInt8 × UInt8) vs bs (y : Int) hy hinv hh => ?_
  obtain ⟨s, c⟩ := x
  obtain ⟨v0, vs, b0, bs, rfl, rfl⟩ := holds_cons_inv hh
  obtain ⟨v1, vs, b1, bs, rfl, rfl⟩ := holds_cons_inv hh.2
  obtain ⟨h0, h1⟩ := hh
  obtain ⟨rfl, rfl⟩ : vs = [] ∧ bs = [] := by
    cases vs <;> cases bs <;> first | exact ⟨rfl, rfl⟩ | exact h1.elim
  obtain ⟨e0, r0⟩ := holdsV_str notAgg9 (enc9_eq _) h0.1
  obtain ⟨e1, r1⟩ := holdsV_int notAgg5 (enc5_eq _) h1.1
  subst e0; subst e1
  have hy := Option.some.inj (show some (Lib.indexByte s c) = some y from hy)
  subst hy
  have hl := indexByte_len s c
  unfold mxLen at r0
  refine ⟨_, [.int .i64 (Lib.indexByte s c)], rfl, fun g w => ⟨holdsV_int_mk notAgg3 (enc3_eq _) (by simp only [Ev.inR, lo, hi]; omega), rfl⟩, ?_⟩
  show (callFunc 290 #[.string ⟨s.toArray⟩, .int .u8 (c.toNat : Int)]).run Tryz.prog w = _
  rw [run_callFunc_extern Tryz.func290 (by kernel_rfl) (by kernel_rfl) (by kernel_rfl) (e := Extern.BytealgIndexByte.indexByte) (by kernel_rfl), Lib.run_indexByteString]
  simp only [Result.andThen]
  congr 3
  simp
def bits_LeadingZeros64F (x : Int) : Option Int := some (64 - (Lib.bitLen x.toNat : Int))
def bits_LeadingZeros64S : FSpec tb := ⟨[(0, .val 152)], [(0, .val 3)], bits_LeadingZeros64F⟩
set_option maxRecDepth 100000 in
theorem bits_LeadingZeros64_sound : FnSound Tryz.prog tb 260 bits_LeadingZeros64S := by
  refine fn_libN (enters_of (c := bodyOf Tryz.f260) Tryz.func260 (by kernel_rfl) (by kernel_rfl)) rfl fun g w (x : Int) vs bs (y : Int) hy hinv hh => ?_
  obtain ⟨v0, vs, b0, bs, rfl, rfl⟩ := holds_cons_inv hh
  have h0 := hh
  obtain ⟨rfl, rfl⟩ : vs = [] ∧ bs = [] := by
    cases vs <;> cases bs <;> first | exact ⟨rfl, rfl⟩ | exact h0.elim
  obtain ⟨e0, r0⟩ := holdsV_int notAgg152 (enc152_eq _) h0.1
  subst e0
  simp only [Ev.inR, lo, hi] at r0
  have hy := Option.some.inj (show some (64 - (Lib.bitLen x.toNat : Int)) = some y from hy)
  subst hy
  have hl := Any.bitLen_le64 x (by omega) (by omega)
  refine ⟨_, [.int .i64 (64 - (Lib.bitLen x.toNat : Int))], rfl, fun g w => ⟨holdsV_int_mk notAgg3 (enc3_eq _) (by simp only [Ev.inR, lo, hi]; omega), rfl⟩, ?_⟩
  refine (Any.bits_LeadingZeros64 Tryz.lays134 x w (by omega) (by omega)).mono ?_
  rintro e w' ⟨rfl, rfl⟩
  exact ⟨rfl, Grows.refl _⟩
end Go.Proofs.YtdgpkbnnljblmaaGreatDoor
