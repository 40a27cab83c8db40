/- Numbers in bytes: read and written, by the program and by the document, in plain Lean. -/
import Derived.Test.YtankcgcnkoialaaPA
namespace Go.Proofs.Ytankcgcnkoialaa
open Go Go.Ev Go.Lib

theorem or_comm2 (k : IntKind) (x y : Int) : bitsOf .or k x y = bitsOf .or k y x := by simp only [bitsOf]; rw [BitVec.or_comm]
theorem or0 {y : Int} (h0 : 0 ≤ y) (h1 : y < 18446744073709551616) : bitsOf .or .u64 0 y = y := by
  have := or_low (a := 0) (b := y) (s := 64) (by omega) h0 (by omega) (by omega)
  simpa using this
theorem or8 {a b : Int} (ha : 0 ≤ a) (ha2 : a < 256) (hb : 0 ≤ b) (hb2 : b < 256) : bitsOf .or .u64 b (a * 256) = a * 256 + b := by
  rw [or_comm2]
  exact or_low (a := a) (b := b) (s := 8) ha hb (by omega) (by omega)
theorem byte_lt (b : UInt8) : (b.toNat : Int) < 256 := by have := b.toNat_lt; omega
/-- a byte, two bytes, from a place on; how far the next one is; 5: too few -/
def u8S (B : List UInt8) (a : Nat) : Int × Cursor × Int := match B[a]? with | some b => ((b.toNat : Int), ⟨B, ((a + 1 : Nat) : Int)⟩, 0) | none => (0, ⟨B, (a : Int)⟩, 5)
def u16S (B : List UInt8) (a : Nat) : Int × Cursor × Int := match B[a]?, B[a + 1]? with | some b, some c => ((c.toNat : Int) * 256 + (b.toNat : Int), ⟨B, ((a + 2 : Nat) : Int)⟩, 0) | _, _ => (0, ⟨B, (a : Int)⟩, 5)
theorem take_ok {B : List UInt8} {a n : Nat} (hl : B.length ≤ 100000000) (h : a + n ≤ B.length) : le_takeF (⟨B, a⟩, n) = some ((B.take (a + n)).drop a, ⟨B, ((a + n : Nat) : Int)⟩, 0) := by
  unfold le_takeF le_take_s1J
  simp only
  rw [decide_eq_false (by omega), brn_false, decide_eq_false (by omega), brn_false, decide_eq_false (by omega), brn_false, i64_in (by omega) (by omega), decide_eq_false (by omega), brn_false, i64_in (by omega) (by omega)]
  have : sub B (a : Int) ((a : Int) + (n : Int)) = some ((B.take (a + n)).drop a) := by
    unfold sub
    rw [decide_eq_true (by omega), decide_eq_true (by omega), decide_eq_true (by omega)]
    rw [show ((a : Int) + (n : Int)).toNat = a + n by omega, Int.toNat_natCast]; rfl
  rw [this, obnd_some, show (a : Int) + (n : Int) = ((a + n : Nat) : Int) by omega]; rfl
theorem take_no {B : List UInt8} {a n : Nat} (hl : B.length ≤ 100000000) (ha : a ≤ B.length) (h : B.length < a + n) : le_takeF (⟨B, a⟩, n) = some ([], ⟨B, a⟩, 5) := by
  unfold le_takeF le_take_s1J
  simp only
  rw [decide_eq_false (by omega), brn_false, decide_eq_false (by omega), brn_false, decide_eq_false (by omega), brn_false, i64_in (by omega) (by omega), decide_eq_true (by omega), brn_true]
  rfl
theorem big2 : big = 9223372036854775805 + 1 + 1 + 1 := by rw [big_pos]
theorem num0 : le_number_l1J (0, [], 0, 0) = some 0 := by
  unfold le_number_l1J
  rw [big2, iter_succ]; rfl
theorem num1 (b : UInt8) : le_number_l1J (0, [b], 1, 0) = some (b.toNat : Int) := by
  have hb := byte_lt b
  unfold le_number_l1J
  rw [big2, iter_succ]
  unfold le_number_l1F
  simp only
  rw [show decide ((0 : Int) < 1) = true from rfl, brn_true, idxZ, obnd_some, show decide (IntKind.i64.wrap (8 * 0) < 0) = false from rfl, brn_false, u64_in (n := (b.toNat : Int)) (by omega) (by omega),
    show (2 : Int) ^ min (IntKind.i64.wrap (8 * 0)).toNat 64 = 1 from rfl, Int.mul_one, u64_in (by omega) (by omega), or0 (by omega) (by omega), iter_succ]
  rfl
theorem num2 (b c : UInt8) : le_number_l1J (0, [b, c], 2, 0) = some ((c.toNat : Int) * 256 + (b.toNat : Int)) := by
  have hb := byte_lt b
  have hc := byte_lt c
  unfold le_number_l1J
  rw [big2, iter_succ]
  generalize hm : (9223372036854775805 : Nat) + 1 + 1 = m
  unfold le_number_l1F
  simp only
  rw [show decide ((0 : Int) < 2) = true from rfl, brn_true, idxZ, obnd_some, show decide (IntKind.i64.wrap (8 * 0) < 0) = false from rfl, brn_false, u64_in (n := (b.toNat : Int)) (by omega) (by omega),
    show (2 : Int) ^ min (IntKind.i64.wrap (8 * 0)).toNat 64 = 1 from rfl, Int.mul_one, u64_in (by omega) (by omega), or0 (by omega) (by omega)]
  rw [← hm, iter_succ]
  generalize hm : (9223372036854775805 : Nat) + 1 = m
  simp only
  rw [show decide (IntKind.i64.wrap (0 + 1) < 2) = true from rfl, brn_true, show idx [b, c] (IntKind.i64.wrap (0 + 1)) = some c from rfl, obnd_some, show decide (IntKind.i64.wrap (8 * IntKind.i64.wrap (0 + 1)) < 0) = false from rfl, brn_false, u64_in (n := (c.toNat : Int)) (by omega) (by omega),
    show (2 : Int) ^ min (IntKind.i64.wrap (8 * IntKind.i64.wrap (0 + 1))).toNat 64 = 256 from rfl, u64_in (by omega) (by omega), or8 (by omega) hc (by omega) hb, ← hm, iter_succ]
  rfl
theorem drop_take1 {B : List UInt8} {a : Nat} (h : a < B.length) : (B.take (a + 1)).drop a = [B[a]] := by
  rw [List.take_succ_eq_append_getElem h, List.drop_append_of_le_length (by rw [List.length_take]; omega), List.drop_of_length_le (by rw [List.length_take]; omega)]; rfl
theorem drop_take2 {B : List UInt8} {a : Nat} (h : a + 1 < B.length) : (B.take (a + 2)).drop a = [B[a], B[a + 1]] := by
  rw [show a + 2 = a + 1 + 1 from rfl, List.take_succ_eq_append_getElem h, List.drop_append_of_le_length (by rw [List.length_take]; omega), drop_take1 (by omega)]; rfl
theorem u8_is {B : List UInt8} {a : Nat} (hl : B.length ≤ 100000000) (ha : a ≤ B.length) : le_U8F ⟨B, a⟩ = some (u8S B a) := by
  unfold le_U8F le_numberF u8S
  by_cases h : a < B.length
  · rw [show ((⟨B, (a : Int)⟩ : Cursor), (1 : Int)) = ((⟨B, (a : Int)⟩ : Cursor), ((1 : Nat) : Int)) from rfl, take_ok hl (by omega), obnd_some, drop_take1 h]
    simp only
    rw [show (((List.length [B[a]] : Nat)) : Int) = 1 from rfl, num1, obnd_some, obnd_some, List.getElem?_eq_getElem h]
    have := byte_lt B[a]
    simp only
    rw [i64_in (by omega) (by omega)]
  · rw [show ((⟨B, (a : Int)⟩ : Cursor), (1 : Int)) = ((⟨B, (a : Int)⟩ : Cursor), ((1 : Nat) : Int)) from rfl, take_no hl ha (by omega), obnd_some]
    simp only
    rw [show (((List.length ([] : List UInt8) : Nat)) : Int) = 0 from rfl, num0, obnd_some, obnd_some, List.getElem?_eq_none (by omega)]
    rfl
theorem u16_is {B : List UInt8} {a : Nat} (hl : B.length ≤ 100000000) (ha : a ≤ B.length) : le_U16F ⟨B, a⟩ = some (u16S B a) := by
  unfold le_U16F le_numberF u16S
  by_cases h : a + 1 < B.length
  · rw [show ((⟨B, (a : Int)⟩ : Cursor), (2 : Int)) = ((⟨B, (a : Int)⟩ : Cursor), ((2 : Nat) : Int)) from rfl, take_ok hl (by omega), obnd_some, drop_take2 h]
    simp only
    rw [show (((List.length [B[a], B[a + 1]] : Nat)) : Int) = 2 from rfl, num2, obnd_some, obnd_some, List.getElem?_eq_getElem (by omega), List.getElem?_eq_getElem h]
    have := byte_lt B[a]
    have := byte_lt B[a + 1]
    simp only
    rw [i64_in (by omega) (by omega)]
  · rw [show ((⟨B, (a : Int)⟩ : Cursor), (2 : Int)) = ((⟨B, (a : Int)⟩ : Cursor), ((2 : Nat) : Int)) from rfl, take_no hl ha (by omega), obnd_some]
    simp only
    rw [show (((List.length ([] : List UInt8) : Nat)) : Int) = 0 from rfl, num0, obnd_some, obnd_some, List.getElem?_eq_none (l := B) (i := a + 1) (by omega)]
    cases B[a]? <;> rfl
theorem end_is {B : List UInt8} {a : Nat} (ha : a ≤ B.length) : le_EndF ⟨B, a⟩ = some (if a = B.length then 0 else 4) := by
  unfold le_EndF
  simp only
  rw [decide_eq_false (by omega), brn_false, decide_eq_false (by omega), brn_false]
  by_cases h : a = B.length
  · rw [if_pos h, decide_eq_false (by omega), brn_false]
  · rw [if_neg h, decide_eq_true (by omega), brn_true]

/-! ## the document's -/
theorem bad_is {B : List UInt8} {a : Nat} (ha : a ≤ B.length) : ref7_badF ⟨B, a⟩ = some false := by
  unfold ref7_badF
  simp only
  rw [decide_eq_false (by omega), brn_false, decide_eq_false (by omega)]
theorem low_no {B : List UInt8} {a n : Nat} (hl : B.length ≤ 100000000) (ha : a ≤ B.length) (h : B.length < a + n) : ref7_LowF (⟨B, a⟩, n) = some (0, ⟨B, a⟩, 5) := by
  unfold ref7_LowF
  simp only
  rw [bad_is ha, obnd_some, brn_false, i64_in (by omega) (by omega), decide_eq_true (by omega), brn_true]
theorem low8 {B : List UInt8} {a : Nat} (hl : B.length ≤ 100000000) (ha : a ≤ B.length) : ref7_LowF (⟨B, a⟩, 1) = some (u8S B a) := by
  by_cases h : a < B.length
  · unfold ref7_LowF u8S
    simp only
    rw [bad_is ha, obnd_some, brn_false, i64_in (n := (B.length : Int) - a) (by omega) (by omega), decide_eq_false (by omega), brn_false, List.getElem?_eq_getElem h]
    have hb := byte_lt B[a]
    have : ref7_Low_l1J (⟨B, a⟩, 0, IntKind.i64.wrap (1 - 1)) = some ((B[a]).toNat : Int) := by
      unfold ref7_Low_l1J
      rw [big2, iter_succ]
      unfold ref7_Low_l1F
      simp only
      rw [show decide (0 ≤ IntKind.i64.wrap (1 - 1)) = true from rfl, brn_true, show IntKind.i64.wrap (1 - 1) = 0 from rfl, Int.add_zero, i64_in (by omega) (by omega), idxG h, obnd_some, show IntKind.u64.wrap (0 * 256) = 0 from rfl, u64_in (by omega) (by omega), or0 (by omega) (by omega), iter_succ]
      rfl
    rw [this, obnd_some, i64_in (by omega) (by omega)]; rfl
  · rw [show ((⟨B, (a : Int)⟩ : Cursor), (1 : Int)) = ((⟨B, (a : Int)⟩ : Cursor), ((1 : Nat) : Int)) from rfl, low_no hl ha (by omega)]
    unfold u8S
    rw [List.getElem?_eq_none (by omega)]
theorem low16 {B : List UInt8} {a : Nat} (hl : B.length ≤ 100000000) (ha : a ≤ B.length) : ref7_LowF (⟨B, a⟩, 2) = some (u16S B a) := by
  by_cases h : a + 1 < B.length
  · unfold ref7_LowF u16S
    simp only
    rw [bad_is ha, obnd_some, brn_false, i64_in (n := (B.length : Int) - a) (by omega) (by omega), decide_eq_false (by omega), brn_false, List.getElem?_eq_getElem h, List.getElem?_eq_getElem (show a < B.length by omega)]
    have hb := byte_lt B[a]
    have hc := byte_lt B[a + 1]
    have : ref7_Low_l1J (⟨B, a⟩, 0, IntKind.i64.wrap (2 - 1)) = some (((B[a + 1]).toNat : Int) * 256 + ((B[a]).toNat : Int)) := by
      unfold ref7_Low_l1J
      rw [big2, iter_succ]
      generalize hm : (9223372036854775805 : Nat) + 1 + 1 = m
      unfold ref7_Low_l1F
      simp only
      rw [show decide (0 ≤ IntKind.i64.wrap (2 - 1)) = true from rfl, brn_true, show IntKind.i64.wrap (2 - 1) = 1 from rfl, i64_in (n := (a : Int) + 1) (by omega) (by omega), show (a : Int) + 1 = ((a + 1 : Nat) : Int) by omega, idxG h, obnd_some, show IntKind.u64.wrap (0 * 256) = 0 from rfl, u64_in (by omega) (by omega), or0 (by omega) (by omega)]
      rw [← hm, iter_succ]
      generalize hm : (9223372036854775805 : Nat) + 1 = m
      simp only
      rw [show decide (0 ≤ IntKind.i64.wrap (1 - 1)) = true from rfl, brn_true, show IntKind.i64.wrap (1 - 1) = 0 from rfl, Int.add_zero, i64_in (n := (a : Int)) (by omega) (by omega), idxG (show a < B.length by omega), obnd_some, u64_in (n := ((B[a + 1]).toNat : Int) * 256) (by omega) (by omega), u64_in (n := ((B[a]).toNat : Int)) (by omega) (by omega),
        or_comm2, or8 (by omega) hc (by omega) hb, ← hm, iter_succ]
      rfl
    rw [this, obnd_some, i64_in (by omega) (by omega)]; rfl
  · rw [show ((⟨B, (a : Int)⟩ : Cursor), (2 : Int)) = ((⟨B, (a : Int)⟩ : Cursor), ((2 : Nat) : Int)) from rfl, low_no hl ha (by omega)]
    unfold u16S
    rw [List.getElem?_eq_none (l := B) (i := a + 1) (by omega)]
    cases B[a]? <;> rfl
theorem refEnd_is {B : List UInt8} {a : Nat} (ha : a ≤ B.length) : ref7_EndF ⟨B, a⟩ = some (if a = B.length then 0 else 4) := by
  unfold ref7_EndF
  rw [bad_is ha, obnd_some, brn_false]
  simp only
  by_cases h : a = B.length
  · rw [if_pos h, decide_eq_false (by omega), brn_false]
  · rw [if_neg h, decide_eq_true (by omega), brn_true]
end Go.Proofs.Ytankcgcnkoialaa
