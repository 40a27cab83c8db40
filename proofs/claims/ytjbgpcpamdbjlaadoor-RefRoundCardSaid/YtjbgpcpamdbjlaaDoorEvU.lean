/- Runes. -/
import Derived.Test.YtjbgpcpamdbjlaaDoorEvL
import Derived.Laws.RangeString
namespace Go.Ev
open Go

theorem rune_ascii (s : List UInt8) (p : Nat) (h : p < s.length) (ha : (s[p]).toNat < 128) : rune s p = ((s[p]).toNat, 1) := by
  have := decode_ascii ⟨s.toArray⟩ p (by simpa [ByteArray.size] using h) ha
  unfold rune
  rw [this]
  rfl

theorem rune_high (s : List UInt8) (p : Nat) (h : p < s.length) (ha : 128 ≤ (s[p]).toNat) : 128 ≤ (rune s p).1 ∧ 1 ≤ (rune s p).2 := by
  have h0 : ((⟨s.toArray⟩ : ByteArray).get! (p + 0)).toNat = (s[p]).toNat := by
    simp only [Nat.add_zero, ByteArray.get!]
    have : (s.toArray)[p]! = s[p] := by simp [h]
    exact congrArg UInt8.toNat this
  unfold rune Utf8.decode
  simp only [h0]
  rw [if_neg (by omega)]
  split
  · split <;> simp_all [Utf8.runeError]
  · split
    · split
      · rename_i hc
        simp only [Bool.and_eq_true, decide_eq_true_eq] at hc
        exact ⟨by have := hc.1; simp only; omega, by simp⟩
      · simp [Utf8.runeError]
    · split
      · split
        · rename_i hc
          simp only [Bool.and_eq_true, decide_eq_true_eq] at hc
          exact ⟨by have := hc.1; simp only; omega, by simp⟩
        · simp [Utf8.runeError]
      · simp [Utf8.runeError]
end Go.Ev
