/- Decimals, in plain Lean: what they mean, and with as few places as may be. -/
import Derived.Test.YtmlbknmjgahcfaaDoorRT
namespace Go.Proofs.YtmlbknmjgahcfaaDoor
open Go Go.Ev

/-- as few places as may be -/
def strip : Int → Nat → Int × Nat
  | v, 0 => (v, 0)
  | v, p + 1 => if v % 10 = 0 then strip (v / 10) p else (v, p + 1)
theorem strip_le : ∀ (p : Nat) (v : Int), (strip v p).2 ≤ p
  | 0, _ => Nat.le_refl _
  | p + 1, v => by
    unfold strip
    split
    · have := strip_le p (v / 10); omega
    · exact Nat.le_refl _
theorem strip_val : ∀ (p : Nat) (v : Int), (strip v p).1 * 10 ^ (p - (strip v p).2) = v
  | 0, v => by simp [strip]
  | p + 1, v => by
    unfold strip
    split
    · rename_i h
      have h1 := strip_val p (v / 10)
      have h2 := strip_le p (v / 10)
      rw [show p + 1 - (strip (v / 10) p).2 = (p - (strip (v / 10) p).2) + 1 by omega, Int.pow_succ, ← Int.mul_assoc, h1]
      omega
    · simp
theorem strip_norm : ∀ (p : Nat) (v : Int), 0 < (strip v p).2 → ¬ (strip v p).1 % 10 = 0
  | 0, v, h => by simp [strip] at h
  | p + 1, v, h => by
    unfold strip at h ⊢
    split
    · rename_i h0
      rw [if_pos h0] at h
      exact strip_norm p (v / 10) h
    · assumption
theorem strip_self : ∀ (s : Nat) (m : Int), (0 < s → ¬ m % 10 = 0) → strip m s = (m, s)
  | 0, m, _ => rfl
  | s + 1, m, h => by
    unfold strip
    rw [if_neg (h (by omega))]
theorem strip_up : ∀ (k s : Nat) (m : Int), (0 < s → ¬ m % 10 = 0) → strip (m * 10 ^ k) (s + k) = (m, s)
  | 0, s, m, h => by simpa using strip_self s m h
  | k + 1, s, m, h => by
    have e : m * 10 ^ (k + 1) = (m * 10 ^ k) * 10 := by rw [Int.pow_succ, Int.mul_assoc]
    rw [e, ← Nat.add_assoc]
    unfold strip
    rw [if_pos (by omega), show m * 10 ^ k * 10 / 10 = m * 10 ^ k by omega]
    exact strip_up k s m h
theorem strip_zero : ∀ p, strip 0 p = (0, 0)
  | 0 => rfl
  | p + 1 => by
    unfold strip
    rw [if_pos (by decide)]
    exact strip_zero p

/-- may it be? -/
def okD (d : Dec) : Prop := 0 ≤ d.S ∧ d.S ≤ 9 ∧ (0 < d.S → ¬ d.M % 10 = 0)
/-- what it means, in the least places -/
def V (d : Dec) : Int := d.M * 10 ^ (9 - d.S.toNat)
def I64 (n : Int) : Prop := -9223372036854775808 ≤ n ∧ n ≤ 9223372036854775807
instance (n : Int) : Decidable (I64 n) := inferInstanceAs (Decidable (_ ∧ _))
/-- a number with so many places as a decimal, or that it is too great -/
def decV (v : Int) (p : Nat) : Dec × Int := if I64 (strip v p).1 then (⟨(strip v p).1, ((strip v p).2 : Int)⟩, 0) else (⟨0, 0⟩, 8)
theorem V_strip (v : Int) (p : Nat) (hp : p ≤ 9) : V ⟨(strip v p).1, ((strip v p).2 : Int)⟩ = v * 10 ^ (9 - p) := by
  unfold V
  simp only [Int.toNat_natCast]
  have h1 := strip_le p v
  have h2 := strip_val p v
  rw [show 9 - (strip v p).2 = (p - (strip v p).2) + (9 - p) by omega, Int.pow_add, ← Int.mul_assoc, h2]
theorem ok_strip (v : Int) (p : Nat) (hp : p ≤ 9) : okD ⟨(strip v p).1, ((strip v p).2 : Int)⟩ := by
  have h1 := strip_le p v
  have h2 := strip_norm p v
  refine ⟨by simp, by simp only; omega, fun h => h2 (by simp only at h; omega)⟩
/-- it is told by what it means -/
theorem strip_V {d : Dec} (h : okD d) : strip (V d) 9 = (d.M, d.S.toNat) := by
  obtain ⟨h1, h2, h3⟩ := h
  unfold V
  have := strip_up (9 - d.S.toNat) d.S.toNat d.M (fun h => h3 (by omega))
  rwa [show d.S.toNat + (9 - d.S.toNat) = 9 by omega] at this
theorem decV_V {d : Dec} (h : okD d) (hm : I64 d.M) : decV (V d) 9 = (d, 0) := by
  unfold decV
  rw [strip_V h]
  simp only
  rw [if_pos hm, Int.toNat_of_nonneg h.1]
theorem V_inj {a b : Dec} (ha : okD a) (hb : okD b) (h : V a = V b) : a = b := by
  have h1 := strip_V ha
  rw [h, strip_V hb] at h1
  simp only [Prod.mk.injEq] at h1
  obtain ⟨a1, a2⟩ := a
  obtain ⟨b1, b2⟩ := b
  have := ha.1
  have := hb.1
  simp only at *
  simp only [Dec.mk.injEq]
  omega
theorem decV_ok {v : Int} {p : Nat} {d : Dec} (hp : p ≤ 9) (h : decV v p = (d, 0)) : okD d ∧ I64 d.M ∧ V d = v * 10 ^ (9 - p) := by
  unfold decV at h
  split at h
  · rename_i hi
    simp only [Prod.mk.injEq, and_true] at h
    subst h
    exact ⟨ok_strip v p hp, hi, V_strip v p hp⟩
  · simp at h
theorem strip_abs : ∀ (p : Nat) (v : Int), -v.natAbs ≤ (strip v p).1 ∧ (strip v p).1 ≤ v.natAbs
  | 0, v => by simp only [strip]; omega
  | p + 1, v => by
    unfold strip
    split
    · have := strip_abs p (v / 10); omega
    · omega
theorem decV_small {v : Int} {p : Nat} (h : I64 v) (h2 : v ≠ -9223372036854775808) : (decV v p).2 = 0 := by
  unfold decV
  have := strip_abs p v
  rw [if_pos (by unfold I64 at *; omega)]
/-- rounded, halves away from nothing: of a number that is not below 0 -/
def rdiv (v n : Int) : Int := if n ≤ 2 * (v % n) then v / n + 1 else v / n
def sgn (v : Int) : Int := if v < 0 then -1 else if v = 0 then 0 else 1
/-- rounded, whatever its sign -/
def rnd (v n : Int) : Int := if v < 0 then -rdiv (-v) n else rdiv v n
def cmpV (x y : Int) : Int := if x < y then -1 else if y < x then 1 else 0
end Go.Proofs.YtmlbknmjgahcfaaDoor
