/- PP -/
import Derived.Test.YtdgpkbnnljblmaaGreatDoorV1
import Derived.Lib.ItoaNum
namespace Go.Proofs.YtdgpkbnnljblmaaGreatDoor
open Go Go.Ev
def strip : Int → Nat → Int × Nat
  | v, 0 => (v, 0)
  | v, p + 1 => if v % 10 = 0 then strip (v / 10) p else (v, p + 1)
theorem strip_le : ∀ (p : Nat) (v : Int), (strip v p).2 ≤ p
  | 0, _ => Nat.le_refl _
  | p + 1, v => by
    unfold strip
    split
    · have := strip_le p (v / 10); omega
    · exact Nat.le_refl _
theorem strip_val : ∀ (p : Nat) (v : Int), (strip v p).1 * 10 ^ (p - (strip v p).2) = v
  | 0, v => by simp [strip]
  | p + 1, v => by
    unfold strip
    split
    · rename_i h
      have h1 := strip_val p (v / 10)
      have h2 := strip_le p (v / 10)
      rw [show p + 1 - (strip (v / 10) p).2 = (p - (strip (v / 10) p).2) + 1 by omega, Int.pow_succ, ← Int.mul_assoc, h1]
      omega
    · simp
theorem strip_norm : ∀ (p : Nat) (v : Int), 0 < (strip v p).2 → ¬ (strip v p).1 % 10 = 0
  | 0, v, h => by simp [strip] at h
  | p + 1, v, h => by
    unfold strip at h ⊢
    split
    · rename_i h0
      rw [if_pos h0] at h
      exact strip_norm p (v / 10) h
    · assumption
theorem strip_self : ∀ (s : Nat) (m : Int), (0 < s → ¬ m % 10 = 0) → strip m s = (m, s)
  | 0, m, _ => rfl
  | s + 1, m, h => by
    unfold strip
    rw [if_neg (h (by omega))]
theorem strip_up : ∀ (k s : Nat) (m : Int), (0 < s → ¬ m % 10 = 0) → strip (m * 10 ^ k) (s + k) = (m, s)
  | 0, s, m, h => by simpa using strip_self s m h
  | k + 1, s, m, h => by
    have e : m * 10 ^ (k + 1) = (m * 10 ^ k) * 10 := by rw [Int.pow_succ, Int.mul_assoc]
    rw [e, ← Nat.add_assoc]
    unfold strip
    rw [if_pos (by omega), show m * 10 ^ k * 10 / 10 = m * 10 ^ k by omega]
    exact strip_up k s m h
def okD (d : Dec) : Prop := 0 ≤ d.S ∧ d.S ≤ 9 ∧ (0 < d.S → ¬ d.M % 10 = 0)
def V (d : Dec) : Int := d.M * 10 ^ (9 - d.S.toNat)
def I64 (n : Int) : Prop := -9223372036854775808 ≤ n ∧ n ≤ 9223372036854775807
instance (n : Int) : Decidable (I64 n) := inferInstanceAs (Decidable (_ ∧ _))
def decV (v : Int) (p : Nat) : Dec × Int := if I64 (strip v p).1 then (⟨(strip v p).1, ((strip v p).2 : Int)⟩, 0) else (⟨0, 0⟩, 8)
theorem V_strip (v : Int) (p : Nat) (hp : p ≤ 9) : V ⟨(strip v p).1, ((strip v p).2 : Int)⟩ = v * 10 ^ (9 - p) := by
  unfold V
  simp only [Int.toNat_natCast]
  have h1 := strip_le p v
  have h2 := strip_val p v
  rw [show 9 - (strip v p).2 = (p - (strip v p).2) + (9 - p) by omega, Int.pow_add, ← Int.mul_assoc, h2]
theorem ok_strip (v : Int) (p : Nat) (hp : p ≤ 9) : okD ⟨(strip v p).1, ((strip v p).2 : Int)⟩ := by
  have h1 := strip_le p v
  have h2 := strip_norm p v
  refine ⟨by simp, by simp only; omega, fun h => h2 (by simp only at h; omega)⟩
theorem strip_V {d : Dec} (h : okD d) : strip (V d) 9 = (d.M, d.S.toNat) := by
  obtain ⟨h1, h2, h3⟩ := h
  unfold V
  have := strip_up (9 - d.S.toNat) d.S.toNat d.M (fun h => h3 (by omega))
  rwa [show d.S.toNat + (9 - d.S.toNat) = 9 by omega] at this
theorem decV_V {d : Dec} (h : okD d) (hm : I64 d.M) : decV (V d) 9 = (d, 0) := by
  unfold decV
  rw [strip_V h]
  simp only
  rw [if_pos hm, Int.toNat_of_nonneg h.1]
theorem decV_ok {v : Int} {p : Nat} {d : Dec} (hp : p ≤ 9) (h : decV v p = (d, 0)) : okD d ∧ I64 d.M ∧ V d = v * 10 ^ (9 - p) := by
  unfold decV at h
  split at h
  · rename_i hi
    simp only [Prod.mk.injEq, and_true] at h
    subst h
    exact ⟨ok_strip v p hp, hi, V_strip v p hp⟩
  · simp at h
theorem strip_abs : ∀ (p : Nat) (v : Int), -v.natAbs ≤ (strip v p).1 ∧ (strip v p).1 ≤ v.natAbs
  | 0, v => by simp only [strip]; omega
  | p + 1, v => by
    unfold strip
    split
    · have := strip_abs p (v / 10); omega
    · omega
def rdiv (v n : Int) : Int := if n ≤ 2 * (v % n) then v / n + 1 else v / n
def cmpV (x y : Int) : Int := if x < y then -1 else if y < x then 1 else 0
theorem u64 (n : Int) : IntKind.u64.wrap n = n % 18446744073709551616 := by simp [IntKind.wrap, IntKind.bits, IntKind.signed]
theorem i64 (n : Int) : IntKind.i64.wrap n = (n + 9223372036854775808) % 18446744073709551616 - 9223372036854775808 := IntKind.wrap_i64 n
theorem u64_in {n : Int} (h0 : 0 ≤ n) (h1 : n < 18446744073709551616) : IntKind.u64.wrap n = n := by rw [u64]; omega
theorem i64_in {n : Int} (h0 : -9223372036854775808 ≤ n) (h1 : n ≤ 9223372036854775807) : IntKind.i64.wrap n = n := by rw [i64]; omega
theorem and32 {x : Int} (h0 : 0 ≤ x) (h1 : x < 18446744073709551616) : bitsOf .and .u64 x 4294967295 = x % 4294967296 := by
  obtain ⟨n, rfl⟩ := Int.eq_ofNat_of_zero_le h0
  simp only [bitsOf]
  rw [BitVec.toNat_and, show (4294967295 : Int) = ((4294967295 : Nat) : Int) from rfl, BitVec.ofInt_natCast, BitVec.ofInt_natCast, BitVec.toNat_ofNat, BitVec.toNat_ofNat, u64]
  have e1 : n % 2 ^ IntKind.u64.bits = n := Nat.mod_eq_of_lt (by simp only [IntKind.bits]; omega)
  have e2 : 4294967295 % 2 ^ IntKind.u64.bits = 2 ^ 32 - 1 := by decide
  rw [e1, e2, Nat.and_two_pow_sub_one_eq_mod]
  omega
theorem or_low {a b : Int} {s : Nat} (ha : 0 ≤ a) (hb : 0 ≤ b) (hb2 : b < 2 ^ s) (h : a * 2 ^ s + b < 18446744073709551616) : bitsOf .or .u64 (a * 2 ^ s) b = a * 2 ^ s + b := by
  obtain ⟨m, rfl⟩ := Int.eq_ofNat_of_zero_le ha
  obtain ⟨n, rfl⟩ := Int.eq_ofNat_of_zero_le hb
  have c : ((2 : Int) ^ s) = ((2 ^ s : Nat) : Int) := by simp
  rw [c] at *
  have hb3 : n < 2 ^ s := Int.ofNat_lt.1 hb2
  simp only [bitsOf]
  rw [BitVec.toNat_or, ← Int.natCast_mul, BitVec.ofInt_natCast, BitVec.ofInt_natCast, BitVec.toNat_ofNat, BitVec.toNat_ofNat, u64]
  have h' : ((m * 2 ^ s : Nat) : Int) + n < 18446744073709551616 := by rw [Int.natCast_mul]; simpa using h
  generalize hp : m * 2 ^ s = p at *
  have e1 : p % 2 ^ IntKind.u64.bits = p := Nat.mod_eq_of_lt (by simp only [IntKind.bits]; omega)
  have e2 : n % 2 ^ IntKind.u64.bits = n := Nat.mod_eq_of_lt (by simp only [IntKind.bits]; omega)
  rw [e1, e2, ← hp, ← Nat.shiftLeft_eq, ← Nat.shiftLeft_add_eq_or_of_lt hb3, Nat.shiftLeft_eq, hp]
  omega
theorem mul_le {a b c d : Int} (ha : 0 ≤ a) (hb : 0 ≤ b) (h1 : a ≤ c) (h2 : b ≤ d) : a * b ≤ c * d :=
  Int.le_trans (Int.mul_le_mul_of_nonneg_right h1 hb) (Int.mul_le_mul_of_nonneg_left h2 (by omega))
theorem mul_nn {a b : Int} (ha : 0 ≤ a) (hb : 0 ≤ b) : 0 ≤ a * b := Int.mul_nonneg ha hb
theorem mul_core (p11 p10 p01 p00 : Int) :
    (p11 + (p10 + p00 / 4294967296) / 4294967296 + ((p10 + p00 / 4294967296) % 4294967296 + p01) / 4294967296) =
      (p11 * 18446744073709551616 + (p10 + p01) * 4294967296 + p00) / 18446744073709551616 := by omega
theorem Mul64_is {x y : Int} (hx0 : 0 ≤ x) (hx : x < 18446744073709551616) (hy0 : 0 ≤ y) (hy : y < 18446744073709551616) :
    bits_Mul64F (x, y) = some (x * y / 18446744073709551616, x * y % 18446744073709551616) := by
  unfold bits_Mul64F
  simp only [and32 hx0 hx, and32 hy0 hy]
  rw [Int.fdiv_eq_ediv_of_nonneg x (by omega), Int.fdiv_eq_ediv_of_nonneg y (by omega)]
  obtain ⟨x1, e1⟩ : ∃ n, x / 4294967296 = n := ⟨_, rfl⟩
  obtain ⟨x0, e0⟩ : ∃ n, x % 4294967296 = n := ⟨_, rfl⟩
  obtain ⟨y1, f1⟩ : ∃ n, y / 4294967296 = n := ⟨_, rfl⟩
  obtain ⟨y0, f0⟩ : ∃ n, y % 4294967296 = n := ⟨_, rfl⟩
  have hxe : x = x1 * 4294967296 + x0 := by omega
  have hye : y = y1 * 4294967296 + y0 := by omega
  have bx1 : 0 ≤ x1 ∧ x1 ≤ 4294967295 := by omega
  have bx0 : 0 ≤ x0 ∧ x0 ≤ 4294967295 := by omega
  have by1 : 0 ≤ y1 ∧ y1 ≤ 4294967295 := by omega
  have by0 : 0 ≤ y0 ∧ y0 ≤ 4294967295 := by omega
  rw [e1, e0, f1, f0]
  have hxy : x * y = x1 * y1 * 18446744073709551616 + (x1 * y0 + x0 * y1) * 4294967296 + x0 * y0 := by
    rw [hxe, hye, Int.add_mul, Int.mul_add, Int.mul_add, Int.add_mul]
    have a1 : x1 * 4294967296 * (y1 * 4294967296) = x1 * y1 * 18446744073709551616 := by
      rw [Int.mul_assoc, Int.mul_left_comm 4294967296, ← Int.mul_assoc]; rfl
    have a2 : x1 * 4294967296 * y0 = x1 * y0 * 4294967296 := by rw [Int.mul_assoc, Int.mul_comm 4294967296, ← Int.mul_assoc]
    have a3 : x0 * (y1 * 4294967296) = x0 * y1 * 4294967296 := by rw [Int.mul_assoc]
    rw [a1, a2, a3]; omega
  have k11 : x1 * y1 ≤ 4294967295 * 4294967295 := mul_le bx1.1 by1.1 bx1.2 by1.2
  have k10 : x1 * y0 ≤ 4294967295 * 4294967295 := mul_le bx1.1 by0.1 bx1.2 by0.2
  have k01 : x0 * y1 ≤ 4294967295 * 4294967295 := mul_le bx0.1 by1.1 bx0.2 by1.2
  have k00 : x0 * y0 ≤ 4294967295 * 4294967295 := mul_le bx0.1 by0.1 bx0.2 by0.2
  have n11 := mul_nn bx1.1 by1.1
  have n10 := mul_nn bx1.1 by0.1
  have n01 := mul_nn bx0.1 by1.1
  have n00 := mul_nn bx0.1 by0.1
  rw [hxy]
  generalize x1 * y1 = p11 at *
  generalize x1 * y0 = p10 at *
  generalize x0 * y1 = p01 at *
  generalize x0 * y0 = p00 at *
  have hc := mul_core p11 p10 p01 p00
  have w00 : IntKind.u64.wrap p00 = p00 := u64_in n00 (by omega)
  have w10 : IntKind.u64.wrap p10 = p10 := u64_in n10 (by omega)
  have w01 : IntKind.u64.wrap p01 = p01 := u64_in n01 (by omega)
  have w11 : IntKind.u64.wrap p11 = p11 := u64_in n11 (by omega)
  rw [w00, w10, w01, w11, Int.fdiv_eq_ediv_of_nonneg p00 (by omega)]
  have t0 : IntKind.u64.wrap (p10 + p00 / 4294967296) = p10 + p00 / 4294967296 := u64_in (by omega) (by omega)
  rw [t0, and32 (by omega) (by omega), Int.fdiv_eq_ediv_of_nonneg (p10 + p00 / 4294967296) (by omega)]
  have t1 : IntKind.u64.wrap ((p10 + p00 / 4294967296) % 4294967296 + p01) = (p10 + p00 / 4294967296) % 4294967296 + p01 := u64_in (by omega) (by omega)
  rw [t1, Int.fdiv_eq_ediv_of_nonneg ((p10 + p00 / 4294967296) % 4294967296 + p01) (by omega)]
  have t2 : IntKind.u64.wrap (p11 + (p10 + p00 / 4294967296) / 4294967296) = p11 + (p10 + p00 / 4294967296) / 4294967296 := u64_in (by omega) (by omega)
  rw [t2, hc, u64_in (by omega) (by omega), u64]
theorem guess_is {F : (Int × Int → Option Int) → Int × Int → Option Int} {u d y1 y0 : Int}
    (hu0 : 0 ≤ u) (hd0 : 0 ≤ d) (hd : d < 4294967296) (hy1 : 2147483648 ≤ y1) (hy1' : y1 < 4294967296) (hy0 : 0 ≤ y0) (hy0' : y0 < 4294967296) (hu : u < y1 * 4294967296 + y0)
    (hF : ∀ back q r, 0 ≤ q → q ≤ 4294967297 → 0 ≤ r → r < 4294967296 → F back (q, r) =
      if 4294967296 ≤ q ∨ 4294967296 * r + d < q * y0 then (if 4294967296 ≤ r + y1 then some (q - 1) else back (q - 1, r + y1)) else some q) :
    iter F big (u / y1, u % y1) = some ((u * 4294967296 + d) / (y1 * 4294967296 + y0)) := by
  have hyn : 0 < y1 * 4294967296 + y0 := by omega
  obtain ⟨Q, hQ⟩ : ∃ Q, (u * 4294967296 + d) / (y1 * 4294967296 + y0) = Q := ⟨_, rfl⟩
  have hQ1 : Q * (y1 * 4294967296 + y0) ≤ u * 4294967296 + d := by rw [← hQ]; exact Int.ediv_mul_le _ (by omega)
  have hQ0 : 0 ≤ Q := by rw [← hQ]; exact Int.ediv_nonneg (by omega) (by omega)
  have hQB : Q < 4294967296 := by rw [← hQ]; exact (Int.ediv_lt_iff_lt_mul hyn).2 (by omega)
  have hle : ∀ q : Int, q * (y1 * 4294967296 + y0) ≤ u * 4294967296 + d → q ≤ Q := fun q h => by
    rw [← hQ]; exact (Int.le_ediv_iff_mul_le hyn).2 h
  have ex : ∀ q : Int, q * (y1 * 4294967296 + y0) = q * y1 * 4294967296 + q * y0 := fun q => by rw [Int.mul_add, Int.mul_assoc]
  rw [hQ]
  refine iter_big (fun x => x.1.toNat) (fun x => x.2 = u - x.1 * y1 ∧ 0 ≤ x.2 ∧ x.2 < 4294967296 ∧ Q ≤ x.1 ∧ x.1 ≤ 4294967297) (fun _ => Q) ?_ _ ?_ ?_
  · intro back x hp hback
    obtain ⟨q, r⟩ := x
    obtain ⟨h1, h2, h3, h4, h5⟩ := hp
    simp only at h1 h2 h3 h4 h5 hback
    rw [hF back q r (by omega) h5 h2 h3]
    by_cases hc : 4294967296 ≤ q ∨ 4294967296 * r + d < q * y0
    · have hlt : Q < q := by
        rcases hc with hc | hc
        · omega
        · by_cases h : Q < q
          · exact h
          · have hqQ : q = Q := by omega
            subst hqQ
            rw [ex] at hQ1
            omega
      rw [if_pos hc]
      have hs : (q - 1) * y1 = q * y1 - y1 := by rw [Int.sub_mul]; omega
      by_cases hr : 4294967296 ≤ r + y1
      · rw [if_pos hr]
        have : q - 1 ≤ Q := by
          apply hle
          rw [ex, hs]
          have : (q - 1) * y0 ≤ 4294967296 * 4294967296 := mul_le (by omega) hy0 (by omega) (by omega)
          omega
        simp only [Option.some.injEq]
        omega
      · rw [if_neg hr]
        exact hback (q - 1, r + y1) ⟨by simp only; omega, by simp only; omega, by simp only; omega, by simp only; omega, by simp only; omega⟩ (by simp only; omega)
    · rw [if_neg hc]
      have : q ≤ Q := by
        apply hle
        rw [ex]
        omega
      simp only [Option.some.injEq]
      omega
  · have hm := Int.emod_nonneg u (show y1 ≠ 0 by omega)
    have hm2 := Int.emod_lt_of_pos u (show 0 < y1 by omega)
    have hdm := Int.mul_ediv_add_emod u y1
    have hc := Int.mul_comm y1 (u / y1)
    refine ⟨by simp only; omega, hm, by simp only; omega, ?_, ?_⟩
    · refine (Int.le_ediv_iff_mul_le (by omega)).2 ?_
      rw [ex] at hQ1
      have := mul_nn hQ0 hy0
      omega
    · have : u / y1 < 4294967298 := (Int.ediv_lt_iff_lt_mul (by omega)).2 (by omega)
      simp only; omega
  · have : u / y1 < 4294967298 := (Int.ediv_lt_iff_lt_mul (by omega)).2 (by omega)
    simp only; omega
theorem l1_is {back : Int × Int × Int × Int × Int → Option Int} {y1 y0 d q r : Int} (hd0 : 0 ≤ d) (hd : d < 4294967296) (_ : 2147483648 ≤ y1) (hy1' : y1 < 4294967296) (hy0 : 0 ≤ y0) (hy0' : y0 < 4294967296)
    (hq0 : 0 ≤ q) (hq : q ≤ 4294967297) (hr0 : 0 ≤ r) (hr : r < 4294967296) :
    bits_Div64_l1F back (y1, y0, d, q, r) = if 4294967296 ≤ q ∨ 4294967296 * r + d < q * y0 then (if 4294967296 ≤ r + y1 then some (q - 1) else back (y1, y0, d, q - 1, r + y1)) else some q := by
  unfold bits_Div64_l1F
  simp only
  rw [u64_in (n := r + y1) (by omega) (by omega)]
  by_cases h : 4294967296 ≤ q
  · rw [u64_in (n := q - 1) (by omega) (by omega)]
    simp only [h, decide_true, brn_true, true_or, if_true]
    by_cases h2 : 4294967296 ≤ r + y1 <;> simp [h2]
  · have : q * y0 ≤ 4294967295 * 4294967295 := mul_le hq0 hy0 (by omega) (by omega)
    have n := mul_nn hq0 hy0
    simp only [h, decide_false, brn_false, false_or]
    rw [u64_in (n := 4294967296 * r) (by omega) (by omega), u64_in (n := 4294967296 * r + d) (by omega) (by omega), u64_in (n := q * y0) n (by omega)]
    by_cases h3 : 4294967296 * r + d < q * y0
    · have : q ≠ 0 := fun h0 => by subst h0; omega
      rw [u64_in (n := q - 1) (by omega) (by omega)]
      simp only [h3, decide_true, brn_true, if_true]
      by_cases h2 : 4294967296 ≤ r + y1 <;> simp [h2]
    · simp [h3]
theorem l2_is {back : Int × Int × Int × Int × Int → Option Int} {y1 y0 d q r : Int} (hd0 : 0 ≤ d) (hd : d < 4294967296) (_ : 2147483648 ≤ y1) (hy1' : y1 < 4294967296) (hy0 : 0 ≤ y0) (hy0' : y0 < 4294967296)
    (hq0 : 0 ≤ q) (hq : q ≤ 4294967297) (hr0 : 0 ≤ r) (hr : r < 4294967296) :
    bits_Div64_l2F back (y1, y0, d, r, q) = if 4294967296 ≤ q ∨ 4294967296 * r + d < q * y0 then (if 4294967296 ≤ r + y1 then some (q - 1) else back (y1, y0, d, r + y1, q - 1)) else some q := by
  unfold bits_Div64_l2F
  simp only
  rw [u64_in (n := r + y1) (by omega) (by omega)]
  by_cases h : 4294967296 ≤ q
  · rw [u64_in (n := q - 1) (by omega) (by omega)]
    simp only [h, decide_true, brn_true, true_or, if_true]
    by_cases h2 : 4294967296 ≤ r + y1 <;> simp [h2]
  · have : q * y0 ≤ 4294967295 * 4294967295 := mul_le hq0 hy0 (by omega) (by omega)
    have n := mul_nn hq0 hy0
    simp only [h, decide_false, brn_false, false_or]
    rw [u64_in (n := 4294967296 * r) (by omega) (by omega), u64_in (n := 4294967296 * r + d) (by omega) (by omega), u64_in (n := q * y0) n (by omega)]
    by_cases h3 : 4294967296 * r + d < q * y0
    · have : q ≠ 0 := fun h0 => by subst h0; omega
      rw [u64_in (n := q - 1) (by omega) (by omega)]
      simp only [h3, decide_true, brn_true, if_true]
      by_cases h2 : 4294967296 ≤ r + y1 <;> simp [h2]
    · simp [h3]
theorem iter_map {X Y Z : Type} {F : (X → Option Y) → X → Option Y} {G : (Z → Option Y) → Z → Option Y} (e : Z → X) (ok : Z → Prop)
    (h : ∀ back back' z, ok z → (∀ z', ok z' → back (e z') = back' z') → F back (e z) = G back' z) : ∀ n z, ok z → iter F n (e z) = iter G n z
  | 0, z, _ => by rw [iter_zero, iter_zero]
  | n + 1, z, hz => by
    rw [iter_succ, iter_succ]
    exact h _ _ z hz fun z' hz' => iter_map e ok h n z' hz'
def guess (y1 y0 d : Int) (back : Int × Int → Option Int) (z : Int × Int) : Option Int :=
  if 0 ≤ z.1 ∧ z.1 ≤ 4294967297 ∧ 0 ≤ z.2 ∧ z.2 < 4294967296 then
    if 4294967296 ≤ z.1 ∨ 4294967296 * z.2 + d < z.1 * y0 then (if 4294967296 ≤ z.2 + y1 then some (z.1 - 1) else back (z.1 - 1, z.2 + y1)) else some z.1
  else none
theorem guess_ok {y1 y0 d : Int} {back : Int × Int → Option Int} {z : Int × Int} (h : 0 ≤ z.1 ∧ z.1 ≤ 4294967297 ∧ 0 ≤ z.2 ∧ z.2 < 4294967296) : guess y1 y0 d back z =
    if 4294967296 ≤ z.1 ∨ 4294967296 * z.2 + d < z.1 * y0 then (if 4294967296 ≤ z.2 + y1 then some (z.1 - 1) else back (z.1 - 1, z.2 + y1)) else some z.1 := if_pos h
theorem l1_guess {u d y1 y0 : Int} (hu0 : 0 ≤ u) (hd0 : 0 ≤ d) (hd : d < 4294967296) (hy1 : 2147483648 ≤ y1) (hy1' : y1 < 4294967296) (hy0 : 0 ≤ y0) (hy0' : y0 < 4294967296) (hu : u < y1 * 4294967296 + y0) :
    bits_Div64_l1J (y1, y0, d, u / y1, u % y1) = some ((u * 4294967296 + d) / (y1 * 4294967296 + y0)) := by
  have h := guess_is (F := guess y1 y0 d) hu0 hd0 hd hy1 hy1' hy0 hy0' hu fun back q r h1 h2 h3 h4 => by
    rw [guess_ok ⟨h1, h2, h3, h4⟩]
  have hlt : u / y1 < 4294967298 := (Int.ediv_lt_iff_lt_mul (by omega)).2 (by omega)
  have hnn : 0 ≤ u / y1 := Int.ediv_nonneg hu0 (by omega)
  have hm := Int.emod_nonneg u (show y1 ≠ 0 by omega)
  have hm2 := Int.emod_lt_of_pos u (show 0 < y1 by omega)
  rw [← h]
  refine iter_map (F := bits_Div64_l1F) (fun z : Int × Int => (y1, y0, d, z.1, z.2)) (fun z => 0 ≤ z.1 ∧ z.1 ≤ 4294967297 ∧ 0 ≤ z.2 ∧ z.2 < 4294967296) ?_ big (u / y1, u % y1) ⟨hnn, by simp only; omega, hm, by simp only; omega⟩
  intro back back' z hz hb
  obtain ⟨h1, h2, h3, h4⟩ := hz
  rw [l1_is hd0 hd hy1 hy1' hy0 hy0' h1 h2 h3 h4]
  rw [guess_ok ⟨h1, h2, h3, h4⟩]
  by_cases hc : 4294967296 ≤ z.1 ∨ 4294967296 * z.2 + d < z.1 * y0
  · rw [if_pos hc, if_pos hc]
    by_cases hr : 4294967296 ≤ z.2 + y1
    · rw [if_pos hr, if_pos hr]
    · rw [if_neg hr, if_neg hr]
      refine hb (z.1 - 1, z.2 + y1) ⟨?_, by simp only; omega, by simp only; omega, by simp only; omega⟩
      rcases hc with hc | hc
      · simp only; omega
      · by_cases h0 : z.1 = 0
        · rw [h0] at hc; omega
        · simp only; omega
  · rw [if_neg hc, if_neg hc]
theorem l2_guess {u d y1 y0 : Int} (hu0 : 0 ≤ u) (hd0 : 0 ≤ d) (hd : d < 4294967296) (hy1 : 2147483648 ≤ y1) (hy1' : y1 < 4294967296) (hy0 : 0 ≤ y0) (hy0' : y0 < 4294967296) (hu : u < y1 * 4294967296 + y0) :
    bits_Div64_l2J (y1, y0, d, u % y1, u / y1) = some ((u * 4294967296 + d) / (y1 * 4294967296 + y0)) := by
  have h := guess_is (F := guess y1 y0 d) hu0 hd0 hd hy1 hy1' hy0 hy0' hu fun back q r h1 h2 h3 h4 => by
    rw [guess_ok ⟨h1, h2, h3, h4⟩]
  have hlt : u / y1 < 4294967298 := (Int.ediv_lt_iff_lt_mul (by omega)).2 (by omega)
  have hnn : 0 ≤ u / y1 := Int.ediv_nonneg hu0 (by omega)
  have hm := Int.emod_nonneg u (show y1 ≠ 0 by omega)
  have hm2 := Int.emod_lt_of_pos u (show 0 < y1 by omega)
  rw [← h]
  refine iter_map (F := bits_Div64_l2F) (fun z : Int × Int => (y1, y0, d, z.2, z.1)) (fun z => 0 ≤ z.1 ∧ z.1 ≤ 4294967297 ∧ 0 ≤ z.2 ∧ z.2 < 4294967296) ?_ big (u / y1, u % y1) ⟨hnn, by simp only; omega, hm, by simp only; omega⟩
  intro back back' z hz hb
  obtain ⟨h1, h2, h3, h4⟩ := hz
  rw [l2_is hd0 hd hy1 hy1' hy0 hy0' h1 h2 h3 h4]
  rw [guess_ok ⟨h1, h2, h3, h4⟩]
  by_cases hc : 4294967296 ≤ z.1 ∨ 4294967296 * z.2 + d < z.1 * y0
  · rw [if_pos hc, if_pos hc]
    by_cases hr : 4294967296 ≤ z.2 + y1
    · rw [if_pos hr, if_pos hr]
    · rw [if_neg hr, if_neg hr]
      refine hb (z.1 - 1, z.2 + y1) ⟨?_, by simp only; omega, by simp only; omega, by simp only; omega⟩
      rcases hc with hc | hc
      · simp only; omega
      · by_cases h0 : z.1 = 0
        · rw [h0] at hc; omega
        · simp only; omega
  · rw [if_neg hc, if_neg hc]
def div_v (yn u t q : Int) : Int := IntKind.u64.wrap (IntKind.u64.wrap (IntKind.u64.wrap (u * 4294967296) + t.fdiv 4294967296) - IntKind.u64.wrap (q * yn))
def div_inner (yn u t : Int) (S : Int) : Option (Int × Int) :=
  obnd (bits_Div64_l1J (yn.fdiv 4294967296, bitsOf BinOp.and IntKind.u64 yn 4294967295, t.fdiv 4294967296, IntKind.u64.wrap (u.tdiv (yn.fdiv 4294967296)),
      IntKind.u64.wrap (u - IntKind.u64.wrap (IntKind.u64.wrap (u.tdiv (yn.fdiv 4294967296)) * yn.fdiv 4294967296)))) fun q1 =>
      (obnd (bits_Div64_l2J (yn.fdiv 4294967296, bitsOf BinOp.and IntKind.u64 yn 4294967295, bitsOf BinOp.and IntKind.u64 t 4294967295,
          IntKind.u64.wrap (div_v yn u t q1 - IntKind.u64.wrap (IntKind.u64.wrap ((div_v yn u t q1).tdiv (yn.fdiv 4294967296)) * yn.fdiv 4294967296)),
          IntKind.u64.wrap ((div_v yn u t q1).tdiv (yn.fdiv 4294967296)))) fun q0 =>
        some (IntKind.u64.wrap (IntKind.u64.wrap (q1 * 4294967296) + q0),
          (IntKind.u64.wrap (IntKind.u64.wrap (IntKind.u64.wrap (div_v yn u t q1 * 4294967296) + bitsOf BinOp.and IntKind.u64 t 4294967295) - IntKind.u64.wrap (q0 * yn))).fdiv S))
theorem tdiv_nn {a b : Int} (ha : 0 ≤ a) : a.tdiv b = a / b := Int.tdiv_eq_ediv_of_nonneg ha
theorem rest_is {u d : Int} (hu : 0 ≤ u) (hu' : u < 18446744073709551616) (hd : 0 < d) : IntKind.u64.wrap (u.tdiv d) = u / d ∧ IntKind.u64.wrap (u - IntKind.u64.wrap (IntKind.u64.wrap (u.tdiv d) * d)) = u % d := by
  rw [tdiv_nn hu]
  have h1 : 0 ≤ u / d := Int.ediv_nonneg hu (by omega)
  have h2 : u / d ≤ u := Int.ediv_le_self _ hu
  have h3 := Int.mul_ediv_add_emod u d
  have h4 := Int.emod_nonneg u (show d ≠ 0 by omega)
  have h5 := Int.mul_comm d (u / d)
  have h6 := mul_nn h1 (show 0 ≤ d by omega)
  rw [u64_in h1 (by omega), u64_in h6 (by omega), u64_in (by omega) (by omega)]
  exact ⟨rfl, by omega⟩
theorem div_v_is {yn u t q : Int} (hq : q = (u * 4294967296 + t / 4294967296) / yn) (hyn : 0 < yn) (hyn' : yn < 18446744073709551616) :
    div_v yn u t q = u * 4294967296 + t / 4294967296 - q * yn ∧ 0 ≤ div_v yn u t q ∧ div_v yn u t q < yn := by
  have h3 := Int.mul_ediv_add_emod (u * 4294967296 + t / 4294967296) yn
  have h4 := Int.emod_nonneg (u * 4294967296 + t / 4294967296) (show yn ≠ 0 by omega)
  have h5 := Int.emod_lt_of_pos (u * 4294967296 + t / 4294967296) hyn
  rw [← hq, Int.mul_comm] at h3
  have e : div_v yn u t q = u * 4294967296 + t / 4294967296 - q * yn := by
    unfold div_v
    rw [Int.fdiv_eq_ediv_of_nonneg t (by omega)]
    simp only [u64]
    omega
  rw [e]
  refine ⟨rfl, by omega, by omega⟩
theorem div_inner_is {yn u t S : Int} (hyn : 9223372036854775808 ≤ yn) (hyn' : yn < 18446744073709551616) (hu : 0 ≤ u) (hu' : u < yn) (ht : 0 ≤ t) (ht' : t < 18446744073709551616) (hS : 0 < S) :
    div_inner yn u t S = some ((u * 18446744073709551616 + t) / yn, (u * 18446744073709551616 + t) % yn / S) := by
  unfold div_inner
  rw [Int.fdiv_eq_ediv_of_nonneg yn (by omega), Int.fdiv_eq_ediv_of_nonneg t (by omega), and32 (x := yn) (by omega) hyn', and32 (x := t) ht ht']
  obtain ⟨r1, r2⟩ := rest_is (u := u) (d := yn / 4294967296) hu (by omega) (by omega)
  rw [r2, r1, l1_guess hu (by omega) (by omega) (by omega) (by omega) (by omega) (by omega) (by omega), obnd_some]
  have hyne : yn / 4294967296 * 4294967296 + yn % 4294967296 = yn := by omega
  rw [hyne]
  obtain ⟨q1, hq1⟩ : ∃ q, (u * 4294967296 + t / 4294967296) / yn = q := ⟨_, rfl⟩
  rw [hq1]
  obtain ⟨v1, v2, v3⟩ := div_v_is hq1.symm (by omega) hyn'
  obtain ⟨v, hv⟩ : ∃ v, div_v yn u t q1 = v := ⟨_, rfl⟩
  rw [hv] at v1 v2 v3 ⊢
  obtain ⟨s1, s2⟩ := rest_is (u := v) (d := yn / 4294967296) v2 (by omega) (by omega)
  rw [s2, s1, l2_guess v2 (by omega) (by omega) (by omega) (by omega) (by omega) (by omega) (by omega), obnd_some, hyne]
  obtain ⟨q0, hq0⟩ : ∃ q, (v * 4294967296 + t % 4294967296) / yn = q := ⟨_, rfl⟩
  rw [hq0]
  have h3 := Int.mul_ediv_add_emod (v * 4294967296 + t % 4294967296) yn
  have h4 := Int.emod_nonneg (v * 4294967296 + t % 4294967296) (show yn ≠ 0 by omega)
  have h5 := Int.emod_lt_of_pos (v * 4294967296 + t % 4294967296) (show 0 < yn by omega)
  rw [hq0, Int.mul_comm] at h3
  have b1 : q1 < 4294967296 := by rw [← hq1]; exact (Int.ediv_lt_iff_lt_mul (by omega)).2 (by omega)
  have b1' : 0 ≤ q1 := by rw [← hq1]; exact Int.ediv_nonneg (by omega) (by omega)
  have b0 : q0 < 4294967296 := by rw [← hq0]; exact (Int.ediv_lt_iff_lt_mul (by omega)).2 (by omega)
  have b0' : 0 ≤ q0 := by rw [← hq0]; exact Int.ediv_nonneg (by omega) (by omega)
  have key : u * 18446744073709551616 + t = (v * 4294967296 + t % 4294967296) % yn + yn * (q1 * 4294967296 + q0) := by
    have e1 : yn * (q1 * 4294967296 + q0) = q1 * yn * 4294967296 + q0 * yn := by
      rw [Int.mul_add, Int.mul_comm yn q0, ← Int.mul_assoc, Int.mul_comm yn q1]
    rw [e1]; omega
  have kq : (u * 18446744073709551616 + t) / yn = q1 * 4294967296 + q0 := by
    rw [key, Int.add_mul_ediv_left _ _ (show yn ≠ 0 by omega), Int.ediv_eq_zero_of_lt h4 h5, Int.zero_add]
  have kr : (u * 18446744073709551616 + t) % yn = (v * 4294967296 + t % 4294967296) % yn := by
    rw [key, Int.add_mul_emod_self_left, Int.emod_emod]
  have er : IntKind.u64.wrap (IntKind.u64.wrap (IntKind.u64.wrap (v * 4294967296) + t % 4294967296) - IntKind.u64.wrap (q0 * yn)) = (v * 4294967296 + t % 4294967296) % yn := by
    simp only [u64]
    omega
  rw [kq, kr, er, Int.fdiv_eq_ediv_of_nonneg _ (by omega), u64_in (n := q1 * 4294967296) (by omega) (by omega), u64_in (by omega) (by omega)]
set_option maxHeartbeats 1000000 in
theorem Div64_is {hi lo y : Int} (h0 : 0 ≤ hi) (h1 : hi < y) (hl0 : 0 ≤ lo) (hl : lo < 18446744073709551616) (hy : y < 18446744073709551616) :
    bits_Div64F (hi, lo, y) = some ((hi * 18446744073709551616 + lo) / y, (hi * 18446744073709551616 + lo) % y) := by
  have f1 : decide (y = 0) = false := decide_eq_false (by omega)
  have f2 : decide (y ≤ hi) = false := decide_eq_false (by omega)
  by_cases hz : hi = 0
  · subst hz
    unfold bits_Div64F
    simp only [f1, f2, brn_false, decide_true, brn_true]
    rw [tdiv_nn hl0, Int.tmod_eq_emod_of_nonneg hl0, Int.zero_mul, Int.zero_add]
    have := Int.ediv_le_self y hl0
    have := Int.ediv_nonneg hl0 (show 0 ≤ y by omega)
    rw [u64_in this (by omega)]
  have f3 : decide (hi = 0) = false := decide_eq_false hz
  obtain ⟨Y, rfl⟩ := Int.eq_ofNat_of_zero_le (show 0 ≤ y by omega)
  obtain ⟨b1, b2, b3⟩ := Lib.bitLenAux_bounds 64 Y (by omega) (by omega)
  have b4 : Lib.bitLenAux 64 Y ≤ 64 := by
    refine Nat.le_of_not_lt fun h => ?_
    have := Nat.pow_le_pow_right (show 0 < 2 by omega) (show 64 ≤ Lib.bitLenAux 64 Y - 1 by omega)
    omega
  obtain ⟨b, hb⟩ : ∃ b, Lib.bitLenAux 64 Y = b := ⟨_, rfl⟩
  rw [hb] at b1 b2 b3 b4
  obtain ⟨s, hs⟩ : ∃ s, s + b = 64 := ⟨64 - b, by omega⟩
  have hST : (2 : Int) ^ s * 2 ^ b = 18446744073709551616 := by rw [← Int.pow_add, hs]; rfl
  have hS0 : (0 : Int) < 2 ^ s := Int.pow_pos (by omega)
  have hT0 : (0 : Int) < 2 ^ b := Int.pow_pos (by omega)
  have hYT : (Y : Int) < 2 ^ b := by
    have := Int.ofNat_lt.2 b3
    simpa using this
  have hYS : (Y : Int) * 2 ^ s < 18446744073709551616 := by
    rw [← hST, Int.mul_comm ((2 : Int) ^ s)]
    exact Int.mul_lt_mul_of_pos_right hYT hS0
  have hYS2 : (9223372036854775808 : Int) ≤ Y * 2 ^ s := by
    have h2 : ((2 ^ (b - 1) : Nat) : Int) ≤ Y := Int.ofNat_le.2 b2
    have h3 := Int.mul_le_mul_of_nonneg_right h2 (Int.le_of_lt hS0)
    have h4 : ((2 ^ (b - 1) : Nat) : Int) * 2 ^ s = 9223372036854775808 := by
      rw [Int.natCast_pow]
      show (2 : Int) ^ (b - 1) * 2 ^ s = _
      rw [← Int.pow_add, show b - 1 + s = 63 by omega]; rfl
    omega
  have hlT : lo / 2 ^ b < 2 ^ s := (Int.ediv_lt_iff_lt_mul hT0).2 (by rw [hST]; exact hl)
  have hlT0 : 0 ≤ lo / 2 ^ b := Int.ediv_nonneg hl0 (Int.le_of_lt hT0)
  have hhi : hi * 2 ^ s + 2 ^ s ≤ Y * 2 ^ s := by
    have := Int.mul_le_mul_of_nonneg_right (show hi + 1 ≤ (Y : Int) by omega) (Int.le_of_lt hS0)
    rw [Int.add_mul] at this
    omega
  have hhi0 : 0 ≤ hi * 2 ^ s := mul_nn h0 (Int.le_of_lt hS0)
  have w1 : bits_LeadingZeros64F (Y : Int) = some (s : Int) := by
    unfold bits_LeadingZeros64F
    have e : Lib.bitLen (Y : Int).toNat = b := hb
    rw [e, show (64 - (b : Int)) = s by omega]
  have w2 : IntKind.u64.wrap (s : Int) = s := u64_in (by omega) (by omega)
  have w3 : IntKind.u64.wrap (64 - (s : Int)) = b := by rw [show (64 - (s : Int)) = b by omega]; exact u64_in (by omega) (by omega)
  have m1 : min s 64 = s := by omega
  have m2 : min b 64 = b := by omega
  have n1 : decide ((s : Int) < 0) = false := decide_eq_false (by omega)
  have n2 : decide ((b : Int) < 0) = false := decide_eq_false (by omega)
  have wy : IntKind.u64.wrap ((Y : Int) * 2 ^ s) = Y * 2 ^ s := u64_in (by omega) hYS
  have wh : IntKind.u64.wrap (hi * 2 ^ s) = hi * 2 ^ s := u64_in hhi0 (by omega)
  have wf : lo.fdiv (2 ^ b) = lo / 2 ^ b := Int.fdiv_eq_ediv_of_nonneg lo (Int.le_of_lt hT0)
  have wo : bitsOf .or .u64 (hi * 2 ^ s) (lo / 2 ^ b) = hi * 2 ^ s + lo / 2 ^ b := or_low h0 hlT0 hlT (by omega)
  have nd : decide (((Y : Int) * 2 ^ s).fdiv 4294967296 = 0) = false := by
    rw [Int.fdiv_eq_ediv_of_nonneg _ (by omega)]
    exact decide_eq_false (by omega)
  unfold bits_Div64F
  simp only [f1, f2, f3, brn_false, w1, obnd_some, w2, w3, n1, n2, Int.toNat_natCast, m1, m2, wy, wh, wf, wo, nd]
  have hd := div_inner_is (yn := (Y : Int) * 2 ^ s) (u := hi * 2 ^ s + lo / 2 ^ b) (t := IntKind.u64.wrap (lo * 2 ^ s)) (S := 2 ^ s) hYS2 hYS (by omega) (by omega)
    (by rw [u64]; omega) (by rw [u64]; omega) hS0
  refine Eq.trans hd ?_
  have e1 : (hi * 2 ^ s + lo / 2 ^ b) * 18446744073709551616 + IntKind.u64.wrap (lo * 2 ^ s) = 2 ^ s * (hi * 18446744073709551616 + lo) := by
    have h1 : lo * 2 ^ s / 18446744073709551616 = lo / 2 ^ b := by
      rw [← hST, Int.mul_comm ((2 : Int) ^ s) (2 ^ b)]
      exact Int.mul_ediv_mul_of_pos_left lo (2 ^ b) hS0
    rw [u64, ← h1, Int.mul_add, Int.mul_comm ((2 : Int) ^ s) lo, ← Int.mul_assoc, Int.mul_comm ((2 : Int) ^ s) hi]
    omega
  rw [e1, Int.mul_comm (Y : Int) (2 ^ s), Int.mul_ediv_mul_of_pos _ _ hS0, Int.mul_emod_mul_of_pos _ _ hS0, Int.mul_ediv_cancel_left _ (by omega)]
def W (v : Int) (m : Bool) : Wide := ⟨v / 18446744073709551616, v % 18446744073709551616, m⟩
def sw (v : Int) (m : Bool) : Int := bif m then -v else v
def inW (v : Int) : Prop := 0 ≤ v ∧ v < 340282366920938463463374607431768211456
theorem of_is {n : Int} (h : I64 n) : dec_ofF n = some (W n.natAbs (decide (n < 0))) := by
  unfold I64 at h
  unfold dec_ofF W
  by_cases h0 : n < 0
  · simp only [h0, decide_true, brn_true, u64, Option.some.injEq, Wide.mk.injEq, and_true]
    omega
  · simp only [h0, decide_false, brn_false, u64, Option.some.injEq, Wide.mk.injEq, and_true]
    omega
theorem pow10 : ∀ n : Fin 20, (1 : Int) ≤ 10 ^ n.val ∧ (10 : Int) ^ n.val ≤ 10000000000000000000 := by decide
theorem pow10_le {n : Nat} (h : n ≤ 19) : (1 : Int) ≤ 10 ^ n ∧ (10 : Int) ^ n ≤ 10000000000000000000 := pow10 ⟨n, by omega⟩
theorem power_is {n : Nat} (h : n ≤ 19) : dec_powerF (n : Int) = some (10 ^ n) := by
  have h2 : dec_power_l1J (1, (n : Int), 0) = some (10 ^ n) := by
    refine iter_big (F := dec_power_l1F) (fun x : Int × Int × Int => ((n : Int) - x.2.2).toNat) (fun x : Int × Int × Int => 0 ≤ x.2.2 ∧ x.2.2 ≤ n ∧ x.2.1 = n ∧ x.1 = 10 ^ x.2.2.toNat) (fun _ => 10 ^ n) ?_ _ ⟨by simp, by simp, rfl, rfl⟩ (by simp only; omega)
    intro back x hp hb
    obtain ⟨a, m, i⟩ := x
    obtain ⟨h1, h2, h3, h4⟩ := hp
    simp only at h1 h2 h3 h4 hb
    subst h3 h4
    obtain ⟨i, rfl⟩ := Int.eq_ofNat_of_zero_le h1
    unfold dec_power_l1F
    simp only [Int.toNat_natCast] at *
    by_cases hi : i < n
    · have hp1 := (pow10_le (show i + 1 ≤ 19 by omega))
      rw [decide_eq_true (show (i : Int) < n by omega), brn_true, ← Int.pow_succ, u64_in (by omega) (by omega), i64_in (by omega) (by omega)]
      exact hb _ ⟨by simp only; omega, by simp only; omega, rfl, by simp only; rw [show ((i : Int) + 1).toNat = i + 1 by omega]⟩ (by simp only; omega)
    · rw [decide_eq_false (show ¬ (i : Int) < n by omega), brn_false, show i = n by omega]
  unfold dec_powerF
  rw [h2]; rfl
theorem times_is {v n : Int} {m : Bool} (hv : inW v) (hn : 0 ≤ n) (hn2 : n < 18446744073709551616) (h : inW (v * n)) : dec_wide_timesF (W v m, n) = some (W (v * n) m) := by
  unfold inW at *
  unfold dec_wide_timesF W
  simp only
  rw [Mul64_is (by omega) (by omega) hn hn2]
  simp only [obnd_some]
  have e : v * n = v / 18446744073709551616 * n * 18446744073709551616 + v % 18446744073709551616 * n := by
    have h1 : v = v / 18446744073709551616 * 18446744073709551616 + v % 18446744073709551616 := by omega
    have h2 : v * n = (v / 18446744073709551616 * 18446744073709551616 + v % 18446744073709551616) * n := by rw [← h1]
    rw [h2, Int.add_mul, Int.mul_right_comm]
  have p1 := mul_nn (show 0 ≤ v / 18446744073709551616 by omega) hn
  have p2 := mul_nn (show 0 ≤ v % 18446744073709551616 by omega) hn
  rw [e] at h ⊢
  generalize v / 18446744073709551616 * n = a at *
  generalize v % 18446744073709551616 * n = b at *
  simp only [u64, Option.some.injEq, Wide.mk.injEq, and_true]
  omega
theorem less_is {v w : Int} {m m' : Bool} (_ : inW v) (_ : inW w) : dec_wide_lessF (W v m, W w m') = some (decide (v < w)) := by
  unfold inW at *
  unfold dec_wide_lessF W
  simp only
  by_cases h1 : v / 18446744073709551616 < w / 18446744073709551616
  · rw [decide_eq_true h1, brn_true, decide_eq_true (show v < w by omega)]
  · rw [decide_eq_false h1, brn_false]
    by_cases h2 : v / 18446744073709551616 = w / 18446744073709551616
    · rw [decide_eq_true h2, brn_true]
      simp only [Option.some.injEq, decide_eq_decide]
      omega
    · rw [decide_eq_false h2, brn_false, decide_eq_false (show ¬ v < w by omega)]
theorem plus_is {v w : Int} {m m' : Bool} (hv : inW v) (hw : inW w) (h : inW (v + w)) :
    ∃ z b, dec_wide_plusF (W v m, W w m') = some (W z b) ∧ inW z ∧ sw z b = sw v m + sw w m' := by
  have hvw := less_is (m := m) (m' := m') hv hw
  unfold inW at *
  unfold dec_wide_plusF
  rw [hvw]
  by_cases hm : m = m'
  · subst hm
    refine ⟨v + w, m, ?_, h, by cases m <;> simp only [sw, cond_true, cond_false] <;> omega⟩
    unfold bits_Add64F W
    simp only [decide_true, brn_true, Bool.true_or, cond_true, obnd_some, u64, Option.some.injEq, Wide.mk.injEq, and_true]
    omega
  · rw [decide_eq_false (show ¬ (W v m).minus = (W w m').minus from hm), brn_false, obnd_some]
    have hm2 : m' = !m := by cases m <;> cases m' <;> simp at hm ⊢
    subst hm2
    unfold bits_Sub64F W
    by_cases hl : v < w
    · refine ⟨w - v, !m, ?_, by omega, by cases m <;> simp only [sw, cond_true, cond_false, Bool.not_true, Bool.not_false] <;> omega⟩
      rw [decide_eq_true hl, brn_true]
      simp only [decide_true, Bool.true_or, cond_true, obnd_some, u64, Option.some.injEq, Wide.mk.injEq, and_true, Int.add_zero, Int.sub_zero]
      by_cases hb : w % 18446744073709551616 < v % 18446744073709551616
      · rw [decide_eq_true hb, cond_true]; omega
      · rw [decide_eq_false hb, cond_false]; omega
    · refine ⟨v - w, m, ?_, by omega, by cases m <;> simp only [sw, cond_true, cond_false, Bool.not_true, Bool.not_false] <;> omega⟩
      rw [decide_eq_false hl, brn_false]
      simp only [decide_true, Bool.true_or, cond_true, obnd_some, u64, Option.some.injEq, Wide.mk.injEq, and_true, Int.add_zero, Int.sub_zero]
      by_cases hb : v % 18446744073709551616 < w % 18446744073709551616
      · rw [decide_eq_true hb, cond_true]; omega
      · rw [decide_eq_false hb, cond_false]; omega
theorem by_is {v n : Int} {m : Bool} (hv : inW v) (hn : 0 < n) (hn2 : n < 18446744073709551616) : dec_wide_byF (W v m, n) = some (W (v / n) m, v % n) := by
  unfold inW at *
  unfold dec_wide_byF W
  simp only
  have hh : 0 ≤ v / 18446744073709551616 := by omega
  rw [decide_eq_false (show ¬ n = 0 by omega), brn_false, brn_false, Int.tmod_eq_emod_of_nonneg hh, tdiv_nn hh]
  have r0 := Int.emod_nonneg (v / 18446744073709551616) (show n ≠ 0 by omega)
  have r1 := Int.emod_lt_of_pos (v / 18446744073709551616) hn
  rw [Div64_is r0 r1 (by omega) (by omega) hn2, obnd_some]
  obtain ⟨q, hq⟩ : ∃ q, v / 18446744073709551616 / n = q := ⟨_, rfl⟩
  obtain ⟨r, hr⟩ : ∃ r, v / 18446744073709551616 % n = r := ⟨_, rfl⟩
  have hqr := Int.mul_ediv_add_emod (v / 18446744073709551616) n
  rw [hq, hr] at hqr
  rw [hr] at r0 r1
  rw [hr, hq]
  have hq0 : 0 ≤ q := by rw [← hq]; exact Int.ediv_nonneg hh (by omega)
  have hq1 : q < 18446744073709551616 := by have := Int.ediv_le_self n hh; omega
  have e : v = r * 18446744073709551616 + v % 18446744073709551616 + n * (q * 18446744073709551616) := by
    rw [← Int.mul_assoc]; omega
  obtain ⟨d, hd⟩ : ∃ d, r * 18446744073709551616 + v % 18446744073709551616 = d := ⟨_, rfl⟩
  rw [hd] at e ⊢
  have d0 : 0 ≤ d / n := Int.ediv_nonneg (by omega) (by omega)
  have d1 : d / n < 18446744073709551616 := (Int.ediv_lt_iff_lt_mul hn).2 (by omega)
  have e1 : v / n = d / n + q * 18446744073709551616 := by
    rw [e, Int.add_mul_ediv_left _ _ (show n ≠ 0 by omega)]
  have e2 : v % n = d % n := by rw [e, Int.add_mul_emod_self_left]
  rw [e1, e2]
  simp only [u64, Option.some.injEq, Prod.mk.injEq, Wide.mk.injEq, and_true]
  omega
theorem up_is {v : Int} {m : Bool} (hv : inW v) (h : inW (v + 1)) : dec_wide_upF (W v m) = some (W (v + 1) m) := by
  unfold inW at *
  unfold dec_wide_upF bits_Add64F W
  simp only [decide_true, Bool.true_or, cond_true, obnd_some, u64, Option.some.injEq, Wide.mk.injEq, and_true]
  omega
theorem rdiv_le {v n : Int} (hv : 0 ≤ v) (hn : 0 < n) : 0 ≤ rdiv v n ∧ rdiv v n ≤ v / n + 1 ∧ v / n ≤ v := by
  have h1 := Int.ediv_nonneg hv (show 0 ≤ n by omega)
  have h2 := Int.ediv_le_self n hv
  unfold rdiv
  split <;> omega
theorem round_is {v n : Int} {m : Bool} (hv : 0 ≤ v) (hv2 : v < 340282366920938463463374607431768211455) (hn : 0 < n) (hn2 : n < 18446744073709551616) : dec_wide_roundF (W v m, n) = some (W (rdiv v n) m) ∧ inW (rdiv v n) := by
  have hw : inW v := ⟨hv, by omega⟩
  obtain ⟨h1, h2, h3⟩ := rdiv_le hv hn
  have r0 := Int.emod_nonneg v (show n ≠ 0 by omega)
  have r1 := Int.emod_lt_of_pos v hn
  have r2 := Int.ediv_nonneg hv (show 0 ≤ n by omega)
  refine ⟨?_, h1, by omega⟩
  unfold dec_wide_roundF
  rw [by_is hw hn hn2, obnd_some]
  simp only
  rw [u64_in (by omega) (by omega)]
  unfold rdiv
  by_cases h : n - v % n ≤ v % n
  · rw [decide_eq_true h, brn_true, if_pos (by omega), up_is ⟨r2, by omega⟩ ⟨by omega, by omega⟩]; rfl
  · rw [decide_eq_false h, brn_false, if_neg (by omega)]
theorem strip_nn : ∀ (p : Nat) {v : Int}, 0 ≤ v → 0 ≤ (strip v p).1
  | 0, _, h => h
  | p + 1, v, h => by
    unfold strip
    split
    · exact strip_nn p (by omega)
    · exact h
theorem strip_neg : ∀ (p : Nat) (v : Int), strip (-v) p = (-(strip v p).1, (strip v p).2)
  | 0, _ => rfl
  | p + 1, v => by
    unfold strip
    by_cases h : v % 10 = 0
    · rw [if_pos (by omega), if_pos h, show -v / 10 = -(v / 10) by omega, strip_neg p]
    · rw [if_neg (by omega), if_neg h]
theorem dec_l1_is {v : Int} {m : Bool} {p : Nat} (hv : inW v) (hp : p ≤ 18) : dec_wide_dec_l1J ((p : Int), W v m) = some (((strip v p).2 : Int), W (strip v p).1 m) := by
  refine iter_big (fun x => x.1.toNat) (fun x => ∃ (p : Nat) (v : Int), p ≤ 18 ∧ inW v ∧ x = ((p : Int), W v m) ∧ True)
    (fun x => (((strip (x.2.hi * 18446744073709551616 + x.2.lo) x.1.toNat).2 : Int), W (strip (x.2.hi * 18446744073709551616 + x.2.lo) x.1.toNat).1 m)) ?_ _ ⟨p, v, hp, hv, rfl, trivial⟩ (by simp only; omega) |>.trans ?_
  · intro back x hx hb
    obtain ⟨p, v, hp, hv, rfl, -⟩ := hx
    have ev : ∀ {v : Int}, v / 18446744073709551616 * 18446744073709551616 + v % 18446744073709551616 = v := fun {v} => by omega
    unfold dec_wide_dec_l1F
    simp only [W, Int.toNat_natCast, ev] at hb ⊢
    cases p with
    | zero => simp only [Int.ofNat_zero, Int.lt_irrefl, decide_false, brn_false, strip]
    | succ p =>
      have hby := by_is (v := v) (n := 10) (m := m) hv (by omega) (by omega)
      simp only [W] at hby
      rw [decide_eq_true (show (0 : Int) < ((p + 1 : Nat) : Int) by omega), brn_true, hby, obnd_some]
      unfold strip
      by_cases h0 : v % 10 = 0
      · simp only [h0, decide_true, Bool.not_true, brn_false, if_true]
        rw [i64_in (by omega) (by omega), show (((p + 1 : Nat) : Int) - 1) = (p : Int) by omega]
        have := hb ((p : Int), ⟨v / 10 / 18446744073709551616, v / 10 % 18446744073709551616, m⟩) ⟨p, v / 10, by omega, ⟨by have := hv.1; omega, by have := hv.1; have := hv.2; omega⟩, rfl, trivial⟩ (by simp only [Int.toNat_natCast]; omega)
        simpa only [ev, Int.toNat_natCast] using this
      · simp only [h0, decide_false, Bool.not_false, brn_true, if_false]
  · have ev : v / 18446744073709551616 * 18446744073709551616 + v % 18446744073709551616 = v := by omega
    simp only [W, ev, Int.toNat_natCast]
theorem wdec_is {v : Int} {m : Bool} {p : Nat} (hv : inW v) (hp : p ≤ 18) : dec_wide_decF (W v m, (p : Int)) = some (decV (sw v m) p) := by
  unfold dec_wide_decF
  simp only
  rw [dec_l1_is hv hp, obnd_some]
  have h0 := strip_nn p hv.1
  have h1 := strip_abs p v
  have hs : strip (sw v m) p = (sw (strip v p).1 m, (strip v p).2) := by
    cases m
    · rfl
    · exact strip_neg p v
  have hd : decV (sw v m) p = if I64 (sw (strip v p).1 m) then (⟨sw (strip v p).1 m, ((strip v p).2 : Int)⟩, 0) else (⟨0, 0⟩, 8) := by
    unfold decV
    rw [hs]
  rw [hd]
  have hv1 := hv.1
  have hv2 := hv.2
  generalize (strip v p).1 = u at *
  generalize ((strip v p).2) = s at *
  unfold W
  simp only [u64, i64]
  by_cases c1 : u / 18446744073709551616 = 0
  · by_cases c2 : 9223372036854775808 < u % 18446744073709551616
    · rw [if_neg (by unfold I64 sw; cases m <;> simp only [cond_true, cond_false] <;> omega)]
      simp [c1, c2]
    · by_cases c3 : u % 18446744073709551616 = 9223372036854775808
      · cases m
        · rw [if_neg (by unfold I64 sw; simp only [cond_false]; omega)]
          simp [c1, c3]
        · rw [if_pos (by unfold I64 sw; simp only [cond_true]; omega)]
          simp only [c1, c3, sw, decide_true, decide_false, Bool.not_true, brn_true, brn_false, cond_true, Option.some.injEq, Prod.mk.injEq, Dec.mk.injEq, and_true, Int.lt_irrefl]
          omega
      · cases m
        · rw [if_pos (by unfold I64 sw; simp only [cond_false]; omega)]
          simp only [c1, c2, c3, sw, decide_true, decide_false, Bool.not_true, brn_false, cond_false, Option.some.injEq, Prod.mk.injEq, Dec.mk.injEq, and_true]
          omega
        · rw [if_pos (by unfold I64 sw; simp only [cond_true]; omega)]
          simp only [c1, c2, c3, sw, decide_true, decide_false, Bool.not_true, brn_true, brn_false, cond_true, Option.some.injEq, Prod.mk.injEq, Dec.mk.injEq, and_true]
          omega
  · rw [if_neg (by unfold I64 sw; cases m <;> simp only [cond_true, cond_false] <;> omega)]
    simp [c1]
theorem natAbs_sw (n : Int) : sw n.natAbs (decide (n < 0)) = n := by
  unfold sw
  by_cases h : n < 0
  · rw [decide_eq_true h, cond_true]; omega
  · rw [decide_eq_false h, cond_false]; omega
theorem abs_mul_pow (n : Int) (k : Nat) : (n.natAbs : Int) * 10 ^ k = ((n * 10 ^ k).natAbs : Int) := by
  have h : (1 : Int) ≤ 10 ^ k := by
    have := Int.pow_pos (n := (10 : Int)) (m := k) (by omega)
    omega
  by_cases h0 : n < 0
  · have e1 : (n.natAbs : Int) = -n := by omega
    have e2 : n * 10 ^ k ≤ 0 := by
      have := Int.mul_nonneg (show 0 ≤ -n by omega) (show (0 : Int) ≤ 10 ^ k by omega)
      rw [Int.neg_mul] at this; omega
    rw [e1, Int.neg_mul]; omega
  · have e1 : (n.natAbs : Int) = n := by omega
    have := Int.mul_nonneg (show 0 ≤ n by omega) (show (0 : Int) ≤ 10 ^ k by omega)
    rw [e1]; omega
theorem neg_mul_pow (n : Int) (k : Nat) : decide (n * 10 ^ k < 0) = decide (n < 0) := by
  have h : (0 : Int) < 10 ^ k := Int.pow_pos (by omega)
  rw [decide_eq_decide]
  constructor
  · intro h1
    refine Int.not_le.1 fun h2 => ?_
    have := Int.mul_nonneg h2 (Int.le_of_lt h)
    omega
  · intro h1
    have := Int.mul_pos (show 0 < -n by omega) h
    rw [Int.neg_mul] at this; omega
theorem V_le {d : Dec} (hm : I64 d.M) : (V d).natAbs ≤ 9223372036854775808000000000 := by
  have h := abs_mul_pow d.M (9 - d.S.toNat)
  have h2 := pow10_le (show 9 - d.S.toNat ≤ 19 by omega)
  have h3 : (10 : Int) ^ (9 - d.S.toNat) ≤ 10 ^ 9 := by
    have := Nat.pow_le_pow_right (show 0 < 10 by omega) (show 9 - d.S.toNat ≤ 9 by omega)
    have h := Int.ofNat_le.2 this
    simpa using h
  unfold I64 at hm
  have h4 : (d.M.natAbs : Int) * 10 ^ (9 - d.S.toNat) ≤ 9223372036854775808 * 10 ^ 9 := mul_le (by omega) (by omega) (by omega) h3
  unfold V
  omega
theorem inV {d : Dec} (hm : I64 d.M) : inW (V d).natAbs := by
  have := V_le hm
  unfold inW; omega
theorem scaled_is {d : Dec} (hm : I64 d.M) (h0 : 0 ≤ d.S) (h9 : d.S ≤ 9) : dec_scaledF d = some (W (V d).natAbs (decide (V d < 0))) := by
  unfold dec_scaledF
  have e : d.M.natAbs * (10 : Int) ^ (9 - d.S.toNat) = ((V d).natAbs : Int) := abs_mul_pow d.M (9 - d.S.toNat)
  have hp := pow10_le (show 9 - d.S.toNat ≤ 19 by omega)
  rw [of_is hm, obnd_some, i64_in (by omega) (by omega), show (9 - d.S : Int) = ((9 - d.S.toNat : Nat) : Int) by omega, power_is (by omega), obnd_some,
    times_is (by unfold I64 at hm; unfold inW; omega) (by omega) (by omega) (by rw [e]; exact inV hm), e, obnd_some]
  unfold V
  rw [neg_mul_pow]
theorem Add_is {a b : Dec} (ha : I64 a.M) (hb : I64 b.M) (oa : okD a) (ob : okD b) : dec_AddF (a, b) = some (decV (V a + V b) 9) := by
  unfold dec_AddF
  simp only
  rw [scaled_is ha oa.1 oa.2.1, scaled_is hb ob.1 ob.2.1, obnd_some, obnd_some]
  have h1 := V_le ha
  have h2 := V_le hb
  obtain ⟨z, m, e, hz, es⟩ := plus_is (m := decide (V a < 0)) (m' := decide (V b < 0)) (inV ha) (inV hb) (by unfold inW; omega)
  rw [e, obnd_some, show (9 : Int) = ((9 : Nat) : Int) from rfl, wdec_is hz (by omega), es, natAbs_sw, natAbs_sw]; rfl
theorem cmp_is (x y : Int) : cmp_Compare_int64F (x, y) = some (cmpV x y) := by
  unfold cmp_Compare_int64F cmp_isNaN_int64F cmpV
  simp only [decide_true, cond_true, obnd_some, brn_false]
  by_cases h : x < y
  · simp [h]
  · by_cases h2 : y < x <;> simp [h, h2]
theorem cmpi_is (x y : Int) : cmp_Compare_intF (x, y) = some (cmpV x y) := by
  unfold cmp_Compare_intF cmp_isNaN_intF cmpV
  simp only [decide_true, cond_true, obnd_some, brn_false]
  by_cases h : x < y
  · simp [h]
  · by_cases h2 : y < x <;> simp [h, h2]
theorem V_neg (d : Dec) : decide (V d < 0) = decide (d.M < 0) := neg_mul_pow d.M _
theorem Compare_is {a b : Dec} (ha : I64 a.M) (hb : I64 b.M) (h0 : 0 ≤ a.S) (h9 : a.S ≤ 9) (k0 : 0 ≤ b.S) (k9 : b.S ≤ 9) : dec_CompareF (a, b) = some (cmpV (V a) (V b)) := by
  unfold dec_CompareF
  simp only
  rw [scaled_is ha h0 h9, scaled_is hb k0 k9, obnd_some, obnd_some, less_is (inV ha) (inV hb), less_is (inV hb) (inV ha), cmp_is, cmp_is, obnd_some, obnd_some, cmpi_is]
  show brn (!decide (decide (V a < 0) = decide (V b < 0))) _ (brn (decide (V a < 0)) _ _) = _
  have na := V_neg a
  have nb := V_neg b
  simp only [decide_eq_decide] at na nb
  by_cases h1 : V a < 0 <;> by_cases h2 : V b < 0
  · simp only [h1, h2, decide_true, Bool.not_true, brn_false, brn_true, obnd_some]
    unfold cmpV
    by_cases c1 : (V a).natAbs < (V b).natAbs
    · rw [decide_eq_true (by omega), brn_true, if_neg (by omega), if_pos (by omega)]
    · rw [decide_eq_false (by omega), brn_false]
      by_cases c2 : (V b).natAbs < (V a).natAbs
      · rw [decide_eq_true (by omega), brn_true, if_pos (by omega)]
      · rw [decide_eq_false (by omega), brn_false, if_neg (by omega), if_neg (by omega)]
  · have m1 := na.1 h1
    have m2 := mt nb.2 h2
    simp only [h1, h2, decide_true, decide_false, Bool.true_eq_false, Bool.not_false, brn_true, obnd_some]
    unfold cmpV
    rw [if_pos (show V a < V b by omega), if_pos m1, if_neg m2]
    split <;> rfl
  · have m1 := mt na.2 h1
    have m2 := nb.1 h2
    simp only [h1, h2, decide_true, decide_false, Bool.false_eq_true, Bool.not_false, brn_true, obnd_some]
    unfold cmpV
    rw [if_neg (show ¬ V a < V b by omega), if_pos (show V b < V a by omega), if_neg m1, if_pos m2]
    split <;> rfl
  · simp only [h1, h2, decide_true, decide_false, Bool.not_true, brn_false, obnd_some]
    unfold cmpV
    by_cases c1 : (V a).natAbs < (V b).natAbs
    · rw [decide_eq_true (by omega), brn_true, if_pos (by omega)]
    · rw [decide_eq_false (by omega), brn_false]
      by_cases c2 : (V b).natAbs < (V a).natAbs
      · rw [decide_eq_true (by omega), brn_true, if_neg (by omega), if_pos (by omega)]
      · rw [decide_eq_false (by omega), brn_false, if_neg (by omega), if_neg (by omega)]
end Go.Proofs.YtdgpkbnnljblmaaGreatDoor
