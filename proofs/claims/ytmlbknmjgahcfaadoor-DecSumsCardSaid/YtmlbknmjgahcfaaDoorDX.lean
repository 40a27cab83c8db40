/- Products and quotients of 64-bit numbers: what the library's schoolbook steps give. -/
import Derived.Test.YtmlbknmjgahcfaaDoorDF
import Derived.Lib.ItoaNum
namespace Go.Proofs.YtmlbknmjgahcfaaDoor
open Go Go.Ev

theorem u64 (n : Int) : IntKind.u64.wrap n = n % 18446744073709551616 := by simp [IntKind.wrap, IntKind.bits, IntKind.signed]
theorem i64 (n : Int) : IntKind.i64.wrap n = (n + 9223372036854775808) % 18446744073709551616 - 9223372036854775808 := IntKind.wrap_i64 n
theorem u64_in {n : Int} (h0 : 0 ≤ n) (h1 : n < 18446744073709551616) : IntKind.u64.wrap n = n := by rw [u64]; omega
theorem i64_in {n : Int} (h0 : -9223372036854775808 ≤ n) (h1 : n ≤ 9223372036854775807) : IntKind.i64.wrap n = n := by rw [i64]; omega

theorem and32 {x : Int} (h0 : 0 ≤ x) (h1 : x < 18446744073709551616) : bitsOf .and .u64 x 4294967295 = x % 4294967296 := by
  obtain ⟨n, rfl⟩ := Int.eq_ofNat_of_zero_le h0
  simp only [bitsOf]
  rw [BitVec.toNat_and, show (4294967295 : Int) = ((4294967295 : Nat) : Int) from rfl, BitVec.ofInt_natCast, BitVec.ofInt_natCast, BitVec.toNat_ofNat, BitVec.toNat_ofNat, u64]
  have e1 : n % 2 ^ IntKind.u64.bits = n := Nat.mod_eq_of_lt (by simp only [IntKind.bits]; omega)
  have e2 : 4294967295 % 2 ^ IntKind.u64.bits = 2 ^ 32 - 1 := by decide
  rw [e1, e2, Nat.and_two_pow_sub_one_eq_mod]
  omega
theorem or_low {a b : Int} {s : Nat} (ha : 0 ≤ a) (hb : 0 ≤ b) (hb2 : b < 2 ^ s) (h : a * 2 ^ s + b < 18446744073709551616) : bitsOf .or .u64 (a * 2 ^ s) b = a * 2 ^ s + b := by
  obtain ⟨m, rfl⟩ := Int.eq_ofNat_of_zero_le ha
  obtain ⟨n, rfl⟩ := Int.eq_ofNat_of_zero_le hb
  have c : ((2 : Int) ^ s) = ((2 ^ s : Nat) : Int) := by simp
  rw [c] at *
  have hb3 : n < 2 ^ s := Int.ofNat_lt.1 hb2
  simp only [bitsOf]
  rw [BitVec.toNat_or, ← Int.natCast_mul, BitVec.ofInt_natCast, BitVec.ofInt_natCast, BitVec.toNat_ofNat, BitVec.toNat_ofNat, u64]
  have h' : ((m * 2 ^ s : Nat) : Int) + n < 18446744073709551616 := by rw [Int.natCast_mul]; simpa using h
  generalize hp : m * 2 ^ s = p at *
  have e1 : p % 2 ^ IntKind.u64.bits = p := Nat.mod_eq_of_lt (by simp only [IntKind.bits]; omega)
  have e2 : n % 2 ^ IntKind.u64.bits = n := Nat.mod_eq_of_lt (by simp only [IntKind.bits]; omega)
  rw [e1, e2, ← hp, ← Nat.shiftLeft_eq, ← Nat.shiftLeft_add_eq_or_of_lt hb3, Nat.shiftLeft_eq, hp]
  omega

theorem mul_le {a b c d : Int} (ha : 0 ≤ a) (hb : 0 ≤ b) (h1 : a ≤ c) (h2 : b ≤ d) : a * b ≤ c * d :=
  Int.le_trans (Int.mul_le_mul_of_nonneg_right h1 hb) (Int.mul_le_mul_of_nonneg_left h2 (by omega))
theorem mul_nn {a b : Int} (ha : 0 ≤ a) (hb : 0 ≤ b) : 0 ≤ a * b := Int.mul_nonneg ha hb

theorem mul_core (p11 p10 p01 p00 : Int) :
    (p11 + (p10 + p00 / 4294967296) / 4294967296 + ((p10 + p00 / 4294967296) % 4294967296 + p01) / 4294967296) =
      (p11 * 18446744073709551616 + (p10 + p01) * 4294967296 + p00) / 18446744073709551616 := by omega
theorem Mul64_is {x y : Int} (hx0 : 0 ≤ x) (hx : x < 18446744073709551616) (hy0 : 0 ≤ y) (hy : y < 18446744073709551616) :
    bits_Mul64F (x, y) = some (x * y / 18446744073709551616, x * y % 18446744073709551616) := by
  unfold bits_Mul64F
  simp only [and32 hx0 hx, and32 hy0 hy]
  rw [Int.fdiv_eq_ediv_of_nonneg x (by omega), Int.fdiv_eq_ediv_of_nonneg y (by omega)]
  obtain ⟨x1, e1⟩ : ∃ n, x / 4294967296 = n := ⟨_, rfl⟩
  obtain ⟨x0, e0⟩ : ∃ n, x % 4294967296 = n := ⟨_, rfl⟩
  obtain ⟨y1, f1⟩ : ∃ n, y / 4294967296 = n := ⟨_, rfl⟩
  obtain ⟨y0, f0⟩ : ∃ n, y % 4294967296 = n := ⟨_, rfl⟩
  have hxe : x = x1 * 4294967296 + x0 := by omega
  have hye : y = y1 * 4294967296 + y0 := by omega
  have bx1 : 0 ≤ x1 ∧ x1 ≤ 4294967295 := by omega
  have bx0 : 0 ≤ x0 ∧ x0 ≤ 4294967295 := by omega
  have by1 : 0 ≤ y1 ∧ y1 ≤ 4294967295 := by omega
  have by0 : 0 ≤ y0 ∧ y0 ≤ 4294967295 := by omega
  rw [e1, e0, f1, f0]
  have hxy : x * y = x1 * y1 * 18446744073709551616 + (x1 * y0 + x0 * y1) * 4294967296 + x0 * y0 := by
    rw [hxe, hye, Int.add_mul, Int.mul_add, Int.mul_add, Int.add_mul]
    have a1 : x1 * 4294967296 * (y1 * 4294967296) = x1 * y1 * 18446744073709551616 := by
      rw [Int.mul_assoc, Int.mul_left_comm 4294967296, ← Int.mul_assoc]; rfl
    have a2 : x1 * 4294967296 * y0 = x1 * y0 * 4294967296 := by rw [Int.mul_assoc, Int.mul_comm 4294967296, ← Int.mul_assoc]
    have a3 : x0 * (y1 * 4294967296) = x0 * y1 * 4294967296 := by rw [Int.mul_assoc]
    rw [a1, a2, a3]; omega
  have k11 : x1 * y1 ≤ 4294967295 * 4294967295 := mul_le bx1.1 by1.1 bx1.2 by1.2
  have k10 : x1 * y0 ≤ 4294967295 * 4294967295 := mul_le bx1.1 by0.1 bx1.2 by0.2
  have k01 : x0 * y1 ≤ 4294967295 * 4294967295 := mul_le bx0.1 by1.1 bx0.2 by1.2
  have k00 : x0 * y0 ≤ 4294967295 * 4294967295 := mul_le bx0.1 by0.1 bx0.2 by0.2
  have n11 := mul_nn bx1.1 by1.1
  have n10 := mul_nn bx1.1 by0.1
  have n01 := mul_nn bx0.1 by1.1
  have n00 := mul_nn bx0.1 by0.1
  rw [hxy]
  generalize x1 * y1 = p11 at *
  generalize x1 * y0 = p10 at *
  generalize x0 * y1 = p01 at *
  generalize x0 * y0 = p00 at *
  have hc := mul_core p11 p10 p01 p00
  have w00 : IntKind.u64.wrap p00 = p00 := u64_in n00 (by omega)
  have w10 : IntKind.u64.wrap p10 = p10 := u64_in n10 (by omega)
  have w01 : IntKind.u64.wrap p01 = p01 := u64_in n01 (by omega)
  have w11 : IntKind.u64.wrap p11 = p11 := u64_in n11 (by omega)
  rw [w00, w10, w01, w11, Int.fdiv_eq_ediv_of_nonneg p00 (by omega)]
  have t0 : IntKind.u64.wrap (p10 + p00 / 4294967296) = p10 + p00 / 4294967296 := u64_in (by omega) (by omega)
  rw [t0, and32 (by omega) (by omega), Int.fdiv_eq_ediv_of_nonneg (p10 + p00 / 4294967296) (by omega)]
  have t1 : IntKind.u64.wrap ((p10 + p00 / 4294967296) % 4294967296 + p01) = (p10 + p00 / 4294967296) % 4294967296 + p01 := u64_in (by omega) (by omega)
  rw [t1, Int.fdiv_eq_ediv_of_nonneg ((p10 + p00 / 4294967296) % 4294967296 + p01) (by omega)]
  have t2 : IntKind.u64.wrap (p11 + (p10 + p00 / 4294967296) / 4294967296) = p11 + (p10 + p00 / 4294967296) / 4294967296 := u64_in (by omega) (by omega)
  rw [t2, hc, u64_in (by omega) (by omega), u64]

/-! ### quotients -/
theorem div_eq_of {a n q : Int} (hn : 0 < n) (h1 : q * n ≤ a) (h2 : a < (q + 1) * n) : a / n = q := by
  have h3 : q ≤ a / n := (Int.le_ediv_iff_mul_le hn).2 h1
  have h4 : a / n < q + 1 := (Int.ediv_lt_iff_lt_mul hn).2 h2
  omega

/-- the guess of a digit, made right -/
theorem guess_is {F : (Int × Int → Option Int) → Int × Int → Option Int} {u d y1 y0 : Int}
    (hu0 : 0 ≤ u) (hd0 : 0 ≤ d) (hd : d < 4294967296) (hy1 : 2147483648 ≤ y1) (hy1' : y1 < 4294967296) (hy0 : 0 ≤ y0) (hy0' : y0 < 4294967296) (hu : u < y1 * 4294967296 + y0)
    (hF : ∀ back q r, 0 ≤ q → q ≤ 4294967297 → 0 ≤ r → r < 4294967296 → F back (q, r) =
      if 4294967296 ≤ q ∨ 4294967296 * r + d < q * y0 then (if 4294967296 ≤ r + y1 then some (q - 1) else back (q - 1, r + y1)) else some q) :
    iter F big (u / y1, u % y1) = some ((u * 4294967296 + d) / (y1 * 4294967296 + y0)) := by
  have hyn : 0 < y1 * 4294967296 + y0 := by omega
  obtain ⟨Q, hQ⟩ : ∃ Q, (u * 4294967296 + d) / (y1 * 4294967296 + y0) = Q := ⟨_, rfl⟩
  have hQ1 : Q * (y1 * 4294967296 + y0) ≤ u * 4294967296 + d := by rw [← hQ]; exact Int.ediv_mul_le _ (by omega)
  have hQ0 : 0 ≤ Q := by rw [← hQ]; exact Int.ediv_nonneg (by omega) (by omega)
  have hQB : Q < 4294967296 := by rw [← hQ]; exact (Int.ediv_lt_iff_lt_mul hyn).2 (by omega)
  have hle : ∀ q : Int, q * (y1 * 4294967296 + y0) ≤ u * 4294967296 + d → q ≤ Q := fun q h => by
    rw [← hQ]; exact (Int.le_ediv_iff_mul_le hyn).2 h
  have ex : ∀ q : Int, q * (y1 * 4294967296 + y0) = q * y1 * 4294967296 + q * y0 := fun q => by rw [Int.mul_add, Int.mul_assoc]
  rw [hQ]
  refine iter_big (fun x => x.1.toNat) (fun x => x.2 = u - x.1 * y1 ∧ 0 ≤ x.2 ∧ x.2 < 4294967296 ∧ Q ≤ x.1 ∧ x.1 ≤ 4294967297) (fun _ => Q) ?_ _ ?_ ?_
  · intro back x hp hback
    obtain ⟨q, r⟩ := x
    obtain ⟨h1, h2, h3, h4, h5⟩ := hp
    simp only at h1 h2 h3 h4 h5 hback
    rw [hF back q r (by omega) h5 h2 h3]
    by_cases hc : 4294967296 ≤ q ∨ 4294967296 * r + d < q * y0
    · have hlt : Q < q := by
        rcases hc with hc | hc
        · omega
        · by_cases h : Q < q
          · exact h
          · have hqQ : q = Q := by omega
            subst hqQ
            rw [ex] at hQ1
            omega
      rw [if_pos hc]
      have hs : (q - 1) * y1 = q * y1 - y1 := by rw [Int.sub_mul]; omega
      by_cases hr : 4294967296 ≤ r + y1
      · rw [if_pos hr]
        have : q - 1 ≤ Q := by
          apply hle
          rw [ex, hs]
          have : (q - 1) * y0 ≤ 4294967296 * 4294967296 := mul_le (by omega) hy0 (by omega) (by omega)
          omega
        simp only [Option.some.injEq]
        omega
      · rw [if_neg hr]
        exact hback (q - 1, r + y1) ⟨by simp only; omega, by simp only; omega, by simp only; omega, by simp only; omega, by simp only; omega⟩ (by simp only; omega)
    · rw [if_neg hc]
      have : q ≤ Q := by
        apply hle
        rw [ex]
        omega
      simp only [Option.some.injEq]
      omega
  · have hm := Int.emod_nonneg u (show y1 ≠ 0 by omega)
    have hm2 := Int.emod_lt_of_pos u (show 0 < y1 by omega)
    have hdm := Int.mul_ediv_add_emod u y1
    have hc := Int.mul_comm y1 (u / y1)
    refine ⟨by simp only; omega, hm, by simp only; omega, ?_, ?_⟩
    · refine (Int.le_ediv_iff_mul_le (by omega)).2 ?_
      rw [ex] at hQ1
      have := mul_nn hQ0 hy0
      omega
    · have : u / y1 < 4294967298 := (Int.ediv_lt_iff_lt_mul (by omega)).2 (by omega)
      simp only; omega
  · have : u / y1 < 4294967298 := (Int.ediv_lt_iff_lt_mul (by omega)).2 (by omega)
    simp only; omega

theorem l1_is {back : Int × Int × Int × Int × Int → Option Int} {y1 y0 d q r : Int} (hd0 : 0 ≤ d) (hd : d < 4294967296) (_ : 2147483648 ≤ y1) (hy1' : y1 < 4294967296) (hy0 : 0 ≤ y0) (hy0' : y0 < 4294967296)
    (hq0 : 0 ≤ q) (hq : q ≤ 4294967297) (hr0 : 0 ≤ r) (hr : r < 4294967296) :
    bits_Div64_l1F back (y1, y0, d, q, r) = if 4294967296 ≤ q ∨ 4294967296 * r + d < q * y0 then (if 4294967296 ≤ r + y1 then some (q - 1) else back (y1, y0, d, q - 1, r + y1)) else some q := by
  unfold bits_Div64_l1F
  simp only
  rw [u64_in (n := r + y1) (by omega) (by omega)]
  by_cases h : 4294967296 ≤ q
  · rw [u64_in (n := q - 1) (by omega) (by omega)]
    simp only [h, decide_true, brn_true, true_or, if_true]
    by_cases h2 : 4294967296 ≤ r + y1 <;> simp [h2]
  · have : q * y0 ≤ 4294967295 * 4294967295 := mul_le hq0 hy0 (by omega) (by omega)
    have n := mul_nn hq0 hy0
    simp only [h, decide_false, brn_false, false_or]
    rw [u64_in (n := 4294967296 * r) (by omega) (by omega), u64_in (n := 4294967296 * r + d) (by omega) (by omega), u64_in (n := q * y0) n (by omega)]
    by_cases h3 : 4294967296 * r + d < q * y0
    · have : q ≠ 0 := fun h0 => by subst h0; omega
      rw [u64_in (n := q - 1) (by omega) (by omega)]
      simp only [h3, decide_true, brn_true, if_true]
      by_cases h2 : 4294967296 ≤ r + y1 <;> simp [h2]
    · simp [h3]
theorem l2_is {back : Int × Int × Int × Int × Int → Option Int} {y1 y0 d q r : Int} (hd0 : 0 ≤ d) (hd : d < 4294967296) (_ : 2147483648 ≤ y1) (hy1' : y1 < 4294967296) (hy0 : 0 ≤ y0) (hy0' : y0 < 4294967296)
    (hq0 : 0 ≤ q) (hq : q ≤ 4294967297) (hr0 : 0 ≤ r) (hr : r < 4294967296) :
    bits_Div64_l2F back (y1, y0, d, r, q) = if 4294967296 ≤ q ∨ 4294967296 * r + d < q * y0 then (if 4294967296 ≤ r + y1 then some (q - 1) else back (y1, y0, d, r + y1, q - 1)) else some q := by
  unfold bits_Div64_l2F
  simp only
  rw [u64_in (n := r + y1) (by omega) (by omega)]
  by_cases h : 4294967296 ≤ q
  · rw [u64_in (n := q - 1) (by omega) (by omega)]
    simp only [h, decide_true, brn_true, true_or, if_true]
    by_cases h2 : 4294967296 ≤ r + y1 <;> simp [h2]
  · have : q * y0 ≤ 4294967295 * 4294967295 := mul_le hq0 hy0 (by omega) (by omega)
    have n := mul_nn hq0 hy0
    simp only [h, decide_false, brn_false, false_or]
    rw [u64_in (n := 4294967296 * r) (by omega) (by omega), u64_in (n := 4294967296 * r + d) (by omega) (by omega), u64_in (n := q * y0) n (by omega)]
    by_cases h3 : 4294967296 * r + d < q * y0
    · have : q ≠ 0 := fun h0 => by subst h0; omega
      rw [u64_in (n := q - 1) (by omega) (by omega)]
      simp only [h3, decide_true, brn_true, if_true]
      by_cases h2 : 4294967296 ≤ r + y1 <;> simp [h2]
    · simp [h3]
/-- rounds that only carry some of what they are given -/
theorem iter_map {X Y Z : Type} {F : (X → Option Y) → X → Option Y} {G : (Z → Option Y) → Z → Option Y} (e : Z → X) (ok : Z → Prop)
    (h : ∀ back back' z, ok z → (∀ z', ok z' → back (e z') = back' z') → F back (e z) = G back' z) : ∀ n z, ok z → iter F n (e z) = iter G n z
  | 0, z, _ => by rw [iter_zero, iter_zero]
  | n + 1, z, hz => by
    rw [iter_succ, iter_succ]
    exact h _ _ z hz fun z' hz' => iter_map e ok h n z' hz'
/-- the guess, alone -/
def guess (y1 y0 d : Int) (back : Int × Int → Option Int) (z : Int × Int) : Option Int :=
  if 0 ≤ z.1 ∧ z.1 ≤ 4294967297 ∧ 0 ≤ z.2 ∧ z.2 < 4294967296 then
    if 4294967296 ≤ z.1 ∨ 4294967296 * z.2 + d < z.1 * y0 then (if 4294967296 ≤ z.2 + y1 then some (z.1 - 1) else back (z.1 - 1, z.2 + y1)) else some z.1
  else none
theorem guess_ok {y1 y0 d : Int} {back : Int × Int → Option Int} {z : Int × Int} (h : 0 ≤ z.1 ∧ z.1 ≤ 4294967297 ∧ 0 ≤ z.2 ∧ z.2 < 4294967296) : guess y1 y0 d back z =
    if 4294967296 ≤ z.1 ∨ 4294967296 * z.2 + d < z.1 * y0 then (if 4294967296 ≤ z.2 + y1 then some (z.1 - 1) else back (z.1 - 1, z.2 + y1)) else some z.1 := if_pos h
theorem l1_guess {u d y1 y0 : Int} (hu0 : 0 ≤ u) (hd0 : 0 ≤ d) (hd : d < 4294967296) (hy1 : 2147483648 ≤ y1) (hy1' : y1 < 4294967296) (hy0 : 0 ≤ y0) (hy0' : y0 < 4294967296) (hu : u < y1 * 4294967296 + y0) :
    bits_Div64_l1J (y1, y0, d, u / y1, u % y1) = some ((u * 4294967296 + d) / (y1 * 4294967296 + y0)) := by
  have h := guess_is (F := guess y1 y0 d) hu0 hd0 hd hy1 hy1' hy0 hy0' hu fun back q r h1 h2 h3 h4 => by
    rw [guess_ok ⟨h1, h2, h3, h4⟩]
  have hlt : u / y1 < 4294967298 := (Int.ediv_lt_iff_lt_mul (by omega)).2 (by omega)
  have hnn : 0 ≤ u / y1 := Int.ediv_nonneg hu0 (by omega)
  have hm := Int.emod_nonneg u (show y1 ≠ 0 by omega)
  have hm2 := Int.emod_lt_of_pos u (show 0 < y1 by omega)
  rw [← h]
  refine iter_map (F := bits_Div64_l1F) (fun z : Int × Int => (y1, y0, d, z.1, z.2)) (fun z => 0 ≤ z.1 ∧ z.1 ≤ 4294967297 ∧ 0 ≤ z.2 ∧ z.2 < 4294967296) ?_ big (u / y1, u % y1) ⟨hnn, by simp only; omega, hm, by simp only; omega⟩
  intro back back' z hz hb
  obtain ⟨h1, h2, h3, h4⟩ := hz
  rw [l1_is hd0 hd hy1 hy1' hy0 hy0' h1 h2 h3 h4]
  rw [guess_ok ⟨h1, h2, h3, h4⟩]
  by_cases hc : 4294967296 ≤ z.1 ∨ 4294967296 * z.2 + d < z.1 * y0
  · rw [if_pos hc, if_pos hc]
    by_cases hr : 4294967296 ≤ z.2 + y1
    · rw [if_pos hr, if_pos hr]
    · rw [if_neg hr, if_neg hr]
      refine hb (z.1 - 1, z.2 + y1) ⟨?_, by simp only; omega, by simp only; omega, by simp only; omega⟩
      rcases hc with hc | hc
      · simp only; omega
      · by_cases h0 : z.1 = 0
        · rw [h0] at hc; omega
        · simp only; omega
  · rw [if_neg hc, if_neg hc]
theorem l2_guess {u d y1 y0 : Int} (hu0 : 0 ≤ u) (hd0 : 0 ≤ d) (hd : d < 4294967296) (hy1 : 2147483648 ≤ y1) (hy1' : y1 < 4294967296) (hy0 : 0 ≤ y0) (hy0' : y0 < 4294967296) (hu : u < y1 * 4294967296 + y0) :
    bits_Div64_l2J (y1, y0, d, u % y1, u / y1) = some ((u * 4294967296 + d) / (y1 * 4294967296 + y0)) := by
  have h := guess_is (F := guess y1 y0 d) hu0 hd0 hd hy1 hy1' hy0 hy0' hu fun back q r h1 h2 h3 h4 => by
    rw [guess_ok ⟨h1, h2, h3, h4⟩]
  have hlt : u / y1 < 4294967298 := (Int.ediv_lt_iff_lt_mul (by omega)).2 (by omega)
  have hnn : 0 ≤ u / y1 := Int.ediv_nonneg hu0 (by omega)
  have hm := Int.emod_nonneg u (show y1 ≠ 0 by omega)
  have hm2 := Int.emod_lt_of_pos u (show 0 < y1 by omega)
  rw [← h]
  refine iter_map (F := bits_Div64_l2F) (fun z : Int × Int => (y1, y0, d, z.2, z.1)) (fun z => 0 ≤ z.1 ∧ z.1 ≤ 4294967297 ∧ 0 ≤ z.2 ∧ z.2 < 4294967296) ?_ big (u / y1, u % y1) ⟨hnn, by simp only; omega, hm, by simp only; omega⟩
  intro back back' z hz hb
  obtain ⟨h1, h2, h3, h4⟩ := hz
  rw [l2_is hd0 hd hy1 hy1' hy0 hy0' h1 h2 h3 h4]
  rw [guess_ok ⟨h1, h2, h3, h4⟩]
  by_cases hc : 4294967296 ≤ z.1 ∨ 4294967296 * z.2 + d < z.1 * y0
  · rw [if_pos hc, if_pos hc]
    by_cases hr : 4294967296 ≤ z.2 + y1
    · rw [if_pos hr, if_pos hr]
    · rw [if_neg hr, if_neg hr]
      refine hb (z.1 - 1, z.2 + y1) ⟨?_, by simp only; omega, by simp only; omega, by simp only; omega⟩
      rcases hc with hc | hc
      · simp only; omega
      · by_cases h0 : z.1 = 0
        · rw [h0] at hc; omega
        · simp only; omega
  · rw [if_neg hc, if_neg hc]
end Go.Proofs.YtmlbknmjgahcfaaDoor
