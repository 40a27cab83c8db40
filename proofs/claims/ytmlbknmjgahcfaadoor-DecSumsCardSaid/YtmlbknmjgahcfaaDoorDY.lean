/- A 128-bit number by a 64-bit one: what the library's long division gives. -/
import Derived.Test.YtmlbknmjgahcfaaDoorDX
namespace Go.Proofs.YtmlbknmjgahcfaaDoor
open Go Go.Ev

/-- the second digit's dividend -/
def div_v (yn u t q : Int) : Int := IntKind.u64.wrap (IntKind.u64.wrap (IntKind.u64.wrap (u * 4294967296) + t.fdiv 4294967296) - IntKind.u64.wrap (q * yn))
def div_inner (yn u t : Int) (S : Int) : Option (Int × Int) :=
  obnd (bits_Div64_l1J (yn.fdiv 4294967296, bitsOf BinOp.and IntKind.u64 yn 4294967295, t.fdiv 4294967296, IntKind.u64.wrap (u.tdiv (yn.fdiv 4294967296)),
      IntKind.u64.wrap (u - IntKind.u64.wrap (IntKind.u64.wrap (u.tdiv (yn.fdiv 4294967296)) * yn.fdiv 4294967296)))) fun q1 =>
      (obnd (bits_Div64_l2J (yn.fdiv 4294967296, bitsOf BinOp.and IntKind.u64 yn 4294967295, bitsOf BinOp.and IntKind.u64 t 4294967295,
          IntKind.u64.wrap (div_v yn u t q1 - IntKind.u64.wrap (IntKind.u64.wrap ((div_v yn u t q1).tdiv (yn.fdiv 4294967296)) * yn.fdiv 4294967296)),
          IntKind.u64.wrap ((div_v yn u t q1).tdiv (yn.fdiv 4294967296)))) fun q0 =>
        some (IntKind.u64.wrap (IntKind.u64.wrap (q1 * 4294967296) + q0),
          (IntKind.u64.wrap (IntKind.u64.wrap (IntKind.u64.wrap (div_v yn u t q1 * 4294967296) + bitsOf BinOp.and IntKind.u64 t 4294967295) - IntKind.u64.wrap (q0 * yn))).fdiv S))

theorem tdiv_nn {a b : Int} (ha : 0 ≤ a) : a.tdiv b = a / b := Int.tdiv_eq_ediv_of_nonneg ha
theorem rest_is {u d : Int} (hu : 0 ≤ u) (hu' : u < 18446744073709551616) (hd : 0 < d) : IntKind.u64.wrap (u.tdiv d) = u / d ∧ IntKind.u64.wrap (u - IntKind.u64.wrap (IntKind.u64.wrap (u.tdiv d) * d)) = u % d := by
  rw [tdiv_nn hu]
  have h1 : 0 ≤ u / d := Int.ediv_nonneg hu (by omega)
  have h2 : u / d ≤ u := Int.ediv_le_self _ hu
  have h3 := Int.mul_ediv_add_emod u d
  have h4 := Int.emod_nonneg u (show d ≠ 0 by omega)
  have h5 := Int.mul_comm d (u / d)
  have h6 := mul_nn h1 (show 0 ≤ d by omega)
  rw [u64_in h1 (by omega), u64_in h6 (by omega), u64_in (by omega) (by omega)]
  exact ⟨rfl, by omega⟩
theorem div_v_is {yn u t q : Int} (hq : q = (u * 4294967296 + t / 4294967296) / yn) (hyn : 0 < yn) (hyn' : yn < 18446744073709551616) :
    div_v yn u t q = u * 4294967296 + t / 4294967296 - q * yn ∧ 0 ≤ div_v yn u t q ∧ div_v yn u t q < yn := by
  have h3 := Int.mul_ediv_add_emod (u * 4294967296 + t / 4294967296) yn
  have h4 := Int.emod_nonneg (u * 4294967296 + t / 4294967296) (show yn ≠ 0 by omega)
  have h5 := Int.emod_lt_of_pos (u * 4294967296 + t / 4294967296) hyn
  rw [← hq, Int.mul_comm] at h3
  have e : div_v yn u t q = u * 4294967296 + t / 4294967296 - q * yn := by
    unfold div_v
    rw [Int.fdiv_eq_ediv_of_nonneg t (by omega)]
    simp only [u64]
    omega
  rw [e]
  refine ⟨rfl, by omega, by omega⟩
theorem div_inner_is {yn u t S : Int} (hyn : 9223372036854775808 ≤ yn) (hyn' : yn < 18446744073709551616) (hu : 0 ≤ u) (hu' : u < yn) (ht : 0 ≤ t) (ht' : t < 18446744073709551616) (hS : 0 < S) :
    div_inner yn u t S = some ((u * 18446744073709551616 + t) / yn, (u * 18446744073709551616 + t) % yn / S) := by
  unfold div_inner
  rw [Int.fdiv_eq_ediv_of_nonneg yn (by omega), Int.fdiv_eq_ediv_of_nonneg t (by omega), and32 (x := yn) (by omega) hyn', and32 (x := t) ht ht']
  obtain ⟨r1, r2⟩ := rest_is (u := u) (d := yn / 4294967296) hu (by omega) (by omega)
  rw [r2, r1, l1_guess hu (by omega) (by omega) (by omega) (by omega) (by omega) (by omega) (by omega), obnd_some]
  have hyne : yn / 4294967296 * 4294967296 + yn % 4294967296 = yn := by omega
  rw [hyne]
  obtain ⟨q1, hq1⟩ : ∃ q, (u * 4294967296 + t / 4294967296) / yn = q := ⟨_, rfl⟩
  rw [hq1]
  obtain ⟨v1, v2, v3⟩ := div_v_is hq1.symm (by omega) hyn'
  obtain ⟨v, hv⟩ : ∃ v, div_v yn u t q1 = v := ⟨_, rfl⟩
  rw [hv] at v1 v2 v3 ⊢
  obtain ⟨s1, s2⟩ := rest_is (u := v) (d := yn / 4294967296) v2 (by omega) (by omega)
  rw [s2, s1, l2_guess v2 (by omega) (by omega) (by omega) (by omega) (by omega) (by omega) (by omega), obnd_some, hyne]
  obtain ⟨q0, hq0⟩ : ∃ q, (v * 4294967296 + t % 4294967296) / yn = q := ⟨_, rfl⟩
  rw [hq0]
  have h3 := Int.mul_ediv_add_emod (v * 4294967296 + t % 4294967296) yn
  have h4 := Int.emod_nonneg (v * 4294967296 + t % 4294967296) (show yn ≠ 0 by omega)
  have h5 := Int.emod_lt_of_pos (v * 4294967296 + t % 4294967296) (show 0 < yn by omega)
  rw [hq0, Int.mul_comm] at h3
  have b1 : q1 < 4294967296 := by rw [← hq1]; exact (Int.ediv_lt_iff_lt_mul (by omega)).2 (by omega)
  have b1' : 0 ≤ q1 := by rw [← hq1]; exact Int.ediv_nonneg (by omega) (by omega)
  have b0 : q0 < 4294967296 := by rw [← hq0]; exact (Int.ediv_lt_iff_lt_mul (by omega)).2 (by omega)
  have b0' : 0 ≤ q0 := by rw [← hq0]; exact Int.ediv_nonneg (by omega) (by omega)
  have key : u * 18446744073709551616 + t = (v * 4294967296 + t % 4294967296) % yn + yn * (q1 * 4294967296 + q0) := by
    have e1 : yn * (q1 * 4294967296 + q0) = q1 * yn * 4294967296 + q0 * yn := by
      rw [Int.mul_add, Int.mul_comm yn q0, ← Int.mul_assoc, Int.mul_comm yn q1]
    rw [e1]; omega
  have kq : (u * 18446744073709551616 + t) / yn = q1 * 4294967296 + q0 := by
    rw [key, Int.add_mul_ediv_left _ _ (show yn ≠ 0 by omega), Int.ediv_eq_zero_of_lt h4 h5, Int.zero_add]
  have kr : (u * 18446744073709551616 + t) % yn = (v * 4294967296 + t % 4294967296) % yn := by
    rw [key, Int.add_mul_emod_self_left, Int.emod_emod]
  have er : IntKind.u64.wrap (IntKind.u64.wrap (IntKind.u64.wrap (v * 4294967296) + t % 4294967296) - IntKind.u64.wrap (q0 * yn)) = (v * 4294967296 + t % 4294967296) % yn := by
    simp only [u64]
    omega
  rw [kq, kr, er, Int.fdiv_eq_ediv_of_nonneg _ (by omega), u64_in (n := q1 * 4294967296) (by omega) (by omega), u64_in (by omega) (by omega)]

set_option maxHeartbeats 1000000 in
theorem Div64_is {hi lo y : Int} (h0 : 0 ≤ hi) (h1 : hi < y) (hl0 : 0 ≤ lo) (hl : lo < 18446744073709551616) (hy : y < 18446744073709551616) :
    bits_Div64F (hi, lo, y) = some ((hi * 18446744073709551616 + lo) / y, (hi * 18446744073709551616 + lo) % y) := by
  have f1 : decide (y = 0) = false := decide_eq_false (by omega)
  have f2 : decide (y ≤ hi) = false := decide_eq_false (by omega)
  by_cases hz : hi = 0
  · subst hz
    unfold bits_Div64F
    simp only [f1, f2, brn_false, decide_true, brn_true]
    rw [tdiv_nn hl0, Int.tmod_eq_emod_of_nonneg hl0, Int.zero_mul, Int.zero_add]
    have := Int.ediv_le_self y hl0
    have := Int.ediv_nonneg hl0 (show 0 ≤ y by omega)
    rw [u64_in this (by omega)]
  have f3 : decide (hi = 0) = false := decide_eq_false hz
  obtain ⟨Y, rfl⟩ := Int.eq_ofNat_of_zero_le (show 0 ≤ y by omega)
  obtain ⟨b1, b2, b3⟩ := Lib.bitLenAux_bounds 64 Y (by omega) (by omega)
  have b4 : Lib.bitLenAux 64 Y ≤ 64 := by
    refine Nat.le_of_not_lt fun h => ?_
    have := Nat.pow_le_pow_right (show 0 < 2 by omega) (show 64 ≤ Lib.bitLenAux 64 Y - 1 by omega)
    omega
  obtain ⟨b, hb⟩ : ∃ b, Lib.bitLenAux 64 Y = b := ⟨_, rfl⟩
  rw [hb] at b1 b2 b3 b4
  obtain ⟨s, hs⟩ : ∃ s, s + b = 64 := ⟨64 - b, by omega⟩
  have hST : (2 : Int) ^ s * 2 ^ b = 18446744073709551616 := by rw [← Int.pow_add, hs]; rfl
  have hS0 : (0 : Int) < 2 ^ s := Int.pow_pos (by omega)
  have hT0 : (0 : Int) < 2 ^ b := Int.pow_pos (by omega)
  have hYT : (Y : Int) < 2 ^ b := by
    have := Int.ofNat_lt.2 b3
    simpa using this
  have hYS : (Y : Int) * 2 ^ s < 18446744073709551616 := by
    rw [← hST, Int.mul_comm ((2 : Int) ^ s)]
    exact Int.mul_lt_mul_of_pos_right hYT hS0
  have hYS2 : (9223372036854775808 : Int) ≤ Y * 2 ^ s := by
    have h2 : ((2 ^ (b - 1) : Nat) : Int) ≤ Y := Int.ofNat_le.2 b2
    have h3 := Int.mul_le_mul_of_nonneg_right h2 (Int.le_of_lt hS0)
    have h4 : ((2 ^ (b - 1) : Nat) : Int) * 2 ^ s = 9223372036854775808 := by
      rw [Int.natCast_pow]
      show (2 : Int) ^ (b - 1) * 2 ^ s = _
      rw [← Int.pow_add, show b - 1 + s = 63 by omega]; rfl
    omega
  have hlT : lo / 2 ^ b < 2 ^ s := (Int.ediv_lt_iff_lt_mul hT0).2 (by rw [hST]; exact hl)
  have hlT0 : 0 ≤ lo / 2 ^ b := Int.ediv_nonneg hl0 (Int.le_of_lt hT0)
  have hhi : hi * 2 ^ s + 2 ^ s ≤ Y * 2 ^ s := by
    have := Int.mul_le_mul_of_nonneg_right (show hi + 1 ≤ (Y : Int) by omega) (Int.le_of_lt hS0)
    rw [Int.add_mul] at this
    omega
  have hhi0 : 0 ≤ hi * 2 ^ s := mul_nn h0 (Int.le_of_lt hS0)
  have w1 : bits_LeadingZeros64F (Y : Int) = some (s : Int) := by
    unfold bits_LeadingZeros64F
    have e : Lib.bitLen (Y : Int).toNat = b := hb
    rw [e, show (64 - (b : Int)) = s by omega]
  have w2 : IntKind.u64.wrap (s : Int) = s := u64_in (by omega) (by omega)
  have w3 : IntKind.u64.wrap (64 - (s : Int)) = b := by rw [show (64 - (s : Int)) = b by omega]; exact u64_in (by omega) (by omega)
  have m1 : min s 64 = s := by omega
  have m2 : min b 64 = b := by omega
  have n1 : decide ((s : Int) < 0) = false := decide_eq_false (by omega)
  have n2 : decide ((b : Int) < 0) = false := decide_eq_false (by omega)
  have wy : IntKind.u64.wrap ((Y : Int) * 2 ^ s) = Y * 2 ^ s := u64_in (by omega) hYS
  have wh : IntKind.u64.wrap (hi * 2 ^ s) = hi * 2 ^ s := u64_in hhi0 (by omega)
  have wf : lo.fdiv (2 ^ b) = lo / 2 ^ b := Int.fdiv_eq_ediv_of_nonneg lo (Int.le_of_lt hT0)
  have wo : bitsOf .or .u64 (hi * 2 ^ s) (lo / 2 ^ b) = hi * 2 ^ s + lo / 2 ^ b := or_low h0 hlT0 hlT (by omega)
  have nd : decide (((Y : Int) * 2 ^ s).fdiv 4294967296 = 0) = false := by
    rw [Int.fdiv_eq_ediv_of_nonneg _ (by omega)]
    exact decide_eq_false (by omega)
  unfold bits_Div64F
  simp only [f1, f2, f3, brn_false, w1, obnd_some, w2, w3, n1, n2, Int.toNat_natCast, m1, m2, wy, wh, wf, wo, nd]
  have hd := div_inner_is (yn := (Y : Int) * 2 ^ s) (u := hi * 2 ^ s + lo / 2 ^ b) (t := IntKind.u64.wrap (lo * 2 ^ s)) (S := 2 ^ s) hYS2 hYS (by omega) (by omega)
    (by rw [u64]; omega) (by rw [u64]; omega) hS0
  refine Eq.trans hd ?_
  have e1 : (hi * 2 ^ s + lo / 2 ^ b) * 18446744073709551616 + IntKind.u64.wrap (lo * 2 ^ s) = 2 ^ s * (hi * 18446744073709551616 + lo) := by
    have h1 : lo * 2 ^ s / 18446744073709551616 = lo / 2 ^ b := by
      rw [← hST, Int.mul_comm ((2 : Int) ^ s) (2 ^ b)]
      exact Int.mul_ediv_mul_of_pos_left lo (2 ^ b) hS0
    rw [u64, ← h1, Int.mul_add, Int.mul_comm ((2 : Int) ^ s) lo, ← Int.mul_assoc, Int.mul_comm ((2 : Int) ^ s) hi]
    omega
  rw [e1, Int.mul_comm (Y : Int) (2 ^ s), Int.mul_ediv_mul_of_pos _ _ hS0, Int.mul_emod_mul_of_pos _ _ hS0, Int.mul_ediv_cancel_left _ (by omega)]
end Go.Proofs.YtmlbknmjgahcfaaDoor
