/- YM -/
import Derived.Test.YtdgpkbnnljblmaaGreatDoorY8
import Derived.Test.YtdgpkbnnljblmaaGreatDoorKD
namespace Go.Proofs.YtdgpkbnnljblmaaGreatDoor
open Go Go.Ev Go.Lib
theorem V_up {d : Dec} {p : Nat} (h : d.S.toNat ≤ p) (h9 : p ≤ 9) : V d = up d p * 10 ^ (9 - p) := by
  unfold V up
  rw [Int.mul_assoc, ← Int.pow_add, show p - d.S.toNat + (9 - p) = 9 - d.S.toNat by omega]
theorem scale_lt {x y : Int} {k : Nat} : (x * 10 ^ k < y * 10 ^ k ↔ x < y) := by
  have : 0 < (10 : Int) ^ k := Int.pow_pos (by decide)
  exact ⟨fun h => Int.lt_of_mul_lt_mul_right h (Int.le_of_lt this), fun h => Int.mul_lt_mul_of_pos_right h this⟩
theorem cmpV_scale (x y : Int) (k : Nat) : cmpV (x * 10 ^ k) (y * 10 ^ k) = cmpV x y := by
  unfold cmpV
  simp only [scale_lt]
theorem rdN_mul (k n : Nat) (h : 0 < n) : rdN (k * n) n = k := by
  unfold rdN
  rw [Nat.mul_mod_left, if_neg (by omega), Nat.mul_div_cancel _ h]
theorem sw_abs (k : Int) (n : Nat) (m : Bool) (hm : m = decide (k < 0) ∨ k = 0) : sw ((k.natAbs * n : Nat) : Int) m = k * n := by
  rw [Int.natCast_mul]
  rcases hm with rfl | rfl
  · have := natAbs_sw k
    unfold sw at this ⊢
    cases hk : decide (k < 0) with
    | true => rw [hk] at this; simp only [cond_true] at this ⊢; rw [← Int.neg_mul, this]
    | false => rw [hk] at this; simp only [cond_false] at this ⊢; rw [this]
  · unfold sw; cases m <;> simp
theorem norm_ok {a : Int} {s : Nat} (h : a.natAbs ≤ 9223372036854775807) (hs : s ≤ 9) : okd ⟨(strip a s).1, ((strip a s).2 : Int)⟩ := by
  refine ⟨ok_strip a s hs, ?_⟩
  have := strip_abs s a
  unfold I64 at *
  simp only; omega
theorem up_le {d : Dec} {p : Nat} (hp : p ≤ 3) (hm : d.M.natAbs ≤ 2147483648) : (up d p).natAbs ≤ 2147483648000 := by
  unfold up
  rw [Int.natAbs_mul]
  have h1 : ((10 : Int) ^ (p - d.S.toNat)).natAbs ≤ 1000 := by
    rw [Int.natAbs_pow]
    exact Nat.pow_le_pow_right (n := 10) (by decide) (show p - d.S.toNat ≤ 3 by omega)
  have := Nat.mul_le_mul hm h1
  omega
theorem sgn_mul {k n : Int} (hk : k ≠ 0) (hn : n ≠ 0) : (k * n < 0 ↔ ¬ (k < 0 ↔ n < 0)) := by
  rcases Int.lt_trichotomy k 0 with h1 | h1 | h1
  · rcases Int.lt_trichotomy n 0 with h2 | h2 | h2
    · have := Int.mul_pos_of_neg_of_neg h1 h2; omega
    · exact absurd h2 hn
    · have := Int.mul_neg_of_neg_of_pos h1 h2; omega
  · exact absurd h1 hk
  · rcases Int.lt_trichotomy n 0 with h2 | h2 | h2
    · have := Int.mul_neg_of_pos_of_neg h1 h2; omega
    · exact absurd h2 hn
    · have := Int.mul_pos h1 h2; omega
theorem back_is {x y : Dec} {r k : Int} {p : Nat} (hx : okd x) (hy : okd y) (hp : p ≤ 9) (px : x.S.toNat ≤ p) (py : y.S.toNat ≤ p) (h0 : y.M ≠ 0) (hr : r.natAbs ≤ 9223372036854775807) (hz : (up x p - r).natAbs ≤ 9000000000000000000) (hk : up x p - r = k * up y p) :
    ∃ d, dec_SubF (x, ⟨(strip r p).1, ((strip r p).2 : Int)⟩) = some (d, 0) ∧ dec_DivF (d, y) = some (⟨k, 0⟩, 0) ∧ dec_MulF (⟨k, 0⟩, y) = some (d, 0) := by
  have hn := norm_ok hr hp
  have hV : V ⟨(strip r p).1, ((strip r p).2 : Int)⟩ = r * 10 ^ (9 - p) := V_strip r p hp
  have hd := norm_ok (a := up x p - r) (s := p) (by omega) hp
  have hVd : V ⟨(strip (up x p - r) p).1, ((strip (up x p - r) p).2 : Int)⟩ = (up x p - r) * 10 ^ (9 - p) := V_strip _ p hp
  generalize (⟨(strip (up x p - r) p).1, ((strip (up x p - r) p).2 : Int)⟩ : Dec) = d at hd hVd
  have hs : dec_SubF (x, ⟨(strip r p).1, ((strip r p).2 : Int)⟩) = some (d, 0) := by
    rw [Sub_is hx.2 hn.2 hx.1 hn.1, V_up px hp, hV, ← Int.sub_mul, ← hVd, decV_V hd.1 hd.2]
  have hYz := up_zero (p := p) h0
  have hk9 : k.natAbs ≤ 9000000000000000000 := by
    have : k.natAbs * 1 ≤ k.natAbs * (up y p).natAbs := Nat.mul_le_mul_left _ (by omega)
    have e : (up x p - r).natAbs = k.natAbs * (up y p).natAbs := by rw [hk, Int.natAbs_mul]
    omega
  have hVk : V d = k * V y := by rw [hVd, hk, V_up py hp, Int.mul_assoc]
  refine ⟨d, hs, ?_, ?_⟩
  · obtain ⟨s, es, hs9⟩ := natS hd.1
    obtain ⟨t, et, ht9⟩ := natS hy.1
    have hM := hd.2; have hN := hy.2
    have a1 : V d = d.M * 10 ^ (9 - s) := by unfold V; rw [es]; rfl
    have a2 : V y = y.M * 10 ^ (9 - t) := by unfold V; rw [et]; rfl
    generalize d.M = M at *; generalize y.M = N at *
    subst es; subst et
    rw [prodDiv_is hM hN hs9 ht9 h0]
    have e1 : M.natAbs * 10 ^ (9 - s + t) = k.natAbs * 10 ^ 9 * N.natAbs := by
      have e2 : M * 10 ^ (9 - s) * 10 ^ t = k * 10 ^ 9 * N := by
        rw [← a1, hVk, a2, Int.mul_assoc, Int.mul_assoc, ← Int.pow_add, show 9 - t + t = 9 by omega, Int.mul_assoc, Int.mul_comm N]
      have e3 := congrArg Int.natAbs e2
      rw [Int.mul_assoc, ← Int.pow_add] at e3
      simpa [Int.natAbs_mul, Int.natAbs_pow] using e3
    rw [e1, rdN_mul _ _ (by omega)]
    have hsg : sgnP M N = decide (k < 0) ∨ k = 0 := by
      by_cases hk0 : k = 0
      · exact .inr hk0
      · refine .inl ?_
        unfold sgnP
        have p2 : (10 : Int) ^ (9 - t) ≠ 0 := by
          have : 0 < (10 : Int) ^ (9 - t) := Int.pow_pos (by decide)
          omega
        rw [a1, a2] at hVk
        have m1 := @scale_lt M 0 (9 - s)
        have m2 := @scale_lt N 0 (9 - t)
        rw [Int.zero_mul] at m1 m2
        have m3 := sgn_mul hk0 (Int.mul_ne_zero h0 p2)
        rw [← hVk, m1, m2] at m3
        clear a1 a2 e1 hVk hVd hs hk hYz m1 m2 p2
        by_cases c1 : M < 0 <;> by_cases c2 : N < 0 <;> by_cases c3 : k < 0 <;> first | (exfalso; omega) | simp [c1, c2, c3]
    have e4 := sw_abs k (10 ^ 9) (sgnP M N) hsg
    rw [e4]
    have := decV_V (d := ⟨k, 0⟩) (okInt k) (by unfold I64; simp only; omega)
    unfold V at this
    simpa using this
  · obtain ⟨t, et, ht9⟩ := natS hy.1
    have hN := hy.2
    have a2 : V y = y.M * 10 ^ (9 - t) := by unfold V; rw [et]; rfl
    generalize y.M = N at *
    subst et
    have := prodMul_is (M := k) (N := N) (s := 0) (t := t) (by unfold I64; omega) hN (by omega) ht9
    rw [show (⟨k, ((0 : Nat) : Int)⟩ : Dec) = ⟨k, 0⟩ from rfl] at this
    rw [this]
    unfold prodV
    rw [if_pos (by omega), Nat.zero_add]
    have he : (⟨(strip (k * N) t).1, ((strip (k * N) t).2 : Int)⟩ : Dec) = d := by
      refine V_inj (ok_strip _ _ ht9) hd.1 ?_
      rw [V_strip _ _ ht9, hVk, a2, Int.mul_assoc]
    unfold decV
    have hm : (strip (k * N) t).1 = d.M := by rw [← he]
    rw [if_pos (by rw [hm]; exact hd.2), he]
theorem tm4 (n : Nat) : (n : Int).tmod 4 = ((n % 4 : Nat) : Int) := by rw [Int.tmod_eq_emod_of_nonneg (by omega)]; rfl
theorem V0 : V ⟨0, 0⟩ = 0 := by unfold V; simp
theorem FunMod_true {a b : Int} {s : UInt8} (ha : -2147483648 ≤ a ∧ a ≤ 2147483647) (hb : -2147483648 ≤ b ∧ b ≤ 2147483647) : law11_FunModF (a, b, s) = some true := by
  unfold law11_FunModF
  rw [show law11_knownF () = some true from rfl, obnd_some]
  simp only [Bool.not_true, brn_false]
  have hs : s.toNat < 256 := s.toNat_lt
  have e1 : IntKind.i64.wrap ((s.toNat : Int).tmod 4) = ((s.toNat % 4 : Nat) : Int) := by rw [tm4, i64_in (by omega) (by omega)]
  have e2 : IntKind.i64.wrap ((IntKind.u8.wrap ((s.toNat : Int).tdiv 4)).tmod 4) = ((s.toNat / 4 % 4 : Nat) : Int) := by
    rw [show (s.toNat : Int).tdiv 4 = ((s.toNat / 4 : Nat) : Int) from by rw [Int.tdiv_eq_ediv_of_nonneg (by omega)]; rfl, u8w, Nat.mod_eq_of_lt (by omega), tm4, i64_in (by omega) (by omega)]
  rw [e1, e2, i64_in (by omega) (by omega), i64_in (n := b) (by omega) (by omega), Norm_is (by unfold I64; omega) (by omega), obnd_some, Norm_is (by unfold I64; omega) (by omega), obnd_some]
  have hx := norm_ok (a := a) (s := s.toNat % 4) (by omega) (by omega)
  have hy := norm_ok (a := b) (s := s.toNat / 4 % 4) (by omega) (by omega)
  have sx := strip_le (s.toNat % 4) a
  have sy := strip_le (s.toNat / 4 % 4) b
  have mx := strip_abs (s.toNat % 4) a
  have my := strip_abs (s.toNat / 4 % 4) b
  have kx : ((⟨(strip a (s.toNat % 4)).1, ((strip a (s.toNat % 4)).2 : Int)⟩ : Dec).S.toNat ≤ 3) ∧ (⟨(strip a (s.toNat % 4)).1, ((strip a (s.toNat % 4)).2 : Int)⟩ : Dec).M.natAbs ≤ 2147483648 := by
    constructor
    · simp only [Int.toNat_natCast]; omega
    · simp only; omega
  have ky : ((⟨(strip b (s.toNat / 4 % 4)).1, ((strip b (s.toNat / 4 % 4)).2 : Int)⟩ : Dec).S.toNat ≤ 3) ∧ (⟨(strip b (s.toNat / 4 % 4)).1, ((strip b (s.toNat / 4 % 4)).2 : Int)⟩ : Dec).M.natAbs ≤ 2147483648 := by
    constructor
    · simp only [Int.toNat_natCast]; omega
    · simp only; omega
  generalize (⟨(strip a (s.toNat % 4)).1, ((strip a (s.toNat % 4)).2 : Int)⟩ : Dec) = x at *
  generalize (⟨(strip b (s.toNat / 4 % 4)).1, ((strip b (s.toNat / 4 % 4)).2 : Int)⟩ : Dec) = y at *
  rw [show (⟨1, x, [], false, 0⟩ : Val) = vN x from rfl, show (⟨1, y, [], false, 0⟩ : Val) = vN y from rfl, one_is2, obnd_some, one_is2, obnd_some, mod_apply hx hy, obnd_some]
  by_cases h0 : y.M = 0
  · rw [decide_eq_true h0, brn_true, fault_is, obnd_some]
    unfold modV numV
    rw [if_pos h0]
    simp [vE]
  rw [decide_eq_false h0, brn_false]
  have hp : max x.S.toNat y.S.toNat ≤ 3 := by omega
  have px : x.S.toNat ≤ max x.S.toNat y.S.toNat := by omega
  have py : y.S.toNat ≤ max x.S.toNat y.S.toNat := by omega
  have hm : modV x y = (⟨(strip (fm (up x (max x.S.toNat y.S.toNat)) (up y (max x.S.toNat y.S.toNat))) (max x.S.toNat y.S.toNat)).1, ((strip (fm (up x (max x.S.toNat y.S.toNat)) (up y (max x.S.toNat y.S.toNat))) (max x.S.toNat y.S.toNat)).2 : Int)⟩, 0) := by
    unfold modV
    have u1 := up_le (p := max x.S.toNat y.S.toNat) hp kx.2
    have u2 := up_le (p := max x.S.toNat y.S.toNat) hp ky.2
    rw [if_neg h0]
    simp only
    rw [if_pos ⟨by unfold I64; omega, by unfold I64; omega⟩]
  generalize max x.S.toNat y.S.toNat = p at *
  have u1 := up_le hp kx.2
  have u2 := up_le hp ky.2
  have hY := up_zero (p := p) h0
  obtain ⟨f1, f2, k, f3⟩ := fm_ok (up x p) hY
  rw [hm]
  have hVy := V_up (d := y) py (by omega)
  generalize fm (up x p) (up y p) = r at *
  have hn := norm_ok (a := r) (s := p) (by omega) (by omega)
  have hVn : V ⟨(strip r p).1, ((strip r p).2 : Int)⟩ = r * 10 ^ (9 - p) := V_strip r p (by omega)
  obtain ⟨d, b1, b2, b3⟩ := back_is hx hy (p := p) (r := r) (k := k) (by omega) px py h0 (by omega) (by omega) f3
  generalize (⟨(strip r p).1, ((strip r p).2 : Int)⟩ : Dec) = n at *
  have hv : numV (n, 0) = vN n := rfl
  rw [hv]
  have z0 : (0 : Int) = 0 * 10 ^ (9 - p) := by simp
  have c1 : dec_CompareF (n, ⟨0, 0⟩) = some (cmpV r 0) := by rw [(cmp_eq hn okd0).1, hVn, V0, z0, cmpV_scale, ← z0]
  have c2 : dec_CompareF (y, ⟨0, 0⟩) = some (cmpV (up y p) 0) := by rw [(cmp_eq hy okd0).1, hVy, V0, z0, cmpV_scale, ← z0]
  have c3 : dec_CompareF (n, y) = some (cmpV r (up y p)) := by rw [(cmp_eq hn hy).1, hVn, hVy, cmpV_scale]
  have hb1 : law11_FunMod_b1J (y, vN n, ⟨0, 0⟩) = some false := by
    unfold law11_FunMod_b1J
    simp only [show (vN n).N = n from rfl]
    rw [c2, c3]
    simp only [obnd_some]
    unfold cmpV
    rcases Int.lt_trichotomy (up y p) 0 with h | h | h
    · rw [if_pos h, if_neg (show ¬ r < up y p by omega), if_pos (show up y p < r by omega)]; rfl
    · exact absurd h hY
    · rw [if_neg (show ¬ up y p < 0 by omega), if_pos h, if_pos (show r < up y p by by_cases hr : r = 0 <;> omega)]; rfl
  rw [show (vN n).Kind = 1 from rfl, show (vN n).N = n from rfl, show dec_IntF 0 = some ⟨0, 0⟩ from rfl]
  simp only [decide_true, Bool.not_true, brn_false, obnd_some]
  rw [c1, c2, hb1]
  simp only [obnd_some, brn_false]
  rw [b1]
  simp only [obnd_some]
  rw [b2]
  simp only [obnd_some]
  rw [b3]
  simp only [obnd_some]
  rw [show IntKind.i64.wrap (IntKind.i64.wrap (0 + 0) + 0) = 0 from rfl]
  simp only [decide_true, brn_true]
  by_cases hr : cmpV r 0 = 0
  · rw [decide_eq_true hr]; rfl
  · have : cmpV r 0 = cmpV (up y p) 0 := by
      unfold cmpV at hr ⊢
      rcases Int.lt_trichotomy r 0 with h | h | h
      · rw [if_pos h, if_pos ((f2 (by omega)).1 h)]
      · subst h; simp at hr
      · have := f2 (by omega)
        rw [if_neg (by omega), if_pos h, if_neg (by omega), if_pos (by omega)]
    rw [decide_eq_false hr, decide_eq_true this]; rfl
end Go.Proofs.YtdgpkbnnljblmaaGreatDoor
