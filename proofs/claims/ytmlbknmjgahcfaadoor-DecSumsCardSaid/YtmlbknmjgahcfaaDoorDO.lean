/- The decimals: what each function gives. -/
import Derived.Test.YtmlbknmjgahcfaaDoorDU
namespace Go.Proofs.YtmlbknmjgahcfaaDoor
open Go Go.Ev

theorem natAbs_sw (n : Int) : sw n.natAbs (decide (n < 0)) = n := by
  unfold sw
  by_cases h : n < 0
  · rw [decide_eq_true h, cond_true]; omega
  · rw [decide_eq_false h, cond_false]; omega
theorem abs_mul_pow (n : Int) (k : Nat) : (n.natAbs : Int) * 10 ^ k = ((n * 10 ^ k).natAbs : Int) := by
  have h : (1 : Int) ≤ 10 ^ k := by
    have := Int.pow_pos (n := (10 : Int)) (m := k) (by omega)
    omega
  by_cases h0 : n < 0
  · have e1 : (n.natAbs : Int) = -n := by omega
    have e2 : n * 10 ^ k ≤ 0 := by
      have := Int.mul_nonneg (show 0 ≤ -n by omega) (show (0 : Int) ≤ 10 ^ k by omega)
      rw [Int.neg_mul] at this; omega
    rw [e1, Int.neg_mul]; omega
  · have e1 : (n.natAbs : Int) = n := by omega
    have := Int.mul_nonneg (show 0 ≤ n by omega) (show (0 : Int) ≤ 10 ^ k by omega)
    rw [e1]; omega
theorem neg_mul_pow (n : Int) (k : Nat) : decide (n * 10 ^ k < 0) = decide (n < 0) := by
  have h : (0 : Int) < 10 ^ k := Int.pow_pos (by omega)
  rw [decide_eq_decide]
  constructor
  · intro h1
    refine Int.not_le.1 fun h2 => ?_
    have := Int.mul_nonneg h2 (Int.le_of_lt h)
    omega
  · intro h1
    have := Int.mul_pos (show 0 < -n by omega) h
    rw [Int.neg_mul] at this; omega
/-- so great is what a decimal means -/
theorem V_le {d : Dec} (hm : I64 d.M) : (V d).natAbs ≤ 9223372036854775808000000000 := by
  have h := abs_mul_pow d.M (9 - d.S.toNat)
  have h2 := pow10_le (show 9 - d.S.toNat ≤ 19 by omega)
  have h3 : (10 : Int) ^ (9 - d.S.toNat) ≤ 10 ^ 9 := by
    have := Nat.pow_le_pow_right (show 0 < 10 by omega) (show 9 - d.S.toNat ≤ 9 by omega)
    have h := Int.ofNat_le.2 this
    simpa using h
  unfold I64 at hm
  have h4 : (d.M.natAbs : Int) * 10 ^ (9 - d.S.toNat) ≤ 9223372036854775808 * 10 ^ 9 := mul_le (by omega) (by omega) (by omega) h3
  unfold V
  omega
theorem inV {d : Dec} (hm : I64 d.M) : inW (V d).natAbs := by
  have := V_le hm
  unfold inW; omega
theorem scaled_is {d : Dec} (hm : I64 d.M) (h0 : 0 ≤ d.S) (h9 : d.S ≤ 9) : dec_scaledF d = some (W (V d).natAbs (decide (V d < 0))) := by
  unfold dec_scaledF
  have e : d.M.natAbs * (10 : Int) ^ (9 - d.S.toNat) = ((V d).natAbs : Int) := abs_mul_pow d.M (9 - d.S.toNat)
  have hp := pow10_le (show 9 - d.S.toNat ≤ 19 by omega)
  rw [of_is hm, obnd_some, i64_in (by omega) (by omega), show (9 - d.S : Int) = ((9 - d.S.toNat : Nat) : Int) by omega, power_is (by omega), obnd_some,
    times_is (by unfold I64 at hm; unfold inW; omega) (by omega) (by omega) (by rw [e]; exact inV hm), e, obnd_some]
  unfold V
  rw [neg_mul_pow]
theorem Add_is {a b : Dec} (ha : I64 a.M) (hb : I64 b.M) (oa : okD a) (ob : okD b) : dec_AddF (a, b) = some (decV (V a + V b) 9) := by
  unfold dec_AddF
  simp only
  rw [scaled_is ha oa.1 oa.2.1, scaled_is hb ob.1 ob.2.1, obnd_some, obnd_some]
  have h1 := V_le ha
  have h2 := V_le hb
  obtain ⟨z, m, e, hz, es⟩ := plus_is (m := decide (V a < 0)) (m' := decide (V b < 0)) (inV ha) (inV hb) (by unfold inW; omega)
  rw [e, obnd_some, show (9 : Int) = ((9 : Nat) : Int) from rfl, wdec_is hz (by omega), es, natAbs_sw, natAbs_sw]; rfl
theorem sw_not (v : Int) (m : Bool) : sw v (!m) = - sw v m := by cases m <;> simp [sw]
theorem Sub_is {a b : Dec} (ha : I64 a.M) (hb : I64 b.M) (oa : okD a) (ob : okD b) : dec_SubF (a, b) = some (decV (V a - V b) 9) := by
  unfold dec_SubF
  simp only
  rw [scaled_is ha oa.1 oa.2.1, scaled_is hb ob.1 ob.2.1, obnd_some, obnd_some]
  have h1 := V_le ha
  have h2 := V_le hb
  obtain ⟨z, m, e, hz, es⟩ := plus_is (m := decide (V a < 0)) (m' := !decide (V b < 0)) (inV ha) (inV hb) (by unfold inW; omega)
  have e2 : dec_wide_plusF (W (V a).natAbs (decide (V a < 0)), { hi := (W (V b).natAbs (decide (V b < 0))).hi, lo := (W (V b).natAbs (decide (V b < 0))).lo, minus := !(W (V b).natAbs (decide (V b < 0))).minus }) = some (W z m) := e
  rw [e2, obnd_some, show (9 : Int) = ((9 : Nat) : Int) from rfl, wdec_is hz (by omega), es, sw_not, natAbs_sw, natAbs_sw, ← Int.sub_eq_add_neg]; rfl
/-- how a product's sign comes -/
theorem sw_mul (a b : Int) : sw ((a.natAbs : Int) * b.natAbs) (!decide (decide (a < 0) = decide (b < 0))) = a * b := by
  have e : (a.natAbs : Int) * b.natAbs = ((a * b).natAbs : Int) := by rw [Int.natAbs_mul, Int.natCast_mul]
  rw [e]
  unfold sw
  by_cases h1 : a < 0 <;> by_cases h2 : b < 0
  · have := Int.mul_nonneg (show 0 ≤ -a by omega) (show 0 ≤ -b by omega)
    rw [Int.neg_mul_neg] at this
    simp only [h1, h2, decide_true, Bool.not_true, cond_false]; omega
  · have := Int.mul_nonneg (show 0 ≤ -a by omega) (show 0 ≤ b by omega)
    rw [Int.neg_mul] at this
    simp only [h1, h2, decide_true, decide_false, Bool.true_eq_false, Bool.not_false, cond_true]; omega
  · have := Int.mul_nonneg (show 0 ≤ a by omega) (show 0 ≤ -b by omega)
    rw [Int.mul_neg] at this
    simp only [h1, h2, decide_true, decide_false, Bool.false_eq_true, Bool.not_false, cond_true]; omega
  · have := Int.mul_nonneg (show 0 ≤ a by omega) (show 0 ≤ b by omega)
    simp only [h1, h2, decide_true, decide_false, Bool.not_true, cond_false]; omega
/-- with no more than nine places: a product is exact -/
theorem Mul_is {a b : Dec} (ha : I64 a.M) (hb : I64 b.M) (h0 : 0 ≤ a.S + b.S) (h9 : a.S + b.S ≤ 9) : dec_MulF (a, b) = some (decV (a.M * b.M) (a.S + b.S).toNat) := by
  have hA := ha
  have hB := hb
  unfold I64 at ha hb
  unfold dec_MulF
  simp only
  have p0 := mul_nn (show (0 : Int) ≤ a.M.natAbs by omega) (show (0 : Int) ≤ b.M.natAbs by omega)
  have p1 : (a.M.natAbs : Int) * b.M.natAbs ≤ 9223372036854775808 * 9223372036854775808 := mul_le (by omega) (by omega) (by omega) (by omega)
  have lo : ∀ (n : Int) (m : Bool), I64 n → (W n.natAbs m).lo = n.natAbs := fun n m h => by
    show (n.natAbs : Int) % 18446744073709551616 = n.natAbs
    unfold I64 at h
    omega
  rw [of_is hA, of_is hB, obnd_some, obnd_some, lo _ _ hA, lo _ _ hB, Mul64_is (by omega) (by omega) (by omega) (by omega), obnd_some, i64_in (by omega) (by omega), decide_eq_false (by omega), brn_false]
  have e2 : dec_wide_decF ({ hi := (a.M.natAbs : Int) * b.M.natAbs / 18446744073709551616, lo := (a.M.natAbs : Int) * b.M.natAbs % 18446744073709551616, minus := !decide ((W a.M.natAbs (decide (a.M < 0))).minus = (W b.M.natAbs (decide (b.M < 0))).minus) }, ((a.S + b.S).toNat : Int)) =
      some (decV (sw ((a.M.natAbs : Int) * b.M.natAbs) (!decide (decide (a.M < 0) = decide (b.M < 0)))) (a.S + b.S).toNat) := wdec_is ⟨p0, by omega⟩ (by omega)
  have e3 : a.S + b.S = ((a.S + b.S).toNat : Int) := by omega
  rw [sw_mul, ← e3] at e2
  simp only at e2 ⊢
  rw [e2]; rfl
/-- a quotient that is exact, by a whole number -/
theorem Div_is {a b : Dec} {q : Int} (ha : I64 a.M) (hb : I64 b.M) (oa : okD a) (hb0 : b.M ≠ 0) (hs : b.S = 0) (hq : V a = q * b.M) : dec_DivF (a, b) = some (decV q 9) := by
  have hA := ha
  have hB := hb
  have hV := V_le ha
  unfold I64 at hb
  unfold dec_DivF
  simp only
  have lo : (W b.M.natAbs (decide (b.M < 0))).lo = b.M.natAbs := by
    show (b.M.natAbs : Int) % 18446744073709551616 = b.M.natAbs
    omega
  have e0 : dec_powerF 0 = some 1 := power_is (n := 0) (by omega)
  rw [decide_eq_false hb0, brn_false, of_is hB, obnd_some, scaled_is hA oa.1 oa.2.1, obnd_some, hs, e0, obnd_some,
    times_is (inV hA) (by omega) (by omega) (by rw [Int.mul_one]; exact inV hA), obnd_some, lo, Int.mul_one]
  have e1 : dec_wide_roundF ({ hi := (W (V a).natAbs (decide (V a < 0))).hi, lo := (W (V a).natAbs (decide (V a < 0))).lo, minus := !decide ((W (V a).natAbs (decide (V a < 0))).minus = (W b.M.natAbs (decide (b.M < 0))).minus) }, (b.M.natAbs : Int)) =
      some (W (rdiv (V a).natAbs b.M.natAbs) (!decide (decide (V a < 0) = decide (b.M < 0)))) := (round_is (by omega) (by omega) (by omega) (by omega)).1
  have hw := (round_is (v := (V a).natAbs) (n := b.M.natAbs) (m := true) (by omega) (by omega) (by omega) (by omega)).2
  have er : rdiv (V a).natAbs b.M.natAbs = q.natAbs := by
    have e : ((V a).natAbs : Int) = q.natAbs * b.M.natAbs := by rw [hq, Int.natAbs_mul, Int.natCast_mul]
    unfold rdiv
    rw [e, Int.mul_emod_left, Int.mul_ediv_cancel _ (by omega), if_neg (by omega)]
  rw [e1, obnd_some, show (9 : Int) = ((9 : Nat) : Int) from rfl, wdec_is hw (by omega), er]
  have es : sw (q.natAbs : Int) (!decide (decide (V a < 0) = decide (b.M < 0))) = q := by
    have h := natAbs_sw q
    by_cases hz : q = 0
    · subst hz; cases (!decide (decide (V a < 0) = decide (b.M < 0))) <;> rfl
    have e : (!decide (decide (V a < 0) = decide (b.M < 0))) = decide (q < 0) := by
      by_cases h1 : q < 0 <;> by_cases h2 : b.M < 0
      · have := Int.mul_pos (show 0 < -q by omega) (show 0 < -b.M by omega)
        rw [Int.neg_mul_neg, ← hq] at this
        simp [h1, h2, show ¬ V a < 0 by omega]
      · have := Int.mul_pos (show 0 < -q by omega) (show 0 < b.M by omega)
        rw [Int.neg_mul, ← hq] at this
        simp [h1, h2, show V a < 0 by omega]
      · have := Int.mul_pos (show 0 < q by omega) (show 0 < -b.M by omega)
        rw [Int.mul_neg, ← hq] at this
        simp [h1, h2, show V a < 0 by omega]
      · have := Int.mul_pos (show 0 < q by omega) (show 0 < b.M by omega)
        rw [← hq] at this
        simp [h1, h2, show ¬ V a < 0 by omega]
    rw [e]; exact h
  rw [es]; rfl
theorem Round_is {a : Dec} {p : Nat} (ha : I64 a.M) (h0 : 0 ≤ a.S) (h9 : a.S ≤ 9) (hp : p ≤ 9) : dec_RoundF (a, (p : Int)) = some (if a.S ≤ p then (a, 0) else decV (rnd a.M (10 ^ (a.S.toNat - p))) p) := by
  have hA := ha
  unfold I64 at ha
  unfold dec_RoundF
  simp only
  rw [decide_eq_false (by omega), brn_false, decide_eq_false (by omega), brn_false]
  by_cases hs : a.S ≤ p
  · rw [decide_eq_true hs, brn_true, if_pos hs]
  · have hw := pow10_le (show a.S.toNat - p ≤ 19 by omega)
    rw [decide_eq_false hs, brn_false, if_neg hs, of_is hA, obnd_some, i64_in (by omega) (by omega), decide_eq_false (by omega), brn_false, show a.S - p = ((a.S.toNat - p : Nat) : Int) by omega, power_is (by omega), obnd_some]
    obtain ⟨h1, h2⟩ := round_is (v := a.M.natAbs) (n := 10 ^ (a.S.toNat - p)) (m := decide (a.M < 0)) (by omega) (by omega) (by omega) (by omega)
    rw [h1, obnd_some, decide_eq_false (by omega), brn_false, wdec_is h2 (by omega), obnd_some]
    have e : sw (rdiv a.M.natAbs (10 ^ (a.S.toNat - p))) (decide (a.M < 0)) = rnd a.M (10 ^ (a.S.toNat - p)) := by
      unfold sw rnd
      by_cases hn : a.M < 0
      · rw [decide_eq_true hn, cond_true, if_pos hn, show (a.M.natAbs : Int) = -a.M by omega]
      · rw [decide_eq_false hn, cond_false, if_neg hn, show (a.M.natAbs : Int) = a.M by omega]
    rw [e]
theorem tmod_neg {a n : Int} (hn : 0 < n) : (if a.tmod n < 0 then a.tdiv n - 1 else a.tdiv n) = a / n := by
  have h1 := Int.mul_tdiv_add_tmod a n
  by_cases h : 0 ≤ a
  · have := Int.tmod_nonneg n h
    rw [if_neg (by omega), Int.tdiv_eq_ediv_of_nonneg h]
  · have h2 := Int.lt_tmod_of_pos a hn
    have h3 : a.tmod n ≤ 0 := by
      have h4 := Int.tmod_nonneg n (show 0 ≤ -a by omega)
      rw [Int.neg_tmod] at h4
      omega
    split
    · refine (div_eq_of hn ?_ ?_).symm
      · rw [Int.sub_mul, Int.mul_comm]; omega
      · rw [Int.sub_add_cancel, Int.mul_comm]; omega
    · refine (div_eq_of hn ?_ ?_).symm
      · rw [Int.mul_comm]; omega
      · rw [Int.add_mul, Int.mul_comm]; omega
theorem Floor_is {a : Dec} (ha : I64 a.M) (h0 : 0 ≤ a.S) (h9 : a.S ≤ 9) : dec_FloorF a = some (⟨a.M / 10 ^ a.S.toNat, 0⟩, 0) := by
  unfold I64 at ha
  have hp := pow10_le (show a.S.toNat ≤ 19 by omega)
  have h9' : (10 : Int) ^ a.S.toNat ≤ 10 ^ 9 := by
    have := Nat.pow_le_pow_right (show 0 < 10 by omega) (show a.S.toNat ≤ 9 by omega)
    have h := Int.ofNat_le.2 this
    simpa using h
  unfold dec_FloorF
  rw [show a.S = ((a.S.toNat : Nat) : Int) by omega, power_is (by omega), Int.toNat_natCast, obnd_some, obnd_some, i64_in (by omega) (by omega), decide_eq_false (by omega), brn_false, brn_false]
  have h := tmod_neg (a := a.M) (n := 10 ^ a.S.toNat) (by omega)
  rw [← h]
  have b1 : (a.M.tdiv (10 ^ a.S.toNat)).natAbs ≤ a.M.natAbs := by
    rw [Int.natAbs_tdiv]; exact Nat.div_le_self _ _
  have b3 : a.M.tdiv (10 ^ a.S.toNat) ≤ 9223372036854775807 := by
    by_cases h0 : 0 ≤ a.M
    · omega
    · have := Int.tdiv_nonneg (show 0 ≤ -a.M by omega) (show (0 : Int) ≤ 10 ^ a.S.toNat by omega)
      rw [Int.neg_tdiv] at this
      omega
  by_cases hc : a.M.tmod (10 ^ a.S.toNat) < 0
  · rw [decide_eq_true hc, brn_true, if_pos hc]
    have b2 : -9223372036854775808 < a.M.tdiv (10 ^ a.S.toNat) := by
      refine Int.not_le.1 fun hle => ?_
      have e1 := Int.mul_tdiv_add_tmod a.M (10 ^ a.S.toNat)
      have e2 : (10 ^ a.S.toNat : Int) * a.M.tdiv (10 ^ a.S.toNat) ≤ a.M.tdiv (10 ^ a.S.toNat) := by
        have := Int.mul_le_mul_of_nonneg_right hp.1 (show 0 ≤ -a.M.tdiv (10 ^ a.S.toNat) by omega)
        rw [Int.one_mul, Int.mul_neg] at this
        omega
      omega
    rw [i64_in (n := a.M.tdiv _) (by omega) (by omega), i64_in (by omega) (by omega)]
  · rw [decide_eq_false hc, brn_false, if_neg hc, i64_in (by omega) (by omega)]
theorem cmp_is (x y : Int) : cmp_Compare_int64F (x, y) = some (cmpV x y) := by
  unfold cmp_Compare_int64F cmp_isNaN_int64F cmpV
  simp only [decide_true, cond_true, obnd_some, brn_false]
  by_cases h : x < y
  · simp [h]
  · by_cases h2 : y < x <;> simp [h, h2]
theorem cmpi_is (x y : Int) : cmp_Compare_intF (x, y) = some (cmpV x y) := by
  unfold cmp_Compare_intF cmp_isNaN_intF cmpV
  simp only [decide_true, cond_true, obnd_some, brn_false]
  by_cases h : x < y
  · simp [h]
  · by_cases h2 : y < x <;> simp [h, h2]
theorem V_neg (d : Dec) : decide (V d < 0) = decide (d.M < 0) := neg_mul_pow d.M _
theorem Compare_is {a b : Dec} (ha : I64 a.M) (hb : I64 b.M) (h0 : 0 ≤ a.S) (h9 : a.S ≤ 9) (k0 : 0 ≤ b.S) (k9 : b.S ≤ 9) : dec_CompareF (a, b) = some (cmpV (V a) (V b)) := by
  unfold dec_CompareF
  simp only
  rw [scaled_is ha h0 h9, scaled_is hb k0 k9, obnd_some, obnd_some, less_is (inV ha) (inV hb), less_is (inV hb) (inV ha), cmp_is, cmp_is, obnd_some, obnd_some, cmpi_is]
  show brn (!decide (decide (V a < 0) = decide (V b < 0))) _ (brn (decide (V a < 0)) _ _) = _
  have na := V_neg a
  have nb := V_neg b
  simp only [decide_eq_decide] at na nb
  by_cases h1 : V a < 0 <;> by_cases h2 : V b < 0
  · simp only [h1, h2, decide_true, Bool.not_true, brn_false, brn_true, obnd_some]
    unfold cmpV
    by_cases c1 : (V a).natAbs < (V b).natAbs
    · rw [decide_eq_true (by omega), brn_true, if_neg (by omega), if_pos (by omega)]
    · rw [decide_eq_false (by omega), brn_false]
      by_cases c2 : (V b).natAbs < (V a).natAbs
      · rw [decide_eq_true (by omega), brn_true, if_pos (by omega)]
      · rw [decide_eq_false (by omega), brn_false, if_neg (by omega), if_neg (by omega)]
  · have m1 := na.1 h1
    have m2 := mt nb.2 h2
    simp only [h1, h2, decide_true, decide_false, Bool.true_eq_false, Bool.not_false, brn_true, obnd_some]
    unfold cmpV
    rw [if_pos (show V a < V b by omega), if_pos m1, if_neg m2]
    split <;> rfl
  · have m1 := mt na.2 h1
    have m2 := nb.1 h2
    simp only [h1, h2, decide_true, decide_false, Bool.false_eq_true, Bool.not_false, brn_true, obnd_some]
    unfold cmpV
    rw [if_neg (show ¬ V a < V b by omega), if_pos (show V b < V a by omega), if_neg m1, if_pos m2]
    split <;> rfl
  · simp only [h1, h2, decide_true, decide_false, Bool.not_true, brn_false, obnd_some]
    unfold cmpV
    by_cases c1 : (V a).natAbs < (V b).natAbs
    · rw [decide_eq_true (by omega), brn_true, if_pos (by omega)]
    · rw [decide_eq_false (by omega), brn_false]
      by_cases c2 : (V b).natAbs < (V a).natAbs
      · rw [decide_eq_true (by omega), brn_true, if_neg (by omega), if_pos (by omega)]
      · rw [decide_eq_false (by omega), brn_false, if_neg (by omega), if_neg (by omega)]
theorem tmod10 (m : Int) : (m.tmod 10 = 0 ↔ m % 10 = 0) ∧ (m % 10 = 0 → m.tdiv 10 = m / 10) :=
  ⟨by rw [← Int.dvd_iff_tmod_eq_zero, ← Int.dvd_iff_emod_eq_zero], fun h => Int.tdiv_eq_ediv_of_dvd (Int.dvd_of_emod_eq_zero h)⟩
theorem Norm_is {m : Int} {s : Nat} (hm : I64 m) (hs : s ≤ 9) : dec_NormF ⟨m, (s : Int)⟩ = some ⟨(strip m s).1, ((strip m s).2 : Int)⟩ := by
  have h : dec_Norm_l1J ⟨m, (s : Int)⟩ = some ((), ⟨(strip m s).1, ((strip m s).2 : Int)⟩) := by
    refine iter_big (F := dec_Norm_l1F) (fun d : Dec => d.S.toNat) (fun d : Dec => 0 ≤ d.S ∧ d.S ≤ 9 ∧ I64 d.M) (fun d => ((), ⟨(strip d.M d.S.toNat).1, ((strip d.M d.S.toNat).2 : Int)⟩)) ?_ _ ⟨by simp only; omega, by simp only; omega, hm⟩ (by simp only; omega)
    intro back d hp hb
    obtain ⟨m, s⟩ := d
    obtain ⟨h0, h9, hm⟩ := hp
    simp only at h0 h9 hm hb
    obtain ⟨s, rfl⟩ := Int.eq_ofNat_of_zero_le h0
    unfold dec_Norm_l1F
    simp only [Int.toNat_natCast]
    cases s with
    | zero => simp only [Int.ofNat_zero, Int.lt_irrefl, decide_false, brn_false, strip]
    | succ s =>
      rw [decide_eq_true (show (0 : Int) < ((s + 1 : Nat) : Int) by omega), brn_true]
      unfold strip
      obtain ⟨t1, t2⟩ := tmod10 m
      by_cases hz : m % 10 = 0
      · rw [decide_eq_true (t1.2 hz), brn_true, if_pos hz, t2 hz]
        unfold I64 at hm
        rw [i64_in (by omega) (by omega), i64_in (by omega) (by omega), show (((s + 1 : Nat) : Int) - 1) = (s : Int) by omega]
        have := hb ⟨m / 10, (s : Int)⟩ ⟨by simp only; omega, by simp only; omega, by unfold I64; simp only; omega⟩ (by simp only [Int.toNat_natCast]; omega)
        simpa only [Int.toNat_natCast] using this
      · rw [decide_eq_false (fun h => hz (t1.1 h)), brn_false, if_neg hz]
  unfold dec_NormF
  rw [h]; rfl
theorem CheckDec_is (d : Dec) : ref7_CheckDecF d = some 0 ∧ okD d ∨ ∃ e, ref7_CheckDecF d = some e ∧ e ≠ 0 := by
  unfold ref7_CheckDecF okD
  by_cases h1 : d.S < 0
  · exact .inr ⟨1, by simp [h1], by omega⟩
  · by_cases h2 : 9 < d.S
    · exact .inr ⟨1, by simp [h1, h2], by omega⟩
    · by_cases h3 : 0 < d.S
      · by_cases h4 : d.M.tmod 10 = 0
        · exact .inr ⟨1, by simp [h1, h2, h3, h4], by omega⟩
        · exact .inl ⟨by simp [h1, h2, h3, h4], by omega, by omega, fun _ h => h4 ((tmod10 d.M).1.2 h)⟩
      · exact .inl ⟨by simp [h1, h2, h3], by omega, by omega, fun h => absurd h h3⟩
end Go.Proofs.YtmlbknmjgahcfaaDoor
