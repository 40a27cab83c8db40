/- The wide numbers: what each step gives. -/
import Derived.Test.YtmlbknmjgahcfaaDoorDY
import Derived.Test.YtmlbknmjgahcfaaDoorDV
namespace Go.Proofs.YtmlbknmjgahcfaaDoor
open Go Go.Ev

/-- a wide number, by its size and its sign -/
def W (v : Int) (m : Bool) : Wide := ⟨v / 18446744073709551616, v % 18446744073709551616, m⟩
def sw (v : Int) (m : Bool) : Int := bif m then -v else v
def inW (v : Int) : Prop := 0 ≤ v ∧ v < 340282366920938463463374607431768211456

theorem of_is {n : Int} (h : I64 n) : dec_ofF n = some (W n.natAbs (decide (n < 0))) := by
  unfold I64 at h
  unfold dec_ofF W
  by_cases h0 : n < 0
  · simp only [h0, decide_true, brn_true, u64, Option.some.injEq, Wide.mk.injEq, and_true]
    omega
  · simp only [h0, decide_false, brn_false, u64, Option.some.injEq, Wide.mk.injEq, and_true]
    omega
theorem pow10 : ∀ n : Fin 20, (1 : Int) ≤ 10 ^ n.val ∧ (10 : Int) ^ n.val ≤ 10000000000000000000 := by decide
theorem pow10_le {n : Nat} (h : n ≤ 19) : (1 : Int) ≤ 10 ^ n ∧ (10 : Int) ^ n ≤ 10000000000000000000 := pow10 ⟨n, by omega⟩
theorem power_is {n : Nat} (h : n ≤ 19) : dec_powerF (n : Int) = some (10 ^ n) := by
  have h2 : dec_power_l1J (1, (n : Int), 0) = some (10 ^ n) := by
    refine iter_big (F := dec_power_l1F) (fun x : Int × Int × Int => ((n : Int) - x.2.2).toNat) (fun x : Int × Int × Int => 0 ≤ x.2.2 ∧ x.2.2 ≤ n ∧ x.2.1 = n ∧ x.1 = 10 ^ x.2.2.toNat) (fun _ => 10 ^ n) ?_ _ ⟨by simp, by simp, rfl, rfl⟩ (by simp only; omega)
    intro back x hp hb
    obtain ⟨a, m, i⟩ := x
    obtain ⟨h1, h2, h3, h4⟩ := hp
    simp only at h1 h2 h3 h4 hb
    subst h3 h4
    obtain ⟨i, rfl⟩ := Int.eq_ofNat_of_zero_le h1
    unfold dec_power_l1F
    simp only [Int.toNat_natCast] at *
    by_cases hi : i < n
    · have hp1 := (pow10_le (show i + 1 ≤ 19 by omega))
      rw [decide_eq_true (show (i : Int) < n by omega), brn_true, ← Int.pow_succ, u64_in (by omega) (by omega), i64_in (by omega) (by omega)]
      exact hb _ ⟨by simp only; omega, by simp only; omega, rfl, by simp only; rw [show ((i : Int) + 1).toNat = i + 1 by omega]⟩ (by simp only; omega)
    · rw [decide_eq_false (show ¬ (i : Int) < n by omega), brn_false, show i = n by omega]
  unfold dec_powerF
  rw [h2]; rfl
theorem times_is {v n : Int} {m : Bool} (hv : inW v) (hn : 0 ≤ n) (hn2 : n < 18446744073709551616) (h : inW (v * n)) : dec_wide_timesF (W v m, n) = some (W (v * n) m) := by
  unfold inW at *
  unfold dec_wide_timesF W
  simp only
  rw [Mul64_is (by omega) (by omega) hn hn2]
  simp only [obnd_some]
  have e : v * n = v / 18446744073709551616 * n * 18446744073709551616 + v % 18446744073709551616 * n := by
    have h1 : v = v / 18446744073709551616 * 18446744073709551616 + v % 18446744073709551616 := by omega
    have h2 : v * n = (v / 18446744073709551616 * 18446744073709551616 + v % 18446744073709551616) * n := by rw [← h1]
    rw [h2, Int.add_mul, Int.mul_right_comm]
  have p1 := mul_nn (show 0 ≤ v / 18446744073709551616 by omega) hn
  have p2 := mul_nn (show 0 ≤ v % 18446744073709551616 by omega) hn
  rw [e] at h ⊢
  generalize v / 18446744073709551616 * n = a at *
  generalize v % 18446744073709551616 * n = b at *
  simp only [u64, Option.some.injEq, Wide.mk.injEq, and_true]
  omega
theorem less_is {v w : Int} {m m' : Bool} (_ : inW v) (_ : inW w) : dec_wide_lessF (W v m, W w m') = some (decide (v < w)) := by
  unfold inW at *
  unfold dec_wide_lessF W
  simp only
  by_cases h1 : v / 18446744073709551616 < w / 18446744073709551616
  · rw [decide_eq_true h1, brn_true, decide_eq_true (show v < w by omega)]
  · rw [decide_eq_false h1, brn_false]
    by_cases h2 : v / 18446744073709551616 = w / 18446744073709551616
    · rw [decide_eq_true h2, brn_true]
      simp only [Option.some.injEq, decide_eq_decide]
      omega
    · rw [decide_eq_false h2, brn_false, decide_eq_false (show ¬ v < w by omega)]
theorem plus_is {v w : Int} {m m' : Bool} (hv : inW v) (hw : inW w) (h : inW (v + w)) :
    ∃ z b, dec_wide_plusF (W v m, W w m') = some (W z b) ∧ inW z ∧ sw z b = sw v m + sw w m' := by
  have hvw := less_is (m := m) (m' := m') hv hw
  unfold inW at *
  unfold dec_wide_plusF
  rw [hvw]
  by_cases hm : m = m'
  · subst hm
    refine ⟨v + w, m, ?_, h, by cases m <;> simp only [sw, cond_true, cond_false] <;> omega⟩
    unfold bits_Add64F W
    simp only [decide_true, brn_true, Bool.true_or, cond_true, obnd_some, u64, Option.some.injEq, Wide.mk.injEq, and_true]
    omega
  · rw [decide_eq_false (show ¬ (W v m).minus = (W w m').minus from hm), brn_false, obnd_some]
    have hm2 : m' = !m := by cases m <;> cases m' <;> simp at hm ⊢
    subst hm2
    unfold bits_Sub64F W
    by_cases hl : v < w
    · refine ⟨w - v, !m, ?_, by omega, by cases m <;> simp only [sw, cond_true, cond_false, Bool.not_true, Bool.not_false] <;> omega⟩
      rw [decide_eq_true hl, brn_true]
      simp only [decide_true, Bool.true_or, cond_true, obnd_some, u64, Option.some.injEq, Wide.mk.injEq, and_true, Int.add_zero, Int.sub_zero]
      by_cases hb : w % 18446744073709551616 < v % 18446744073709551616
      · rw [decide_eq_true hb, cond_true]; omega
      · rw [decide_eq_false hb, cond_false]; omega
    · refine ⟨v - w, m, ?_, by omega, by cases m <;> simp only [sw, cond_true, cond_false, Bool.not_true, Bool.not_false] <;> omega⟩
      rw [decide_eq_false hl, brn_false]
      simp only [decide_true, Bool.true_or, cond_true, obnd_some, u64, Option.some.injEq, Wide.mk.injEq, and_true, Int.add_zero, Int.sub_zero]
      by_cases hb : v % 18446744073709551616 < w % 18446744073709551616
      · rw [decide_eq_true hb, cond_true]; omega
      · rw [decide_eq_false hb, cond_false]; omega
theorem by_is {v n : Int} {m : Bool} (hv : inW v) (hn : 0 < n) (hn2 : n < 18446744073709551616) : dec_wide_byF (W v m, n) = some (W (v / n) m, v % n) := by
  unfold inW at *
  unfold dec_wide_byF W
  simp only
  have hh : 0 ≤ v / 18446744073709551616 := by omega
  rw [decide_eq_false (show ¬ n = 0 by omega), brn_false, brn_false, Int.tmod_eq_emod_of_nonneg hh, tdiv_nn hh]
  have r0 := Int.emod_nonneg (v / 18446744073709551616) (show n ≠ 0 by omega)
  have r1 := Int.emod_lt_of_pos (v / 18446744073709551616) hn
  rw [Div64_is r0 r1 (by omega) (by omega) hn2, obnd_some]
  obtain ⟨q, hq⟩ : ∃ q, v / 18446744073709551616 / n = q := ⟨_, rfl⟩
  obtain ⟨r, hr⟩ : ∃ r, v / 18446744073709551616 % n = r := ⟨_, rfl⟩
  have hqr := Int.mul_ediv_add_emod (v / 18446744073709551616) n
  rw [hq, hr] at hqr
  rw [hr] at r0 r1
  rw [hr, hq]
  have hq0 : 0 ≤ q := by rw [← hq]; exact Int.ediv_nonneg hh (by omega)
  have hq1 : q < 18446744073709551616 := by have := Int.ediv_le_self n hh; omega
  have e : v = r * 18446744073709551616 + v % 18446744073709551616 + n * (q * 18446744073709551616) := by
    rw [← Int.mul_assoc]; omega
  obtain ⟨d, hd⟩ : ∃ d, r * 18446744073709551616 + v % 18446744073709551616 = d := ⟨_, rfl⟩
  rw [hd] at e ⊢
  have d0 : 0 ≤ d / n := Int.ediv_nonneg (by omega) (by omega)
  have d1 : d / n < 18446744073709551616 := (Int.ediv_lt_iff_lt_mul hn).2 (by omega)
  have e1 : v / n = d / n + q * 18446744073709551616 := by
    rw [e, Int.add_mul_ediv_left _ _ (show n ≠ 0 by omega)]
  have e2 : v % n = d % n := by rw [e, Int.add_mul_emod_self_left]
  rw [e1, e2]
  simp only [u64, Option.some.injEq, Prod.mk.injEq, Wide.mk.injEq, and_true]
  omega
theorem up_is {v : Int} {m : Bool} (hv : inW v) (h : inW (v + 1)) : dec_wide_upF (W v m) = some (W (v + 1) m) := by
  unfold inW at *
  unfold dec_wide_upF bits_Add64F W
  simp only [decide_true, Bool.true_or, cond_true, obnd_some, u64, Option.some.injEq, Wide.mk.injEq, and_true]
  omega
theorem rdiv_le {v n : Int} (hv : 0 ≤ v) (hn : 0 < n) : 0 ≤ rdiv v n ∧ rdiv v n ≤ v / n + 1 ∧ v / n ≤ v := by
  have h1 := Int.ediv_nonneg hv (show 0 ≤ n by omega)
  have h2 := Int.ediv_le_self n hv
  unfold rdiv
  split <;> omega
theorem round_is {v n : Int} {m : Bool} (hv : 0 ≤ v) (hv2 : v < 340282366920938463463374607431768211455) (hn : 0 < n) (hn2 : n < 18446744073709551616) : dec_wide_roundF (W v m, n) = some (W (rdiv v n) m) ∧ inW (rdiv v n) := by
  have hw : inW v := ⟨hv, by omega⟩
  obtain ⟨h1, h2, h3⟩ := rdiv_le hv hn
  have r0 := Int.emod_nonneg v (show n ≠ 0 by omega)
  have r1 := Int.emod_lt_of_pos v hn
  have r2 := Int.ediv_nonneg hv (show 0 ≤ n by omega)
  refine ⟨?_, h1, by omega⟩
  unfold dec_wide_roundF
  rw [by_is hw hn hn2, obnd_some]
  simp only
  rw [u64_in (by omega) (by omega)]
  unfold rdiv
  by_cases h : n - v % n ≤ v % n
  · rw [decide_eq_true h, brn_true, if_pos (by omega), up_is ⟨r2, by omega⟩ ⟨by omega, by omega⟩]; rfl
  · rw [decide_eq_false h, brn_false, if_neg (by omega)]
theorem strip_nn : ∀ (p : Nat) {v : Int}, 0 ≤ v → 0 ≤ (strip v p).1
  | 0, _, h => h
  | p + 1, v, h => by
    unfold strip
    split
    · exact strip_nn p (by omega)
    · exact h
theorem strip_neg : ∀ (p : Nat) (v : Int), strip (-v) p = (-(strip v p).1, (strip v p).2)
  | 0, _ => rfl
  | p + 1, v => by
    unfold strip
    by_cases h : v % 10 = 0
    · rw [if_pos (by omega), if_pos h, show -v / 10 = -(v / 10) by omega, strip_neg p]
    · rw [if_neg (by omega), if_neg h]
theorem dec_l1_is {v : Int} {m : Bool} {p : Nat} (hv : inW v) (hp : p ≤ 18) : dec_wide_dec_l1J ((p : Int), W v m) = some (((strip v p).2 : Int), W (strip v p).1 m) := by
  refine iter_big (fun x => x.1.toNat) (fun x => ∃ (p : Nat) (v : Int), p ≤ 18 ∧ inW v ∧ x = ((p : Int), W v m) ∧ True)
    (fun x => (((strip (x.2.hi * 18446744073709551616 + x.2.lo) x.1.toNat).2 : Int), W (strip (x.2.hi * 18446744073709551616 + x.2.lo) x.1.toNat).1 m)) ?_ _ ⟨p, v, hp, hv, rfl, trivial⟩ (by simp only; omega) |>.trans ?_
  · intro back x hx hb
    obtain ⟨p, v, hp, hv, rfl, -⟩ := hx
    have ev : ∀ {v : Int}, v / 18446744073709551616 * 18446744073709551616 + v % 18446744073709551616 = v := fun {v} => by omega
    unfold dec_wide_dec_l1F
    simp only [W, Int.toNat_natCast, ev] at hb ⊢
    cases p with
    | zero => simp only [Int.ofNat_zero, Int.lt_irrefl, decide_false, brn_false, strip]
    | succ p =>
      have hby := by_is (v := v) (n := 10) (m := m) hv (by omega) (by omega)
      simp only [W] at hby
      rw [decide_eq_true (show (0 : Int) < ((p + 1 : Nat) : Int) by omega), brn_true, hby, obnd_some]
      unfold strip
      by_cases h0 : v % 10 = 0
      · simp only [h0, decide_true, Bool.not_true, brn_false, if_true]
        rw [i64_in (by omega) (by omega), show (((p + 1 : Nat) : Int) - 1) = (p : Int) by omega]
        have := hb ((p : Int), ⟨v / 10 / 18446744073709551616, v / 10 % 18446744073709551616, m⟩) ⟨p, v / 10, by omega, ⟨by have := hv.1; omega, by have := hv.1; have := hv.2; omega⟩, rfl, trivial⟩ (by simp only [Int.toNat_natCast]; omega)
        simpa only [ev, Int.toNat_natCast] using this
      · simp only [h0, decide_false, Bool.not_false, brn_true, if_false]
  · have ev : v / 18446744073709551616 * 18446744073709551616 + v % 18446744073709551616 = v := by omega
    simp only [W, ev, Int.toNat_natCast]
theorem wdec_is {v : Int} {m : Bool} {p : Nat} (hv : inW v) (hp : p ≤ 18) : dec_wide_decF (W v m, (p : Int)) = some (decV (sw v m) p) := by
  unfold dec_wide_decF
  simp only
  rw [dec_l1_is hv hp, obnd_some]
  have h0 := strip_nn p hv.1
  have h1 := strip_abs p v
  have hs : strip (sw v m) p = (sw (strip v p).1 m, (strip v p).2) := by
    cases m
    · rfl
    · exact strip_neg p v
  have hd : decV (sw v m) p = if I64 (sw (strip v p).1 m) then (⟨sw (strip v p).1 m, ((strip v p).2 : Int)⟩, 0) else (⟨0, 0⟩, 8) := by
    unfold decV
    rw [hs]
  rw [hd]
  have hv1 := hv.1
  have hv2 := hv.2
  generalize (strip v p).1 = u at *
  generalize ((strip v p).2) = s at *
  unfold W
  simp only [u64, i64]
  by_cases c1 : u / 18446744073709551616 = 0
  · by_cases c2 : 9223372036854775808 < u % 18446744073709551616
    · rw [if_neg (by unfold I64 sw; cases m <;> simp only [cond_true, cond_false] <;> omega)]
      simp [c1, c2]
    · by_cases c3 : u % 18446744073709551616 = 9223372036854775808
      · cases m
        · rw [if_neg (by unfold I64 sw; simp only [cond_false]; omega)]
          simp [c1, c3]
        · rw [if_pos (by unfold I64 sw; simp only [cond_true]; omega)]
          simp only [c1, c3, sw, decide_true, decide_false, Bool.not_true, brn_true, brn_false, cond_true, Option.some.injEq, Prod.mk.injEq, Dec.mk.injEq, and_true, Int.lt_irrefl]
          omega
      · cases m
        · rw [if_pos (by unfold I64 sw; simp only [cond_false]; omega)]
          simp only [c1, c2, c3, sw, decide_true, decide_false, Bool.not_true, brn_false, cond_false, Option.some.injEq, Prod.mk.injEq, Dec.mk.injEq, and_true]
          omega
        · rw [if_pos (by unfold I64 sw; simp only [cond_true]; omega)]
          simp only [c1, c2, c3, sw, decide_true, decide_false, Bool.not_true, brn_true, brn_false, cond_true, Option.some.injEq, Prod.mk.injEq, Dec.mk.injEq, and_true]
          omega
  · rw [if_neg (by unfold I64 sw; cases m <;> simp only [cond_true, cond_false] <;> omega)]
    simp [c1]
end Go.Proofs.YtmlbknmjgahcfaaDoor
