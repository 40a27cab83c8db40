/- Rounding, in the program and in the document: both tell the same. -/
import Derived.Test.YtmlbknmjgahcfaaDoorDK
import Derived.Test.YtmlbknmjgahcfaaDoorDQ
import Derived.Test.YtmlbknmjgahcfaaDoorDP
namespace Go.Proofs.YtmlbknmjgahcfaaDoor
open Go Go.Ev

theorem refNorm_is {m : Int} {s : Nat} (hm : I64 m) (hs : s ≤ 9) : ref7_NormF ⟨m, (s : Int)⟩ = some ⟨(strip m s).1, ((strip m s).2 : Int)⟩ := by
  have h : ref7_Norm_l1J ⟨m, (s : Int)⟩ = some ((), ⟨(strip m s).1, ((strip m s).2 : Int)⟩) := by
    refine iter_big (F := ref7_Norm_l1F) (fun d : Dec => d.S.toNat) (fun d : Dec => 0 ≤ d.S ∧ d.S ≤ 9 ∧ I64 d.M) (fun d => ((), ⟨(strip d.M d.S.toNat).1, ((strip d.M d.S.toNat).2 : Int)⟩)) ?_ _ ⟨by simp only; omega, by simp only; omega, hm⟩ (by simp only; omega)
    intro back d hp hb
    obtain ⟨m, s⟩ := d
    obtain ⟨h0, h9, hm⟩ := hp
    simp only at h0 h9 hm hb
    obtain ⟨s, rfl⟩ := Int.eq_ofNat_of_zero_le h0
    unfold ref7_Norm_l1F
    simp only [Int.toNat_natCast]
    cases s with
    | zero => simp only [Int.ofNat_zero, Int.lt_irrefl, decide_false, brn_false, strip]
    | succ s =>
      rw [decide_eq_true (show (0 : Int) < ((s + 1 : Nat) : Int) by omega), brn_true]
      unfold strip
      obtain ⟨t1, t2⟩ := tmod10 m
      by_cases hz : m % 10 = 0
      · rw [decide_eq_true (t1.2 hz), brn_true, if_pos hz, t2 hz]
        unfold I64 at hm
        rw [i64_in (by omega) (by omega), i64_in (by omega) (by omega), show (((s + 1 : Nat) : Int) - 1) = (s : Int) by omega]
        have := hb ⟨m / 10, (s : Int)⟩ ⟨by simp only; omega, by simp only; omega, by unfold I64; simp only; omega⟩ (by simp only [Int.toNat_natCast]; omega)
        simpa only [Int.toNat_natCast] using this
      · rw [decide_eq_false (fun h => hz (t1.1 h)), brn_false, if_neg hz]
  unfold ref7_NormF
  rw [h]; rfl

/-- rounded, halves up -/
def rdivN (n k : Nat) : Nat := if 10 ^ k ≤ 2 * (n % 10 ^ k) then n / 10 ^ k + 1 else n / 10 ^ k
theorem pow_cast (k : Nat) : ((10 ^ k : Nat) : Int) = (10 : Int) ^ k := by simp
theorem rdivN_cast (n k : Nat) : (rdivN n k : Int) = rdiv n (10 ^ k) := by
  unfold rdivN rdiv
  rw [← pow_cast]
  generalize 10 ^ k = T
  by_cases h : T ≤ 2 * (n % T)
  · rw [if_pos h, if_pos (by omega)]; rfl
  · rw [if_neg h, if_neg (by omega)]; rfl
theorem rnd_sw (M : Int) (k : Nat) : sw (rdivN M.natAbs k) (decide (M < 0)) = rnd M (10 ^ k) := by
  rw [rdivN_cast]
  unfold sw rnd
  by_cases hn : M < 0
  · rw [decide_eq_true hn, cond_true, if_pos hn, show (M.natAbs : Int) = -M by omega]
  · rw [decide_eq_false hn, cond_false, if_neg hn, show (M.natAbs : Int) = M by omega]
theorem half_digit {n k : Nat} (_h : k < (digs n).length) : (5 ≤ n / 10 ^ k % 10) ↔ (10 ^ (k + 1) ≤ 2 * (n % 10 ^ (k + 1))) := by
  rw [Nat.mod_pow_succ, Nat.pow_succ]
  have hp : 0 < 10 ^ k := Nat.pow_pos (by omega)
  have hr := Nat.mod_lt n hp
  generalize n % 10 ^ k = r at *
  generalize n / 10 ^ k % 10 = d at *
  generalize 10 ^ k = T at *
  constructor
  · intro h
    have := Nat.mul_le_mul_left T h
    omega
  · intro h
    apply Classical.byContradiction
    intro hn
    have := Nat.mul_le_mul_left T (show d ≤ 4 by omega)
    omega
theorem small_digs {n : Nat} (h : n < 10 ^ 100) : (digs n).length ≤ 100 := digs_len_le 100 n h

theorem roundBig_is {n s k : Nat} {t : Int} {m : Bool} (hl : (digs n).length ≤ 1000) (_hs : s ≤ 100) (hk : k ≤ 200) (hk1 : 1 ≤ k) (ht : t = (s : Int) - (k : Int)) : ref7_roundF (⟨m, digs n⟩, (s : Int), t) = some (⟨m && !decide (rdivN n k = 0), digs (rdivN n k)⟩, t) := by
  unfold ref7_roundF
  simp only
  rw [decide_eq_false (by omega), brn_false, i64_in (n := (s : Int) - t) (by omega) (by omega), show (s : Int) - t = (k : Int) by omega]
  by_cases hgt : (digs n).length < k
  · rw [decide_eq_true (by omega), brn_true]
    have h1 := digs_len_lt (n := n) (k := k - 1) (by omega)
    have h2 : 10 ^ k = 10 ^ (k - 1) * 10 := by rw [← Nat.pow_succ]; congr 1; omega
    have h3 : rdivN n k = 0 := by
      unfold rdivN
      rw [Nat.mod_eq_of_lt (by omega), Nat.div_eq_of_lt (by omega), if_neg (by omega)]
    rw [h3, digs_zero]; simp
  · rw [decide_eq_false (by omega), brn_false, i64_in (n := (k : Int) - 1) (by omega) (by omega), show (k : Int) - 1 = ((k - 1 : Nat) : Int) by omega, idxI (digs_get (k - 1) n (by omega)), obnd_some, subS (by omega), obnd_some, digs_drop]
    have hl2 : (digs (n / 10 ^ k)).length ≤ 1000 := by rw [← digs_drop]; simp; omega
    rw [appS (by simp; omega), obnd_some, List.nil_append, trim_is (digs_dig _) (by omega), vd_digs, obnd_some]
    have hh := half_digit (n := n) (k := k - 1) (by omega)
    rw [show k - 1 + 1 = k by omega] at hh
    simp only
    by_cases h5 : 5 ≤ n / 10 ^ (k - 1) % 10
    · obtain ⟨R, r1, r2, r3, r4⟩ := plusD_is (D := digs (n / 10 ^ k)) (E := [1]) (digs_dig _) (isDig_cons.2 ⟨by omega, isDig_nil⟩) (by omega) (by simp)
      have hr : rdivN n k = n / 10 ^ k + 1 := by unfold rdivN; rw [if_pos (hh.1 h5)]
      rw [decide_eq_true (by omega), brn_true, r1, obnd_some, trim_is r2 (by omega), obnd_some, r3, vd_digs, hr]
      rfl
    · have hr : rdivN n k = n / 10 ^ k := by unfold rdivN; rw [if_neg (mt hh.2 h5)]
      rw [decide_eq_false (by omega), brn_false, hr]

/-- what rounding tells -/
def rounded (a : Dec) (t : Int) : Dec × Int :=
  if t < -18 ∨ 9 < t then (⟨0, 0⟩, 1) else if a.S ≤ t then (a, 0) else
    if 0 ≤ t then decV (rnd a.M (10 ^ (a.S - t).toNat)) t.toNat else decV (rnd a.M (10 ^ (a.S - t).toNat) * 10 ^ (-t).toNat) 0

theorem sw_and (n : Nat) (m : Bool) : sw (n : Int) (m && !decide (n = 0)) = sw (n : Int) m := by
  by_cases h : n = 0
  · subst h; cases m <;> rfl
  · simp [h]
theorem sw_mul_pos (n p : Int) (m : Bool) : sw (n * p) m = sw n m * p := by
  cases m
  · rfl
  · simp only [sw, cond_true]; rw [Int.neg_mul]
theorem refRound_is {a : Dec} {t : Int} (ha : I64 a.M) (oa : okD a) : ref7_RoundDecF (a, t) = some (rounded a t) := by
  obtain ⟨M, S⟩ := a
  obtain ⟨h0, h9, hn⟩ := oa
  simp only at h0 h9 hn ha
  obtain ⟨s, rfl⟩ := Int.eq_ofNat_of_zero_le h0
  have hI := ha
  unfold I64 at ha
  have hlen : (digs M.natAbs).length ≤ 19 := digs_len_le 19 _ (by omega)
  unfold ref7_RoundDecF rounded
  simp only
  by_cases c1 : t < -18
  · rw [decide_eq_true c1, brn_true, if_pos (.inl c1)]
  · rw [decide_eq_false c1, brn_false]
    by_cases c2 : 9 < t
    · rw [decide_eq_true c2, brn_true, if_pos (.inr c2)]
    · rw [decide_eq_false c2, brn_false, if_neg (by omega), big_is hI, obnd_some]
      by_cases c3 : (s : Int) ≤ t
      · rw [if_pos c3]
        have : ref7_roundF (⟨decide (M < 0), digs M.natAbs⟩, (s : Int), t) = some (⟨decide (M < 0), digs M.natAbs⟩, (s : Int)) := by
          unfold ref7_roundF
          simp only
          rw [decide_eq_true c3, brn_true]
        rw [this, obnd_some]
        simp only
        rw [decide_eq_false (by omega), brn_false, small_is (by omega) (by omega), obnd_some, natAbs_sw]
        unfold decV
        rw [strip_self s M (fun h => hn (by omega)), if_pos hI]
      · rw [if_neg c3]
        generalize hk : ((s : Int) - t).toNat = k
        rw [roundBig_is (k := k) (by omega) (by omega) (by omega) (by omega) (by omega), obnd_some]
        simp only
        have hrl : rdivN M.natAbs k < 10 ^ 20 := by
          have : M.natAbs / 10 ^ k ≤ M.natAbs := Nat.div_le_self _ _
          unfold rdivN; split <;> omega
        have hrl2 := digs_len_le 20 _ hrl
        by_cases c4 : 0 ≤ t
        · rw [if_pos c4, decide_eq_false (by omega), brn_false]
          have := small_is (n := rdivN M.natAbs k) (p := t.toNat) (m := decide (M < 0) && !decide (rdivN M.natAbs k = 0)) (by omega) (by omega)
          rw [show ((t.toNat : Nat) : Int) = t by omega] at this
          rw [this, obnd_some, sw_and, rnd_sw]
        · rw [if_neg c4, decide_eq_true (by omega), brn_true, i64_in (by omega) (by omega), show (0 - t) = (((-t).toNat : Nat) : Int) by omega, up_big_is (by omega) (by omega), obnd_some]
          have hlen3 : (digs (rdivN M.natAbs k * 10 ^ (-t).toNat)).length ≤ 5000 := by
            refine Nat.le_trans (digs_len_le 40 _ ?_) (by omega)
            have h1 : 10 ^ (-t).toNat ≤ 10 ^ 18 := Nat.pow_le_pow_right (by omega) (by omega)
            exact Nat.lt_of_le_of_lt (Nat.mul_le_mul (Nat.le_of_lt hrl) h1) (by decide)
          have := small_is (n := rdivN M.natAbs k * 10 ^ (-t).toNat) (p := 0) (m := decide (M < 0) && !decide (rdivN M.natAbs k = 0)) hlen3 (by omega)
          rw [show (((0 : Nat)) : Int) = 0 by rfl] at this
          rw [this, obnd_some]
          congr 2
          rw [show ((rdivN M.natAbs k * 10 ^ (-t).toNat : Nat) : Int) = (rdivN M.natAbs k : Int) * 10 ^ (-t).toNat by rw [← pow_cast]; simp]
          rw [sw_mul_pos, sw_and, rnd_sw]

theorem decRound_is {a : Dec} {t : Int} (ha : I64 a.M) (oa : okD a) : dec_RoundF (a, t) = some (rounded a t) := by
  have h0 := oa.1
  have h9 := oa.2.1
  unfold rounded
  by_cases c1 : t < -18
  · unfold dec_RoundF
    simp only
    rw [decide_eq_true c1, brn_true, if_pos (.inl c1)]
  · by_cases c2 : 9 < t
    · unfold dec_RoundF
      simp only
      rw [decide_eq_false c1, brn_false, decide_eq_true c2, brn_true, if_pos (.inr c2)]
    · rw [if_neg (by omega)]
      by_cases c4 : 0 ≤ t
      · obtain ⟨p, rfl⟩ := Int.eq_ofNat_of_zero_le c4
        rw [Round_is ha h0 h9 (by omega), if_pos c4, Int.toNat_natCast]
        by_cases c3 : a.S ≤ (p : Int)
        · rw [if_pos c3, if_pos c3]
        · rw [if_neg c3, if_neg c3, show (a.S - (p : Int)).toNat = a.S.toNat - p by omega]
      · have hA := ha
        unfold I64 at ha
        rw [if_neg (by omega), if_neg c4]
        unfold dec_RoundF
        simp only
        rw [decide_eq_false c1, brn_false, decide_eq_false c2, brn_false, decide_eq_false (by omega), brn_false, of_is hA, obnd_some, i64_in (n := a.S - t) (by omega) (by omega)]
        generalize hk : (a.S - t).toNat = k
        by_cases c5 : 19 < a.S - t
        · rw [decide_eq_true c5, brn_true]
          have h1 : 10 ^ 20 ≤ 10 ^ k := Nat.pow_le_pow_right (by omega) (by omega)
          have h2 : rnd a.M (10 ^ k) = 0 := by
            rw [← rnd_sw]
            have : rdivN a.M.natAbs k = 0 := by
              unfold rdivN
              rw [Nat.mod_eq_of_lt (by omega), Nat.div_eq_of_lt (by omega), if_neg (by omega)]
            rw [this]; unfold sw; cases decide (a.M < 0) <;> rfl
          rw [h2, Int.zero_mul]
          rfl
        · have hw := pow10_le (show k ≤ 19 by omega)
          have hw2 := pow10_le (show (-t).toNat ≤ 19 by omega)
          rw [decide_eq_false c5, brn_false, show a.S - t = (k : Int) by omega, power_is (by omega), obnd_some]
          obtain ⟨h1, h2⟩ := round_is (v := a.M.natAbs) (n := 10 ^ k) (m := decide (a.M < 0)) (by omega) (by omega) (by omega) (by omega)
          have hle : 10 ^ (-t).toNat ≤ 10 ^ k := Nat.pow_le_pow_right (by omega) (by omega)
          have hb : (rdiv (a.M.natAbs : Int) (10 ^ k)) * 10 ^ (-t).toNat ≤ 9223372036854775808 + 10000000000000000000 := by
            rw [← rdivN_cast, ← pow_cast, ← Int.natCast_mul]
            have e1 : rdivN a.M.natAbs k ≤ a.M.natAbs / 10 ^ k + 1 := by unfold rdivN; split <;> omega
            have e2 := Nat.mul_le_mul e1 hle
            have e3 := Nat.mul_le_mul e1 (Nat.le_refl (10 ^ (-t).toNat))
            have e4 : a.M.natAbs / 10 ^ k * 10 ^ (-t).toNat ≤ a.M.natAbs := Nat.le_trans (Nat.mul_le_mul_left _ hle) (Nat.div_mul_le_self _ _)
            have e5 : 10 ^ (-t).toNat ≤ 10 ^ 19 := Nat.pow_le_pow_right (by omega) (by omega)
            rw [Nat.add_mul, Nat.one_mul] at e3
            generalize rdivN a.M.natAbs k * 10 ^ (-t).toNat = z at *
            generalize a.M.natAbs / 10 ^ k * 10 ^ (-t).toNat = y at *
            generalize 10 ^ (-t).toNat = x at *
            have : z ≤ 9223372036854775808 + 10000000000000000000 := by omega
            omega
          have hb0 : 0 ≤ (rdiv (a.M.natAbs : Int) (10 ^ k)) * 10 ^ (-t).toNat := mul_nn h2.1 (by omega)
          have hwd := wdec_is (v := rdiv (a.M.natAbs : Int) (10 ^ k) * 10 ^ (-t).toNat) (m := decide (a.M < 0)) (p := 0) ⟨hb0, by omega⟩ (by omega)
          rw [show ((0 : Nat) : Int) = 0 from rfl] at hwd
          rw [h1, obnd_some, decide_eq_true (by omega), brn_true, i64_in (by omega) (by omega), show (0 - t) = (((-t).toNat : Nat) : Int) by omega, power_is (by omega), obnd_some, times_is h2 (by omega) (by omega) ⟨hb0, by omega⟩, obnd_some,
            hwd, obnd_some, sw_mul_pos, ← rdivN_cast, rnd_sw]

/-! ## down to a whole number -/
theorem floor_l1_is {N s : Nat} {m : Bool} (hl : (digs N).length ≤ 1000) (hs : s ≤ (digs N).length) : ref7_FloorDec_l1J (⟨m, digs N⟩, (s : Int), false, 0) = some (decide (N % 10 ^ s ≠ 0)) := by
  obtain ⟨y, h1, h2⟩ := iter_ex (F := ref7_FloorDec_l1F) (fun x => s - x.2.2.2.toNat) (fun x => x.1 = ⟨m, digs N⟩ ∧ x.2.1 = (s : Int) ∧ ∃ i : Nat, i ≤ s ∧ x.2.2.2 = (i : Int) ∧ x.2.2.1 = decide (N % 10 ^ i ≠ 0)) (fun y => y = decide (N % 10 ^ s ≠ 0)) (by
    rintro back ⟨b, s', r, i'⟩ ⟨rfl, e1, i, hi, e2, e3⟩ hb
    simp only at e1 e2 e3
    subst e1; subst e2; subst e3
    unfold ref7_FloorDec_l1F
    simp only at hb ⊢
    by_cases hlt : i < s
    · rw [decide_eq_true (by omega), brn_true, i64_in (n := (i : Int) + 1) (by omega) (by omega)]
      have hm := Nat.mod_pow_succ (x := N) (b := 10) (k := i)
      have hp : 0 < 10 ^ i := Nat.pow_pos (by omega)
      by_cases hz : N % 10 ^ i = 0
      · rw [decide_eq_false (by simpa using hz), brn_false, idxI (digs_get i N (by omega)), obnd_some]
        refine hb _ ⟨rfl, rfl, i + 1, by omega, rfl, ?_⟩ (by simp only; omega)
        simp only
        rw [hm, hz, Nat.zero_add]
        by_cases hd : N / 10 ^ i % 10 = 0
        · simp [hd]
        · have : ¬ 10 ^ i * (N / 10 ^ i % 10) = 0 := Nat.mul_ne_zero (by omega) hd
          have hd' : ¬ ((N / 10 ^ i % 10 : Nat) : Int) = 0 := by omega
          rw [decide_eq_false hd', decide_eq_true this]; rfl
      · rw [decide_eq_true hz, brn_true]
        refine hb _ ⟨rfl, rfl, i + 1, by omega, rfl, ?_⟩ (by simp only; omega)
        simp only
        rw [decide_eq_true (by omega)]
    · have : i = s := by omega
      subst this
      rw [decide_eq_false (by omega), brn_false]
      exact ⟨_, rfl, rfl⟩) (⟨m, digs N⟩, (s : Int), false, 0) ⟨rfl, rfl, 0, by omega, rfl, by simp [Nat.mod_one]⟩ (by simp only; omega)
  subst h2; exact h1
theorem decV_zero {v : Int} (h : I64 v) : decV v 0 = (⟨v, 0⟩, 0) := by
  unfold decV strip
  rw [if_pos h]; rfl
theorem refFloor_is {a : Dec} (ha : I64 a.M) (oa : okD a) : ref7_FloorDecF a = some (⟨a.M / 10 ^ a.S.toNat, 0⟩, 0) := by
  obtain ⟨M, S⟩ := a
  obtain ⟨h0, h9, hn⟩ := oa
  simp only at h0 h9 hn ha
  obtain ⟨s, rfl⟩ := Int.eq_ofNat_of_zero_le h0
  have hI := ha
  unfold I64 at ha
  have hlen : (digs M.natAbs).length ≤ 19 := digs_len_le 19 _ (by omega)
  unfold ref7_FloorDecF
  simp only [Int.toNat_natCast]
  rw [big_is hI, obnd_some]
  simp only
  rw [← pow_cast]
  by_cases hle : (digs M.natAbs).length ≤ s
  · have hlt := digs_len_lt hle
    rw [decide_eq_true (by omega), brn_true]
    generalize 10 ^ s = T at *
    by_cases hm : M < 0
    · rw [decide_eq_true hm, brn_true]
      have : M / (T : Int) = -1 := by
        have h1 : M = -(M.natAbs : Int) := by omega
        refine Int.le_antisymm ?_ ?_
        · have : M / (T : Int) < 0 := Int.ediv_neg_of_neg_of_pos hm (by omega)
          omega
        · refine (Int.le_ediv_iff_mul_le (by omega)).2 (by omega)
      rw [this]
    · rw [decide_eq_false hm, brn_false, Int.ediv_eq_zero_of_lt (by omega) (by omega)]
  · have hT : 0 < 10 ^ s := Nat.pow_pos (by omega)
    have hge : 10 ^ s ≤ M.natAbs := by
      apply Classical.byContradiction
      intro hc
      exact hle (digs_len_le s _ (by omega))
    have hq0 : M.natAbs / 10 ^ s ≠ 0 := by
      have := Nat.div_pos hge hT
      omega
    have hql : (digs (M.natAbs / 10 ^ s)).length ≤ 19 := by rw [← digs_drop]; simp; omega
    rw [decide_eq_false (by omega), brn_false, floor_l1_is (by omega) (by omega), obnd_some, subS (by omega), obnd_some, digs_drop, appS (by simp; omega), obnd_some, List.nil_append, trim_is (digs_dig _) (by omega), vd_digs, obnd_some]
    have hqle : M.natAbs / 10 ^ s ≤ M.natAbs := Nat.div_le_self _ _
    have hdm := Nat.div_add_mod M.natAbs (10 ^ s)
    have hml := Nat.mod_lt M.natAbs hT
    have sm : ∀ (v : Nat) (m : Bool), v ≤ 9223372036854775809 → ref7_smallF (⟨m, digs v⟩, 0) = some (decV (sw v m) 0) := fun v m hv => by
      have := small_is (n := v) (p := 0) (m := m) (by have := digs_len_le 20 v (by omega); omega) (by omega)
      exact this
    by_cases hm : M < 0
    · rw [decide_eq_true hm, brn_true, decide_eq_false hq0, show (true && !false) = true from rfl]
      have e1 : M = -(M.natAbs : Int) := by omega
      by_cases hr : M.natAbs % 10 ^ s = 0
      · have hv : M / ((10 ^ s : Nat) : Int) = -((M.natAbs / 10 ^ s : Nat) : Int) := by
          have : M = -((M.natAbs / 10 ^ s : Nat) : Int) * ((10 ^ s : Nat) : Int) := by
            rw [Int.neg_mul, ← Int.natCast_mul, Nat.mul_comm]; omega
          conv => lhs; rw [this]
          exact Int.mul_ediv_cancel _ (by omega)
        rw [decide_eq_false (by simpa using hr), brn_false, sm _ _ (by omega), obnd_some, hv]
        simp only [sw, cond_true]
        rw [decV_zero (by unfold I64; generalize M.natAbs / 10 ^ s = q at *; omega)]
      · obtain ⟨R, r1, r2, r3, r4⟩ := plusD_is (D := digs (M.natAbs / 10 ^ s)) (E := [1]) (digs_dig _) (isDig_cons.2 ⟨by omega, isDig_nil⟩) (by omega) (by simp)
        have hadd : ref7_addF (⟨true, digs (M.natAbs / 10 ^ s)⟩, ⟨true, [1]⟩) = some ⟨true, digs (M.natAbs / 10 ^ s + 1)⟩ := by
          unfold ref7_addF
          simp only [decide_true, brn_true]
          rw [r1, obnd_some, trim_is r2 (by omega), obnd_some, r3, vd_digs]
          have : vd [1] = 1 := rfl
          rw [this, decide_eq_false (Nat.succ_ne_zero _)]; rfl
        have hv : M / ((10 ^ s : Nat) : Int) = -((M.natAbs / 10 ^ s + 1 : Nat) : Int) := by
          generalize 10 ^ s = T at *
          generalize M.natAbs / T = q at *
          generalize M.natAbs % T = r at *
          have e2 : (M.natAbs : Int) = (T : Int) * (q : Int) + (r : Int) := by rw [← Int.natCast_mul]; omega
          have e3 : M = ((T : Int) - (r : Int)) + (-((q + 1 : Nat) : Int)) * (T : Int) := by
            rw [e1, e2, Int.neg_mul, Int.natCast_add, Int.add_mul, Int.mul_comm (q : Int)]; simp; omega
          conv => lhs; rw [e3]
          rw [Int.add_mul_ediv_right _ _ (by omega), Int.ediv_eq_zero_of_lt (by omega) (by omega), Int.zero_add]
        have hlim : M.natAbs / 10 ^ s + 1 ≤ 9223372036854775808 := by
          by_cases hs0 : s = 0
          · subst hs0; rw [Nat.pow_zero, Nat.mod_one] at hr; exact absurd rfl hr
          · have : 10 ^ 1 ≤ 10 ^ s := Nat.pow_le_pow_right (by omega) (by omega)
            have := Nat.div_le_div_left this (by omega) (a := M.natAbs)
            omega
        rw [decide_eq_true hr, brn_true, hadd, obnd_some, sm _ _ (by omega), obnd_some, hv]
        simp only [sw, cond_true]
        rw [decV_zero (by unfold I64; generalize M.natAbs / 10 ^ s = q at *; omega)]
    · have hv : M / ((10 ^ s : Nat) : Int) = ((M.natAbs / 10 ^ s : Nat) : Int) := by
        have : M = (M.natAbs : Int) := by omega
        conv => lhs; rw [this]
        rfl
      rw [decide_eq_false hm, brn_false, Bool.false_and, sm _ _ (by omega), obnd_some, hv]
      simp only [sw, cond_false]
      rw [decV_zero (by unfold I64; generalize M.natAbs / 10 ^ s = q at *; omega)]

theorem DecRounds_true {x : Dec × Int} (h1 : I64 x.1.M) : law4_DecRoundsF x = some true := by
  obtain ⟨a, t⟩ := x
  simp only at h1
  unfold law4_DecRoundsF law4_knownF
  simp only [obnd_some, Bool.not_true, brn_false]
  have rest : (obnd (law4_goodF (a, a)) fun y =>
      brn (!y) (some true)
        (obnd (dec_RoundF (a, t)) fun y =>
          obnd (law4_OfF a) fun y_1 =>
            obnd (ref7_RoundDecF (y_1, t)) fun y_2 =>
              obnd (dec_FloorF a) fun y_3 =>
                obnd (law4_OfF a) fun y_4 =>
                  obnd (ref7_FloorDecF y_4) fun y_5 =>
                    brn (decide (y.snd = y_2.snd))
                      (obnd (law4_OfF y.fst) fun y =>
                        brn (bif false then !(decide (y.M = y_2.fst.M) && decide (y.S = y_2.fst.S)) else decide (y.M = y_2.fst.M) && decide (y.S = y_2.fst.S))
                          (brn (decide (y_3.snd = y_5.snd))
                            (obnd (law4_OfF y_3.fst) fun y =>
                              some
                                (match decide (y.M = y_5.fst.M) with
                                | false => false
                                | true => decide (y.S = y_5.fst.S)))
                            (some false))
                          (some false))
                      (some false))) = some true := by
    unfold law4_goodF law4_OfF
    simp only [obnd_some]
    rcases CheckDec_is a with ⟨hc, oa⟩ | ⟨c, hc, hn⟩
    · rw [hc, obnd_some]
      simp only [decide_true, brn_true, obnd_some, Bool.not_true, brn_false]
      rw [decRound_is h1 oa, refRound_is h1 oa, Floor_is h1 oa.1 oa.2.1, refFloor_is h1 oa]
      simp
    · rw [hc, obnd_some]
      rw [decide_eq_false hn]
      simp
  by_cases c1 : 0 ≤ a.S
  · rw [decide_eq_true c1, brn_true]
    by_cases c2 : a.S ≤ 9
    · rw [decide_eq_true c2, brn_true]
      obtain ⟨M, S⟩ := a
      simp only at c1 c2 h1
      obtain ⟨s, rfl⟩ := Int.eq_ofNat_of_zero_le c1
      rw [Norm_is h1 (by omega), obnd_some]
      unfold law4_OfF
      simp only [obnd_some]
      rw [refNorm_is h1 (by omega), obnd_some]
      simp only [decide_true, Bool.and_true, Bool.not_true, cond_true, brn_false]
      unfold law4_OfF at rest
      exact rest
    · rw [decide_eq_false c2, brn_false]; exact rest
  · rw [decide_eq_false c1, brn_false]; exact rest
end Go.Proofs.YtmlbknmjgahcfaaDoor
