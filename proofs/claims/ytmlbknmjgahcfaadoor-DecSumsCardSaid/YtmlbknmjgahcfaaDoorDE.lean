/- The law on sums, differences, products, quotients: it is true. -/
import Derived.Test.YtmlbknmjgahcfaaDoorDC
import Derived.Test.YtmlbknmjgahcfaaDoorDS
namespace Go.Proofs.YtmlbknmjgahcfaaDoor
open Go Go.Ev

theorem strip_scale (v : Int) (p : Nat) : ∀ k, strip (v * 10 ^ k) (p + k) = strip v p
  | 0 => by simp
  | k + 1 => by
    have e : v * 10 ^ (k + 1) = v * 10 ^ k * 10 := by rw [Int.pow_succ, Int.mul_assoc]
    rw [e, ← Nat.add_assoc]
    conv => lhs; unfold strip
    rw [if_pos (Int.mul_emod_left _ _), Int.mul_ediv_cancel _ (by omega)]
    exact strip_scale v p k
theorem decV_scale (v : Int) (p k : Nat) : decV (v * 10 ^ k) (p + k) = decV v p := by
  unfold decV; rw [strip_scale]
theorem Vx {M : Int} {s p : Nat} (hs : s ≤ p) (hp : p ≤ 9) : V ⟨M, (s : Int)⟩ = M * 10 ^ (p - s) * 10 ^ (9 - p) := by
  show M * 10 ^ (9 - (s : Int).toNat) = _
  rw [Int.toNat_natCast, Int.mul_assoc, ← Int.pow_add, show p - s + (9 - p) = 9 - s by omega]
theorem sw_up (M : Int) (k : Nat) : sw ((M.natAbs * 10 ^ k : Nat) : Int) (decide (M < 0)) = M * 10 ^ k := by
  have e : ((M.natAbs * 10 ^ k : Nat) : Int) = (M.natAbs : Int) * 10 ^ k := by rw [Int.natCast_mul, pow_cast]
  rw [e, sw_mul_pos, natAbs_sw]
theorem len19 {M : Int} (h : I64 M) : (digs M.natAbs).length ≤ 19 := digs_len_le 19 _ (by unfold I64 at h; omega)
theorem digs_up_len {n j : Nat} (k : Nat) (h : (digs n).length ≤ j) : (digs (n * 10 ^ k)).length ≤ j + k := by
  have h1 := digs_len_lt h
  refine digs_len_le _ _ ?_
  rw [Nat.pow_add]
  exact Nat.mul_lt_mul_of_pos_right h1 (Nat.pow_pos (by omega))
theorem alike_is {M N : Int} {s t : Nat} (hM : I64 M) (hN : I64 N) (hs : s ≤ 9) (ht : t ≤ 9) : ref7_alikeF (⟨M, (s : Int)⟩, ⟨N, (t : Int)⟩) =
    some (⟨decide (M < 0), digs (M.natAbs * 10 ^ (max s t - s))⟩, ⟨decide (N < 0), digs (N.natAbs * 10 ^ (max s t - t))⟩, ((max s t : Nat) : Int)) := by
  have l1 := len19 hM
  have l2 := len19 hN
  unfold ref7_alikeF
  simp only
  rw [big_is hM, obnd_some, big_is hN, obnd_some]
  by_cases h : s < t
  · rw [decide_eq_true (by omega), brn_true, i64_in (by omega) (by omega), show (t : Int) - (s : Int) = ((t - s : Nat) : Int) by omega, up_big_is (by omega) (by omega), obnd_some, show max s t = t by omega, Nat.sub_self, Nat.pow_zero, Nat.mul_one]
  · rw [decide_eq_false (by omega), brn_false, i64_in (by omega) (by omega), show (s : Int) - (t : Int) = ((s - t : Nat) : Int) by omega, up_big_is (by omega) (by omega), obnd_some, show max s t = s by omega, Nat.sub_self, Nat.pow_zero, Nat.mul_one]
theorem diff_is {a b : Nat} {m m' : Bool} (hl : (digs a).length ≤ 1000) (hl2 : (digs b).length ≤ 1000) :
    ∃ m'', (brn (!m') (obnd (ref7_addF (⟨m, digs a⟩, { Minus := decide (0 < ((digs b).length : Int)), D := digs b })) fun y => some y) (obnd (ref7_addF (⟨m, digs a⟩, { Minus := false, D := digs b })) fun y => some y)) = some (⟨m'', digs (sw a m - sw b m').natAbs⟩ : Big) ∧ sw (sw (a : Int) m - sw b m').natAbs m'' = sw a m - sw b m' := by
  cases m'
  · obtain ⟨m'', h1, h2⟩ := add_is (a := a) (b := b) (m := m) (m' := decide (0 < ((digs b).length : Int))) hl hl2
    have e : sw (b : Int) (decide (0 < ((digs b).length : Int))) = - sw (b : Int) false := by
      by_cases hb : b = 0
      · subst hb; rw [digs_zero]; rfl
      · have := mt digs_nil.1 hb
        rw [decide_eq_true (by omega)]; rfl
    rw [e, ← Int.sub_eq_add_neg] at h1 h2
    exact ⟨m'', by rw [Bool.not_false, brn_true, h1]; rfl, h2⟩
  · obtain ⟨m'', h1, h2⟩ := add_is (a := a) (b := b) (m := m) (m' := false) hl hl2
    have e : sw (b : Int) false = - sw (b : Int) true := by simp [sw]
    rw [e, ← Int.sub_eq_add_neg] at h1 h2
    exact ⟨m'', by rw [Bool.not_true, brn_false, h1]; rfl, h2⟩

section
variable {M N : Int} {s t : Nat} (hM : I64 M) (hN : I64 N) (hs : s ≤ 9) (ht : t ≤ 9)
include hM hN hs ht
theorem x_len : (digs (M.natAbs * 10 ^ (max s t - s))).length ≤ 28 ∧ (digs (N.natAbs * 10 ^ (max s t - t))).length ≤ 28 := by
  have h1 := digs_up_len (max s t - s) (len19 hM)
  have h2 := digs_up_len (max s t - t) (len19 hN)
  omega
theorem sum_len (v : Int) (hv : v = M * 10 ^ (max s t - s) + N * 10 ^ (max s t - t) ∨ v = M * 10 ^ (max s t - s) - N * 10 ^ (max s t - t)) : (digs v.natAbs).length ≤ 29 := by
  obtain ⟨h1, h2⟩ := x_len hM hN hs ht
  have h3 := digs_add_len h1 h2
  refine Nat.le_trans (digs_len_mono ?_) h3
  have e1 : (M * 10 ^ (max s t - s)).natAbs = M.natAbs * 10 ^ (max s t - s) := by rw [Int.natAbs_mul, Int.natAbs_pow]; rfl
  have e2 : (N * 10 ^ (max s t - t)).natAbs = N.natAbs * 10 ^ (max s t - t) := by rw [Int.natAbs_mul, Int.natAbs_pow]; rfl
  rw [← e1, ← e2]
  omega
theorem refAdd_is : ref7_AddDecF (⟨M, (s : Int)⟩, ⟨N, (t : Int)⟩) = some (decV (V ⟨M, (s : Int)⟩ + V ⟨N, (t : Int)⟩) 9) := by
  obtain ⟨h1, h2⟩ := x_len hM hN hs ht
  unfold ref7_AddDecF
  rw [alike_is hM hN hs ht, obnd_some]
  simp only
  obtain ⟨m'', h3, h4⟩ := add_is (m := decide (M < 0)) (m' := decide (N < 0)) (show (digs (M.natAbs * 10 ^ (max s t - s))).length ≤ 1000 by omega) (show (digs (N.natAbs * 10 ^ (max s t - t))).length ≤ 1000 by omega)
  rw [sw_up, sw_up] at h3 h4
  have h5 := sum_len hM hN hs ht _ (.inl rfl)
  rw [h3, obnd_some, small_is (by omega) (by omega), h4, obnd_some, Vx (p := max s t) (by omega) (by omega), Vx (M := N) (p := max s t) (by omega) (by omega), ← Int.add_mul]
  have := decV_scale (M * 10 ^ (max s t - s) + N * 10 ^ (max s t - t)) (max s t) (9 - max s t)
  rw [show max s t + (9 - max s t) = 9 by omega] at this
  rw [this]
theorem refSub_is : ref7_SubDecF (⟨M, (s : Int)⟩, ⟨N, (t : Int)⟩) = some (decV (V ⟨M, (s : Int)⟩ - V ⟨N, (t : Int)⟩) 9) := by
  obtain ⟨h1, h2⟩ := x_len hM hN hs ht
  unfold ref7_SubDecF
  rw [alike_is hM hN hs ht, obnd_some]
  simp only
  obtain ⟨m'', h3, h4⟩ := diff_is (m := decide (M < 0)) (m' := decide (N < 0)) (show (digs (M.natAbs * 10 ^ (max s t - s))).length ≤ 1000 by omega) (show (digs (N.natAbs * 10 ^ (max s t - t))).length ≤ 1000 by omega)
  rw [sw_up, sw_up] at h3 h4
  have h5 := sum_len hM hN hs ht _ (.inr rfl)
  have h6 := decV_scale (M * 10 ^ (max s t - s) - N * 10 ^ (max s t - t)) (max s t) (9 - max s t)
  rw [show max s t + (9 - max s t) = 9 by omega] at h6
  have fin : (obnd (ref7_smallF (⟨m'', digs (M * 10 ^ (max s t - s) - N * 10 ^ (max s t - t)).natAbs⟩, ((max s t : Nat) : Int))) fun y => some y) = some (decV (V ⟨M, (s : Int)⟩ - V ⟨N, (t : Int)⟩) 9) := by
    rw [small_is (by omega) (by omega), h4, obnd_some, Vx (p := max s t) (by omega) (by omega), Vx (M := N) (p := max s t) (by omega) (by omega), ← Int.sub_mul, h6]
  by_cases hn : N < 0
  · rw [decide_eq_true hn] at h3 ⊢
    rw [Bool.not_true, brn_false] at h3 ⊢
    cases hq : ref7_addF (⟨decide (M < 0), digs (M.natAbs * 10 ^ (max s t - s))⟩, { Minus := false, D := digs (N.natAbs * 10 ^ (max s t - t)) }) with
    | none => rw [hq] at h3; simp at h3
    | some z => rw [hq, obnd_some] at h3; rw [obnd_some]; rw [Option.some.inj h3]; exact fin
  · rw [decide_eq_false hn] at h3 ⊢
    rw [Bool.not_false, brn_true] at h3 ⊢
    cases hq : ref7_addF (⟨decide (M < 0), digs (M.natAbs * 10 ^ (max s t - s))⟩, { Minus := decide (0 < ((digs (N.natAbs * 10 ^ (max s t - t))).length : Int)), D := digs (N.natAbs * 10 ^ (max s t - t)) }) with
    | none => rw [hq] at h3; simp at h3
    | some z => rw [hq, obnd_some] at h3; rw [obnd_some]; rw [Option.some.inj h3]; exact fin
theorem refCompare_is : ref7_CompareDecF (⟨M, (s : Int)⟩, ⟨N, (t : Int)⟩) = some (cmpV (V ⟨M, (s : Int)⟩) (V ⟨N, (t : Int)⟩)) := by
  obtain ⟨h1, h2⟩ := x_len hM hN hs ht
  unfold ref7_CompareDecF
  rw [alike_is hM hN hs ht, obnd_some]
  simp only
  obtain ⟨m'', h3, h4⟩ := diff_is (m := decide (M < 0)) (m' := decide (N < 0)) (show (digs (M.natAbs * 10 ^ (max s t - s))).length ≤ 1000 by omega) (show (digs (N.natAbs * 10 ^ (max s t - t))).length ≤ 1000 by omega)
  rw [sw_up, sw_up] at h3 h4
  have hp : (0 : Int) < 10 ^ (9 - max s t) := Int.pow_pos (by omega)
  have hV : cmpV (V ⟨M, (s : Int)⟩) (V ⟨N, (t : Int)⟩) = cmpV (M * 10 ^ (max s t - s)) (N * 10 ^ (max s t - t)) := by
    rw [Vx (p := max s t) (by omega) (by omega), Vx (M := N) (p := max s t) (by omega) (by omega)]
    unfold cmpV
    have e1 := fun (x y : Int) => (show x * 10 ^ (9 - max s t) < y * 10 ^ (9 - max s t) ↔ x < y from ⟨fun h => Int.lt_of_mul_lt_mul_right h (Int.le_of_lt hp), fun h => Int.mul_lt_mul_of_pos_right h hp⟩)
    simp only [e1]
  rw [hV]
  generalize M * 10 ^ (max s t - s) = x at *
  generalize N * 10 ^ (max s t - t) = y at *
  have fin : brn (decide (((digs (x - y).natAbs).length : Int) = 0)) (some 0) (brn m'' (some (-1)) (some 1)) = some (cmpV x y) := by
    unfold cmpV
    have hz := digs_nil (n := (x - y).natAbs)
    by_cases h0 : x - y = 0
    · rw [decide_eq_true (by omega), brn_true, if_neg (by omega), if_neg (by omega)]
    · rw [decide_eq_false (by omega), brn_false]
      cases m''
      · rw [brn_false]; simp only [sw, cond_false] at h4; rw [if_neg (by omega), if_pos (by omega)]
      · rw [brn_true]; simp only [sw, cond_true] at h4; rw [if_pos (by omega)]
  by_cases hn : N < 0
  · rw [decide_eq_true hn] at h3 ⊢
    rw [Bool.not_true, brn_false] at h3 ⊢
    cases hq : ref7_addF (⟨decide (M < 0), digs (M.natAbs * 10 ^ (max s t - s))⟩, { Minus := false, D := digs (N.natAbs * 10 ^ (max s t - t)) }) with
    | none => rw [hq] at h3; simp at h3
    | some z => rw [hq, obnd_some] at h3; rw [obnd_some]; rw [Option.some.inj h3]; exact fin
  · rw [decide_eq_false hn] at h3 ⊢
    rw [Bool.not_false, brn_true] at h3 ⊢
    cases hq : ref7_addF (⟨decide (M < 0), digs (M.natAbs * 10 ^ (max s t - s))⟩, { Minus := decide (0 < ((digs (N.natAbs * 10 ^ (max s t - t))).length : Int)), D := digs (N.natAbs * 10 ^ (max s t - t)) }) with
    | none => rw [hq] at h3; simp at h3
    | some z => rw [hq, obnd_some] at h3; rw [obnd_some]; rw [Option.some.inj h3]; exact fin

end

/-! ## products, quotients -/
def rdN (v n : Nat) : Nat := if n ≤ 2 * (v % n) then v / n + 1 else v / n
theorem rdN_cast (v n : Nat) : (rdN v n : Int) = rdiv v n := by
  unfold rdN rdiv
  by_cases h : n ≤ 2 * (v % n)
  · rw [if_pos h, if_pos (by omega)]; simp
  · rw [if_neg h, if_neg (by omega)]; simp
theorem rdN_pow (n k : Nat) : rdivN n k = rdN n (10 ^ k) := rfl
theorem rdN_scale {v n c : Nat} (hc : 0 < c) : rdN (v * c) (n * c) = rdN v n := by
  unfold rdN
  rw [Nat.mul_div_mul_right _ _ hc, Nat.mul_mod_mul_right, ← Nat.mul_assoc]
  have : n * c ≤ 2 * (v % n) * c ↔ n ≤ 2 * (v % n) := Nat.mul_le_mul_right_iff hc
  simp only [this]
theorem rdN_len {v n j : Nat} (h : (digs v).length ≤ j) : (digs (rdN v n)).length ≤ j + 2 := by
  have h1 : (digs (v + 1)).length ≤ j + 1 + 1 := digs_add_len (k := j + 1) (by omega) (by
    have := digs_len_le 1 1 (by omega); omega)
  refine Nat.le_trans (digs_len_mono ?_) h1
  have := Nat.div_le_self v n
  unfold rdN; split <;> omega
section
variable {M N : Int} {s t : Nat} (hM : I64 M) (hN : I64 N) (hs : s ≤ 9) (ht : t ≤ 9)
def sgnP (M N : Int) : Bool := !decide (decide (M < 0) = decide (N < 0))
/-- what a product is -/
def prodV (M N : Int) (s t : Nat) : Dec × Int := if s + t ≤ 9 then decV (M * N) (s + t) else decV (sw (rdN (M.natAbs * N.natAbs) (10 ^ (s + t - 9))) (sgnP M N)) 9
theorem sw_prod (M N : Int) : sw ((M.natAbs * N.natAbs : Nat) : Int) (sgnP M N) = M * N := by
  rw [Int.natCast_mul]; exact sw_mul M N
theorem sw_and0 {n : Nat} (r : Nat) (h : n = 0 → r = 0) (m : Bool) : sw (r : Int) (m && !decide (n = 0)) = sw (r : Int) m := by
  by_cases hn : n = 0
  · rw [h hn]; cases m <;> simp [sw]
  · simp [hn]
include hM hN hs ht
theorem refMul_is : ref7_MulDecF (⟨M, (s : Int)⟩, ⟨N, (t : Int)⟩) = some (prodV M N s t) := by
  have l1 := len19 hM
  have l2 := len19 hN
  have l3 : (digs (M.natAbs * N.natAbs)).length ≤ 38 := by
    refine digs_len_le _ _ ?_
    rw [show (38 : Nat) = 19 + 19 from rfl, Nat.pow_add]
    exact Nat.mul_lt_mul'' (digs_len_lt l1) (digs_len_lt l2)
  unfold ref7_MulDecF prodV
  simp only
  rw [big_is hM, obnd_some, big_is hN, obnd_some, timesD_is (by omega) (by omega), obnd_some, i64_in (by omega) (by omega), show (s : Int) + (t : Int) = ((s + t : Nat) : Int) by omega]
  by_cases h9 : s + t ≤ 9
  · rw [if_pos h9]
    have e : ref7_roundF (⟨(!decide (decide (M < 0) = decide (N < 0))) && !decide (M.natAbs * N.natAbs = 0), digs (M.natAbs * N.natAbs)⟩, ((s + t : Nat) : Int), 9) = some (⟨(!decide (decide (M < 0) = decide (N < 0))) && !decide (M.natAbs * N.natAbs = 0), digs (M.natAbs * N.natAbs)⟩, ((s + t : Nat) : Int)) := by
      unfold ref7_roundF
      simp only
      rw [decide_eq_true (by omega), brn_true]
    rw [e, obnd_some, small_is (by omega) (by omega), obnd_some, sw_and]
    rw [show sw ((M.natAbs * N.natAbs : Nat) : Int) (!decide (decide (M < 0) = decide (N < 0))) = M * N from sw_prod M N]
  · rw [if_neg h9, roundBig_is (k := s + t - 9) (by omega) (by omega) (by omega) (by omega) (by omega), obnd_some]
    have l4 := rdN_len (n := 10 ^ (s + t - 9)) l3
    rw [show (9 : Int) = ((9 : Nat) : Int) from rfl, small_is (by rw [rdN_pow]; omega) (by omega), obnd_some, sw_and, rdN_pow, sw_and0 _ (fun h => by rw [h]; simp [rdN])]
    rfl
theorem prodMul_is : dec_MulF (⟨M, (s : Int)⟩, ⟨N, (t : Int)⟩) = some (prodV M N s t) := by
  unfold prodV
  by_cases h9 : s + t ≤ 9
  · rw [if_pos h9]
    have := Mul_is (a := ⟨M, (s : Int)⟩) (b := ⟨N, (t : Int)⟩) hM hN (by simp only; omega) (by simp only; omega)
    simp only at this
    rw [this, show ((s : Int) + (t : Int)).toNat = s + t by omega]
  · rw [if_neg h9]
    have hA := hM
    have hB := hN
    unfold I64 at hA hB
    unfold dec_MulF
    simp only
    have p0 := mul_nn (show (0 : Int) ≤ M.natAbs by omega) (show (0 : Int) ≤ N.natAbs by omega)
    have p1 : (M.natAbs : Int) * N.natAbs ≤ 9223372036854775808 * 9223372036854775808 := mul_le (by omega) (by omega) (by omega) (by omega)
    have lo : ∀ (n : Int) (m : Bool), I64 n → (W n.natAbs m).lo = n.natAbs := fun n m h => by
      show (n.natAbs : Int) % 18446744073709551616 = n.natAbs
      unfold I64 at h
      omega
    rw [of_is hM, of_is hN, obnd_some, obnd_some, lo _ _ hM, lo _ _ hN, Mul64_is (by omega) (by omega) (by omega) (by omega), obnd_some, i64_in (n := (s : Int) + (t : Int)) (by omega) (by omega), decide_eq_true (by omega), brn_true, i64_in (by omega) (by omega), show (s : Int) + (t : Int) - 9 = ((s + t - 9 : Nat) : Int) by omega, power_is (by omega), obnd_some]
    have hp := pow10_le (show s + t - 9 ≤ 19 by omega)
    have e1 : dec_wide_roundF ({ hi := (M.natAbs : Int) * N.natAbs / 18446744073709551616, lo := (M.natAbs : Int) * N.natAbs % 18446744073709551616, minus := !decide ((W M.natAbs (decide (M < 0))).minus = (W N.natAbs (decide (N < 0))).minus) }, (10 : Int) ^ (s + t - 9)) =
        some (W (rdiv ((M.natAbs : Int) * N.natAbs) (10 ^ (s + t - 9))) (sgnP M N)) := (round_is p0 (by omega) (by omega) (by omega)).1
    have hw := (round_is (v := (M.natAbs : Int) * N.natAbs) (n := 10 ^ (s + t - 9)) (m := true) p0 (by omega) (by omega) (by omega)).2
    simp only at e1 ⊢
    rw [e1, obnd_some, show (9 : Int) = ((9 : Nat) : Int) from rfl, wdec_is hw (by omega), obnd_some]
    have e2 : rdiv ((M.natAbs : Int) * N.natAbs) (10 ^ (s + t - 9)) = (rdN (M.natAbs * N.natAbs) (10 ^ (s + t - 9)) : Int) := by
      rw [rdN_cast, pow_cast, Int.natCast_mul]
    rw [e2]
/-- what a quotient is -/
theorem refDiv_is (hN0 : N ≠ 0) : ref7_DivDecF (⟨M, (s : Int)⟩, ⟨N, (t : Int)⟩) = some (decV (sw (rdN (M.natAbs * 10 ^ (9 - s + t)) N.natAbs) (sgnP M N)) 9) := by
  obtain ⟨h1, h2⟩ := x_len hM hN hs ht
  unfold ref7_DivDecF
  simp only
  rw [decide_eq_false hN0, brn_false, alike_is hM hN hs ht, obnd_some]
  simp only
  have hc : 0 < 10 ^ (max s t - t) := Nat.pow_pos (by omega)
  have hY : 0 < N.natAbs * 10 ^ (max s t - t) := Nat.mul_pos (by omega) hc
  have l3 := digs_up_len 9 h1
  have eX : M.natAbs * 10 ^ (max s t - s) * 10 ^ 9 = M.natAbs * 10 ^ (9 - s + t) * 10 ^ (max s t - t) := by
    rw [Nat.mul_assoc, Nat.mul_assoc, ← Nat.pow_add, ← Nat.pow_add]
    congr 2; omega
  have eR := rdN_scale (v := M.natAbs * 10 ^ (9 - s + t)) (n := N.natAbs) hc
  rw [← eX] at eR
  rw [show (9 : Int) = ((9 : Nat) : Int) from rfl, up_big_is (by omega) (by omega), obnd_some]
  simp only
  rw [overD_is hY (by omega) (by omega), obnd_some]
  simp only
  rw [← eR]
  generalize M.natAbs * 10 ^ (max s t - s) * 10 ^ 9 = X at *
  generalize N.natAbs * 10 ^ (max s t - t) = Y at *
  have l4 := rdN_len (n := Y) l3
  have l5 := digs_len_mono (Nat.div_le_self X Y)
  have d1 : ([1] : List Int) = digs 1 := by rw [digs_pos (by omega)]; simp [digs_zero]
  have fin : ∀ q : Nat, q = rdN X Y → (obnd (ref7_trimF { Minus := !decide (decide (M < 0) = decide (N < 0)), D := digs q }) fun y => obnd (ref7_smallF (y, ((9 : Nat) : Int))) fun y => some y) = some (decV (sw (rdN X Y) (sgnP M N)) 9) := fun q hq => by
    subst hq
    rw [trim_is (digs_dig _) (by omega), obnd_some, vd_digs, small_is (by omega) (by omega), obnd_some, sw_and]; rfl
  by_cases hh : Y ≤ 2 * (X % Y)
  · rw [decide_eq_true hh, brn_true, d1, plus_digs (by omega) (by have := digs_len_le 1 1 (by omega); omega), obnd_some]
    exact fin _ (by unfold rdN; rw [if_pos hh])
  · rw [decide_eq_false hh, brn_false]
    exact fin _ (by unfold rdN; rw [if_neg hh])
theorem prodDiv_is (hN0 : N ≠ 0) : dec_DivF (⟨M, (s : Int)⟩, ⟨N, (t : Int)⟩) = some (decV (sw (rdN (M.natAbs * 10 ^ (9 - s + t)) N.natAbs) (sgnP M N)) 9) := by
  have hA := hM
  have hB := hN
  have hV := V_le (d := ⟨M, (s : Int)⟩) hM
  unfold I64 at hA hB
  unfold dec_DivF
  simp only
  have lo : (W N.natAbs (decide (N < 0))).lo = N.natAbs := by
    show (N.natAbs : Int) % 18446744073709551616 = N.natAbs
    omega
  have eV : ((V ⟨M, (s : Int)⟩).natAbs : Int) * 10 ^ t = ((M.natAbs * 10 ^ (9 - s + t) : Nat) : Int) := by
    show (((M * 10 ^ (9 - (s : Int).toNat)).natAbs : Nat) : Int) * 10 ^ t = _
    rw [Int.natAbs_mul, Int.natAbs_pow, Int.toNat_natCast, Int.natCast_mul, Int.natCast_mul, pow_cast, Int.pow_add, Int.mul_assoc]
    rfl
  have hb : ((M.natAbs * 10 ^ (9 - s + t) : Nat) : Int) ≤ 9223372036854775808 * 1000000000000000000 := by
    rw [Int.natCast_mul, pow_cast]
    have h2 : (10 : Int) ^ (9 - s + t) ≤ 10 ^ 18 := by
      have := Nat.pow_le_pow_right (n := 10) (by omega) (show 9 - s + t ≤ 18 by omega)
      have h3 := Int.ofNat_le.2 this
      rw [pow_cast, pow_cast] at h3
      exact h3
    exact mul_le (by omega) (Int.le_of_lt (Int.pow_pos (by omega))) (by omega) h2
  rw [decide_eq_false hN0, brn_false, of_is hN, obnd_some, scaled_is (d := ⟨M, (s : Int)⟩) hM (by simp only; omega) (by simp only; omega), obnd_some, power_is (by omega), obnd_some,
    times_is (inV (d := ⟨M, (s : Int)⟩) hM) (by have := pow10_le (show t ≤ 19 by omega); omega) (by have := pow10_le (show t ≤ 19 by omega); omega) (by rw [eV]; exact ⟨by omega, by omega⟩), obnd_some, lo, eV]
  have e1 : dec_wide_roundF ({ hi := (W ((M.natAbs * 10 ^ (9 - s + t) : Nat) : Int) (decide (V ⟨M, (s : Int)⟩ < 0))).hi, lo := (W ((M.natAbs * 10 ^ (9 - s + t) : Nat) : Int) (decide (V ⟨M, (s : Int)⟩ < 0))).lo, minus := !decide ((W ((M.natAbs * 10 ^ (9 - s + t) : Nat) : Int) (decide (V ⟨M, (s : Int)⟩ < 0))).minus = (W N.natAbs (decide (N < 0))).minus) }, (N.natAbs : Int)) =
      some (W (rdiv ((M.natAbs * 10 ^ (9 - s + t) : Nat) : Int) N.natAbs) (!decide (decide (V ⟨M, (s : Int)⟩ < 0) = decide (N < 0)))) := (round_is (by omega) (by omega) (by omega) (by omega)).1
  have hw := (round_is (v := ((M.natAbs * 10 ^ (9 - s + t) : Nat) : Int)) (n := N.natAbs) (m := true) (by omega) (by omega) (by omega) (by omega)).2
  rw [e1, obnd_some, show (9 : Int) = ((9 : Nat) : Int) from rfl, wdec_is hw (by omega), obnd_some, ← rdN_cast, V_neg]
  rfl
end

theorem DecSums_true {x : Dec × Dec} (h1 : I64 x.1.M) (h2 : I64 x.2.M) : law4_DecSumsF x = some true := by
  obtain ⟨a, b⟩ := x
  simp only at h1 h2
  unfold law4_DecSumsF law4_knownF
  simp only [obnd_some, Bool.not_true, brn_false]
  unfold law4_OfF
  simp only [obnd_some]
  have hck : dec_CheckF a = ref7_CheckDecF a := rfl
  have hgood : law4_goodF (a, b) = some true ∧ okD a ∧ okD b ∨ law4_goodF (a, b) = some false := by
    unfold law4_goodF law4_OfF
    simp only [obnd_some]
    rcases CheckDec_is a with ⟨hc, oa⟩ | ⟨c, hc, hn⟩
    · rcases CheckDec_is b with ⟨hd, ob⟩ | ⟨d, hd, hm⟩
      · rw [hc, hd]; exact .inl ⟨by simp, oa, ob⟩
      · rw [hc, hd]; exact .inr (by simp [hm])
    · rw [hc]; exact .inr (by simp [hn])
  rw [hck]
  have hc : ∃ c, ref7_CheckDecF a = some c := by
    rcases CheckDec_is a with ⟨hc, _⟩ | ⟨c, hc, _⟩
    · exact ⟨_, hc⟩
    · exact ⟨_, hc⟩
  obtain ⟨c, hc⟩ := hc
  rw [hc]
  simp only [obnd_some, decide_true, Bool.not_true, brn_false]
  rcases hgood with ⟨hg, oa, ob⟩ | hg
  · rw [hg]
    simp only [obnd_some, Bool.not_true, brn_false]
    obtain ⟨M, S⟩ := a
    obtain ⟨N, T⟩ := b
    simp only at h1 h2
    obtain ⟨s, rfl⟩ := Int.eq_ofNat_of_zero_le oa.1
    obtain ⟨t, rfl⟩ := Int.eq_ofNat_of_zero_le ob.1
    have hs : s ≤ 9 := by have := oa.2.1; simp only at this; omega
    have ht : t ≤ 9 := by have := ob.2.1; simp only at this; omega
    have hdiv : dec_DivF (⟨M, (s : Int)⟩, ⟨N, (t : Int)⟩) = ref7_DivDecF (⟨M, (s : Int)⟩, ⟨N, (t : Int)⟩) := by
      by_cases hN0 : N = 0
      · subst hN0; unfold dec_DivF ref7_DivDecF; simp
      · rw [refDiv_is h1 h2 hs ht hN0, prodDiv_is h1 h2 hs ht hN0]
    have hdiv2 : ∃ d, ref7_DivDecF (⟨M, (s : Int)⟩, ⟨N, (t : Int)⟩) = some d := by
      by_cases hN0 : N = 0
      · subst hN0; unfold ref7_DivDecF; exact ⟨_, by simp; rfl⟩
      · exact ⟨_, refDiv_is h1 h2 hs ht hN0⟩
    obtain ⟨d, hd⟩ := hdiv2
    rw [Add_is h1 h2 oa ob, refAdd_is h1 h2 hs ht, Sub_is h1 h2 oa ob, refSub_is h1 h2 hs ht, refMul_is h1 h2 hs ht, prodMul_is h1 h2 hs ht, hdiv, hd, Compare_is h1 h2 oa.1 oa.2.1 ob.1 ob.2.1, refCompare_is h1 h2 hs ht]
    unfold law4_DecSums_b1J law4_DecSums_b2J law4_OfF
    simp
  · rw [hg]; simp
end Go.Proofs.YtmlbknmjgahcfaaDoor
