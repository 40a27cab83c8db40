/- The document's decimals: sums, differences, products, quotients of numbers in digits. -/
import Derived.Test.YtmlbknmjgahcfaaDoorDT
import Derived.Test.YtmlbknmjgahcfaaDoorDM
namespace Go.Proofs.YtmlbknmjgahcfaaDoor
open Go Go.Ev

theorem digs_ge {n j : Nat} (h : j < (digs n).length) : 10 ^ j ≤ n := by
  apply Classical.byContradiction
  intro hn
  have := digs_len_le j n (by omega)
  omega
theorem digs_of {R : List Int} (hd : isDig R) (hl : R.length ≤ (digs (vd R)).length) : R = digs (vd R) := by
  have h1 := rtrim_eq hd
  have h2 := rtrim_take R
  rw [h1] at h2
  rw [List.take_of_length_le hl] at h2
  exact h2.symm
theorem pow_drop {n k : Nat} : 10 ^ k * vd ((digs n).drop k) ≤ n := by
  rw [digs_drop, vd_digs]
  exact Nat.mul_div_le n (10 ^ k)

/-! ## sums -/
theorem plus_digs {n m : Nat} (hl : (digs n).length ≤ 4000) (hl2 : (digs m).length ≤ 4000) : ref7_plusF (digs n, digs m) = some (digs (n + m)) := by
  have hD := digs_dig n
  have hE := digs_dig m
  have key : ∃ R, ref7_plus_l1J (digs n, digs m, [], 0, 0) = some R ∧ (R = digs (n + m)) := by
    refine iter_ex (F := ref7_plus_l1F) (fun x => 4002 - x.2.2.2.2.toNat) (fun x => x.1 = digs n ∧ x.2.1 = digs m ∧ ∃ (c : Int) (k : Nat), x.2.2.2.1 = c ∧ x.2.2.2.2 = (k : Int) ∧ 0 ≤ c ∧ c ≤ 1 ∧ isDig x.2.2.1 ∧ x.2.2.1.length = k ∧ k ≤ 4001 ∧ (4000 < k → c = 0) ∧ (∀ j, j < k → 10 ^ j ≤ n + m) ∧
      vd x.2.2.1 + 10 ^ k * (c.toNat + vd ((digs n).drop k) + vd ((digs m).drop k)) = n + m) _ ?_ _ ⟨rfl, rfl, 0, 0, rfl, rfl, by omega, by omega, isDig_nil, rfl, by omega, by omega, by omega, by simp [vd, vd_digs]⟩ (by simp only; omega)
    rintro back ⟨D', E', out, c, i⟩ ⟨e1, e2, c', k, e3, e4, c0, c1, ho, hk, hk2, hk3, hp, hv⟩ hb
    simp only at e1 e2 e3 e4 ho hk hv
    subst e1; subst e2; subst e3; subst e4
    unfold ref7_plus_l1F
    simp only at hb ⊢
    rw [plus_b2_is hD hE ⟨c0, c1⟩ (by omega) (by omega) (by omega) (by omega), obnd_some]
    simp only
    rw [i64_in (n := (k : Int) + 1) (by omega) (by omega)]
    have hd := at0_dig hD k
    have he := at0_dig hE k
    by_cases hgo : k < (digs n).length ∨ k < (digs m).length ∨ 0 < c
    · have step : ∃ y, back (digs n, digs m, out ++ [(c + at0 (digs n) k + at0 (digs m) k) % 10], (c + at0 (digs n) k + at0 (digs m) k) / 10, (k : Int) + 1) = some y ∧ (y = digs (n + m)) := by
        have hk4 : k ≤ 4000 := by
          rcases hgo with h | h | h
          · omega
          · omega
          · apply Classical.byContradiction; intro hn; have := hk3 (by omega); omega
        refine hb _ ⟨rfl, rfl, (c + at0 (digs n) k + at0 (digs m) k) / 10, k + 1, rfl, by simp, by omega, by omega, ?_, by simp [hk], by omega, fun h4 => ?_, fun j hj => ?_, ?_⟩ (by simp only; omega)
        · exact isDig_append.2 ⟨ho, isDig_cons.2 ⟨by omega, isDig_nil⟩⟩
        · have h1 : at0 (digs n) k = 0 := by unfold at0; rw [List.getElem?_eq_none (by omega)]; rfl
          have h2 : at0 (digs m) k = 0 := by unfold at0; rw [List.getElem?_eq_none (by omega)]; rfl
          omega
        · rcases Nat.lt_or_ge j k with h | h
          · exact hp j h
          · have : j = k := by omega
            subst this
            rcases hgo with h | h | h
            · have := digs_ge h; omega
            · have := digs_ge h; omega
            · have : 10 ^ j * 1 ≤ 10 ^ j * (c.toNat + vd ((digs n).drop j) + vd ((digs m).drop j)) := Nat.mul_le_mul_left _ (by omega)
              omega
        · rw [← hv, vd_append, hk, vd_drop (D := digs n) k, vd_drop (D := digs m) k, Nat.pow_succ]
          simp only [vd]
          generalize vd ((digs n).drop (k + 1)) = X
          generalize vd ((digs m).drop (k + 1)) = Y
          generalize 10 ^ k = T
          generalize hx : at0 (digs n) k = a at *
          generalize hy : at0 (digs m) k = b at *
          have q1 : ((c + a + b) % 10).toNat + 10 * 0 = (c.toNat + a.toNat + b.toNat) % 10 := by omega
          have q2 : ((c + a + b) / 10).toNat = (c.toNat + a.toNat + b.toNat) / 10 := by omega
          rw [q1, q2]
          generalize c.toNat = cc
          generalize a.toNat = aa
          generalize b.toNat = bb
          have q3 : cc + (aa + 10 * X) + (bb + 10 * Y) = (cc + aa + bb) % 10 + 10 * ((cc + aa + bb) / 10 + X + Y) := by omega
          rw [q3, Nat.mul_add T, Nat.mul_assoc T 10]
          omega
      by_cases g1 : k < (digs n).length
      · rw [decide_eq_true (by omega), brn_true]; exact step
      · rw [decide_eq_false (by omega), brn_false]
        by_cases g2 : k < (digs m).length
        · rw [decide_eq_true (by omega), brn_true]; exact step
        · rw [decide_eq_false (by omega), brn_false, decide_eq_true (by omega), brn_true]; exact step
    · have g1 : ¬ k < (digs n).length := fun h => hgo (.inl h)
      have g2 : ¬ k < (digs m).length := fun h => hgo (.inr (.inl h))
      have g3 : ¬ 0 < c := fun h => hgo (.inr (.inr h))
      rw [decide_eq_false (by omega), brn_false, decide_eq_false (by omega), brn_false, decide_eq_false g3, brn_false]
      refine ⟨_, rfl, ?_⟩
      rw [List.drop_eq_nil_of_le (by omega), List.drop_eq_nil_of_le (by omega)] at hv
      have : c = 0 := by omega
      subst this
      have hv2 : vd out = n + m := by simpa [vd] using hv
      rw [← hv2]
      refine digs_of ho ?_
      rw [hv2]
      apply Classical.byContradiction
      intro hn
      have h1 := digs_len_lt (n := n + m) (k := (digs (n + m)).length) (Nat.le_refl _)
      have h2 := hp (digs (n + m)).length (by omega)
      omega
  obtain ⟨R, h1, h2⟩ := key
  unfold ref7_plusF
  rw [h1, h2]; rfl

/-! ## order -/
theorem lessD_is {a b : Nat} (hl : (digs a).length ≤ 5000) (hl2 : (digs b).length ≤ 5000) : ref7_lessF (digs a, digs b) = some (decide (a < b)) := by
  unfold ref7_lessF
  simp only
  by_cases hlen : (digs a).length = (digs b).length
  · rw [decide_eq_true (by omega), Bool.not_true, brn_false, i64_in (by omega) (by omega)]
    obtain ⟨y, h1, h2⟩ := iter_ex (F := ref7_less_l1F) (fun x => (x.2.2 + 1).toNat) (fun x => x.1 = digs a ∧ x.2.1 = digs b ∧ ∃ k : Nat, k ≤ (digs a).length ∧ x.2.2 = (k : Int) - 1 ∧ a / 10 ^ k = b / 10 ^ k) (fun y => osum y (fun _ => some false) (fun y => some y) = some (decide (a < b))) (by
      rintro back ⟨D, E, i⟩ ⟨rfl, rfl, k, hk, e1, e2⟩ hb
      simp only at e1
      subst e1
      unfold ref7_less_l1F
      simp only at hb ⊢
      cases k with
      | zero =>
        simp only [Nat.pow_zero, Nat.div_one] at e2
        subst e2
        exact ⟨Sum.inl PUnit.unit, by simp, by simp [osum]⟩
      | succ k =>
        rw [decide_eq_true (by omega), brn_true, show (((k + 1 : Nat) : Int) - 1) = (k : Int) by omega, idxI (digs_get k a (by omega)), obnd_some, idxI (digs_get k b (by omega)), obnd_some]
        have ea : a / 10 ^ k = a / 10 ^ k % 10 + 10 * (a / 10 ^ (k + 1)) := by rw [Nat.pow_succ, ← Nat.div_div_eq_div_mul]; omega
        have eb : b / 10 ^ k = b / 10 ^ k % 10 + 10 * (b / 10 ^ (k + 1)) := by rw [Nat.pow_succ, ← Nat.div_div_eq_div_mul]; omega
        by_cases hd : a / 10 ^ k % 10 = b / 10 ^ k % 10
        · rw [decide_eq_true (by omega), Bool.not_true, brn_false, i64_in (by omega) (by omega)]
          exact hb _ ⟨rfl, rfl, k, by omega, rfl, by omega⟩ (by simp only; omega)
        · rw [decide_eq_false (by omega), Bool.not_false, brn_true, obnd_some, obnd_some]
          refine ⟨_, rfl, ?_⟩
          simp only [osum]
          congr 1
          rw [decide_eq_decide]
          have hab : a / 10 ^ k < b / 10 ^ k ↔ a / 10 ^ k % 10 < b / 10 ^ k % 10 := by omega
          have hne : a / 10 ^ k ≠ b / 10 ^ k := by omega
          constructor
          · intro h
            have := hab.2 (by omega)
            exact Nat.lt_of_not_le fun hle => by have := Nat.div_le_div_right (c := 10 ^ k) hle; omega
          · intro h
            have := Nat.div_le_div_right (c := 10 ^ k) (Nat.le_of_lt h)
            have := hab.1 (by omega)
            omega) (digs a, digs b, ((digs a).length : Int) - 1) ⟨rfl, rfl, (digs a).length, Nat.le_refl _, rfl, by
              have h1 := digs_len_lt (n := a) (Nat.le_refl _)
              have h2 := digs_len_lt (n := b) (k := (digs a).length) (by omega)
              rw [Nat.div_eq_of_lt h1, Nat.div_eq_of_lt h2]⟩ (by simp only; omega)
    have h3 : ref7_less_l1J (digs a, digs b, ((digs a).length : Int) - 1) = some y := h1
    rw [h3, obnd_some]
    exact h2
  · rw [decide_eq_false (by omega), Bool.not_false, brn_true]
    congr 1
    rw [decide_eq_decide]
    constructor
    · intro h
      have h1 := digs_len_lt (n := a) (Nat.le_refl _)
      have h2 := digs_ge (n := b) (j := (digs a).length) (by omega)
      omega
    · intro h
      apply Classical.byContradiction
      intro hn
      have h1 := digs_len_lt (n := b) (Nat.le_refl _)
      have h2 := digs_ge (n := a) (j := (digs b).length) (by omega)
      omega

/-! ## differences -/
theorem minus_is {D E : List Int} (hD : isDig D) (hE : isDig E) (hl : D.length ≤ 4000) (hl2 : E.length ≤ D.length) (hle : vd E ≤ vd D) : ∃ R, ref7_minusF (D, E) = some R ∧ isDig R ∧ vd R = vd D - vd E ∧ R.length ≤ 4000 := by
  have key : ∃ R, ref7_minus_l1J (D, E, [], 0, 0) = some R ∧ (isDig R ∧ vd R = vd D - vd E ∧ R.length ≤ 4000) := by
    refine iter_ex (F := ref7_minus_l1F) (fun x => 4002 - x.2.2.2.2.toNat) (fun x => x.1 = D ∧ x.2.1 = E ∧ ∃ (c k : Nat), x.2.2.2.1 = (c : Int) ∧ x.2.2.2.2 = (k : Int) ∧ c ≤ 1 ∧ isDig x.2.2.1 ∧ x.2.2.1.length = k ∧ k ≤ D.length ∧
      vd D + 10 ^ k * (c + vd (E.drop k)) = vd x.2.2.1 + vd E + 10 ^ k * vd (D.drop k)) _ ?_ _ ⟨rfl, rfl, 0, 0, rfl, rfl, by omega, isDig_nil, rfl, by omega, by simp [vd]; omega⟩ (by simp only; omega)
    rintro back ⟨D', E', out, cc, i⟩ ⟨e1, e2, c, k, e3, e4, c1, ho, hk, hk2, hv⟩ hb
    simp only at e1 e2 e3 e4 ho hk hv
    subst e1; subst e2; subst e3; subst e4
    unfold ref7_minus_l1F
    simp only at hb ⊢
    rcases Nat.lt_or_ge k D'.length with hlt | hge
    · have hd := at0_dig hD k
      have he := at0_dig hE k
      have g1 : D'[k]? = some (at0 D' k) := by unfold at0; rw [List.getElem?_eq_getElem hlt]; rfl
      rw [decide_eq_true (by omega), brn_true, idxI g1, obnd_some]
      have fin : ∀ (x : Int) (c' : Nat), 0 ≤ x → x ≤ 9 → c' ≤ 1 → at0 D' k - c - at0 E' k + 10 * c' = x → ∃ y, back (D', E', out ++ [x], (c' : Int), IntKind.i64.wrap ((k : Int) + 1)) = some y ∧ (isDig y ∧ vd y = vd D' - vd E' ∧ y.length ≤ 4000) := fun x c' x0 x9 hc' hx => by
        rw [i64_in (by omega) (by omega)]
        refine hb _ ⟨rfl, rfl, c', k + 1, rfl, by simp, hc', isDig_append.2 ⟨ho, isDig_cons.2 ⟨⟨x0, x9⟩, isDig_nil⟩⟩, by simp [hk], by omega, ?_⟩ (by simp only; omega)
        simp only
        rw [vd_drop (D := D') k, vd_drop (D := E') k] at hv
        rw [vd_append, hk, Nat.pow_succ]
        simp only [vd]
        generalize vd (D'.drop (k + 1)) = X at *
        generalize vd (E'.drop (k + 1)) = Y at *
        generalize 10 ^ k = T at *
        generalize hp : at0 D' k = a at *
        generalize hq : at0 E' k = b at *
        have q : x.toNat + c + b.toNat = a.toNat + 10 * c' := by omega
        rw [Nat.mul_add, Nat.mul_add] at hv
        rw [Nat.mul_add]
        have z1 : T * (x.toNat + c + b.toNat) = T * (a.toNat + 10 * c') := by rw [q]
        simp only [Nat.mul_add, Nat.mul_assoc] at *
        omega
      rcases Nat.lt_or_ge k E'.length with h2 | h2
      · have g2 : E'[k]? = some (at0 E' k) := by unfold at0; rw [List.getElem?_eq_getElem h2]; rfl
        rw [decide_eq_true (by omega), brn_true, idxI g2, obnd_some, i64_in (n := at0 D' k - (c : Int)) (by omega) (by omega), i64_in (n := at0 D' k - (c : Int) - at0 E' k) (by omega) (by omega)]
        by_cases hneg : at0 D' k - (c : Int) - at0 E' k < 0
        · rw [decide_eq_true hneg, brn_true, i64_in (by omega) (by omega), appS (by simp; omega), obnd_some]
          exact fin _ 1 (by omega) (by omega) (by omega) (by omega)
        · rw [decide_eq_false hneg, brn_false, appS (by simp; omega), obnd_some]
          exact fin _ 0 (by omega) (by omega) (by omega) (by omega)
      · have g2 : at0 E' k = 0 := by unfold at0; rw [List.getElem?_eq_none h2]; rfl
        rw [decide_eq_false (by omega), brn_false, i64_in (n := at0 D' k - (c : Int)) (by omega) (by omega)]
        by_cases hneg : at0 D' k - (c : Int) < 0
        · rw [decide_eq_true hneg, brn_true, i64_in (by omega) (by omega), appS (by simp; omega), obnd_some]
          exact fin _ 1 (by omega) (by omega) (by omega) (by omega)
        · rw [decide_eq_false hneg, brn_false, appS (by simp; omega), obnd_some]
          exact fin _ 0 (by omega) (by omega) (by omega) (by omega)
    · rw [decide_eq_false (by omega), brn_false]
      refine ⟨_, rfl, ho, ?_, by omega⟩
      rw [List.drop_eq_nil_of_le (by omega), List.drop_eq_nil_of_le (by omega)] at hv
      have hlt := vd_lt ho
      rw [hk] at hlt
      simp only [vd, Nat.mul_zero, Nat.add_zero] at hv
      rcases Nat.lt_or_ge 0 c with h0 | h0
      · have : c = 1 := by omega
        subst this
        rw [Nat.mul_one] at hv
        omega
      · have : c = 0 := by omega
        subst this
        rw [Nat.mul_zero] at hv
        omega
  obtain ⟨R, h1, h2⟩ := key
  refine ⟨R, ?_, h2⟩
  unfold ref7_minusF
  rw [h1]; rfl
theorem digs_len_mono {a b : Nat} (h : a ≤ b) : (digs a).length ≤ (digs b).length := by
  have := digs_len_lt (n := b) (Nat.le_refl _)
  exact digs_len_le _ _ (by omega)
theorem minus_trim {a b : Nat} {m : Bool} (hl : (digs a).length ≤ 4000) (hle : b ≤ a) : ∃ R, ref7_minusF (digs a, digs b) = some R ∧ ref7_trimF ⟨m, R⟩ = some ⟨m && !decide (a - b = 0), digs (a - b)⟩ := by
  obtain ⟨R, h1, h2, h3, h4⟩ := minus_is (digs_dig a) (digs_dig b) hl (digs_len_mono hle) (by rw [vd_digs, vd_digs]; exact hle)
  rw [vd_digs, vd_digs] at h3
  refine ⟨R, h1, ?_⟩
  rw [trim_is h2 (by omega), h3]

theorem digs_add_len {a b k : Nat} (h : (digs a).length ≤ k) (h2 : (digs b).length ≤ k) : (digs (a + b)).length ≤ k + 1 := by
  have h1 := digs_len_lt h
  have h2 := digs_len_lt h2
  refine digs_len_le _ _ ?_
  rw [Nat.pow_succ]
  omega
/-- a sum of what has signs: the sign of nothing is none -/
theorem add_is {a b : Nat} {m m' : Bool} (hl : (digs a).length ≤ 1000) (hl2 : (digs b).length ≤ 1000) :
    ∃ m'', ref7_addF (⟨m, digs a⟩, ⟨m', digs b⟩) = some ⟨m'', digs (sw a m + sw b m').natAbs⟩ ∧ sw (sw (a : Int) m + sw b m').natAbs m'' = sw a m + sw b m' := by
  unfold ref7_addF
  simp only
  by_cases hm : m = m'
  · subst hm
    rw [decide_eq_true rfl, brn_true, plus_digs (by omega) (by omega), obnd_some, trim_is (digs_dig _) (by
      have := digs_add_len hl hl2
      omega), obnd_some, vd_digs]
    refine ⟨m && !decide (a + b = 0), ?_, ?_⟩
    · congr 3
      cases m <;> simp [sw] <;> omega
    · cases m <;> simp [sw]
      · omega
      · by_cases ha : a = 0 <;> by_cases hb : b = 0 <;> simp [ha, hb] <;> omega
  · rw [decide_eq_false hm, brn_false, lessD_is (by omega) (by omega), obnd_some]
    by_cases hlt : a < b
    · rw [decide_eq_true hlt, brn_true]
      obtain ⟨R, h1, h2⟩ := minus_trim (m := m') (a := b) (b := a) (by omega) (by omega)
      rw [h1, obnd_some, h2, obnd_some]
      refine ⟨m' && !decide (b - a = 0), ?_, ?_⟩
      · congr 3
        cases m <;> cases m' <;> simp [sw] at hm ⊢ <;> omega
      · cases m <;> cases m' <;> simp [sw] at hm ⊢
        · rw [decide_eq_false (by omega)]; simp; omega
        · omega
    · rw [decide_eq_false hlt, brn_false]
      obtain ⟨R, h1, h2⟩ := minus_trim (m := m) (a := a) (b := b) (by omega) (by omega)
      rw [h1, obnd_some, h2, obnd_some]
      refine ⟨m && !decide (a - b = 0), ?_, ?_⟩
      · congr 3
        cases m <;> cases m' <;> simp [sw] at hm ⊢ <;> omega
      · cases m <;> cases m' <;> simp [sw] at hm ⊢
        · omega
        · by_cases h : a - b = 0
          · rw [decide_eq_true h]; simp; omega
          · rw [decide_eq_false h]; simp; omega
end Go.Proofs.YtmlbknmjgahcfaaDoor
