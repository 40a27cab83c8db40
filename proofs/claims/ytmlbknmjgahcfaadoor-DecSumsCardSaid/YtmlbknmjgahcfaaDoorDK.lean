/- The document's decimals: what its functions on digits tell. -/
import Derived.Test.YtmlbknmjgahcfaaDoorDI
namespace Go.Proofs.YtmlbknmjgahcfaaDoor
open Go Go.Ev

/-- a loop, by what holds where it comes again, and of what it tells -/
theorem iter_exn {X Y : Type} {F : (X → Option Y) → X → Option Y} (m : X → Nat) (Inv : X → Prop) (Post : Y → Prop)
    (h : ∀ back x, Inv x → (∀ x', Inv x' → m x' < m x → ∃ y, back x' = some y ∧ Post y) → ∃ y, F back x = some y ∧ Post y) : ∀ n x, Inv x → m x < n → ∃ y, iter F n x = some y ∧ Post y
  | 0, _, _, h0 => by omega
  | n + 1, x, hp, hn => by
    rw [iter_succ]
    exact h _ x hp fun x' hp' hm => iter_exn m Inv Post h n x' hp' (by omega)
theorem iter_ex {X Y : Type} {F : (X → Option Y) → X → Option Y} (m : X → Nat) (Inv : X → Prop) (Post : Y → Prop)
    (h : ∀ back x, Inv x → (∀ x', Inv x' → m x' < m x → ∃ y, back x' = some y ∧ Post y) → ∃ y, F back x = some y ∧ Post y) (x : X) (hx : Inv x) (hm : m x < 9223372036854775808) : ∃ y, iter F big x = some y ∧ Post y :=
  iter_exn m Inv Post h _ x hx (by rw [big_pos]; omega)

theorem trim_l1_is {D : List Int} {m : Bool} (hl : D.length < 10000) : ref7_trim_l1J (⟨m, D⟩, (D.length : Int)) = some ((rtrim D).length : Int) := by
  obtain ⟨y, h1, h2⟩ := iter_ex (F := ref7_trim_l1F) (fun x => x.2.toNat) (fun x => x.1 = ⟨m, D⟩ ∧ ∃ k, k ≤ D.length ∧ x.2 = (k : Int) ∧ rtrim (D.take k) = rtrim D) (fun y => y = ((rtrim D).length : Int)) (by
    rintro back ⟨b, i⟩ ⟨rfl, k, hk, rfl, hr⟩ hb
    unfold ref7_trim_l1F
    simp only at hb ⊢
    cases k with
    | zero =>
      simp only [List.take_zero, rtrim] at hr
      refine ⟨0, ?_, by rw [← hr]; rfl⟩
      simp
    | succ k =>
      have hk' : k < D.length := by omega
      rw [decide_eq_true (show (0 : Int) < ((k + 1 : Nat) : Int) by omega), brn_true, i64_in (by omega) (by omega), show (((k + 1 : Nat) : Int) - 1) = (k : Int) by omega, idxI (v := D[k]) (List.getElem?_eq_getElem hk'), obnd_some]
      have ht : D.take (k + 1) = D.take k ++ [D[k]] := by rw [List.take_add_one, List.getElem?_eq_getElem hk']; rfl
      by_cases hz : D[k] = 0
      · rw [decide_eq_true hz, brn_true]
        refine hb _ ⟨rfl, k, by omega, rfl, ?_⟩ (by simp only [Int.toNat_natCast]; omega)
        rw [← hr, ht, hz, rtrim_snoc_zero]
      · rw [decide_eq_false hz, brn_false]
        refine ⟨_, rfl, ?_⟩
        rw [← hr, ht, rtrim_snoc_ne hz]
        simp; omega) (⟨m, D⟩, (D.length : Int)) ⟨rfl, D.length, Nat.le_refl _, rfl, by rw [List.take_length]⟩ (by simp only [Int.toNat_natCast]; omega)
  subst h2; exact h1
theorem trim_is {D : List Int} {m : Bool} (hd : isDig D) (hl : D.length < 10000) : ref7_trimF ⟨m, D⟩ = some ⟨m && !decide (vd D = 0), digs (vd D)⟩ := by
  unfold ref7_trimF
  simp only
  rw [trim_l1_is hl, obnd_some]
  have h1 := rtrim_len D
  have h2 : sub D 0 ((rtrim D).length : Int) = some (rtrim D) := by
    simp only [sub]
    have : (decide ((0 : Int) ≤ 0) && decide ((0 : Int) ≤ ((rtrim D).length : Int)) && decide (((rtrim D).length : Int) ≤ (D.length : Int))) = true := by simp [h1]
    rw [this, cond_true]
    simp only [Int.toNat_natCast, Int.toNat_zero, List.drop_zero]
    rw [← rtrim_take]
  rw [h2, obnd_some]
  rw [rtrim_eq hd]
  by_cases hz : vd D = 0
  · rw [hz, digs_zero]; simp
  · have := mt digs_nil.1 hz
    rw [decide_eq_false (by omega), brn_false, decide_eq_false hz]; simp

/-! ## big, up -/
theorem big_is {n : Int} (h : I64 n) : ref7_bigF n = some ⟨decide (n < 0), digs n.natAbs⟩ := by
  unfold I64 at h
  have key : ∀ (u : Nat) (m : Bool), u ≤ 9223372036854775808 → ref7_big_l1J ([], ⟨m, []⟩, (u : Int)) = some (digs u, ⟨m, digs u⟩) := fun u m hu => by
    have hlen : (digs u).length ≤ 19 := digs_len_le 19 u (by omega)
    obtain ⟨y, h1, h2⟩ := iter_ex (F := ref7_big_l1F) (fun x => (digs x.2.2.toNat).length) (fun x => x.2.1.Minus = m ∧ ∃ v : Nat, v ≤ 9223372036854775808 ∧ x.2.2 = (v : Int) ∧ x.1 ++ digs v = digs u) (fun y => y = (digs u, ⟨m, digs u⟩)) (by
      rintro back ⟨D, ⟨m', E⟩, i⟩ ⟨hm, v, hv, hi, hD⟩ hb
      simp only at hm hi hD
      subst hm; subst hi
      unfold ref7_big_l1F
      simp only at hb ⊢
      have hl : D.length + (digs v).length = (digs u).length := by rw [← hD]; simp
      by_cases hz : v = 0
      · subst hz
        rw [digs_zero, List.append_nil] at hD
        subst hD
        exact ⟨_, by simp, rfl⟩
      · have e1 : ((v : Int).tmod 10) = ((v % 10 : Nat) : Int) := by rw [Int.tmod_eq_emod_of_nonneg (by omega)]; omega
        have e2 : ((v : Int).tdiv 10) = ((v / 10 : Nat) : Int) := by rw [Int.tdiv_eq_ediv_of_nonneg (by omega)]; omega
        rw [digs_pos hz, List.length_cons] at hl
        rw [decide_eq_true (by omega), brn_true, e1, e2, i64_in (by omega) (by omega), u64_in (by omega) (by omega), appS (by simp; omega), obnd_some]
        refine hb _ ⟨rfl, v / 10, by omega, rfl, ?_⟩ ?_
        · rw [← hD, digs_pos hz, List.append_assoc]; rfl
        · simp only [Int.toNat_natCast]
          conv => rhs; rw [digs_pos hz]
          simp) ([], ⟨m, []⟩, (u : Int)) ⟨rfl, u, hu, rfl, rfl⟩ (by simp only [Int.toNat_natCast]; omega)
    subst h2; exact h1
  unfold ref7_bigF
  by_cases hn : n < 0
  · rw [decide_eq_true hn, brn_true, show IntKind.u64.wrap (0 - IntKind.u64.wrap n) = (n.natAbs : Int) by rw [u64, u64]; omega, key _ _ (by omega)]; rfl
  · rw [decide_eq_false hn, brn_false, show IntKind.u64.wrap n = (n.natAbs : Int) by rw [u64]; omega, key _ _ (by omega)]; rfl

theorem up_big_is {n k : Nat} {m : Bool} (hk : k ≤ 100) (hl : (digs n).length ≤ 1000) : ref7_upF (⟨m, digs n⟩, (k : Int)) = some ⟨m, digs (n * 10 ^ k)⟩ := by
  unfold ref7_upF
  simp only
  by_cases hz : n = 0
  · subst hz; rw [digs_zero, Nat.zero_mul, digs_zero]; simp
  · have := mt digs_nil.1 hz
    rw [decide_eq_false (by omega), brn_false]
    have key : ref7_up_l1J ([], (k : Int), ⟨m, []⟩, 0) = some (List.replicate k 0, ⟨m, List.replicate k 0⟩) := by
      obtain ⟨y, h1, h2⟩ := iter_ex (F := ref7_up_l1F) (fun x => k - x.2.2.2.toNat) (fun x => x.2.1 = (k : Int) ∧ x.2.2.1.Minus = m ∧ ∃ i : Nat, i ≤ k ∧ x.2.2.2 = (i : Int) ∧ x.1 = List.replicate i 0) (fun y => y = (List.replicate k 0, ⟨m, List.replicate k 0⟩)) (by
        rintro back ⟨D, kk, ⟨m', E⟩, i⟩ ⟨e1, e2, j, hj, e3, e4⟩ hb
        simp only at e1 e2 e3 e4
        subst e1; subst e2; subst e3; subst e4
        unfold ref7_up_l1F
        simp only at hb ⊢
        by_cases hlt : j < k
        · rw [decide_eq_true (by omega), brn_true, appS (by simp; omega), obnd_some, i64_in (by omega) (by omega)]
          refine hb _ ⟨rfl, rfl, j + 1, by omega, by simp only; omega, ?_⟩ (by simp only; omega)
          simp only [← List.replicate_succ']
        · have : j = k := by omega
          subst this
          exact ⟨_, by simp, rfl⟩) ([], (k : Int), ⟨m, []⟩, 0) ⟨rfl, rfl, 0, by omega, rfl, rfl⟩ (by simp only; omega)
      subst h2; exact h1
    rw [key, obnd_some, appS (by simp; omega), obnd_some, digs_up k n hz]

/-! ## sums -/
def at0 (D : List Int) (k : Nat) : Int := D[k]?.getD 0
theorem at0_dig {D : List Int} (h : isDig D) (k : Nat) : 0 ≤ at0 D k ∧ at0 D k ≤ 9 := by
  unfold at0
  cases hk : D[k]? with
  | none => simp
  | some v => exact h v (List.mem_of_getElem? hk)
theorem vd_drop {D : List Int} (k : Nat) : vd (D.drop k) = (at0 D k).toNat + 10 * vd (D.drop (k + 1)) := by
  unfold at0
  rcases Nat.lt_or_ge k D.length with h | h
  · rw [List.drop_eq_getElem_cons h, List.getElem?_eq_getElem h]; rfl
  · rw [List.drop_eq_nil_of_le h, List.drop_eq_nil_of_le (by omega), List.getElem?_eq_none h]; rfl
theorem plus_b2_is {D E out : List Int} {c : Int} {k : Nat} (hD : isDig D) (hE : isDig E) (hc : 0 ≤ c ∧ c ≤ 1) (_hl : D.length ≤ 5000) (_hl2 : E.length ≤ 5000) (ho : out.length ≤ 9000) (_hk : k ≤ 9000) :
    ref7_plus_b2J (D, E, out, c, (k : Int)) = some (out ++ [(c + at0 D k + at0 E k) % 10], (c + at0 D k + at0 E k) / 10) := by
  have hd := at0_dig hD k
  have he := at0_dig hE k
  have tm : ∀ t : Int, 0 ≤ t → t.tmod 10 = t % 10 := fun t h => Int.tmod_eq_emod_of_nonneg h
  have td : ∀ t : Int, 0 ≤ t → t.tdiv 10 = t / 10 := fun t h => Int.tdiv_eq_ediv_of_nonneg h
  have w1 := i64_in (n := c + at0 D k) (by omega) (by omega)
  have w2 := i64_in (n := c + at0 E k) (by omega) (by omega)
  have w3 := i64_in (n := c + at0 D k + at0 E k) (by omega) (by omega)
  unfold ref7_plus_b2J
  simp only
  rcases Nat.lt_or_ge k D.length with h1 | h1
  · have g1 : D[k]? = some (at0 D k) := by unfold at0; rw [List.getElem?_eq_getElem h1]; rfl
    rw [decide_eq_true (show (k : Int) < (D.length : Int) by omega), brn_true, idxI g1, obnd_some]
    rcases Nat.lt_or_ge k E.length with h2 | h2
    · have g2 : E[k]? = some (at0 E k) := by unfold at0; rw [List.getElem?_eq_getElem h2]; rfl
      rw [decide_eq_true (show (k : Int) < (E.length : Int) by omega), brn_true, idxI g2, obnd_some, w1, w3, tm _ (by omega), td _ (by omega), i64_in (by omega) (by omega), appS (by simp; omega)]; rfl
    · have g2 : at0 E k = 0 := by unfold at0; rw [List.getElem?_eq_none h2]; rfl
      rw [decide_eq_false (show ¬ (k : Int) < (E.length : Int) by omega), brn_false, w1, g2, Int.add_zero, tm _ (by omega), td _ (by omega), i64_in (by omega) (by omega), appS (by simp; omega)]; rfl
  · have g1 : at0 D k = 0 := by unfold at0; rw [List.getElem?_eq_none h1]; rfl
    rw [decide_eq_false (show ¬ (k : Int) < (D.length : Int) by omega), brn_false]
    rcases Nat.lt_or_ge k E.length with h2 | h2
    · have g2 : E[k]? = some (at0 E k) := by unfold at0; rw [List.getElem?_eq_getElem h2]; rfl
      rw [decide_eq_true (show (k : Int) < (E.length : Int) by omega), brn_true, idxI g2, obnd_some, w2, g1, Int.add_zero, tm _ (by omega), td _ (by omega), i64_in (by omega) (by omega), appS (by simp; omega)]; rfl
    · have g2 : at0 E k = 0 := by unfold at0; rw [List.getElem?_eq_none h2]; rfl
      rw [decide_eq_false (show ¬ (k : Int) < (E.length : Int) by omega), brn_false, g1, g2, Int.add_zero, Int.add_zero, tm _ (by omega), td _ (by omega), i64_in (by omega) (by omega), appS (by simp; omega)]; rfl

theorem plusD_is {D E : List Int} (hD : isDig D) (hE : isDig E) (hl : D.length ≤ 4000) (hl2 : E.length ≤ 4000) : ∃ R, ref7_plusF (D, E) = some R ∧ isDig R ∧ vd R = vd D + vd E ∧ R.length ≤ 4001 := by
  have key : ∃ R, ref7_plus_l1J (D, E, [], 0, 0) = some R ∧ (isDig R ∧ vd R = vd D + vd E ∧ R.length ≤ 4001) := by
    refine iter_ex (F := ref7_plus_l1F) (fun x => 4002 - x.2.2.2.2.toNat) (fun x => x.1 = D ∧ x.2.1 = E ∧ ∃ (c : Int) (k : Nat), x.2.2.2.1 = c ∧ x.2.2.2.2 = (k : Int) ∧ 0 ≤ c ∧ c ≤ 1 ∧ isDig x.2.2.1 ∧ x.2.2.1.length = k ∧ k ≤ 4001 ∧ (4000 < k → c = 0) ∧
      vd x.2.2.1 + 10 ^ k * (c.toNat + vd (D.drop k) + vd (E.drop k)) = vd D + vd E) _ ?_ _ ⟨rfl, rfl, 0, 0, rfl, rfl, by omega, by omega, isDig_nil, rfl, by omega, by omega, by simp [vd]⟩ (by simp only; omega)
    rintro back ⟨D', E', out, c, i⟩ ⟨e1, e2, c', k, e3, e4, c0, c1, ho, hk, hk2, hk3, hv⟩ hb
    simp only at e1 e2 e3 e4 ho hk hv
    subst e1; subst e2; subst e3; subst e4
    unfold ref7_plus_l1F
    simp only at hb ⊢
    rw [plus_b2_is hD hE ⟨c0, c1⟩ (by omega) (by omega) (by omega) (by omega), obnd_some]
    simp only
    rw [i64_in (n := (k : Int) + 1) (by omega) (by omega)]
    have hd := at0_dig hD k
    have he := at0_dig hE k
    by_cases hgo : k < D'.length ∨ k < E'.length ∨ 0 < c
    · have step : ∃ y, back (D', E', out ++ [(c + at0 D' k + at0 E' k) % 10], (c + at0 D' k + at0 E' k) / 10, (k : Int) + 1) = some y ∧ (isDig y ∧ vd y = vd D' + vd E' ∧ y.length ≤ 4001) := by
        have hk4 : k ≤ 4000 := by
          rcases hgo with h | h | h
          · omega
          · omega
          · apply Classical.byContradiction; intro hn; have := hk3 (by omega); omega
        refine hb _ ⟨rfl, rfl, (c + at0 D' k + at0 E' k) / 10, k + 1, rfl, by simp, by omega, by omega, ?_, by simp [hk], by omega, fun h4 => ?_, ?_⟩ (by simp only; omega)
        · exact isDig_append.2 ⟨ho, isDig_cons.2 ⟨by omega, isDig_nil⟩⟩
        · have h1 : at0 D' k = 0 := by unfold at0; rw [List.getElem?_eq_none (by omega)]; rfl
          have h2 : at0 E' k = 0 := by unfold at0; rw [List.getElem?_eq_none (by omega)]; rfl
          omega
        · rw [← hv, vd_append, hk, vd_drop (D := D') k, vd_drop (D := E') k, Nat.pow_succ]
          simp only [vd]
          generalize vd (D'.drop (k + 1)) = X
          generalize vd (E'.drop (k + 1)) = Y
          generalize 10 ^ k = T
          generalize hx : at0 D' k = a at *
          generalize hy : at0 E' k = b at *
          have q1 : ((c + a + b) % 10).toNat + 10 * 0 = (c.toNat + a.toNat + b.toNat) % 10 := by omega
          have q2 : ((c + a + b) / 10).toNat = (c.toNat + a.toNat + b.toNat) / 10 := by omega
          rw [q1, q2]
          generalize c.toNat = cc
          generalize a.toNat = aa
          generalize b.toNat = bb
          have q3 : cc + (aa + 10 * X) + (bb + 10 * Y) = (cc + aa + bb) % 10 + 10 * ((cc + aa + bb) / 10 + X + Y) := by omega
          rw [q3, Nat.mul_add T, Nat.mul_assoc T 10]
          omega
      by_cases g1 : k < D'.length
      · rw [decide_eq_true (by omega), brn_true]; exact step
      · rw [decide_eq_false (by omega), brn_false]
        by_cases g2 : k < E'.length
        · rw [decide_eq_true (by omega), brn_true]; exact step
        · rw [decide_eq_false (by omega), brn_false, decide_eq_true (by omega), brn_true]; exact step
    · have g1 : ¬ k < D'.length := fun h => hgo (.inl h)
      have g2 : ¬ k < E'.length := fun h => hgo (.inr (.inl h))
      have g3 : ¬ 0 < c := fun h => hgo (.inr (.inr h))
      rw [decide_eq_false (by omega), brn_false, decide_eq_false (by omega), brn_false, decide_eq_false g3, brn_false]
      refine ⟨_, rfl, ho, ?_, by omega⟩
      rw [List.drop_eq_nil_of_le (by omega), List.drop_eq_nil_of_le (by omega)] at hv
      have : c = 0 := by omega
      subst this
      simpa [vd] using hv
  obtain ⟨R, h1, h2⟩ := key
  refine ⟨R, ?_, h2⟩
  unfold ref7_plusF
  rw [h1]; rfl

/-! ## small -/
theorem idx0 {D : List Int} {v : Int} (h : D[0]? = some v) : idx D 0 = some v := idxI (k := 0) h
theorem strip_step (v p : Nat) : strip (v : Int) (p + 1) = if v % 10 = 0 then strip ((v / 10 : Nat) : Int) p else ((v : Int), p + 1) := by
  conv => lhs; unfold strip
  by_cases h : v % 10 = 0
  · rw [if_pos (by omega), if_pos h]; rfl
  · rw [if_neg (by omega), if_neg h]
theorem small_l1_is {n p : Nat} {m : Bool} (hl : (digs n).length ≤ 5000) (hp : p ≤ 1000) : ref7_small_l1J ((p : Int), ⟨m, digs n⟩) = some (((strip n p).2 : Int), ⟨m, digs (strip n p).1.toNat⟩) := by
  obtain ⟨y, h1, h2⟩ := iter_ex (F := ref7_small_l1F) (fun x => x.1.toNat) (fun x => ∃ q v : Nat, q ≤ p ∧ (digs v).length ≤ 5000 ∧ x = ((q : Int), ⟨m, digs v⟩) ∧ strip v q = strip n p) (fun y => y = (((strip n p).2 : Int), ⟨m, digs (strip n p).1.toNat⟩)) (by
    rintro back x ⟨q, v, hq, hv, rfl, hs⟩ hb
    unfold ref7_small_l1F
    simp only at hb ⊢
    rw [← hs]
    cases q with
    | zero => exact ⟨(0, ⟨m, digs v⟩), by simp, by simp [strip]⟩
    | succ q =>
      rw [decide_eq_true (by omega), brn_true, i64_in (n := ((q + 1 : Nat) : Int) - 1) (by omega) (by omega), show (((q + 1 : Nat) : Int) - 1) = (q : Int) by omega]
      rw [strip_step]
      rw [strip_step] at hs
      by_cases hz : v = 0
      · subst hz
        rw [if_pos (by omega)] at hs ⊢
        have := hb ((q : Int), ⟨m, digs 0⟩) ⟨q, 0, by omega, hv, rfl, hs⟩ (by simp only [Int.toNat_natCast]; omega)
        rw [digs_zero] at this ⊢
        rw [hs]
        simpa using this
      · have hne := mt digs_nil.1 hz
        rw [decide_eq_false (by omega), brn_false, idx0 (v := ((v % 10 : Nat) : Int)) (by rw [digs_pos hz]; rfl), obnd_some]
        by_cases h0 : v % 10 = 0
        · rw [decide_eq_true (by omega), brn_true, decide_eq_true (by omega), brn_true]
          have hsub : sub (digs v) 1 ((digs v).length : Int) = some (digs (v / 10)) := by
            have := subS (D := digs v) (k := 1) (by omega)
            rw [digs_drop] at this
            simpa using this
          rw [hsub, obnd_some, if_pos h0]
          rw [if_pos h0] at hs
          have hl2 : (digs (v / 10)).length ≤ 5000 := by rw [digs_pos hz] at hv; simp at hv; omega
          rw [hs]
          exact hb ((q : Int), ⟨m, digs (v / 10)⟩) ⟨q, v / 10, by omega, hl2, rfl, hs⟩ (by simp only [Int.toNat_natCast]; omega)
        · rw [decide_eq_false (by omega), brn_false, if_neg h0]
          exact ⟨_, rfl, by simp⟩) ((p : Int), ⟨m, digs n⟩) ⟨p, n, Nat.le_refl _, hl, rfl, rfl⟩ (by simp only [Int.toNat_natCast]; omega)
  subst h2; exact h1
theorem small_l2_is {n : Nat} {m : Bool} (hn : (digs n).length ≤ 19) : ref7_small_l2J (⟨m, digs n⟩, 0, ((digs n).length : Int) - 1) = some (n : Int) := by
  have hlt := digs_len_lt hn
  obtain ⟨y, h1, h2⟩ := iter_ex (F := ref7_small_l2F) (fun x => (x.2.2 + 1).toNat) (fun x => x.1 = ⟨m, digs n⟩ ∧ ∃ k : Nat, k ≤ (digs n).length ∧ x.2.2 = (k : Int) - 1 ∧ x.2.1 = ((n / 10 ^ k : Nat) : Int)) (fun y => y = (n : Int)) (by
    rintro back ⟨b, u, i⟩ ⟨rfl, k, hk, e1, e2⟩ hb
    simp only at e1 e2
    subst e1; subst e2
    unfold ref7_small_l2F
    simp only at hb ⊢
    cases k with
    | zero => exact ⟨(n : Int), by simp, rfl⟩
    | succ k =>
      have e : n / 10 ^ (k + 1) = n / 10 ^ k / 10 := by rw [Nat.pow_succ, Nat.div_div_eq_div_mul]
      have hle : n / 10 ^ k ≤ n := Nat.div_le_self _ _
      rw [decide_eq_true (by omega), brn_true, show (((k + 1 : Nat) : Int) - 1) = (k : Int) by omega, idxI (digs_get k n (by omega)), obnd_some, e]
      generalize hq : n / 10 ^ k = q at *
      rw [u64_in (n := 10 * ((q / 10 : Nat) : Int)) (by omega) (by omega), u64_in (n := ((q % 10 : Nat) : Int)) (by omega) (by omega), u64_in (by omega) (by omega), i64_in (by omega) (by omega)]
      refine hb _ ⟨rfl, k, by omega, rfl, ?_⟩ (by simp only; omega)
      simp only [hq]; omega) (⟨m, digs n⟩, 0, ((digs n).length : Int) - 1) ⟨rfl, (digs n).length, Nat.le_refl _, rfl, by
        have h1 := vd_lt (digs_dig n)
        rw [vd_digs] at h1
        simp only
        rw [Nat.div_eq_of_lt h1]; rfl⟩ (by simp only; omega)
  subst h2; exact h1
theorem small_is {n p : Nat} {m : Bool} (hl : (digs n).length ≤ 5000) (hp : p ≤ 1000) : ref7_smallF (⟨m, digs n⟩, (p : Int)) = some (decV (sw n m) p) := by
  unfold ref7_smallF
  simp only
  rw [small_l1_is hl hp, obnd_some]
  have h0 := strip_nn p (v := (n : Int)) (by omega)
  have hs : strip (sw n m) p = (sw (strip n p).1 m, (strip n p).2) := by
    cases m
    · rfl
    · exact strip_neg p n
  unfold decV
  rw [hs]
  generalize hv : (strip (n : Int) p).1 = v at *
  generalize (strip (n : Int) p).2 = q at *
  obtain ⟨k, rfl⟩ := Int.eq_ofNat_of_zero_le h0
  simp only [Int.toNat_natCast]
  have hI : I64 (sw (k : Int) m) ↔ (if m then (k : Int) ≤ 9223372036854775808 else (k : Int) ≤ 9223372036854775807) := by
    unfold I64
    cases m <;> simp [sw] <;> omega
  by_cases h19 : 19 < (digs k).length
  · have hge : 10 ^ 19 ≤ k := by
      apply Classical.byContradiction
      intro hn
      have := digs_len_le 19 k (by omega)
      omega
    rw [decide_eq_true (by omega), brn_true, if_neg]
    rw [hI]
    cases m <;> simp <;> omega
  · have hlt := digs_len_lt (n := k) (k := 19) (by omega)
    rw [decide_eq_false (by omega), brn_false, i64_in (n := ((digs k).length : Int) - 1) (by omega) (by omega), small_l2_is (by omega), obnd_some]
    cases m
    · rw [brn_false]
      by_cases hb : (9223372036854775807 : Int) < (k : Int)
      · rw [decide_eq_true hb, brn_true, if_neg (by rw [hI]; simp; omega)]
      · rw [decide_eq_false hb, brn_false, if_pos (by rw [hI]; simp; omega), i64_in (by omega) (by omega)]; rfl
    · rw [brn_true]
      by_cases hb : (9223372036854775808 : Int) < (k : Int)
      · rw [decide_eq_true hb, brn_true, if_neg (by rw [hI]; simp; omega)]
      · rw [decide_eq_false hb, brn_false, if_pos (by rw [hI]; simp; omega)]
        have : IntKind.i64.wrap (IntKind.u64.wrap (0 - (k : Int))) = -(k : Int) := by rw [u64, i64]; omega
        rw [this]; rfl
end Go.Proofs.YtmlbknmjgahcfaaDoor
