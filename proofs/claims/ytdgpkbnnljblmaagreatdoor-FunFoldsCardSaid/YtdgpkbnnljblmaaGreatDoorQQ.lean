/- QQ -/
import Derived.Test.YtdgpkbnnljblmaaGreatDoorPP
namespace Go.Proofs.YtdgpkbnnljblmaaGreatDoor
open Go Go.Ev
def digs (n : Nat) : List Int := if h : n = 0 then [] else ((n % 10 : Nat) : Int) :: digs (n / 10)
termination_by n
decreasing_by omega
theorem digs_zero : digs 0 = [] := by rw [digs]; rfl
theorem digs_pos {n : Nat} (h : n ≠ 0) : digs n = ((n % 10 : Nat) : Int) :: digs (n / 10) := by
  conv => lhs; rw [digs]
  rw [dif_neg h]
def vd : List Int → Nat
  | [] => 0
  | d :: D => d.toNat + 10 * vd D
def isDig (D : List Int) : Prop := ∀ d ∈ D, 0 ≤ d ∧ d ≤ 9
theorem isDig_cons {d : Int} {D : List Int} : isDig (d :: D) ↔ (0 ≤ d ∧ d ≤ 9) ∧ isDig D := by simp [isDig]
theorem isDig_nil : isDig [] := by simp [isDig]
theorem isDig_append {D E : List Int} : isDig (D ++ E) ↔ isDig D ∧ isDig E := by
  simp only [isDig, List.mem_append]
  exact ⟨fun h => ⟨fun d hd => h d (.inl hd), fun d hd => h d (.inr hd)⟩, fun h d hd => hd.elim (h.1 d) (h.2 d)⟩
theorem vd_append : ∀ (D E : List Int), vd (D ++ E) = vd D + 10 ^ D.length * vd E
  | [], E => by simp [vd]
  | d :: D, E => by
    simp only [List.cons_append, vd, vd_append D E, List.length_cons, Nat.pow_succ]
    rw [Nat.mul_add, Nat.mul_comm (10 ^ D.length) 10, Nat.mul_assoc]
    omega
theorem vd_lt : ∀ {D : List Int}, isDig D → vd D < 10 ^ D.length
  | [], _ => by simp [vd]
  | d :: D, h => by
    obtain ⟨h1, h2⟩ := isDig_cons.1 h
    have := vd_lt h2
    simp only [vd, List.length_cons, Nat.pow_succ]
    omega
theorem digs_dig : ∀ (n : Nat), isDig (digs n) := by
  intro n
  induction n using Nat.strongRecOn with
  | _ n ih =>
    by_cases h : n = 0
    · subst h; rw [digs_zero]; exact isDig_nil
    · rw [digs_pos h]
      exact isDig_cons.2 ⟨by omega, ih _ (by omega)⟩
theorem vd_digs : ∀ (n : Nat), vd (digs n) = n := by
  intro n
  induction n using Nat.strongRecOn with
  | _ n ih =>
    by_cases h : n = 0
    · subst h; rw [digs_zero]; rfl
    · rw [digs_pos h]
      simp only [vd]
      rw [ih _ (by omega)]
      omega
theorem digs_len_le : ∀ (k n : Nat), n < 10 ^ k → (digs n).length ≤ k
  | 0, n, h => by
    have : n = 0 := by simp at h; omega
    subst this; rw [digs_zero]; simp
  | k + 1, n, h => by
    by_cases h0 : n = 0
    · subst h0; rw [digs_zero]; simp
    · rw [digs_pos h0]
      have := digs_len_le k (n / 10) (by rw [Nat.pow_succ] at h; omega)
      simp; omega
theorem digs_len_lt {k n : Nat} (h : (digs n).length ≤ k) : n < 10 ^ k := by
  have h1 := vd_lt (digs_dig n)
  rw [vd_digs] at h1
  exact Nat.lt_of_lt_of_le h1 (Nat.pow_le_pow_right (by omega) h)
theorem digs_nil {n : Nat} : (digs n).length = 0 ↔ n = 0 := by
  constructor
  · intro h; have := digs_len_lt (n := n) (k := 0) (by omega); simpa using this
  · intro h; subst h; rw [digs_zero]; rfl
def rtrim : List Int → List Int
  | [] => []
  | d :: D => match rtrim D with
    | [] => if d = 0 then [] else [d]
    | e :: E => d :: e :: E
theorem rtrim_eq : ∀ {D : List Int}, isDig D → rtrim D = digs (vd D)
  | [], _ => by simp [rtrim, vd, digs_zero]
  | d :: D, h => by
    obtain ⟨h1, h2⟩ := isDig_cons.1 h
    have ih := rtrim_eq h2
    simp only [rtrim, vd]
    by_cases hv : vd D = 0
    · rw [ih, hv, digs_zero]
      simp only
      by_cases hd : d = 0
      · subst hd; simp [digs_zero]
      · rw [if_neg hd, digs_pos (by omega), show (d.toNat + 10 * 0) / 10 = 0 by omega, digs_zero]
        congr 1; omega
    · rw [ih, digs_pos hv]
      simp only
      rw [← digs_pos hv, digs_pos (n := d.toNat + 10 * vd D) (by omega), show (d.toNat + 10 * vd D) / 10 = vd D by omega]
      congr 1; omega
theorem rtrim_snoc_zero : ∀ (D : List Int), rtrim (D ++ [0]) = rtrim D
  | [] => by simp [rtrim]
  | d :: D => by simp only [List.cons_append, rtrim, rtrim_snoc_zero D]
theorem rtrim_snoc_ne {x : Int} (hx : x ≠ 0) : ∀ (D : List Int), rtrim (D ++ [x]) = D ++ [x]
  | [] => by simp [rtrim, hx]
  | d :: D => by
    simp only [List.cons_append, rtrim, rtrim_snoc_ne hx D]
    cases D <;> simp
theorem rtrim_len : ∀ (D : List Int), (rtrim D).length ≤ D.length
  | [] => by simp [rtrim]
  | d :: D => by
    have := rtrim_len D
    simp only [rtrim]
    split
    · split <;> simp
    · rename_i e E h; rw [h] at this; simp only [List.length_cons] at *; omega
theorem rtrim_take : ∀ (D : List Int), rtrim D = D.take (rtrim D).length
  | [] => by simp [rtrim]
  | d :: D => by
    have ih := rtrim_take D
    simp only [rtrim]
    split
    · split <;> simp
    · rename_i e E h
      rw [h] at ih
      simp only [List.length_cons] at ih ⊢
      rw [List.take_succ_cons, ← ih]
theorem digs_drop : ∀ (k n : Nat), (digs n).drop k = digs (n / 10 ^ k)
  | 0, n => by simp
  | k + 1, n => by
    by_cases h : n = 0
    · subst h; rw [digs_zero]; simp [digs_zero]
    · rw [digs_pos h, List.drop_succ_cons, digs_drop k, Nat.div_div_eq_div_mul, Nat.pow_succ, Nat.mul_comm]
theorem digs_get : ∀ (k n : Nat), k < (digs n).length → (digs n)[k]? = some ((n / 10 ^ k % 10 : Nat) : Int)
  | 0, n, h => by
    by_cases h0 : n = 0
    · subst h0; rw [digs_zero] at h; simp at h
    · rw [digs_pos h0]; simp
  | k + 1, n, h => by
    by_cases h0 : n = 0
    · subst h0; rw [digs_zero] at h; simp at h
    · rw [digs_pos h0] at h ⊢
      simp only [List.length_cons, List.getElem?_cons_succ] at h ⊢
      rw [digs_get k _ (by omega), Nat.div_div_eq_div_mul, Nat.pow_succ, Nat.mul_comm]
theorem digs_up : ∀ (k n : Nat), n ≠ 0 → digs (n * 10 ^ k) = List.replicate k 0 ++ digs n
  | 0, n, _ => by simp
  | k + 1, n, h => by
    have h1 : n * 10 ^ (k + 1) = n * 10 ^ k * 10 := by rw [Nat.pow_succ, Nat.mul_assoc]
    have h2 : n * 10 ^ k ≠ 0 := by
      have := Nat.pow_pos (a := 10) (n := k) (by omega)
      exact Nat.mul_ne_zero h (by omega)
    rw [h1, digs_pos (by omega), show n * 10 ^ k * 10 / 10 = n * 10 ^ k by omega, digs_up k n h, show n * 10 ^ k * 10 % 10 = 0 by omega]
    rfl
theorem idxI {D : List Int} {k : Nat} {v : Int} (h : D[k]? = some v) : idx D (k : Int) = some v := by
  simp [idx, h]
theorem appS {xs ys : List Int} (h : xs.length + ys.length ≤ 10000) : app 8 xs ys = some (xs ++ ys) := by
  have : Nat.ble ((xs.length + ys.length) * 8) 140737488355328 = true := Nat.ble_eq_true_of_le (by omega)
  simp [app, this]
theorem subS {D : List Int} {k : Nat} (h : k ≤ D.length) : sub D (k : Int) (D.length : Int) = some (D.drop k) := by
  simp [sub, h]
theorem iter_exn {X Y : Type} {F : (X → Option Y) → X → Option Y} (m : X → Nat) (Inv : X → Prop) (Post : Y → Prop)
    (h : ∀ back x, Inv x → (∀ x', Inv x' → m x' < m x → ∃ y, back x' = some y ∧ Post y) → ∃ y, F back x = some y ∧ Post y) : ∀ n x, Inv x → m x < n → ∃ y, iter F n x = some y ∧ Post y
  | 0, _, _, h0 => by omega
  | n + 1, x, hp, hn => by
    rw [iter_succ]
    exact h _ x hp fun x' hp' hm => iter_exn m Inv Post h n x' hp' (by omega)
theorem iter_ex {X Y : Type} {F : (X → Option Y) → X → Option Y} (m : X → Nat) (Inv : X → Prop) (Post : Y → Prop)
    (h : ∀ back x, Inv x → (∀ x', Inv x' → m x' < m x → ∃ y, back x' = some y ∧ Post y) → ∃ y, F back x = some y ∧ Post y) (x : X) (hx : Inv x) (hm : m x < 9223372036854775808) : ∃ y, iter F big x = some y ∧ Post y :=
  iter_exn m Inv Post h _ x hx (by rw [big_pos]; omega)
theorem trim_l1_is {D : List Int} {m : Bool} (hl : D.length < 10000) : ref7_trim_l1J (⟨m, D⟩, (D.length : Int)) = some ((rtrim D).length : Int) := by
  obtain ⟨y, h1, h2⟩ := iter_ex (F := ref7_trim_l1F) (fun x => x.2.toNat) (fun x => x.1 = ⟨m, D⟩ ∧ ∃ k, k ≤ D.length ∧ x.2 = (k : Int) ∧ rtrim (D.take k) = rtrim D) (fun y => y = ((rtrim D).length : Int)) (by
    rintro back ⟨b, i⟩ ⟨rfl, k, hk, rfl, hr⟩ hb
    unfold ref7_trim_l1F
    simp only at hb ⊢
    cases k with
    | zero =>
      simp only [List.take_zero, rtrim] at hr
      refine ⟨0, ?_, by rw [← hr]; rfl⟩
      simp
    | succ k =>
      have hk' : k < D.length := by omega
      rw [decide_eq_true (show (0 : Int) < ((k + 1 : Nat) : Int) by omega), brn_true, i64_in (by omega) (by omega), show (((k + 1 : Nat) : Int) - 1) = (k : Int) by omega, idxI (v := D[k]) (List.getElem?_eq_getElem hk'), obnd_some]
      have ht : D.take (k + 1) = D.take k ++ [D[k]] := by rw [List.take_add_one, List.getElem?_eq_getElem hk']; rfl
      by_cases hz : D[k] = 0
      · rw [decide_eq_true hz, brn_true]
        refine hb _ ⟨rfl, k, by omega, rfl, ?_⟩ (by simp only [Int.toNat_natCast]; omega)
        rw [← hr, ht, hz, rtrim_snoc_zero]
      · rw [decide_eq_false hz, brn_false]
        refine ⟨_, rfl, ?_⟩
        rw [← hr, ht, rtrim_snoc_ne hz]
        simp; omega) (⟨m, D⟩, (D.length : Int)) ⟨rfl, D.length, Nat.le_refl _, rfl, by rw [List.take_length]⟩ (by simp only [Int.toNat_natCast]; omega)
  subst h2; exact h1
theorem trim_is {D : List Int} {m : Bool} (hd : isDig D) (hl : D.length < 10000) : ref7_trimF ⟨m, D⟩ = some ⟨m && !decide (vd D = 0), digs (vd D)⟩ := by
  unfold ref7_trimF
  simp only
  rw [trim_l1_is hl, obnd_some]
  have h1 := rtrim_len D
  have h2 : sub D 0 ((rtrim D).length : Int) = some (rtrim D) := by
    simp only [sub]
    have : (decide ((0 : Int) ≤ 0) && decide ((0 : Int) ≤ ((rtrim D).length : Int)) && decide (((rtrim D).length : Int) ≤ (D.length : Int))) = true := by simp [h1]
    rw [this, cond_true]
    simp only [Int.toNat_natCast, Int.toNat_zero, List.drop_zero]
    rw [← rtrim_take]
  rw [h2, obnd_some]
  rw [rtrim_eq hd]
  by_cases hz : vd D = 0
  · rw [hz, digs_zero]; simp
  · have := mt digs_nil.1 hz
    rw [decide_eq_false (by omega), brn_false, decide_eq_false hz]; simp
theorem big_is {n : Int} (h : I64 n) : ref7_bigF n = some (digs n.natAbs, ⟨decide (n < 0), digs n.natAbs⟩) := by
  unfold I64 at h
  have key : ∀ (u : Nat) (m : Bool), u ≤ 9223372036854775808 → ref7_big_l1J ([], ⟨m, []⟩, (u : Int)) = some (digs u, ⟨m, digs u⟩) := fun u m hu => by
    have hlen : (digs u).length ≤ 19 := digs_len_le 19 u (by omega)
    obtain ⟨y, h1, h2⟩ := iter_ex (F := ref7_big_l1F) (fun x => (digs x.2.2.toNat).length) (fun x => x.2.1.Minus = m ∧ ∃ v : Nat, v ≤ 9223372036854775808 ∧ x.2.2 = (v : Int) ∧ x.1 ++ digs v = digs u) (fun y => y = (digs u, ⟨m, digs u⟩)) (by
      rintro back ⟨D, ⟨m', E⟩, i⟩ ⟨hm, v, hv, hi, hD⟩ hb
      simp only at hm hi hD
      subst hm; subst hi
      unfold ref7_big_l1F
      simp only at hb ⊢
      have hl : D.length + (digs v).length = (digs u).length := by rw [← hD]; simp
      by_cases hz : v = 0
      · subst hz
        rw [digs_zero, List.append_nil] at hD
        subst hD
        exact ⟨_, by simp, rfl⟩
      · have e1 : ((v : Int).tmod 10) = ((v % 10 : Nat) : Int) := by rw [Int.tmod_eq_emod_of_nonneg (by omega)]; omega
        have e2 : ((v : Int).tdiv 10) = ((v / 10 : Nat) : Int) := by rw [Int.tdiv_eq_ediv_of_nonneg (by omega)]; omega
        rw [digs_pos hz, List.length_cons] at hl
        rw [decide_eq_true (by omega), brn_true, e1, e2, i64_in (by omega) (by omega), u64_in (by omega) (by omega), appS (by simp; omega), obnd_some]
        refine hb _ ⟨rfl, v / 10, by omega, rfl, ?_⟩ ?_
        · rw [← hD, digs_pos hz, List.append_assoc]; rfl
        · simp only [Int.toNat_natCast]
          conv => rhs; rw [digs_pos hz]
          simp) ([], ⟨m, []⟩, (u : Int)) ⟨rfl, u, hu, rfl, rfl⟩ (by simp only [Int.toNat_natCast]; omega)
    subst h2; exact h1
  unfold ref7_bigF
  by_cases hn : n < 0
  · rw [decide_eq_true hn, brn_true, show IntKind.u64.wrap (0 - IntKind.u64.wrap n) = (n.natAbs : Int) by rw [u64, u64]; omega, key _ _ (by omega)]; rfl
  · rw [decide_eq_false hn, brn_false, show IntKind.u64.wrap n = (n.natAbs : Int) by rw [u64]; omega, key _ _ (by omega)]; rfl
theorem bigP_is {n : Int} (h : I64 n) : ref7_bigPF n = some ⟨decide (n < 0), digs n.natAbs⟩ := by
  unfold ref7_bigPF
  rw [big_is (by assumption)]
  rfl
theorem up_big_is {n k : Nat} {m : Bool} (hk : k ≤ 100) (hl : (digs n).length ≤ 1000) : ref7_upF (⟨m, digs n⟩, (k : Int)) = some ⟨m, digs (n * 10 ^ k)⟩ := by
  unfold ref7_upF
  simp only
  by_cases hz : n = 0
  · subst hz; rw [digs_zero, Nat.zero_mul, digs_zero]; simp
  · have := mt digs_nil.1 hz
    rw [decide_eq_false (by omega), brn_false]
    have key : ref7_up_l1J ([], (k : Int), ⟨m, []⟩, 0) = some (List.replicate k 0, ⟨m, List.replicate k 0⟩) := by
      obtain ⟨y, h1, h2⟩ := iter_ex (F := ref7_up_l1F) (fun x => k - x.2.2.2.toNat) (fun x => x.2.1 = (k : Int) ∧ x.2.2.1.Minus = m ∧ ∃ i : Nat, i ≤ k ∧ x.2.2.2 = (i : Int) ∧ x.1 = List.replicate i 0) (fun y => y = (List.replicate k 0, ⟨m, List.replicate k 0⟩)) (by
        rintro back ⟨D, kk, ⟨m', E⟩, i⟩ ⟨e1, e2, j, hj, e3, e4⟩ hb
        simp only at e1 e2 e3 e4
        subst e1; subst e2; subst e3; subst e4
        unfold ref7_up_l1F
        simp only at hb ⊢
        by_cases hlt : j < k
        · rw [decide_eq_true (by omega), brn_true, appS (by simp; omega), obnd_some, i64_in (by omega) (by omega)]
          refine hb _ ⟨rfl, rfl, j + 1, by omega, by simp only; omega, ?_⟩ (by simp only; omega)
          simp only [← List.replicate_succ']
        · have : j = k := by omega
          subst this
          exact ⟨_, by simp, rfl⟩) ([], (k : Int), ⟨m, []⟩, 0) ⟨rfl, rfl, 0, by omega, rfl, rfl⟩ (by simp only; omega)
      subst h2; exact h1
    rw [key, obnd_some, appS (by simp; omega), obnd_some, digs_up k n hz]
def at0 (D : List Int) (k : Nat) : Int := D[k]?.getD 0
theorem at0_dig {D : List Int} (h : isDig D) (k : Nat) : 0 ≤ at0 D k ∧ at0 D k ≤ 9 := by
  unfold at0
  cases hk : D[k]? with
  | none => simp
  | some v => exact h v (List.mem_of_getElem? hk)
theorem vd_drop {D : List Int} (k : Nat) : vd (D.drop k) = (at0 D k).toNat + 10 * vd (D.drop (k + 1)) := by
  unfold at0
  rcases Nat.lt_or_ge k D.length with h | h
  · rw [List.drop_eq_getElem_cons h, List.getElem?_eq_getElem h]; rfl
  · rw [List.drop_eq_nil_of_le h, List.drop_eq_nil_of_le (by omega), List.getElem?_eq_none h]; rfl
theorem plus_b2_is {D E out : List Int} {c : Int} {k : Nat} (hD : isDig D) (hE : isDig E) (hc : 0 ≤ c ∧ c ≤ 1) (_hl : D.length ≤ 5000) (_hl2 : E.length ≤ 5000) (ho : out.length ≤ 9000) (_hk : k ≤ 9000) :
    ref7_plus_b2J (D, E, out, c, (k : Int)) = some (out ++ [(c + at0 D k + at0 E k) % 10], (c + at0 D k + at0 E k) / 10) := by
  have hd := at0_dig hD k
  have he := at0_dig hE k
  have tm : ∀ t : Int, 0 ≤ t → t.tmod 10 = t % 10 := fun t h => Int.tmod_eq_emod_of_nonneg h
  have td : ∀ t : Int, 0 ≤ t → t.tdiv 10 = t / 10 := fun t h => Int.tdiv_eq_ediv_of_nonneg h
  have w1 := i64_in (n := c + at0 D k) (by omega) (by omega)
  have w2 := i64_in (n := c + at0 E k) (by omega) (by omega)
  have w3 := i64_in (n := c + at0 D k + at0 E k) (by omega) (by omega)
  unfold ref7_plus_b2J
  simp only
  rcases Nat.lt_or_ge k D.length with h1 | h1
  · have g1 : D[k]? = some (at0 D k) := by unfold at0; rw [List.getElem?_eq_getElem h1]; rfl
    rw [decide_eq_true (show (k : Int) < (D.length : Int) by omega), brn_true, idxI g1, obnd_some]
    rcases Nat.lt_or_ge k E.length with h2 | h2
    · have g2 : E[k]? = some (at0 E k) := by unfold at0; rw [List.getElem?_eq_getElem h2]; rfl
      rw [decide_eq_true (show (k : Int) < (E.length : Int) by omega), brn_true, idxI g2, obnd_some, w1, w3, tm _ (by omega), td _ (by omega), i64_in (by omega) (by omega), appS (by simp; omega)]; rfl
    · have g2 : at0 E k = 0 := by unfold at0; rw [List.getElem?_eq_none h2]; rfl
      rw [decide_eq_false (show ¬ (k : Int) < (E.length : Int) by omega), brn_false, w1, g2, Int.add_zero, tm _ (by omega), td _ (by omega), i64_in (by omega) (by omega), appS (by simp; omega)]; rfl
  · have g1 : at0 D k = 0 := by unfold at0; rw [List.getElem?_eq_none h1]; rfl
    rw [decide_eq_false (show ¬ (k : Int) < (D.length : Int) by omega), brn_false]
    rcases Nat.lt_or_ge k E.length with h2 | h2
    · have g2 : E[k]? = some (at0 E k) := by unfold at0; rw [List.getElem?_eq_getElem h2]; rfl
      rw [decide_eq_true (show (k : Int) < (E.length : Int) by omega), brn_true, idxI g2, obnd_some, w2, g1, Int.add_zero, tm _ (by omega), td _ (by omega), i64_in (by omega) (by omega), appS (by simp; omega)]; rfl
    · have g2 : at0 E k = 0 := by unfold at0; rw [List.getElem?_eq_none h2]; rfl
      rw [decide_eq_false (show ¬ (k : Int) < (E.length : Int) by omega), brn_false, g1, g2, Int.add_zero, Int.add_zero, tm _ (by omega), td _ (by omega), i64_in (by omega) (by omega), appS (by simp; omega)]; rfl
theorem idx0 {D : List Int} {v : Int} (h : D[0]? = some v) : idx D 0 = some v := idxI (k := 0) h
theorem strip_step (v p : Nat) : strip (v : Int) (p + 1) = if v % 10 = 0 then strip ((v / 10 : Nat) : Int) p else ((v : Int), p + 1) := by
  conv => lhs; unfold strip
  by_cases h : v % 10 = 0
  · rw [if_pos (by omega), if_pos h]; rfl
  · rw [if_neg (by omega), if_neg h]
theorem small_l1_is {n p : Nat} {m : Bool} (hl : (digs n).length ≤ 5000) (hp : p ≤ 1000) : ref7_small_l1J ((p : Int), ⟨m, digs n⟩) = some (((strip n p).2 : Int), ⟨m, digs (strip n p).1.toNat⟩) := by
  obtain ⟨y, h1, h2⟩ := iter_ex (F := ref7_small_l1F) (fun x => x.1.toNat) (fun x => ∃ q v : Nat, q ≤ p ∧ (digs v).length ≤ 5000 ∧ x = ((q : Int), ⟨m, digs v⟩) ∧ strip v q = strip n p) (fun y => y = (((strip n p).2 : Int), ⟨m, digs (strip n p).1.toNat⟩)) (by
    rintro back x ⟨q, v, hq, hv, rfl, hs⟩ hb
    unfold ref7_small_l1F
    simp only at hb ⊢
    rw [← hs]
    cases q with
    | zero => exact ⟨(0, ⟨m, digs v⟩), by simp, by simp [strip]⟩
    | succ q =>
      rw [decide_eq_true (by omega), brn_true, i64_in (n := ((q + 1 : Nat) : Int) - 1) (by omega) (by omega), show (((q + 1 : Nat) : Int) - 1) = (q : Int) by omega]
      rw [strip_step]
      rw [strip_step] at hs
      by_cases hz : v = 0
      · subst hz
        rw [if_pos (by omega)] at hs ⊢
        have := hb ((q : Int), ⟨m, digs 0⟩) ⟨q, 0, by omega, hv, rfl, hs⟩ (by simp only [Int.toNat_natCast]; omega)
        rw [digs_zero] at this ⊢
        rw [hs]
        simpa using this
      · have hne := mt digs_nil.1 hz
        rw [decide_eq_false (by omega), brn_false, idx0 (v := ((v % 10 : Nat) : Int)) (by rw [digs_pos hz]; rfl), obnd_some]
        by_cases h0 : v % 10 = 0
        · rw [decide_eq_true (by omega), brn_true, decide_eq_true (by omega), brn_true]
          have hsub : sub (digs v) 1 ((digs v).length : Int) = some (digs (v / 10)) := by
            have := subS (D := digs v) (k := 1) (by omega)
            rw [digs_drop] at this
            simpa using this
          rw [hsub, obnd_some, if_pos h0]
          rw [if_pos h0] at hs
          have hl2 : (digs (v / 10)).length ≤ 5000 := by rw [digs_pos hz] at hv; simp at hv; omega
          rw [hs]
          exact hb ((q : Int), ⟨m, digs (v / 10)⟩) ⟨q, v / 10, by omega, hl2, rfl, hs⟩ (by simp only [Int.toNat_natCast]; omega)
        · rw [decide_eq_false (by omega), brn_false, if_neg h0]
          exact ⟨_, rfl, by simp⟩) ((p : Int), ⟨m, digs n⟩) ⟨p, n, Nat.le_refl _, hl, rfl, rfl⟩ (by simp only [Int.toNat_natCast]; omega)
  subst h2; exact h1
theorem small_l2_is {n : Nat} {m : Bool} (hn : (digs n).length ≤ 19) : ref7_small_l2J (⟨m, digs n⟩, 0, ((digs n).length : Int) - 1) = some (n : Int) := by
  have hlt := digs_len_lt hn
  obtain ⟨y, h1, h2⟩ := iter_ex (F := ref7_small_l2F) (fun x => (x.2.2 + 1).toNat) (fun x => x.1 = ⟨m, digs n⟩ ∧ ∃ k : Nat, k ≤ (digs n).length ∧ x.2.2 = (k : Int) - 1 ∧ x.2.1 = ((n / 10 ^ k : Nat) : Int)) (fun y => y = (n : Int)) (by
    rintro back ⟨b, u, i⟩ ⟨rfl, k, hk, e1, e2⟩ hb
    simp only at e1 e2
    subst e1; subst e2
    unfold ref7_small_l2F
    simp only at hb ⊢
    cases k with
    | zero => exact ⟨(n : Int), by simp, rfl⟩
    | succ k =>
      have e : n / 10 ^ (k + 1) = n / 10 ^ k / 10 := by rw [Nat.pow_succ, Nat.div_div_eq_div_mul]
      have hle : n / 10 ^ k ≤ n := Nat.div_le_self _ _
      rw [decide_eq_true (by omega), brn_true, show (((k + 1 : Nat) : Int) - 1) = (k : Int) by omega, idxI (digs_get k n (by omega)), obnd_some, e]
      generalize hq : n / 10 ^ k = q at *
      rw [u64_in (n := 10 * ((q / 10 : Nat) : Int)) (by omega) (by omega), u64_in (n := ((q % 10 : Nat) : Int)) (by omega) (by omega), u64_in (by omega) (by omega), i64_in (by omega) (by omega)]
      refine hb _ ⟨rfl, k, by omega, rfl, ?_⟩ (by simp only; omega)
      simp only [hq]; omega) (⟨m, digs n⟩, 0, ((digs n).length : Int) - 1) ⟨rfl, (digs n).length, Nat.le_refl _, rfl, by
        have h1 := vd_lt (digs_dig n)
        rw [vd_digs] at h1
        simp only
        rw [Nat.div_eq_of_lt h1]; rfl⟩ (by simp only; omega)
  subst h2; exact h1
theorem small_is {n p : Nat} {m : Bool} (hl : (digs n).length ≤ 5000) (hp : p ≤ 1000) : ref7_smallF (⟨m, digs n⟩, (p : Int)) = some (decV (sw n m) p) := by
  unfold ref7_smallF
  simp only
  rw [small_l1_is hl hp, obnd_some]
  have h0 := strip_nn p (v := (n : Int)) (by omega)
  have hs : strip (sw n m) p = (sw (strip n p).1 m, (strip n p).2) := by
    cases m
    · rfl
    · exact strip_neg p n
  unfold decV
  rw [hs]
  generalize hv : (strip (n : Int) p).1 = v at *
  generalize (strip (n : Int) p).2 = q at *
  obtain ⟨k, rfl⟩ := Int.eq_ofNat_of_zero_le h0
  simp only [Int.toNat_natCast]
  have hI : I64 (sw (k : Int) m) ↔ (if m then (k : Int) ≤ 9223372036854775808 else (k : Int) ≤ 9223372036854775807) := by
    unfold I64
    cases m <;> simp [sw] <;> omega
  by_cases h19 : 19 < (digs k).length
  · have hge : 10 ^ 19 ≤ k := by
      apply Classical.byContradiction
      intro hn
      have := digs_len_le 19 k (by omega)
      omega
    rw [decide_eq_true (by omega), brn_true, if_neg]
    rw [hI]
    cases m <;> simp <;> omega
  · have hlt := digs_len_lt (n := k) (k := 19) (by omega)
    rw [decide_eq_false (by omega), brn_false, i64_in (n := ((digs k).length : Int) - 1) (by omega) (by omega), small_l2_is (by omega), obnd_some]
    cases m
    · rw [brn_false]
      by_cases hb : (9223372036854775807 : Int) < (k : Int)
      · rw [decide_eq_true hb, brn_true, if_neg (by rw [hI]; simp; omega)]
      · rw [decide_eq_false hb, brn_false, if_pos (by rw [hI]; simp; omega), i64_in (by omega) (by omega)]; rfl
    · rw [brn_true]
      by_cases hb : (9223372036854775808 : Int) < (k : Int)
      · rw [decide_eq_true hb, brn_true, if_neg (by rw [hI]; simp; omega)]
      · rw [decide_eq_false hb, brn_false, if_pos (by rw [hI]; simp; omega)]
        have : IntKind.i64.wrap (IntKind.u64.wrap (0 - (k : Int))) = -(k : Int) := by rw [u64, i64]; omega
        rw [this]; rfl
theorem pow_cast (k : Nat) : ((10 ^ k : Nat) : Int) = (10 : Int) ^ k := by simp
theorem sw_and (n : Nat) (m : Bool) : sw (n : Int) (m && !decide (n = 0)) = sw (n : Int) m := by
  by_cases h : n = 0
  · subst h; cases m <;> rfl
  · simp [h]
theorem sw_mul_pos (n p : Int) (m : Bool) : sw (n * p) m = sw n m * p := by
  cases m
  · rfl
  · simp only [sw, cond_true]; rw [Int.neg_mul]
theorem decV_zero {v : Int} (h : I64 v) : decV v 0 = (⟨v, 0⟩, 0) := by
  unfold decV strip
  rw [if_pos h]; rfl
theorem digs_ge {n j : Nat} (h : j < (digs n).length) : 10 ^ j ≤ n := by
  apply Classical.byContradiction
  intro hn
  have := digs_len_le j n (by omega)
  omega
theorem digs_of {R : List Int} (hd : isDig R) (hl : R.length ≤ (digs (vd R)).length) : R = digs (vd R) := by
  have h1 := rtrim_eq hd
  have h2 := rtrim_take R
  rw [h1] at h2
  rw [List.take_of_length_le hl] at h2
  exact h2.symm
theorem plus_digs {n m : Nat} (hl : (digs n).length ≤ 4000) (hl2 : (digs m).length ≤ 4000) : ref7_plusF (digs n, digs m) = some (digs (n + m)) := by
  have hD := digs_dig n
  have hE := digs_dig m
  have key : ∃ R, ref7_plus_l1J (digs n, digs m, [], 0, 0) = some R ∧ (R = digs (n + m)) := by
    refine iter_ex (F := ref7_plus_l1F) (fun x => 4002 - x.2.2.2.2.toNat) (fun x => x.1 = digs n ∧ x.2.1 = digs m ∧ ∃ (c : Int) (k : Nat), x.2.2.2.1 = c ∧ x.2.2.2.2 = (k : Int) ∧ 0 ≤ c ∧ c ≤ 1 ∧ isDig x.2.2.1 ∧ x.2.2.1.length = k ∧ k ≤ 4001 ∧ (4000 < k → c = 0) ∧ (∀ j, j < k → 10 ^ j ≤ n + m) ∧
      vd x.2.2.1 + 10 ^ k * (c.toNat + vd ((digs n).drop k) + vd ((digs m).drop k)) = n + m) _ ?_ _ ⟨rfl, rfl, 0, 0, rfl, rfl, by omega, by omega, isDig_nil, rfl, by omega, by omega, by omega, by simp [vd, vd_digs]⟩ (by simp only; omega)
    rintro back ⟨D', E', out, c, i⟩ ⟨e1, e2, c', k, e3, e4, c0, c1, ho, hk, hk2, hk3, hp, hv⟩ hb
    simp only at e1 e2 e3 e4 ho hk hv
    subst e1; subst e2; subst e3; subst e4
    unfold ref7_plus_l1F
    simp only at hb ⊢
    rw [plus_b2_is hD hE ⟨c0, c1⟩ (by omega) (by omega) (by omega) (by omega), obnd_some]
    simp only
    rw [i64_in (n := (k : Int) + 1) (by omega) (by omega)]
    have hd := at0_dig hD k
    have he := at0_dig hE k
    by_cases hgo : k < (digs n).length ∨ k < (digs m).length ∨ 0 < c
    · have step : ∃ y, back (digs n, digs m, out ++ [(c + at0 (digs n) k + at0 (digs m) k) % 10], (c + at0 (digs n) k + at0 (digs m) k) / 10, (k : Int) + 1) = some y ∧ (y = digs (n + m)) := by
        have hk4 : k ≤ 4000 := by
          rcases hgo with h | h | h
          · omega
          · omega
          · apply Classical.byContradiction; intro hn; have := hk3 (by omega); omega
        refine hb _ ⟨rfl, rfl, (c + at0 (digs n) k + at0 (digs m) k) / 10, k + 1, rfl, by simp, by omega, by omega, ?_, by simp [hk], by omega, fun h4 => ?_, fun j hj => ?_, ?_⟩ (by simp only; omega)
        · exact isDig_append.2 ⟨ho, isDig_cons.2 ⟨by omega, isDig_nil⟩⟩
        · have h1 : at0 (digs n) k = 0 := by unfold at0; rw [List.getElem?_eq_none (by omega)]; rfl
          have h2 : at0 (digs m) k = 0 := by unfold at0; rw [List.getElem?_eq_none (by omega)]; rfl
          omega
        · rcases Nat.lt_or_ge j k with h | h
          · exact hp j h
          · have : j = k := by omega
            subst this
            rcases hgo with h | h | h
            · have := digs_ge h; omega
            · have := digs_ge h; omega
            · have : 10 ^ j * 1 ≤ 10 ^ j * (c.toNat + vd ((digs n).drop j) + vd ((digs m).drop j)) := Nat.mul_le_mul_left _ (by omega)
              omega
        · rw [← hv, vd_append, hk, vd_drop (D := digs n) k, vd_drop (D := digs m) k, Nat.pow_succ]
          simp only [vd]
          generalize vd ((digs n).drop (k + 1)) = X
          generalize vd ((digs m).drop (k + 1)) = Y
          generalize 10 ^ k = T
          generalize hx : at0 (digs n) k = a at *
          generalize hy : at0 (digs m) k = b at *
          have q1 : ((c + a + b) % 10).toNat + 10 * 0 = (c.toNat + a.toNat + b.toNat) % 10 := by omega
          have q2 : ((c + a + b) / 10).toNat = (c.toNat + a.toNat + b.toNat) / 10 := by omega
          rw [q1, q2]
          generalize c.toNat = cc
          generalize a.toNat = aa
          generalize b.toNat = bb
          have q3 : cc + (aa + 10 * X) + (bb + 10 * Y) = (cc + aa + bb) % 10 + 10 * ((cc + aa + bb) / 10 + X + Y) := by omega
          rw [q3, Nat.mul_add T, Nat.mul_assoc T 10]
          omega
      by_cases g1 : k < (digs n).length
      · rw [decide_eq_true (by omega), brn_true]; exact step
      · rw [decide_eq_false (by omega), brn_false]
        by_cases g2 : k < (digs m).length
        · rw [decide_eq_true (by omega), brn_true]; exact step
        · rw [decide_eq_false (by omega), brn_false, decide_eq_true (by omega), brn_true]; exact step
    · have g1 : ¬ k < (digs n).length := fun h => hgo (.inl h)
      have g2 : ¬ k < (digs m).length := fun h => hgo (.inr (.inl h))
      have g3 : ¬ 0 < c := fun h => hgo (.inr (.inr h))
      rw [decide_eq_false (by omega), brn_false, decide_eq_false (by omega), brn_false, decide_eq_false g3, brn_false]
      refine ⟨_, rfl, ?_⟩
      rw [List.drop_eq_nil_of_le (by omega), List.drop_eq_nil_of_le (by omega)] at hv
      have : c = 0 := by omega
      subst this
      have hv2 : vd out = n + m := by simpa [vd] using hv
      rw [← hv2]
      refine digs_of ho ?_
      rw [hv2]
      apply Classical.byContradiction
      intro hn
      have h1 := digs_len_lt (n := n + m) (k := (digs (n + m)).length) (Nat.le_refl _)
      have h2 := hp (digs (n + m)).length (by omega)
      omega
  obtain ⟨R, h1, h2⟩ := key
  unfold ref7_plusF
  rw [h1, h2]; rfl
theorem lessD_is {a b : Nat} (hl : (digs a).length ≤ 5000) (hl2 : (digs b).length ≤ 5000) : ref7_lessF (digs a, digs b) = some (decide (a < b)) := by
  unfold ref7_lessF
  simp only
  by_cases hlen : (digs a).length = (digs b).length
  · rw [decide_eq_true (by omega), Bool.not_true, brn_false, i64_in (by omega) (by omega)]
    obtain ⟨y, h1, h2⟩ := iter_ex (F := ref7_less_l1F) (fun x => (x.2.2 + 1).toNat) (fun x => x.1 = digs a ∧ x.2.1 = digs b ∧ ∃ k : Nat, k ≤ (digs a).length ∧ x.2.2 = (k : Int) - 1 ∧ a / 10 ^ k = b / 10 ^ k) (fun y => osum y (fun _ => some false) (fun y => some y) = some (decide (a < b))) (by
      rintro back ⟨D, E, i⟩ ⟨rfl, rfl, k, hk, e1, e2⟩ hb
      simp only at e1
      subst e1
      unfold ref7_less_l1F
      simp only at hb ⊢
      cases k with
      | zero =>
        simp only [Nat.pow_zero, Nat.div_one] at e2
        subst e2
        exact ⟨Sum.inl PUnit.unit, by simp, by simp [osum]⟩
      | succ k =>
        rw [decide_eq_true (by omega), brn_true, show (((k + 1 : Nat) : Int) - 1) = (k : Int) by omega, idxI (digs_get k a (by omega)), obnd_some, idxI (digs_get k b (by omega)), obnd_some]
        have ea : a / 10 ^ k = a / 10 ^ k % 10 + 10 * (a / 10 ^ (k + 1)) := by rw [Nat.pow_succ, ← Nat.div_div_eq_div_mul]; omega
        have eb : b / 10 ^ k = b / 10 ^ k % 10 + 10 * (b / 10 ^ (k + 1)) := by rw [Nat.pow_succ, ← Nat.div_div_eq_div_mul]; omega
        by_cases hd : a / 10 ^ k % 10 = b / 10 ^ k % 10
        · rw [decide_eq_true (by omega), Bool.not_true, brn_false, i64_in (by omega) (by omega)]
          exact hb _ ⟨rfl, rfl, k, by omega, rfl, by omega⟩ (by simp only; omega)
        · rw [decide_eq_false (by omega), Bool.not_false, brn_true, obnd_some, obnd_some]
          refine ⟨_, rfl, ?_⟩
          simp only [osum]
          congr 1
          rw [decide_eq_decide]
          have hab : a / 10 ^ k < b / 10 ^ k ↔ a / 10 ^ k % 10 < b / 10 ^ k % 10 := by omega
          have hne : a / 10 ^ k ≠ b / 10 ^ k := by omega
          constructor
          · intro h
            have := hab.2 (by omega)
            exact Nat.lt_of_not_le fun hle => by have := Nat.div_le_div_right (c := 10 ^ k) hle; omega
          · intro h
            have := Nat.div_le_div_right (c := 10 ^ k) (Nat.le_of_lt h)
            have := hab.1 (by omega)
            omega) (digs a, digs b, ((digs a).length : Int) - 1) ⟨rfl, rfl, (digs a).length, Nat.le_refl _, rfl, by
              have h1 := digs_len_lt (n := a) (Nat.le_refl _)
              have h2 := digs_len_lt (n := b) (k := (digs a).length) (by omega)
              rw [Nat.div_eq_of_lt h1, Nat.div_eq_of_lt h2]⟩ (by simp only; omega)
    have h3 : ref7_less_l1J (digs a, digs b, ((digs a).length : Int) - 1) = some y := h1
    rw [h3, obnd_some]
    exact h2
  · rw [decide_eq_false (by omega), Bool.not_false, brn_true]
    congr 1
    rw [decide_eq_decide]
    constructor
    · intro h
      have h1 := digs_len_lt (n := a) (Nat.le_refl _)
      have h2 := digs_ge (n := b) (j := (digs a).length) (by omega)
      omega
    · intro h
      apply Classical.byContradiction
      intro hn
      have h1 := digs_len_lt (n := b) (Nat.le_refl _)
      have h2 := digs_ge (n := a) (j := (digs b).length) (by omega)
      omega
theorem minus_is {D E : List Int} (hD : isDig D) (hE : isDig E) (hl : D.length ≤ 4000) (hl2 : E.length ≤ D.length) (hle : vd E ≤ vd D) : ∃ R, ref7_minusF (D, E) = some R ∧ isDig R ∧ vd R = vd D - vd E ∧ R.length ≤ 4000 := by
  have key : ∃ R, ref7_minus_l1J (D, E, [], 0, 0) = some R ∧ (isDig R ∧ vd R = vd D - vd E ∧ R.length ≤ 4000) := by
    refine iter_ex (F := ref7_minus_l1F) (fun x => 4002 - x.2.2.2.2.toNat) (fun x => x.1 = D ∧ x.2.1 = E ∧ ∃ (c k : Nat), x.2.2.2.1 = (c : Int) ∧ x.2.2.2.2 = (k : Int) ∧ c ≤ 1 ∧ isDig x.2.2.1 ∧ x.2.2.1.length = k ∧ k ≤ D.length ∧
      vd D + 10 ^ k * (c + vd (E.drop k)) = vd x.2.2.1 + vd E + 10 ^ k * vd (D.drop k)) _ ?_ _ ⟨rfl, rfl, 0, 0, rfl, rfl, by omega, isDig_nil, rfl, by omega, by simp [vd]; omega⟩ (by simp only; omega)
    rintro back ⟨D', E', out, cc, i⟩ ⟨e1, e2, c, k, e3, e4, c1, ho, hk, hk2, hv⟩ hb
    simp only at e1 e2 e3 e4 ho hk hv
    subst e1; subst e2; subst e3; subst e4
    unfold ref7_minus_l1F
    simp only at hb ⊢
    rcases Nat.lt_or_ge k D'.length with hlt | hge
    · have hd := at0_dig hD k
      have he := at0_dig hE k
      have g1 : D'[k]? = some (at0 D' k) := by unfold at0; rw [List.getElem?_eq_getElem hlt]; rfl
      rw [decide_eq_true (by omega), brn_true, idxI g1, obnd_some]
      have fin : ∀ (x : Int) (c' : Nat), 0 ≤ x → x ≤ 9 → c' ≤ 1 → at0 D' k - c - at0 E' k + 10 * c' = x → ∃ y, back (D', E', out ++ [x], (c' : Int), IntKind.i64.wrap ((k : Int) + 1)) = some y ∧ (isDig y ∧ vd y = vd D' - vd E' ∧ y.length ≤ 4000) := fun x c' x0 x9 hc' hx => by
        rw [i64_in (by omega) (by omega)]
        refine hb _ ⟨rfl, rfl, c', k + 1, rfl, by simp, hc', isDig_append.2 ⟨ho, isDig_cons.2 ⟨⟨x0, x9⟩, isDig_nil⟩⟩, by simp [hk], by omega, ?_⟩ (by simp only; omega)
        simp only
        rw [vd_drop (D := D') k, vd_drop (D := E') k] at hv
        rw [vd_append, hk, Nat.pow_succ]
        simp only [vd]
        generalize vd (D'.drop (k + 1)) = X at *
        generalize vd (E'.drop (k + 1)) = Y at *
        generalize 10 ^ k = T at *
        generalize hp : at0 D' k = a at *
        generalize hq : at0 E' k = b at *
        have q : x.toNat + c + b.toNat = a.toNat + 10 * c' := by omega
        rw [Nat.mul_add, Nat.mul_add] at hv
        rw [Nat.mul_add]
        have z1 : T * (x.toNat + c + b.toNat) = T * (a.toNat + 10 * c') := by rw [q]
        simp only [Nat.mul_add, Nat.mul_assoc] at *
        omega
      rcases Nat.lt_or_ge k E'.length with h2 | h2
      · have g2 : E'[k]? = some (at0 E' k) := by unfold at0; rw [List.getElem?_eq_getElem h2]; rfl
        rw [decide_eq_true (by omega), brn_true, idxI g2, obnd_some, i64_in (n := at0 D' k - (c : Int)) (by omega) (by omega), i64_in (n := at0 D' k - (c : Int) - at0 E' k) (by omega) (by omega)]
        by_cases hneg : at0 D' k - (c : Int) - at0 E' k < 0
        · rw [decide_eq_true hneg, brn_true, i64_in (by omega) (by omega), appS (by simp; omega), obnd_some]
          exact fin _ 1 (by omega) (by omega) (by omega) (by omega)
        · rw [decide_eq_false hneg, brn_false, appS (by simp; omega), obnd_some]
          exact fin _ 0 (by omega) (by omega) (by omega) (by omega)
      · have g2 : at0 E' k = 0 := by unfold at0; rw [List.getElem?_eq_none h2]; rfl
        rw [decide_eq_false (by omega), brn_false, i64_in (n := at0 D' k - (c : Int)) (by omega) (by omega)]
        by_cases hneg : at0 D' k - (c : Int) < 0
        · rw [decide_eq_true hneg, brn_true, i64_in (by omega) (by omega), appS (by simp; omega), obnd_some]
          exact fin _ 1 (by omega) (by omega) (by omega) (by omega)
        · rw [decide_eq_false hneg, brn_false, appS (by simp; omega), obnd_some]
          exact fin _ 0 (by omega) (by omega) (by omega) (by omega)
    · rw [decide_eq_false (by omega), brn_false]
      refine ⟨_, rfl, ho, ?_, by omega⟩
      rw [List.drop_eq_nil_of_le (by omega), List.drop_eq_nil_of_le (by omega)] at hv
      have hlt := vd_lt ho
      rw [hk] at hlt
      simp only [vd, Nat.mul_zero, Nat.add_zero] at hv
      rcases Nat.lt_or_ge 0 c with h0 | h0
      · have : c = 1 := by omega
        subst this
        rw [Nat.mul_one] at hv
        omega
      · have : c = 0 := by omega
        subst this
        rw [Nat.mul_zero] at hv
        omega
  obtain ⟨R, h1, h2⟩ := key
  refine ⟨R, ?_, h2⟩
  unfold ref7_minusF
  rw [h1]; rfl
theorem digs_len_mono {a b : Nat} (h : a ≤ b) : (digs a).length ≤ (digs b).length := by
  have := digs_len_lt (n := b) (Nat.le_refl _)
  exact digs_len_le _ _ (by omega)
theorem minus_trim {a b : Nat} {m : Bool} (hl : (digs a).length ≤ 4000) (hle : b ≤ a) : ∃ R, ref7_minusF (digs a, digs b) = some R ∧ ref7_trimF ⟨m, R⟩ = some ⟨m && !decide (a - b = 0), digs (a - b)⟩ := by
  obtain ⟨R, h1, h2, h3, h4⟩ := minus_is (digs_dig a) (digs_dig b) hl (digs_len_mono hle) (by rw [vd_digs, vd_digs]; exact hle)
  rw [vd_digs, vd_digs] at h3
  refine ⟨R, h1, ?_⟩
  rw [trim_is h2 (by omega), h3]
theorem digs_add_len {a b k : Nat} (h : (digs a).length ≤ k) (h2 : (digs b).length ≤ k) : (digs (a + b)).length ≤ k + 1 := by
  have h1 := digs_len_lt h
  have h2 := digs_len_lt h2
  refine digs_len_le _ _ ?_
  rw [Nat.pow_succ]
  omega
theorem add_is {a b : Nat} {m m' : Bool} (hl : (digs a).length ≤ 1000) (hl2 : (digs b).length ≤ 1000) :
    ∃ m'', ref7_addF (⟨m, digs a⟩, ⟨m', digs b⟩) = some ⟨m'', digs (sw a m + sw b m').natAbs⟩ ∧ sw (sw (a : Int) m + sw b m').natAbs m'' = sw a m + sw b m' := by
  unfold ref7_addF
  simp only
  by_cases hm : m = m'
  · subst hm
    rw [decide_eq_true rfl, brn_true, plus_digs (by omega) (by omega), obnd_some, trim_is (digs_dig _) (by
      have := digs_add_len hl hl2
      omega), obnd_some, vd_digs]
    refine ⟨m && !decide (a + b = 0), ?_, ?_⟩
    · congr 3
      cases m <;> simp [sw] <;> omega
    · cases m <;> simp [sw]
      · omega
      · by_cases ha : a = 0 <;> by_cases hb : b = 0 <;> simp [ha, hb] <;> omega
  · rw [decide_eq_false hm, brn_false, lessD_is (by omega) (by omega), obnd_some]
    by_cases hlt : a < b
    · rw [decide_eq_true hlt, brn_true]
      obtain ⟨R, h1, h2⟩ := minus_trim (m := m') (a := b) (b := a) (by omega) (by omega)
      rw [h1, obnd_some, h2, obnd_some]
      refine ⟨m' && !decide (b - a = 0), ?_, ?_⟩
      · congr 3
        cases m <;> cases m' <;> simp [sw] at hm ⊢ <;> omega
      · cases m <;> cases m' <;> simp [sw] at hm ⊢
        · rw [decide_eq_false (by omega)]; simp; omega
        · omega
    · rw [decide_eq_false hlt, brn_false]
      obtain ⟨R, h1, h2⟩ := minus_trim (m := m) (a := a) (b := b) (by omega) (by omega)
      rw [h1, obnd_some, h2, obnd_some]
      refine ⟨m && !decide (a - b = 0), ?_, ?_⟩
      · congr 3
        cases m <;> cases m' <;> simp [sw] at hm ⊢ <;> omega
      · cases m <;> cases m' <;> simp [sw] at hm ⊢
        · omega
        · by_cases h : a - b = 0
          · rw [decide_eq_true h]; simp; omega
          · rw [decide_eq_false h]; simp; omega
theorem over_l2_is {b r : Nat} (hb0 : 0 < b) (hlb : (digs b).length ≤ 1000) (hlr : (digs r).length ≤ 1001) (hr : r < 10 * b) : ref7_over_l2J (digs b, digs r, 0) = some (digs (r % b), ((r / b : Nat) : Int)) := by
  obtain ⟨y, h1, h2⟩ := iter_ex (F := ref7_over_l2F) (fun x => 20 - x.2.2.toNat) (fun x => ∃ s n : Nat, x = (digs b, digs s, (n : Int)) ∧ s + n * b = r) (fun y => y = (digs (r % b), ((r / b : Nat) : Int))) (by
    rintro back x ⟨s, n, rfl, hs⟩ hb
    unfold ref7_over_l2F
    simp only at hb ⊢
    have hsr : s ≤ r := by omega
    have hls := digs_len_mono hsr
    have hn : n ≤ 9 := by
      apply Classical.byContradiction
      intro hn
      have : 10 * b ≤ n * b := Nat.mul_le_mul_right b (by omega)
      omega
    rw [lessD_is (by omega) (by omega), obnd_some]
    by_cases hlt : s < b
    · rw [decide_eq_true hlt, Bool.not_true, brn_false]
      refine ⟨_, rfl, ?_⟩
      have e1 : r / b = n := by
        rw [← hs, Nat.add_mul_div_right _ _ hb0, Nat.div_eq_of_lt hlt]; omega
      have e2 : r % b = s := by
        rw [← hs, Nat.add_mul_mod_self_right, Nat.mod_eq_of_lt hlt]
      rw [e1, e2]
    · rw [decide_eq_false hlt, Bool.not_false, brn_true]
      obtain ⟨R, h1, h2⟩ := minus_trim (m := false) (a := s) (b := b) (by omega) (by omega)
      have hn9 : n ≤ 8 := by
        apply Classical.byContradiction
        intro hn
        have : 9 * b ≤ n * b := Nat.mul_le_mul_right b (by omega)
        omega
      rw [h1, obnd_some, h2, obnd_some, i64_in (by omega) (by omega)]
      refine hb _ ⟨s - b, n + 1, rfl, ?_⟩ (by simp only; omega)
      rw [Nat.add_mul]; omega) (digs b, digs r, 0) ⟨r, 0, rfl, by omega⟩ (by simp only; omega)
  subst h2; exact h1
theorem digs_cons_len {r d k : Nat} (h : (digs r).length ≤ k) (hd : d ≤ 9) : (digs (d + 10 * r)).length ≤ k + 1 := by
  have h1 := digs_len_lt h
  refine digs_len_le _ _ ?_
  rw [Nat.pow_succ]
  omega
theorem overD_is {a b : Nat} (hb0 : 0 < b) (hla : (digs a).length ≤ 1000) (hlb : (digs b).length ≤ 1000) : ref7_overF (digs a, digs b) = some (digs (a / b), decide (b ≤ 2 * (a % b)), decide (a % b ≠ 0)) := by
  have hA := digs_dig a
  unfold ref7_overF
  simp only
  rw [i64_in (by omega) (by omega)]
  have key : ∃ y, ref7_over_l1J (digs a, digs b, [], [], ((digs a).length : Int) - 1) = some y ∧ (∃ q, y = (q, digs (a % b)) ∧ isDig q ∧ q.length ≤ 1000 ∧ vd q = a / b) := by
    refine iter_ex (F := ref7_over_l1F) (fun x => (x.2.2.2.2 + 1).toNat) (fun x => ∃ (q : List Int) (r k : Nat), x = (digs a, digs b, q, digs r, (k : Int) - 1) ∧ isDig q ∧ k ≤ (digs a).length ∧ q.length + k = (digs a).length ∧ r < b ∧ vd ((digs a).drop k) = vd q * b + r) _ ?_ _ ⟨[], 0, (digs a).length, by rw [digs_zero], isDig_nil, by omega, by simp, hb0, by simp [vd]⟩ (by simp only; omega)
    rintro back x ⟨q, r, k, rfl, hq, hk, hlq, hr, hv⟩ hb
    unfold ref7_over_l1F
    simp only at hb ⊢
    cases k with
    | zero =>
      rw [decide_eq_false (by omega), brn_false]
      simp only [List.drop_zero, vd_digs] at hv
      refine ⟨_, rfl, q, ?_, hq, by omega, ?_⟩
      · rw [hv, Nat.add_comm, Nat.add_mul_mod_self_right, Nat.mod_eq_of_lt hr]
      · rw [hv, Nat.add_comm, Nat.add_mul_div_right _ _ hb0, Nat.div_eq_of_lt hr]; omega
    | succ k =>
      have hrl : (digs r).length ≤ (digs b).length := digs_len_mono (by omega)
      rw [decide_eq_true (by omega), brn_true, show (((k + 1 : Nat) : Int) - 1) = (k : Int) by omega, idxI (digs_get k a (by omega)), obnd_some, appS (by simp; omega), obnd_some]
      have hd : isDig ([((a / 10 ^ k % 10 : Nat) : Int)] ++ digs r) := isDig_append.2 ⟨isDig_cons.2 ⟨by omega, isDig_nil⟩, digs_dig r⟩
      have hvd : vd ([((a / 10 ^ k % 10 : Nat) : Int)] ++ digs r) = a / 10 ^ k % 10 + 10 * r := by
        simp only [List.singleton_append, vd, vd_digs, Int.toNat_natCast]
      rw [trim_is hd (by simp; omega), obnd_some, hvd]
      simp only
      have hlen : (digs (a / 10 ^ k % 10 + 10 * r)).length ≤ 1001 := digs_cons_len (by omega) (by omega)
      have hr10 : a / 10 ^ k % 10 + 10 * r < 10 * b := by omega
      rw [over_l2_is hb0 hlb hlen hr10, obnd_some]
      simp only
      have hq9 : (a / 10 ^ k % 10 + 10 * r) / b ≤ 9 := by
        have := (Nat.div_lt_iff_lt_mul hb0).2 hr10
        omega
      rw [appS (by simp; omega), obnd_some, i64_in (by omega) (by omega)]
      refine hb _ ⟨_, (a / 10 ^ k % 10 + 10 * r) % b, k, rfl, isDig_append.2 ⟨isDig_cons.2 ⟨⟨Int.natCast_nonneg _, by exact_mod_cast hq9⟩, isDig_nil⟩, hq⟩, by omega, by simp; omega, Nat.mod_lt _ hb0, ?_⟩ (by simp only; omega)
      have ea : at0 (digs a) k = ((a / 10 ^ k % 10 : Nat) : Int) := by unfold at0; rw [digs_get k a (by omega)]; rfl
      rw [vd_drop, ea, hv]
      simp only [List.singleton_append, vd, Int.toNat_natCast]
      generalize a / 10 ^ k % 10 = d at *
      have hdm := Nat.div_add_mod (d + 10 * r) b
      rw [Nat.add_mul, Nat.mul_assoc 10, Nat.mul_comm ((d + 10 * r) / b) b]
      omega
  obtain ⟨y, h1, q, rfl, h2, h3, h4⟩ := key
  have hmb : a % b < b := Nat.mod_lt _ hb0
  have hml : (digs (a % b)).length ≤ 1000 := Nat.le_trans (digs_len_mono (by omega)) hlb
  have hml2 := digs_add_len hml hml
  rw [h1, obnd_some]
  simp only
  rw [trim_is h2 (by omega), obnd_some, plus_digs (by omega) (by omega), obnd_some, lessD_is (by omega) (by omega), obnd_some, h4]
  simp only
  congr 3
  · rw [← decide_not, decide_eq_decide]; omega
  · rw [decide_eq_decide]
    have := digs_nil (n := a % b)
    omega
theorem strip_scale (v : Int) (p : Nat) : ∀ k, strip (v * 10 ^ k) (p + k) = strip v p
  | 0 => by simp
  | k + 1 => by
    have e : v * 10 ^ (k + 1) = v * 10 ^ k * 10 := by rw [Int.pow_succ, Int.mul_assoc]
    rw [e, ← Nat.add_assoc]
    conv => lhs; unfold strip
    rw [if_pos (Int.mul_emod_left _ _), Int.mul_ediv_cancel _ (by omega)]
    exact strip_scale v p k
theorem decV_scale (v : Int) (p k : Nat) : decV (v * 10 ^ k) (p + k) = decV v p := by
  unfold decV; rw [strip_scale]
theorem Vx {M : Int} {s p : Nat} (hs : s ≤ p) (hp : p ≤ 9) : V ⟨M, (s : Int)⟩ = M * 10 ^ (p - s) * 10 ^ (9 - p) := by
  show M * 10 ^ (9 - (s : Int).toNat) = _
  rw [Int.toNat_natCast, Int.mul_assoc, ← Int.pow_add, show p - s + (9 - p) = 9 - s by omega]
theorem sw_up (M : Int) (k : Nat) : sw ((M.natAbs * 10 ^ k : Nat) : Int) (decide (M < 0)) = M * 10 ^ k := by
  have e : ((M.natAbs * 10 ^ k : Nat) : Int) = (M.natAbs : Int) * 10 ^ k := by rw [Int.natCast_mul, pow_cast]
  rw [e, sw_mul_pos, natAbs_sw]
theorem len19 {M : Int} (h : I64 M) : (digs M.natAbs).length ≤ 19 := digs_len_le 19 _ (by unfold I64 at h; omega)
theorem digs_up_len {n j : Nat} (k : Nat) (h : (digs n).length ≤ j) : (digs (n * 10 ^ k)).length ≤ j + k := by
  have h1 := digs_len_lt h
  refine digs_len_le _ _ ?_
  rw [Nat.pow_add]
  exact Nat.mul_lt_mul_of_pos_right h1 (Nat.pow_pos (by omega))
theorem alike_is {M N : Int} {s t : Nat} (hM : I64 M) (hN : I64 N) (hs : s ≤ 9) (ht : t ≤ 9) : ref7_alikeF (⟨M, (s : Int)⟩, ⟨N, (t : Int)⟩) =
    some (⟨decide (M < 0), digs (M.natAbs * 10 ^ (max s t - s))⟩, ⟨decide (N < 0), digs (N.natAbs * 10 ^ (max s t - t))⟩, ((max s t : Nat) : Int)) := by
  have l1 := len19 hM
  have l2 := len19 hN
  unfold ref7_alikeF
  simp only
  rw [bigP_is hM, obnd_some, bigP_is hN, obnd_some]
  by_cases h : s < t
  · rw [decide_eq_true (by omega), brn_true, i64_in (by omega) (by omega), show (t : Int) - (s : Int) = ((t - s : Nat) : Int) by omega, up_big_is (by omega) (by omega), obnd_some, show max s t = t by omega, Nat.sub_self, Nat.pow_zero, Nat.mul_one]
  · rw [decide_eq_false (by omega), brn_false, i64_in (by omega) (by omega), show (s : Int) - (t : Int) = ((s - t : Nat) : Int) by omega, up_big_is (by omega) (by omega), obnd_some, show max s t = s by omega, Nat.sub_self, Nat.pow_zero, Nat.mul_one]
theorem diff_is {a b : Nat} {m m' : Bool} (hl : (digs a).length ≤ 1000) (hl2 : (digs b).length ≤ 1000) :
    ∃ m'', (brn (!m') (obnd (ref7_addF (⟨m, digs a⟩, { Minus := decide (0 < ((digs b).length : Int)), D := digs b })) fun y => some y) (obnd (ref7_addF (⟨m, digs a⟩, { Minus := false, D := digs b })) fun y => some y)) = some (⟨m'', digs (sw a m - sw b m').natAbs⟩ : Big) ∧ sw (sw (a : Int) m - sw b m').natAbs m'' = sw a m - sw b m' := by
  cases m'
  · obtain ⟨m'', h1, h2⟩ := add_is (a := a) (b := b) (m := m) (m' := decide (0 < ((digs b).length : Int))) hl hl2
    have e : sw (b : Int) (decide (0 < ((digs b).length : Int))) = - sw (b : Int) false := by
      by_cases hb : b = 0
      · subst hb; rw [digs_zero]; rfl
      · have := mt digs_nil.1 hb
        rw [decide_eq_true (by omega)]; rfl
    rw [e, ← Int.sub_eq_add_neg] at h1 h2
    exact ⟨m'', by rw [Bool.not_false, brn_true, h1]; rfl, h2⟩
  · obtain ⟨m'', h1, h2⟩ := add_is (a := a) (b := b) (m := m) (m' := false) hl hl2
    have e : sw (b : Int) false = - sw (b : Int) true := by simp [sw]
    rw [e, ← Int.sub_eq_add_neg] at h1 h2
    exact ⟨m'', by rw [Bool.not_true, brn_false, h1]; rfl, h2⟩
section
variable {M N : Int} {s t : Nat} (hM : I64 M) (hN : I64 N) (hs : s ≤ 9) (ht : t ≤ 9)
include hM hN hs ht
theorem x_len : (digs (M.natAbs * 10 ^ (max s t - s))).length ≤ 28 ∧ (digs (N.natAbs * 10 ^ (max s t - t))).length ≤ 28 := by
  have h1 := digs_up_len (max s t - s) (len19 hM)
  have h2 := digs_up_len (max s t - t) (len19 hN)
  omega
theorem sum_len (v : Int) (hv : v = M * 10 ^ (max s t - s) + N * 10 ^ (max s t - t) ∨ v = M * 10 ^ (max s t - s) - N * 10 ^ (max s t - t)) : (digs v.natAbs).length ≤ 29 := by
  obtain ⟨h1, h2⟩ := x_len hM hN hs ht
  have h3 := digs_add_len h1 h2
  refine Nat.le_trans (digs_len_mono ?_) h3
  have e1 : (M * 10 ^ (max s t - s)).natAbs = M.natAbs * 10 ^ (max s t - s) := by rw [Int.natAbs_mul, Int.natAbs_pow]; rfl
  have e2 : (N * 10 ^ (max s t - t)).natAbs = N.natAbs * 10 ^ (max s t - t) := by rw [Int.natAbs_mul, Int.natAbs_pow]; rfl
  rw [← e1, ← e2]
  omega
theorem refAdd_is : ref7_AddDecF (⟨M, (s : Int)⟩, ⟨N, (t : Int)⟩) = some (decV (V ⟨M, (s : Int)⟩ + V ⟨N, (t : Int)⟩) 9) := by
  obtain ⟨h1, h2⟩ := x_len hM hN hs ht
  unfold ref7_AddDecF
  rw [alike_is hM hN hs ht, obnd_some]
  simp only
  obtain ⟨m'', h3, h4⟩ := add_is (m := decide (M < 0)) (m' := decide (N < 0)) (show (digs (M.natAbs * 10 ^ (max s t - s))).length ≤ 1000 by omega) (show (digs (N.natAbs * 10 ^ (max s t - t))).length ≤ 1000 by omega)
  rw [sw_up, sw_up] at h3 h4
  have h5 := sum_len hM hN hs ht _ (.inl rfl)
  rw [h3, obnd_some, small_is (by omega) (by omega), h4, obnd_some, Vx (p := max s t) (by omega) (by omega), Vx (M := N) (p := max s t) (by omega) (by omega), ← Int.add_mul]
  have := decV_scale (M * 10 ^ (max s t - s) + N * 10 ^ (max s t - t)) (max s t) (9 - max s t)
  rw [show max s t + (9 - max s t) = 9 by omega] at this
  rw [this]
theorem refCompare_is : ref7_CompareDecF (⟨M, (s : Int)⟩, ⟨N, (t : Int)⟩) = some (cmpV (V ⟨M, (s : Int)⟩) (V ⟨N, (t : Int)⟩)) := by
  obtain ⟨h1, h2⟩ := x_len hM hN hs ht
  unfold ref7_CompareDecF
  rw [alike_is hM hN hs ht, obnd_some]
  simp only
  obtain ⟨m'', h3, h4⟩ := diff_is (m := decide (M < 0)) (m' := decide (N < 0)) (show (digs (M.natAbs * 10 ^ (max s t - s))).length ≤ 1000 by omega) (show (digs (N.natAbs * 10 ^ (max s t - t))).length ≤ 1000 by omega)
  rw [sw_up, sw_up] at h3 h4
  have hp : (0 : Int) < 10 ^ (9 - max s t) := Int.pow_pos (by omega)
  have hV : cmpV (V ⟨M, (s : Int)⟩) (V ⟨N, (t : Int)⟩) = cmpV (M * 10 ^ (max s t - s)) (N * 10 ^ (max s t - t)) := by
    rw [Vx (p := max s t) (by omega) (by omega), Vx (M := N) (p := max s t) (by omega) (by omega)]
    unfold cmpV
    have e1 := fun (x y : Int) => (show x * 10 ^ (9 - max s t) < y * 10 ^ (9 - max s t) ↔ x < y from ⟨fun h => Int.lt_of_mul_lt_mul_right h (Int.le_of_lt hp), fun h => Int.mul_lt_mul_of_pos_right h hp⟩)
    simp only [e1]
  rw [hV]
  generalize M * 10 ^ (max s t - s) = x at *
  generalize N * 10 ^ (max s t - t) = y at *
  have fin : brn (decide (((digs (x - y).natAbs).length : Int) = 0)) (some 0) (brn m'' (some (-1)) (some 1)) = some (cmpV x y) := by
    unfold cmpV
    have hz := digs_nil (n := (x - y).natAbs)
    by_cases h0 : x - y = 0
    · rw [decide_eq_true (by omega), brn_true, if_neg (by omega), if_neg (by omega)]
    · rw [decide_eq_false (by omega), brn_false]
      cases m''
      · rw [brn_false]; simp only [sw, cond_false] at h4; rw [if_neg (by omega), if_pos (by omega)]
      · rw [brn_true]; simp only [sw, cond_true] at h4; rw [if_pos (by omega)]
  by_cases hn : N < 0
  · rw [decide_eq_true hn] at h3 ⊢
    rw [Bool.not_true, brn_false] at h3 ⊢
    cases hq : ref7_addF (⟨decide (M < 0), digs (M.natAbs * 10 ^ (max s t - s))⟩, { Minus := false, D := digs (N.natAbs * 10 ^ (max s t - t)) }) with
    | none => rw [hq] at h3; simp at h3
    | some z => rw [hq, obnd_some] at h3; rw [obnd_some]; rw [Option.some.inj h3]; exact fin
  · rw [decide_eq_false hn] at h3 ⊢
    rw [Bool.not_false, brn_true] at h3 ⊢
    cases hq : ref7_addF (⟨decide (M < 0), digs (M.natAbs * 10 ^ (max s t - s))⟩, { Minus := decide (0 < ((digs (N.natAbs * 10 ^ (max s t - t))).length : Int)), D := digs (N.natAbs * 10 ^ (max s t - t)) }) with
    | none => rw [hq] at h3; simp at h3
    | some z => rw [hq, obnd_some] at h3; rw [obnd_some]; rw [Option.some.inj h3]; exact fin
end
def rdN (v n : Nat) : Nat := if n ≤ 2 * (v % n) then v / n + 1 else v / n
theorem rdN_cast (v n : Nat) : (rdN v n : Int) = rdiv v n := by
  unfold rdN rdiv
  by_cases h : n ≤ 2 * (v % n)
  · rw [if_pos h, if_pos (by omega)]; simp
  · rw [if_neg h, if_neg (by omega)]; simp
theorem rdN_scale {v n c : Nat} (hc : 0 < c) : rdN (v * c) (n * c) = rdN v n := by
  unfold rdN
  rw [Nat.mul_div_mul_right _ _ hc, Nat.mul_mod_mul_right, ← Nat.mul_assoc]
  have : n * c ≤ 2 * (v % n) * c ↔ n ≤ 2 * (v % n) := Nat.mul_le_mul_right_iff hc
  simp only [this]
theorem rdN_len {v n j : Nat} (h : (digs v).length ≤ j) : (digs (rdN v n)).length ≤ j + 2 := by
  have h1 : (digs (v + 1)).length ≤ j + 1 + 1 := digs_add_len (k := j + 1) (by omega) (by
    have := digs_len_le 1 1 (by omega); omega)
  refine Nat.le_trans (digs_len_mono ?_) h1
  have := Nat.div_le_self v n
  unfold rdN; split <;> omega
section
variable {M N : Int} {s t : Nat} (hM : I64 M) (hN : I64 N) (hs : s ≤ 9) (ht : t ≤ 9)
def sgnP (M N : Int) : Bool := !decide (decide (M < 0) = decide (N < 0))
include hM hN hs ht
theorem refDiv_is (hN0 : N ≠ 0) : ref7_DivDecF (⟨M, (s : Int)⟩, ⟨N, (t : Int)⟩) = some (decV (sw (rdN (M.natAbs * 10 ^ (9 - s + t)) N.natAbs) (sgnP M N)) 9) := by
  obtain ⟨h1, h2⟩ := x_len hM hN hs ht
  unfold ref7_DivDecF
  simp only
  rw [decide_eq_false hN0, brn_false, alike_is hM hN hs ht, obnd_some]
  simp only
  have hc : 0 < 10 ^ (max s t - t) := Nat.pow_pos (by omega)
  have hY : 0 < N.natAbs * 10 ^ (max s t - t) := Nat.mul_pos (by omega) hc
  have l3 := digs_up_len 9 h1
  have eX : M.natAbs * 10 ^ (max s t - s) * 10 ^ 9 = M.natAbs * 10 ^ (9 - s + t) * 10 ^ (max s t - t) := by
    rw [Nat.mul_assoc, Nat.mul_assoc, ← Nat.pow_add, ← Nat.pow_add]
    congr 2; omega
  have eR := rdN_scale (v := M.natAbs * 10 ^ (9 - s + t)) (n := N.natAbs) hc
  rw [← eX] at eR
  rw [show (9 : Int) = ((9 : Nat) : Int) from rfl, up_big_is (by omega) (by omega), obnd_some]
  simp only
  rw [overD_is hY (by omega) (by omega), obnd_some]
  simp only
  rw [← eR]
  generalize M.natAbs * 10 ^ (max s t - s) * 10 ^ 9 = X at *
  generalize N.natAbs * 10 ^ (max s t - t) = Y at *
  have l4 := rdN_len (n := Y) l3
  have l5 := digs_len_mono (Nat.div_le_self X Y)
  have d1 : ([1] : List Int) = digs 1 := by rw [digs_pos (by omega)]; simp [digs_zero]
  have fin : ∀ q : Nat, q = rdN X Y → (obnd (ref7_trimF { Minus := !decide (decide (M < 0) = decide (N < 0)), D := digs q }) fun y => obnd (ref7_smallF (y, ((9 : Nat) : Int))) fun y => some y) = some (decV (sw (rdN X Y) (sgnP M N)) 9) := fun q hq => by
    subst hq
    rw [trim_is (digs_dig _) (by omega), obnd_some, vd_digs, small_is (by omega) (by omega), obnd_some, sw_and]; rfl
  by_cases hh : Y ≤ 2 * (X % Y)
  · rw [decide_eq_true hh, brn_true, d1, plus_digs (by omega) (by have := digs_len_le 1 1 (by omega); omega), obnd_some]
    exact fin _ (by unfold rdN; rw [if_pos hh])
  · rw [decide_eq_false hh, brn_false]
    exact fin _ (by unfold rdN; rw [if_neg hh])
theorem prodDiv_is (hN0 : N ≠ 0) : dec_DivF (⟨M, (s : Int)⟩, ⟨N, (t : Int)⟩) = some (decV (sw (rdN (M.natAbs * 10 ^ (9 - s + t)) N.natAbs) (sgnP M N)) 9) := by
  have hA := hM
  have hB := hN
  have hV := V_le (d := ⟨M, (s : Int)⟩) hM
  unfold I64 at hA hB
  unfold dec_DivF
  simp only
  have lo : (W N.natAbs (decide (N < 0))).lo = N.natAbs := by
    show (N.natAbs : Int) % 18446744073709551616 = N.natAbs
    omega
  have eV : ((V ⟨M, (s : Int)⟩).natAbs : Int) * 10 ^ t = ((M.natAbs * 10 ^ (9 - s + t) : Nat) : Int) := by
    show (((M * 10 ^ (9 - (s : Int).toNat)).natAbs : Nat) : Int) * 10 ^ t = _
    rw [Int.natAbs_mul, Int.natAbs_pow, Int.toNat_natCast, Int.natCast_mul, Int.natCast_mul, pow_cast, Int.pow_add, Int.mul_assoc]
    rfl
  have hb : ((M.natAbs * 10 ^ (9 - s + t) : Nat) : Int) ≤ 9223372036854775808 * 1000000000000000000 := by
    rw [Int.natCast_mul, pow_cast]
    have h2 : (10 : Int) ^ (9 - s + t) ≤ 10 ^ 18 := by
      have := Nat.pow_le_pow_right (n := 10) (by omega) (show 9 - s + t ≤ 18 by omega)
      have h3 := Int.ofNat_le.2 this
      rw [pow_cast, pow_cast] at h3
      exact h3
    exact mul_le (by omega) (Int.le_of_lt (Int.pow_pos (by omega))) (by omega) h2
  rw [decide_eq_false hN0, brn_false, of_is hN, obnd_some, scaled_is (d := ⟨M, (s : Int)⟩) hM (by simp only; omega) (by simp only; omega), obnd_some, power_is (by omega), obnd_some,
    times_is (inV (d := ⟨M, (s : Int)⟩) hM) (by have := pow10_le (show t ≤ 19 by omega); omega) (by have := pow10_le (show t ≤ 19 by omega); omega) (by rw [eV]; exact ⟨by omega, by omega⟩), obnd_some, lo, eV]
  have e1 : dec_wide_roundF ({ hi := (W ((M.natAbs * 10 ^ (9 - s + t) : Nat) : Int) (decide (V ⟨M, (s : Int)⟩ < 0))).hi, lo := (W ((M.natAbs * 10 ^ (9 - s + t) : Nat) : Int) (decide (V ⟨M, (s : Int)⟩ < 0))).lo, minus := !decide ((W ((M.natAbs * 10 ^ (9 - s + t) : Nat) : Int) (decide (V ⟨M, (s : Int)⟩ < 0))).minus = (W N.natAbs (decide (N < 0))).minus) }, (N.natAbs : Int)) =
      some (W (rdiv ((M.natAbs * 10 ^ (9 - s + t) : Nat) : Int) N.natAbs) (!decide (decide (V ⟨M, (s : Int)⟩ < 0) = decide (N < 0)))) := (round_is (by omega) (by omega) (by omega) (by omega)).1
  have hw := (round_is (v := ((M.natAbs * 10 ^ (9 - s + t) : Nat) : Int)) (n := N.natAbs) (m := true) (by omega) (by omega) (by omega) (by omega)).2
  rw [e1, obnd_some, show (9 : Int) = ((9 : Nat) : Int) from rfl, wdec_is hw (by omega), obnd_some, ← rdN_cast, V_neg]
  rfl
end
theorem okInt (n : Int) : okD ⟨n, 0⟩ := ⟨by simp, by simp, fun h => by simp at h⟩
end Go.Proofs.YtdgpkbnnljblmaaGreatDoor
