/- QQ -/
import Derived.Test.YtdgpkbnnljblmaaGreatDoorPP
namespace Go.Proofs.YtdgpkbnnljblmaaGreatDoor
open Go Go.Ev
def digs (n : Nat) : List Int := if h : n = 0 then [] else ((n % 10 : Nat) : Int) :: digs (n / 10)
termination_by n
decreasing_by omega
theorem digs_zero : digs 0 = [] := by rw [digs]; rfl
theorem digs_pos {n : Nat} (h : n ≠ 0) : digs n = ((n % 10 : Nat) : Int) :: digs (n / 10) := by
  conv => lhs; rw [digs]
  rw [dif_neg h]
def vd : List Int → Nat
  | [] => 0
  | d :: D => d.toNat + 10 * vd D
def isDig (D : List Int) : Prop := ∀ d ∈ D, 0 ≤ d ∧ d ≤ 9
theorem isDig_cons {d : Int} {D : List Int} : isDig (d :: D) ↔ (0 ≤ d ∧ d ≤ 9) ∧ isDig D := by simp [isDig]
theorem isDig_nil : isDig [] := by simp [isDig]
theorem isDig_append {D E : List Int} : isDig (D ++ E) ↔ isDig D ∧ isDig E := by
  simp only [isDig, List.mem_append]
  exact ⟨fun h => ⟨fun d hd => h d (.inl hd), fun d hd => h d (.inr hd)⟩, fun h d hd => hd.elim (h.1 d) (h.2 d)⟩
theorem isDig_drop {D : List Int} (h : isDig D) (n : Nat) : isDig (D.drop n) := fun d hd => h d (List.mem_of_mem_drop hd)
theorem isDig_take {D : List Int} (h : isDig D) (n : Nat) : isDig (D.take n) := fun d hd => h d (List.mem_of_mem_take hd)
theorem vd_append : ∀ (D E : List Int), vd (D ++ E) = vd D + 10 ^ D.length * vd E
  | [], E => by simp [vd]
  | d :: D, E => by
    simp only [List.cons_append, vd, vd_append D E, List.length_cons, Nat.pow_succ]
    rw [Nat.mul_add, Nat.mul_comm (10 ^ D.length) 10, Nat.mul_assoc]
    omega
theorem vd_lt : ∀ {D : List Int}, isDig D → vd D < 10 ^ D.length
  | [], _ => by simp [vd]
  | d :: D, h => by
    obtain ⟨h1, h2⟩ := isDig_cons.1 h
    have := vd_lt h2
    simp only [vd, List.length_cons, Nat.pow_succ]
    omega
theorem digs_dig : ∀ (n : Nat), isDig (digs n) := by
  intro n
  induction n using Nat.strongRecOn with
  | _ n ih =>
    by_cases h : n = 0
    · subst h; rw [digs_zero]; exact isDig_nil
    · rw [digs_pos h]
      exact isDig_cons.2 ⟨by omega, ih _ (by omega)⟩
theorem vd_digs : ∀ (n : Nat), vd (digs n) = n := by
  intro n
  induction n using Nat.strongRecOn with
  | _ n ih =>
    by_cases h : n = 0
    · subst h; rw [digs_zero]; rfl
    · rw [digs_pos h]
      simp only [vd]
      rw [ih _ (by omega)]
      omega
theorem digs_len_le : ∀ (k n : Nat), n < 10 ^ k → (digs n).length ≤ k
  | 0, n, h => by
    have : n = 0 := by simp at h; omega
    subst this; rw [digs_zero]; simp
  | k + 1, n, h => by
    by_cases h0 : n = 0
    · subst h0; rw [digs_zero]; simp
    · rw [digs_pos h0]
      have := digs_len_le k (n / 10) (by rw [Nat.pow_succ] at h; omega)
      simp; omega
theorem digs_len_lt {k n : Nat} (h : (digs n).length ≤ k) : n < 10 ^ k := by
  have h1 := vd_lt (digs_dig n)
  rw [vd_digs] at h1
  exact Nat.lt_of_lt_of_le h1 (Nat.pow_le_pow_right (by omega) h)
theorem digs_nil {n : Nat} : (digs n).length = 0 ↔ n = 0 := by
  constructor
  · intro h; have := digs_len_lt (n := n) (k := 0) (by omega); simpa using this
  · intro h; subst h; rw [digs_zero]; rfl
def rtrim : List Int → List Int
  | [] => []
  | d :: D => match rtrim D with
    | [] => if d = 0 then [] else [d]
    | e :: E => d :: e :: E
theorem rtrim_eq : ∀ {D : List Int}, isDig D → rtrim D = digs (vd D)
  | [], _ => by simp [rtrim, vd, digs_zero]
  | d :: D, h => by
    obtain ⟨h1, h2⟩ := isDig_cons.1 h
    have ih := rtrim_eq h2
    simp only [rtrim, vd]
    by_cases hv : vd D = 0
    · rw [ih, hv, digs_zero]
      simp only
      by_cases hd : d = 0
      · subst hd; simp [digs_zero]
      · rw [if_neg hd, digs_pos (by omega), show (d.toNat + 10 * 0) / 10 = 0 by omega, digs_zero]
        congr 1; omega
    · rw [ih, digs_pos hv]
      simp only
      rw [← digs_pos hv, digs_pos (n := d.toNat + 10 * vd D) (by omega), show (d.toNat + 10 * vd D) / 10 = vd D by omega]
      congr 1; omega
theorem rtrim_snoc_zero : ∀ (D : List Int), rtrim (D ++ [0]) = rtrim D
  | [] => by simp [rtrim]
  | d :: D => by simp only [List.cons_append, rtrim, rtrim_snoc_zero D]
theorem rtrim_snoc_ne {x : Int} (hx : x ≠ 0) : ∀ (D : List Int), rtrim (D ++ [x]) = D ++ [x]
  | [] => by simp [rtrim, hx]
  | d :: D => by
    simp only [List.cons_append, rtrim, rtrim_snoc_ne hx D]
    cases D <;> simp
theorem rtrim_len : ∀ (D : List Int), (rtrim D).length ≤ D.length
  | [] => by simp [rtrim]
  | d :: D => by
    have := rtrim_len D
    simp only [rtrim]
    split
    · split <;> simp
    · rename_i e E h; rw [h] at this; simp only [List.length_cons] at *; omega
theorem rtrim_take : ∀ (D : List Int), rtrim D = D.take (rtrim D).length
  | [] => by simp [rtrim]
  | d :: D => by
    have ih := rtrim_take D
    simp only [rtrim]
    split
    · split <;> simp
    · rename_i e E h
      rw [h] at ih
      simp only [List.length_cons] at ih ⊢
      rw [List.take_succ_cons, ← ih]
theorem digs_drop : ∀ (k n : Nat), (digs n).drop k = digs (n / 10 ^ k)
  | 0, n => by simp
  | k + 1, n => by
    by_cases h : n = 0
    · subst h; rw [digs_zero]; simp [digs_zero]
    · rw [digs_pos h, List.drop_succ_cons, digs_drop k, Nat.div_div_eq_div_mul, Nat.pow_succ, Nat.mul_comm]
theorem digs_get : ∀ (k n : Nat), k < (digs n).length → (digs n)[k]? = some ((n / 10 ^ k % 10 : Nat) : Int)
  | 0, n, h => by
    by_cases h0 : n = 0
    · subst h0; rw [digs_zero] at h; simp at h
    · rw [digs_pos h0]; simp
  | k + 1, n, h => by
    by_cases h0 : n = 0
    · subst h0; rw [digs_zero] at h; simp at h
    · rw [digs_pos h0] at h ⊢
      simp only [List.length_cons, List.getElem?_cons_succ] at h ⊢
      rw [digs_get k _ (by omega), Nat.div_div_eq_div_mul, Nat.pow_succ, Nat.mul_comm]
theorem idxI {D : List Int} {k : Nat} {v : Int} (h : D[k]? = some v) : idx D (k : Int) = some v := by
  simp [idx, h]
theorem appS {xs ys : List Int} (h : xs.length + ys.length ≤ 10000) : app 8 xs ys = some (xs ++ ys) := by
  have : Nat.ble ((xs.length + ys.length) * 8) 140737488355328 = true := Nat.ble_eq_true_of_le (by omega)
  simp [app, this]
theorem subS {D : List Int} {k : Nat} (h : k ≤ D.length) : sub D (k : Int) (D.length : Int) = some (D.drop k) := by
  simp [sub, h]
theorem iter_exn {X Y : Type} {F : (X → Option Y) → X → Option Y} (m : X → Nat) (Inv : X → Prop) (Post : Y → Prop)
    (h : ∀ back x, Inv x → (∀ x', Inv x' → m x' < m x → ∃ y, back x' = some y ∧ Post y) → ∃ y, F back x = some y ∧ Post y) : ∀ n x, Inv x → m x < n → ∃ y, iter F n x = some y ∧ Post y
  | 0, _, _, h0 => by omega
  | n + 1, x, hp, hn => by
    rw [iter_succ]
    exact h _ x hp fun x' hp' hm => iter_exn m Inv Post h n x' hp' (by omega)
theorem iter_ex {X Y : Type} {F : (X → Option Y) → X → Option Y} (m : X → Nat) (Inv : X → Prop) (Post : Y → Prop)
    (h : ∀ back x, Inv x → (∀ x', Inv x' → m x' < m x → ∃ y, back x' = some y ∧ Post y) → ∃ y, F back x = some y ∧ Post y) (x : X) (hx : Inv x) (hm : m x < 9223372036854775808) : ∃ y, iter F big x = some y ∧ Post y :=
  iter_exn m Inv Post h _ x hx (by rw [big_pos]; omega)
theorem trim_l1_is {D : List Int} {m : Bool} (hl : D.length < 10000) : ref7_trim_l1J (⟨m, D⟩, (D.length : Int)) = some ((rtrim D).length : Int) := by
  obtain ⟨y, h1, h2⟩ := iter_ex (F := ref7_trim_l1F) (fun x => x.2.toNat) (fun x => x.1 = ⟨m, D⟩ ∧ ∃ k, k ≤ D.length ∧ x.2 = (k : Int) ∧ rtrim (D.take k) = rtrim D) (fun y => y = ((rtrim D).length : Int)) (by
    rintro back ⟨b, i⟩ ⟨rfl, k, hk, rfl, hr⟩ hb
    unfold ref7_trim_l1F
    simp only at hb ⊢
    cases k with
    | zero =>
      simp only [List.take_zero, rtrim] at hr
      refine ⟨0, ?_, by rw [← hr]; rfl⟩
      simp
    | succ k =>
      have hk' : k < D.length := by omega
      rw [decide_eq_true (show (0 : Int) < ((k + 1 : Nat) : Int) by omega), brn_true, i64_in (by omega) (by omega), show (((k + 1 : Nat) : Int) - 1) = (k : Int) by omega, idxI (v := D[k]) (List.getElem?_eq_getElem hk'), obnd_some]
      have ht : D.take (k + 1) = D.take k ++ [D[k]] := by rw [List.take_add_one, List.getElem?_eq_getElem hk']; rfl
      by_cases hz : D[k] = 0
      · rw [decide_eq_true hz, brn_true]
        refine hb _ ⟨rfl, k, by omega, rfl, ?_⟩ (by simp only [Int.toNat_natCast]; omega)
        rw [← hr, ht, hz, rtrim_snoc_zero]
      · rw [decide_eq_false hz, brn_false]
        refine ⟨_, rfl, ?_⟩
        rw [← hr, ht, rtrim_snoc_ne hz]
        simp; omega) (⟨m, D⟩, (D.length : Int)) ⟨rfl, D.length, Nat.le_refl _, rfl, by rw [List.take_length]⟩ (by simp only [Int.toNat_natCast]; omega)
  subst h2; exact h1
theorem trim_is {D : List Int} {m : Bool} (hd : isDig D) (hl : D.length < 10000) : ref7_trimF ⟨m, D⟩ = some ⟨m && !decide (vd D = 0), digs (vd D)⟩ := by
  unfold ref7_trimF
  simp only
  rw [trim_l1_is hl, obnd_some]
  have h1 := rtrim_len D
  have h2 : sub D 0 ((rtrim D).length : Int) = some (rtrim D) := by
    simp only [sub]
    have : (decide ((0 : Int) ≤ 0) && decide ((0 : Int) ≤ ((rtrim D).length : Int)) && decide (((rtrim D).length : Int) ≤ (D.length : Int))) = true := by simp [h1]
    rw [this, cond_true]
    simp only [Int.toNat_natCast, Int.toNat_zero, List.drop_zero]
    rw [← rtrim_take]
  rw [h2, obnd_some]
  rw [rtrim_eq hd]
  by_cases hz : vd D = 0
  · rw [hz, digs_zero]; simp
  · have := mt digs_nil.1 hz
    rw [decide_eq_false (by omega), brn_false, decide_eq_false hz]; simp
theorem big_is {n : Int} (h : I64 n) : ref7_bigF n = some (digs n.natAbs, ⟨decide (n < 0), digs n.natAbs⟩) := by
  unfold I64 at h
  have key : ∀ (u : Nat) (m : Bool), u ≤ 9223372036854775808 → ref7_big_l1J ([], ⟨m, []⟩, (u : Int)) = some (digs u, ⟨m, digs u⟩) := fun u m hu => by
    have hlen : (digs u).length ≤ 19 := digs_len_le 19 u (by omega)
    obtain ⟨y, h1, h2⟩ := iter_ex (F := ref7_big_l1F) (fun x => (digs x.2.2.toNat).length) (fun x => x.2.1.Minus = m ∧ ∃ v : Nat, v ≤ 9223372036854775808 ∧ x.2.2 = (v : Int) ∧ x.1 ++ digs v = digs u) (fun y => y = (digs u, ⟨m, digs u⟩)) (by
      rintro back ⟨D, ⟨m', E⟩, i⟩ ⟨hm, v, hv, hi, hD⟩ hb
      simp only at hm hi hD
      subst hm; subst hi
      unfold ref7_big_l1F
      simp only at hb ⊢
      have hl : D.length + (digs v).length = (digs u).length := by rw [← hD]; simp
      by_cases hz : v = 0
      · subst hz
        rw [digs_zero, List.append_nil] at hD
        subst hD
        exact ⟨_, by simp, rfl⟩
      · have e1 : ((v : Int).tmod 10) = ((v % 10 : Nat) : Int) := by rw [Int.tmod_eq_emod_of_nonneg (by omega)]; omega
        have e2 : ((v : Int).tdiv 10) = ((v / 10 : Nat) : Int) := by rw [Int.tdiv_eq_ediv_of_nonneg (by omega)]; omega
        rw [digs_pos hz, List.length_cons] at hl
        rw [decide_eq_true (by omega), brn_true, e1, e2, i64_in (by omega) (by omega), u64_in (by omega) (by omega), appS (by simp; omega), obnd_some]
        refine hb _ ⟨rfl, v / 10, by omega, rfl, ?_⟩ ?_
        · rw [← hD, digs_pos hz, List.append_assoc]; rfl
        · simp only [Int.toNat_natCast]
          conv => rhs; rw [digs_pos hz]
          simp) ([], ⟨m, []⟩, (u : Int)) ⟨rfl, u, hu, rfl, rfl⟩ (by simp only [Int.toNat_natCast]; omega)
    subst h2; exact h1
  unfold ref7_bigF
  by_cases hn : n < 0
  · rw [decide_eq_true hn, brn_true, show IntKind.u64.wrap (0 - IntKind.u64.wrap n) = (n.natAbs : Int) by rw [u64, u64]; omega, key _ _ (by omega)]; rfl
  · rw [decide_eq_false hn, brn_false, show IntKind.u64.wrap n = (n.natAbs : Int) by rw [u64]; omega, key _ _ (by omega)]; rfl
theorem idx0 {D : List Int} {v : Int} (h : D[0]? = some v) : idx D 0 = some v := idxI (k := 0) h
theorem strip_step (v p : Nat) : strip (v : Int) (p + 1) = if v % 10 = 0 then strip ((v / 10 : Nat) : Int) p else ((v : Int), p + 1) := by
  conv => lhs; unfold strip
  by_cases h : v % 10 = 0
  · rw [if_pos (by omega), if_pos h]; rfl
  · rw [if_neg (by omega), if_neg h]
theorem small_l1_is {n p : Nat} {m : Bool} (hl : (digs n).length ≤ 5000) (hp : p ≤ 1000) : ref7_small_l1J ((p : Int), ⟨m, digs n⟩) = some (((strip n p).2 : Int), ⟨m, digs (strip n p).1.toNat⟩) := by
  obtain ⟨y, h1, h2⟩ := iter_ex (F := ref7_small_l1F) (fun x => x.1.toNat) (fun x => ∃ q v : Nat, q ≤ p ∧ (digs v).length ≤ 5000 ∧ x = ((q : Int), ⟨m, digs v⟩) ∧ strip v q = strip n p) (fun y => y = (((strip n p).2 : Int), ⟨m, digs (strip n p).1.toNat⟩)) (by
    rintro back x ⟨q, v, hq, hv, rfl, hs⟩ hb
    unfold ref7_small_l1F
    simp only at hb ⊢
    rw [← hs]
    cases q with
    | zero => exact ⟨(0, ⟨m, digs v⟩), by simp, by simp [strip]⟩
    | succ q =>
      rw [decide_eq_true (by omega), brn_true, i64_in (n := ((q + 1 : Nat) : Int) - 1) (by omega) (by omega), show (((q + 1 : Nat) : Int) - 1) = (q : Int) by omega]
      rw [strip_step]
      rw [strip_step] at hs
      by_cases hz : v = 0
      · subst hz
        rw [if_pos (by omega)] at hs ⊢
        have := hb ((q : Int), ⟨m, digs 0⟩) ⟨q, 0, by omega, hv, rfl, hs⟩ (by simp only [Int.toNat_natCast]; omega)
        rw [digs_zero] at this ⊢
        rw [hs]
        simpa using this
      · have hne := mt digs_nil.1 hz
        rw [decide_eq_false (by omega), brn_false, idx0 (v := ((v % 10 : Nat) : Int)) (by rw [digs_pos hz]; rfl), obnd_some]
        by_cases h0 : v % 10 = 0
        · rw [decide_eq_true (by omega), brn_true, decide_eq_true (by omega), brn_true]
          have hsub : sub (digs v) 1 ((digs v).length : Int) = some (digs (v / 10)) := by
            have := subS (D := digs v) (k := 1) (by omega)
            rw [digs_drop] at this
            simpa using this
          rw [hsub, obnd_some, if_pos h0]
          rw [if_pos h0] at hs
          have hl2 : (digs (v / 10)).length ≤ 5000 := by rw [digs_pos hz] at hv; simp at hv; omega
          rw [hs]
          exact hb ((q : Int), ⟨m, digs (v / 10)⟩) ⟨q, v / 10, by omega, hl2, rfl, hs⟩ (by simp only [Int.toNat_natCast]; omega)
        · rw [decide_eq_false (by omega), brn_false, if_neg h0]
          exact ⟨_, rfl, by simp⟩) ((p : Int), ⟨m, digs n⟩) ⟨p, n, Nat.le_refl _, hl, rfl, rfl⟩ (by simp only [Int.toNat_natCast]; omega)
  subst h2; exact h1
theorem small_l2_is {n : Nat} {m : Bool} (hn : (digs n).length ≤ 19) : ref7_small_l2J (⟨m, digs n⟩, 0, ((digs n).length : Int) - 1) = some (n : Int) := by
  have hlt := digs_len_lt hn
  obtain ⟨y, h1, h2⟩ := iter_ex (F := ref7_small_l2F) (fun x => (x.2.2 + 1).toNat) (fun x => x.1 = ⟨m, digs n⟩ ∧ ∃ k : Nat, k ≤ (digs n).length ∧ x.2.2 = (k : Int) - 1 ∧ x.2.1 = ((n / 10 ^ k : Nat) : Int)) (fun y => y = (n : Int)) (by
    rintro back ⟨b, u, i⟩ ⟨rfl, k, hk, e1, e2⟩ hb
    simp only at e1 e2
    subst e1; subst e2
    unfold ref7_small_l2F
    simp only at hb ⊢
    cases k with
    | zero => exact ⟨(n : Int), by simp, rfl⟩
    | succ k =>
      have e : n / 10 ^ (k + 1) = n / 10 ^ k / 10 := by rw [Nat.pow_succ, Nat.div_div_eq_div_mul]
      have hle : n / 10 ^ k ≤ n := Nat.div_le_self _ _
      rw [decide_eq_true (by omega), brn_true, show (((k + 1 : Nat) : Int) - 1) = (k : Int) by omega, idxI (digs_get k n (by omega)), obnd_some, e]
      generalize hq : n / 10 ^ k = q at *
      rw [u64_in (n := 10 * ((q / 10 : Nat) : Int)) (by omega) (by omega), u64_in (n := ((q % 10 : Nat) : Int)) (by omega) (by omega), u64_in (by omega) (by omega), i64_in (by omega) (by omega)]
      refine hb _ ⟨rfl, k, by omega, rfl, ?_⟩ (by simp only; omega)
      simp only [hq]; omega) (⟨m, digs n⟩, 0, ((digs n).length : Int) - 1) ⟨rfl, (digs n).length, Nat.le_refl _, rfl, by
        have h1 := vd_lt (digs_dig n)
        rw [vd_digs] at h1
        simp only
        rw [Nat.div_eq_of_lt h1]; rfl⟩ (by simp only; omega)
  subst h2; exact h1
theorem small_is {n p : Nat} {m : Bool} (hl : (digs n).length ≤ 5000) (hp : p ≤ 1000) : ref7_smallF (⟨m, digs n⟩, (p : Int)) = some (decV (sw n m) p) := by
  unfold ref7_smallF
  simp only
  rw [small_l1_is hl hp, obnd_some]
  have h0 := strip_nn p (v := (n : Int)) (by omega)
  have hs : strip (sw n m) p = (sw (strip n p).1 m, (strip n p).2) := by
    cases m
    · rfl
    · exact strip_neg p n
  unfold decV
  rw [hs]
  generalize hv : (strip (n : Int) p).1 = v at *
  generalize (strip (n : Int) p).2 = q at *
  obtain ⟨k, rfl⟩ := Int.eq_ofNat_of_zero_le h0
  simp only [Int.toNat_natCast]
  have hI : I64 (sw (k : Int) m) ↔ (if m then (k : Int) ≤ 9223372036854775808 else (k : Int) ≤ 9223372036854775807) := by
    unfold I64
    cases m <;> simp [sw] <;> omega
  by_cases h19 : 19 < (digs k).length
  · have hge : 10 ^ 19 ≤ k := by
      apply Classical.byContradiction
      intro hn
      have := digs_len_le 19 k (by omega)
      omega
    rw [decide_eq_true (by omega), brn_true, if_neg]
    rw [hI]
    cases m <;> simp <;> omega
  · have hlt := digs_len_lt (n := k) (k := 19) (by omega)
    rw [decide_eq_false (by omega), brn_false, i64_in (n := ((digs k).length : Int) - 1) (by omega) (by omega), small_l2_is (by omega), obnd_some]
    cases m
    · rw [brn_false]
      by_cases hb : (9223372036854775807 : Int) < (k : Int)
      · rw [decide_eq_true hb, brn_true, if_neg (by rw [hI]; simp; omega)]
      · rw [decide_eq_false hb, brn_false, if_pos (by rw [hI]; simp; omega), i64_in (by omega) (by omega)]; rfl
    · rw [brn_true]
      by_cases hb : (9223372036854775808 : Int) < (k : Int)
      · rw [decide_eq_true hb, brn_true, if_neg (by rw [hI]; simp; omega)]
      · rw [decide_eq_false hb, brn_false, if_pos (by rw [hI]; simp; omega)]
        have : IntKind.i64.wrap (IntKind.u64.wrap (0 - (k : Int))) = -(k : Int) := by rw [u64, i64]; omega
        rw [this]; rfl
theorem sw_and (n : Nat) (m : Bool) : sw (n : Int) (m && !decide (n = 0)) = sw (n : Int) m := by
  by_cases h : n = 0
  · subst h; cases m <;> rfl
  · simp [h]
theorem decV_zero {v : Int} (h : I64 v) : decV v 0 = (⟨v, 0⟩, 0) := by
  unfold decV strip
  rw [if_pos h]; rfl
theorem len19 {M : Int} (h : I64 M) : (digs M.natAbs).length ≤ 19 := digs_len_le 19 _ (by unfold I64 at h; omega)
section
variable {M N : Int} {s t : Nat} (hM : I64 M) (hN : I64 N) (hs : s ≤ 9) (ht : t ≤ 9)
include hM hN hs ht
end
section
variable {M N : Int} {s t : Nat} (hM : I64 M) (hN : I64 N) (hs : s ≤ 9) (ht : t ≤ 9)
include hM hN hs ht
end
theorem okInt (n : Int) : okD ⟨n, 0⟩ := ⟨by simp, by simp, fun h => by simp at h⟩
end Go.Proofs.YtdgpkbnnljblmaaGreatDoor
