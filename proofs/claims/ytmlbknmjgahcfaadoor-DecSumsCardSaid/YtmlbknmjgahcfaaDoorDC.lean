/- The document's decimals: products and quotients of numbers in digits. -/
import Derived.Test.YtmlbknmjgahcfaaDoorDB
namespace Go.Proofs.YtmlbknmjgahcfaaDoor
open Go Go.Ev

/-! ## products -/
theorem vd_set : ∀ {D : List Int} {j : Nat} {v d : Int}, D[j]? = some d → vd (D.set j v) + 10 ^ j * d.toNat = vd D + 10 ^ j * v.toNat
  | [], _, _, _, h => by simp at h
  | e :: D, 0, v, d, h => by
    simp only [List.getElem?_cons_zero, Option.some.injEq] at h
    subst h
    simp only [List.set_cons_zero, vd]; omega
  | e :: D, j + 1, v, d, h => by
    simp only [List.getElem?_cons_succ] at h
    have := vd_set (v := v) h
    simp only [List.set_cons_succ, vd, Nat.pow_succ, Nat.mul_comm (10 ^ j) 10, Nat.mul_assoc]
    omega
theorem isDig_set {D : List Int} {j : Nat} {v : Int} (h : isDig D) (hv : 0 ≤ v ∧ v ≤ 9) : isDig (D.set j v) := fun d hd => by
  rcases List.mem_or_eq_of_mem_set hd with h' | rfl
  · exact h d h'
  · exact hv
theorem inbS {n k : Nat} (h : k < n) : inb n (k : Int) = some k := by
  simp [inb, h]
theorem nthS {D : List Int} {k : Nat} {v : Int} (h : D[k]? = some v) : nth D k = some v := h
theorem mkS {n : Nat} (h : n ≤ 10000) : mkList 8 (0 : Int) (n : Int) (n : Int) = some (List.replicate n 0) := by
  unfold mkList
  rw [decide_eq_true (by omega), decide_eq_true (by omega), decide_eq_true (by omega)]
  simp
theorem vd_zeros : ∀ n, vd (List.replicate n 0) = 0
  | 0 => rfl
  | n + 1 => by rw [List.replicate_succ, vd, vd_zeros n]; rfl
theorem isDig_zeros (n : Nat) : isDig (List.replicate n 0) := fun d hd => by
  rw [List.eq_of_mem_replicate hd]; omega
theorem pow_lt_of {a b T : Nat} (h : 10 ^ a ≤ T) (h2 : T < 10 ^ b) : a < b := by
  apply Classical.byContradiction
  intro hn
  have := Nat.pow_le_pow_right (n := 10) (by omega) (show b ≤ a by omega)
  omega

theorem times_l2_is {A B : List Int} {f m1 m2 : Bool} {out : List Int} {i : Nat} (hA : isDig A) (hB : isDig B) (hO : isDig out) (hi : i < A.length) (hlA : A.length ≤ 1000) (hlB : B.length ≤ 1000)
    (hL : out.length = A.length + B.length + 1) (hT : vd out + 10 ^ i * ((at0 A i).toNat * vd B) < 10 ^ (A.length + B.length)) :
    ∃ out', ref7_times_l2J (f, out, ⟨m1, A⟩, ⟨m2, B⟩, (), (i : Int), 0, 0) = some ((f, out'), ()) ∧ isDig out' ∧ out'.length = out.length ∧ vd out' = vd out + 10 ^ i * ((at0 A i).toNat * vd B) := by
  generalize hTT : vd out + 10 ^ i * ((at0 A i).toNat * vd B) = T at *
  have key : ∃ y, ref7_times_l2J (f, out, ⟨m1, A⟩, ⟨m2, B⟩, (), (i : Int), 0, 0) = some y ∧ (∃ out', y = ((f, out'), ()) ∧ isDig out' ∧ out'.length = out.length ∧ vd out' = T) := by
    refine iter_ex (F := ref7_times_l2F) (fun x => 5000 - x.2.2.2.2.2.2.2.toNat) (fun x => ∃ (o : List Int) (c : Int) (k : Nat), x = (f, o, ⟨m1, A⟩, ⟨m2, B⟩, (), (i : Int), c, (k : Int)) ∧ 0 ≤ c ∧ c ≤ 9 ∧ isDig o ∧ o.length = out.length ∧ k ≤ 3000 ∧
      vd o + 10 ^ (i + k) * (c.toNat + (at0 A i).toNat * vd (B.drop k)) = T) _ ?_ _ ⟨out, 0, 0, rfl, by omega, by omega, hO, rfl, by omega, by simpa using hTT⟩ (by simp only; omega)
    rintro back x ⟨o, c, k, rfl, c0, c9, ho, hlo, hk, hv⟩ hb
    unfold ref7_times_l2F
    simp only at hb ⊢
    have ha := at0_dig hA i
    have hbd := at0_dig hB k
    have gA : A[i]? = some (at0 A i) := by unfold at0; rw [List.getElem?_eq_getElem hi]; rfl
    have fin : ∀ (e s : Int), i + k < out.length → o[i + k]? = some e → s = c + e + at0 A i * at0 B k → 
        ∃ y, back (f, o.set (i + k) (s.tmod 10), ⟨m1, A⟩, ⟨m2, B⟩, (), (i : Int), IntKind.i64.wrap (s.tdiv 10), IntKind.i64.wrap ((k : Int) + 1)) = some y ∧ (∃ out', y = ((f, out'), ()) ∧ isDig out' ∧ out'.length = out.length ∧ vd out' = T) := fun e s hik he hs => by
      have he9 := ho e (List.mem_of_getElem? he)
      have hab : at0 A i * at0 B k = (((at0 A i).toNat * (at0 B k).toNat : Nat) : Int) := by
        rw [Int.natCast_mul, Int.toNat_of_nonneg ha.1, Int.toNat_of_nonneg hbd.1]
      have hp : (at0 A i).toNat * (at0 B k).toNat ≤ 9 * 9 := Nat.mul_le_mul (by omega) (by omega)
      rw [hab] at hs
      have s0 : 0 ≤ s := by omega
      rw [Int.tmod_eq_emod_of_nonneg s0, Int.tdiv_eq_ediv_of_nonneg s0, i64_in (n := s / 10) (by omega) (by omega), i64_in (n := (k : Int) + 1) (by omega) (by omega)]
      refine hb _ ⟨o.set (i + k) (s % 10), s / 10, k + 1, rfl, by omega, by omega, isDig_set ho (by omega), by simp [hlo], by omega, ?_⟩ (by simp only; omega)
      have hset := vd_set (v := s % 10) he
      rw [vd_drop (D := B) k] at hv
      rw [← hv, ← Nat.add_assoc i k 1, Nat.pow_succ]
      generalize vd (B.drop (k + 1)) = Y at *
      generalize 10 ^ (i + k) = P at *
      generalize vd (o.set (i + k) (s % 10)) = Q at *
      generalize vd o = R at *
      have q1 : (s % 10).toNat = (c.toNat + e.toNat + (at0 A i).toNat * (at0 B k).toNat) % 10 := by omega
      have q2 : (s / 10).toNat = (c.toNat + e.toNat + (at0 A i).toNat * (at0 B k).toNat) / 10 := by omega
      rw [q1] at hset
      rw [q2]
      have e3 : (at0 A i).toNat * ((at0 B k).toNat + 10 * Y) = (at0 A i).toNat * (at0 B k).toNat + 10 * ((at0 A i).toNat * Y) := by
        rw [Nat.mul_add, Nat.mul_left_comm]
      rw [e3]
      generalize (at0 A i).toNat * (at0 B k).toNat = ab at *
      generalize (at0 A i).toNat * Y = aY at *
      generalize c.toNat = cc at *
      generalize e.toNat = ee at *
      have q3 : cc + (ab + 10 * aY) + ee = (cc + ee + ab) % 10 + 10 * ((cc + ee + ab) / 10 + aY) := by omega
      have q4 : P * (cc + (ab + 10 * aY) + ee) = P * ((cc + ee + ab) % 10 + 10 * ((cc + ee + ab) / 10 + aY)) := by rw [q3]
      simp only [Nat.mul_add, Nat.mul_assoc] at q4 hset ⊢
      omega
    rcases Nat.lt_or_ge k B.length with h1 | h1
    · have hik : i + k < out.length := by omega
      have gB : B[k]? = some (at0 B k) := by unfold at0; rw [List.getElem?_eq_getElem h1]; rfl
      have go : o[i + k]? = some (o[i + k]'(by omega)) := List.getElem?_eq_getElem (by omega)
      generalize o[i + k]'(by omega) = e at go
      have he9 := ho e (List.mem_of_getElem? go)
      have hab : at0 A i * at0 B k = (((at0 A i).toNat * (at0 B k).toNat : Nat) : Int) := by
        rw [Int.natCast_mul, Int.toNat_of_nonneg ha.1, Int.toNat_of_nonneg hbd.1]
      have hp : (at0 A i).toNat * (at0 B k).toNat ≤ 9 * 9 := Nat.mul_le_mul (by omega) (by omega)
      have fin2 := fin e _ hik go rfl
      rw [decide_eq_true (by omega), brn_true, i64_in (n := (i : Int) + (k : Int)) (by omega) (by omega), show (i : Int) + (k : Int) = ((i + k : Nat) : Int) by omega, inbS (by omega), obnd_some, nthS go, obnd_some, brn_true, idxI gA, obnd_some, idxI gB, obnd_some, obnd_some, nthS go, obnd_some,
        i64_in (n := c + e) (by omega) (by omega), i64_in (n := at0 A i * at0 B k) (by omega) (by omega), i64_in (n := c + e + at0 A i * at0 B k) (by omega) (by omega)]
      exact fin2
    · have hB0 : at0 B k = 0 := by unfold at0; rw [List.getElem?_eq_none h1]; rfl
      rw [decide_eq_false (by omega), brn_false]
      by_cases hc : 0 < c
      · have hik : i + k < out.length := by
          have : 10 ^ (i + k) * 1 ≤ 10 ^ (i + k) * (c.toNat + (at0 A i).toNat * vd (B.drop k)) := Nat.mul_le_mul_left _ (by omega)
          have := pow_lt_of (a := i + k) (b := A.length + B.length) (T := T) (by omega) hT
          omega
        have go : o[i + k]? = some (o[i + k]'(by omega)) := List.getElem?_eq_getElem (by omega)
        generalize o[i + k]'(by omega) = e at go
        have he9 := ho e (List.mem_of_getElem? go)
        have fin2 := fin e (c + e) hik go (by rw [hB0]; omega)
        rw [decide_eq_true hc, brn_true, i64_in (n := (i : Int) + (k : Int)) (by omega) (by omega), show (i : Int) + (k : Int) = ((i + k : Nat) : Int) by omega, inbS (by omega), obnd_some, nthS go, obnd_some, brn_false, obnd_some, nthS go, obnd_some,
          i64_in (n := c + e) (by omega) (by omega)]
        exact fin2
      · rw [decide_eq_false hc, brn_false]
        refine ⟨_, rfl, o, rfl, ho, hlo, ?_⟩
        have : c = 0 := by omega
        subst this
        rw [List.drop_eq_nil_of_le (by omega)] at hv
        simpa [vd] using hv
  obtain ⟨y, h1, out', rfl, h3⟩ := key
  exact ⟨out', h1, h3⟩

theorem timesD_is {a b : Nat} {m1 m2 : Bool} (hla : (digs a).length ≤ 1000) (hlb : (digs b).length ≤ 1000) :
    ref7_timesF (⟨m1, digs a⟩, ⟨m2, digs b⟩) = some ⟨(!decide (m1 = m2)) && !decide (a * b = 0), digs (a * b)⟩ := by
  have hA := digs_dig a
  have hB := digs_dig b
  have hab : a * b < 10 ^ ((digs a).length + (digs b).length) := by
    rw [Nat.pow_add]
    exact Nat.mul_lt_mul'' (digs_len_lt (Nat.le_refl _)) (digs_len_lt (Nat.le_refl _))
  unfold ref7_timesF
  simp only
  rw [i64_in (n := ((digs a).length : Int) + ((digs b).length : Int)) (by omega) (by omega), i64_in (by omega) (by omega), show ((digs a).length : Int) + ((digs b).length : Int) + 1 = (((digs a).length + (digs b).length + 1 : Nat) : Int) by omega, mkS (by omega), obnd_some]
  have key : ∃ y, ref7_times_l1J (!decide (m1 = m2), List.replicate ((digs a).length + (digs b).length + 1) 0, ⟨m1, digs a⟩, ⟨m2, digs b⟩, (), 0) = some y ∧ (∃ out, y = ((!decide (m1 = m2), out), ()) ∧ isDig out ∧ out.length = (digs a).length + (digs b).length + 1 ∧ vd out = a * b) := by
    refine iter_ex (F := ref7_times_l1F) (fun x => 2000 - x.2.2.2.2.2.toNat) (fun x => ∃ (o : List Int) (i : Nat), x = (!decide (m1 = m2), o, ⟨m1, digs a⟩, ⟨m2, digs b⟩, (), (i : Int)) ∧ isDig o ∧ o.length = (digs a).length + (digs b).length + 1 ∧ i ≤ (digs a).length ∧
      vd o + 10 ^ i * (vd ((digs a).drop i) * b) = a * b) _ ?_ _ ⟨_, 0, rfl, isDig_zeros _, by simp, by omega, by rw [vd_zeros]; simp [vd_digs]⟩ (by simp only; omega)
    rintro back x ⟨o, i, rfl, ho, hlo, hi, hv⟩ hb
    unfold ref7_times_l1F
    simp only at hb ⊢
    rcases Nat.lt_or_ge i (digs a).length with hlt | hge
    · rw [vd_drop (D := digs a) i, Nat.add_mul, Nat.mul_add] at hv
      obtain ⟨o', h1, h2, h3, h4⟩ := times_l2_is (f := !decide (m1 = m2)) (m1 := m1) (m2 := m2) hA hB ho hlt (by omega) (by omega) hlo (by rw [vd_digs]; omega)
      rw [decide_eq_true (by omega), brn_true, h1, obnd_some, i64_in (by omega) (by omega)]
      refine hb _ ⟨o', i + 1, rfl, h2, by omega, by omega, ?_⟩ (by simp only; omega)
      rw [h4, vd_digs, Nat.pow_succ]
      generalize 10 ^ i = T at *
      rw [Nat.mul_assoc T 10, ← Nat.mul_assoc 10]
      omega
    · rw [decide_eq_false (by omega), brn_false]
      refine ⟨_, rfl, o, rfl, ho, hlo, ?_⟩
      rw [List.drop_eq_nil_of_le hge] at hv
      simpa [vd] using hv
  obtain ⟨y, h1, out, rfl, h2, h3, h4⟩ := key
  rw [h1, obnd_some]
  simp only
  rw [trim_is h2 (by omega), h4, obnd_some]

/-! ## quotients -/
theorem over_l2_is {b r : Nat} (hb0 : 0 < b) (hlb : (digs b).length ≤ 1000) (hlr : (digs r).length ≤ 1001) (hr : r < 10 * b) : ref7_over_l2J (digs b, digs r, 0) = some (digs (r % b), ((r / b : Nat) : Int)) := by
  obtain ⟨y, h1, h2⟩ := iter_ex (F := ref7_over_l2F) (fun x => 20 - x.2.2.toNat) (fun x => ∃ s n : Nat, x = (digs b, digs s, (n : Int)) ∧ s + n * b = r) (fun y => y = (digs (r % b), ((r / b : Nat) : Int))) (by
    rintro back x ⟨s, n, rfl, hs⟩ hb
    unfold ref7_over_l2F
    simp only at hb ⊢
    have hsr : s ≤ r := by omega
    have hls := digs_len_mono hsr
    have hn : n ≤ 9 := by
      apply Classical.byContradiction
      intro hn
      have : 10 * b ≤ n * b := Nat.mul_le_mul_right b (by omega)
      omega
    rw [lessD_is (by omega) (by omega), obnd_some]
    by_cases hlt : s < b
    · rw [decide_eq_true hlt, Bool.not_true, brn_false]
      refine ⟨_, rfl, ?_⟩
      have e1 : r / b = n := by
        rw [← hs, Nat.add_mul_div_right _ _ hb0, Nat.div_eq_of_lt hlt]; omega
      have e2 : r % b = s := by
        rw [← hs, Nat.add_mul_mod_self_right, Nat.mod_eq_of_lt hlt]
      rw [e1, e2]
    · rw [decide_eq_false hlt, Bool.not_false, brn_true]
      obtain ⟨R, h1, h2⟩ := minus_trim (m := false) (a := s) (b := b) (by omega) (by omega)
      have hn9 : n ≤ 8 := by
        apply Classical.byContradiction
        intro hn
        have : 9 * b ≤ n * b := Nat.mul_le_mul_right b (by omega)
        omega
      rw [h1, obnd_some, h2, obnd_some, i64_in (by omega) (by omega)]
      refine hb _ ⟨s - b, n + 1, rfl, ?_⟩ (by simp only; omega)
      rw [Nat.add_mul]; omega) (digs b, digs r, 0) ⟨r, 0, rfl, by omega⟩ (by simp only; omega)
  subst h2; exact h1
theorem digs_cons_len {r d k : Nat} (h : (digs r).length ≤ k) (hd : d ≤ 9) : (digs (d + 10 * r)).length ≤ k + 1 := by
  have h1 := digs_len_lt h
  refine digs_len_le _ _ ?_
  rw [Nat.pow_succ]
  omega
theorem overD_is {a b : Nat} (hb0 : 0 < b) (hla : (digs a).length ≤ 1000) (hlb : (digs b).length ≤ 1000) : ref7_overF (digs a, digs b) = some (digs (a / b), decide (b ≤ 2 * (a % b)), decide (a % b ≠ 0)) := by
  have hA := digs_dig a
  unfold ref7_overF
  simp only
  rw [i64_in (by omega) (by omega)]
  have key : ∃ y, ref7_over_l1J (digs a, digs b, [], [], ((digs a).length : Int) - 1) = some y ∧ (∃ q, y = (q, digs (a % b)) ∧ isDig q ∧ q.length ≤ 1000 ∧ vd q = a / b) := by
    refine iter_ex (F := ref7_over_l1F) (fun x => (x.2.2.2.2 + 1).toNat) (fun x => ∃ (q : List Int) (r k : Nat), x = (digs a, digs b, q, digs r, (k : Int) - 1) ∧ isDig q ∧ k ≤ (digs a).length ∧ q.length + k = (digs a).length ∧ r < b ∧ vd ((digs a).drop k) = vd q * b + r) _ ?_ _ ⟨[], 0, (digs a).length, by rw [digs_zero], isDig_nil, by omega, by simp, hb0, by simp [vd]⟩ (by simp only; omega)
    rintro back x ⟨q, r, k, rfl, hq, hk, hlq, hr, hv⟩ hb
    unfold ref7_over_l1F
    simp only at hb ⊢
    cases k with
    | zero =>
      rw [decide_eq_false (by omega), brn_false]
      simp only [List.drop_zero, vd_digs] at hv
      refine ⟨_, rfl, q, ?_, hq, by omega, ?_⟩
      · rw [hv, Nat.add_comm, Nat.add_mul_mod_self_right, Nat.mod_eq_of_lt hr]
      · rw [hv, Nat.add_comm, Nat.add_mul_div_right _ _ hb0, Nat.div_eq_of_lt hr]; omega
    | succ k =>
      have hrl : (digs r).length ≤ (digs b).length := digs_len_mono (by omega)
      rw [decide_eq_true (by omega), brn_true, show (((k + 1 : Nat) : Int) - 1) = (k : Int) by omega, idxI (digs_get k a (by omega)), obnd_some, appS (by simp; omega), obnd_some]
      have hd : isDig ([((a / 10 ^ k % 10 : Nat) : Int)] ++ digs r) := isDig_append.2 ⟨isDig_cons.2 ⟨by omega, isDig_nil⟩, digs_dig r⟩
      have hvd : vd ([((a / 10 ^ k % 10 : Nat) : Int)] ++ digs r) = a / 10 ^ k % 10 + 10 * r := by
        simp only [List.singleton_append, vd, vd_digs, Int.toNat_natCast]
      rw [trim_is hd (by simp; omega), obnd_some, hvd]
      simp only
      have hlen : (digs (a / 10 ^ k % 10 + 10 * r)).length ≤ 1001 := digs_cons_len (by omega) (by omega)
      have hr10 : a / 10 ^ k % 10 + 10 * r < 10 * b := by omega
      rw [over_l2_is hb0 hlb hlen hr10, obnd_some]
      simp only
      have hq9 : (a / 10 ^ k % 10 + 10 * r) / b ≤ 9 := by
        have := (Nat.div_lt_iff_lt_mul hb0).2 hr10
        omega
      rw [appS (by simp; omega), obnd_some, i64_in (by omega) (by omega)]
      refine hb _ ⟨_, (a / 10 ^ k % 10 + 10 * r) % b, k, rfl, isDig_append.2 ⟨isDig_cons.2 ⟨⟨Int.natCast_nonneg _, by exact_mod_cast hq9⟩, isDig_nil⟩, hq⟩, by omega, by simp; omega, Nat.mod_lt _ hb0, ?_⟩ (by simp only; omega)
      have ea : at0 (digs a) k = ((a / 10 ^ k % 10 : Nat) : Int) := by unfold at0; rw [digs_get k a (by omega)]; rfl
      rw [vd_drop, ea, hv]
      simp only [List.singleton_append, vd, Int.toNat_natCast]
      generalize a / 10 ^ k % 10 = d at *
      have hdm := Nat.div_add_mod (d + 10 * r) b
      rw [Nat.add_mul, Nat.mul_assoc 10, Nat.mul_comm ((d + 10 * r) / b) b]
      omega
  obtain ⟨y, h1, q, rfl, h2, h3, h4⟩ := key
  have hmb : a % b < b := Nat.mod_lt _ hb0
  have hml : (digs (a % b)).length ≤ 1000 := Nat.le_trans (digs_len_mono (by omega)) hlb
  have hml2 := digs_add_len hml hml
  rw [h1, obnd_some]
  simp only
  rw [trim_is h2 (by omega), obnd_some, plus_digs (by omega) (by omega), obnd_some, lessD_is (by omega) (by omega), obnd_some, h4]
  simp only
  congr 3
  · rw [← decide_not, decide_eq_decide]; omega
  · rw [decide_eq_decide]
    have := digs_nil (n := a % b)
    omega
end Go.Proofs.YtmlbknmjgahcfaaDoor
