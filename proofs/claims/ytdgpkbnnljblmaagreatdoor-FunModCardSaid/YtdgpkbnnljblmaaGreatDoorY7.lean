/- Y7 -/
import Derived.Test.YtdgpkbnnljblmaaGreatDoorY6
namespace Go.Proofs.YtdgpkbnnljblmaaGreatDoor
open Go Go.Ev Go.Lib
def up (d : Dec) (p : Nat) : Int := d.M * 10 ^ (p - d.S.toNat)
theorem pow_big {M : Int} (k : Nat) (h : ¬ I64 (M * 10)) : ¬ I64 (M * 10 * 10 ^ k) := by
  intro hh
  refine h ?_
  have h1 : (1 : Int) ≤ 10 ^ k := by
    have : 0 < (10 : Int) ^ k := Int.pow_pos (by decide)
    omega
  unfold I64 at *
  generalize (10 : Int) ^ k = e at *
  generalize M * 10 = z at *
  rcases Int.le_total 0 z with hz | hz
  · have : z * 1 ≤ z * e := Int.mul_le_mul_of_nonneg_left h1 hz
    omega
  · have : (-z) * 1 ≤ (-z) * e := Int.mul_le_mul_of_nonneg_left h1 (by omega)
    rw [Int.neg_mul, Int.neg_mul] at this
    omega
theorem check10 {M : Int} (h : I64 M) : decide (IntKind.i64.wrap ((IntKind.i64.wrap (M * 10)).tdiv 10) = M) = decide (I64 (M * 10)) := by
  by_cases hb : I64 (M * 10)
  · rw [decide_eq_true hb, i64_in (n := M * 10) hb.1 hb.2, Int.mul_tdiv_cancel _ (by decide), i64_in h.1 h.2, decide_eq_true rfl]
  · rw [decide_eq_false hb]
    refine decide_eq_false fun e => hb ?_
    have hr : -9223372036854775808 ≤ IntKind.i64.wrap (M * 10) ∧ IntKind.i64.wrap (M * 10) ≤ 9223372036854775807 := by rw [i64]; omega
    generalize IntKind.i64.wrap (M * 10) = w at *
    have ht : -922337203685477580 ≤ w.tdiv 10 ∧ w.tdiv 10 ≤ 922337203685477580 := by
      rcases Int.le_total 0 w with hw | hw
      · rw [Int.tdiv_eq_ediv_of_nonneg hw]; omega
      · rw [show w.tdiv 10 = -((-w).tdiv 10) by rw [Int.neg_tdiv, Int.neg_neg], Int.tdiv_eq_ediv_of_nonneg (by omega)]; omega
    rw [i64_in (by omega) (by omega)] at e
    unfold I64; omega
theorem up_step {M : Int} {k : Nat} : M * 10 ^ (k + 1) = M * 10 * 10 ^ k := by rw [Int.pow_succ, Int.mul_comm (10 ^ k) 10, Int.mul_assoc]
theorem scaled_l1 : ∀ (k n : Nat) (M S : Int), k < n → I64 M → 0 ≤ S → S + k ≤ 9 → ∃ y, iter fun_scaled_l1F n (S + k, ⟨M, S⟩) = some y ∧
    (I64 (M * 10 ^ k) → y = .inl ((), ⟨M * 10 ^ k, S + k⟩)) ∧ (¬ I64 (M * 10 ^ k) → ∃ d, y = .inr ((0, false), d))
  | 0, n + 1, M, S, _, hM, h0, h9 => by
    rw [iter_succ]
    unfold fun_scaled_l1F
    simp only
    rw [decide_eq_false (show ¬ S < S + ((0 : Nat) : Int) by omega), brn_false]
    refine ⟨_, rfl, fun _ => ?_, fun h => ?_⟩
    · simp
    · exact absurd (by simpa using hM) h
  | k + 1, n + 1, M, S, hn, hM, h0, h9 => by
    rw [iter_succ]
    unfold fun_scaled_l1F
    simp only
    rw [decide_eq_true (show S < S + ((k + 1 : Nat) : Int) by omega), brn_true, check10 hM, up_step]
    by_cases hb : I64 (M * 10)
    · rw [decide_eq_true hb, Bool.not_true, brn_false, i64_in (n := M * 10) hb.1 hb.2, i64_in (n := S + 1) (by omega) (by omega)]
      obtain ⟨y, h1, h2, h3⟩ := scaled_l1 k n (M * 10) (S + 1) (by omega) hb (by omega) (by omega)
      rw [show S + ((k + 1 : Nat) : Int) = S + 1 + (k : Int) by omega]
      exact ⟨y, h1, h2, h3⟩
    · rw [decide_eq_false hb, Bool.not_false, brn_true]
      exact ⟨_, rfl, fun h => absurd h (pow_big k hb), fun _ => ⟨_, rfl⟩⟩
theorem scaledF_is {d : Dec} {p : Nat} (hd : okd d) (hp : d.S ≤ (p : Int)) (h9 : p ≤ 9) : fun_scaledF (d, (p : Int)) = some (if I64 (up d p) then (up d p, true) else (0, false)) := by
  have h0 := hd.1.1
  obtain ⟨y, h1, h2, h3⟩ := scaled_l1 (p - d.S.toNat) big d.M d.S (by rw [big_pos]; omega) hd.2 h0 (by omega)
  unfold fun_scaledF up
  simp only
  have e : fun_scaled_l1J ((p : Int), d) = some y := by
    rw [← h1, show d.S + ((p - d.S.toNat : Nat) : Int) = (p : Int) by omega]; rfl
  rw [e, obnd_some]
  by_cases hb : I64 (d.M * 10 ^ (p - d.S.toNat))
  · rw [h2 hb, if_pos hb]; rfl
  · obtain ⟨d', h⟩ := h3 hb
    rw [h, if_neg hb]; rfl
def fm (X Y : Int) : Int := let r := X.tmod Y; if ¬ r = 0 ∧ ¬ (decide (r < 0) = decide (Y < 0)) then r + Y else r
theorem fm_ok (X : Int) {Y : Int} (h : Y ≠ 0) : (fm X Y).natAbs < Y.natAbs ∧ (fm X Y ≠ 0 → (fm X Y < 0 ↔ Y < 0)) ∧ ∃ k, X - fm X Y = k * Y := by
  have hr : (X.tmod Y).natAbs < Y.natAbs := by
    rw [Int.natAbs_tmod]
    exact Nat.mod_lt _ (by omega)
  have hq := Int.mul_tdiv_add_tmod X Y
  unfold fm
  simp only
  generalize X.tmod Y = r at *
  generalize hk : X.tdiv Y = k at *
  by_cases h0 : r = 0
  · subst h0
    rw [if_neg (by simp)]
    exact ⟨by omega, fun h => absurd rfl h, k, by rw [Int.mul_comm k Y]; omega⟩
  · by_cases h1 : decide (r < 0) = decide (Y < 0)
    · rw [if_neg (fun c => c.2 h1)]
      refine ⟨hr, fun _ => ?_, k, by rw [Int.mul_comm k Y]; omega⟩
      simpa using h1
    · rw [if_pos ⟨h0, h1⟩]
      have h2 : ¬ (r < 0 ↔ Y < 0) := by simpa using h1
      refine ⟨by omega, fun _ => by omega, k - 1, ?_⟩
      rw [Int.sub_mul, Int.one_mul, Int.mul_comm k Y]; omega
def modV (a b : Dec) : Dec × Int :=
  if b.M = 0 then (⟨0, 0⟩, 9) else
    let p := max a.S.toNat b.S.toNat
    if I64 (up a p) ∧ I64 (up b p) then (⟨(strip (fm (up a p) (up b p)) p).1, ((strip (fm (up a p) (up b p)) p).2 : Int)⟩, 0) else (⟨0, 0⟩, 8)
theorem up_zero {d : Dec} {p : Nat} (h : d.M ≠ 0) : up d p ≠ 0 := by
  unfold up
  intro e
  have : (10 : Int) ^ (p - d.S.toNat) ≠ 0 := by
    have : 0 < (10 : Int) ^ (p - d.S.toNat) := Int.pow_pos (by decide)
    omega
  rcases Int.mul_eq_zero.1 e with h1 | h1
  · exact h h1
  · exact this h1
theorem fm_I64 {X Y : Int} (hY : I64 Y) (h : Y ≠ 0) : I64 (fm X Y) := by
  have := (fm_ok X h).1
  unfold I64 at *
  omega
theorem cond_max {a b : Dec} (ha : 0 ≤ a.S) (hb : 0 ≤ b.S) : (bif decide (a.S < b.S) then b.S else a.S) = ((max a.S.toNat b.S.toNat : Nat) : Int) := by
  by_cases h : a.S < b.S
  · rw [decide_eq_true h, cond_true]; omega
  · rw [decide_eq_false h, cond_false]; omega
theorem fm_cases {α : Type} (X Y : Int) (f : Int → α) (g : Int → α) (hg : ∀ r, I64 (r + Y) → g (r + Y) = f (r + Y)) (hi : I64 (fm X Y)) :
    brn (!decide (X.tmod Y = 0)) (brn (!decide (decide (X.tmod Y < 0) = decide (Y < 0))) (some (g (X.tmod Y + Y))) (some (f (X.tmod Y)))) (some (f (X.tmod Y))) = some (f (fm X Y)) := by
  unfold fm at hi ⊢
  simp only at hi ⊢
  by_cases h0 : X.tmod Y = 0
  · rw [decide_eq_true h0, if_neg (fun c => c.1 h0)]; rfl
  · by_cases h1 : decide (X.tmod Y < 0) = decide (Y < 0)
    · rw [decide_eq_false h0, decide_eq_true h1, if_neg (fun c => c.2 h1)]; rfl
    · rw [if_pos ⟨h0, h1⟩] at hi
      rw [decide_eq_false h0, decide_eq_false h1, if_pos ⟨h0, h1⟩, ← hg _ hi]; rfl
theorem rest_is4 {a b : Dec} (ha : okd a) (hb : okd b) : fun_restF (a, b) = some (numV (modV a b)) := by
  unfold fun_restF modV
  simp only [fault_is, obnd_some]
  by_cases h0 : b.M = 0
  · rw [decide_eq_true h0, if_pos h0]; rfl
  rw [decide_eq_false h0, if_neg h0, brn_false, cond_max ha.1.1 hb.1.1]
  have p9 : max a.S.toNat b.S.toNat ≤ 9 := by have := ha.1.2.1; have := hb.1.2.1; omega
  have pa : a.S ≤ ((max a.S.toNat b.S.toNat : Nat) : Int) := by omega
  have pb : b.S ≤ ((max a.S.toNat b.S.toNat : Nat) : Int) := by omega
  generalize max a.S.toNat b.S.toNat = p at *
  rw [scaledF_is ha pa p9, scaledF_is hb pb p9]
  simp only [obnd_some]
  by_cases c1 : I64 (up a p)
  · rw [if_pos c1]
    by_cases c2 : I64 (up b p)
    · have hz := up_zero (p := p) h0
      rw [if_pos c2, if_pos ⟨c1, c2⟩]
      simp only [Bool.not_true, brn_false]
      rw [decide_eq_false hz, brn_false]
      have hi := fm_I64 (X := up a p) c2 hz
      have n1 : ∀ m : Int, I64 m → (obnd (dec_NormF ⟨m, (p : Int)⟩) fun y => obnd (fun_numF (y, 0)) fun y => some y) = some (numV (⟨(strip m p).1, ((strip m p).2 : Int)⟩, 0)) := fun m hm => by
        rw [Norm_is hm p9, obnd_some, num_is2, obnd_some]
      have t1 : I64 ((up a p).tmod (up b p)) := by
        have h1 := Int.natAbs_tmod (up a p) (up b p)
        have h2 := Nat.mod_le (up a p).natAbs (up b p).natAbs
        have h3 : (up a p).tmod (up b p) ≤ (up a p).natAbs := by omega
        unfold I64 at c1 c2 ⊢
        have h4 : ((up a p).tmod (up b p)).natAbs < (up b p).natAbs := by rw [h1]; exact Nat.mod_lt _ (by omega)
        omega
      rw [n1 _ t1]
      have hw : ∀ (x : Option Val), (obnd (dec_NormF ⟨IntKind.i64.wrap ((up a p).tmod (up b p) + up b p), (p : Int)⟩) fun y => obnd (fun_numF (y, 0)) fun y => some y) = some (numV (⟨(strip (IntKind.i64.wrap ((up a p).tmod (up b p) + up b p)) p).1, ((strip (IntKind.i64.wrap ((up a p).tmod (up b p) + up b p)) p).2 : Int)⟩, 0)) := fun _ => n1 _ (by unfold I64; rw [i64]; omega)
      rw [hw none]
      exact fm_cases (up a p) (up b p) (fun r => numV (⟨(strip r p).1, ((strip r p).2 : Int)⟩, 0)) (fun r => numV (⟨(strip (IntKind.i64.wrap r) p).1, ((strip (IntKind.i64.wrap r) p).2 : Int)⟩, 0)) (fun r hr => by rw [i64_in hr.1 hr.2]) hi
    · rw [if_neg c2, if_neg (show ¬ (I64 (up a p) ∧ I64 (up b p)) from fun c => c2 c.2)]; rfl
  · rw [if_neg c1, if_neg (show ¬ (I64 (up a p) ∧ I64 (up b p)) from fun c => c1 c.1)]; rfl
end Go.Proofs.YtdgpkbnnljblmaaGreatDoor
