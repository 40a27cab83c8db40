/- X9 -/
import Derived.Test.YtdgpkbnnljblmaaGreatDoorX8
namespace Go.Proofs.YtdgpkbnnljblmaaGreatDoor
open Go Go.Ev Go.Lib
set_option linter.unusedSimpArgs false
theorem more0_is {x : List UInt8} {i v : Nat} : ref7_Runes_l4J (x, (i : Int), 0, (v : Int), 1) = some (.inl (v : Int)) := by
  unfold ref7_Runes_l4J
  rw [big_pos, iter_succ]
  unfold ref7_Runes_l4F
  simp
theorem more1 {l : List UInt8} (h : 0 < l.length) (v : Nat) : more l 1 v = if (l.getD 0 0).toNat / 64 = 2 then some (v * 64 + (l.getD 0 0).toNat % 64) else none := by
  cases l with
  | nil => simp at h
  | cons a l => cases l <;> rfl
theorem more2 {l : List UInt8} (h : 1 < l.length) (v : Nat) : more l 2 v = if (l.getD 0 0).toNat / 64 = 2 ∧ (l.getD 1 0).toNat / 64 = 2 then some ((v * 64 + (l.getD 0 0).toNat % 64) * 64 + (l.getD 1 0).toNat % 64) else none := by
  cases l with
  | nil => simp at h
  | cons a l =>
    have := more1 (l := l) (by simp at h; omega)
    show (if a.toNat / 64 = 2 then more l 1 (v * 64 + a.toNat % 64) else none) = _
    rw [this]
    simp only [List.getD_cons_zero, List.getD_cons_succ]
    by_cases h1 : a.toNat / 64 = 2
    · rw [if_pos h1]; simp [h1]
    · rw [if_neg h1]; simp [h1]
theorem more3 {l : List UInt8} (h : 2 < l.length) (v : Nat) : more l 3 v = if (l.getD 0 0).toNat / 64 = 2 ∧ (l.getD 1 0).toNat / 64 = 2 ∧ (l.getD 2 0).toNat / 64 = 2 then some (((v * 64 + (l.getD 0 0).toNat % 64) * 64 + (l.getD 1 0).toNat % 64) * 64 + (l.getD 2 0).toNat % 64) else none := by
  cases l with
  | nil => simp at h
  | cons a l =>
    have := more2 (l := l) (by simp at h; omega)
    show (if a.toNat / 64 = 2 then more l 2 (v * 64 + a.toNat % 64) else none) = _
    rw [this]
    simp only [List.getD_cons_zero, List.getD_cons_succ]
    by_cases h1 : a.toNat / 64 = 2
    · rw [if_pos h1]; simp [h1]
    · rw [if_neg h1]; simp [h1]
def oneR (x : List UInt8) (out : List Int) (i : Nat) : (List Int × Int) ⊕ (List Int × Bool) :=
  if (decodeL (x.drop i)).1 = 65533 ∧ (decodeL (x.drop i)).2 = 1 then .inr ([], false) else .inl (out ++ [((decodeL (x.drop i)).1 : Int)], ((i + (decodeL (x.drop i)).2 : Nat) : Int))
theorem check_is {out : List Int} {i n w least : Nat} (ho : out.length ≤ 5000000) (hi : i ≤ 5000000) (hn : n ≤ 3) :
    brn (decide ((w : Int) < (least : Int))) (some (Sum.inr (([] : List Int), false)))
      (brn (decide ((55296 : Int) ≤ (w : Int)))
        (brn (decide ((w : Int) < 57344)) (some (Sum.inr ([], false)))
          (brn (decide ((1114111 : Int) < (w : Int))) (some (Sum.inr ([], false)))
            (obnd (app 8 out [(w : Int)]) fun zs => some (Sum.inl (zs, IntKind.i64.wrap (IntKind.i64.wrap ((i : Int) + (n : Int)) + 1))))))
        (brn (decide ((1114111 : Int) < (w : Int))) (some (Sum.inr ([], false)))
          (obnd (app 8 out [(w : Int)]) fun zs => some (Sum.inl (zs, IntKind.i64.wrap (IntKind.i64.wrap ((i : Int) + (n : Int)) + 1)))))) =
      some (if w < least ∨ (55296 ≤ w ∧ w < 57344) ∨ 1114111 < w then Sum.inr ([], false) else Sum.inl (out ++ [(w : Int)], ((i + (n + 1) : Nat) : Int))) := by
  rw [appN (by simp only [List.length_singleton]; omega), obnd_some, i64_in (n := (i : Int) + (n : Int)) (by omega) (by omega), i64_in (by omega) (by omega), show (i : Int) + (n : Int) + 1 = ((i + (n + 1) : Nat) : Int) by omega]
  by_cases h1 : w < least
  · rw [decide_eq_true (by omega), brn_true, if_pos (.inl h1)]
  · rw [decide_eq_false (by omega), brn_false]
    by_cases h2 : 55296 ≤ w
    · rw [decide_eq_true (by omega), brn_true]
      by_cases h3 : w < 57344
      · rw [decide_eq_true (by omega), brn_true, if_pos (.inr (.inl ⟨h2, h3⟩))]
      · rw [decide_eq_false (by omega), brn_false]
        by_cases h4 : 1114111 < w
        · rw [decide_eq_true (by omega), brn_true, if_pos (.inr (.inr h4))]
        · rw [decide_eq_false (by omega), brn_false, if_neg (by omega)]
    · rw [decide_eq_false (by omega), brn_false]
      by_cases h4 : 1114111 < w
      · rw [decide_eq_true (by omega), brn_true, if_pos (.inr (.inr h4))]
      · rw [decide_eq_false (by omega), brn_false, if_neg (by omega)]
theorem b3_is {c : Nat} (h : c < 256) : ref7_Runes_b3J ((c : Int), 0, 0) = some (if c < 128 then .inl (0, (c : Int), 0) else if 194 ≤ c ∧ c < 224 then .inl (1, ((c % 32 : Nat) : Int), 128) else if 224 ≤ c ∧ c < 240 then .inl (2, ((c % 16 : Nat) : Int), 2048)
    else if 240 ≤ c ∧ c < 245 then .inl (3, ((c % 8 : Nat) : Int), 65536) else .inr ([], false)) := by
  obtain ⟨a1, a2, a3, _, _⟩ := bAnd h
  unfold ref7_Runes_b3J
  simp only [a1, a2, a3]
  by_cases h1 : c < 128
  · rw [decide_eq_true (by omega), brn_true, if_pos h1]
  · rw [decide_eq_false (by omega), brn_false, if_neg h1]
    by_cases h2 : 194 ≤ c
    · rw [decide_eq_true (by omega), brn_true]
      by_cases h3 : c < 224
      · rw [decide_eq_true (by omega), brn_true, if_pos ⟨h2, h3⟩]
      · rw [decide_eq_false (by omega), brn_false, decide_eq_true (by omega), brn_true, if_neg (by omega)]
        by_cases h4 : c < 240
        · rw [decide_eq_true (by omega), brn_true, if_pos (by omega)]
        · rw [decide_eq_false (by omega), brn_false, decide_eq_true (by omega), brn_true, if_neg (by omega)]
          by_cases h5 : c < 245
          · rw [decide_eq_true (by omega), brn_true, if_pos (by omega)]
          · rw [decide_eq_false (by omega), brn_false, if_neg (by omega)]
    · rw [decide_eq_false (by omega), brn_false, decide_eq_false (by omega), brn_false, decide_eq_false (by omega), brn_false, if_neg (by omega), if_neg (by omega), if_neg (by omega)]
theorem rune_is {x : List UInt8} {out : List Int} {i : Nat} (hl : x.length ≤ 4000000) (ho : out.length ≤ 5000000) (hi : i < x.length) : ref7_Runes_b2J (x, out, (i : Int)) = some (oneR x out i) := by
  unfold ref7_Runes_b2J oneR
  have hd : x.drop i = x[i] :: x.drop (i + 1) := List.drop_eq_getElem_cons hi
  have hb0 := (x[i]'hi).toNat_lt
  have hL : (x.drop i).length = x.length - i := by simp
  have hL2 : (x.drop (i + 1)).length = x.length - i - 1 := by simp; omega
  have hD := decodeL_N (x.drop i)
  rw [hL, hd] at hD
  simp only [List.getD_cons_zero, List.getD_cons_succ] at hD
  rw [← hd] at hD
  simp only
  rw [idxB (List.getElem?_eq_getElem hi), obnd_some, wrap_nat (by omega), b3_is hb0, obnd_some, i64_in (n := (x.length : Int) - (i : Int)) (by omega) (by omega), hD]
  have k0 := ((x.drop (i + 1)).getD 0 0).toNat_lt
  have k1 := ((x.drop (i + 1)).getD 1 0).toNat_lt
  have k2 := ((x.drop (i + 1)).getD 2 0).toNat_lt
  generalize hc : (x[i]'hi).toNat = c at *
  have m1 := fun h v => more1 (l := x.drop (i + 1)) h v
  have m2 := fun h v => more2 (l := x.drop (i + 1)) h v
  have m3 := fun h v => more3 (l := x.drop (i + 1)) h v
  have r1 := fun v h h2 => more_is (x := x) (i := i) (n := 1) (v := v) (by omega) h (by omega) h2
  have r2 := fun v h h2 => more_is (x := x) (i := i) (n := 2) (v := v) (by omega) h (by omega) h2
  have r3 := fun v h h2 => more_is (x := x) (i := i) (n := 3) (v := v) (by omega) h (by omega) h2
  generalize ((x.drop (i + 1)).getD 0 0).toNat = b1 at *
  generalize ((x.drop (i + 1)).getD 1 0).toNat = b2 at *
  generalize ((x.drop (i + 1)).getD 2 0).toNat = b3 at *
  by_cases h1 : c < 128
  · rw [if_pos h1]
    simp only [osum]
    have ck := check_is (out := out) (i := i) (n := 0) (w := c) (least := 0) ho (by omega) (by omega)
    rw [decide_eq_false (by omega), brn_false, more0_is, obnd_some]
    simp only [osum]
    have z0 : ((0 : Nat) : Int) = 0 := rfl
    rw [z0] at ck
    rw [ck, decodeN_ascii _ _ _ _ _ h1, if_neg (by omega), if_neg (by simp; omega)]
  · rw [if_neg h1]
    by_cases h2 : 194 ≤ c ∧ c < 224
    · rw [if_pos h2]
      simp only [osum]
      by_cases hlen : x.length - i ≤ 1
      · rw [decide_eq_true (by omega), brn_true]
        have : decodeN (x.length - i) c b1 b2 b3 = (65533, 1) := by
          unfold decodeN
          rw [if_neg h1, if_neg (by omega), if_neg (by omega), if_neg (by omega)]
        rw [this, if_pos ⟨rfl, rfl⟩]
      · have r := r1 (c % 32) (by omega) (by omega)
        rw [m1 (by omega)] at r
        have ck := check_is (out := out) (i := i) (n := 1) (w := c % 32 * 64 + b1 % 64) (least := 128) ho (by omega) (by omega)
        have z1 : ((1 : Nat) : Int) = 1 := rfl
        have z2 : ((128 : Nat) : Int) = 128 := rfl
        rw [z1] at r ck
        rw [z2] at ck
        rw [decide_eq_false (by omega), brn_false, r, obnd_some]
        by_cases hb : b1 / 64 = 2
        · rw [if_pos hb]
          simp only [osum]
          rw [ck]
          have : decodeN (x.length - i) c b1 b2 b3 = (c % 32 * 64 + b1 % 64, 2) := by
            unfold decodeN
            rw [if_neg h1, if_pos (by omega), if_pos (by omega)]
          rw [this, if_neg (by omega), if_neg (by simp)]
        · rw [if_neg hb]
          simp only [osum]
          have : decodeN (x.length - i) c b1 b2 b3 = (65533, 1) := by
            unfold decodeN
            rw [if_neg h1, if_neg (by omega), if_neg (by omega), if_neg (by omega)]
          rw [this, if_pos ⟨rfl, rfl⟩]
    · rw [if_neg h2]
      by_cases h3 : 224 ≤ c ∧ c < 240
      · rw [if_pos h3]
        simp only [osum]
        by_cases hlen : x.length - i ≤ 2
        · rw [decide_eq_true (by omega), brn_true]
          have : decodeN (x.length - i) c b1 b2 b3 = (65533, 1) := by
            unfold decodeN
            rw [if_neg h1, if_neg (by omega), if_neg (by omega), if_neg (by omega)]
          rw [this, if_pos ⟨rfl, rfl⟩]
        · have r := r2 (c % 16) (by omega) (by omega)
          rw [m2 (by omega)] at r
          have ck := check_is (out := out) (i := i) (n := 2) (w := (c % 16 * 64 + b1 % 64) * 64 + b2 % 64) (least := 2048) ho (by omega) (by omega)
          have z1 : ((2 : Nat) : Int) = 2 := rfl
          have z2 : ((2048 : Nat) : Int) = 2048 := rfl
          rw [z1] at r ck
          rw [z2] at ck
          rw [decide_eq_false (by omega), brn_false, r, obnd_some]
          by_cases hb : b1 / 64 = 2 ∧ b2 / 64 = 2
          · rw [if_pos hb]
            simp only [osum]
            rw [ck]
            have e : (c % 16 * 64 + b1 % 64) * 64 + b2 % 64 = c % 16 * 4096 + b1 % 64 * 64 + b2 % 64 := by omega
            rw [e]
            by_cases hv : c % 16 * 4096 + b1 % 64 * 64 + b2 % 64 ≥ 2048 ∧ (c % 16 * 4096 + b1 % 64 * 64 + b2 % 64 < 55296 ∨ (57344 ≤ c % 16 * 4096 + b1 % 64 * 64 + b2 % 64 ∧ c % 16 * 4096 + b1 % 64 * 64 + b2 % 64 ≤ 1114111))
            · have : decodeN (x.length - i) c b1 b2 b3 = (c % 16 * 4096 + b1 % 64 * 64 + b2 % 64, 3) := by
                unfold decodeN
                rw [if_neg h1, if_neg (by omega), if_pos (by omega), if_pos hv]
              rw [this, if_neg (by omega), if_neg (by simp)]
            · have : decodeN (x.length - i) c b1 b2 b3 = (65533, 1) := by
                unfold decodeN
                rw [if_neg h1, if_neg (by omega), if_pos (by omega), if_neg hv]
              rw [this, if_pos (by omega), if_pos ⟨rfl, rfl⟩]
          · rw [if_neg hb]
            simp only [osum]
            have : decodeN (x.length - i) c b1 b2 b3 = (65533, 1) := by
              unfold decodeN
              rw [if_neg h1, if_neg (by omega), if_neg (by omega), if_neg (by omega)]
            rw [this, if_pos ⟨rfl, rfl⟩]
      · rw [if_neg h3]
        by_cases h4 : 240 ≤ c ∧ c < 245
        · rw [if_pos h4]
          simp only [osum]
          by_cases hlen : x.length - i ≤ 3
          · rw [decide_eq_true (by omega), brn_true]
            have : decodeN (x.length - i) c b1 b2 b3 = (65533, 1) := by
              unfold decodeN
              rw [if_neg h1, if_neg (by omega), if_neg (by omega), if_neg (by omega)]
            rw [this, if_pos ⟨rfl, rfl⟩]
          · have r := r3 (c % 8) (by omega) (by omega)
            rw [m3 (by omega)] at r
            have ck := check_is (out := out) (i := i) (n := 3) (w := ((c % 8 * 64 + b1 % 64) * 64 + b2 % 64) * 64 + b3 % 64) (least := 65536) ho (by omega) (by omega)
            have z1 : ((3 : Nat) : Int) = 3 := rfl
            have z2 : ((65536 : Nat) : Int) = 65536 := rfl
            rw [z1] at r ck
            rw [z2] at ck
            rw [decide_eq_false (by omega), brn_false, r, obnd_some]
            by_cases hb : b1 / 64 = 2 ∧ b2 / 64 = 2 ∧ b3 / 64 = 2
            · rw [if_pos hb]
              simp only [osum]
              rw [ck]
              have e : ((c % 8 * 64 + b1 % 64) * 64 + b2 % 64) * 64 + b3 % 64 = c % 8 * 262144 + b1 % 64 * 4096 + b2 % 64 * 64 + b3 % 64 := by omega
              rw [e]
              by_cases hv : c % 8 * 262144 + b1 % 64 * 4096 + b2 % 64 * 64 + b3 % 64 ≥ 65536 ∧ (c % 8 * 262144 + b1 % 64 * 4096 + b2 % 64 * 64 + b3 % 64 < 55296 ∨ (57344 ≤ c % 8 * 262144 + b1 % 64 * 4096 + b2 % 64 * 64 + b3 % 64 ∧ c % 8 * 262144 + b1 % 64 * 4096 + b2 % 64 * 64 + b3 % 64 ≤ 1114111))
              · have : decodeN (x.length - i) c b1 b2 b3 = (c % 8 * 262144 + b1 % 64 * 4096 + b2 % 64 * 64 + b3 % 64, 4) := by
                  unfold decodeN
                  rw [if_neg h1, if_neg (by omega), if_neg (by omega), if_pos (by omega), if_pos hv]
                rw [this, if_neg (by omega), if_neg (by simp)]
              · have : decodeN (x.length - i) c b1 b2 b3 = (65533, 1) := by
                  unfold decodeN
                  rw [if_neg h1, if_neg (by omega), if_neg (by omega), if_pos (by omega), if_neg hv]
                rw [this, if_pos (by omega), if_pos ⟨rfl, rfl⟩]
            · rw [if_neg hb]
              simp only [osum]
              have : decodeN (x.length - i) c b1 b2 b3 = (65533, 1) := by
                unfold decodeN
                rw [if_neg h1, if_neg (by omega), if_neg (by omega), if_neg (by omega)]
              rw [this, if_pos ⟨rfl, rfl⟩]
        · rw [if_neg h4]
          simp only [osum]
          have : decodeN (x.length - i) c b1 b2 b3 = (65533, 1) := by
            unfold decodeN
            rw [if_neg h1]
            split
            · rw [if_neg (by omega)]
            · rw [if_neg (by omega)]
              split
              · rw [if_neg (by omega)]
              · rfl
          rw [this, if_pos ⟨rfl, rfl⟩]
theorem refRunes_is {x : List UInt8} (hl : x.length ≤ 4000000) : ref7_RunesF x = some (if validD x = true then (rs x, true) else ([], false)) := by
  obtain ⟨y, h1, h2⟩ := iter_ex (F := ref7_Runes_l1F) (fun z => x.length - z.2.2.toNat) (fun z => ∃ (i : Nat) (out : List Int), z = (x, out, (i : Int)) ∧ i ≤ x.length ∧ out.length ≤ i ∧ validD (x.drop i) = validD x ∧ out ++ rs (x.drop i) = rs x)
      (fun y => osum y (fun y => some (y, true)) (fun y => some y) = some (if validD x = true then (rs x, true) else ([], false))) (by
    rintro back z ⟨i, out, rfl, hi, ho, hv, hr⟩ hb
    unfold ref7_Runes_l1F
    simp only at hb ⊢
    rcases Nat.lt_or_ge i x.length with hlt | hge
    · have hne : x.drop i ≠ [] := fun e => by have := congrArg List.length e; simp at this; omega
      have hw := decodeL_width (x.drop i)
      have hle := decodeL_le (x.drop i) hne
      rw [List.length_drop] at hle
      rw [decide_eq_true (by omega), brn_true, rune_is (by omega) (by omega) hlt, obnd_some]
      unfold oneR
      rw [validD_step _ hne] at hv
      by_cases hbad : (decodeL (x.drop i)).1 = 65533 ∧ (decodeL (x.drop i)).2 = 1
      · rw [if_pos hbad] at hv ⊢
        rw [← hv]
        exact ⟨_, rfl, rfl⟩
      · rw [if_neg hbad] at hv ⊢
        simp only [osum]
        rw [List.drop_drop] at hv
        refine hb _ ⟨i + (decodeL (x.drop i)).2, _, rfl, by omega, by simp; omega, hv, ?_⟩ (by simp only; omega)
        rw [rs_cons hne, List.drop_drop] at hr
        rw [← hr, List.append_assoc]; rfl
    · rw [decide_eq_false (by omega), brn_false]
      refine ⟨_, rfl, ?_⟩
      rw [List.drop_eq_nil_of_le hge] at hv hr
      rw [← hv, ← hr]
      simp [osum, validD_nil, rs_nil]) (x, [], 0) ⟨0, [], rfl, by omega, by simp, by simp, by simp⟩ (by simp only; omega)
  unfold ref7_RunesF
  have h3 : ref7_Runes_l1J (x, [], 0) = some y := h1
  rw [h3, obnd_some]
  exact h2
end Go.Proofs.YtdgpkbnnljblmaaGreatDoor
