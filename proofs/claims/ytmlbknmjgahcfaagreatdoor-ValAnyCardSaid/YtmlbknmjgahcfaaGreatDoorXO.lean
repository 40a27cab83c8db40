/- Texts by their runes, in plain Lean: which comes first. -/
import Derived.Test.YtmlbknmjgahcfaaGreatDoorQQ
import Derived.Lib.ValidLaws
namespace Go.Proofs.YtmlbknmjgahcfaaGreatDoor
open Go Go.Ev Go.Lib

/-- a text's runes -/
def rl : Nat → List UInt8 → List Int
  | 0, _ => []
  | n + 1, l => if l = [] then [] else ((decodeL l).1 : Int) :: rl n (l.drop (decodeL l).2)
theorem rl_nil : ∀ n, rl n [] = []
  | 0 => rfl
  | n + 1 => by simp [rl]
theorem rl_fuel : ∀ (n m : Nat) (l : List UInt8), l.length ≤ n → l.length ≤ m → rl n l = rl m l
  | 0, m, l, hn, _ => by
    have : l = [] := List.eq_nil_of_length_eq_zero (by omega)
    subst this
    rw [rl_nil, rl_nil]
  | n + 1, 0, l, _, hm => by
    have : l = [] := List.eq_nil_of_length_eq_zero (by omega)
    subst this
    rw [rl_nil, rl_nil]
  | n + 1, m + 1, l, hn, hm => by
    unfold rl
    by_cases hne : l = []
    · simp [hne]
    · have hw := decodeL_width l
      have hl : 0 < l.length := List.length_pos_iff.2 hne
      rw [if_neg hne, if_neg hne, rl_fuel n m (l.drop (decodeL l).2) (by rw [List.length_drop]; omega) (by rw [List.length_drop]; omega)]
def rs (l : List UInt8) : List Int := rl l.length l
theorem rs_nil : rs [] = [] := rfl
theorem rs_cons {l : List UInt8} (h : l ≠ []) : rs l = ((decodeL l).1 : Int) :: rs (l.drop (decodeL l).2) := by
  have hl : 0 < l.length := List.length_pos_iff.2 h
  have hw := decodeL_width l
  obtain ⟨n, hn⟩ : ∃ n, l.length = n + 1 := ⟨l.length - 1, by omega⟩
  unfold rs
  rw [hn]
  show (if l = [] then [] else _) = _
  rw [if_neg h, rl_fuel n (l.drop (decodeL l).2).length _ (by rw [List.length_drop]; omega) (Nat.le_refl _)]
theorem rune_drop (s : List UInt8) (i : Nat) : rune s i = decodeL (s.drop i) := (decodeL_drop ⟨s.toArray⟩ i).symm
theorem runesL_rl (s : List UInt8) : ∀ (n i : Nat), runesL s n i = rl n (s.drop i)
  | 0, _ => rfl
  | n + 1, i => by
    unfold runesL rl
    by_cases h : i < s.length
    · have hb : Nat.blt i s.length = true := Nat.ble_eq_true_of_le h
      rw [hb, cond_true, if_neg (fun h0 => by have := congrArg List.length h0; simp at this; omega), rune_drop, runesL_rl s n, List.drop_drop]
    · have hb : Nat.blt i s.length = false := by
        cases hb : Nat.blt i s.length with
        | false => rfl
        | true => exact absurd (Nat.le_of_ble_eq_true hb) h
      rw [hb, cond_false, if_pos (List.drop_eq_nil_of_le (by omega))]
theorem runes_is {s : List UInt8} (h : s.length ≤ 70368744177664) : runes s = some (rs s) := by
  unfold runes
  rw [Nat.ble_eq_true_of_le h, cond_true, runesL_rl, List.drop_zero]; rfl
theorem rs_length : ∀ (l : List UInt8), (rs l).length ≤ l.length := fun l => by
  have : ∀ (n : Nat) (l : List UInt8), (rl n l).length ≤ n := by
    intro n
    induction n with
    | zero => intro l; simp [rl]
    | succ n ih =>
      intro l
      unfold rl
      split
      · simp
      · have := ih (l.drop (decodeL l).2); simp; omega
  exact this l.length l
/-- texts that may be are told by their runes -/
theorem rs_inj : ∀ (n : Nat) (a b : List UInt8), a.length ≤ n → validD a = true → validD b = true → rs a = rs b → a = b
  | 0, a, b, hn, _, _, h => by
    have : a = [] := List.eq_nil_of_length_eq_zero (by omega)
    subst this
    by_cases hb : b = []
    · exact hb.symm
    · rw [rs_cons hb] at h; cases h
  | n + 1, a, b, hn, ha, hb, h => by
    by_cases a0 : a = []
    · subst a0
      by_cases hb : b = []
      · exact hb.symm
      · rw [rs_cons hb] at h; cases h
    · by_cases b0 : b = []
      · subst b0; rw [rs_cons a0] at h; cases h
      · rw [validD_step a a0] at ha
        rw [validD_step b b0] at hb
        rw [rs_cons a0, rs_cons b0] at h
        simp only [List.cons.injEq] at h
        obtain ⟨h1, h2⟩ := h
        have va : ¬ ((decodeL a).1 = 65533 ∧ (decodeL a).2 = 1) := fun hh => by rw [if_pos hh] at ha; cases ha
        have vb : ¬ ((decodeL b).1 = 65533 ∧ (decodeL b).2 = 1) := fun hh => by rw [if_pos hh] at hb; cases hb
        rw [if_neg va] at ha
        rw [if_neg vb] at hb
        have hw := decodeL_width a
        have hl : 0 < a.length := List.length_pos_iff.2 a0
        have e1 := encode_decode a a0 va
        have e2 := encode_decode b b0 vb
        rw [h1, e2] at e1
        have e3 := rs_inj n (a.drop (decodeL a).2) (b.drop (decodeL b).2) (by rw [List.length_drop]; omega) ha hb h2
        rw [← List.take_append_drop (decodeL a).2 a, ← List.take_append_drop (decodeL b).2 b, e3, e1]

/-! ## which comes first -/
def cmpN (x y : Int) : Int := if x < y then -1 else if y < x then 1 else 0
theorem cmpN_cases (a b : Int) : (cmpN a b = -1 ∧ a < b) ∨ (cmpN a b = 0 ∧ a = b) ∨ (cmpN a b = 1 ∧ b < a) := by
  unfold cmpN
  split
  · exact .inl ⟨rfl, by omega⟩
  · split
    · exact .inr (.inr ⟨rfl, by omega⟩)
    · exact .inr (.inl ⟨rfl, by omega⟩)
def cmpL : List Int → List Int → Int
  | [], [] => 0
  | [], _ :: _ => -1
  | _ :: _, [] => 1
  | r :: az, b :: bs => if r = b then cmpL az bs else cmpN r b
/-- an order that holds together: a comparison's three laws -/
structure Ord (α : Type) (c : α → α → Int) : Prop where
  vals : ∀ a b, c a b = -1 ∨ c a b = 0 ∨ c a b = 1
  swap : ∀ a b, c b a = - c a b
  same : ∀ a b, c a b = 0 ↔ a = b
  less : ∀ a b d, c a b = -1 → c b d = -1 → c a d = -1
theorem ordN : Ord Int cmpN where
  vals a b := by rcases cmpN_cases a b with h | h | h <;> omega
  swap a b := by rcases cmpN_cases a b with h | h | h <;> rcases cmpN_cases b a with k | k | k <;> omega
  same a b := by rcases cmpN_cases a b with h | h | h <;> omega
  less a b d h1 h2 := by rcases cmpN_cases a b with h | h | h <;> rcases cmpN_cases b d with k | k | k <;> rcases cmpN_cases a d with l | l | l <;> omega
theorem ordL : Ord (List Int) cmpL where
  vals a b := by
    induction a generalizing b with
    | nil => cases b <;> simp [cmpL]
    | cons r az ih =>
      cases b with
      | nil => simp [cmpL]
      | cons b bs =>
        unfold cmpL
        split
        · exact ih bs
        · exact ordN.vals r b
  swap a b := by
    induction a generalizing b with
    | nil => cases b <;> simp [cmpL]
    | cons r az ih =>
      cases b with
      | nil => simp [cmpL]
      | cons b bs =>
        unfold cmpL
        by_cases h : r = b
        · rw [if_pos h, if_pos h.symm]; exact ih bs
        · rw [if_neg h, if_neg (fun e => h e.symm)]; exact ordN.swap r b
  same a b := by
    induction a generalizing b with
    | nil => cases b <;> simp [cmpL]
    | cons r az ih =>
      cases b with
      | nil => simp [cmpL]
      | cons b bs =>
        unfold cmpL
        by_cases h : r = b
        · rw [if_pos h, ih bs]; simp [h]
        · rw [if_neg h, ordN.same]; simp [h]
  less a b d h1 h2 := by
    induction a generalizing b d with
    | nil =>
      cases d with
      | nil => cases b <;> simp [cmpL] at h1 h2
      | cons => rfl
    | cons r az ih =>
      cases b with
      | nil => simp [cmpL] at h1
      | cons b bs =>
        cases d with
        | nil => simp [cmpL] at h2
        | cons d ds =>
          unfold cmpL at h1 h2 ⊢
          by_cases e1 : r = b
          · subst e1
            rw [if_pos rfl] at h1
            by_cases e2 : r = d
            · subst e2
              rw [if_pos rfl] at h2 ⊢
              exact ih bs ds h1 h2
            · rw [if_neg e2] at h2 ⊢
              exact h2
          · rw [if_neg e1] at h1
            by_cases e2 : b = d
            · subst e2
              rw [if_neg e1]; exact h1
            · rw [if_neg e2] at h2
              have := ordN.less r b d h1 h2
              have e3 : r ≠ d := fun e => by rw [(ordN.same r d).2 e] at this; omega
              rw [if_neg e3]; exact this

/-- one rune after the other -/
def walk : List Int → List Int → Int → Int ⊕ Int
  | [], _, i => .inl i
  | _ :: _, [], _ => .inr 1
  | r :: az, b :: bs, i => if r = b then walk az bs (i + 1) else .inr (cmpN r b)
theorem walk_is : ∀ (az bs : List Int) (i : Int), (match walk az bs i with | .inl k => cmpN k (i + bs.length) | .inr r => r) = cmpL az bs
  | [], [], i => by simp [walk, cmpL, cmpN]
  | [], b :: bs, i => by
    unfold walk cmpL cmpN
    simp only [List.length_cons]
    rw [if_pos (by omega)]
  | r :: az, [], i => by simp [walk, cmpL]
  | r :: az, b :: bs, i => by
    unfold walk cmpL
    by_cases h : r = b
    · rw [if_pos h, if_pos h]
      have := walk_is az bs (i + 1)
      rw [← this]
      have e : i + 1 + (bs.length : Int) = i + ((b :: bs).length : Int) := by simp only [List.length_cons]; omega
      rw [e]
    · rw [if_neg h, if_neg h]
end Go.Proofs.YtmlbknmjgahcfaaGreatDoor
