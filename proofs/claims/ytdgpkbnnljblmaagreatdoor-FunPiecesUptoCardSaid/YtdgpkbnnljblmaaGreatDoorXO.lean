/- XO -/
import Derived.Test.YtdgpkbnnljblmaaGreatDoorQQ
import Derived.Lib.ValidLaws
namespace Go.Proofs.YtdgpkbnnljblmaaGreatDoor
open Go Go.Ev Go.Lib
def rl : Nat → List UInt8 → List Int
  | 0, _ => []
  | n + 1, l => if l = [] then [] else ((decodeL l).1 : Int) :: rl n (l.drop (decodeL l).2)
theorem rl_nil : ∀ n, rl n [] = []
  | 0 => rfl
  | n + 1 => by simp [rl]
theorem rl_fuel : ∀ (n m : Nat) (l : List UInt8), l.length ≤ n → l.length ≤ m → rl n l = rl m l
  | 0, m, l, hn, _ => by
    have : l = [] := List.eq_nil_of_length_eq_zero (by omega)
    subst this
    rw [rl_nil, rl_nil]
  | n + 1, 0, l, _, hm => by
    have : l = [] := List.eq_nil_of_length_eq_zero (by omega)
    subst this
    rw [rl_nil, rl_nil]
  | n + 1, m + 1, l, hn, hm => by
    unfold rl
    by_cases hne : l = []
    · simp [hne]
    · have hw := decodeL_width l
      have hl : 0 < l.length := List.length_pos_iff.2 hne
      rw [if_neg hne, if_neg hne, rl_fuel n m (l.drop (decodeL l).2) (by rw [List.length_drop]; omega) (by rw [List.length_drop]; omega)]
def rs (l : List UInt8) : List Int := rl l.length l
theorem rs_nil : rs [] = [] := rfl
theorem rs_cons {l : List UInt8} (h : l ≠ []) : rs l = ((decodeL l).1 : Int) :: rs (l.drop (decodeL l).2) := by
  have hl : 0 < l.length := List.length_pos_iff.2 h
  have hw := decodeL_width l
  obtain ⟨n, hn⟩ : ∃ n, l.length = n + 1 := ⟨l.length - 1, by omega⟩
  unfold rs
  rw [hn]
  show (if l = [] then [] else _) = _
  rw [if_neg h, rl_fuel n (l.drop (decodeL l).2).length _ (by rw [List.length_drop]; omega) (Nat.le_refl _)]
theorem rune_drop (s : List UInt8) (i : Nat) : rune s i = decodeL (s.drop i) := (decodeL_drop ⟨s.toArray⟩ i).symm
theorem runesL_rl (s : List UInt8) : ∀ (n i : Nat), runesL s n i = rl n (s.drop i)
  | 0, _ => rfl
  | n + 1, i => by
    unfold runesL rl
    by_cases h : i < s.length
    · have hb : Nat.blt i s.length = true := Nat.ble_eq_true_of_le h
      rw [hb, cond_true, if_neg (fun h0 => by have := congrArg List.length h0; simp at this; omega), rune_drop, runesL_rl s n, List.drop_drop]
    · have hb : Nat.blt i s.length = false := by
        cases hb : Nat.blt i s.length with
        | false => rfl
        | true => exact absurd (Nat.le_of_ble_eq_true hb) h
      rw [hb, cond_false, if_pos (List.drop_eq_nil_of_le (by omega))]
theorem runes_is {s : List UInt8} (h : s.length ≤ 70368744177664) : runes s = some (rs s) := by
  unfold runes
  rw [Nat.ble_eq_true_of_le h, cond_true, runesL_rl, List.drop_zero]; rfl
theorem rs_length : ∀ (l : List UInt8), (rs l).length ≤ l.length := fun l => by
  have : ∀ (n : Nat) (l : List UInt8), (rl n l).length ≤ n := by
    intro n
    induction n with
    | zero => intro l; simp [rl]
    | succ n ih =>
      intro l
      unfold rl
      split
      · simp
      · have := ih (l.drop (decodeL l).2); simp; omega
  exact this l.length l
structure Ord (α : Type) (c : α → α → Int) : Prop where
  vals : ∀ a b, c a b = -1 ∨ c a b = 0 ∨ c a b = 1
  swap : ∀ a b, c b a = - c a b
  same : ∀ a b, c a b = 0 ↔ a = b
  less : ∀ a b d, c a b = -1 → c b d = -1 → c a d = -1
end Go.Proofs.YtdgpkbnnljblmaaGreatDoor
