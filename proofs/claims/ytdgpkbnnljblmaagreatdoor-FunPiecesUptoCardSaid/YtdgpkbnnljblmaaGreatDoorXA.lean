/- XA -/
import Derived.Test.YtdgpkbnnljblmaaGreatDoorX9
namespace Go.Proofs.YtdgpkbnnljblmaaGreatDoor
open Go Go.Ev Go.Lib
def ulen : List Int → Nat
  | [] => 0
  | r :: l => (if r < 65536 then 1 else 2) + ulen l
theorem ulen_le : ∀ l : List Int, ulen l ≤ 2 * l.length
  | [] => by simp [ulen]
  | r :: l => by
    have := ulen_le l
    simp only [ulen, List.length_cons]
    split <;> omega
theorem unitsLen_is {x : List UInt8} (hl : x.length ≤ 100000000) : ∃ us, str_unitsF x = some us ∧ us.length = ulen (rs x) := by
  have key : ∃ y, str_units_l1J ([], x, 0) = some y ∧ (y.1.length = ulen (rs x)) := by
    refine iter_ex (F := str_units_l1F) (fun z => x.length - z.2.2) (fun z => ∃ (out : List Int) (p : Nat), z = (out, x, p) ∧ out.length ≤ 2 * p ∧ (p < x.length ∨ rs (x.drop p) = []) ∧ out.length + ulen (rs (x.drop p)) = ulen (rs x)) _ ?_ _ ⟨[], 0, rfl, by simp, by
      by_cases h : x = []
      · subst h; exact .inr rfl
      · exact .inl (List.length_pos_iff.2 h), by simp⟩ (by simp only; omega)
    rintro back z ⟨out, p, rfl, ho, hp, hv⟩ hb
    unfold str_units_l1F
    simp only at hb ⊢
    by_cases hlt : p < x.length
    · have hne : x.drop p ≠ [] := fun e => by have := congrArg List.length e; simp at this; omega
      have hr := rune_drop x p
      have hw := decodeL_width (x.drop p)
      have hle := decodeL_le (x.drop p) hne
      rw [List.length_drop] at hle
      rw [rs_cons hne, List.drop_drop] at hv
      simp only [ulen] at hv
      rw [decide_eq_true hlt, brn_true, hr]
      have step : ∀ us : List Int, us.length = (if ((decodeL (x.drop p)).1 : Int) < 65536 then 1 else 2) → ∃ y, back (out ++ us, x, p + (decodeL (x.drop p)).2) = some y ∧ y.1.length = ulen (rs x) := fun us hus => by
        refine hb _ ⟨_, _, rfl, ?_, ?_, ?_⟩ (by simp only; omega)
        · simp only [List.length_append, hus]; split <;> omega
        · rcases Nat.lt_or_ge (p + (decodeL (x.drop p)).2) x.length with h | h
          · exact .inl h
          · right; rw [List.drop_eq_nil_of_le h]; rfl
        · simp only [List.length_append, hus]; omega
      have hs : (if ((decodeL (x.drop p)).1 : Int) < 65536 then 1 else 2) ≤ 2 := by split <;> omega
      by_cases h6 : ((decodeL (x.drop p)).1 : Int) < 65536
      · rw [decide_eq_true h6, brn_true, appN (by simp; omega), obnd_some]
        exact step _ (by rw [if_pos h6]; rfl)
      · rw [decide_eq_false h6, brn_false, appN (by simp; omega), obnd_some]
        exact step _ (by rw [if_neg h6]; rfl)
    · rw [decide_eq_false hlt, brn_false]
      rcases hp with h | h
      · exact absurd h hlt
      · rw [h] at hv
        exact ⟨_, rfl, by simpa [ulen] using hv⟩
  obtain ⟨y, h1, h2⟩ := key
  refine ⟨y.1, ?_, h2⟩
  unfold str_unitsF
  rw [h1]; rfl
def unitsV (x : List UInt8) : Int × Int := if validD x = true then (if 1000 < ulen (rs x) then (0, 4) else ((ulen (rs x) : Int), 0)) else (0, 2)
theorem Units_is {x : List UInt8} (hl : x.length ≤ 100000000) : str_UnitsF x = some (unitsV x) := by
  unfold str_UnitsF utf8_ValidStringF unitsV
  rw [obnd_some]
  cases hv : validD x with
  | false => simp
  | true =>
    obtain ⟨us, h1, h2⟩ := unitsLen_is hl
    rw [Bool.not_true, brn_false, h1, obnd_some, h2]
    by_cases h : 1000 < ulen (rs x)
    · rw [decide_eq_true (by omega), brn_true]; simp [h]
    · rw [decide_eq_false (by omega), brn_false]; simp [h]
end Go.Proofs.YtdgpkbnnljblmaaGreatDoor
