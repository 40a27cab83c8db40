/- Y3 -/
import Derived.Test.YtdgpkbnnljblmaaGreatDoorY2
namespace Go.Proofs.YtdgpkbnnljblmaaGreatDoor
open Go Go.Ev Go.Lib
def okd (d : Dec) : Prop := okD d ∧ I64 d.M
theorem okd0 : okd ⟨0, 0⟩ := ⟨ok0, I0⟩
theorem natS {d : Dec} (h : okD d) : ∃ s : Nat, d = ⟨d.M, (s : Int)⟩ ∧ s ≤ 9 := by
  obtain ⟨M, S⟩ := d
  obtain ⟨s, rfl⟩ := Int.eq_ofNat_of_zero_le h.1
  have := h.2.1
  exact ⟨s, rfl, by simp only at this; omega⟩
theorem cmp_eq {a b : Dec} (ha : okd a) (hb : okd b) : dec_CompareF (a, b) = some (cmpV (V a) (V b)) ∧ ref7_CompareDecF (a, b) = some (cmpV (V a) (V b)) := cmp_num ha.1 hb.1 ha.2 hb.2
def numV (r : Dec × Int) : Val := if r.2 = 0 then vN r.1 else if r.2 = 9 then vE 7 else vE 36
theorem num_is2 (r : Dec × Int) : fun_numF r = some (numV r) := by
  unfold fun_numF numV
  by_cases h : r.2 = 0
  · simp [h, vN]
  · by_cases h9 : r.2 = 9 <;> simp [h, h9, fault_is]
theorem foldX_inl {A S Y : Type} (f : S → A → S) (fin : S → Y) : ∀ (l : List A) (s : S), foldX (fun s a => .inl (f s a)) fin s l = fin (l.foldl f s)
  | [], _ => rfl
  | a :: l, s => by simp only [foldX, List.foldl_cons]; exact foldX_inl f fin l _
end Go.Proofs.YtdgpkbnnljblmaaGreatDoor
