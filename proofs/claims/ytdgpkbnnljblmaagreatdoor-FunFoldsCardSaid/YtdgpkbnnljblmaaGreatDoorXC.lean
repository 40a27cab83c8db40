/- XC -/
import Derived.Test.YtdgpkbnnljblmaaGreatDoorXB
namespace Go.Proofs.YtdgpkbnnljblmaaGreatDoor
open Go Go.Ev Go.Lib
set_option linter.unusedSimpArgs false
theorem number_eq {a : Val} (h : okV a) (hl : a.S.length ≤ 3000) : ∃ r, val_NumberF a = some r ∧ ref13_NumberF a = some r := by
  rcases h with rfl | ⟨d, rfl, hd⟩ | ⟨s, rfl, hs⟩ | ⟨t, rfl⟩ | ⟨e, rfl⟩
  · exact ⟨_, rfl, rfl⟩
  · exact ⟨_, rfl, rfl⟩
  · have hl : s.length ≤ 3000 := hl
    unfold val_NumberF ref13_NumberF vS val_FaultF ref13_FaultF
    simp [parse_is (x := s) (by omega), refParse_is (x := s) (by omega)]
    by_cases h : (parseSpec s).2 = 0 <;> simp [h]
  · cases t <;> exact ⟨_, rfl, rfl⟩
  · exact ⟨_, rfl, rfl⟩
theorem cmp_num {d d' : Dec} (h : okD d) (h' : okD d') (m : I64 d.M) (m' : I64 d'.M) : dec_CompareF (d, d') = some (cmpV (V d) (V d')) ∧ ref7_CompareDecF (d, d') = some (cmpV (V d) (V d')) := by
  refine ⟨Compare_is m m' h.1 h.2.1 h'.1 h'.2.1, ?_⟩
  obtain ⟨M, S⟩ := d
  obtain ⟨N, T⟩ := d'
  obtain ⟨s, rfl⟩ := Int.eq_ofNat_of_zero_le h.1
  obtain ⟨t, rfl⟩ := Int.eq_ofNat_of_zero_le h'.1
  have hs := h.2.1
  have ht := h'.2.1
  simp only at hs ht m m'
  exact refCompare_is m m' (by omega) (by omega)
theorem ok0 : okD ⟨0, 0⟩ := ⟨by simp, by simp, fun h => by simp at h⟩
theorem I0 : I64 0 := by unfold I64; omega
end Go.Proofs.YtdgpkbnnljblmaaGreatDoor
