/- XC -/
import Derived.Test.YtdgpkbnnljblmaaGreatDoorXB
namespace Go.Proofs.YtdgpkbnnljblmaaGreatDoor
open Go Go.Ev Go.Lib
set_option linter.unusedSimpArgs false
theorem number_eq {a : Val} (h : okV a) (hl : a.S.length ≤ 3000) : ∃ r, val_NumberF a = some r ∧ ref13_NumberF a = some r := by
  rcases h with rfl | ⟨d, rfl, hd⟩ | ⟨s, rfl, hs⟩ | ⟨t, rfl⟩ | ⟨e, rfl⟩
  · exact ⟨_, rfl, rfl⟩
  · exact ⟨_, rfl, rfl⟩
  · have hl : s.length ≤ 3000 := hl
    unfold val_NumberF ref13_NumberF vS val_FaultF ref13_FaultF
    simp [parse_is (x := s) (by omega), refParse_is (x := s) (by omega)]
    by_cases h : (parseSpec s).2 = 0 <;> simp [h]
  · cases t <;> exact ⟨_, rfl, rfl⟩
  · exact ⟨_, rfl, rfl⟩
theorem text_eq {a : Val} (h : okV a) (hm : I64 a.N.M) : ∃ r, val_TextF a = some r ∧ ref13_ValTextF a = some r := by
  rcases h with rfl | ⟨d, rfl, hd⟩ | ⟨s, rfl, hs⟩ | ⟨t, rfl⟩ | ⟨e, rfl⟩
  · exact ⟨_, rfl, rfl⟩
  · obtain ⟨M, S⟩ := d
    have hm' : I64 M := hm
    obtain ⟨s, rfl⟩ := Int.eq_ofNat_of_zero_le hd.1
    have hs : s ≤ 9 := by have := hd.2.1; simp only at this; omega
    have e1 := decText_is hm' hs
    have e2 := refText_is hm' hs
    unfold val_TextF ref13_ValTextF vN
    exact ⟨decWords M s, by simp [e1], by simp [e2]⟩
  · exact ⟨_, rfl, rfl⟩
  · cases t <;> exact ⟨_, rfl, rfl⟩
  · obtain ⟨n, hn⟩ := name_is e
    have hn' : ref13_ErrTextF e = some n := hn
    unfold val_TextF ref13_ValTextF vE
    exact ⟨n, by simp [hn], by simp [hn']⟩
theorem words_eq {a : Val} (h : okV a) (hm : I64 a.N.M) : ∃ r, val_WordsF a = some r ∧ ref13_WordsF a = some r := by
  obtain ⟨r, h1, h2⟩ := text_eq h hm
  unfold val_WordsF ref13_WordsF
  rw [h1, h2]
  by_cases h4 : a.Kind = 4
  · exact ⟨([], a, false), by simp [h4], by simp [h4]⟩
  · exact ⟨(r, ⟨0, ⟨0, 0⟩, [], false, 0⟩, true), by simp [h4], by simp [h4]⟩
theorem ok0 : okD ⟨0, 0⟩ := ⟨by simp, by simp, fun h => by simp at h⟩
theorem I0 : I64 0 := by unfold I64; omega
end Go.Proofs.YtdgpkbnnljblmaaGreatDoor
