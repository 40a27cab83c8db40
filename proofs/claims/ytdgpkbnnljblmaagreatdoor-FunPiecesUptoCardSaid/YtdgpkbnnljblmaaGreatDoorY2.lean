/- Y2 -/
import Derived.Test.YtdgpkbnnljblmaaGreatDoorY1
namespace Go.Proofs.YtdgpkbnnljblmaaGreatDoor
open Go Go.Ev Go.Lib
def numR (v : Val) : Dec × Val × Bool := (val_NumberF v).getD (⟨0, 0⟩, v0, false)
def worR (v : Val) : List UInt8 × Val × Bool := (val_WordsF v).getD ([], v0, false)
theorem num_eq {v : Val} (h : okW v) : val_NumberF v = some (numR v) ∧ ref13_NumberF v = some (numR v) := by
  obtain ⟨r, h1, h2⟩ := number_eq h.1 h.2.1
  unfold numR
  rw [h1]; exact ⟨rfl, h2⟩
theorem wor_eq {v : Val} (h : okW v) : val_WordsF v = some (worR v) ∧ ref13_WordsF v = some (worR v) := by
  obtain ⟨r, h1, h2⟩ := words_eq h.1 h.2.2
  unfold worR
  rw [h1]; exact ⟨rfl, h2⟩
theorem parse_ok (x : List UInt8) : okD (parseSpec x).1 ∧ I64 (parseSpec x).1.M := by
  have z : okD ⟨0, 0⟩ ∧ I64 (⟨0, 0⟩ : Dec).M := ⟨ok0, I0⟩
  unfold parseSpec
  generalize (cutW (textOf x)).1 = w
  generalize (cutW (textOf x)).2.1 = b
  generalize (cutW (textOf x)).2.2 = p
  generalize minusOf x = m
  split
  · exact z
  · rename_i hc
    have hd : (w ++ b).all isD = true := by
      cases h : (w ++ b).all isD with
      | true => rfl
      | false => rw [h] at hc; simp at hc
    unfold judged
    by_cases h1 : (if m then 9223372036854775808 < valB (w ++ b) 0 else 9223372036854775808 ≤ valB (w ++ b) 0)
    · rw [if_pos h1]; exact z
    rw [if_neg h1]
    by_cases h2 : 9 < b.length ∨ b.getLast? = some 48
    · rw [if_pos h2]; exact z
    rw [if_neg h2]
    simp only [not_or] at h2
    refine ⟨⟨by simp, by simp only; omega, fun h3 hm => ?_⟩, ?_⟩
    · simp only at h3 hm
      rcases List.eq_nil_or_concat b with rfl | ⟨l, c, rfl⟩
      · simp at h3
      · simp only [List.concat_eq_append] at hd h2 hm
        have hc : isD c = true := by
          rw [List.all_eq_true] at hd
          exact hd c (by simp)
        have hne : c ≠ 48 := fun e => h2.2 (by simp [e])
        have hv : valB (w ++ (l ++ [c])) 0 % 10 = c.toNat - 48 := by
          rw [← List.append_assoc, valB_append]
          unfold isD at hc
          simp only [Bool.and_eq_true, decide_eq_true_eq] at hc
          simp only [valB]; omega
        have hc48 : c.toNat ≠ 48 := fun e => hne (UInt8.toNat_inj.1 (by simpa using e))
        unfold isD at hc
        simp only [Bool.and_eq_true, decide_eq_true_eq] at hc
        generalize valB (w ++ (l ++ [c])) 0 = n at hv hm
        cases m
        · simp at hm; omega
        · simp at hm; omega
    · unfold I64
      generalize valB (w ++ b) 0 = n at h1
      cases m
      · simp at h1 ⊢; omega
      · simp at h1 ⊢; omega
theorem num_ok {v : Val} (h : okW v) : okD (numR v).1 ∧ I64 (numR v).1.M := by
  have z : okD ⟨0, 0⟩ ∧ I64 (⟨0, 0⟩ : Dec).M := ⟨ok0, I0⟩
  obtain ⟨h, hl, hm⟩ := h
  rcases h with rfl | ⟨d, rfl, hd⟩ | ⟨s, rfl, hs⟩ | ⟨t, rfl⟩ | ⟨e, rfl⟩
  · exact z
  · exact ⟨hd, hm⟩
  · have hl : s.length ≤ 3000 := hl
    unfold numR val_NumberF vS val_FaultF
    simp [parse_is (x := s) (by omega)]
    by_cases h : (parseSpec s).2 = 0 <;> simp [h]
    · exact parse_ok s
    · exact z
  · cases t
    · exact z
    · exact ⟨okInt 1, by unfold I64; decide⟩
  · exact z
end Go.Proofs.YtdgpkbnnljblmaaGreatDoor
