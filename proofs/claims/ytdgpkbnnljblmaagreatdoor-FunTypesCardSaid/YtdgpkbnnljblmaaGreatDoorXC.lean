/- XC -/
import Derived.Test.YtdgpkbnnljblmaaGreatDoorXB
namespace Go.Proofs.YtdgpkbnnljblmaaGreatDoor
open Go Go.Ev Go.Lib
set_option linter.unusedSimpArgs false
theorem check_eq {x : Val} (hl : x.S.length ≤ 3000) : ∃ e, val_CheckF x = some e ∧ ref13_CheckValF x = some e ∧ (e = 0 → okV x) := by
  obtain ⟨K, ⟨M, S⟩, s, B, E⟩ := x
  simp only at hl
  unfold val_CheckF ref13_CheckValF
  simp only
  by_cases k0 : K < 0
  · exact ⟨1, by simp [k0], by simp [k0], by omega⟩
  by_cases k4 : 4 < K
  · exact ⟨1, by simp [k0, k4], by simp [k0, k4], by omega⟩
  rw [decide_eq_false k0, decide_eq_false k4]
  simp only [brn_false]
  have hK : K = 0 ∨ K = 1 ∨ K = 2 ∨ K = 3 ∨ K = 4 := by omega
  have hun := Units_is (x := s) (by omega)
  have hru := refUnits_is (x := s) (by omega)
  obtain ⟨n, hn⟩ := name_is E
  have hn' : ref13_ErrTextF E = some n := hn
  rcases hK with rfl | rfl | rfl | rfl | rfl
  · unfold val_ownF ref13_CheckVal_b1J
    by_cases hM : M = 0 <;> by_cases hS : S = 0 <;> by_cases hs : s = [] <;> cases B <;> by_cases hE : E = 0 <;> simp [hM, hS, hs, hE, okV, vB]
  · unfold val_ownF ref13_CheckVal_b1J
    have hc : dec_CheckF ⟨M, S⟩ = ref7_CheckDecF ⟨M, S⟩ := rfl
    rcases CheckDec_is ⟨M, S⟩ with ⟨h1, h2⟩ | ⟨e, h1, h2⟩
    · by_cases hs : s = [] <;> cases B <;> by_cases hE : E = 0 <;> simp [hs, hE, hc, h1, okV, vB, vN, vS, vT, vE, h2]
    · by_cases hs : s = [] <;> cases B <;> by_cases hE : E = 0 <;> simp [hs, hE, hc, h1, h2]
  · unfold val_ownF ref13_CheckVal_b1J
    by_cases hM : M = 0 <;> by_cases hS : S = 0 <;> cases B <;> by_cases hE : E = 0 <;> simp [hM, hS, hE, hun, hru, okV, vB, vN, vS, vT, vE]
    unfold unitsV
    cases hv : validD s with
    | true => simp
    | false => simp
  · unfold val_ownF ref13_CheckVal_b1J
    by_cases hM : M = 0 <;> by_cases hS : S = 0 <;> by_cases hs : s = [] <;> cases B <;> by_cases hE : E = 0 <;> simp [hM, hS, hs, hE, okV, vB, vN, vS, vT, vE]
  · unfold val_ownF ref13_CheckVal_b1J val_FaultF
    by_cases hn0 : n = [] <;> by_cases hM : M = 0 <;> by_cases hS : S = 0 <;> by_cases hs : s = [] <;> cases B <;> simp [hM, hS, hs, hn, hn', hn0, okV, vB, vN, vS, vT, vE]
end Go.Proofs.YtdgpkbnnljblmaaGreatDoor
