/- XC -/
import Derived.Test.YtdgpkbnnljblmaaGreatDoorXB
namespace Go.Proofs.YtdgpkbnnljblmaaGreatDoor
open Go Go.Ev Go.Lib
set_option linter.unusedSimpArgs false
theorem check_eq {x : Val} (hl : x.S.length ≤ 3000) : ∃ e, val_CheckF x = some e ∧ ref13_CheckValF x = some e ∧ (e = 0 → okV x) := by
  obtain ⟨K, ⟨M, S⟩, s, B, E⟩ := x
  simp only at hl
  unfold val_CheckF ref13_CheckValF
  simp only
  by_cases k0 : K < 0
  · exact ⟨1, by simp [k0], by simp [k0], by omega⟩
  by_cases k4 : 4 < K
  · exact ⟨1, by simp [k0, k4], by simp [k0, k4], by omega⟩
  rw [decide_eq_false k0, decide_eq_false k4]
  simp only [brn_false]
  have hK : K = 0 ∨ K = 1 ∨ K = 2 ∨ K = 3 ∨ K = 4 := by omega
  have hun := Units_is (x := s) (by omega)
  have hru := refUnits_is (x := s) (by omega)
  obtain ⟨n, hn⟩ := name_is E
  have hn' : ref13_ErrTextF E = some n := hn
  rcases hK with rfl | rfl | rfl | rfl | rfl
  · unfold val_ownF ref13_CheckVal_b1J
    by_cases hM : M = 0 <;> by_cases hS : S = 0 <;> by_cases hs : s = [] <;> cases B <;> by_cases hE : E = 0 <;> simp [hM, hS, hs, hE, okV, vB]
  · unfold val_ownF ref13_CheckVal_b1J
    have hc : dec_CheckF ⟨M, S⟩ = ref7_CheckDecF ⟨M, S⟩ := rfl
    rcases CheckDec_is ⟨M, S⟩ with ⟨h1, h2⟩ | ⟨e, h1, h2⟩
    · by_cases hs : s = [] <;> cases B <;> by_cases hE : E = 0 <;> simp [hs, hE, hc, h1, okV, vB, vN, vS, vT, vE, h2]
    · by_cases hs : s = [] <;> cases B <;> by_cases hE : E = 0 <;> simp [hs, hE, hc, h1, h2]
  · unfold val_ownF ref13_CheckVal_b1J
    by_cases hM : M = 0 <;> by_cases hS : S = 0 <;> cases B <;> by_cases hE : E = 0 <;> simp [hM, hS, hE, hun, hru, okV, vB, vN, vS, vT, vE]
    unfold unitsV
    cases hv : validD s with
    | true => simp
    | false => simp
  · unfold val_ownF ref13_CheckVal_b1J
    by_cases hM : M = 0 <;> by_cases hS : S = 0 <;> by_cases hs : s = [] <;> cases B <;> by_cases hE : E = 0 <;> simp [hM, hS, hs, hE, okV, vB, vN, vS, vT, vE]
  · unfold val_ownF ref13_CheckVal_b1J val_FaultF
    by_cases hn0 : n = [] <;> by_cases hM : M = 0 <;> by_cases hS : S = 0 <;> by_cases hs : s = [] <;> cases B <;> simp [hM, hS, hs, hn, hn', hn0, okV, vB, vN, vS, vT, vE]
theorem number_eq {a : Val} (h : okV a) (hl : a.S.length ≤ 3000) : ∃ r, val_NumberF a = some r ∧ ref13_NumberF a = some r := by
  rcases h with rfl | ⟨d, rfl, hd⟩ | ⟨s, rfl, hs⟩ | ⟨t, rfl⟩ | ⟨e, rfl⟩
  · exact ⟨_, rfl, rfl⟩
  · exact ⟨_, rfl, rfl⟩
  · have hl : s.length ≤ 3000 := hl
    unfold val_NumberF ref13_NumberF vS val_FaultF ref13_FaultF
    simp [parse_is (x := s) (by omega), refParse_is (x := s) (by omega)]
    by_cases h : (parseSpec s).2 = 0 <;> simp [h]
  · cases t <;> exact ⟨_, rfl, rfl⟩
  · exact ⟨_, rfl, rfl⟩
theorem text_eq {a : Val} (h : okV a) (hm : I64 a.N.M) : ∃ r, val_TextF a = some r ∧ ref13_ValTextF a = some r := by
  rcases h with rfl | ⟨d, rfl, hd⟩ | ⟨s, rfl, hs⟩ | ⟨t, rfl⟩ | ⟨e, rfl⟩
  · exact ⟨_, rfl, rfl⟩
  · obtain ⟨M, S⟩ := d
    have hm' : I64 M := hm
    obtain ⟨s, rfl⟩ := Int.eq_ofNat_of_zero_le hd.1
    have hs : s ≤ 9 := by have := hd.2.1; simp only at this; omega
    have e1 := decText_is hm' hs
    have e2 := refText_is hm' hs
    unfold val_TextF ref13_ValTextF vN
    exact ⟨decWords M s, by simp [e1], by simp [e2]⟩
  · exact ⟨_, rfl, rfl⟩
  · cases t <;> exact ⟨_, rfl, rfl⟩
  · obtain ⟨n, hn⟩ := name_is e
    have hn' : ref13_ErrTextF e = some n := hn
    unfold val_TextF ref13_ValTextF vE
    exact ⟨n, by simp [hn], by simp [hn']⟩
theorem cmp_num {d d' : Dec} (h : okD d) (h' : okD d') (m : I64 d.M) (m' : I64 d'.M) : dec_CompareF (d, d') = some (cmpV (V d) (V d')) ∧ ref7_CompareDecF (d, d') = some (cmpV (V d) (V d')) := by
  refine ⟨Compare_is m m' h.1 h.2.1 h'.1 h'.2.1, ?_⟩
  obtain ⟨M, S⟩ := d
  obtain ⟨N, T⟩ := d'
  obtain ⟨s, rfl⟩ := Int.eq_ofNat_of_zero_le h.1
  obtain ⟨t, rfl⟩ := Int.eq_ofNat_of_zero_le h'.1
  have hs := h.2.1
  have ht := h'.2.1
  simp only at hs ht m m'
  exact refCompare_is m m' (by omega) (by omega)
theorem cmp_txt {s t : List UInt8} (hs : s.length ≤ 3000) (ht : t.length ≤ 3000) (vs : validD s = true) (vt : validD t = true) : ∃ n, val_textsF (s, t) = some n ∧ brn (!decide (s = t)) (brn (sLt s t) (some (-1)) (some 1)) (some 0) = some n := by
  refine ⟨_, texts_is hs ht, ?_⟩
  rw [order_is s.length s t (Nat.le_refl _) vs vt]
  by_cases h : s = t
  · simp [h]
  · cases hlt : sLt s t <;> simp [h]
theorem cmp_err (e e' : Int) : brn (!decide (e = e')) (brn (decide (e < e')) (some (-1 : Int)) (some 1)) (some 0) = some (cmpV e e') := by
  unfold cmpV
  by_cases h : e = e'
  · simp [h]
  · by_cases h2 : e < e'
    · simp [h, h2]
    · have : e' < e := by omega
      simp [h, h2, this]
theorem ok0 : okD ⟨0, 0⟩ := ⟨by simp, by simp, fun h => by simp at h⟩
theorem I0 : I64 0 := by unfold I64; omega
theorem compare_eq {a b : Val} (ha : okV a) (hb : okV b) (la : a.S.length ≤ 3000) (lb : b.S.length ≤ 3000) (ma : I64 a.N.M) (mb : I64 b.N.M) : ∃ r, val_CompareF (a, b) = some r ∧ ref13_CompareValsF (a, b) = some r := by
  rcases ha with rfl | ⟨d, rfl, hd⟩ | ⟨s, rfl, hs⟩ | ⟨t, rfl⟩ | ⟨e, rfl⟩
  · rcases hb with rfl | ⟨d', rfl, hd'⟩ | ⟨s', rfl, hs'⟩ | ⟨t', rfl⟩ | ⟨e', rfl⟩
    · unfold val_CompareF val_Compare_b1J val_Compare_b2J ref13_CompareValsF ref13_asF
      simp [vB, vN, vS, vT, vE, cmpi_is, cmpV, osum, val_numberF, cmp_err]
    · obtain ⟨c1, c2⟩ := cmp_num ok0 hd' I0 mb
      unfold val_CompareF val_Compare_b1J val_Compare_b2J ref13_CompareValsF ref13_asF
      simp [c1, c2, vB, vN, vS, vT, vE, cmpi_is, cmpV, osum, val_numberF, cmp_err]
    · obtain ⟨n, c1, c2⟩ := cmp_txt (s := []) (t := s') (by simp) lb (by rfl) hs'
      rw [show decide (([] : List UInt8) = s') = decide (s' = []) from by rw [decide_eq_decide]; exact eq_comm] at c2
      unfold val_CompareF val_Compare_b1J val_Compare_b2J ref13_CompareValsF ref13_asF
      simp [c1, c2, vB, vN, vS, vT, vE, cmpi_is, cmpV, osum, val_numberF, cmp_err]
    · cases t' <;> exact ⟨_, rfl, rfl⟩
    · unfold val_CompareF val_Compare_b1J val_Compare_b2J ref13_CompareValsF ref13_asF
      simp [vB, vN, vS, vT, vE, cmpi_is, cmpV, osum, val_numberF, cmp_err]
  · rcases hb with rfl | ⟨d', rfl, hd'⟩ | ⟨s', rfl, hs'⟩ | ⟨t', rfl⟩ | ⟨e', rfl⟩
    · obtain ⟨c1, c2⟩ := cmp_num hd ok0 ma I0
      unfold val_CompareF val_Compare_b1J val_Compare_b2J ref13_CompareValsF ref13_asF
      simp [c1, c2, vB, vN, vS, vT, vE, cmpi_is, cmpV, osum, val_numberF, cmp_err]
    · obtain ⟨c1, c2⟩ := cmp_num hd hd' ma mb
      unfold val_CompareF val_Compare_b1J val_Compare_b2J ref13_CompareValsF ref13_asF
      simp [c1, c2, vB, vN, vS, vT, vE, cmpi_is, cmpV, osum, val_numberF, cmp_err]
    · unfold val_CompareF val_Compare_b1J val_Compare_b2J ref13_CompareValsF ref13_asF
      simp [vB, vN, vS, vT, vE, cmpi_is, cmpV, osum, val_numberF, cmp_err]
    · unfold val_CompareF val_Compare_b1J val_Compare_b2J ref13_CompareValsF ref13_asF
      simp [vB, vN, vS, vT, vE, cmpi_is, cmpV, osum, val_numberF, cmp_err]
    · unfold val_CompareF val_Compare_b1J val_Compare_b2J ref13_CompareValsF ref13_asF
      simp [vB, vN, vS, vT, vE, cmpi_is, cmpV, osum, val_numberF, cmp_err]
  · rcases hb with rfl | ⟨d', rfl, hd'⟩ | ⟨s', rfl, hs'⟩ | ⟨t', rfl⟩ | ⟨e', rfl⟩
    · obtain ⟨n, c1, c2⟩ := cmp_txt (s := s) (t := []) la (by simp) hs (by rfl)
      unfold val_CompareF val_Compare_b1J val_Compare_b2J ref13_CompareValsF ref13_asF
      simp [c1, c2, vB, vN, vS, vT, vE, cmpi_is, cmpV, osum, val_numberF, cmp_err]
    · unfold val_CompareF val_Compare_b1J val_Compare_b2J ref13_CompareValsF ref13_asF
      simp [vB, vN, vS, vT, vE, cmpi_is, cmpV, osum, val_numberF, cmp_err]
    · obtain ⟨n, c1, c2⟩ := cmp_txt (s := s) (t := s') la lb hs hs'
      unfold val_CompareF val_Compare_b1J val_Compare_b2J ref13_CompareValsF ref13_asF
      simp [c1, c2, vB, vN, vS, vT, vE, cmpi_is, cmpV, osum, val_numberF, cmp_err]
    · unfold val_CompareF val_Compare_b1J val_Compare_b2J ref13_CompareValsF ref13_asF
      simp [vB, vN, vS, vT, vE, cmpi_is, cmpV, osum, val_numberF, cmp_err]
    · unfold val_CompareF val_Compare_b1J val_Compare_b2J ref13_CompareValsF ref13_asF
      simp [vB, vN, vS, vT, vE, cmpi_is, cmpV, osum, val_numberF, cmp_err]
  · rcases hb with rfl | ⟨d', rfl, hd'⟩ | ⟨s', rfl, hs'⟩ | ⟨t', rfl⟩ | ⟨e', rfl⟩
    · cases t <;> exact ⟨_, rfl, rfl⟩
    · unfold val_CompareF val_Compare_b1J val_Compare_b2J ref13_CompareValsF ref13_asF
      simp [vB, vN, vS, vT, vE, cmpi_is, cmpV, osum, val_numberF, cmp_err]
    · unfold val_CompareF val_Compare_b1J val_Compare_b2J ref13_CompareValsF ref13_asF
      simp [vB, vN, vS, vT, vE, cmpi_is, cmpV, osum, val_numberF, cmp_err]
    · cases t <;> cases t' <;> exact ⟨_, rfl, rfl⟩
    · unfold val_CompareF val_Compare_b1J val_Compare_b2J ref13_CompareValsF ref13_asF
      simp [vB, vN, vS, vT, vE, cmpi_is, cmpV, osum, val_numberF, cmp_err]
  · rcases hb with rfl | ⟨d', rfl, hd'⟩ | ⟨s', rfl, hs'⟩ | ⟨t', rfl⟩ | ⟨e', rfl⟩
    · unfold val_CompareF val_Compare_b1J val_Compare_b2J ref13_CompareValsF ref13_asF
      simp [vB, vN, vS, vT, vE, cmpi_is, cmpV, osum, val_numberF, cmp_err]
    · unfold val_CompareF val_Compare_b1J val_Compare_b2J ref13_CompareValsF ref13_asF
      simp [vB, vN, vS, vT, vE, cmpi_is, cmpV, osum, val_numberF, cmp_err]
    · unfold val_CompareF val_Compare_b1J val_Compare_b2J ref13_CompareValsF ref13_asF
      simp [vB, vN, vS, vT, vE, cmpi_is, cmpV, osum, val_numberF, cmp_err]
    · unfold val_CompareF val_Compare_b1J val_Compare_b2J ref13_CompareValsF ref13_asF
      simp [vB, vN, vS, vT, vE, cmpi_is, cmpV, osum, val_numberF, cmp_err]
    · unfold val_CompareF val_Compare_b1J val_Compare_b2J ref13_CompareValsF ref13_asF
      simp [vB, vN, vS, vT, vE, cmpi_is, cmpV, osum, val_numberF, cmp_err]
end Go.Proofs.YtdgpkbnnljblmaaGreatDoor
