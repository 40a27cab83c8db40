/- The law on any two values: it is true. -/
import Derived.Test.YtmlbknmjgahcfaaGreatDoorXC
import Derived.Test.YtmlbknmjgahcfaaGreatDoorV3
namespace Go.Proofs.YtmlbknmjgahcfaaGreatDoor
open Go Go.Ev Go.Lib
set_option linter.unusedSimpArgs false

theorem same_dec (d : Dec) : (bif true then !(decide (d.M = d.M) && decide (d.S = d.S)) else decide (d.M = d.M) && decide (d.S = d.S)) = false := by simp
theorem same_val (v : Val) : (bif true then !(decide (v.Kind = v.Kind) && (decide (v.N.M = v.N.M) && (decide (v.N.S = v.N.S) && (decide (v.S = v.S) && (decide (v.B = v.B) && decide (v.E = v.E)))))) else decide (v.Kind = v.Kind) && (decide (v.N.M = v.N.M) && (decide (v.N.S = v.N.S) && (decide (v.S = v.S) && (decide (v.B = v.B) && decide (v.E = v.E)))))) = false := by simp
theorem ofV (v : Val) : law9_OfF v = some v := rfl
theorem of4 (d : Dec) : law4_OfF d = some d := rfl
theorem sameB (a b : Val) : decide (a = b) = (decide (a.Kind = b.Kind) && (decide (a.N.M = b.N.M) && (decide (a.N.S = b.N.S) && (decide (a.S = b.S) && (decide (a.B = b.B) && decide (a.E = b.E)))))) := by
  obtain ⟨K, ⟨M, S⟩, s, B, E⟩ := a
  obtain ⟨K', ⟨M', S'⟩, s', B', E'⟩ := b
  simp only [Val.mk.injEq, Dec.mk.injEq]
  by_cases h1 : K = K' <;> by_cases h2 : M = M' <;> by_cases h3 : S = S' <;> by_cases h4 : s = s' <;> by_cases h5 : B = B' <;> by_cases h6 : E = E' <;> simp [h1, h2, h3, h4, h5, h6]
theorem ValAny_true {x : Val × Val} (h1 : I64 x.1.N.M) (h2 : I64 x.2.N.M) : law9_ValAnyF x = some true := by
  obtain ⟨a, b⟩ := x
  simp only at h1 h2
  unfold law9_ValAnyF law9_knownF
  simp only [obnd_some, Bool.not_true, brn_false, ofV]
  have e1 : law9_ValAny_b1J (a, b) = some (decide (3000 < a.S.length ∨ 3000 < b.S.length)) := by
    unfold law9_ValAny_b1J
    simp only
    by_cases g1 : 3000 < a.S.length
    · rw [decide_eq_true (by omega), brn_true]; simp [g1]
    · rw [decide_eq_false (by omega), brn_false]
      congr 1
      rw [decide_eq_decide]; omega
  rw [e1, obnd_some]
  by_cases hlen : 3000 < a.S.length ∨ 3000 < b.S.length
  · rw [decide_eq_true hlen, brn_true]
  · rw [decide_eq_false hlen, brn_false]
    have la : a.S.length ≤ 3000 := by omega
    have lb : b.S.length ≤ 3000 := by omega
    obtain ⟨ea, ca, da, oa⟩ := check_eq (x := a) la
    obtain ⟨eb, cb, db, ob⟩ := check_eq (x := b) lb
    have e2 : law9_ValAny_b2J (a, b, a, b) = some false := by
      unfold law9_ValAny_b2J
      simp only
      rw [ca, obnd_some, da, obnd_some, decide_eq_true rfl, Bool.not_true, brn_false, Same_is, obnd_some, sameB]
      simp
    rw [e2, obnd_some, brn_false]
    have e3 : law9_ValAny_b3J (a, b) = some (decide (¬ (ea = 0 ∧ eb = 0))) := by
      unfold law9_ValAny_b3J
      simp only
      rw [da, obnd_some, db]
      by_cases g1 : ea = 0 <;> by_cases g2 : eb = 0 <;> simp [g1, g2]
    rw [e3, obnd_some]
    by_cases hz : ea = 0 ∧ eb = 0
    · rw [decide_eq_false (by simp [hz]), brn_false]
      have va := oa hz.1
      have vb := ob hz.2
      obtain ⟨n, n1, n2⟩ := number_eq va la
      obtain ⟨w, w1, w2⟩ := words_eq va h1
      obtain ⟨t, t1, t2⟩ := truth_eq va
      obtain ⟨u, u1, u2⟩ := text_eq va h1
      obtain ⟨c, c1, c2⟩ := compare_eq va vb la lb h1 h2
      rw [n1, obnd_some, n2, obnd_some, w1, w2, t1, t2, u1, u2, c1, c2]
      have e4 : law9_ValAny_b4J (n.1, n.2.1, n.2.2, n.1, n.2) = some false := by
        unfold law9_ValAny_b4J
        simp [of4, ofV]
      have e5 : law9_ValAny_b5J (w.2.1, w.2.2, w.2.1, w.1, w.1, w.2.2) = some false := by
        unfold law9_ValAny_b5J
        simp [of4, ofV]
      simp only [obnd_some]
      rw [e4, obnd_some, brn_false, e5]
      simp [ofV]
    · rw [decide_eq_true (by simpa using hz), brn_true]
end Go.Proofs.YtmlbknmjgahcfaaGreatDoor
