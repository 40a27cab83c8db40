/- YS -/
import Derived.Test.YtdgpkbnnljblmaaGreatDoorY5
import Derived.Test.YtdgpkbnnljblmaaGreatDoorKB
namespace Go.Proofs.YtdgpkbnnljblmaaGreatDoor
open Go Go.Ev Go.Lib
theorem FunSigns_true {op : Int} {a b : Val} (ma : I64 a.N.M) (mb : I64 b.N.M) : law11_FunSignsF (op, a, b) = some true := by
  unfold law11_FunSignsF
  rw [show law11_knownF () = some true from rfl, obnd_some]
  simp only [Bool.not_true, brn_false]
  by_cases h1 : 3000 < (a.S.length : Int)
  · rw [decide_eq_true h1, brn_true]
  rw [decide_eq_false h1, brn_false]
  by_cases h2 : 3000 < (b.S.length : Int)
  · rw [decide_eq_true h2, brn_true]
  rw [decide_eq_false h2, brn_false]
  obtain ⟨e, ca, _, _⟩ := check_eq (x := a) (by omega)
  obtain ⟨e', cb, _, _⟩ := check_eq (x := b) (by omega)
  rw [ca, obnd_some]
  by_cases he : e = 0
  · subst he
    simp only [decide_true, Bool.not_true, brn_false]
    rw [cb, obnd_some]
    by_cases he' : e' = 0
    · subst he'
      have wa := okW_of (by omega) ma ca
      have wb := okW_of (by omega) mb cb
      obtain ⟨v, b1, b2⟩ := bin_eq (op := op) wa wb
      obtain ⟨u, u1, u2⟩ := un_eq (op := op) wa
      simp only [decide_true, Bool.not_true, brn_false, of_is2, obnd_some]
      rw [b1]
      simp only [obnd_some]
      rw [b2]
      simp only [obnd_some, decide_true, Bool.and_self, cond_false, brn_true]
      rw [u1]
      simp only [obnd_some]
      rw [u2]
      simp
    · rw [decide_eq_false he']; rfl
  · rw [decide_eq_false he]; rfl
end Go.Proofs.YtdgpkbnnljblmaaGreatDoor
