/- YT -/
import Derived.Test.YtdgpkbnnljblmaaGreatDoorY6
import Derived.Test.YtdgpkbnnljblmaaGreatDoorKC
namespace Go.Proofs.YtdgpkbnnljblmaaGreatDoor
open Go Go.Ev Go.Lib
theorem lo_pos : ∀ k : Fin 30, 5 ≤ k.val → k.val ≠ 11 → k.val ≠ 12 → k.val ≠ 18 → k.val ≠ 25 → k.val ≠ 28 → 0 < arLo k.val := by decide +kernel
theorem hi_few : ∀ k : Fin 30, 5 ≤ k.val → k.val ≠ 11 → k.val ≠ 12 → k.val ≠ 18 → k.val ≠ 25 → arHi k.val < 31 := by decide +kernel
theorem one_ar : arLo 29 = 1 ∧ arHi 29 = 1 ∧ arLo 21 = 1 ∧ arHi 21 = 1 ∧ arLo 22 = 1 ∧ arHi 22 = 1 := by decide +kernel
def manyOf (v : Val) : List Arg := List.replicate 31 ⟨false, [v]⟩
theorem many_is (v : Val) : (obnd (mkList 32 ({ Area := false, L := [] } : Arg) 31 31) fun xs => law11_FunTypes_l1J (v, xs, 0)) = some (manyOf v) := by
  unfold manyOf; kernel_rfl
theorem b2_is {k : Nat} (h5 : 5 ≤ k) (h : k < 30) : law11_FunTypes_b2J (k : Int) = some false := by
  unfold law11_FunTypes_b2J
  by_cases c1 : (k : Int) = 11
  · rw [decide_eq_true c1]; rfl
  by_cases c2 : (k : Int) = 12
  · rw [decide_eq_false c1, decide_eq_true c2]; rfl
  by_cases c3 : (k : Int) = 18
  · rw [decide_eq_false c1, decide_eq_false c2, decide_eq_true c3]; rfl
  by_cases c4 : (k : Int) = 25
  · rw [decide_eq_false c1, decide_eq_false c2, decide_eq_false c3, decide_eq_true c4]; rfl
  by_cases c5 : (k : Int) = 28
  · rw [decide_eq_false c1, decide_eq_false c2, decide_eq_false c3, decide_eq_false c4, decide_eq_true c5]; rfl
  rw [decide_eq_false c1, decide_eq_false c2, decide_eq_false c3, decide_eq_false c4, decide_eq_false c5, apply_bad h (l := []) (.inl (by
    have := lo_pos ⟨k, h⟩ h5 (by simp only; omega) (by simp only; omega) (by simp only; omega) (by simp only; omega) (by simp only; omega)
    simpa using this))]
  simp [fault_is]
theorem b3_is2 {k : Nat} (h5 : 5 ≤ k) (h : k < 30) (v : Val) : law11_FunTypes_b3J ((k : Int), manyOf v) = some false := by
  unfold law11_FunTypes_b3J
  simp only
  by_cases c1 : (k : Int) = 11
  · rw [decide_eq_true c1]; rfl
  by_cases c2 : (k : Int) = 12
  · rw [decide_eq_false c1, decide_eq_true c2]; rfl
  by_cases c3 : (k : Int) = 18
  · rw [decide_eq_false c1, decide_eq_false c2, decide_eq_true c3]; rfl
  by_cases c4 : (k : Int) = 25
  · rw [decide_eq_false c1, decide_eq_false c2, decide_eq_false c3, decide_eq_true c4]; rfl
  rw [decide_eq_false c1, decide_eq_false c2, decide_eq_false c3, decide_eq_false c4, apply_bad h (.inr (by
    have := hi_few ⟨k, h⟩ h5 (by simp only; omega) (by simp only; omega) (by simp only; omega) (by simp only; omega)
    unfold manyOf
    rw [List.length_replicate]; simpa using this))]
  simp [fault_is]
theorem ask_one {k : Nat} (v : Val) (h : k = 29 ∨ k = 21 ∨ k = 22) : fun_ApplyF ((k : Int), [⟨false, [v]⟩]) = single k [v] := by
  obtain ⟨a1, a2, a3, a4, a5, a6⟩ := one_ar
  have hc : core k [⟨false, [v]⟩] = single k [v] := by
    rw [core_rest (by simp) (by omega)]; rfl
  rcases h with rfl | rfl | rfl
  · rw [apply_ok (by omega) (by rw [a1]; simp) (by rw [a2]; simp), hc]
  · rw [apply_ok (by omega) (by rw [a3]; simp) (by rw [a4]; simp), hc]
  · rw [apply_ok (by omega) (by rw [a5]; simp) (by rw [a6]; simp), hc]
theorem FunTypes_true {v : Val} {op : UInt8} (mv : I64 v.N.M) : law11_FunTypesF (v, op) = some true := by
  unfold law11_FunTypesF
  rw [show law11_knownF () = some true from rfl, obnd_some]
  simp only [Bool.not_true, brn_false]
  by_cases h1 : 1000 < (v.S.length : Int)
  · rw [decide_eq_true h1, brn_true]
  rw [decide_eq_false h1, brn_false]
  obtain ⟨e, cv, _, _⟩ := check_eq (x := v) (by omega)
  rw [cv, obnd_some]
  by_cases he : e = 0
  · subst he
    have wv := okW_of (by omega) mv cv
    have hk := kinds_of wv
    have hw : IntKind.i64.wrap (5 + IntKind.i64.wrap ((op.toNat : Int).tmod 25)) = ((5 + op.toNat % 25 : Nat) : Int) := by
      rw [show (op.toNat : Int).tmod 25 = ((op.toNat % 25 : Nat) : Int) from by rw [Int.tmod_eq_emod_of_nonneg (by omega)]; rfl, i64_in (n := ((op.toNat % 25 : Nat) : Int)) (by omega) (by omega), i64_in (by omega) (by omega)]; omega
    have hm := many_is v
    simp only [decide_true, Bool.not_true, brn_false, one_is, obnd_some, hw]
    revert hm
    cases mkList 32 ({ Area := false, L := [] } : Arg) 31 31 with
    | none => intro hm; cases hm
    | some xs =>
      intro hm
      simp only [obnd_some] at hm ⊢
      rw [hm]
      simp only [obnd_some]
      rw [b2_is (by omega) (by omega), b3_is2 (by omega) (by omega)]
      simp only [obnd_some, brn_false]
      rw [show ((29 : Int)) = ((29 : Nat) : Int) from rfl, show ((21 : Int)) = ((21 : Nat) : Int) from rfl, show ((22 : Int)) = ((22 : Nat) : Int) from rfl, ask_one v (.inl rfl), ask_one v (.inr (.inl rfl)), ask_one v (.inr (.inr rfl))]
      rw [show (((29 : Nat)) : Int) = 29 from rfl, show (((21 : Nat)) : Int) = 21 from rfl, show (((22 : Nat)) : Int) = 22 from rfl, single_type [] hk, single_blank, single_err]
      rcases hk with h | h | h | h | h <;> (rw [h]; rfl)
  · rw [decide_eq_false he]; rfl
end Go.Proofs.YtdgpkbnnljblmaaGreatDoor
