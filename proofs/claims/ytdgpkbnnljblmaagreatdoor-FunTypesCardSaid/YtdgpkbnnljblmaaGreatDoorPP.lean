/- PP -/
import Derived.Test.YtdgpkbnnljblmaaGreatDoorV1
import Derived.Lib.ItoaNum
namespace Go.Proofs.YtdgpkbnnljblmaaGreatDoor
open Go Go.Ev
def okD (d : Dec) : Prop := 0 ≤ d.S ∧ d.S ≤ 9 ∧ (0 < d.S → ¬ d.M % 10 = 0)
def V (d : Dec) : Int := d.M * 10 ^ (9 - d.S.toNat)
def I64 (n : Int) : Prop := -9223372036854775808 ≤ n ∧ n ≤ 9223372036854775807
instance (n : Int) : Decidable (I64 n) := inferInstanceAs (Decidable (_ ∧ _))
theorem u64 (n : Int) : IntKind.u64.wrap n = n % 18446744073709551616 := by simp [IntKind.wrap, IntKind.bits, IntKind.signed]
theorem i64 (n : Int) : IntKind.i64.wrap n = (n + 9223372036854775808) % 18446744073709551616 - 9223372036854775808 := IntKind.wrap_i64 n
theorem i64_in {n : Int} (h0 : -9223372036854775808 ≤ n) (h1 : n ≤ 9223372036854775807) : IntKind.i64.wrap n = n := by rw [i64]; omega
def W (v : Int) (m : Bool) : Wide := ⟨v / 18446744073709551616, v % 18446744073709551616, m⟩
theorem tmod10 (m : Int) : (m.tmod 10 = 0 ↔ m % 10 = 0) ∧ (m % 10 = 0 → m.tdiv 10 = m / 10) :=
  ⟨by rw [← Int.dvd_iff_tmod_eq_zero, ← Int.dvd_iff_emod_eq_zero], fun h => Int.tdiv_eq_ediv_of_dvd (Int.dvd_of_emod_eq_zero h)⟩
theorem CheckDec_is (d : Dec) : ref7_CheckDecF d = some 0 ∧ okD d ∨ ∃ e, ref7_CheckDecF d = some e ∧ e ≠ 0 := by
  unfold ref7_CheckDecF okD
  by_cases h1 : d.S < 0
  · exact .inr ⟨1, by simp [h1], by omega⟩
  · by_cases h2 : 9 < d.S
    · exact .inr ⟨1, by simp [h1, h2], by omega⟩
    · by_cases h3 : 0 < d.S
      · by_cases h4 : d.M.tmod 10 = 0
        · exact .inr ⟨1, by simp [h1, h2, h3, h4], by omega⟩
        · exact .inl ⟨by simp [h1, h2, h3, h4], by omega, by omega, fun _ h => h4 ((tmod10 d.M).1.2 h)⟩
      · exact .inl ⟨by simp [h1, h2, h3], by omega, by omega, fun h => absurd h h3⟩
end Go.Proofs.YtdgpkbnnljblmaaGreatDoor
