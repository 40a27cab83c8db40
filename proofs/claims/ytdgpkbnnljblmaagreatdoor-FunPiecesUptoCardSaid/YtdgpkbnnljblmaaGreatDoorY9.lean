/- Y9 -/
import Derived.Test.YtdgpkbnnljblmaaGreatDoorY8
namespace Go.Proofs.YtdgpkbnnljblmaaGreatDoor
open Go Go.Ev Go.Lib
theorem apply_many {k : Nat} {l : List Arg} (hl : l.length ≤ 1000) (h : k = 0 ∨ k = 1 ∨ k = 2 ∨ k = 3 ∨ k = 4 ∨ k = 11 ∨ k = 12 ∨ k = 18) : fun_ApplyF ((k : Int), l) = fun_manyF ((k : Int), l) := by
  have ha : arLo k = 0 ∧ arHi k = 9223372036854775807 := by
    rcases h with rfl | rfl | rfl | rfl | rfl | rfl | rfl | rfl <;> decide +kernel
  rw [apply_ok (by omega) (by rw [ha.1]; omega) (by rw [ha.2]; omega), core_many (by omega)]
end Go.Proofs.YtdgpkbnnljblmaaGreatDoor
