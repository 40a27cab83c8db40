/- Y4 -/
import Derived.Test.YtdgpkbnnljblmaaGreatDoorY3
namespace Go.Proofs.YtdgpkbnnljblmaaGreatDoor
open Go Go.Ev Go.Lib
theorem good_of {a : List UInt8} (ha : a ≠ []) (h : validD a = true) : good a ∧ validD (a.drop (decodeL a).2) = true := by
  rw [validD_step a ha] at h
  unfold good
  by_cases c : (decodeL a).1 = 65533 ∧ (decodeL a).2 = 1
  · rw [if_pos c] at h; cases h
  · rw [if_neg c] at h; exact ⟨c, h⟩
end Go.Proofs.YtdgpkbnnljblmaaGreatDoor
