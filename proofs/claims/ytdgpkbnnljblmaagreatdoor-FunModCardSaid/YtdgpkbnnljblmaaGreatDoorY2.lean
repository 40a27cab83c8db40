/- Y2 -/
import Derived.Test.YtdgpkbnnljblmaaGreatDoorY1
namespace Go.Proofs.YtdgpkbnnljblmaaGreatDoor
open Go Go.Ev Go.Lib
def numR (v : Val) : Dec × Val × Bool := (val_NumberF v).getD (⟨0, 0⟩, v0, false)
theorem num_eq {v : Val} (h : okW v) : val_NumberF v = some (numR v) ∧ ref13_NumberF v = some (numR v) := by
  obtain ⟨r, h1, h2⟩ := number_eq h.1 h.2.1
  unfold numR
  rw [h1]; exact ⟨rfl, h2⟩
end Go.Proofs.YtdgpkbnnljblmaaGreatDoor
