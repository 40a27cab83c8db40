/- Y5 -/
import Derived.Test.YtdgpkbnnljblmaaGreatDoorY4
namespace Go.Proofs.YtdgpkbnnljblmaaGreatDoor
open Go Go.Ev Go.Lib
theorem okW_of {v : Val} (hl : v.S.length ≤ 3000) (hm : I64 v.N.M) (h : val_CheckF v = some 0) : okW v := by
  obtain ⟨e, h1, _, h3⟩ := check_eq hl
  rw [h1] at h
  exact ⟨h3 (Option.some.inj h), hl, hm⟩
end Go.Proofs.YtdgpkbnnljblmaaGreatDoor
