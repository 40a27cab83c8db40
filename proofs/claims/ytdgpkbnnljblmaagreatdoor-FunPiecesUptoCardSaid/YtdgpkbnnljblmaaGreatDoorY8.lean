/- Y8 -/
import Derived.Test.YtdgpkbnnljblmaaGreatDoorY7
namespace Go.Proofs.YtdgpkbnnljblmaaGreatDoor
open Go Go.Ev Go.Lib
def one (v : Val) : Arg := ⟨false, [v]⟩
theorem one_is2 (v : Val) : fun_OneF v = some (one v) := rfl
theorem okW_N {d : Dec} (h : okd d) : okW (vN d) := ⟨.inr (.inl ⟨d, rfl, h.1⟩), by simp [vN], h.2⟩
theorem num_vN (d : Dec) : numR (vN d) = (d, v0, true) := rfl
end Go.Proofs.YtdgpkbnnljblmaaGreatDoor
