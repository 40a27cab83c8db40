/- Y1 -/
import Derived.Test.YtdgpkbnnljblmaaGreatDoorXC
import Derived.Test.YtdgpkbnnljblmaaGreatDoorY0
import Derived.Test.YtdgpkbnnljblmaaGreatDoorH1
namespace Go.Proofs.YtdgpkbnnljblmaaGreatDoor
open Go Go.Ev Go.Lib
def v0 : Val := ⟨0, ⟨0, 0⟩, [], false, 0⟩
theorem fault_is (e : Int) : val_FaultF e = some (vE e) := rfl
theorem refFault_is (e : Int) : ref13_FaultF e = some (vE e) := rfl
end Go.Proofs.YtdgpkbnnljblmaaGreatDoor
