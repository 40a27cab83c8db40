/- XB -/
import Derived.Test.YtdgpkbnnljblmaaGreatDoorXA
import Derived.Test.YtdgpkbnnljblmaaGreatDoorX7
namespace Go.Proofs.YtdgpkbnnljblmaaGreatDoor
open Go Go.Ev Go.Lib
def good (l : List UInt8) : Prop := ¬ ((decodeL l).1 = 65533 ∧ (decodeL l).2 = 1)
end Go.Proofs.YtdgpkbnnljblmaaGreatDoor
