/- Y3 -/
import Derived.Test.YtdgpkbnnljblmaaGreatDoorY2
namespace Go.Proofs.YtdgpkbnnljblmaaGreatDoor
open Go Go.Ev Go.Lib
end Go.Proofs.YtdgpkbnnljblmaaGreatDoor
