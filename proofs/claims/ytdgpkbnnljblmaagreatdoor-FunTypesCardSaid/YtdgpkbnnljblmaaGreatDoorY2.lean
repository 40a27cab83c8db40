/- Y2 -/
import Derived.Test.YtdgpkbnnljblmaaGreatDoorY1
namespace Go.Proofs.YtdgpkbnnljblmaaGreatDoor
open Go Go.Ev Go.Lib
end Go.Proofs.YtdgpkbnnljblmaaGreatDoor
