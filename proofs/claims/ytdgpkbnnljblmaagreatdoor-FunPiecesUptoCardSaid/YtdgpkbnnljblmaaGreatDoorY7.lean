/- Y7 -/
import Derived.Test.YtdgpkbnnljblmaaGreatDoorY6
namespace Go.Proofs.YtdgpkbnnljblmaaGreatDoor
open Go Go.Ev Go.Lib
end Go.Proofs.YtdgpkbnnljblmaaGreatDoor
