/- Y5 -/
import Derived.Test.YtdgpkbnnljblmaaGreatDoorY4
namespace Go.Proofs.YtdgpkbnnljblmaaGreatDoor
open Go Go.Ev Go.Lib
end Go.Proofs.YtdgpkbnnljblmaaGreatDoor
