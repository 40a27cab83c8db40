/- XA -/
import Derived.Test.YtdgpkbnnljblmaaGreatDoorX9
namespace Go.Proofs.YtdgpkbnnljblmaaGreatDoor
open Go Go.Ev Go.Lib
end Go.Proofs.YtdgpkbnnljblmaaGreatDoor
