/- X4 -/
import Derived.Test.YtdgpkbnnljblmaaGreatDoorX3
namespace Go.Proofs.YtdgpkbnnljblmaaGreatDoor
open Go Go.Ev
end Go.Proofs.YtdgpkbnnljblmaaGreatDoor
