/- X6 -/
import Derived.Test.YtdgpkbnnljblmaaGreatDoorX5
namespace Go.Proofs.YtdgpkbnnljblmaaGreatDoor
open Go Go.Ev
end Go.Proofs.YtdgpkbnnljblmaaGreatDoor
