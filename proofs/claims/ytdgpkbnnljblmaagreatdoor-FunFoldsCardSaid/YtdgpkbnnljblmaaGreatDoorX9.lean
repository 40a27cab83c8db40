/- X9 -/
import Derived.Test.YtdgpkbnnljblmaaGreatDoorX8
namespace Go.Proofs.YtdgpkbnnljblmaaGreatDoor
open Go Go.Ev Go.Lib
set_option linter.unusedSimpArgs false
end Go.Proofs.YtdgpkbnnljblmaaGreatDoor
