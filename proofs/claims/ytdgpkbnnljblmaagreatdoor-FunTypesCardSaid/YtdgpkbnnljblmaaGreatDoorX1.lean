/- X1 -/
import Derived.Test.YtdgpkbnnljblmaaGreatDoorQQ
namespace Go.Proofs.YtdgpkbnnljblmaaGreatDoor
open Go Go.Ev
def chr (d : Int) : UInt8 := UInt8.ofNat (48 + d.toNat)
def wordsOf (D : List Int) : List UInt8 := (D.map chr).reverse
end Go.Proofs.YtdgpkbnnljblmaaGreatDoor
