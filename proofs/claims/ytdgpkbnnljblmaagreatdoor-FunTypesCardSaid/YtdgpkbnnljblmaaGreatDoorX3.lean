/- X3 -/
import Derived.Test.YtdgpkbnnljblmaaGreatDoorX2
import Derived.Test.YtdgpkbnnljblmaaGreatDoorXO
import Derived.Lib.IndexLaws
import Derived.Lib.TrimAscii
namespace Go.Proofs.YtdgpkbnnljblmaaGreatDoor
open Go Go.Ev
def isD (c : UInt8) : Bool := decide (48 ≤ c.toNat) && decide (c.toNat ≤ 57)
def dv (c : UInt8) : Int := ((c.toNat - 48 : Nat) : Int)
def rd9 (l : List UInt8) : List Int := (l.map dv).reverse
end Go.Proofs.YtdgpkbnnljblmaaGreatDoor
