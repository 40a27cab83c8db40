/- X2 -/
import Derived.Test.YtdgpkbnnljblmaaGreatDoorX1
namespace Go.Proofs.YtdgpkbnnljblmaaGreatDoor
open Go Go.Ev
def pre (D : List Int) (s i : Nat) : List UInt8 := if s = 0 ∨ i ≤ s then wordsOf (D.take i) else wordsOf ((D.take i).drop s) ++ 46 :: wordsOf (D.take s)
end Go.Proofs.YtdgpkbnnljblmaaGreatDoor
