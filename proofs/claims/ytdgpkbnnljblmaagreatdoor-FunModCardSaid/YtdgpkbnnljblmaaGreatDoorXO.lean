/- XO -/
import Derived.Test.YtdgpkbnnljblmaaGreatDoorQQ
import Derived.Lib.ValidLaws
namespace Go.Proofs.YtdgpkbnnljblmaaGreatDoor
open Go Go.Ev Go.Lib
def rl : Nat → List UInt8 → List Int
  | 0, _ => []
  | n + 1, l => if l = [] then [] else ((decodeL l).1 : Int) :: rl n (l.drop (decodeL l).2)
def rs (l : List UInt8) : List Int := rl l.length l
theorem rune_drop (s : List UInt8) (i : Nat) : rune s i = decodeL (s.drop i) := (decodeL_drop ⟨s.toArray⟩ i).symm
structure Ord (α : Type) (c : α → α → Int) : Prop where
  vals : ∀ a b, c a b = -1 ∨ c a b = 0 ∨ c a b = 1
  swap : ∀ a b, c b a = - c a b
  same : ∀ a b, c a b = 0 ↔ a = b
  less : ∀ a b d, c a b = -1 → c b d = -1 → c a d = -1
end Go.Proofs.YtdgpkbnnljblmaaGreatDoor
