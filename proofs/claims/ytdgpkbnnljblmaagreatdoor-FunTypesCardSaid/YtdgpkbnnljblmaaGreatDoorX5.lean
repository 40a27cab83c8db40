/- X5 -/
import Derived.Test.YtdgpkbnnljblmaaGreatDoorX4
namespace Go.Proofs.YtdgpkbnnljblmaaGreatDoor
open Go Go.Ev
theorem idxB {D : List UInt8} {k : Nat} {v : UInt8} (h : D[k]? = some v) : idx D (k : Int) = some v := by
  simp [idx, h]
inductive At' (t : List UInt8) (g : Nat) : Nat → Int → List Int → Prop
  | front (j : Nat) (h : j ≤ t.length) (hd : (t.take j).all isD = true) : At' t g j (-1) (rd9 (t.take j))
  | behind (w b : List UInt8) (j : Nat) (ht : t = w ++ 46 :: b) (hw : w ≠ []) (hd : w.all isD = true) (hj : j ≤ b.length) (hb : (b.take j).all isD = true) : At' t g (w.length + 1 + j) ((w.length + g : Nat) : Int) (rd9 (w ++ b.take j))
end Go.Proofs.YtdgpkbnnljblmaaGreatDoor
