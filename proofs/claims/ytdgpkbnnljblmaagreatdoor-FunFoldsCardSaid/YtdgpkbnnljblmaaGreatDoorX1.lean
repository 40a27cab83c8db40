/- X1 -/
import Derived.Test.YtdgpkbnnljblmaaGreatDoorQQ
namespace Go.Proofs.YtdgpkbnnljblmaaGreatDoor
open Go Go.Ev
def chr (d : Int) : UInt8 := UInt8.ofNat (48 + d.toNat)
def wordsOf (D : List Int) : List UInt8 := (D.map chr).reverse
theorem catS {x y : List UInt8} (h : x.length + y.length ≤ 10000) : cat x y = some (x ++ y) := by
  have : fits (x.length + y.length) = true := by unfold fits; exact Nat.ble_eq_true_of_le (by unfold mxLen; omega)
  unfold cat
  rw [this]; rfl
theorem subU {D : List UInt8} {i k : Nat} (h : i ≤ k) (h2 : k ≤ D.length) : sub D (i : Int) (k : Int) = some ((D.take k).drop i) := by
  have hd : (decide ((0 : Int) ≤ (i : Int)) && decide ((i : Int) ≤ (k : Int)) && decide ((k : Int) ≤ (D.length : Int))) = true := by
    simp; omega
  simp only [sub, hd, cond_true, Int.toNat_natCast]
  try rfl
end Go.Proofs.YtdgpkbnnljblmaaGreatDoor
