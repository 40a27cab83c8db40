/- X8 -/
import Derived.Test.YtdgpkbnnljblmaaGreatDoorX6
namespace Go.Proofs.YtdgpkbnnljblmaaGreatDoor
open Go Go.Ev Go.Lib
theorem appN {A : Type} {B : Nat} {xs ys : List A} (h : (xs.length + ys.length) * B ≤ 140737488355328) : app B xs ys = some (xs ++ ys) := by
  have : Nat.ble ((xs.length + ys.length) * B) 140737488355328 = true := Nat.ble_eq_true_of_le h
  simp [app, this]
def more : List UInt8 → Nat → Nat → Option Nat
  | _, 0, v => some v
  | [], _ + 1, _ => none
  | d :: l, n + 1, v => if d.toNat / 64 = 2 then more l n (v * 64 + d.toNat % 64) else none
end Go.Proofs.YtdgpkbnnljblmaaGreatDoor
