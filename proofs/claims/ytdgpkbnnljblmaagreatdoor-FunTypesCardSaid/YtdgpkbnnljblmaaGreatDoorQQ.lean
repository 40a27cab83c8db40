/- QQ -/
import Derived.Test.YtdgpkbnnljblmaaGreatDoorPP
namespace Go.Proofs.YtdgpkbnnljblmaaGreatDoor
open Go Go.Ev
theorem idxI {D : List Int} {k : Nat} {v : Int} (h : D[k]? = some v) : idx D (k : Int) = some v := by
  simp [idx, h]
theorem iter_exn {X Y : Type} {F : (X → Option Y) → X → Option Y} (m : X → Nat) (Inv : X → Prop) (Post : Y → Prop)
    (h : ∀ back x, Inv x → (∀ x', Inv x' → m x' < m x → ∃ y, back x' = some y ∧ Post y) → ∃ y, F back x = some y ∧ Post y) : ∀ n x, Inv x → m x < n → ∃ y, iter F n x = some y ∧ Post y
  | 0, _, _, h0 => by omega
  | n + 1, x, hp, hn => by
    rw [iter_succ]
    exact h _ x hp fun x' hp' hm => iter_exn m Inv Post h n x' hp' (by omega)
theorem iter_ex {X Y : Type} {F : (X → Option Y) → X → Option Y} (m : X → Nat) (Inv : X → Prop) (Post : Y → Prop)
    (h : ∀ back x, Inv x → (∀ x', Inv x' → m x' < m x → ∃ y, back x' = some y ∧ Post y) → ∃ y, F back x = some y ∧ Post y) (x : X) (hx : Inv x) (hm : m x < 9223372036854775808) : ∃ y, iter F big x = some y ∧ Post y :=
  iter_exn m Inv Post h _ x hx (by rw [big_pos]; omega)
section
variable {M N : Int} {s t : Nat} (hM : I64 M) (hN : I64 N) (hs : s ≤ 9) (ht : t ≤ 9)
include hM hN hs ht
end
section
variable {M N : Int} {s t : Nat} (hM : I64 M) (hN : I64 N) (hs : s ≤ 9) (ht : t ≤ 9)
include hM hN hs ht
end
end Go.Proofs.YtdgpkbnnljblmaaGreatDoor
