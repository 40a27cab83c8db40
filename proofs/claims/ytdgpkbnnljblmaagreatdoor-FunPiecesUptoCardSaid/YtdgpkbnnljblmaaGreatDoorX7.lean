/- X7 -/
import Derived.Test.YtdgpkbnnljblmaaGreatDoorX6
namespace Go.Proofs.YtdgpkbnnljblmaaGreatDoor
open Go Go.Ev Go.Lib
theorem rs_at {s : List UInt8} {p : Nat} (h : p < s.length) : rs (s.drop p) = ((rune s p).1 : Int) :: rs (s.drop (p + (rune s p).2)) ∧ 1 ≤ (rune s p).2 := by
  have hne : s.drop p ≠ [] := fun h0 => by have := congrArg List.length h0; simp at this; omega
  rw [rs_cons hne, rune_drop, List.drop_drop]
  exact ⟨rfl, Lib.decodeL_width _⟩
def vB : Val := ⟨0, ⟨0, 0⟩, [], false, 0⟩
def vN (d : Dec) : Val := ⟨1, d, [], false, 0⟩
def vS (s : List UInt8) : Val := ⟨2, ⟨0, 0⟩, s, false, 0⟩
def vT (b : Bool) : Val := ⟨3, ⟨0, 0⟩, [], b, 0⟩
def vE (e : Int) : Val := ⟨4, ⟨0, 0⟩, [], false, e⟩
def okV (v : Val) : Prop := v = vB ∨ (∃ d, v = vN d ∧ okD d) ∨ (∃ s, v = vS s ∧ Lib.validD s = true) ∨ (∃ b, v = vT b) ∨ ∃ e, v = vE e
theorem brn_total {α : Type} {b : Bool} {x y : Option α} (hx : ∃ n, x = some n) (hy : ∃ n, y = some n) : ∃ n, brn b x y = some n := by cases b <;> assumption
theorem name_is (e : Int) : ∃ n, val_nameF e = some n :=
  brn_total ⟨_, rfl⟩ (brn_total ⟨_, rfl⟩ (brn_total ⟨_, rfl⟩ (brn_total ⟨_, rfl⟩ (brn_total ⟨_, rfl⟩ (brn_total ⟨_, rfl⟩ (brn_total ⟨_, rfl⟩ ⟨_, rfl⟩))))))
def key (v : Val) : List Int := v.Kind :: (if v.Kind = 1 then [V v.N] else if v.Kind = 2 then rs v.S else if v.Kind = 3 then [if v.B then 1 else 0] else [v.E])
def okW (v : Val) : Prop := okV v ∧ v.S.length ≤ 3000 ∧ I64 v.N.M
end Go.Proofs.YtdgpkbnnljblmaaGreatDoor
