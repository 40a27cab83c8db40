/- Y1 -/
import Derived.Test.YtdgpkbnnljblmaaGreatDoorXC
import Derived.Test.YtdgpkbnnljblmaaGreatDoorY0
import Derived.Test.YtdgpkbnnljblmaaGreatDoorH1
namespace Go.Proofs.YtdgpkbnnljblmaaGreatDoor
open Go Go.Ev Go.Lib
def v0 : Val := ⟨0, ⟨0, 0⟩, [], false, 0⟩
theorem fault_is (e : Int) : val_FaultF e = some (vE e) := rfl
def okA (l : List Arg) : Prop := l.length ≤ 40 ∧ ∀ a ∈ l, a.L.length ≤ 40 ∧ ∀ v ∈ a.L, okW v
def badA (a : Arg) : Bool := !a.Area && !decide (a.L.length = 1)
def badB (a : Arg) : Bool := a.Area || !decide (a.L.length = 1)
theorem many1_is (a : Arg) : fun_many_1F a = some (badA a) := by
  unfold fun_many_1F badA
  cases a.Area with
  | true => rfl
  | false =>
    simp only [Bool.not_false, brn_true, Bool.true_and]
    by_cases h : a.L.length = 1 <;> simp [h] <;> omega
theorem shaped1_is (a : Arg) : fun_shaped_1F a = some (badB a) := by
  unfold fun_shaped_1F badB
  cases a.Area with
  | true => rfl
  | false =>
    simp only [brn_false, Bool.false_or]
    by_cases h : a.L.length = 1 <;> simp [h] <;> omega
theorem contains_many {l : List Arg} (hl : l.length ≤ 1000) : slices_ContainsFunc_fun_Arg_fun_Arg_fun_many_1F (l, ()) = some (l.any badA) := by
  unfold slices_ContainsFunc_fun_Arg_fun_Arg_fun_many_1F slices_IndexFunc_fun_Arg_fun_Arg_fun_many_1F
  have this : slices_IndexFunc_fun_Arg_fun_Arg_fun_many_1_l1J (l, (), (l.length : Int), 0) = some ((fun (r : Option Nat) => match r with | some i => .inr (i : Int) | none => .inl ()) _) := find_loop (F := slices_IndexFunc_fun_Arg_fun_Arg_fun_many_1_l1F) (fun i => (l, (), (l.length : Int), (i : Int))) (fun r => match r with | some i => .inr (i : Int) | none => .inl ()) l badA (by omega)
    (fun back i hi => by
      unfold slices_IndexFunc_fun_Arg_fun_Arg_fun_many_1_l1F
      simp only
      rw [ltT hi, brn_true, idxG hi, obnd_some, many1_is, obnd_some, wr1 (by omega)]
      cases badA l[i] <;> rfl)
    (fun back => by
      unfold slices_IndexFunc_fun_Arg_fun_Arg_fun_many_1_l1F
      simp only
      rw [ltF, brn_false])
  simp only
  rw [this, obnd_some, ← any_findIdx]
  cases l.findIdx? badA with
  | none => rfl
  | some i =>
    simp only [osum, obnd_some, Option.isSome_some]
    rw [decide_eq_true (by omega)]
theorem shaped_is {l : List Arg} (hl : l.length ≤ 1000) : fun_shapedF l = some (!l.any badB) := by
  unfold fun_shapedF slices_ContainsFunc_fun_Arg_fun_Arg_fun_shaped_1F slices_IndexFunc_fun_Arg_fun_Arg_fun_shaped_1F
  have this : slices_IndexFunc_fun_Arg_fun_Arg_fun_shaped_1_l1J (l, (), (l.length : Int), 0) = some ((fun (r : Option Nat) => match r with | some i => .inr (i : Int) | none => .inl ()) _) := find_loop (F := slices_IndexFunc_fun_Arg_fun_Arg_fun_shaped_1_l1F) (fun i => (l, (), (l.length : Int), (i : Int))) (fun r => match r with | some i => .inr (i : Int) | none => .inl ()) l badB (by omega)
    (fun back i hi => by
      unfold slices_IndexFunc_fun_Arg_fun_Arg_fun_shaped_1_l1F
      simp only
      rw [ltT hi, brn_true, idxG hi, obnd_some, shaped1_is, obnd_some, wr1 (by omega)]
      cases badB l[i] <;> rfl)
    (fun back => by
      unfold slices_IndexFunc_fun_Arg_fun_Arg_fun_shaped_1_l1F
      simp only
      rw [ltF, brn_false])
  simp only
  rw [this, obnd_some, ← any_findIdx]
  cases l.findIdx? badB with
  | none => rfl
  | some i =>
    simp only [osum, obnd_some, Option.isSome_some]
    rw [decide_eq_true (show (0 : Int) ≤ (i : Int) by omega)]
    rfl
end Go.Proofs.YtdgpkbnnljblmaaGreatDoor
