/- Whatever comes behind: the evaluator's continuations are called once, with what it has found. -/
import Derived.Test.YtmlbknmjgahcfaaDoorEv1
namespace Go.Ev
open Go

theorem obnd_brn {α β : Type} (b : Bool) (x y : Option α) (κ : α → Option β) : obnd (brn b x y) κ = brn b (obnd x κ) (obnd y κ) := by cases b <;> rfl
theorem obnd_cond {α β : Type} (b : Bool) (x y : Option α) (κ : α → Option β) : obnd (cond b x y) κ = cond b (obnd x κ) (obnd y κ) := by cases b <;> rfl
theorem obnd_obnd {α β γ : Type} (x : Option α) (f : α → Option β) (κ : β → Option γ) : obnd (obnd x f) κ = obnd x fun a => obnd (f a) κ := by cases x <;> rfl
theorem obnd_map {α β γ : Type} (x : Option α) (f : α → β) (κ : β → Option γ) : obnd x (fun a => κ (f a)) = obnd (obnd x fun a => some (f a)) κ := by cases x <;> rfl
theorem obnd_dite {α β : Type} (c : Prop) [Decidable c] (x : c → Option α) (y : ¬ c → Option α) (κ : α → Option β) : obnd (dite c x y) κ = dite c (fun h => obnd (x h) κ) (fun h => obnd (y h) κ) := by split <;> rfl

variable {T : Nat → Type} {R : Type}

theorem evInt_k (op : BinOp) (k : IntKind) (a b : Int) (κ : CV T → Option R) : evInt op k a b κ = obnd (evInt op k a b some) κ := by
  cases op <;> simp [evInt, obnd_brn]
theorem evStr_k (op : BinOp) (x y : List UInt8) (κ : CV T → Option R) : evStr op x y κ = obnd (evStr op x y some) κ := by
  cases op <;> simp [evStr, obnd_obnd]
theorem evShift_k (op : BinOp) (k : IntKind) (a b : Int) (κ : CV T → Option R) : evShift op k a b κ = obnd (evShift op k a b some) κ := by
  cases op <;> simp [evShift, obnd_brn]
theorem eqCell_k (l : Nat) (c d : CV T) (κ : Bool → Option R) : eqCell l c d κ = obnd (eqCell l c d some) κ := by
  unfold eqCell
  split <;> simp [obnd_cond]
theorem eqCells_k : ∀ (ls : List Nat) (cs ds : List (CV T)) {R : Type} (κ : Bool → Option R), eqCells ls cs ds κ = obnd (eqCells ls cs ds some) κ
  | [], [], [], _, κ => by simp [eqCells]
  | l :: ls, x :: xs, y :: ys, _, κ => by
    simp only [eqCells]
    refine (eqCell_k l x y _).trans ?_
    conv => rhs; arg 1; rw [eqCell_k]
    rw [obnd_obnd]
    congr 1
    funext b
    cases ls with
    | nil => cases xs <;> cases ys <;> simp
    | cons l' ls =>
      simp only
      refine (eqCells_k (l' :: ls) xs ys _).trans ?_
      conv => rhs; arg 1; rw [eqCells_k]
      rw [obnd_obnd]
      simp
  | [], [], _ :: _, _, _ => by simp [eqCells]
  | [], _ :: _, _, _, _ => by simp [eqCells]
  | _ :: _, [], _, _, _ => by simp [eqCells]
  | _ :: _, _ :: _, [], _, _ => by simp [eqCells]
theorem evEq_k (P : Program) (neg : Bool) (xt : Nat) (xs ys : List (AC T)) (κ : CV T → Option R) : evEq P neg xt xs ys κ = obnd (evEq P neg xt xs ys some) κ := by
  unfold evEq
  rw [obnd_cond]
  congr 1
  split
  · split
    · split
      · exact (eqCells_k ..).trans ((obnd_map _ _ _).trans (congrArg (obnd · κ) (eqCells_k ..).symm))
      · rfl
    · rfl
  · rfl
theorem evBin_k (P : Program) (op : BinOp) (xt : Nat) (x y : SV T) (κ : CV T → Option R) : evBin P op xt x y κ = obnd (evBin P op xt x y some) κ := by
  unfold evBin
  split
  · split
    · exact evShift_k ..
    · exact evShift_k ..
    · rw [obnd_cond]; congr 1; exact evInt_k ..
  · exact evStr_k ..
  · split
    · split <;> simp
    · rfl
  · split
    · exact evEq_k ..
    · exact evEq_k ..
    · rfl
  · rfl
theorem evUn_k (op : UnOp) (x : SV T) (κ : CV T → Option R) : evUn op x κ = obnd (evUn op x some) κ := by
  unfold evUn
  split
  · split <;> simp
  · split <;> simp
  · rfl
theorem evConv_k (P : Program) (tb : Tab) (src dst : Nat) (x : SV tb.T) (κ : CV tb.T → Option R) : evConv P tb src dst x κ = obnd (evConv P tb src dst x some) κ := by
  unfold evConv
  split
  · rw [obnd_cond]; rfl
  · rfl
  · rfl
  · split
    · split
      · rfl
      · split <;> rfl
      · rfl
    · rfl
  · rfl
theorem evLen_k (P : Program) (t : Nat) (x : SV T) (κ : SV T → Option R) : evLen P t x κ = obnd (evLen P t x some) κ := by
  unfold evLen
  split <;> simp

theorem evP_k (P : Program) (tb : Tab) (o : Op) (ρ : Operand → Option (SV tb.T)) (κ : SV tb.T → Option R) : evP P tb o ρ κ = obnd (evP P tb o ρ some) κ := by
  unfold evP
  split
  case h_4 => 
    split
    · split
      · exact (evBin_k ..).trans ((obnd_map _ _ _).trans (congrArg (obnd · κ) (evBin_k ..).symm))
      · rfl
    · rfl
  case h_5 =>
    split
    · exact (evUn_k ..).trans ((obnd_map _ _ _).trans (congrArg (obnd · κ) (evUn_k ..).symm))
    · rfl
  case h_6 =>
    split
    · exact (evConv_k ..).trans ((obnd_map _ _ _).trans (congrArg (obnd · κ) (evConv_k ..).symm))
    · rfl
  all_goals repeat' (first | rfl | (simp only [obnd_brn, obnd_cond, obnd_obnd, obnd_some, obnd_none]; done) | exact evLen_k .. | split)
end Go.Ev
