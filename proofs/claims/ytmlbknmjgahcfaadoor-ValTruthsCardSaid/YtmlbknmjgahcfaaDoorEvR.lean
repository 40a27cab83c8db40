/- Operations: whatever comes behind. -/
import Derived.Test.YtmlbknmjgahcfaaDoorEvM6
namespace Go.Ev
open Go

variable {P : Program} {tb : Tab} {R : Type} {Γ : List (Nat × FSpec tb)}

theorem obnd_congr {α β : Type} (x : Option α) {f g : α → Option β} (h : ∀ a, f a = g a) : obnd x f = obnd x g := congrArg (obnd x) (funext h)
theorem newVar_k {T : Nat → Type} (s : St T) (d : Nat) (z : List (AC T)) (κ : St T → Option R) : newVar s d z κ = obnd (newVar s d z some) κ := by
  unfold newVar; cases s.used d <;> rfl
theorem newOwn_k (s : St tb.T) (d e : Nat) (xs : List (tb.T e)) (κ : St tb.T → Option R) : newOwn tb s d e xs κ = obnd (newOwn tb s d e xs some) κ := by
  unfold newOwn; cases s.used d <;> rfl

theorem evCall_k (fid : Nat) (vs : List (SV tb.T)) (dst : Option Nat) (s : St tb.T) (κ : St tb.T → Option R) : ∀ Γ : List (Nat × FSpec tb), evCall P tb fid vs dst s κ Γ = obnd (evCall P tb fid vs dst s some Γ) κ
  | [] => rfl
  | (g, sp) :: Γ => by
    simp only [evCall]
    cases Nat.beq g fid with
    | false => exact evCall_k fid vs dst s κ Γ
    | true =>
      simp only [cond_true]
      cases extS P tb s (fun i => vs[i]?) sp.ins with
      | none => exact evCall_k fid vs dst s κ Γ
      | some x =>
        simp only
        cases (nodupB (idsS (fun i => vs[i]?) sp.ins) && Nat.beq sp.ins.length vs.length) with
        | false => rfl
        | true =>
          simp only [cond_true]
          rw [obnd_obnd]
          congr 1
          funext y
          split <;> rfl

theorem evAppend_k (dst : Option Nat) (st xt : Nat) (sv xv : SV tb.T) (s : St tb.T) (κ : St tb.T → Option R) : evAppend P tb dst st xt sv xv s κ = obnd (evAppend P tb dst st xt sv xv s some) κ := by
  unfold evAppend
  repeat' (first | rfl | split)
  all_goals (first | (simp only [obnd_cond, obnd_obnd, obnd_none]; skip) | rfl)
  all_goals congr 1
  · exact obnd_congr _ fun zs => newOwn_k ..
  · congr 1
    exact obnd_congr _ fun zs => newOwn_k ..

theorem evOp_k (o : Oper) (s : St tb.T) (κ : St tb.T → Option R) : evOp P tb Γ o s κ = obnd (evOp P tb Γ o s some) κ := by
  unfold evOp
  split
  all_goals first
    | exact (evP_k ..).trans ((obnd_map _ _ _).trans (congrArg (obnd · κ) (evP_k ..).symm))
    | skip
  all_goals repeat' (first | rfl | exact newVar_k .. | exact newOwn_k .. | exact evCall_k .. | exact evAppend_k .. | exact (evP_k ..).trans ((obnd_map _ _ _).trans (congrArg (obnd · κ) (evP_k ..).symm)) | (simp only [obnd_brn, obnd_cond, obnd_obnd, obnd_some, obnd_none]; done) | split)
  all_goals (simp only [obnd_cond, obnd_obnd, obnd_none]; congr 1)
  all_goals (first | exact newOwn_k .. | exact obnd_congr _ fun _ => newOwn_k ..)

theorem evG_k {ops : Array Oper} (o : Oper) (s : St tb.T) (κ : Foot → St tb.T → Option R) : evG P tb Γ ops o s κ = obnd (evG P tb Γ ops o s fun f s' => some (f, s')) fun p => κ p.1 p.2 := by
  have key : ∀ (s0 : St tb.T) f, evOp P tb Γ o s0 (κ f) = obnd (evOp P tb Γ o s0 fun s' => some (f, s')) fun p => κ p.1 p.2 := fun s0 f => by
    rw [evOp_k, evOp_k (κ := fun s' => some (f, s')), obnd_obnd]; rfl
  unfold evG
  split
  · exact key _ _
  · split
    · rfl
    · split
      · rfl
      · split
        · rename_i want _ _ _ _ _ _ _ _ _ _
          rw [obnd_brn]
          cases want <;> simp only [cond_true, cond_false, obnd_some] <;> rw [key]
        · rfl
        · rfl
theorem evOps_k {ops : Array Oper} : ∀ (os : List Oper) (s : St tb.T) (κ : St tb.T → Option R), evOps P tb Γ ops os s κ = obnd (evOps P tb Γ ops os s some) κ
  | [], _, _ => rfl
  | o :: os, s, κ => by
    simp only [evOps]
    rw [evG_k, evG_k (κ := fun _ s' => evOps P tb Γ ops os s' some), obnd_obnd]
    exact obnd_congr _ fun p => evOps_k os p.2 κ
theorem evOpsD_k {ops : Array Oper} : ∀ (os : List Oper) (ms : List Nat) (seen : List (Oper × Foot)) (s : St tb.T) (κ : St tb.T → Option R), evOpsD P tb Γ ops os ms seen s κ = obnd (evOpsD P tb Γ ops os ms seen s some) κ
  | [], _, _, _, _ => rfl
  | _ :: _, [], _, _, _ => rfl
  | o :: os, m :: ms, seen, s, κ => by
    simp only [evOpsD]
    rw [evG_k, evG_k (κ := fun f s' => bif seenOk ops m o f seen 0 then evOpsD P tb Γ ops os ms (seen ++ [(o, f)]) s' some else none), obnd_obnd]
    refine obnd_congr _ fun p => ?_
    rw [obnd_cond]
    congr 1
    exact evOpsD_k os ms _ p.2 κ
end Go.Ev
