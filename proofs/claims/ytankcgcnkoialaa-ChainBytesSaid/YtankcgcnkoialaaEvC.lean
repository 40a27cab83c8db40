/- Regions, code, loops, functions, a law's row: they are sound. -/
import Derived.Test.YtankcgcnkoialaaEvB
import Derived.Orders
import Derived.Scope
import Derived.Laws.Sem
import Derived.Lib.LaidTab
import Derived.Laws.RangeString
import Derived.LaidMore
import Derived.OpenShut
import Derived.WideShapes
import Derived.Handed
import Derived.SizedLaws
import Derived.Carry
import Derived.RowKit

/- Operations: whatever comes behind. -/
namespace Go.Ev
open Go

variable {P : Program} {tb : Tab} {R : Type} {Γ : List (Nat × FSpec tb)}

theorem obnd_congr {α β : Type} (x : Option α) {f g : α → Option β} (h : ∀ a, f a = g a) : obnd x f = obnd x g := congrArg (obnd x) (funext h)
theorem newVar_k {T : Nat → Type} (s : St T) (d : Nat) (z : List (AC T)) (κ : St T → Option R) : newVar s d z κ = obnd (newVar s d z some) κ := by
  unfold newVar; cases s.used d <;> rfl
theorem newOwn_k (s : St tb.T) (d e : Nat) (xs : List (tb.T e)) (κ : St tb.T → Option R) : newOwn tb s d e xs κ = obnd (newOwn tb s d e xs some) κ := by
  unfold newOwn; cases s.used d <;> rfl

theorem evCall_k (fid : Nat) (vs : List (SV tb.T)) (dst : Option Nat) (s : St tb.T) (κ : St tb.T → Option R) : ∀ Γ : List (Nat × FSpec tb), evCall P tb fid vs dst s κ Γ = obnd (evCall P tb fid vs dst s some Γ) κ
  | [] => rfl
  | (g, sp) :: Γ => by
    simp only [evCall]
    cases Nat.beq g fid with
    | false => exact evCall_k fid vs dst s κ Γ
    | true =>
      simp only [cond_true]
      cases extS P tb s (vget s fun i => vs[i]?) sp.ins with
      | none => exact evCall_k fid vs dst s κ Γ
      | some x =>
        simp only
        cases (nodupB (idsS (vget s fun i => vs[i]?) sp.ins) && Nat.beq (reals sp.ins).length vs.length) with
        | false => rfl
        | true =>
          simp only [cond_true]
          rw [obnd_obnd]
          congr 1
          funext y
          split <;> rfl

theorem evAppend_k (dst : Option Nat) (st xt : Nat) (sv xv : SV tb.T) (s : St tb.T) (κ : St tb.T → Option R) : evAppend P tb dst st xt sv xv s κ = obnd (evAppend P tb dst st xt sv xv s some) κ := by
  unfold evAppend
  repeat' (first | rfl | split)
  all_goals (first | (simp only [obnd_cond, obnd_obnd, obnd_none]; skip) | rfl)
  all_goals congr 1
  · exact obnd_congr _ fun zs => newOwn_k ..
  · congr 1
    exact obnd_congr _ fun zs => newOwn_k ..

theorem newAr_k {tb : Tab} {R : Type} (s : St tb.T) (d e : Nat) (xs : List (tb.T e)) (κ : St tb.T → Option R) : newAr tb s d e xs κ = obnd (newAr tb s d e xs some) κ := by
  unfold newAr; cases s.used d <;> rfl
theorem newSl_k {tb : Tab} {R : Type} (Γ : List (Nat × FSpec tb)) (s : St tb.T) (d e : Nat) (xs : List (tb.T e)) (κ : St tb.T → Option R) : newSl tb Γ s d e xs κ = obnd (newSl tb Γ s d e xs some) κ := by
  unfold newSl
  cases isMut Γ d
  · exact newOwn_k ..
  · exact newAr_k ..
theorem evPut_k (t : Nat) (m kx x : Operand) (dst : Option Nat) (s : St tb.T) (κ : St tb.T → Option R) : evPut P tb t m kx x dst s κ = obnd (evPut P tb t m kx x dst s some) κ := by
  unfold evPut
  repeat' (first | rfl | split)
  all_goals (first | (rw [obnd_cond]; rfl) | (rw [obnd_cond, obnd_cond]; rfl))
theorem evOp_k (o : Oper) (s : St tb.T) (κ : St tb.T → Option R) : evOp P tb Γ o s κ = obnd (evOp P tb Γ o s some) κ := by
  unfold evOp
  split
  all_goals first
    | exact (evP_k ..).trans ((obnd_map _ _ _).trans (congrArg (obnd · κ) (evP_k ..).symm))
    | exact evPut_k ..
    | skip
  all_goals repeat' (first | rfl | exact newVar_k .. | exact newSl_k .. | exact newOwn_k .. | exact evCall_k .. | exact evAppend_k .. | exact (evP_k ..).trans ((obnd_map _ _ _).trans (congrArg (obnd · κ) (evP_k ..).symm)) | (simp only [obnd_brn, obnd_cond, obnd_obnd, obnd_some, obnd_none]; done) | split)
  all_goals (first | (rw [obnd_cond]; rfl) | (rw [obnd_cond, obnd_cond]; rfl) | skip)
  all_goals (simp only [obnd_cond, obnd_obnd, obnd_none]; congr 1)
  all_goals (first | exact newSl_k .. | exact obnd_congr _ fun _ => newSl_k .. | exact newOwn_k .. | exact obnd_congr _ fun _ => newOwn_k .. | (split <;> rfl) | (congr 1; split <;> rfl) | (refine obnd_congr _ fun _ => ?_; split <;> rfl) | (refine obnd_congr _ fun _ => ?_; rw [obnd_cond]; congr 1; split <;> rfl) | skip)

theorem evG_k {ops : Array Oper} (o : Oper) (s : St tb.T) (κ : Foot → St tb.T → Option R) : evG P tb Γ ops o s κ = obnd (evG P tb Γ ops o s fun f s' => some (f, s')) fun p => κ p.1 p.2 := by
  have key : ∀ (s0 : St tb.T) f, evOp P tb Γ o s0 (κ f) = obnd (evOp P tb Γ o s0 fun s' => some (f, s')) fun p => κ p.1 p.2 := fun s0 f => by
    rw [evOp_k, evOp_k (κ := fun s' => some (f, s')), obnd_obnd]; rfl
  unfold evG
  split
  · exact key _ _
  · split
    · rfl
    · split
      · rfl
      · split
        · rename_i want _ _ _ _ _ _ _ _ _ _
          rw [obnd_brn]
          cases want <;> simp only [cond_true, cond_false, obnd_some] <;> rw [key]
        · rfl
        · rfl
theorem evOps_k {ops : Array Oper} : ∀ (os : List Oper) (s : St tb.T) (κ : St tb.T → Option R), evOps P tb Γ ops os s κ = obnd (evOps P tb Γ ops os s some) κ
  | [], _, _ => rfl
  | o :: os, s, κ => by
    simp only [evOps]
    rw [evG_k, evG_k (κ := fun _ s' => evOps P tb Γ ops os s' some), obnd_obnd]
    exact obnd_congr _ fun p => evOps_k os p.2 κ
theorem evOpsD_k {ops : Array Oper} : ∀ (os : List Oper) (ms : List Nat) (seen : List (Oper × Foot)) (s : St tb.T) (κ : St tb.T → Option R), evOpsD P tb Γ ops os ms seen s κ = obnd (evOpsD P tb Γ ops os ms seen s some) κ
  | [], _, _, _, _ => rfl
  | _ :: _, [], _, _, _ => rfl
  | o :: os, m :: ms, seen, s, κ => by
    simp only [evOpsD]
    rw [evG_k, evG_k (κ := fun f s' => bif seenOk ops m o f seen 0 then evOpsD P tb Γ ops os ms (seen ++ [(o, f)]) s' some else none), obnd_obnd]
    refine obnd_congr _ fun p => ?_
    rw [obnd_cond]
    congr 1
    exact evOpsD_k os ms _ p.2 κ
end Go.Ev

/- Operations under their guards; regions in their text's order. -/
namespace Go.Ev
open Go

variable {P : Program} {tb : Tab} {N : Nat} {W : Nat → Prop} {a0 : Act} {g0 : Gh} {w0 : World} {D0 : Nat → Prop}
variable {s s' : St tb.T} {g g' : Gh} {μ μ' : Nat → Nat} {τ τ' : Nat → Option Nat} {a : Act} {w w' : World}
variable {Γ : List (Nat × FSpec tb)} {ops : Array Oper} {Q : Exit → Act → World → Prop}

theorem upd_id {α : Type} (f : Nat → α) (i : Nat) (v : α) (h : f i = v) : upd f i v = f := funext fun j => by
  rw [upd_eq]; split
  · rename_i e; subst e; exact h.symm
  · rfl
theorem put_id {T : Nat → Type} (s : St T) (t : Nat) (v : SV T) (h : s.env t = some v) : s.put t v = s := by
  unfold St.put; rw [upd_id _ _ _ h]

/-- what has gone before, of an operation under its guard -/
inductive GStep (P : Program) (tb : Tab) (Γ : List (Nat × FSpec tb)) (ops : Array Oper) (o : Oper) (s : St tb.T) : Foot → St tb.T → Prop where
  | run (s' : St tb.T) : (∀ j want, o.guard = some (j, want) → ∃ oj t, ops[j]? = some oj ∧ oj.dst = some t ∧ s.env t = some (.c (.d (.bool want)))) →
      evOp P tb Γ o s some = some s' → GStep P tb Γ ops o s (footOf Γ o.op s) s'
  | skip (j : Nat) (want : Bool) (oj : Oper) (t : Nat) : o.guard = some (j, want) → ops[j]? = some oj → oj.dst = some t → (s.env t = some (.c (.d (.bool (!want)))) ∨ s.env t = some (.tup [])) →
      GStep P tb Γ ops o s .p (s.putO o.dst (.tup []))

theorem gstep_of {o : Oper} {f : Foot} (he : evG P tb Γ ops o s (fun f s' => some (f, s')) = some (f, s')) : GStep P tb Γ ops o s f s' := by
  have key : ∀ f0, evOp P tb Γ o s (fun s' => some (f0, s')) = some (f, s') → evOp P tb Γ o s some = some s' ∧ f = f0 := fun f0 h => by
    rw [evOp_k] at h
    obtain ⟨s1, h1, h2⟩ := obnd_eq_some.1 h
    simp only [Option.some.injEq, Prod.mk.injEq] at h2
    exact ⟨by rw [h1, h2.2], h2.1.symm⟩
  unfold evG at he
  split at he
  · rename_i hg
    obtain ⟨h1, rfl⟩ := key _ he
    exact .run _ (fun j want h => by rw [hg] at h; cases h) h1
  · rename_i j want hg
    split at he
    · cases he
    · rename_i oj hj
      split at he
      · cases he
      · rename_i t ht
        split at he
        · rename_i b hb
          cases b <;> cases want <;> simp only [brn, cond_true, cond_false] at he
          · rw [put_id _ _ _ hb] at he
            obtain ⟨h1, rfl⟩ := key _ he
            refine .run _ (fun j' want' h => ?_) h1
            rw [hg] at h; simp only [Option.some.injEq, Prod.mk.injEq] at h
            obtain ⟨rfl, rfl⟩ := h
            exact ⟨oj, t, hj, ht, hb⟩
          · rw [put_id _ _ _ hb] at he
            simp only [Option.some.injEq, Prod.mk.injEq] at he
            obtain ⟨rfl, rfl⟩ := he
            exact .skip j true oj t hg hj ht (.inl hb)
          · rw [put_id _ _ _ hb] at he
            simp only [Option.some.injEq, Prod.mk.injEq] at he
            obtain ⟨rfl, rfl⟩ := he
            exact .skip j false oj t hg hj ht (.inl hb)
          · rw [put_id _ _ _ hb] at he
            obtain ⟨h1, rfl⟩ := key _ he
            refine .run _ (fun j' want' h => ?_) h1
            rw [hg] at h; simp only [Option.some.injEq, Prod.mk.injEq] at h
            obtain ⟨rfl, rfl⟩ := h
            exact ⟨oj, t, hj, ht, hb⟩
        · rename_i hb
          simp only [Option.some.injEq, Prod.mk.injEq] at he
          obtain ⟨rfl, rfl⟩ := he
          exact .skip j want oj t hg hj ht (.inr hb)
        · cases he

theorem yielded_of (h : SimAt P tb N W a0 g0 w0 D0 s g μ τ a w) {j t : Nat} {oj : Oper} (hj : ops[j]? = some oj) (ht : oj.dst = some t) :
    (∀ b, s.env t = some (.c (.d (.bool b))) → yielded ops a.tmps j = some b) ∧ (s.env t = some (.tup []) → yielded ops a.tmps j = none) := by
  refine ⟨fun b hb => ?_, fun hb => ?_⟩
  · obtain ⟨u, hu, hr⟩ := h.env t _ hb
    have hr' : RepD P tb g w (.bool b) u := hr
    cases hr'
    simp [yielded, hj, ht, hu]
  · obtain ⟨u, hu, us, hr, h2⟩ := h.env t _ hb
    have : us = [] := by cases us with | nil => rfl | cons _ _ => exact h2.elim
    subst this
    simp [yielded, hj, ht, hu, hr]

/-- **an operation under its guard** -/
theorem gstep_sound (hΓ : ∀ p ∈ Γ, FnKeeps P tb p.1 p.2) (hsl : ∀ p ∈ Γ, (reals p.2.ins).map (·.1) = List.range (reals p.2.ins).length) (h : SimAt P tb N W a0 g0 w0 D0 s g μ τ a w) {i : Nat} {o : Oper} (ho : ops[i]? = some o)
    (hd : ∀ d, o.dst = some d → d < N ∧ W d) {f : Foot} (he : GStep P tb Γ ops o s f s') : wpOp P ops Q i (Goes P tb N W a0 g0 w0 D0 s') a w := by
  unfold wpOp
  rw [ho]
  simp only
  cases he with
  | run _ hg he =>
    have hw : Region.wanted o (yielded ops a.tmps) = true := by
      unfold Region.wanted
      cases hgd : o.guard with
      | none => rfl
      | some p =>
        obtain ⟨oj, t, h1, h2, h3⟩ := hg p.1 p.2 hgd
        have := (yielded_of h h1 h2).1 _ h3
        simp [this]
    rw [if_pos hw]
    exact .inl (evOp_sound hΓ hsl h o hd he)
  | skip j want oj t hgd h1 h2 h3 =>
    have hw : Region.wanted o (yielded ops a.tmps) = false := by
      unfold Region.wanted
      rw [hgd]
      rcases h3 with h3 | h3
      · have := (yielded_of h h1 h2).1 _ h3
        simp [this]
      · have := (yielded_of h h1 h2).2 h3
        simp [this]
    rw [hw, if_neg (by simp)]
    exact (h.putO hd (v := .tup []) (u := undef) ⟨[], rfl, trivial⟩ (by simp [SV.ids])).sim


/-- **a region in its text's order** -/
theorem evOps_sound (hΓ : ∀ p ∈ Γ, FnKeeps P tb p.1 p.2) (hsl : ∀ p ∈ Γ, (reals p.2.ins).map (·.1) = List.range (reals p.2.ins).length) (hd : ∀ o ∈ ops.toList, ∀ d, o.dst = some d → d < N ∧ W d) :
    ∀ (os : List Oper) (k : Nat) (s : St tb.T) (a : Act) (w : World), (∀ j, os[j]? = ops[k + j]?) → Sim P tb N W a0 g0 w0 D0 s a w → evOps P tb Γ ops os s some = some s' →
      (∀ a w, Sim P tb N W a0 g0 w0 D0 s' a w → Q .normal a w) → wpOps P ops Q (List.range' k os.length) a w
  | [], k, s, a, w, _, h, he, hQ => by
    simp only [evOps, Option.some.injEq] at he; subst he
    exact hQ a w h
  | o :: os, k, s, a, w, hk, ⟨g, μ, τ, h⟩, he, hQ => by
    have ho : ops[k]? = some o := by simpa using (hk 0).symm
    simp only [evOps] at he
    rw [evG_k] at he
    obtain ⟨⟨f, s1⟩, h1, h2⟩ := obnd_eq_some.1 he
    rw [List.length_cons, List.range'_succ, wpOps_cons]
    refine wpOp_mono (fun a1 w1 h3 => ?_) (gstep_sound hΓ hsl h ho (hd o (by
      have := Array.mem_of_getElem? ho
      simpa using this)) (gstep_of h1))
    exact evOps_sound hΓ hsl hd os (k + 1) s1 a1 w1 (fun j => by
      have := hk (j + 1)
      simp only [List.getElem?_cons_succ] at this
      rw [this]; congr 1; omega) h3 h2 hQ

theorem wp_region_ev (hΓ : ∀ p ∈ Γ, FnKeeps P tb p.1 p.2) (hsl : ∀ p ∈ Γ, (reals p.2.ins).map (·.1) = List.range (reals p.2.ins).length) (hd : ∀ o ∈ ops.toList, ∀ d, o.dst = some d → d < N ∧ W d)
    (h : Sim P tb N W a0 g0 w0 D0 s a w) (he : evOps P tb Γ ops ops.toList s some = some s') (hQ : ∀ a w, Sim P tb N W a0 g0 w0 D0 s' a w → Q .normal a w) {id : Nat} : (Code.region id ops false).wp P Q a w := by
  refine wp_region ?_
  have := evOps_sound (Q := Q) hΓ hsl hd ops.toList 0 s a w (fun j => by simp) h he hQ
  simpa [List.range_eq_range'] using this
end Go.Ev

/- What an operation does to the evaluator's state, and when it does the same elsewhere. -/
namespace Go.Ev
open Go

variable {P : Program} {tb : Tab} {R : Type} {Γ : List (Nat × FSpec tb)} {s s' s1 : St tb.T}

theorem vals_congr {T : Nat → Type} {ρ ρ' : Operand → Option (SV T)} : ∀ {xs : List Operand}, (∀ x ∈ xs, ρ x = ρ' x) → vals ρ xs = vals ρ' xs
  | [], _ => rfl
  | x :: xs, h => by
    simp only [vals]
    rw [h x (by simp), vals_congr (xs := xs) fun y hy => h y (by simp [hy])]
theorem fillS_congr {T : Nat → Type} {ρ ρ' : Operand → Option (SV T)} {t : Nat} : ∀ {ps : List (Nat × Operand)} {cells : List (AC T)}, (∀ p ∈ ps, ρ p.2 = ρ' p.2) → fillS P t ρ ps cells = fillS P t ρ' ps cells
  | [], _, _ => rfl
  | (i, x) :: ps, cells, h => by
    simp only [fillS]
    rw [h (i, x) (by simp)]
    simp only [fillS_congr (ps := ps) fun y hy => h y (by simp [hy])]
theorem boundOf_congr {T : Nat → Type} {ρ ρ' : Operand → Option (SV T)} {x : Option Operand} {d : Int} (h : ∀ y ∈ x.toList, ρ y = ρ' y) : boundOf ρ x d = boundOf ρ' x d := by
  cases x with
  | none => rfl
  | some y => simp only [boundOf]; rw [h y (by simp)]

theorem evP_congr {ρ ρ' : Operand → Option (SV tb.T)} {κ : SV tb.T → Option R} (o : Op) (h : ∀ x ∈ o.operands.toList, ρ x = ρ' x) : evP P tb o ρ κ = evP P tb o ρ' κ := by
  cases o
  case call c =>
    obtain ⟨callee, args, tys⟩ := c
    have hv : vals ρ args.toList = vals ρ' args.toList := vals_congr fun x hx => h x (by
      simp only [Op.operands, Call.operands, Array.toList_append, List.mem_append]; exact .inr hx)
    cases callee with
    | builtin b => cases b <;> simp only [evP, hv]
    | value f => rfl
    | invoke r m => rfl
  case build t ps =>
    have : ∀ cells : List (AC tb.T), fillS P t ρ ps.toList cells = fillS P t ρ' ps.toList cells := fun cells => fillS_congr fun p hp => h p.2 (by
      simp only [Op.operands, List.mem_map]; exact ⟨p, hp, rfl⟩)
    simp only [evP, this]
  case slice t x l hh m =>
    have hx := h x (by simp [Op.operands])
    have h1 : ∀ d, boundOf ρ l d = boundOf ρ' l d := fun d => boundOf_congr fun y hy => h y (by cases l <;> simp_all [Op.operands])
    have h2 : ∀ d, boundOf ρ hh d = boundOf ρ' hh d := fun d => boundOf_congr fun y hy => h y (by cases hh <;> simp_all [Op.operands])
    simp only [evP, hx, h1, h2]
  case makeFunc fn first caps =>
    have hv : vals ρ caps.toList = vals ρ' caps.toList := vals_congr fun x hx => h x (by
      simp only [Op.operands, Array.toList_append, List.mem_append]; exact .inr hx)
    cases fn <;> simp only [evP, hv]
  all_goals first
    | rfl
    | (simp only [evP]; simp only [Op.operands, List.mem_cons, List.not_mem_nil, or_false, forall_eq_or_imp, forall_eq] at h; simp only [h]; done)

structure Eff (T : Nat → Type) where
  d : Option Nat
  v : SV T
  F : Nat → Bool := fun _ => false
  b : Nat → Option (List (AC T)) := fun _ => none
  it : Nat → Option (Ob T) := fun _ => none
  tk : Nat → Bool := fun _ => false

def Eff.apply {T : Nat → Type} (e : Eff T) (s : St T) : St T :=
  { env := match e.d with | some d => upd s.env d (some e.v) | none => s.env
    blk := fun i => (e.b i).or (s.blk i)
    itr := fun i => (e.it i).or (s.itr i)
    tok := fun i => e.tk i || s.tok i
    used := fun i => e.F i || s.used i
    ro := s.ro }

def Foot.mem : Foot → Nat → Prop
  | .l i, j | .st i, j => j = i
  | _, _ => False

structure Does (P : Program) (tb : Tab) (Γ : List (Nat × FSpec tb)) (o : Oper) (s : St tb.T) (f : Foot) (s' : St tb.T) (e : Eff tb.T) : Prop where
  eq : s' = e.apply s
  fresh : ∀ i, e.F i = true → s.used i = false
  mb : ∀ i, e.b i ≠ none → e.F i = true ∨ f = .st i
  mit : ∀ i, e.it i ≠ none → e.F i = true
  mtk : ∀ i, e.tk i = true → e.F i = true
  dst : e.d = none ∨ e.d = o.dst
  reads : ∀ i, f.mem i → ∃ t v, .tmp t ∈ o.op.operands.toList ∧ s.env t = some v ∧ i ∈ v.ids
  again : ∀ s1, (∀ x ∈ o.op.operands.toList, s1.val x = s.val x) → (∀ i, f.mem i → s1.blk i = s.blk i ∧ s1.itr i = s.itr i) → s1.ro = s.ro → (∀ i, e.F i = true → s1.used i = false) → evOp P tb Γ o s1 some = some (e.apply s1) ∧ footOf Γ o.op s1 = f

theorem apply_putO (s : St tb.T) (d : Option Nat) (v : SV tb.T) : s.putO d v = Eff.apply { d := d, v := v } s := by
  cases d <;> simp [Eff.apply, St.putO, St.put]

/-- one token dropped as well -/
def applyT {T : Nat → Type} (e : Eff T) (dt : Option Nat) (s : St T) : St T :=
  { e.apply s with tok := fun i => match dt with | some t => (bif Nat.beq i t then false else (e.apply s).tok i) | none => (e.apply s).tok i }
theorem applyT_none {T : Nat → Type} (e : Eff T) (s : St T) : applyT e none s = e.apply s := rfl
structure DoesT (P : Program) (tb : Tab) (Γ : List (Nat × FSpec tb)) (o : Oper) (s : St tb.T) (f : Foot) (s' : St tb.T) (e : Eff tb.T) (dt : Option Nat) : Prop where
  eq : s' = applyT e dt s
  fresh : ∀ i, e.F i = true → s.used i = false
  mb : ∀ i, e.b i ≠ none → e.F i = true ∨ f = .st i
  mit : ∀ i, e.it i ≠ none → e.F i = true
  mtk : ∀ i, e.tk i = true → e.F i = true
  mdt : ∀ i, dt = some i → f = .ap (some i)
  dst : e.d = none ∨ e.d = o.dst
  reads : ∀ i, (f.mem i ∨ f = .ap (some i)) → ∃ t v, .tmp t ∈ o.op.operands.toList ∧ s.env t = some v ∧ i ∈ v.ids
  again : ∀ s1, (∀ x ∈ o.op.operands.toList, s1.val x = s.val x) → (∀ i, f.mem i → s1.blk i = s.blk i ∧ s1.itr i = s.itr i) → (∀ i, f = .ap (some i) → s1.tok i = s.tok i) → s1.ro = s.ro → (∀ i, e.F i = true → s1.used i = false) → evOp P tb Γ o s1 some = some (applyT e dt s1) ∧ footOf Γ o.op s1 = f
theorem Does.toT {o : Oper} {f : Foot} {e : Eff tb.T} (h : Does P tb Γ o s f s' e) (hf : ∀ t, f ≠ .ap t) : DoesT P tb Γ o s f s' e none :=
  ⟨h.eq, h.fresh, h.mb, h.mit, h.mtk, fun i hi => (by cases hi), h.dst, fun i hi => h.reads i (hi.resolve_right (hf _)), fun s1 h1 h2 _ h3 h4 => h.again s1 h1 h2 h3 h4⟩

theorem does_P {o : Oper} (ho : ∀ s : St tb.T, evOp P tb Γ o s some = evP P tb o.op s.val fun v => some (s.putO o.dst v)) (hf : ∀ s : St tb.T, footOf Γ o.op s = footOf Γ o.op s') (hfm : ∀ i, ¬ (footOf Γ o.op s').mem i)
    (he : evOp P tb Γ o s some = some s') : ∃ e, Does P tb Γ o s (footOf Γ o.op s) s' e := by
  rw [ho, evP_k] at he
  obtain ⟨v, hv, he⟩ := obnd_eq_some.1 he
  simp only [Option.some.injEq] at he
  refine ⟨{ d := o.dst, v := v }, by rw [← he, apply_putO], by simp, by simp, by simp, by simp, .inr rfl, fun i hi => absurd (by rw [← hf s]; exact hi) (hfm i), fun s1 h1 _ _ _ => ⟨?_, by rw [hf s1, hf s]⟩⟩
  rw [ho, evP_k, evP_congr o.op h1, hv]
  simp only [obnd_some, apply_putO]

theorem ids_tmp {x : Operand} {v : SV tb.T} {i : Nat} (hv : s.val x = some v) (hi : i ∈ v.ids) : ∃ t, x = .tmp t ∧ s.env t = some v := by
  cases x with
  | tmp t => exact ⟨t, rfl, hv⟩
  | const c =>
    simp only [St.val] at hv
    cases hc : (constV c : Option (AC tb.T)) with
    | none => simp [hc] at hv
    | some ac =>
      simp only [hc, Option.some.injEq] at hv; subst hv
      have := (constV_sound (P := default) (tb := tb) (g := fun _ => .con) (w := default) (μ := fun _ => 0) (τ := fun _ => none) (tok := fun _ => false) hc).2
      simp [SV.ids, this] at hi
  | global _ => simp [St.val] at hv
  | func f => simp only [St.val, Option.some.injEq] at hv; subst hv; simp [SV.ids, AC.ids] at hi
end Go.Ev

/- Effects, kind by kind. -/
namespace Go.Ev
open Go

variable {P : Program} {tb : Tab} {R : Type} {Γ : List (Nat × FSpec tb)} {s s' s1 : St tb.T}

theorem upd_or {α : Type} (f : Nat → Option α) (i : Nat) (v : α) : upd f i (some v) = fun j => (upd (fun _ => none) i (some v) j).or (f j) := funext fun j => by
  simp only [upd_eq]; split <;> simp
theorem upd_bor (f : Nat → Bool) (i : Nat) : upd f i true = fun j => upd (fun _ => false) i true j || f j := funext fun j => by
  simp only [upd_eq]; split <;> simp

theorem newVar_eff {d : Nat} {z : List (AC tb.T)} (h : newVar s d z some = some s') : s.used d = false ∧ s' = Eff.apply { d := some d, v := .c (.ptr d 0), F := upd (fun _ => false) d true, b := upd (fun _ => none) d (some z) } s := by
  unfold newVar at h
  cases hu : s.used d with
  | true => simp [hu] at h
  | false =>
    simp only [hu, cond_false, Option.some.injEq] at h
    refine ⟨rfl, ?_⟩
    rw [← h, Eff.apply, upd_or s.blk, upd_bor s.used]
    simp
theorem newVar_again {d : Nat} {z : List (AC tb.T)} (h : s.used d = false) : newVar s d z some = some (Eff.apply { d := some d, v := .c (.ptr d 0), F := upd (fun _ => false) d true, b := upd (fun _ => none) d (some z) } s) := by
  have : newVar s d z some = some { s with env := upd s.env d (some (.c (.ptr d 0))), blk := upd s.blk d (some z), used := upd s.used d true } := by simp [newVar, h]
  rw [this]
  rw [(newVar_eff this).2]
theorem newOwn_eff {d e : Nat} {xs : List (tb.T e)} (h : newOwn tb s d e xs some = some s') : s.used d = false ∧ s' = Eff.apply { d := some d, v := .c (.own e xs d), F := upd (fun _ => false) d true, tk := upd (fun _ => false) d true } s := by
  unfold newOwn at h
  cases hu : s.used d with
  | true => simp [hu] at h
  | false =>
    simp only [hu, cond_false, Option.some.injEq] at h
    refine ⟨rfl, ?_⟩
    rw [← h, Eff.apply, upd_bor s.tok, upd_bor s.used]
    simp
theorem newOwn_again {d e : Nat} {xs : List (tb.T e)} (h : s.used d = false) : newOwn tb s d e xs some = some (Eff.apply { d := some d, v := .c (.own e xs d), F := upd (fun _ => false) d true, tk := upd (fun _ => false) d true } s) := by
  have : newOwn tb s d e xs some = some { s with env := upd s.env d (some (.c (.own e xs d))), tok := upd s.tok d true, used := upd s.used d true } := by simp [newOwn, h]
  rw [this]
  rw [(newOwn_eff this).2]

theorem upd_true {i j : Nat} (h : upd (fun _ => false) i true j = true) : j = i := by
  rw [upd_eq] at h; split at h
  · assumption
  · cases h
theorem upd_ne_none {α : Type} {i j : Nat} {v : Option α} (h : upd (fun _ => none) i v j ≠ none) : j = i := by
  rw [upd_eq] at h; split at h
  · assumption
  · exact absurd rfl h

/-- an operation that makes a variable -/
theorem does_newVar {o : Oper} {d : Nat} {z : List (AC tb.T)} (hdst : o.dst = some d) (hf : ∀ s : St tb.T, footOf Γ o.op s = .n)
    (ho : ∀ s1 : St tb.T, (∀ x ∈ o.op.operands.toList, s1.val x = s.val x) → evOp P tb Γ o s1 some = newVar s1 d z some) (he : evOp P tb Γ o s some = some s') : ∃ e, Does P tb Γ o s (footOf Γ o.op s) s' e := by
  rw [ho s fun _ _ => rfl] at he
  obtain ⟨h1, h2⟩ := newVar_eff he
  refine ⟨_, h2, fun i hi => by rw [upd_true hi]; exact h1, fun i hi => .inl (by rw [upd_ne_none hi]; show upd (fun _ => false) d true d = true; exact upd_same _ _ _), by simp, by simp, .inr hdst.symm, fun i hi => absurd hi (by rw [hf]; exact fun h => h), fun s1 k1 _ _ k4 => ⟨?_, by rw [hf, hf]⟩⟩
  rw [ho s1 k1]
  exact newVar_again (k4 d (by show upd (fun _ => false) d true d = true; exact upd_same _ _ _))
theorem does_newOwn {o : Oper} {d e : Nat} {xs : List (tb.T e)} (hdst : o.dst = some d) (hf : ∀ s : St tb.T, footOf Γ o.op s = .n)
    (ho : ∀ s1 : St tb.T, (∀ x ∈ o.op.operands.toList, s1.val x = s.val x) → evOp P tb Γ o s1 some = newOwn tb s1 d e xs some) (he : evOp P tb Γ o s some = some s') : ∃ e, Does P tb Γ o s (footOf Γ o.op s) s' e := by
  rw [ho s fun _ _ => rfl] at he
  obtain ⟨h1, h2⟩ := newOwn_eff he
  refine ⟨_, h2, fun i hi => by rw [upd_true hi]; exact h1, by simp, by simp, fun _ h => h, .inr hdst.symm, fun i hi => absurd hi (by rw [hf]; exact fun h => h), fun s1 k1 _ _ k4 => ⟨?_, by rw [hf, hf]⟩⟩
  rw [ho s1 k1]
  exact newOwn_again (k4 d (by show upd (fun _ => false) d true d = true; exact upd_same _ _ _))

theorem newAr_eff {d e : Nat} {xs : List (tb.T e)} (h : newAr tb s d e xs some = some s') : s.used d = false ∧ s' = Eff.apply { d := some d, v := .c (.vsl d xs.length), F := upd (fun _ => false) d true, it := upd (fun _ => none) d (some (.ar e xs)) } s := by
  unfold newAr at h
  cases hu : s.used d with
  | true => simp [hu] at h
  | false =>
    simp only [hu, cond_false, Option.some.injEq] at h
    refine ⟨rfl, ?_⟩
    rw [← h, Eff.apply, upd_or s.itr, upd_bor s.used]
    simp
theorem newAr_again {d e : Nat} {xs : List (tb.T e)} (h : s.used d = false) : newAr tb s d e xs some = some (Eff.apply { d := some d, v := .c (.vsl d xs.length), F := upd (fun _ => false) d true, it := upd (fun _ => none) d (some (.ar e xs)) } s) := by
  have : newAr tb s d e xs some = some { s with env := upd s.env d (some (.c (.vsl d xs.length))), itr := upd s.itr d (some (.ar e xs)), used := upd s.used d true } := by simp [newAr, h]
  rw [this]
  rw [(newAr_eff this).2]
theorem does_newSl {o : Oper} {d e : Nat} {xs : List (tb.T e)} (hdst : o.dst = some d) (hf : ∀ s : St tb.T, footOf Γ o.op s = .n)
    (ho : ∀ s1 : St tb.T, (∀ x ∈ o.op.operands.toList, s1.val x = s.val x) → evOp P tb Γ o s1 some = newSl tb Γ s1 d e xs some) (he : evOp P tb Γ o s some = some s') : ∃ e, Does P tb Γ o s (footOf Γ o.op s) s' e := by
  cases hm : isMut Γ d with
  | false =>
    refine does_newOwn (e := e) (xs := xs) hdst hf (fun s1 h1 => ?_) he
    rw [ho s1 h1]; unfold newSl; rw [hm]; rfl
  | true =>
    have ho' : ∀ s1 : St tb.T, (∀ x ∈ o.op.operands.toList, s1.val x = s.val x) → evOp P tb Γ o s1 some = newAr tb s1 d e xs some := fun s1 h1 => by
      rw [ho s1 h1]; unfold newSl; rw [hm]; rfl
    rw [ho' s fun _ _ => rfl] at he
    obtain ⟨h1, h2⟩ := newAr_eff he
    refine ⟨_, h2, fun i hi => by rw [upd_true hi]; exact h1, by simp, fun i hi => by rw [upd_ne_none hi]; show upd (fun _ => false) d true d = true; exact upd_same _ _ _, by simp, .inr hdst.symm, fun i hi => absurd hi (by rw [hf]; exact fun h => h), fun s1 k1 _ _ k4 => ⟨?_, by rw [hf, hf]⟩⟩
    rw [ho' s1 k1]
    exact newAr_again (k4 d (by show upd (fun _ => false) d true d = true; exact upd_same _ _ _))

theorem does_load {o : Oper} {t : Nat} {a : Operand} (ho : o.op = .load t a) (he : evOp P tb Γ o s some = some s') (hx : footOf Γ o.op s ≠ .x) : ∃ e, Does P tb Γ o s (footOf Γ o.op s) s' e := by
  have hev : ∀ s1 : St tb.T, evOp P tb Γ o s1 some = match s1.val a with
    | some (.c (.ptr i off)) => match s1.blk i with
      | some cells => match cut1 P t cells off with
        | some v => some (s1.putO o.dst v)
        | none => none
      | none => none
    | some (.c (.cptr cs)) => match cut1 P t (cs.map AC.d) 0 with
      | some v => some (s1.putO o.dst v)
      | none => none
    | some (.c (.elp i e k off)) => match s1.itr i with
      | some (.ar e' xs) => bif Nat.beq e' e then obnd (nth xs k) fun y => (match cut1 P t ((tb.enc e' y).map AC.d) off with
        | some v => some (s1.putO o.dst v)
        | none => none) else none
      | _ => none
    | _ => none := fun s1 => by obtain ⟨odst, oop, oty, oaf, ogd⟩ := o; simp only at ho; subst ho; rfl
  have hft : ∀ s1 : St tb.T, footOf Γ o.op s1 = match s1.val a with | some (.c (.ptr i _)) => .l i | some (.c (.cptr _)) => .p | _ => .x := fun s1 => by rw [ho]; rfl
  have hop : a ∈ o.op.operands.toList := by rw [ho]; simp [Op.operands]
  rw [hev] at he
  split at he
  · rename_i i off hv
    split at he
    · rename_i cells hb
      split at he
      · rename_i v hc
        simp only [Option.some.injEq] at he
        have hf : footOf Γ o.op s = .l i := by rw [hft, hv]
        rw [hf]
        refine ⟨{ d := o.dst, v := v }, by rw [← he, apply_putO], by simp, by simp, by simp, by simp, .inr rfl, fun j hj => ?_, fun s1 k1 k2 _ _ => ⟨?_, by rw [hft, k1 a hop, hv]⟩⟩
        · have : j = i := hj
          subst this
          obtain ⟨t', e, h'⟩ := ids_tmp hv (i := j) (by simp [SV.ids, AC.ids])
          exact ⟨t', _, by rw [← e]; exact hop, h', by simp [SV.ids, AC.ids]⟩
        · rw [hev, k1 a hop, hv]
          simp only [(k2 i rfl).1, hb, hc, apply_putO]
      · cases he
    · cases he
  · rename_i cs hv
    split at he
    · rename_i v hc
      simp only [Option.some.injEq] at he
      have hf : footOf Γ o.op s = .p := by rw [hft, hv]
      rw [hf]
      refine ⟨{ d := o.dst, v := v }, by rw [← he, apply_putO], by simp, by simp, by simp, by simp, .inr rfl, fun j hj => hj.elim, fun s1 k1 _ _ _ => ⟨?_, by rw [hft, k1 a hop, hv]⟩⟩
      rw [hev, k1 a hop, hv]
      simp only [hc, apply_putO]
    · cases he
  · rename_i hv
    exact absurd (by rw [hft, hv]) hx
  · cases he

theorem does_store {o : Oper} {t : Nat} {a x : Operand} (ho : o.op = .store t a x) (he : evOp P tb Γ o s some = some s') (hx : footOf Γ o.op s ≠ .x) : ∃ e, Does P tb Γ o s (footOf Γ o.op s) s' e := by
  have hft : ∀ s1 : St tb.T, footOf Γ o.op s1 = match s1.val a with | some (.c (.ptr i _)) => .st i | _ => .x := fun s1 => by rw [ho]; rfl
  have hopa : a ∈ o.op.operands.toList := by rw [ho]; simp [Op.operands]
  have hopx : x ∈ o.op.operands.toList := by rw [ho]; simp [Op.operands]
  have hev : ∀ s1 : St tb.T, evOp P tb Γ o s1 some = match o.dst with
    | some _ => none
    | none => match s1.val a with
      | some (.c (.ptr i off)) => bif s1.ro i then none else match s1.blk i with
        | some cells => match s1.val x with
          | some v => match v.cells with
            | some as => bif sized P t && Nat.beq as.length (P.cellsOf t) && Nat.ble (off + as.length) cells.length then some { s1 with blk := upd s1.blk i (some (setAt cells as off)) } else none
            | none => none
          | none => none
        | none => none
      | some (.c (.elp i e k off)) => match s1.itr i with
        | some (.ar e' xs) => bif Nat.beq e' e then (match s1.val x with
          | some v => match v.cells with
            | some as => match cvs as with
              | some cs => obnd (nth xs k) fun y => bif sized P t && Nat.beq cs.length (P.cellsOf t) && Nat.ble (off + cs.length) (tb.enc e' y).length then (match tb.dec e' (setAt (tb.enc e' y) cs off) with
                | some y' => some { s1 with itr := upd s1.itr i (some (.ar e' (xs.set k y'))) }
                | none => none) else none
              | none => none
            | none => none
          | none => none) else none
        | _ => none
      | _ => none := fun s1 => by obtain ⟨odst, oop, oty, oaf, ogd⟩ := o; simp only at ho; subst ho; rfl
  rw [hev] at he
  cases hdst : o.dst with
  | some d => simp [hdst] at he
  | none =>
    simp only [hdst] at he
    split at he
    · rename_i i off hv
      cases hro : s.ro i with
      | true => simp [hro] at he
      | false =>
        simp only [hro, cond_false] at he
        split at he
        · rename_i cells hb
          split at he
          · rename_i v hvx
            split at he
            · rename_i as has
              cases hk : (sized P t && Nat.beq as.length (P.cellsOf t) && Nat.ble (off + as.length) cells.length) with
              | false => simp only [hk, cond_false, reduceCtorEq] at he
              | true =>
                simp only [hk, cond_true, Option.some.injEq] at he
                have hf : footOf Γ o.op s = .st i := by rw [hft, hv]
                rw [hf]
                refine ⟨{ d := none, v := .tup [], b := upd (fun _ => none) i (some (setAt cells as off)) }, ?_, by simp, fun j hj => .inr (by rw [upd_ne_none hj]), by simp, by simp, .inl rfl, fun j hj => ?_, fun s1 k1 k2 k3 _ => ⟨?_, by rw [hft, k1 a hopa, hv]⟩⟩
                · rw [← he, Eff.apply, upd_or s.blk]; simp
                · have : j = i := hj
                  subst this
                  obtain ⟨t', e, h'⟩ := ids_tmp hv (i := j) (by simp [SV.ids, AC.ids])
                  exact ⟨t', _, by rw [← e]; exact hopa, h', by simp [SV.ids, AC.ids]⟩
                · rw [hev, hdst]
                  simp only [k1 a hopa, hv, k3, hro, (k2 i rfl).1, hb, k1 x hopx, hvx, has, hk, cond_false, cond_true]
                  rw [upd_or s1.blk, Eff.apply]; simp [k3]
            · cases he
          · cases he
        · cases he
    · rename_i hv
      exact absurd (by rw [hft, hv]) hx
    · cases he

/-! ### a call of a function that takes and gives plain values -/
theorem plain_refs : ∀ {l : LSpec}, LSpec.plain l = true → refsOf l = []
  | [], _ => rfl
  | (i, p) :: l, h => by
    simp only [LSpec.plain, List.all_cons, Bool.and_eq_true] at h
    have ih := plain_refs (l := l) h.2
    cases p <;> simp_all [refsOf, Pat.isRef]
theorem plain_ids {T : Nat → Type} {get : Nat → Option (SV T)} : ∀ {l : LSpec}, LSpec.plain l = true → idsS get l = []
  | [], _ => rfl
  | (i, p) :: l, h => by
    simp only [LSpec.plain, List.all_cons, Bool.and_eq_true] at h
    have ih := plain_ids (get := get) (l := l) h.2
    cases p <;> simp_all [idsS, idsP]
    split <;> rfl
theorem plain_ext {get : Nat → Option (SV tb.T)} : ∀ {l : LSpec}, LSpec.plain l = true → extS P tb s get l = extS P tb s1 get l
  | [], _ => rfl
  | [(i, p)], h => by
    simp only [LSpec.plain, List.all_cons, Bool.and_eq_true] at h
    cases p <;> first | rfl | simp at h
  | (i, p) :: b :: l, h => by
    simp only [LSpec.plain, List.all_cons, Bool.and_eq_true] at h
    have ih := plain_ext (get := get) (l := b :: l) (by simp only [LSpec.plain, List.all_cons, Bool.and_eq_true]; exact h.2)
    cases p <;> first | (simp only [extS, ih, extP]; done) | simp at h
theorem plain_tk : ∀ {l : LSpec}, LSpec.plain l = true → tkOf l = []
  | [], _ => rfl
  | (i, p) :: l, h => by
    simp only [LSpec.plain, List.all_cons, Bool.and_eq_true] at h
    have ih := plain_tk (l := l) h.2
    cases p <;> simp_all [tkOf, Pat.taken]
theorem plain_take {get : Nat → Option (SV tb.T)} {l : LSpec} (h : LSpec.plain l = true) : s.take get l = s := by
  simp [St.take, plain_ids h, plain_tk h, idsS, memB]
theorem putRefs_nil {get : Nat → Option (SV tb.T)} : ∀ {rs : LSpec} (x : XS tb rs), rs = [] → putRefs tb s get rs x = s
  | [], _, _ => rfl

/-- what a call leaves: its temporary, new arrays -/
def outEff (F : Nat → Bool) (d : Option Nat) (v : SV tb.T) : Eff tb.T := { d := d, v := v, F := F, tk := F }
theorem putOne_do (d : Nat) (p : Pat) (x : X tb p) (h : outOne P tb d s p x = some s') :
    ∃ F v, s' = (outEff F (some d) v).apply s ∧ (∀ i, F i = true → s.used i = false) ∧ ∀ s1 : St tb.T, (∀ i, F i = true → s1.used i = false) → outOne P tb d s1 p x = some ((outEff F (some d) v).apply s1) := by
  cases p with
  | val e =>
    simp only [outOne, Option.some.injEq] at h
    exact ⟨fun _ => false, valSV P e (tb.enc e x), by rw [← h]; simp [outEff, Eff.apply, St.put], by simp, fun s1 _ => by simp [outOne, outEff, Eff.apply, St.put]⟩
  | own e =>
    have h' : newOwn tb s d e x some = some s' := h
    obtain ⟨h1, h2⟩ := newOwn_eff h'
    refine ⟨upd (fun _ => false) d true, .c (.own e x d), h2, fun i hi => by rw [upd_true hi]; exact h1, fun s1 h3 => ?_⟩
    exact newOwn_again (h3 d (by exact upd_same _ _ _))
  | ref e => simp [outOne] at h
  | ro e => simp [outOne] at h
  | iter => simp [outOne] at h
  | fnp f n => simp [outOne] at h
  | mp kt vt => simp [outOne] at h
  | wr e => simp [outOne] at h
  | box n => simp [outOne] at h

/-- the same, without the temporary -/
def ownEff (F : Nat → Bool) (s : St tb.T) : St tb.T := { s with tok := fun i => F i || s.tok i, used := fun i => F i || s.used i }
theorem part1_do (d j : Nat) (a : Nat × Pat) (x : X tb a.2) (q : Bool × List (AC tb.T)) (h : outTup.part1 P tb d s j a x = some (q, s')) :
    ∃ F, s' = ownEff F s ∧ (∀ i, F i = true → s.used i = false) ∧ ∀ s1 : St tb.T, (∀ i, F i = true → s1.used i = false) → outTup.part1 P tb d s1 j a x = some (q, ownEff F s1) := by
  obtain ⟨i, p⟩ := a
  cases p with
  | val e =>
    refine ⟨fun _ => false, ?_⟩
    have e0 : ∀ s1 : St tb.T, ownEff (fun _ => false) s1 = s1 := fun s1 => by simp [ownEff]
    simp only [e0]
    have e1 : ∀ s1 : St tb.T, outTup.part1 P tb d s1 j (i, .val e) x = (bif isAggB P e then some ((true, (tb.enc e x).map .d), s1) else match tb.enc e x with | [c] => some ((false, [.d c]), s1) | _ => none) := fun _ => rfl
    simp only [e1] at h ⊢
    cases ha : isAggB P e with
    | true => simp only [ha, cond_true, Option.some.injEq, Prod.mk.injEq] at h ⊢; exact ⟨h.2.symm, by simp, fun s1 _ => ⟨h.1, trivial⟩⟩
    | false =>
      simp only [ha, cond_false] at h ⊢
      split at h
      · rename_i c hc
        simp only [Option.some.injEq, Prod.mk.injEq] at h
        exact ⟨h.2.symm, by simp, fun s1 _ => by simp [h.1]⟩
      · cases h
  | own e =>
    have e1 : ∀ s1 : St tb.T, outTup.part1 P tb d s1 j (i, .own e) x = (bif s1.used (d + 65536 * j) then none else
        some ((false, [.own e x (d + 65536 * j)]), { s1 with tok := upd s1.tok (d + 65536 * j) true, used := upd s1.used (d + 65536 * j) true })) := fun _ => rfl
    simp only [e1] at h ⊢
    cases hu : s.used (d + 65536 * j) with
    | true => simp [hu] at h
    | false =>
      simp only [hu, cond_false, Option.some.injEq, Prod.mk.injEq] at h
      refine ⟨upd (fun _ => false) (d + 65536 * j) true, ?_, fun i hi => by rw [upd_true hi]; exact hu, fun s1 h3 => ?_⟩
      · rw [← h.2, upd_bor s.tok, upd_bor s.used]; rfl
      · have := h3 (d + 65536 * j) (upd_same _ _ _)
        simp only [this, cond_false, Option.some.injEq, Prod.mk.injEq]
        exact ⟨h.1, by rw [upd_bor s1.tok, upd_bor s1.used]; rfl⟩
  | ref e => cases h
  | ro e => cases h
  | iter => cases h
  | fnp f n => cases h
  | mp kt vt => cases h
  | wr e => cases h
  | box n => cases h

theorem ownEff_two (F G : Nat → Bool) (s : St tb.T) : ownEff G (ownEff F s) = ownEff (fun i => G i || F i) s := by
  simp [ownEff, Bool.or_assoc]
theorem outTup_do (d : Nat) : ∀ (j : Nat) (l : LSpec) (x : XS tb l) (s s' : St tb.T) (qs : List (Bool × List (AC tb.T))), outTup P tb d s j l x = some (qs, s') →
    ∃ F, s' = ownEff F s ∧ (∀ i, F i = true → s.used i = false) ∧ ∀ s1 : St tb.T, (∀ i, F i = true → s1.used i = false) → outTup P tb d s1 j l x = some (qs, ownEff F s1)
  | j, [], x, s, s', qs, h => by
    simp only [outTup, Option.some.injEq, Prod.mk.injEq] at h
    refine ⟨fun _ => false, by rw [← h.2]; simp [ownEff], by simp, fun s1 _ => by simp [outTup, h.1, ownEff]⟩
  | j, [a], x, s, s', qs, h => by
    simp only [outTup] at h
    cases hp : outTup.part1 P tb d s j a x with
    | none => simp [hp] at h
    | some q =>
      obtain ⟨q, s2⟩ := q
      simp only [hp, Option.some.injEq, Prod.mk.injEq] at h
      obtain ⟨F, h1, h2, h3⟩ := part1_do d j a x q hp
      exact ⟨F, by rw [← h.2]; exact h1, h2, fun s1 k => by simp only [outTup, h3 s1 k, h.1]⟩
  | j, a :: b :: l, (x, xs), s, s', qs, h => by
    simp only [outTup] at h
    cases hp : outTup.part1 P tb d s j a x with
    | none => simp [hp] at h
    | some q =>
      obtain ⟨q, s2⟩ := q
      simp only [hp] at h
      cases hq : outTup P tb d s2 (j + 1) (b :: l) xs with
      | none => simp [hq] at h
      | some r =>
        obtain ⟨ps, s3⟩ := r
        simp only [hq, Option.some.injEq, Prod.mk.injEq] at h
        obtain ⟨F, h1, h2, h3⟩ := part1_do d j a x q hp
        obtain ⟨G, k1, k2, k3⟩ := outTup_do d (j + 1) (b :: l) xs s2 s3 ps hq
        refine ⟨fun i => G i || F i, by rw [← h.2, k1, h1, ownEff_two], fun i hi => ?_, fun s1 k => ?_⟩
        · simp only [Bool.or_eq_true] at hi
          rcases hi with hi | hi
          · have := k2 i hi
            rw [h1] at this
            simp only [ownEff, Bool.or_eq_false_iff] at this
            exact this.2
          · exact h2 i hi
        · have e1 := h3 s1 fun i hi => k i (by simp [hi])
          have e2 := k3 (ownEff F s1) fun i hi => by
            have f1 := k2 i hi
            rw [h1] at f1
            simp only [ownEff, Bool.or_eq_false_iff] at f1 ⊢
            exact ⟨f1.1, k i (by simp [hi])⟩
          simp only [outTup, e1, e2, ownEff_two, h.1]

theorem putOuts_do {dst : Option Nat} : ∀ {l : LSpec} {x : XS tb l}, putOuts P tb dst s l x = some s' →
    ∃ F d v, (d = none ∨ d = dst) ∧ s' = (outEff F d v).apply s ∧ (∀ i, F i = true → s.used i = false) ∧ ∀ s1 : St tb.T, (∀ i, F i = true → s1.used i = false) → putOuts P tb dst s1 l x = some ((outEff F d v).apply s1)
  | [], x, h => by
    simp only [putOuts, Option.some.injEq] at h
    refine ⟨fun _ => false, dst, .tup [], .inr rfl, by rw [← h, apply_putO]; rfl, by simp, fun s1 _ => by simp only [putOuts, apply_putO]; rfl⟩
  | [a], x, h => by
    cases dst with
    | none =>
      simp only [putOuts, Option.some.injEq] at h
      exact ⟨fun _ => false, none, .tup [], .inl rfl, by rw [← h]; simp [outEff, Eff.apply], by simp, fun s1 _ => by simp [putOuts, outEff, Eff.apply]⟩
    | some d =>
      simp only [putOuts] at h
      obtain ⟨F, v, h1, h2, h3⟩ := putOne_do d a.2 x h
      exact ⟨F, some d, v, .inr rfl, h1, h2, h3⟩
  | a :: b :: l, x, h => by
    cases dst with
    | none =>
      simp only [putOuts, Option.some.injEq] at h
      exact ⟨fun _ => false, none, .tup [], .inl rfl, by rw [← h]; simp [outEff, Eff.apply], by simp, fun s1 _ => by simp [putOuts, outEff, Eff.apply]⟩
    | some d =>
      simp only [putOuts] at h
      cases hq : outTup P tb d s 0 (a :: b :: l) x with
      | none => simp [hq] at h
      | some r =>
        obtain ⟨ps, s2⟩ := r
        simp only [hq, Option.some.injEq] at h
        obtain ⟨F, h1, h2, h3⟩ := outTup_do d 0 (a :: b :: l) x s s2 ps hq
        have e0 : ∀ s1 : St tb.T, (ownEff F s1).put d (.tup ps) = (outEff F (some d) (.tup ps)).apply s1 := fun s1 => by simp [ownEff, outEff, Eff.apply, St.put]
        exact ⟨F, some d, .tup ps, .inr rfl, by rw [← h, h1, e0], h2, fun s1 k => by simp only [putOuts, h3 s1 k, e0]⟩

theorem vget_real {s : St tb.T} {get : Nat → Option (SV tb.T)} {t : Nat} (h : vreal t = true) : vget s get t = get t := by
  have h : Nat.blt t 4294967296 = true := h
  simp only [vget, h, cond_true]
theorem extS_real {P : Program} {tb : Tab} {s1 s2 : St tb.T} {get : Nat → Option (SV tb.T)} : ∀ {l : LSpec}, allReal l = true → extS P tb s1 (vget s2 get) l = extS P tb s1 get l
  | [], _ => rfl
  | [a], h => by
    simp only [allReal, List.all_cons, Bool.and_eq_true] at h
    simp only [extS, vget_real h.1]
  | a :: b :: l, h => by
    have h1 := h
    simp only [allReal, List.all_cons, Bool.and_eq_true] at h
    have ih := extS_real (P := P) (s1 := s1) (s2 := s2) (get := get) (l := b :: l) (by simp only [allReal, List.all_cons, Bool.and_eq_true]; exact h.2)
    simp only [extS, vget_real h.1, ih]
theorem putOutsV_real {dst : Option Nat} {arg : Nat → Option (SV tb.T)} {s : St tb.T} : ∀ {l : LSpec} {x : XS tb l}, allReal l = true → putOutsV P tb dst arg s l x = putOuts P tb dst s l x
  | [], x, _ => rfl
  | [a], x, h => by
    simp only [allReal, List.all_cons, Bool.and_eq_true] at h
    simp only [putOutsV, h.1, cond_true]
  | a :: b :: l, x, h => by
    have h2 : allReal (b :: l) = true := by simp only [allReal, List.all_cons, Bool.and_eq_true] at h ⊢; exact h.2
    simp only [allReal, List.all_cons, Bool.and_eq_true] at h
    simp only [putOutsV, h.1, h2, cond_true]

theorem evCall_do {fid : Nat} {vs : List (SV tb.T)} {dst : Option Nat} : ∀ {Γ : List (Nat × FSpec tb)}, plainFn Γ fid = true → evCall P tb fid vs dst s some Γ = some s' →
    ∃ F d v, (d = none ∨ d = dst) ∧ s' = (outEff F d v).apply s ∧ (∀ i, F i = true → s.used i = false) ∧ ∀ s1 : St tb.T, (∀ i, F i = true → s1.used i = false) → evCall P tb fid vs dst s1 some Γ = some ((outEff F d v).apply s1)
  | [], _, h => by simp [evCall] at h
  | (g, sp) :: Γ, hp, h => by
    simp only [plainFn, List.all_cons, Bool.and_eq_true] at hp
    simp only [evCall] at h ⊢
    cases hf : Nat.beq g fid with
    | false => simp only [hf, cond_false] at h ⊢; exact evCall_do hp.2 h
    | true =>
      simp only [hf, cond_true] at h ⊢
      have hp1 : LSpec.plain sp.ins = true ∧ allReal sp.ins = true ∧ allReal sp.outs = true := by
        have := hp.1
        simp only [hf, Bool.not_true, Bool.false_or, Bool.and_eq_true] at this; exact ⟨this.1.1.1, this.1.2, this.2⟩
      have ex : ∀ s1 : St tb.T, extS P tb s1 (vget s1 fun i => vs[i]?) sp.ins = extS P tb s1 (fun i => vs[i]?) sp.ins := fun s1 => extS_real hp1.2.1
      have ei : ∀ s1 : St tb.T, idsS (vget s1 fun i => vs[i]?) sp.ins = idsS (fun i => vs[i]?) sp.ins := fun s1 => by rw [plain_ids hp1.1, plain_ids hp1.1]
      rw [ex, ei] at h
      cases hx : extS P tb s (fun i => vs[i]?) sp.ins with
      | none =>
        simp only [hx] at h
        obtain ⟨F, d, v, h1, h2, h3, h4⟩ := evCall_do hp.2 h
        refine ⟨F, d, v, h1, h2, h3, fun s1 k => ?_⟩
        rw [ex, ei, plain_ext (s := s1) (s1 := s) hp1.1, hx]
        exact h4 s1 k
      | some x =>
        simp only [hx] at h
        cases hk : (nodupB (idsS (fun i => vs[i]?) sp.ins) && Nat.beq (reals sp.ins).length vs.length) with
        | false => simp [hk] at h
        | true =>
          simp only [hk, cond_true] at h
          obtain ⟨y, hy, h⟩ := obnd_eq_some.1 h
          rw [plain_take hp1.1, putRefs_nil _ (plain_refs hp1.1), putOutsV_real hp1.2.2] at h
          cases ho : putOuts P tb dst s sp.outs y.outs with
          | none => simp [ho] at h
          | some s2 =>
            simp only [ho, Option.some.injEq] at h
            obtain ⟨F, d, v, h1, h2, h3, h4⟩ := putOuts_do ho
            refine ⟨F, d, v, h1, by rw [← h]; exact h2, h3, fun s1 k => ?_⟩
            rw [ex, ei, plain_ext (s := s1) (s1 := s) hp1.1, hx]
            simp only [hk, cond_true, hy, obnd_some]
            rw [plain_take hp1.1, putRefs_nil _ (plain_refs hp1.1), putOutsV_real hp1.2.2, h4 s1 k]
end Go.Ev

/- Every operation's effect; two that do not touch one another change places. -/
namespace Go.Ev
open Go

variable {P : Program} {tb : Tab} {R : Type} {Γ : List (Nat × FSpec tb)} {s s' s1 : St tb.T}

theorem partAt_mem2 {i : Nat} {x : Operand} : ∀ {ps : List (Nat × Operand)}, partAt i ps = some x → x ∈ ps.map (·.2)
  | [], h => by simp [partAt] at h
  | (j, y) :: ps, h => by
    simp only [partAt] at h
    cases hb : Nat.beq i j with
    | true => simp only [hb, cond_true, Option.some.injEq] at h; subst h; simp
    | false => simp only [hb, cond_false] at h; simp only [List.map_cons, List.mem_cons]; exact .inr (partAt_mem2 h)
theorem elCells_congr {e : Nat} {ρ ρ' : Operand → Option (SV tb.T)} {ps : List (Nat × Operand)} (h : ∀ x ∈ ps.map (·.2), ρ x = ρ' x) (i : Nat) : elCells P e ρ ps i = elCells P e ρ' ps i := by
  unfold elCells
  cases hp : partAt i ps with
  | none => rfl
  | some x => simp only; rw [h x (partAt_mem2 hp)]
theorem buildEls_congr {e : Nat} {ρ ρ' : Operand → Option (SV tb.T)} {ps : List (Nat × Operand)} (h : ∀ x ∈ ps.map (·.2), ρ x = ρ' x) : ∀ (n i : Nat), buildEls P tb e ρ ps n i = buildEls P tb e ρ' ps n i
  | 0, _ => rfl
  | n + 1, i => by
    simp only [buildEls]
    rw [elCells_congr h, buildEls_congr h n (i + 1)]

theorem evConvert_eq (dst : Option Tmp) (src t : Nat) (x : Operand) (ty : Nat) (pos : String) (aft : Array Edge) (gd : Option (Nat × Bool)) (s1 : St tb.T) : evOp P tb Γ ⟨dst, .convert src t x, ty, pos, aft, gd⟩ s1 some = match P.underlying src, P.underlying t, s1.val x, dst with
    | some .string, some (.slice e), some (.c (.d (.str l))), some d => match P.underlying e with
      | some (.int .u8) => if h : e = tb.b8 then (bif Nat.beq (P.cellsOf e) 1 then newSl tb Γ s1 d e (cast (by rw [h, tb.hb]) l) some else none) else none
      | some (.int .i32) => if h : tb.r4 = some e then (bif Nat.beq (P.cellsOf e) 1 then obnd (runes l) fun rs => newSl tb Γ s1 d e (cast (by rw [tb.hr e h]) rs) some else none) else none
      | _ => none
    | _, _, _, _ => evP P tb (.convert src t x) s1.val fun v => some (s1.putO dst v) := rfl

theorem does_bytes {dst : Option Tmp} {src t : Nat} {x : Operand} {ty : Nat} {pos : String} {aft : Array Edge} {gd : Option (Nat × Bool)} (he : evOp P tb Γ ⟨dst, .convert src t x, ty, pos, aft, gd⟩ s some = some s') :
    ∃ e, Does P tb Γ ⟨dst, .convert src t x, ty, pos, aft, gd⟩ s (footOf Γ (.convert src t x) s) s' e := by
  have hev := evConvert_eq (P := P) (tb := tb) (Γ := Γ) dst src t x ty pos aft gd
  have hop : ∀ s1 : St tb.T, (∀ y ∈ (Op.convert src t x).operands.toList, s1.val y = s.val y) → s1.val x = s.val x := fun s1 h => h x (by simp [Op.operands])
  by_cases hc : ∃ e l d, P.underlying src = some .string ∧ P.underlying t = some (.slice e) ∧ s.val x = some (.c (.d (.str l))) ∧ dst = some d
  · obtain ⟨e, l, d, h1, h2, h3, h4⟩ := hc
    have he' := he
    rw [hev, h1, h2, h3, h4] at he
    simp only at he
    split at he
    · rename_i hu
      by_cases hb : e = tb.b8
      · simp only [hb, dite_true] at he
        cases hk : Nat.beq (P.cellsOf tb.b8) 1 with
        | false => simp [hk] at he
        | true =>
          subst hb
          refine does_newSl (e := tb.b8) (xs := cast (by rw [tb.hb]) l) (d := d) h4 (fun _ => rfl) (fun s1 hs1 => ?_) he'
          rw [hev, h1, h2, hop s1 hs1, h3, h4]
          simp [hu, hk]
      · simp [hb] at he
    · rename_i hu
      by_cases hb : tb.r4 = some e
      · simp only [hb, dite_true] at he
        cases hk : Nat.beq (P.cellsOf e) 1 with
        | false => simp [hk] at he
        | true =>
          cases hr : runes l with
          | none => simp [hk, hr] at he
          | some rs =>
            refine does_newSl (e := e) (xs := cast (by rw [tb.hr e hb]) rs) (d := d) h4 (fun _ => rfl) (fun s1 hs1 => ?_) he'
            rw [hev, h1, h2, hop s1 hs1, h3, h4]
            simp [hu, hk, hb, hr]
      · simp [hb] at he
    · cases he
  · have hev2 : ∀ s1 : St tb.T, s1.val x = s.val x → evOp P tb Γ ⟨dst, .convert src t x, ty, pos, aft, gd⟩ s1 some = evP P tb (.convert src t x) s1.val fun v => some (s1.putO dst v) := fun s1 h1 => by
      rw [hev]
      split
      · rename_i e l d k1 k2 k3
        exact absurd ⟨e, l, d, k1, k2, by rw [← h1]; exact k3, rfl⟩ hc
      · rfl
    rw [hev2 s rfl, evP_k] at he
    obtain ⟨v, hv, he⟩ := obnd_eq_some.1 he
    simp only [Option.some.injEq] at he
    refine ⟨{ d := dst, v := v }, by rw [← he, apply_putO], by simp, by simp, by simp, by simp, .inr rfl, fun i hi => hi.elim, fun s1 h1 _ _ _ => ⟨?_, rfl⟩⟩
    rw [hev2 s1 (hop s1 h1), evP_k, evP_congr _ h1, hv]
    simp only [obnd_some, apply_putO]

/-- how many a map has -/
theorem does_len {dst : Option Tmp} {args : Array Operand} {tys : Array TypeId} {ty : Nat} {pos : String} {aft : Array Edge} {gd : Option (Nat × Bool)}
    (he : evOp P tb Γ ⟨dst, .call ⟨.builtin .len, args, tys⟩, ty, pos, aft, gd⟩ s some = some s') : ∃ e, Does P tb Γ ⟨dst, .call ⟨.builtin .len, args, tys⟩, ty, pos, aft, gd⟩ s (footOf Γ (.call ⟨.builtin .len, args, tys⟩) s) s' e := by
  have hft : ∀ s1 : St tb.T, footOf Γ (.call ⟨.builtin .len, args, tys⟩) s1 = match vals s1.val args.toList with | some [.c (.map i)] => .l i | _ => .p := fun s1 => rfl
  have hev : ∀ s1 : St tb.T, evOp P tb Γ ⟨dst, .call ⟨.builtin .len, args, tys⟩, ty, pos, aft, gd⟩ s1 some = match vals s1.val args.toList, tys.toList with
    | some [.c (.map i)], [t] => (match mapOf P t, s1.itr i with
      | some _, some (.mp _ _ l) => brn (fits l.length) (some (s1.putO dst (.c (.d (.int .i64 l.length))))) none
      | _, _ => none)
    | _, _ => evP P tb (.call ⟨.builtin .len, args, tys⟩) s1.val fun v => some (s1.putO dst v) := fun s1 => rfl
  have hcg : ∀ s1 : St tb.T, (∀ x ∈ (Op.call ⟨.builtin .len, args, tys⟩).operands.toList, s1.val x = s.val x) → vals s1.val args.toList = vals s.val args.toList := fun s1 h => vals_congr fun x hx => h x (by
    simp only [Op.operands, Call.operands, Array.toList_append, List.mem_append]; exact .inr hx)
  rw [hev] at he
  split at he
  · rename_i i t hv ht
    split at he
    · rename_i kv k v l hm hi
      cases hf : fits l.length with
      | false => simp [hf] at he
      | true =>
        simp only [hf, brn_true, Option.some.injEq] at he
        rw [hft, hv]
        refine ⟨{ d := dst, v := .c (.d (.int .i64 l.length)) }, by rw [← he, apply_putO], by simp, by simp, by simp, by simp, .inr rfl, fun j hj => ?_, fun s1 k1 k2 _ _ => ⟨?_, by rw [hft, hcg s1 k1, hv]⟩⟩
        · have : j = i := hj
          subst this
          have hx : ∃ x ∈ args.toList, s.val x = some (.c (.map j)) := by
            cases ha : args.toList with
            | nil => rw [ha] at hv; simp [vals] at hv
            | cons x xs =>
              rw [ha] at hv
              refine ⟨x, by simp, ?_⟩
              cases hx : s.val x with
              | none => simp [vals, hx] at hv
              | some y =>
                cases hy : vals s.val xs with
                | none => simp [vals, hx, hy] at hv
                | some ys => simp only [vals, hx, hy, Option.some.injEq, List.cons.injEq] at hv; rw [hv.1]
          obtain ⟨x, hx1, hx2⟩ := hx
          obtain ⟨t', e, h'⟩ := ids_tmp hx2 (i := j) (by simp [SV.ids, AC.ids])
          exact ⟨t', _, by rw [← e]; simp only [Op.operands, Call.operands, Array.toList_append, List.mem_append]; exact .inr hx1, h', by simp [SV.ids, AC.ids]⟩
        · rw [hev, hcg s1 k1, hv, ht]
          simp only [hm, (k2 i rfl).2, hi, hf, brn_true, apply_putO]
    · cases he
  · rename_i hne
    have hf : ∀ s1 : St tb.T, vals s1.val args.toList = vals s.val args.toList → footOf Γ (.call ⟨.builtin .len, args, tys⟩) s1 = footOf Γ (.call ⟨.builtin .len, args, tys⟩) s := fun s1 h => by rw [hft, hft, h]
    rw [evP_k] at he
    obtain ⟨v, hv, he⟩ := obnd_eq_some.1 he
    simp only [Option.some.injEq] at he
    refine ⟨{ d := dst, v := v }, by rw [← he, apply_putO], by simp, by simp, by simp, by simp, .inr rfl, fun i hi => ?_, fun s1 h1 _ _ _ => ⟨?_, hf s1 (hcg s1 h1)⟩⟩
    · rw [hft] at hi
      split at hi
      · rename_i j h
        exfalso
        simp only [evP, h] at hv
        split at hv
        · simp [evLen] at hv
        · cases hv
      · exact hi.elim
    · rw [hev, hcg s1 h1]
      split
      · rename_i i t h1 h2; exact absurd h2 (hne i t h1)
      · rw [evP_k, evP_congr _ h1, hv]
        simp only [obnd_some, apply_putO]

theorem evOp_does1 {o : Oper} (he : evOp P tb Γ o s some = some s') (hx : footOf Γ o.op s ≠ .x) (ha : ∀ t, footOf Γ o.op s ≠ .ap t) : ∃ e, Does P tb Γ o s (footOf Γ o.op s) s' e := by
  obtain ⟨dst, op, ty, pos, aft, gd⟩ := o
  cases op
  case alloc e =>
    have he' := he
    simp only [evOp] at he
    cases dst with
    | none => simp at he
    | some d =>
      simp only at he
      cases hz : (zeroOf P e : Option (List (AC tb.T))) with
      | none => simp [hz] at he
      | some z => exact does_newVar (d := d) (z := selfy e d z) rfl (fun _ => rfl) (fun s1 _ => by simp only [evOp, hz]) he'
  case box t x =>
    have he' := he
    simp only [evOp] at he
    cases dst with
    | none => simp at he
    | some d =>
      simp only at he
      cases hv : s.val x with
      | none => simp [hv] at he
      | some v =>
        cases hc : v.cells with
        | none => simp [hv, hc] at he
        | some as => exact does_newVar (d := d) (z := as) rfl (fun _ => rfl) (fun s1 h1 => by
            have := h1 x (by simp [Op.operands])
            simp only [evOp, this, hv, hc]) he'
  case load t a => exact does_load rfl he hx
  case store t a x => exact does_store rfl he hx
  case buildSlice t n parts =>
    have he' := he
    simp only [evOp] at he
    cases dst with
    | none => simp at he
    | some d =>
      simp only at he
      cases hel : elemOf P t with
      | none => simp [hel] at he
      | some e =>
        simp only [hel] at he
        cases hk : (nodupB (parts.toList.map (·.1)) && parts.toList.all (fun p => Nat.blt p.1 n) && Nat.ble (n * P.cellsOf e) 16777216 && Nat.blt 0 (P.cellsOf e) && hasZero P e) with
        | false => simp only [hk, cond_false, reduceCtorEq] at he
        | true =>
          simp only [hk, cond_true] at he
          cases hb : buildEls P tb e s.val parts.toList n 0 with
          | none => simp [hb] at he
          | some xs => exact does_newSl (d := d) (e := e) (xs := xs) rfl (fun _ => rfl) (fun s1 h1 => by
              have : buildEls P tb e s1.val parts.toList n 0 = some xs := by
                rw [← hb]; exact buildEls_congr (fun x hx => h1 x (by simpa [Op.operands] using hx)) n 0
              simp only [evOp, hel, hk, cond_true, this]) he'
  case makeSlice t l c =>
    have he' := he
    simp only [evOp] at he
    cases dst with
    | none => simp at he
    | some d =>
      simp only at he
      cases hel : elemOf P t with
      | none => simp [hel] at he
      | some e =>
        simp only [hel] at he
        cases hz : (zeroOf P e : Option (List (AC tb.T))) with
        | none => simp [hz] at he
        | some z =>
          simp only [hz] at he
          cases hcs : cvs z with
          | none => simp [hcs] at he
          | some cs =>
            simp only [hcs] at he
            cases hk : (sized P e && Nat.beq cs.length (P.cellsOf e)) with
            | false => simp only [hk, cond_false, reduceCtorEq] at he
            | true =>
              simp only [hk, cond_true] at he
              cases hd : tb.dec e cs with
              | none => simp [hd] at he
              | some x =>
                simp only [hd] at he
                split at he
                · rename_i li ci k1 k2
                  cases hm : mkList (P.bytesOf e) x li ci with
                  | none => simp [hm] at he
                  | some xs => exact does_newSl (d := d) (e := e) (xs := xs) rfl (fun _ => rfl) (fun s1 h1 => by
                      have e1 := h1 l (by simp [Op.operands])
                      have e2 := h1 c (by simp [Op.operands])
                      simp only [evOp, hel, hz, hcs, hk, cond_true, hd, e1, e2, k1, k2, hm, obnd_some]) he'
                · cases he
  case convert src t x => exact does_bytes he
  case range xt x =>
    simp only [evOp] at he
    cases dst with
    | none => simp at he
    | some d =>
      simp only at he
      split at he
      · rename_i l k1 k2
        cases hu : s.used d with
        | true => simp [hu] at he
        | false =>
          simp only [hu, cond_false, Option.some.injEq] at he
          refine ⟨{ d := some d, v := .c (.ptr d 0), F := upd (fun _ => false) d true, it := upd (fun _ => none) d (some (.it l 0)) }, ?_, fun i hi => by rw [upd_true hi]; exact hu, by simp, fun i hi => by rw [upd_ne_none hi]; show upd (fun _ => false) d true d = true; exact upd_same _ _ _, by simp, .inr rfl, fun i hi => hi.elim, fun s1 h1 _ _ h4 => ⟨?_, rfl⟩⟩
          · rw [← he, Eff.apply, upd_or s.itr, upd_bor s.used]; simp
          · have e1 := h1 x (by simp [Op.operands])
            have e2 := h4 d (by show upd (fun _ => false) d true d = true; exact upd_same _ _ _)
            simp only [evOp, k1, e1, k2, e2, cond_false]
            rw [Eff.apply, upd_or s1.itr, upd_bor s1.used]; simp
      · cases he
  case next it str => exact absurd rfl hx
  case call c =>
    obtain ⟨callee, args, tys⟩ := c
    cases callee with
    | builtin b =>
      cases b
      case append =>
        exfalso
        have hft : footOf Γ (.call ⟨.builtin .append, args, tys⟩) s = match vals s.val args.toList with
          | some (.c (.d .nil) :: _) => .ap none
          | some (.c (.own _ _ t) :: _) => .ap (some t)
          | _ => .x := rfl
        rw [hft] at hx ha
        split at hx
        · rename_i h; rw [h] at ha; exact ha none rfl
        · rename_i h; rw [h] at ha; exact ha _ rfl
        · exact hx rfl
      case len => exact does_len he
      all_goals exact does_P (fun _ => rfl) (fun _ => rfl) (fun _ h => h) he
    | invoke r m => exact does_P (fun _ => rfl) (fun _ => rfl) (fun _ h => h) he
    | value f =>
      cases f
      case func f =>
        have hp : plainFn Γ f = true := by
          cases hp : plainFn Γ f with
          | true => rfl
          | false => exact absurd (show (bif plainFn Γ f then Foot.n else Foot.x) = .x by rw [hp]; rfl) hx
        simp only [evOp, St.val] at he
        cases hv : vals s.val args.toList with
        | none => simp [hv] at he
        | some vs =>
          have hv' := hv
          simp only [hv, List.map_nil, List.append_nil] at he
          obtain ⟨F, d, v, h1, h2, h3, h4⟩ := evCall_do hp he
          refine ⟨outEff F d v, h2, h3, by simp [outEff], by simp [outEff], fun _ h => h, h1, fun i hi => ?_, fun s1 k1 _ _ k4 => ⟨?_, rfl⟩⟩
          · have hi' : Foot.mem (bif plainFn Γ f then Foot.n else Foot.x) i := hi
            rw [hp] at hi'; exact hi'.elim
          · have : vals s1.val args.toList = some vs := by
              rw [← hv']; exact vals_congr fun x hx => k1 x (by simp only [Op.operands, Call.operands, Array.toList_append, List.mem_append]; exact .inr hx)
            simp only [evOp, this]
            simp only [St.val, List.map_nil, List.append_nil]
            exact h4 s1 k4
      all_goals exact absurd rfl hx
  all_goals first
    | exact absurd rfl hx
    | exact does_P (fun _ => rfl) (fun _ => rfl) (fun _ h => h) he

theorem does_append {dst : Option Tmp} {args : Array Operand} {tys : Array TypeId} {ty : Nat} {pos : String} {aft : Array Edge} {gd : Option (Nat × Bool)} (he : evOp P tb Γ ⟨dst, .call ⟨.builtin .append, args, tys⟩, ty, pos, aft, gd⟩ s some = some s')
    (_hx : footOf Γ (.call ⟨.builtin .append, args, tys⟩) s ≠ .x) (hu : ∀ t v, s.env t = some v → ∀ i ∈ v.ids, s.used i = true) :
    ∃ e dt, DoesT P tb Γ ⟨dst, .call ⟨.builtin .append, args, tys⟩, ty, pos, aft, gd⟩ s (footOf Γ (.call ⟨.builtin .append, args, tys⟩) s) s' e dt := by
  have hev : ∀ s1 : St tb.T, evOp P tb Γ ⟨dst, .call ⟨.builtin .append, args, tys⟩, ty, pos, aft, gd⟩ s1 some = match vals s1.val args.toList, tys.toList with
    | some [sv, xv], [st, xt] => evAppend P tb dst st xt sv xv s1 some
    | _, _ => none := fun _ => rfl
  have hft : ∀ s1 : St tb.T, footOf Γ (.call ⟨.builtin .append, args, tys⟩) s1 = match vals s1.val args.toList with
    | some (.c (.d .nil) :: _) => .ap none
    | some (.c (.own _ _ t) :: _) => .ap (some t)
    | _ => .x := fun _ => rfl
  have hvs : ∀ s1 : St tb.T, (∀ x ∈ (Op.call ⟨.builtin .append, args, tys⟩).operands.toList, s1.val x = s.val x) → vals s1.val args.toList = vals s.val args.toList := fun s1 h1 => vals_congr fun x hx => h1 x (by
    simp only [Op.operands, Call.operands, Array.toList_append, List.mem_append]; exact .inr hx)
  rw [hev] at he
  split at he
  · rename_i sv xv st xt hv ht
    unfold evAppend at he
    cases dst with
    | none => simp at he
    | some d =>
      simp only at he
      cases hel : elemOf P st with
      | none => simp [hel] at he
      | some e =>
        simp only [hel] at he
        split at he
        · cases he
        · rename_i ys hys
          cases hc : (!(sized P e && hasZero P e && Nat.blt 0 (P.bytesOf e))) with
          | true => simp [hc] at he
          | false =>
            simp only [hc, cond_false] at he
            split at he
            · -- nil
              have hf : footOf Γ (.call ⟨.builtin .append, args, tys⟩) s = .ap none := by rw [hft, hv]
              obtain ⟨zs, hz, he⟩ := obnd_eq_some.1 he
              obtain ⟨k1, k2⟩ := newOwn_eff he
              rw [hf]
              refine ⟨{ d := some d, v := .c (.own e zs d), F := upd (fun _ => false) d true, tk := upd (fun _ => false) d true }, none, ⟨k2, fun i hi => by rw [upd_true hi]; exact k1, by simp, by simp, fun _ h => h, fun i hi => (by cases hi), .inr rfl, fun i hi => ?_, fun s1 h1 _ _ _ h5 => ⟨?_, by rw [hft, hvs s1 h1, hv]⟩⟩⟩
              · rcases hi with hi | hi
                · exact hi.elim
                · cases hi
              · rw [hev, hvs s1 h1, hv, ht]
                simp only
                unfold evAppend
                simp only [hel, hys, hc, cond_false, hz, obnd_some]
                exact newOwn_again (h5 d (by show upd (fun _ => false) d true d = true; exact upd_same _ _ _))
            · -- owned
              rename_i e' xs t
              by_cases hb : e' = e
              · subst hb
                simp only [dite_true] at he
                cases htk : s.tok t with
                | false => simp [htk] at he
                | true =>
                  simp only [htk, cond_true] at he
                  obtain ⟨zs, hz, he⟩ := obnd_eq_some.1 he
                  obtain ⟨k1, k2⟩ := newOwn_eff he
                  have hf : footOf Γ (.call ⟨.builtin .append, args, tys⟩) s = .ap (some t) := by rw [hft, hv]
                  have hrd : ∃ q v, .tmp q ∈ (Op.call ⟨.builtin .append, args, tys⟩).operands.toList ∧ s.env q = some v ∧ t ∈ v.ids := by
                    cases hal : args.toList with
                    | nil => rw [hal] at hv; simp [vals] at hv
                    | cons x xs' =>
                      rw [hal] at hv
                      simp only [vals] at hv
                      cases hxv : s.val x with
                      | none => simp [hxv] at hv
                      | some v0 =>
                        simp only [hxv] at hv
                        cases hr : vals s.val xs' with
                        | none => simp [hr] at hv
                        | some vs0 =>
                          simp only [hr, Option.some.injEq, List.cons.injEq] at hv
                          obtain ⟨rfl, _⟩ := hv
                          obtain ⟨q, e1, e2⟩ := ids_tmp hxv (i := t) (by simp [SV.ids, AC.ids])
                          refine ⟨q, _, ?_, e2, by simp [SV.ids, AC.ids]⟩
                          simp only [Op.operands, Call.operands, Array.toList_append, List.mem_append]
                          right; rw [hal, ← e1]; simp
                  have htu : s.used t = true := by obtain ⟨q, v, _, q2, q3⟩ := hrd; exact hu q v q2 t q3
                  have hne : ∀ s1 : St tb.T, (s1.drop [t]).used = s1.used := fun _ => rfl
                  have hdt : d ≠ t := fun e => by subst e; rw [hne] at k1; rw [k1] at htu; cases htu
                  have heff : ∀ s1 : St tb.T, Eff.apply { d := some d, v := SV.c (.own e' zs d), F := upd (fun _ => false) d true, tk := upd (fun _ => false) d true } (s1.drop [t]) = applyT { d := some d, v := SV.c (.own e' zs d), F := upd (fun _ => false) d true, tk := upd (fun _ => false) d true } (some t) s1 := fun s1 => by
                    simp only [applyT, Eff.apply, St.drop, St.mk.injEq, true_and, and_true]
                    funext i
                    simp only [memB, Bool.or_false, upd_eq]
                    by_cases hi : i = t
                    · subst hi
                      have : Nat.beq i i = true := Nat.beq_refl i
                      simp only [this, cond_true, if_neg (Ne.symm hdt), Bool.false_or]
                    · have : Nat.beq i t = false := by
                        cases hq : Nat.beq i t with
                        | false => rfl
                        | true => exact absurd (Nat.eq_of_beq_eq_true hq) hi
                      simp only [this, cond_false]
                  rw [hf]
                  refine ⟨{ d := some d, v := .c (.own e' zs d), F := upd (fun _ => false) d true, tk := upd (fun _ => false) d true }, some t, ⟨by rw [k2, heff], fun i hi => by rw [upd_true hi]; exact k1, by simp, by simp, fun _ h => h, fun i hi => (by injection hi with hi; rw [hi]), .inr rfl, fun i hi => ?_, fun s1 h1 _ h3 _ h5 => ⟨?_, by rw [hft, hvs s1 h1, hv]⟩⟩⟩
                  · rcases hi with hi | hi
                    · exact hi.elim
                    · injection hi with hi; injection hi with hi; rw [← hi]; exact hrd
                  · rw [hev, hvs s1 h1, hv, ht]
                    simp only
                    unfold evAppend
                    simp only [hel, hys, hc, cond_false, dite_true, h3 t rfl, htk, cond_true, hz, obnd_some]
                    have := h5 d (by show upd (fun _ => false) d true d = true; exact upd_same _ _ _)
                    rw [newOwn_again (s := s1.drop [t]) (by rw [hne]; exact this), heff]
              · simp [hb] at he
            · cases he
  · cases he

theorem evOp_does {o : Oper} (he : evOp P tb Γ o s some = some s') (hx : footOf Γ o.op s ≠ .x) (hu : ∀ t v, s.env t = some v → ∀ i ∈ v.ids, s.used i = true) : ∃ e dt, DoesT P tb Γ o s (footOf Γ o.op s) s' e dt := by
  by_cases ha : ∀ t, footOf Γ o.op s ≠ .ap t
  · obtain ⟨e, h⟩ := evOp_does1 he hx ha
    exact ⟨e, none, h.toT ha⟩
  · have : ∃ t, footOf Γ o.op s = .ap t := by
      apply Classical.byContradiction; intro h; exact ha fun t e => h ⟨t, e⟩
    obtain ⟨t, ht⟩ := this
    obtain ⟨dst, op, ty, pos, aft, gd⟩ := o
    cases op
    case call c =>
      obtain ⟨callee, args, tys⟩ := c
      cases callee with
      | builtin b =>
        cases b
        case append => exact does_append he hx hu
        case len => simp only [footOf] at ht; split at ht <;> cases ht
        all_goals exact absurd ht (by simp [footOf])
      | invoke r m => exact absurd ht (by simp [footOf])
      | value f =>
        cases f
        case func f =>
          have : footOf Γ (.call ⟨.value (.func f), args, tys⟩) s = (bif plainFn Γ f then Foot.n else Foot.x) := rfl
          simp only at ht
          rw [this] at ht
          cases hp : plainFn Γ f <;> rw [hp] at ht <;> cases ht
        all_goals exact absurd ht (by simp [footOf])
    case load t' a =>
      have : footOf Γ (.load t' a) s = match s.val a with | some (.c (.ptr i _)) => .l i | some (.c (.cptr _)) => .p | _ => .x := rfl
      simp only at ht
      rw [this] at ht
      split at ht <;> cases ht
    case store t' a x =>
      have : footOf Γ (.store t' a x) s = match s.val a with | some (.c (.ptr i _)) => .st i | _ => .x := rfl
      simp only at ht
      rw [this] at ht
      split at ht <;> cases ht
    all_goals exact absurd ht (by simp [footOf])
end Go.Ev

/- Regions whose order is open. -/
namespace Go.Ev
open Go

variable {P : Program} {tb : Tab} {N : Nat} {W : Nat → Prop} {a0 : Act} {g0 : Gh} {w0 : World} {D0 : Nat → Prop}
variable {s s' s1 s2 : St tb.T} {Γ : List (Nat × FSpec tb)} {ops : Array Oper} {Q : Exit → Act → World → Prop}

structure GDoes (P : Program) (tb : Tab) (Γ : List (Nat × FSpec tb)) (ops : Array Oper) (o : Oper) (s : St tb.T) (f : Foot) (s' : St tb.T) (e : Eff tb.T) (dt : Option Nat) : Prop where
  eq : s' = applyT e dt s
  fresh : ∀ i, e.F i = true → s.used i = false
  mb : ∀ i, e.b i ≠ none → e.F i = true ∨ f = .st i
  mit : ∀ i, e.it i ≠ none → e.F i = true
  mtk : ∀ i, e.tk i = true → e.F i = true
  mdt : ∀ i, dt = some i → f = .ap (some i)
  dst : e.d = none ∨ e.d = o.dst
  reads : ∀ i, (f.mem i ∨ f = .ap (some i)) → ∃ t v, t ∈ o.looksAt ops ∧ s.env t = some v ∧ i ∈ v.ids
  again : ∀ s1, (∀ t ∈ o.looksAt ops, s1.env t = s.env t) → (∀ i, f.mem i → s1.blk i = s.blk i ∧ s1.itr i = s.itr i) → (∀ i, f = .ap (some i) → s1.tok i = s.tok i) → s1.ro = s.ro → (∀ i, e.F i = true → s1.used i = false) → GStep P tb Γ ops o s1 f (applyT e dt s1)

theorem looks_tmp {o : Oper} {t : Nat} (h : .tmp t ∈ o.op.operands.toList) : t ∈ o.looksAt ops := by
  unfold Oper.looksAt
  exact List.mem_append_left _ (List.mem_filterMap.2 ⟨.tmp t, h, rfl⟩)
theorem looks_guard {o : Oper} {j t : Nat} {want : Bool} {oj : Oper} (h : o.guard = some (j, want)) (hj : ops[j]? = some oj) (ht : oj.dst = some t) : t ∈ o.looksAt ops := by
  unfold Oper.looksAt
  refine List.mem_append_right _ ?_
  simp [h, hj, ht]

theorem gstep_does {o : Oper} {f : Foot} (h : GStep P tb Γ ops o s f s') (hx : f ≠ .x) (hu : ∀ t v, s.env t = some v → ∀ i ∈ v.ids, s.used i = true) : ∃ e dt, GDoes P tb Γ ops o s f s' e dt := by
  cases h with
  | run _ hg he =>
    obtain ⟨e, dt, h1, h2, h3, h4, h8, h9, h5, h6, h7⟩ := evOp_does he hx hu
    refine ⟨e, dt, h1, h2, h3, h4, h8, h9, h5, fun i hi => ?_, fun s1 k1 k2 k5 k3 k4 => ?_⟩
    · obtain ⟨t, v, q1, q2, q3⟩ := h6 i hi
      exact ⟨t, v, looks_tmp q1, q2, q3⟩
    · obtain ⟨q1, q2⟩ := h7 s1 (fun x hx => by
        cases x with
        | tmp t => exact k1 t (looks_tmp hx)
        | const _ => rfl
        | global _ => rfl
        | func _ => rfl) k2 k5 k3 k4
      rw [← q2]
      refine .run _ (fun j want hj => ?_) q1
      obtain ⟨oj, t, r1, r2, r3⟩ := hg j want hj
      exact ⟨oj, t, r1, r2, by rw [k1 t (looks_guard hj r1 r2)]; exact r3⟩
  | skip j want oj t hg h1 h2 h3 =>
    refine ⟨{ d := o.dst, v := .tup [] }, none, apply_putO .., by simp, by simp, by simp, by simp, by simp, .inr rfl, fun i hi => ?_, fun s1 k1 _ _ _ _ => ?_⟩
    · rcases hi with hi | hi
      · exact hi.elim
      · cases hi
    · rw [applyT_none, ← apply_putO]
      refine .skip j want oj t hg h1 h2 ?_
      rw [k1 t (looks_guard hg h1 h2)]; exact h3

theorem not_mem_st {f : Foot} {i : Nat} (h : f = .st i) : f.mem i := by subst h; rfl
theorem free_st {f g : Foot} {i : Nat} (h : Foot.free f g = true) : (f = .st i → ¬ g.mem i) ∧ (g = .st i → ¬ f.mem i) := by
  refine ⟨fun e hm => ?_, fun e hm => ?_⟩ <;> subst e
  · cases g <;> simp only [Foot.mem] at hm <;> subst hm <;> simp [Foot.free] at h
  · cases f <;> simp only [Foot.mem] at hm <;> subst hm <;> simp [Foot.free] at h

theorem gstep_commute {o1 o2 : Oper} {f1 f2 : Foot} (hu : ∀ t v, s.env t = some v → ∀ i ∈ v.ids, s.used i = true) (hu' : GStep P tb Γ ops o1 s f1 s1 → ∀ t v, s1.env t = some v → ∀ i ∈ v.ids, s1.used i = true) (h1 : GStep P tb Γ ops o1 s f1 s1) (h2 : GStep P tb Γ ops o2 s1 f2 s2) (hf : Foot.free f1 f2 = true) (ha : Oper.apart ops o1 o2 = true) :
    ∃ s3, GStep P tb Γ ops o2 s f2 s3 ∧ GStep P tb Γ ops o1 s3 f1 s2 := by
  have hx1 : f1 ≠ .x := fun e => by subst e; simp [Foot.free] at hf
  have hx2 : f2 ≠ .x := fun e => by subst e; cases f1 <;> simp [Foot.free] at hf
  obtain ⟨e1, dt1, d1⟩ := gstep_does h1 hx1 hu
  have hus1' : ∀ i, s1.used i = (e1.F i || s.used i) := fun i => by rw [d1.eq]; rfl
  have hap : ∀ t u, f1 = .ap (some t) → f2 = .ap (some u) → t ≠ u := fun t u e1 e2 e => by
    subst e1; subst e2; subst e
    have hb : Nat.beq t t = true := Nat.beq_refl t
    have hf : (!Nat.beq t t) = true := hf
    rw [hb] at hf; cases hf
  have hu1 : ∀ t v, s1.env t = some v → ∀ i ∈ v.ids, s1.used i = true := hu' h1
  obtain ⟨e2, dt2, d2⟩ := gstep_does h2 hx2 hu1
  obtain ⟨a1, a2, a3⟩ := Oper.apart_spec ha
  have henv : ∀ t, (∀ d, o1.dst = some d → t ≠ d) → s1.env t = s.env t := fun t ht => by
    rw [d1.eq]
    simp only [applyT, Eff.apply]
    cases hd : e1.d with
    | none => rfl
    | some d =>
      have : o1.dst = some d := by rcases d1.dst with c | c <;> rw [hd] at c; · cases c
                                   · exact c.symm
      simp only
      rw [upd_other _ _ (ht d this)]
  have hl2 : ∀ t ∈ o2.looksAt ops, s1.env t = s.env t := fun t ht => henv t fun d hd e => a1 d hd (e ▸ ht)
  have hus1 : ∀ i, s1.used i = (e1.F i || s.used i) := fun i => by rw [d1.eq]; rfl
  have hr2 : ∀ i, (f2.mem i ∨ f2 = .ap (some i)) → s.used i = true := fun i hi => by
    obtain ⟨t, v, q1, q2, q3⟩ := d2.reads i hi
    rw [hl2 t q1] at q2
    exact hu t v q2 i q3
  have hr1 : ∀ i, (f1.mem i ∨ f1 = .ap (some i)) → s.used i = true := fun i hi => by
    obtain ⟨t, v, q1, q2, q3⟩ := d1.reads i hi
    exact hu t v q2 i q3
  have hF2 : ∀ i, e2.F i = true → e1.F i = false ∧ s.used i = false := fun i hi => by
    have := d2.fresh i hi
    rw [hus1] at this
    simpa using this
  have hb1 : ∀ i, f2.mem i → e1.b i = none := fun i hi => by
    apply Classical.byContradiction
    intro hne
    rcases d1.mb i hne with c | c
    · have := d1.fresh i c; rw [hr2 i (.inl hi)] at this; cases this
    · exact (free_st hf).1 c hi
  have hb2 : ∀ i, f1.mem i → e2.b i = none := fun i hi => by
    apply Classical.byContradiction
    intro hne
    rcases d2.mb i hne with c | c
    · have := (hF2 i c).2; rw [hr1 i (.inl hi)] at this; cases this
    · exact (free_st hf).2 c hi
  have hi1 : ∀ i, f2.mem i → e1.it i = none := fun i hi => by
    apply Classical.byContradiction
    intro hne
    have := d1.fresh i (d1.mit i hne); rw [hr2 i (.inl hi)] at this; cases this
  have hi2 : ∀ i, f1.mem i → e2.it i = none := fun i hi => by
    apply Classical.byContradiction
    intro hne
    have := (hF2 i (d2.mit i hne)).2; rw [hr1 i (.inl hi)] at this; cases this
  have ht1 : ∀ i, f2 = .ap (some i) → (applyT e1 dt1 s).tok i = s.tok i := fun i hi => by
    have hui := hr2 i (.inr hi)
    have h1 : e1.tk i = false := by
      cases hk : e1.tk i with
      | false => rfl
      | true => have := d1.fresh i (d1.mtk i hk); rw [hui] at this; cases this
    have h2 : dt1 ≠ some i := fun e => hap i i (d1.mdt i e) hi rfl
    simp only [applyT, Eff.apply, h1, Bool.false_or]
    cases hd : dt1 with
    | none => rfl
    | some t =>
      have : Nat.beq i t = false := by
        cases hq : Nat.beq i t with
        | false => rfl
        | true => exact absurd (by rw [hd, Nat.eq_of_beq_eq_true hq]) h2
      simp only [this, cond_false]
  have ht2 : ∀ i, f1 = .ap (some i) → (applyT e2 dt2 s).tok i = s.tok i := fun i hi => by
    have hui := hr1 i (.inr hi)
    have h1 : e2.tk i = false := by
      cases hk : e2.tk i with
      | false => rfl
      | true => have := (hF2 i (d2.mtk i hk)).2; rw [hui] at this; cases this
    have h2 : dt2 ≠ some i := fun e => hap i i hi (d2.mdt i e) rfl
    simp only [applyT, Eff.apply, h1, Bool.false_or]
    cases hd : dt2 with
    | none => rfl
    | some t =>
      have : Nat.beq i t = false := by
        cases hq : Nat.beq i t with
        | false => rfl
        | true => exact absurd (by rw [hd, Nat.eq_of_beq_eq_true hq]) h2
      simp only [this, cond_false]
  have s2' := d2.again s (fun t ht => (hl2 t ht).symm) (fun i hi => by rw [d1.eq]; simp [applyT, Eff.apply, hb1 i hi, hi1 i hi]) (fun i hi => by rw [d1.eq]; exact (ht1 i hi).symm) (by rw [d1.eq]; rfl) (fun i hi => (hF2 i hi).2)
  refine ⟨_, s2', ?_⟩
  have s3' := d1.again (applyT e2 dt2 s) (fun t ht => ?_) (fun i hi => by simp [applyT, Eff.apply, hb2 i hi, hi2 i hi]) ht2 rfl (fun i hi => ?_)
  · have : applyT e1 dt1 (applyT e2 dt2 s) = s2 := by
      rw [d2.eq, d1.eq]
      simp only [applyT, Eff.apply, St.mk.injEq]
      refine ⟨?_, ?_, ?_, ?_, ?_, trivial⟩
      · cases hd1 : e1.d with
        | none => rfl
        | some x =>
          cases hd2 : e2.d with
          | none => rfl
          | some y =>
            have q1 : o1.dst = some x := by rcases d1.dst with c | c <;> rw [hd1] at c; · cases c
                                            · exact c.symm
            have q2 : o2.dst = some y := by rcases d2.dst with c | c <;> rw [hd2] at c; · cases c
                                            · exact c.symm
            have hne : x ≠ y := fun e => a2 x q1 (e ▸ q2)
            funext t
            simp only [upd_eq]
            split
            · rename_i e; subst e; rw [if_neg hne]
            · rfl
      · funext i
        cases hbi : e1.b i with
        | none => cases e2.b i <;> simp
        | some x =>
          have : e2.b i = none := by
            apply Classical.byContradiction
            intro hne
            rcases d2.mb i hne with c | c
            · obtain ⟨k1, k2⟩ := hF2 i c
              rcases d1.mb i (by rw [hbi]; simp) with e | e
              · rw [k1] at e; cases e
              · rw [hr1 i (.inl (not_mem_st e))] at k2; cases k2
            · have := hb1 i (not_mem_st c); rw [hbi] at this; cases this
          simp [this]
      · funext i
        cases hbi : e1.it i with
        | none => cases e2.it i <;> simp
        | some x =>
          have : e2.it i = none := by
            apply Classical.byContradiction
            intro hne
            have k := (hF2 i (d2.mit i hne)).1
            rw [d1.mit i (by rw [hbi]; simp)] at k; cases k
          simp [this]
      · funext i
        have a1 : dt1 = some i → e2.tk i = false := fun h => by
          cases hk : e2.tk i with
          | false => rfl
          | true => have := (hF2 i (d2.mtk i hk)).2; rw [hr1 i (.inr (d1.mdt i h))] at this; cases this
        have a2 : dt2 = some i → e1.tk i = false := fun h => by
          cases hk : e1.tk i with
          | false => rfl
          | true => have := d1.fresh i (d1.mtk i hk); rw [hr2 i (.inr (d2.mdt i h))] at this; cases this
        have nb : ∀ t, i ≠ t → Nat.beq i t = false := fun t h => by
          cases hq : Nat.beq i t with
          | false => rfl
          | true => exact absurd (Nat.eq_of_beq_eq_true hq) h
        have bb : Nat.beq i i = true := Nat.beq_refl i
        cases dt1 with
        | none =>
          cases dt2 with
          | none => simp only; cases e1.tk i <;> cases e2.tk i <;> simp
          | some u =>
            by_cases h : i = u
            · subst h; simp [a2 rfl]
            · simp only [nb u h, cond_false]; cases e1.tk i <;> cases e2.tk i <;> simp
        | some t =>
          by_cases h1 : i = t
          · subst h1
            cases dt2 with
            | none => simp [a1 rfl]
            | some u =>
              by_cases h : i = u
              · subst h; simp 
              · simp [nb u h, a1 rfl]
          · cases dt2 with
            | none => simp only [nb t h1, cond_false]; cases e1.tk i <;> cases e2.tk i <;> simp
            | some u =>
              by_cases h : i = u
              · subst h; simp [nb t h1, a2 rfl]
              · simp only [nb t h1, nb u h, cond_false]; cases e1.tk i <;> cases e2.tk i <;> simp
      · funext i; cases e1.F i <;> cases e2.F i <;> simp
    rw [← this]; exact s3'
  · simp only [applyT, Eff.apply]
    cases hd : e2.d with
    | none => rfl
    | some d =>
      have q : o2.dst = some d := by rcases d2.dst with c | c <;> rw [hd] at c; · cases c
                                     · exact c.symm
      simp only
      exact upd_other _ _ fun e => a3 d q (by rw [← e]; exact ht)
  · simp only [applyT, Eff.apply, Bool.or_eq_false_iff]
    refine ⟨?_, d1.fresh i hi⟩
    cases h : e2.F i with
    | false => rfl
    | true => have := (hF2 i h).1; rw [hi] at this; cases this

/-! ## a run, in any order -/
def Run (P : Program) (tb : Tab) (Γ : List (Nat × FSpec tb)) (ops : Array Oper) : List (Nat × Foot) → St tb.T → St tb.T → Prop
  | [], s, s' => s' = s
  | (i, f) :: l, s, s' => ∃ o s1, ops[i]? = some o ∧ GStep P tb Γ ops o s f s1 ∧ Run P tb Γ ops l s1 s'

theorem wpOp_ex {i : Nat} {K : Act → World → Prop} {a : Act} {w : World} (h : wpOp P ops (fun _ _ _ => False) i K a w) : ∃ a w, K a w := by
  unfold wpOp at h
  split at h
  · exact ⟨_, _, h⟩
  · split at h
    · rcases h with h | ⟨_, a0, w0, h⟩
      · rename_i o _ _
        unfold Oper.wp at h
        generalize (execOp a.eval o).run P w = r at h
        cases r with
        | ok n w' =>
          cases n <;> simp only [Oper.upon] at h
          case value => exact ⟨_, _, h⟩
          case skip => exact ⟨_, _, h⟩
          case defer => exact ⟨_, _, h⟩
          case enter f args =>
            obtain ⟨e, w'', fr, hR, _⟩ := h []
            cases e with
            | returned v => exact ⟨_, _, hR⟩
            | panicked c => exact hR.elim
            | outgrown => obtain ⟨_, _, hq⟩ := hR; exact hq.elim
          case row row args =>
            obtain ⟨v, w'', hR, _⟩ := h default []
            exact ⟨_, _, hR⟩
        | halt x w' => cases x <;> simp only [Oper.upon] at h
      · exact h.elim
    · exact ⟨_, _, h⟩
end Go.Ev

/- Regions whose order is open: every order ends as the text's. -/
namespace Go.Ev
open Go

variable {P : Program} {tb : Tab} {N : Nat} {W : Nat → Prop} {a0 : Act} {g0 : Gh} {w0 : World} {D0 : Nat → Prop}
variable {s s' s1 s2 : St tb.T} {Γ : List (Nat × FSpec tb)} {ops : Array Oper} {Q : Exit → Act → World → Prop}

/-- some frame stands for it -/
def Lives (P : Program) (tb : Tab) (N : Nat) (W : Nat → Prop) (a0 : Act) (g0 : Gh) (w0 : World) (D0 : Nat → Prop) (s : St tb.T) : Prop := ∃ a w, Sim P tb N W a0 g0 w0 D0 s a w

theorem Lives.step (hΓ : ∀ p ∈ Γ, FnKeeps P tb p.1 p.2) (hsl : ∀ p ∈ Γ, (reals p.2.ins).map (·.1) = List.range (reals p.2.ins).length) (h : Lives P tb N W a0 g0 w0 D0 s) {i : Nat} {o : Oper} (ho : ops[i]? = some o)
    (hd : ∀ d, o.dst = some d → d < N ∧ W d) {f : Foot} (he : GStep P tb Γ ops o s f s') : Lives P tb N W a0 g0 w0 D0 s' := by
  obtain ⟨a, w, g, μ, τ, h⟩ := h
  obtain ⟨a', w', h'⟩ := wpOp_ex (gstep_sound hΓ hsl h ho hd he)
  exact ⟨a', w', h'⟩

theorem run_move (hΓ : ∀ p ∈ Γ, FnKeeps P tb p.1 p.2) (hsl : ∀ p ∈ Γ, (reals p.2.ins).map (·.1) = List.range (reals p.2.ins).length) (hd : ∀ o ∈ ops.toList, ∀ d, o.dst = some d → d < N ∧ W d) {i : Nat} {f : Foot} {post : List (Nat × Foot)} {oi : Oper} (hoi : ops[i]? = some oi) :
    ∀ {pre : List (Nat × Foot)} {s s' : St tb.T}, Lives P tb N W a0 g0 w0 D0 s → Run P tb Γ ops (pre ++ (i, f) :: post) s s' → (∀ p ∈ pre, ∀ op, ops[p.1]? = some op → Foot.free p.2 f = true ∧ Oper.apart ops op oi = true) →
      Run P tb Γ ops ((i, f) :: pre ++ post) s s'
  | [], _, _, _, h, _ => h
  | (j, g) :: pre, s, s', hl, h, hf => by
    obtain ⟨o, s1, h1, h2, h3⟩ := h
    have hdo : ∀ d, o.dst = some d → d < N ∧ W d := hd o (by have := Array.mem_of_getElem? h1; simpa using this)
    obtain ⟨o2, s2, k1, k2, k3⟩ := run_move hΓ hsl hd hoi (hl.step hΓ hsl h1 hdo h2) h3 fun p hp => hf p (by simp [hp])
    rw [hoi] at k1; simp only [Option.some.injEq] at k1; subst k1
    obtain ⟨q1, q2⟩ := hf (j, g) (by simp) o h1
    obtain ⟨a, w, gh, μ, τ, hs⟩ := hl
    obtain ⟨s3, r1, r2⟩ := gstep_commute hs.uenv (fun hst => by
      obtain ⟨a', w', h'⟩ := wpOp_ex (gstep_sound hΓ hsl hs h1 hdo hst)
      obtain ⟨gh', μ', τ', hs'⟩ := h'
      exact hs'.uenv) h2 k2 q1 q2
    exact ⟨oi, s3, hoi, r1, o, s2, h1, r2, k3⟩

/-! ## what must stand before -/
def Closed (ops : Array Oper) (L : Nat → Prop) : Prop := ∀ i o, ops[i]? = some o → L i → ∀ e ∈ o.after, Region.binds .any e = true → L e.on
def Good (ops : Array Oper) (k m : Nat) : Prop := ∀ j, Nat.testBit m j = true → ∀ L : Nat → Prop, Closed ops L → (∀ o, ops[k]? = some o → ∀ e ∈ o.after, Region.binds .any e = true → L e.on) → L j

theorem maskOf_bit {acc : List Nat} {j : Nat} : ∀ {es : List Edge} {m : Nat}, Nat.testBit (maskOf acc es m) j = true → Nat.testBit m j = true ∨ ∃ e ∈ es, Region.binds .any e = true ∧ (j = e.on ∨ Nat.testBit (acc.getD e.on 0) j = true)
  | [], m, h => .inl h
  | e :: es, m, h => by
    simp only [maskOf] at h
    cases hb : Region.binds .any e with
    | false =>
      simp only [hb, cond_false] at h
      rcases maskOf_bit h with c | ⟨e', h1, h2⟩
      · exact .inl c
      · exact .inr ⟨e', by simp [h1], h2⟩
    | true =>
      simp only [hb, cond_true] at h
      rcases maskOf_bit h with c | ⟨e', h1, h2⟩
      · simp only [Nat.testBit_or, Bool.or_eq_true] at c
        rcases c with (c | c) | c
        · exact .inl c
        · refine .inr ⟨e, by simp, hb, .inl ?_⟩
          rw [Nat.testBit_two_pow] at c
          exact (of_decide_eq_true c).symm
        · exact .inr ⟨e, by simp, hb, .inr c⟩
      · exact .inr ⟨e', by simp [h1], h2⟩

theorem good_of {acc : List Nat} {k : Nat} {o : Oper} (ho : ops[k]? = some o) (h : ∀ (i : Nat) m, acc[i]? = some m → Good ops i m) : Good ops k (maskOf acc o.after.toList 0) := by
  intro j hj L hc hL
  rcases maskOf_bit hj with c | ⟨e, h1, h2, h3⟩
  · simp at c
  · have he := hL o ho e (by simpa using h1) h2
    rcases h3 with rfl | h3
    · exact he
    · cases hm : acc[e.on]? with
      | none => simp [hm] at h3
      | some m =>
        simp only [List.getD_eq_getElem?_getD, hm, Option.getD_some] at h3
        exact h e.on m hm j h3 L hc fun o' ho' e' he' hb' => hc e.on o' ho' he e' he' hb'

theorem masks_good : ∀ (os : List Oper) (acc : List Nat), (∀ j, os[j]? = ops[acc.length + j]?) → (∀ (i : Nat) m, acc[i]? = some m → Good ops i m) → ∀ (i : Nat) m, (masks os acc)[i]? = some m → Good ops i m
  | [], acc, _, h, i, m, hm => h i m hm
  | o :: os, acc, ho, h, i, m, hm => by
    have e : masks (o :: os) acc = masks os (acc ++ [maskOf acc o.after.toList 0]) := by
      simp only [masks]
      split <;> rename_i h0 <;> rw [h0]
    rw [e] at hm
    have h0 : ops[acc.length]? = some o := by simpa using (ho 0).symm
    refine masks_good os (acc ++ [maskOf acc o.after.toList 0]) (fun j => ?_) (fun i m hm => ?_) i m hm
    · have := ho (j + 1)
      simp only [List.getElem?_cons_succ] at this
      rw [this]; congr 1; simp; omega
    · rcases Nat.lt_or_ge i acc.length with c | c
      · rw [List.getElem?_append_left c] at hm; exact h i m hm
      · rw [List.getElem?_append_right c] at hm
        have hi : i - acc.length = 0 := by
          have := (List.getElem?_eq_some_iff.1 hm).1
          simp at this; omega
        have hi' : i = acc.length := by omega
        subst hi'
        simp at hm; subst hm
        exact good_of h0 h

/-! ## the run that the evaluator has gone through -/
def Ok (ops : Array Oper) (x y : Nat × Foot) : Prop := ∀ ox oy, ops[x.1]? = some ox → ops[y.1]? = some oy → (∃ m, Good ops y.1 m ∧ Nat.testBit m x.1 = true) ∨ (Foot.free x.2 y.2 = true ∧ Oper.apart ops ox oy = true)

theorem seenOk_get {m : Nat} {o : Oper} {f : Foot} : ∀ {ps : List (Oper × Foot)} {j0 : Nat}, seenOk ops m o f ps j0 = true → ∀ (j : Nat) p, ps[j]? = some p → Nat.testBit m (j0 + j) = true ∨ (Foot.free p.2 f = true ∧ Oper.apart ops p.1 o = true)
  | [], _, _, j, p, hp => by simp at hp
  | (q, g) :: ps, j0, h, j, p, hp => by
    simp only [seenOk, Bool.and_eq_true, Bool.or_eq_true] at h
    cases j with
    | zero => simp at hp; subst hp; exact h.1
    | succ j =>
      simp only [List.getElem?_cons_succ] at hp
      have := seenOk_get h.2 j p hp
      rw [show j0 + (j + 1) = j0 + 1 + j from by omega]; exact this

theorem evOpsD_run : ∀ (os : List Oper) (ms : List Nat) (seen : List (Oper × Foot)) (s s' : St tb.T), (∀ j, os[j]? = ops[seen.length + j]?) → (∀ j m, ms[j]? = some m → Good ops (seen.length + j) m) → (∀ (j : Nat) p, seen[j]? = some p → ops[j]? = some p.1) →
    evOpsD P tb Γ ops os ms seen s some = some s' →
    ∃ R : List (Nat × Foot), R.map (·.1) = List.range' seen.length os.length ∧ Run P tb Γ ops R s s' ∧ R.Pairwise (Ok ops) ∧ (∀ (j : Nat) p, seen[j]? = some p → ∀ y ∈ R, Ok ops (j, p.2) y)
  | [], _, _, s, s', _, _, _, h => by
    simp only [evOpsD, Option.some.injEq] at h
    exact ⟨[], rfl, h.symm, .nil, by simp⟩
  | _ :: _, [], _, _, _, _, _, _, h => by simp [evOpsD] at h
  | o :: os, m :: ms, seen, s, s', ho, hm, hs, h => by
    have h0 : ops[seen.length]? = some o := by simpa using (ho 0).symm
    have hm0 : Good ops seen.length m := by simpa using hm 0 m rfl
    simp only [evOpsD] at h
    rw [evG_k] at h
    obtain ⟨⟨f, s1⟩, h1, h2⟩ := obnd_eq_some.1 h
    simp only at h2
    cases hk : seenOk ops m o f seen 0 with
    | false => simp [hk] at h2
    | true =>
      simp only [hk, cond_true] at h2
      obtain ⟨R, r1, r2, r3, r4⟩ := evOpsD_run os ms (seen ++ [(o, f)]) s1 s' (fun j => by
        have := ho (j + 1)
        simp only [List.getElem?_cons_succ] at this
        rw [this]; congr 1; simp; omega) (fun j m hj => by
          have := hm (j + 1) m (by simpa using hj)
          rw [show (seen ++ [(o, f)]).length + j = seen.length + (j + 1) from by simp; omega]; exact this) (fun j p hj => by
          rcases Nat.lt_or_ge j seen.length with c | c
          · rw [List.getElem?_append_left c] at hj; exact hs j p hj
          · rw [List.getElem?_append_right c] at hj
            have hi : j - seen.length = 0 := by
              have := (List.getElem?_eq_some_iff.1 hj).1
              simp at this; omega
            have hi' : j = seen.length := by omega
            subst hi'
            simp at hj; subst hj; exact h0) h2
      refine ⟨(seen.length, f) :: R, by simp [r1, List.range'_succ], ⟨o, s1, h0, gstep_of h1, r2⟩, List.pairwise_cons.2 ⟨fun y hy => ?_, r3⟩, fun j p hj y hy => ?_⟩
      · exact r4 seen.length (o, f) (by simp) y hy
      · have hjl := (List.getElem?_eq_some_iff.1 hj).1
        rcases List.mem_cons.1 hy with rfl | hy
        · intro ox oy h3 h4
          simp only at h3 h4
          rw [h0] at h4; simp only [Option.some.injEq] at h4; subst h4
          rw [hs j p hj] at h3; simp only [Option.some.injEq] at h3; subst h3
          rcases seenOk_get hk j p hj with c | c
          · exact .inl ⟨m, hm0, by simpa using c⟩
          · exact .inr c
        · exact r4 j p (by rw [List.getElem?_append_left hjl]; exact hj) y hy

theorem backs_get : ∀ {os : List Oper} {i : Nat}, backs os i = true → ∀ (j : Nat) o, os[j]? = some o → ∀ e ∈ o.after, Region.binds .any e = true → e.on < i + j
  | [], _, _, j, o, ho, _, _, _ => by simp at ho
  | q :: os, i, h, j, o, ho, e, he, hb => by
    simp only [backs, Bool.and_eq_true, List.all_eq_true] at h
    cases j with
    | zero =>
      simp at ho; subst ho
      have := h.1 e (by simpa using he)
      simp only [hb, Bool.not_true, Bool.false_or] at this
      exact Nat.le_of_ble_eq_true this
    | succ j =>
      simp only [List.getElem?_cons_succ] at ho
      have := backs_get h.2 j o ho e he hb
      omega

theorem wpAny_run (hΓ : ∀ p ∈ Γ, FnKeeps P tb p.1 p.2) (hsl : ∀ p ∈ Γ, (reals p.2.ins).map (·.1) = List.range (reals p.2.ins).length) (hd : ∀ o ∈ ops.toList, ∀ d, o.dst = some d → d < N ∧ W d) (hbk : backs ops.toList 0 = true) (hQ : ∀ a w, Sim P tb N W a0 g0 w0 D0 s' a w → Q .normal a w) :
    ∀ (fuel : Nat) (listed : Array Bool) (R : List (Nat × Foot)) (s : St tb.T) (a : Act) (w : World), R.length = fuel → listed.size = ops.size → (∀ j, j < ops.size → (listed.getD j true = false ↔ j ∈ R.map (·.1))) → (∀ j ∈ R.map (·.1), j < ops.size) →
      Closed ops (fun j => listed.getD j false = true) → (R.map (·.1)).Pairwise (· < ·) → R.Pairwise (Ok ops) → Run P tb Γ ops R s s' → Sim P tb N W a0 g0 w0 D0 s a w → wpAny P .any ops Q fuel listed a w := by
  intro fuel
  induction fuel with
  | zero =>
    intro listed R s a w hlen hsz hin hlt hcl hlt2 hok hrun hsim
    have : R = [] := List.eq_nil_of_length_eq_zero hlen
    subst this
    have hs : s' = s := hrun
    subst hs
    refine ⟨?_, hQ a w hsim⟩
    cases hr : Region.ready .any ops listed with
    | nil => rfl
    | cons j l =>
      have hj : j ∈ Region.ready .any ops listed := by rw [hr]; simp
      obtain ⟨h1, o, h2, _⟩ := mem_ready.1 hj
      have := (hin j (Array.getElem?_eq_some_iff.1 h2).1).1 h1
      simp at this
  | succ fuel ih =>
    intro listed R s a w hlen hsz hin hlt hcl hlt2 hok hrun hsim
    refine ⟨fun hnil => ?_, fun i hi => ?_⟩
    · exfalso
      cases R with
      | nil => simp at hlen
      | cons x R =>
        obtain ⟨k, f⟩ := x
        obtain ⟨o, s1, ho, hst, _⟩ := hrun
        have hk : k < ops.size := (Array.getElem?_eq_some_iff.1 ho).1
        have : k ∈ Region.ready .any ops listed := by
          rw [mem_ready]
          refine ⟨(hin k hk).2 (by simp), o, ho, fun e he hb => ?_⟩
          have he1 : e.on < k := by
            have := backs_get hbk k o (by simpa using ho) e he hb
            omega
          have he2 : e.on < listed.size := by omega
          cases hl : listed.getD e.on false with
          | true => rfl
          | false =>
            exfalso
            have h1 : listed.getD e.on true = false := by
              rw [Array.getD_eq_getD_getElem?, Array.getElem?_eq_getElem he2] at hl ⊢
              exact hl
            have h2 := (hin e.on (by omega)).1 h1
            simp only [List.map_cons, List.mem_cons] at h2
            rcases h2 with h2 | h2
            · omega
            · have := (List.pairwise_cons.1 hlt2).1 e.on h2
              simp only at this
              omega
        rw [hnil] at this; cases this
    · obtain ⟨h1, oi, h2, h3⟩ := mem_ready.1 hi
      have hi' : i < ops.size := (Array.getElem?_eq_some_iff.1 h2).1
      have hmem := (hin i hi').1 h1
      obtain ⟨⟨i', f⟩, hm, e⟩ := List.mem_map.1 hmem
      simp only at e; subst e
      obtain ⟨pre, post, rfl⟩ := List.append_of_mem hm
      have hfree : ∀ p ∈ pre, ∀ op, ops[p.1]? = some op → Foot.free p.2 f = true ∧ Oper.apart ops op oi = true := fun p hp op hop => by
        have hpw := (List.pairwise_append.1 hok).2.2 p hp (i', f) (by simp) op oi hop h2
        rcases hpw with ⟨m, hg, hb⟩ | c
        · exfalso
          have hl := hg p.1 hb (fun j => listed.getD j false = true) hcl (fun o ho e he hbb => by
            rw [h2] at ho; simp only [Option.some.injEq] at ho; subst ho
            exact h3 e he hbb)
          have hp' : p.1 < ops.size := (Array.getElem?_eq_some_iff.1 hop).1
          have hu := (hin p.1 hp').2 (by simp only [List.map_append, List.mem_append]; exact .inl (List.mem_map_of_mem hp))
          rw [Array.getD_eq_getD_getElem?, Array.getElem?_eq_getElem (by omega)] at hl hu
          simp only [Option.getD_some] at hl hu
          rw [hl] at hu; cases hu
        · exact c
      have hrun2 := run_move hΓ hsl hd h2 ⟨a, w, hsim⟩ hrun hfree
      obtain ⟨o, s1, ho, hst, hrest⟩ := hrun2
      rw [h2] at ho; simp only [Option.some.injEq] at ho; subst ho
      have hsub : List.Sublist (pre ++ post) (pre ++ (i', f) :: post) := List.Sublist.append (List.Sublist.refl _) (List.sublist_cons_self _ _)
      have hnd : ∀ j ∈ (pre ++ post).map (·.1), j ≠ i' := fun j hj e => by
        subst e
        rw [List.map_append, List.map_cons] at hlt2
        have hp := List.pairwise_append.1 hlt2
        rw [List.map_append, List.mem_append] at hj
        rcases hj with hj | hj
        · have := hp.2.2 j hj j (by simp); omega
        · have := (List.pairwise_cons.1 hp.2.1).1 j hj; omega
      obtain ⟨g, μ, τ, hsim⟩ := hsim
      refine wpOp_mono (fun a1 w1 hs1 => ?_) (gstep_sound hΓ hsl hsim h2 (hd oi (by have := Array.mem_of_getElem? h2; simpa using this)) hst)
      refine ih (listed.setIfInBounds i' true) (pre ++ post) s1 a1 w1 (by simp at hlen ⊢; omega) (by simp [hsz]) (fun j hj => ?_) (fun j hj => hlt j (by
        have := hsub.map Prod.fst
        exact this.subset hj)) (fun k ok hok' hk e he hb => ?_) (hlt2.sublist (hsub.map _)) (hok.sublist hsub) hrest hs1
      · by_cases hji : j = i'
        · subst hji
          have : (listed.setIfInBounds j true).getD j true = true := by
            rw [Array.getD_eq_getD_getElem?]
            rw [Array.getElem?_setIfInBounds_self]
            split <;> rfl
          rw [this]
          constructor
          · intro h; cases h
          · intro h; exact absurd rfl (hnd j h)
        · rw [getD_set_ne true (fun e => hji e.symm), hin j hj]
          simp only [List.map_append, List.map_cons, List.mem_append, List.mem_cons]
          constructor
          · rintro (h | h | h)
            · exact .inl h
            · exact absurd h hji
            · exact .inr h
          · rintro (h | h)
            · exact .inl h
            · exact .inr (.inr h)
      · by_cases hki : k = i'
        · subst hki
          rw [h2] at hok'; simp only [Option.some.injEq] at hok'; subst hok'
          exact getD_set_true (h3 e he hb)
        · simp only at hk ⊢
          rw [getD_set_ne false (fun e => hki e.symm)] at hk
          exact getD_set_true (hcl k ok hok' hk e he hb)

/-- **a region whose order is open** -/
theorem wp_region_evD (hm : P.follows .mixedOrders = true) (hΓ : ∀ p ∈ Γ, FnKeeps P tb p.1 p.2) (hsl : ∀ p ∈ Γ, (reals p.2.ins).map (·.1) = List.range (reals p.2.ins).length) (hd : ∀ o ∈ ops.toList, ∀ d, o.dst = some d → d < N ∧ W d) (hbk : backs ops.toList 0 = true)
    {a : Act} {w : World} (h : Sim P tb N W a0 g0 w0 D0 s a w) (he : evOpsD P tb Γ ops ops.toList (masks ops.toList []) [] s some = some s') (hQ : ∀ a w, Sim P tb N W a0 g0 w0 D0 s' a w → Q .normal a w) {id : Nat} : (Code.region id ops true).wp P Q a w := by
  refine wp_region_any hm ?_
  obtain ⟨R, r1, r2, r3, _⟩ := evOpsD_run ops.toList (masks ops.toList []) [] s s' (fun j => by simp) (fun j m hj => by
    simpa using masks_good (ops := ops) ops.toList [] (fun j => by simp) (fun i m h => by simp at h) j m hj) (fun j p h => by simp at h) he
  obtain ⟨g, μ, τ, h⟩ := h
  simp only [List.length_nil, Array.length_toList] at r1
  refine wpAny_run hΓ hsl hd hbk hQ ops.size (Array.replicate ops.size false) R s a _ ?_ (by simp) (fun j hj => ?_) (fun j hj => ?_) (fun i o ho hi => ?_) ?_ r3 r2 ⟨g, μ, τ, h.world rfl rfl rfl rfl⟩
  · have := congrArg List.length r1; simpa using this
  · rw [r1]
    simp [hj, List.mem_range'_1]
  · rw [r1] at hj; simpa [List.mem_range'_1] using hj
  · exfalso
    have hil : i < ops.size := (Array.getElem?_eq_some_iff.1 ho).1
    simp [hil] at hi
  · rw [r1]; exact List.pairwise_lt_range' 
end Go.Ev

/- The end of a piece of code: from the evaluator's state to what is left. -/
namespace Go.Ev
open Go

variable {P : Program} {tb : Tab} {N : Nat} {W : Nat → Prop} {D0 : Nat → Prop}
variable {s s' : St tb.T} {g g' : Gh} {μ μ' : Nat → Nat} {τ τ' : Nat → Option Nat} {a a' : Act} {w w' : World}

@[simp] theorem ret_outs {outs : LSpec} : ∀ {rs : LSpec} (x : XS tb outs) (z : XS tb rs), (Ret.mk x z).outs = x
  | [], _, _ => rfl
  | _ :: _, _, _ => rfl
theorem ret_refs {outs : LSpec} : ∀ {rs : LSpec} (x : XS tb outs) (z : XS tb rs), (Ret.mk x z).refs = z
  | [], _, () => rfl
  | _ :: _, _, _ => rfl

/-- the references among what was handed over -/
theorem holds_cons {q : Nat × Pat} {l : LSpec} {x : XS tb (q :: l)} {v : Value} {vs : List Value} {b : Option Nat} {bs : List (Option Nat)} (h : HoldsL P tb g w (q :: l) x (v :: vs) (b :: bs)) :
    (∃ y, HoldsP P tb g w q.2 y v b) ∧ ∃ ys, HoldsL P tb g w l ys vs bs := by
  cases l with
  | nil =>
    cases vs with
    | nil => cases bs with
      | nil => exact ⟨⟨x, h⟩, (() : Unit), trivial⟩
      | cons _ _ => exact h.elim
    | cons _ _ => cases bs <;> exact h.elim
  | cons c l => obtain ⟨x, xs⟩ := x; exact ⟨⟨x, h.1⟩, xs, h.2⟩

theorem holds_nil {x : XS tb []} {vs : List Value} {bs : List (Option Nat)} (h : HoldsL P tb g w [] x vs bs) : vs = [] ∧ bs = [] := by
  cases vs <;> cases bs <;> first | exact ⟨rfl, rfl⟩ | exact h.elim
theorem holds_cons_inv {q : Nat × Pat} {l : LSpec} {x : XS tb (q :: l)} {vs : List Value} {bs : List (Option Nat)} (h : HoldsL P tb g w (q :: l) x vs bs) : ∃ v vs' b bs', vs = v :: vs' ∧ bs = b :: bs' := by
  cases l with
  | nil => cases vs with
    | nil => exact h.elim
    | cons v vs => cases bs with
      | nil => cases vs <;> exact h.elim
      | cons b bs => exact ⟨_, _, _, _, rfl, rfl⟩
  | cons c l => cases vs with
    | nil => exact h.elim
    | cons v vs => cases bs with
      | nil => exact h.elim
      | cons b bs => exact ⟨_, _, _, _, rfl, rfl⟩

theorem holdsP_ref {p : Pat} {y : X tb p} {v : Value} {b : Option Nat} (hr : p.isRef = true) (h : HoldsP P tb g w p y v b) : ∃ k, b = some k ∧ kOfV (some v) = some k := by
  cases p with
  | val e => cases hr
  | own e => cases hr
  | ro e => cases hr
  | ref e => obtain ⟨k, h1, rfl, _⟩ := h; exact ⟨k, h1, rfl⟩
  | iter => obtain ⟨k, h1, rfl, _⟩ := h; exact ⟨k, h1, rfl⟩
  | fnp f n => cases hr
  | mp kt vt => obtain ⟨k, h1, rfl, _⟩ := h; exact ⟨k, h1, rfl⟩
  | wr e => cases hr
  | box n => obtain ⟨k, h1, rfl, _⟩ := h; exact ⟨k, h1, rfl⟩

/-- the references' slots hold pointers, their blocks are what these point to -/
theorem refs_same : ∀ {l : LSpec} {x : XS tb l} {vs : List Value} {bs : List (Option Nat)} {z : XS tb (refsOf l)} {val : Nat → Value} {cs : List (Option Nat)},
    HoldsL P tb g w l x vs bs → InSlots a w l vs → HoldsL P tb g' w' (refsOf l) z ((refsOf l).map fun q => val q.1) cs → (∀ q ∈ refsOf l, vval w (fun i => a.tmps[i]?) q.1 = some (val q.1)) →
    (refsOf l).map (fun q => val q.1) = atRefs l vs ∧ cs = atRefs l bs
  | [], x, vs, bs, z, val, cs, h, _, hz, _ => by
    obtain ⟨rfl, rfl⟩ := holds_nil h
    obtain ⟨_, rfl⟩ := holds_nil (x := z) hz
    exact ⟨rfl, rfl⟩
  | (t, p) :: l, x, vs, bs, z, val, cs, h, hi, hz, hv => by
    obtain ⟨v, vs, b, bs, rfl, rfl⟩ := holds_cons_inv h
    obtain ⟨⟨y, hy⟩, ys, hys⟩ := holds_cons h
    obtain ⟨i1, i2⟩ := hi
    cases hr : p.isRef with
    | false =>
      have e : refsOf ((t, p) :: l) = refsOf l := by simp [refsOf, hr]
      have e1 : ∀ {α : Type} (u : α) (us : List α), atRefs ((t, p) :: l) (u :: us) = atRefs l us := fun u us => by simp [atRefs, hr]
      rw [e1, e1]
      revert z hz hv
      rw [e]
      intro z hz hv
      exact refs_same hys i2 hz hv
    | true =>
      have e : refsOf ((t, p) :: l) = (t, p) :: refsOf l := by simp [refsOf, hr]
      have e1 : ∀ {α : Type} (u : α) (us : List α), atRefs ((t, p) :: l) (u :: us) = u :: atRefs l us := fun u us => by simp [atRefs, hr]
      rw [e1, e1]
      revert z hz hv
      rw [e]
      intro z hz hv
      rw [List.map_cons] at hz ⊢
      obtain ⟨_, _, c, cs', hz1, rfl⟩ := holds_cons_inv hz
      obtain ⟨⟨y2, hy2⟩, zs, hzs⟩ := holds_cons hz
      obtain ⟨r1, r2⟩ := refs_same hys i2 hzs fun q hq => hv q (by simp [hq])
      obtain ⟨k, hk1, hk2⟩ := holdsP_ref hr hy
      obtain ⟨k', hk3, hk4⟩ := holdsP_ref hr hy2
      have hvt := hv (t, p) (by simp)
      simp only at hvt hk4
      rw [hvt] at i1
      simp only [Option.some.injEq] at i1
      rw [r1, r2, i1]
      refine ⟨rfl, ?_⟩
      rw [i1, hk2] at hk4
      rw [hk1, hk3]
      rw [hk4]

theorem holds_entry {base : Nat → Option Value} : ∀ {l : LSpec} {x : XS tb l} {vs : List Value} {bs : List (Option Nat)}, At w base l vs → HoldsL P tb g w l x vs bs → ∀ q ∈ l, ∃ v b y, vval w base q.1 = some v ∧ HoldsP P tb g w q.2 y v b
  | [], x, vs, bs, _, _, q, hq => by simp at hq
  | p :: l, x, vs, bs, ha, h, q, hq => by
    obtain ⟨v, vs, b, bs, rfl, rfl⟩ := holds_cons_inv h
    obtain ⟨⟨y, hy⟩, ys, hys⟩ := holds_cons h
    rcases List.mem_cons.1 hq with rfl | hq
    · exact ⟨v, b, y, ha.1, hy⟩
    · exact holds_entry ha.2 hys q hq

theorem refsOf_sub : ∀ {l : LSpec}, ∀ q ∈ refsOf l, q ∈ l
  | [], q, h => by simp [refsOf] at h
  | p :: l, q, h => by
    simp only [refsOf] at h
    cases hr : p.2.isRef with
    | true =>
      simp only [hr, cond_true] at h
      rcases List.mem_cons.1 h with rfl | h
      · simp
      · exact List.mem_cons_of_mem _ (refsOf_sub q h)
    | false => simp only [hr, cond_false] at h; exact List.mem_cons_of_mem _ (refsOf_sub q h)

/-- outs that are plain, owned, written to: their blocks are new, or were handed over -/
theorem outs_blocks (h : SimAt P tb N W a g w D0 s g' μ τ a' w') {get : Nat → Option (SV tb.T)} : ∀ {l : LSpec} {cs : List (Option Nat)}, LSpec.plainOwn l = true → BlkL s μ τ get l cs → ∀ k ∈ blocksOf cs, w.heap.size ≤ k ∨ D0 k
  | [], [], _, _, k, hk => by simp [blocksOf] at hk
  | (t, p) :: l, c :: cs, hp, ⟨⟨v, _, hb⟩, h2⟩, k, hk => by
    simp only [LSpec.plainOwn, List.all_cons, Bool.and_eq_true] at hp
    rcases mem_blocks_cons.1 hk with e | hk
    · subst e
      cases p with
      | val e => simp only [BlkOf] at hb; cases hb
      | own e =>
        rcases v with ac | as | ts <;> first | (cases ac <;> simp only [BlkOf, reduceCtorEq] at hb) | (simp only [BlkOf, reduceCtorEq] at hb)
        obtain ⟨h1, h2⟩ := hb
        obtain ⟨_, h3⟩ := h.tokv _ h2
        exact (h3 k h1.symm).2.2
      | wr e =>
        rcases v with ac | as | ts <;> first | (cases ac <;> simp only [BlkOf, reduceCtorEq] at hb) | (simp only [BlkOf, reduceCtorEq] at hb)
        obtain ⟨h1, h2, h3⟩ := hb
        injection h1 with h1
        have := (h.live _ h2).2.2.2
        rw [h3, ← h1] at this
        exact this.resolve_left (by simp)
      | ref e => simp at hp
      | ro e => simp at hp
      | iter => simp at hp
      | fnp f n => simp at hp
      | mp kt vt => simp at hp
      | box n => simp at hp
    · exact outs_blocks h (l := l) hp.2 h2 k hk
  | [], _ :: _, _, h, _, _ => h.elim
  | _ :: _, [], _, h, _, _ => h.elim

theorem backGet_get {rs : LSpec} {t : Nat} {v : SV tb.T} (hv : backGet s rs t = some v) : vget s s.env t = some v := by
  unfold backGet at hv
  cases hm : memB t (rs.map (·.1)) with
  | false => simpa [hm] using hv
  | true =>
    simp only [hm, cond_true] at hv
    split at hv
    · rename_i i he
      cases hb : Nat.beq i t with
      | false => simp [hb] at hv
      | true =>
        simp only [hb, cond_true] at hv
        have := Nat.eq_of_beq_eq_true hb
        subst this
        rw [he]; exact hv
    · rename_i i he
      cases hb : Nat.beq i t with
      | false => simp [hb] at hv
      | true =>
        simp only [hb, cond_true] at hv
        have := Nat.eq_of_beq_eq_true hb
        subst this
        rw [he]; exact hv
    · cases hv
theorem slot_rep {a0 : Act} {g0 : Gh} {w0 : World} (h : SimAt P tb N W a0 g0 w0 D0 s g' μ τ a' w') {t : Nat} {v : SV tb.T} (hv : vget s s.env t = some v) : ∃ u, vval w' (fun i => a'.tmps[i]?) t = some u ∧ RepV P tb g' w' μ τ s.tok v u :=
  vget_rep h (fun t v _ hv => h.env t v hv) hv
theorem backGet_rep {a0 : Act} {g0 : Gh} {w0 : World} (h : SimAt P tb N W a0 g0 w0 D0 s g' μ τ a' w') {rs : LSpec} {t : Nat} {v : SV tb.T} (hv : backGet s rs t = some v) : ∃ u, vval w' (fun i => a'.tmps[i]?) t = some u ∧ RepV P tb g' w' μ τ s.tok v u :=
  slot_rep h (backGet_get hv)
/-- what a slot holds, as a value -/
def slotV (w : World) (a : Act) (t : Nat) : Value := (vval w (fun i => a.tmps[i]?) t).getD undef
theorem slot_rep' {a0 : Act} {g0 : Gh} {w0 : World} (h : SimAt P tb N W a0 g0 w0 D0 s g' μ τ a' w') {t : Nat} {v : SV tb.T} (hv : vget s s.env t = some v) : RepV P tb g' w' μ τ s.tok v (slotV w' a' t) := by
  obtain ⟨u, hu, hr⟩ := slot_rep h hv
  unfold slotV; rw [hu]; exact hr

/-- the references' slots stay -/
theorem ref_stays {ins : LSpec} {x : XS tb ins} {vs : List Value} {bs : List (Option Nat)} (hh : HoldsL P tb g w ins x vs bs) (hi : InSlots a w ins vs) (hg : hangs ins = true) (hf : ∀ q ∈ refsOf ins, a'.tmps[q.1 % 4294967296]? = a.tmps[q.1 % 4294967296]?) :
    ∀ q ∈ refsOf ins, vval w' (fun i => a'.tmps[i]?) q.1 = vval w (fun i => a.tmps[i]?) q.1 := fun q hq => by
  have hfq := hf q hq
  by_cases ht : q.1 < 4294967296
  · rw [vval_real ht, vval_real ht]
    rw [Nat.mod_eq_of_lt ht] at hfq
    exact hfq
  · have h1 := List.all_eq_true.1 hg q hq
    simp only [Bool.or_eq_true] at h1
    rcases h1 with h1 | h1
    · exact absurd (vreal_iff.1 h1) ht
    · simp only [isFnp, List.any_eq_true, Bool.and_eq_true] at h1
      obtain ⟨p, hp, h1, h2⟩ := h1
      have e1 := Nat.eq_of_beq_eq_true h1
      clear h1
      obtain ⟨v, b, y, h3, h4⟩ := holds_entry hi hh p hp
      obtain ⟨t, pt⟩ := p
      simp only at e1 h2 h3 h4
      cases pt with
      | fnp f n =>
        obtain ⟨_, ks, _, rfl⟩ := h4
        have hlt : t < 4294967296 := by rw [e1]; exact Nat.mod_lt _ (by omega)
        rw [vval_real hlt, e1] at h3
        unfold vval
        simp only [ht, if_false]
        rw [hfq, h3]
      | _ => simp at h2

/-- **the end** -/
theorem end_left {ins outs : LSpec} {x : XS tb ins} {vs : List Value} {bs : List (Option Nat)} (hh : HoldsL P tb g w ins x vs bs) (hi : InSlots a w ins vs) (hW : ∀ q ∈ refsOf ins, ¬ W (q.1 % 4294967296)) (hg : hangs ins = true) (hpo : LSpec.plainOwn outs = true)
    (h : SimAt P tb N W a g w (fun b => b ∈ touched ins bs) s g' μ τ a' w') {get : Nat → Option (SV tb.T)} {val : Nat → Value} {y : XS tb outs} {z : XS tb (refsOf ins)} (hy : extS P tb s get outs = some y)
    (hval : ∀ q ∈ outs, ∀ v, get q.1 = some v → RepV P tb g' w' μ τ s.tok v (val q.1)) (hz : extS P tb s (backGet s (refsOf ins)) (refsOf ins) = some z) (hn : nodupB (idsS get outs ++ idsS (backGet s (refsOf ins)) (refsOf ins)) = true) :
    ∃ cs, Left P tb g w ins outs vs bs (Ret.mk y z) (outs.map fun q => val q.1) cs g' w' ∧ BlkL s μ τ get outs cs := by
  obtain ⟨cs, k1, k2⟩ := ext_all h hy hval
  obtain ⟨ds, m1, m2⟩ := ext_all h (val := slotV w' a') hz (fun q hq v hv => slot_rep' h (backGet_get hv))
  have hst := ref_stays (a' := a') (w' := w') hh hi hg fun q hq => h.frame _ (hW q hq)
  obtain ⟨r1, r2⟩ := refs_same (val := slotV w' a') hh hi m1 fun q hq => by
    obtain ⟨v, hv⟩ := at_get hi q (refsOf_sub q hq)
    unfold slotV
    rw [hst q hq, hv]; rfl
  have hn := List.nodup_append.1 (nodupB_iff.1 hn)
  have hnd := blk_nodup h k2 hn.1
  have hbl := outs_blocks h hpo k2
  refine ⟨cs, ⟨h.ext, by rw [ret_outs]; exact k1, by rw [ret_refs, ← r1, ← r2]; exact m1, hnd, fun k hk => ⟨hbl k hk, fun hm => ?_⟩⟩, k2⟩
  rw [← r2] at hm
  obtain ⟨i, hi, hi'⟩ := blk_id k2 k hk
  obtain ⟨j, hj, hj'⟩ := blk_id m2 k hm
  have := blk_inj h hi' hj'
  subst this
  exact hn.2.2 i hi i hj rfl
end Go.Ev

/- **Code**: the evaluator tells what the machine does. -/
namespace Go.Ev
open Go

variable {P : Program} {tb : Tab} {N : Nat} {W : Nat → Prop} {a0 : Act} {g0 : Gh} {w0 : World} {D0 : Nat → Prop}
variable {s s' s1 s2 : St tb.T} {g g' : Gh} {μ μ' : Nat → Nat} {τ τ' : Nat → Option Nat} {a a' : Act} {w w' : World}
variable {Γ : List (Nat × FSpec tb)} {Δ : List (CutSpec tb)} {R : Type}

def Ex.toExit : Ex → Exit
  | .normal => .normal
  | .exit id => .exit id
  | .goto l => .goto l
  | .ret => .ret

def dstsB (p : Nat → Bool) : Code → Bool
  | .region _ ops _ => ops.toList.all fun o => match o.dst with | some d => p d | none => true
  | .seq a b => dstsB p a && dstsB p b
  | .cond _ a b => dstsB p a && dstsB p b
  | .block _ b => dstsB p b
  | .loop b => dstsB p b
  | .scope b => dstsB p b
  | .rangeFunc .. => false
  | _ => true

def OutIs (rs : LSpec) (φ : Ex → (l : LSpec) → Ret tb l rs → Prop) : (outs : List (Ex × LSpec)) → Outs tb rs outs → Prop
  | [], y => nomatch y
  | [o], y => φ o.1 o.2 y
  | o :: _ :: _, .inl y => φ o.1 o.2 y
  | _ :: p :: l, .inr y => OutIs rs φ (p :: l) y

/-- what a cut leaves, by one way out -/
def CutLeft (P : Program) (tb : Tab) (N : Nat) (Wl : List Nat) (ins : LSpec) (g : Gh) (w : World) (a : Act) (vs : List Value) (bs : List (Option Nat)) (l : LSpec) (r : Ret tb l (refsOf ins)) (a' : Act) (w' : World) : Prop :=
  a'.tmps.size = N ∧ a'.defers = a.defers ∧ (∀ t, memB t Wl = false → a'.tmps[t]? = a.tmps[t]?) ∧ ∃ us cs g', InSlots a' w' l us ∧ Left P tb g w ins l vs bs r us cs g' w'

/-- a piece of code keeps its contract -/
def CutSound (P : Program) (tb : Tab) (N : Nat) (c : Code) (cut : CutSpec tb) : Prop :=
  ∀ (g : Gh) (w : World) (a : Act) (x : XS tb cut.ins) (vs : List Value) (bs : List (Option Nat)) (y : Outs tb (refsOf cut.ins) cut.outs), cut.J x = some y → tb.inv g w → a.tmps.size = N → InSlots a w cut.ins vs → HoldsL P tb g w cut.ins x vs bs → (blocksOf bs).Nodup →
    c.wp P (fun ex a' w' => OutIs (refsOf cut.ins) (fun e l r => ex = e.toExit ∧ CutLeft P tb N cut.W cut.ins g w a vs bs l r a' w') cut.outs y) a w

/-- the same, for whatever runs as the code does -/
def CutSoundW (P : Program) (tb : Tab) (N : Nat) (Z : (Exit → Act → World → Prop) → Act → World → Prop) (cut : CutSpec tb) : Prop :=
  ∀ (g : Gh) (w : World) (a : Act) (x : XS tb cut.ins) (vs : List Value) (bs : List (Option Nat)) (y : Outs tb (refsOf cut.ins) cut.outs), cut.J x = some y → tb.inv g w → a.tmps.size = N → InSlots a w cut.ins vs → HoldsL P tb g w cut.ins x vs bs → (blocksOf bs).Nodup →
    Z (fun ex a' w' => OutIs (refsOf cut.ins) (fun e l r => ex = e.toExit ∧ CutLeft P tb N cut.W cut.ins g w a vs bs l r a' w') cut.outs y) a w

theorem SimAt.reframe (h : SimAt P tb N W a0 g0 w0 D0 s g μ τ a w) (hs : a'.tmps.size = N) (hd : a'.defers = a.defers) (hf : ∀ t, ¬ W t → a'.tmps[t]? = a.tmps[t]?) (he : ∀ t v, s.env t = some v → a'.tmps[t]? = a.tmps[t]?) :
    SimAt P tb N W a0 g0 w0 D0 s g μ τ a' w :=
  ⟨h.ext, hs, hd.trans h.defers, fun t ht => (hf t ht).trans (h.frame t ht), fun t v hv => by rw [he t v hv]; exact h.env t v hv, h.blk, h.itr, h.live, h.inj, h.tokv, h.tinj, h.excl, h.rou, h.uenv, h.ublk, h.inv0⟩

theorem putRefs_env {get : Nat → Option (SV tb.T)} : ∀ {rs : LSpec} {x : XS tb rs} {s : St tb.T}, (putRefs tb s get rs x).env = s.env := by
  have one : ∀ (s : St tb.T) (q : Nat × Pat) (x : X tb q.2), (putRefs.one tb get s q x).env = s.env := fun s q x => by
    unfold putRefs.one
    split
    · split <;> rfl
    · split <;> rfl
    · rfl
  intro rs
  induction rs with
  | nil => intro x s; rfl
  | cons q rs ih =>
    intro x s
    cases rs with
    | nil => exact one s q x
    | cons q' rs =>
      obtain ⟨x, xs⟩ := x
      exact (ih (x := xs) (s := putRefs.one tb get s q x)).trans (one s q x)

theorem cutOne_sim {key : Nat} {q : Nat × Pat} {x : X tb q.2} {v : Value} {b : Option Nat} (h : SimAt P tb N W a0 g0 w0 D0 s g μ τ a w) (hp : HoldsP P tb g w q.2 x v b) (hv : a.tmps[q.1]? = some v)
    (hb : ∀ k, b = some k → NewBlk P tb w0 D0 s τ k) (hl : ∀ k, b = some k → ∀ j, isLive s j → μ j ≠ k) (ho : cutOne P tb key s q x = some s') :
    ∃ μ' τ', SimAt P tb N W a0 g0 w0 D0 s' g μ' τ' a w ∧ (∀ t k, s'.tok t = true → τ' t = some k → (s.tok t = true ∧ τ t = some k) ∨ b = some k) ∧ ∀ j, isLive s' j → (isLive s j ∧ μ' j = μ j) ∨ b = some (μ' j) := by
  obtain ⟨t, p⟩ := q
  cases p with
  | val e =>
    obtain ⟨hp, rfl⟩ := hp
    have ho : some (s.put t (valSV P e (tb.enc e x))) = some s' := ho
    simp only [Option.some.injEq] at ho; subst ho
    obtain ⟨k1, k2⟩ := valSV_sound (μ := μ) (τ := τ) (tok := s.tok) hp
    exact ⟨μ, τ, h.see hv k1 (by rw [k2]; simp), fun t k ht hk => .inl ⟨ht, hk⟩, fun j hj => .inl ⟨hj, rfl⟩⟩
  | own e =>
    have ho : (bif s.used (t + 65536 * (key + 1)) then none else some { s with env := upd s.env t (some (.c (.own e x (t + 65536 * (key + 1))))), tok := upd s.tok (t + 65536 * (key + 1)) true, used := upd s.used (t + 65536 * (key + 1)) true }) = some s' := ho
    cases hu : s.used (t + 65536 * (key + 1)) with
    | true => simp [hu] at ho
    | false =>
      simp only [hu, cond_false, Option.some.injEq] at ho; subst ho
      obtain ⟨k1, k2⟩ := h.tok1 hu hp hb
      refine ⟨μ, _, k1.see hv (v := .c (.own e x (t + 65536 * (key + 1)))) k2 (by simp [SV.ids, AC.ids, upd_same]), fun t' k ht he => ?_, fun j hj => .inl ⟨hj, rfl⟩⟩
      have ht : upd s.tok (t + 65536 * (key + 1)) true t' = true := ht
      by_cases e' : t' = t + 65536 * (key + 1)
      · subst e'; rw [upd_same] at he; exact .inr he
      · rw [upd_other _ _ e'] at ht he; exact .inl ⟨ht, he⟩
  | wr e =>
    generalize hid : t + 65536 * (key + 1) = d
    have ho : (bif s.used (t + 65536 * (key + 1)) then none else some { s with env := upd s.env t (some (.c (.vsl (t + 65536 * (key + 1)) (List.length (α := tb.T e) x)))), itr := upd s.itr (t + 65536 * (key + 1)) (some (.ar e x)), used := upd s.used (t + 65536 * (key + 1)) true }) = some s' := ho
    rw [hid] at ho
    cases hu : s.used d with
    | true => simp [hu] at ho
    | false =>
      simp only [hu, cond_false, Option.some.injEq] at ho; subst ho
      obtain ⟨k, cap, hbk, rfl, k1, k2, k3⟩ := hp
      obtain ⟨m1, m2⟩ := h.newOb hu k1 k2 k3 (hb k hbk).1 (hl k hbk)
      refine ⟨_, _, m1.see hv (v := .c (.vsl d (List.length (α := tb.T e) x))) m2 (by simp [SV.ids, AC.ids, upd_same]), fun t' k' ht he => ?_, fun j hj => ?_⟩
      · have hne : t' ≠ d := fun e => by subst e; have := (h.tokv _ ht).1; rw [hu] at this; cases this
        rw [upd_other _ _ hne] at he
        exact .inl ⟨ht, he⟩
      · by_cases e' : j = d
        · subst e'; rw [upd_same]; exact .inr hbk
        · rw [upd_other _ _ e']
          exact .inl ⟨by simpa [isLive, St.put, upd_eq, e'] using hj, rfl⟩
  | ref e => cases ho
  | ro e => cases ho
  | iter => cases ho
  | fnp f n => cases ho
  | mp kt vt => cases ho
  | box n => cases ho
theorem cutA_sim {key : Nat} {q : Nat × Pat} {x : X tb q.2} {v : Value} {b : Option Nat} (h : SimAt P tb N W a0 g0 w0 D0 s g μ τ a w) (hp : HoldsP P tb g w q.2 x v b) (hv : vval w (fun i => a.tmps[i]?) q.1 = some v)
    (hb : ∀ k, b = some k → NewBlk P tb w0 D0 s τ k) (hl : ∀ k, b = some k → ∀ j, isLive s j → μ j ≠ k) (ho : cutA P tb key s q x = some s') :
    ∃ μ' τ', SimAt P tb N W a0 g0 w0 D0 s' g μ' τ' a w ∧ (∀ t k, s'.tok t = true → τ' t = some k → (s.tok t = true ∧ τ t = some k) ∨ b = some k) ∧ ∀ j, isLive s' j → (isLive s j ∧ μ' j = μ j) ∨ b = some (μ' j) := by
  unfold cutA at ho
  cases hr : vreal q.1 with
  | true =>
    rw [vval_real (vreal_iff.1 hr)] at hv
    simp only [hr, cond_true] at ho
    exact cutOne_sim h hp hv hb hl ho
  | false =>
    simp only [hr, cond_false] at ho
    obtain ⟨t, p⟩ := q
    simp only at hr hv hp
    cases p with
    | own e =>
      generalize hid : t + 65536 * (key + 1) = d
      have ho : (bif s.used (t + 65536 * (key + 1)) then none else (match setCell s s.env t (.own e x (t + 65536 * (key + 1))) with
        | some s' => some { s' with tok := upd s'.tok (t + 65536 * (key + 1)) true, used := upd s'.used (t + 65536 * (key + 1)) true }
        | none => none)) = some s' := ho
      rw [hid] at ho
      cases hu : s.used d with
      | true => simp [hu] at ho
      | false =>
        simp only [hu, cond_false] at ho
        split at ho
        · rename_i s1 hs1
          simp only [Option.some.injEq] at ho; subst ho
          obtain ⟨c1, c2, c3⟩ := setCell_flags hs1 (upd s.tok d true) (upd s.used d true)
          obtain ⟨c4, _⟩ := setCell_lives hs1
          obtain ⟨k1, k2⟩ := h.tok1 hu hp hb
          rw [c1, c2]
          refine ⟨μ, _, k1.setCell c3 (vreal_not.1 hr) hv k2 (by simp [AC.ids, upd_same]), fun t' k ht he => ?_, fun j hj => .inl ⟨c4 j hj, rfl⟩⟩
          have ht : upd s.tok d true t' = true := ht
          by_cases e' : t' = d
          · subst e'; rw [upd_same] at he; exact .inr he
          · rw [upd_other _ _ e'] at ht he; exact .inl ⟨ht, he⟩
        · cases ho
    | wr e =>
      generalize hid : t + 65536 * (key + 1) = d
      have ho : (bif s.used (t + 65536 * (key + 1)) then none else (match setCell s s.env t (.vsl (t + 65536 * (key + 1)) (List.length (α := tb.T e) x)) with
        | some s' => some { s' with itr := upd s'.itr (t + 65536 * (key + 1)) (some (.ar e x)), used := upd s'.used (t + 65536 * (key + 1)) true }
        | none => none)) = some s' := ho
      rw [hid] at ho
      cases hu : s.used d with
      | true => simp [hu] at ho
      | false =>
        simp only [hu, cond_false] at ho
        split at ho
        · rename_i s1 hs1
          simp only [Option.some.injEq] at ho; subst ho
          obtain ⟨k, cap, hbk, rfl, k1, k2, k3⟩ := hp
          obtain ⟨c1, c2, c3⟩ := setCell_itr hs1 (upd s.itr d (some (.ar e x))) (upd s.used d true)
          obtain ⟨c4, _⟩ := setCell_lives hs1
          obtain ⟨c6, _⟩ := setCell_tok hs1
          obtain ⟨m1, m2⟩ := h.newOb hu k1 k2 k3 (hb k hbk).1 (hl k hbk)
          rw [c1, c2]
          refine ⟨_, _, m1.setCell c3 (vreal_not.1 hr) hv m2 (by simp [AC.ids, upd_same]), fun t' k' ht he => ?_, fun j hj => ?_⟩
          · have ht1 : s.tok t' = true := by
              have ht : s1.tok t' = true := ht
              rw [c6] at ht; exact ht
            have hne : t' ≠ d := fun e' => by have := (h.tokv _ ht1).1; rw [e', hu] at this; cases this
            rw [upd_other _ _ hne] at he
            exact .inl ⟨ht1, he⟩
          · by_cases e' : j = d
            · subst e'; rw [upd_same]; exact .inr hbk
            · rw [upd_other _ _ e']
              refine .inl ⟨c4 j ?_, rfl⟩
              simpa [isLive, upd_eq, e', c1] using hj
        · cases ho
    | val e =>
      have ho : (bif isAggB P e then none else (match tb.enc e x with
        | [c] => setCell s s.env t (.d c)
        | _ => none)) = some s' := ho
      obtain ⟨hp, rfl⟩ := hp
      unfold HoldsV at hp
      cases ha : isAggB P e with
      | true => simp [ha] at ho
      | false =>
        simp only [ha, Bool.false_eq_true, if_false, cond_false] at hp ho
        obtain ⟨c, hc, hd⟩ := hp
        simp only [hc] at ho
        obtain ⟨c1, c2⟩ := setCell_tok ho
        obtain ⟨c4, c5⟩ := setCell_lives ho
        exact ⟨μ, τ, h.setCell ho (vreal_not.1 hr) hv hd (by simp [AC.ids]), fun t' k ht he => .inl ⟨by rw [← c1]; exact ht, he⟩, fun j hj => .inl ⟨c4 j hj, rfl⟩⟩
    | ref e => cases ho
    | ro e => cases ho
    | iter => cases ho
    | fnp f n => cases ho
    | mp kt vt => cases ho
    | box n => cases ho

theorem cutOuts_sim {key : Nat} : ∀ {l : LSpec} {x : XS tb l} {us : List Value} {bs : List (Option Nat)} {s s' : St tb.T} {μ : Nat → Nat} {τ : Nat → Option Nat},
    SimAt P tb N W a0 g0 w0 D0 s g μ τ a w → HoldsL P tb g w l x us bs → InSlots a w l us → (blocksOf bs).Nodup → (∀ k ∈ blocksOf bs, NewBlk P tb w0 D0 s τ k) → (∀ k ∈ blocksOf bs, ∀ j, isLive s j → μ j ≠ k) → cutOuts P tb key s l x = some s' →
    ∃ μ' τ', SimAt P tb N W a0 g0 w0 D0 s' g μ' τ' a w ∧ (∀ t k, s'.tok t = true → τ' t = some k → (s.tok t = true ∧ τ t = some k) ∨ k ∈ blocksOf bs) ∧ ∀ j, isLive s' j → (isLive s j ∧ μ' j = μ j) ∨ μ' j ∈ blocksOf bs
  | [], x, us, bs, s, s', μ, τ, h, _, _, _, _, _, ho => by
    simp only [cutOuts, Option.some.injEq] at ho; subst ho; exact ⟨μ, τ, h, fun t k ht hk => .inl ⟨ht, hk⟩, fun j hj => .inl ⟨hj, rfl⟩⟩
  | [q], x, us, bs, s, s', μ, τ, h, hl, hi, hn, hb, hlv, ho => by
    simp only [cutOuts] at ho
    match us, bs, hl with
    | [u], [b], hl =>
      obtain ⟨μ', τ', k, k2, k3⟩ := cutA_sim h hl hi.1 (fun k hk => hb k (mem_blocks_cons.2 (.inl hk))) (fun k hk => hlv k (mem_blocks_cons.2 (.inl hk))) ho
      exact ⟨μ', τ', k, fun t k ht hk => (k2 t k ht hk).imp id fun c => mem_blocks_cons.2 (.inl c), fun j hj => (k3 j hj).imp id fun c => mem_blocks_cons.2 (.inl c)⟩
  | q :: q' :: l, (x, xs), us, bs, s, s', μ, τ, h, hl, hi, hn, hb, hlv, ho => by
    simp only [cutOuts] at ho
    cases hp : cutOuts P tb key s (q' :: l) xs with
    | none => simp [hp] at ho
    | some s1 =>
      simp only [hp] at ho
      match us, bs, hl with
      | u :: us, b :: bs, hl =>
        obtain ⟨n1, n2⟩ := nodup_blocks_cons hn
        obtain ⟨μ1, τ1, k1, k2, k3⟩ := cutOuts_sim h hl.2 hi.2 n1 (fun k hk => hb k (mem_blocks_cons.2 (.inr hk))) (fun k hk => hlv k (mem_blocks_cons.2 (.inr hk))) hp
        obtain ⟨μ2, τ2, m1, m2, m3⟩ := cutA_sim k1 hl.1 hi.1 (fun k hk => newblk_toks k2 (hb k (mem_blocks_cons.2 (.inl hk))) (n2 k hk)) (fun k hk j hj e => by
          rcases k3 j hj with ⟨c1, c2⟩ | c
          · exact hlv k (mem_blocks_cons.2 (.inl hk)) j c1 (c2.symm.trans e)
          · exact n2 k hk (e ▸ c)) ho
        refine ⟨μ2, τ2, m1, fun t k ht hk => ?_, fun j hj => ?_⟩
        · rcases m2 t k ht hk with ⟨c1, c2⟩ | c
          · exact (k2 t k c1 c2).imp id fun c => mem_blocks_cons.2 (.inr c)
          · exact .inr (mem_blocks_cons.2 (.inl c))
        · rcases m3 j hj with ⟨c1, c2⟩ | c
          · rcases k3 j c1 with ⟨c3, c4⟩ | c
            · exact .inl ⟨c3, c2.trans c4⟩
            · exact .inr (mem_blocks_cons.2 (.inr (c2 ▸ c)))
          · exact .inr (mem_blocks_cons.2 (.inl c))

theorem cutPost_pick {c : CutSpec tb} {κ : Ex → St tb.T → Option R} {r : R} {φ : Ex → (l : LSpec) → Ret tb l (refsOf c.ins) → Prop} : ∀ {outs : List (Ex × LSpec)} {y : Outs tb (refsOf c.ins) outs}, cutPost P tb c s κ outs y = some r → OutIs (refsOf c.ins) φ outs y →
    ∃ e l q, φ e l q ∧ cutPost.one P tb c s κ (e, l) q = some r
  | [], y, _, _ => nomatch y
  | [o], y, h, hy => ⟨o.1, o.2, y, hy, h⟩
  | o :: _ :: _, .inl y, h, hy => ⟨o.1, o.2, y, hy, h⟩
  | _ :: p :: l, .inr y, h, hy => cutPost_pick (outs := p :: l) (y := y) h hy

/-- **a cut** -/
theorem evCut_soundW {Z : (Exit → Act → World → Prop) → Act → World → Prop} (hmono : ∀ {Q Q' : Exit → Act → World → Prop} {a : Act} {w : World}, Z Q a w → (∀ e a w, Q e a w → Q' e a w) → Z Q' a w)
    {cut : CutSpec tb} (hc : CutSoundW P tb N Z cut) (hW : ∀ t, memB t cut.W = true → W t) (h : SimAt P tb N W a0 g0 w0 D0 s g μ τ a w) {ex : Ex}
    (he : evCut P tb cut s (fun ex s => some (ex, s)) = some (ex, s')) : Z (fun e a w => e = ex.toExit ∧ Sim P tb N W a0 g0 w0 D0 s' a w) a w := by
  unfold evCut at he
  cases hx : extS P tb s (vget s s.env) cut.ins with
  | none => simp [hx] at he
  | some x =>
    simp only [hx] at he
    cases hk : nodupB (idsS (vget s s.env) cut.ins) with
    | false => simp [hk] at he
    | true =>
      simp only [hk, cond_true] at he
      obtain ⟨y, hy, he⟩ := obnd_eq_some.1 he
      obtain ⟨bs, hh, hbl⟩ := ext_all h (val := slotV w a) hx fun q _ v hv => slot_rep' h hv
      have hslots : InSlots a w cut.ins (cut.ins.map fun q => slotV w a q.1) := at_of (fun t v hv => by obtain ⟨u, hu, _⟩ := slot_rep h hv; exact ⟨u, hu⟩) hbl
      have hn := blk_nodup h hbl (nodupB_iff.1 hk)
      refine hmono (hc g w a x _ bs y hy (tb.invk h.ext h.inv0) h.size hslots hh hn) ?_
      intro e a' w' hout
      obtain ⟨e1, l, r, ⟨hex, c1, c2, c3, us, cs, g', c4, c5⟩, hone⟩ := cutPost_pick he hout
      unfold cutPost.one at hone
      split at hone
      · rename_i s2 hs2
        simp only [Option.some.injEq, Prod.mk.injEq] at hone
        obtain ⟨rfl, rfl⟩ := hone
        refine ⟨hex, ?_⟩
        obtain ⟨k1, k2, klv⟩ := after_left h hbl hn c5
        have k3 := k1.forget fun t => memB t cut.W
        rw [putRefs_env] at k3
        have k4 := k3.reframe c1 (c2.trans rfl) (fun t ht => c3 t (by
          cases hm : memB t cut.W with
          | false => rfl
          | true => exact absurd (hW t hm) ht)) (fun t v hv => c3 t (by
          cases hm : memB t cut.W with
          | false => rfl
          | true => simp [hm] at hv))
        obtain ⟨μ', τ', k5, _⟩ := cutOuts_sim k4 c5.2.1 c4 c5.2.2.2.1 k2 klv hs2
        exact k5.sim
      · cases hone

theorem evCut_sound {c : Code} {cut : CutSpec tb} (hc : CutSound P tb N c cut) (hW : ∀ t, memB t cut.W = true → W t) (h : SimAt P tb N W a0 g0 w0 D0 s g μ τ a w) {ex : Ex}
    (he : evCut P tb cut s (fun ex s => some (ex, s)) = some (ex, s')) : c.wp P (fun e a w => e = ex.toExit ∧ Sim P tb N W a0 g0 w0 D0 s' a w) a w :=
  evCut_soundW (Z := c.wp P) (fun h hq => wp_mono h hq) hc hW h he

/-! ## all code -/
theorem cutPost_k {c : CutSpec tb} {s : St tb.T} {κ : Ex → St tb.T → Option R} : ∀ {outs : List (Ex × LSpec)} {y : Outs tb (refsOf c.ins) outs}, cutPost P tb c s κ outs y = obnd (cutPost P tb c s (fun ex s => some (ex, s)) outs y) fun p => κ p.1 p.2
  | [], y => nomatch y
  | [o], y => by simp only [cutPost]; unfold cutPost.one; split <;> rfl
  | o :: _ :: _, .inl y => by simp only [cutPost, osum]; unfold cutPost.one; split <;> rfl
  | _ :: p :: l, .inr y => by simp only [cutPost, osum]; exact cutPost_k (outs := p :: l) (y := y)
theorem evCut_k {c : CutSpec tb} {s : St tb.T} {κ : Ex → St tb.T → Option R} : evCut P tb c s κ = obnd (evCut P tb c s (fun ex s => some (ex, s))) fun p => κ p.1 p.2 := by
  unfold evCut
  split
  · rw [obnd_cond]
    congr 1
    rw [obnd_obnd]
    exact obnd_congr _ fun y => cutPost_k
  · rfl

/-- what has an answer keeps it -/
theorem evCode_mono : ∀ (c : Code) (s : St tb.T) {R : Type} {κ κ' : Ex → St tb.T → Option R} (_ : ∀ ex s r, κ ex s = some r → κ' ex s = some r) {r : R}, evCode P tb Γ Δ c s κ = some r → evCode P tb Γ Δ c s κ' = some r := by
  have cut : ∀ {cut : CutSpec tb} {s : St tb.T} {R : Type} {κ κ' : Ex → St tb.T → Option R} (_ : ∀ ex s r, κ ex s = some r → κ' ex s = some r) {r : R}, evCut P tb cut s κ = some r → evCut P tb cut s κ' = some r := fun h r he => by
    rw [evCut_k] at he ⊢
    obtain ⟨p, h1, h2⟩ := obnd_eq_some.1 he
    exact obnd_eq_some.2 ⟨p, h1, h _ _ _ h2⟩
  intro c
  induction c with
  | region id ops draw =>
    intro s R κ κ' h r he
    unfold evCode at he ⊢
    split at he
    · exact cut h he
    · cases draw with
      | true =>
        simp only [cond_true] at he ⊢
        cases hb : backs ops.toList 0 with
        | false => simp [hb] at he
        | true =>
          simp only [hb, cond_true] at he ⊢
          rw [evOpsD_k] at he ⊢
          obtain ⟨p, h1, h2⟩ := obnd_eq_some.1 he
          exact obnd_eq_some.2 ⟨p, h1, h _ _ _ h2⟩
      | false =>
        simp only [cond_false] at he ⊢
        rw [evOps_k] at he ⊢
        obtain ⟨p, h1, h2⟩ := obnd_eq_some.1 he
        exact obnd_eq_some.2 ⟨p, h1, h _ _ _ h2⟩
  | seq a b iha ihb =>
    intro s R κ κ' h r he
    unfold evCode at he ⊢
    split at he
    · exact cut h he
    · simp only at he ⊢
      refine iha s (fun ex s1 r h1 => ?_) he
      cases ex with
      | normal => exact ihb s1 h h1
      | _ => exact h _ _ _ h1
  | cond x a b iha ihb =>
    intro s R κ κ' h r he
    unfold evCode at he ⊢
    split at he
    · exact cut h he
    · simp only at he ⊢
      split at he
      · rename_i t hv
        cases t with
        | true => rw [brn_true] at he ⊢; exact iha s h he
        | false => rw [brn_false] at he ⊢; exact ihb s h he
      · rename_i m e hv
        cases m with
        | true =>
          rw [brn_true] at he ⊢
          obtain ⟨h1, h2⟩ := agree_some he
          rw [iha s h h1, ihb s h h2, agree_self]
        | false =>
          rw [brn_false] at he ⊢
          cases e with
          | true => simp only [cond_true] at he ⊢; exact iha s h he
          | false => simp only [cond_false] at he ⊢; exact ihb s h he
      · cases he
  | block id b ih =>
    intro s R κ κ' h r he
    unfold evCode at he ⊢
    split at he
    · exact cut h he
    · simp only at he ⊢
      refine ih s (fun ex s1 r h1 => ?_) he
      cases ex with
      | exit id' =>
        simp only at h1 ⊢
        cases hb : Nat.beq id' id with
        | true => simp only [hb, cond_true] at h1 ⊢; exact h _ _ _ h1
        | false => simp only [hb, cond_false] at h1 ⊢; exact h _ _ _ h1
      | _ => exact h _ _ _ h1
  | scope b ih =>
    intro s R κ κ' h r he
    unfold evCode at he ⊢
    split at he
    · exact cut h he
    · simp only at he ⊢
      refine ih s (fun ex s1 r h1 => ?_) he
      cases ex with
      | goto l => simp at h1
      | _ => exact h _ _ _ h1
  | _ =>
    intros
    rename_i s R κ κ' h r he
    unfold evCode at he ⊢
    split at he
    · exact cut h he
    · first | exact h _ _ _ he | cases he

/-- every cut in it keeps its contract -/
def CutsIn (Δ : List (CutSpec tb)) (S : Code → CutSpec tb → Prop) (c : Code) : Prop :=
  match findCut Δ (keyOf c) with
  | some cut => S c cut
  | none => match c with
    | .seq a b => CutsIn Δ S a ∧ CutsIn Δ S b
    | .cond _ a b => CutsIn Δ S a ∧ CutsIn Δ S b
    | .block _ b => CutsIn Δ S b
    | .scope b => CutsIn Δ S b
    | _ => True

theorem evCode_sound (hm : P.follows .mixedOrders = true) (hΓ : ∀ p ∈ Γ, FnKeeps P tb p.1 p.2) (hsl : ∀ p ∈ Γ, (reals p.2.ins).map (·.1) = List.range (reals p.2.ins).length) {p : Nat → Bool} (hp : ∀ d, p d = true → d < N ∧ W d) :
    ∀ (c : Code), dstsB p c = true → CutsIn Δ (fun c cut => CutSound P tb N c cut ∧ ∀ t, memB t cut.W = true → W t) c → ∀ {s : St tb.T} {R : Type} {κ : Ex → St tb.T → Option R} {r : R} {a : Act} {w : World}, Sim P tb N W a0 g0 w0 D0 s a w → evCode P tb Γ Δ c s κ = some r →
      c.wp P (fun e a w => ∃ ex s', e = ex.toExit ∧ Sim P tb N W a0 g0 w0 D0 s' a w ∧ κ ex s' = some r) a w := by
  have hcut : ∀ (c : Code) (cut : CutSpec tb), findCut Δ (keyOf c) = some cut → CutsIn Δ (fun c cut => CutSound P tb N c cut ∧ ∀ t, memB t cut.W = true → W t) c → ∀ {s : St tb.T} {R : Type} {κ : Ex → St tb.T → Option R} {r : R} {a : Act} {w : World}, Sim P tb N W a0 g0 w0 D0 s a w → evCut P tb cut s κ = some r →
      c.wp P (fun e a w => ∃ ex s', e = ex.toExit ∧ Sim P tb N W a0 g0 w0 D0 s' a w ∧ κ ex s' = some r) a w := fun c cut hf hc s R κ r a w ⟨g, μ, τ, h⟩ he => by
    unfold CutsIn at hc
    rw [hf] at hc
    rw [evCut_k] at he
    obtain ⟨⟨ex, s'⟩, h1, h2⟩ := obnd_eq_some.1 he
    refine wp_mono (evCut_sound hc.1 hc.2 h h1) ?_
    rintro e a w ⟨rfl, hs⟩
    exact ⟨ex, s', rfl, hs, h2⟩
  intro c
  induction c with
  | skip =>
    intro hd hc s R κ r a w h he
    unfold evCode at he
    split at he
    · rename_i cut hf; exact hcut _ cut hf hc h he
    · exact wp_skip ⟨.normal, s, rfl, h, he⟩
  | label l =>
    intro hd hc s R κ r a w h he
    unfold evCode at he
    split at he
    · rename_i cut hf; exact hcut _ cut hf hc h he
    · exact wp_label ⟨.normal, s, rfl, h, he⟩
  | region id ops draw =>
    intro hd hc s R κ r a w h he
    have hds : ∀ o ∈ ops.toList, ∀ d, o.dst = some d → d < N ∧ W d := fun o ho d hod => by
      simp only [dstsB, List.all_eq_true] at hd
      have := hd o ho
      rw [hod] at this
      exact hp d this
    unfold evCode at he
    split at he
    · rename_i cut hf; exact hcut _ cut hf hc h he
    · cases draw with
      | true =>
        simp only [cond_true] at he
        cases hb : backs ops.toList 0 with
        | false => simp [hb] at he
        | true =>
          simp only [hb, cond_true] at he
          rw [evOpsD_k] at he
          obtain ⟨s1, h1, h2⟩ := obnd_eq_some.1 he
          exact wp_region_evD hm hΓ hsl hds hb h h1 fun a w h => ⟨.normal, s1, rfl, h, h2⟩
      | false =>
        simp only [cond_false] at he
        rw [evOps_k] at he
        obtain ⟨s1, h1, h2⟩ := obnd_eq_some.1 he
        exact wp_region_ev hΓ hsl hds h h1 fun a w h => ⟨.normal, s1, rfl, h, h2⟩
  | seq x y ihx ihy =>
    intro hd hc s R κ r a w h he
    simp only [dstsB, Bool.and_eq_true] at hd
    unfold evCode at he
    split at he
    · rename_i cut hf; exact hcut _ cut hf hc h he
    · rename_i hf
      unfold CutsIn at hc
      rw [hf] at hc
      simp only at he hc
      refine wp_seq (wp_mono (ihx hd.1 hc.1 h he) ?_)
      rintro e a1 w1 ⟨e1, s1, rfl, hs1, h2⟩
      cases e1 with
      | normal => exact ihy hd.2 hc.2 hs1 h2
      | exit id => exact ⟨_, s1, rfl, hs1, h2⟩
      | goto l => exact ⟨_, s1, rfl, hs1, h2⟩
      | ret => exact ⟨_, s1, rfl, hs1, h2⟩
  | cond x y z ihy ihz =>
    intro hd hc s R κ r a w h he
    simp only [dstsB, Bool.and_eq_true] at hd
    unfold evCode at he
    split at he
    · rename_i cut hf; exact hcut _ cut hf hc h he
    · rename_i hf
      unfold CutsIn at hc
      rw [hf] at hc
      simp only at he hc
      split at he
      · rename_i t hv
        obtain ⟨g, μ, τ, h'⟩ := h
        have hr : RepD P tb g w (.bool t) (a.eval x) := (val_sound h' x _ hv).1
        have hev : a.eval x = .bool t := by
          generalize a.eval x = u at hr
          cases hr; rfl
        refine wp_cond hev ?_
        cases t with
        | true => exact ihy hd.1 hc.1 ⟨g, μ, τ, h'⟩ he
        | false => exact ihz hd.2 hc.2 ⟨g, μ, τ, h'⟩ he
      · rename_i m e hv
        obtain ⟨g, μ, τ, h'⟩ := h
        obtain ⟨t, hev, hte⟩ : ∃ t, a.eval x = .bool t ∧ (m = false → t = e) := (val_sound h' x _ hv).1
        refine wp_cond hev ?_
        cases m with
        | true =>
          rw [brn_true] at he
          obtain ⟨h1, h2⟩ := agree_some he
          cases t with
          | true => exact ihy hd.1 hc.1 ⟨g, μ, τ, h'⟩ h1
          | false => exact ihz hd.2 hc.2 ⟨g, μ, τ, h'⟩ h2
        | false =>
          rw [brn_false] at he
          have := hte rfl
          subst this
          cases t with
          | true => exact ihy hd.1 hc.1 ⟨g, μ, τ, h'⟩ he
          | false => exact ihz hd.2 hc.2 ⟨g, μ, τ, h'⟩ he
      · cases he
  | block id b ih =>
    intro hd hc s R κ r a w h he
    simp only [dstsB] at hd
    unfold evCode at he
    split at he
    · rename_i cut hf; exact hcut _ cut hf hc h he
    · rename_i hf
      unfold CutsIn at hc
      rw [hf] at hc
      simp only at he hc
      refine wp_block (wp_mono (ih hd hc h he) ?_)
      rintro e a1 w1 ⟨e1, s1, rfl, hs1, h2⟩
      cases e1 with
      | exit id' =>
        simp only at h2
        cases hb : Nat.beq id' id with
        | true =>
          have := Nat.eq_of_beq_eq_true hb
          subst this
          simp only [hb, cond_true] at h2
          simp only [Ex.toExit, Exit.inBlock, if_true]
          exact ⟨.normal, s1, rfl, hs1, h2⟩
        | false =>
          have hne : id' ≠ id := fun e => by subst e; simp at hb
          simp only [hb, cond_false] at h2
          simp only [Ex.toExit, Exit.inBlock, if_neg hne]
          exact ⟨.exit id', s1, rfl, hs1, h2⟩
      | normal => exact ⟨.normal, s1, rfl, hs1, h2⟩
      | goto l => exact ⟨.goto l, s1, rfl, hs1, h2⟩
      | ret => exact ⟨.ret, s1, rfl, hs1, h2⟩
  | scope b ih =>
    intro hd hc s R κ r a w h he
    simp only [dstsB] at hd
    unfold evCode at he
    split at he
    · rename_i cut hf; exact hcut _ cut hf hc h he
    · rename_i hf
      unfold CutsIn at hc
      rw [hf] at hc
      simp only at he hc
      refine wp_scope_straight (wp_mono (ih hd hc h he) ?_)
      rintro e a1 w1 ⟨e1, s1, rfl, hs1, h2⟩
      cases e1 with
      | goto l => simp at h2
      | exit id => exact ⟨.exit id, s1, rfl, hs1, h2⟩
      | normal => exact ⟨.normal, s1, rfl, hs1, h2⟩
      | ret => exact ⟨.ret, s1, rfl, hs1, h2⟩
  | exit id =>
    intro hd hc s R κ r a w h he
    unfold evCode at he
    split at he
    · rename_i cut hf; exact hcut _ cut hf hc h he
    · exact wp_exit ⟨.exit id, s, rfl, h, he⟩
  | goto l =>
    intro hd hc s R κ r a w h he
    unfold evCode at he
    split at he
    · rename_i cut hf; exact hcut _ cut hf hc h he
    · exact wp_goto ⟨.goto l, s, rfl, h, he⟩
  | ret =>
    intro hd hc s R κ r a w h he
    unfold evCode at he
    split at he
    · rename_i cut hf; exact hcut _ cut hf hc h he
    · exact wp_ret ⟨.ret, s, rfl, h, he⟩
  | loop b ih =>
    intro hd hc s R κ r a w h he
    unfold evCode at he
    split at he
    · rename_i cut hf; exact hcut _ cut hf hc h he
    · cases he
  | rangeFunc f ps as b iha ihb =>
    intro hd hc s R κ r a w h he
    unfold evCode at he
    split at he
    · rename_i cut hf; exact hcut _ cut hf hc h he
    · cases he
  | refuse why =>
    intro hd hc s R κ r a w h he
    unfold evCode at he
    split at he
    · rename_i cut hf; exact hcut _ cut hf hc h he
    · cases he
end Go.Ev

/- Cuts and functions keep their contracts. -/
namespace Go.Ev
open Go

variable {P : Program} {tb : Tab} {N : Nat} {W : Nat → Prop} {a0 : Act} {g0 : Gh} {w0 : World} {D0 : Nat → Prop}
variable {s s' s1 s2 : St tb.T} {g g' : Gh} {μ μ' : Nat → Nat} {τ τ' : Nat → Option Nat} {a a' : Act} {w w' : World}
variable {Γ : List (Nat × FSpec tb)} {Δ : List (CutSpec tb)} {R : Type}

/-- the first state -/
theorem begun_sim (hinv : tb.inv g w) {l : LSpec} {x : XS tb l} {vs : List Value} {bs : List (Option Nat)} (hh : HoldsL P tb g w l x vs bs) (hn : (blocksOf bs).Nodup) (hs : nodupB (l.map (·.1)) = true) (hi : InSlots a w l vs) (hN : a.tmps.size = N) :
    Sim P tb N W a g w (fun b => b ∈ touched l bs) (canon P tb l x) a w := by
  have hs' := nodupB_iff.1 hs
  have hf := fit_exists (isWr_mem hs') hi hh
  exact ⟨g, _, _, (canon_begun (W := W) hinv hh hn hs' hi hf hN (D0 := fun b => b ∈ touched l bs) fun k hk => hk).sim⟩

/-! ## what was written to, from now on for good -/
theorem frz_ids {T : Nat → Type} {i e : Nat} {xs : List (T e)} (ac : AC T) : ∀ j ∈ (ac.frz i e xs).ids, j ∈ ac.ids ∨ j = i + 1152921504606846976 := by
  cases ac <;> simp only [AC.frz] <;> intro q hq
  case vsl j n =>
    cases h : Nat.beq j i with
    | false => rw [h] at hq; exact .inl hq
    | true => rw [h] at hq; simp only [cond_true, AC.ids, List.mem_singleton] at hq; exact .inr hq
  all_goals exact .inl hq
theorem frz_ids_sv {T : Nat → Type} {i e : Nat} {xs : List (T e)} (v : SV T) : ∀ j ∈ (v.frz i e xs).ids, j ∈ v.ids ∨ j = i + 1152921504606846976 := by
  intro j hj
  cases v with
  | c a => exact Ev.frz_ids a j hj
  | agg as =>
    simp only [SV.frz, SV.ids, List.mem_flatMap, List.mem_map] at hj
    obtain ⟨_, ⟨a, ha, rfl⟩, hj⟩ := hj
    exact (Ev.frz_ids a j hj).imp (fun h => by simp only [SV.ids, List.mem_flatMap]; exact ⟨a, ha, h⟩) id
  | tup ts =>
    simp only [SV.frz, SV.ids, List.mem_flatMap] at hj
    obtain ⟨p', hp', ac', hac', hj⟩ := hj
    obtain ⟨p, hp, rfl⟩ := List.mem_map.1 hp'
    obtain ⟨a, ha, rfl⟩ := List.mem_map.1 hac'
    exact (Ev.frz_ids a j hj).imp (fun h => by simp only [SV.ids, List.mem_flatMap]; exact ⟨p, hp, a, ha, h⟩) id
theorem all2_map {α β γ : Type} {R : α → β → Prop} {S : γ → β → Prop} {f : α → γ} : ∀ {as : List α} {bs : List β}, All2 R as bs → (∀ a ∈ as, ∀ b, R a b → S (f a) b) → All2 S (as.map f) bs
  | [], [], _, _ => trivial
  | a :: as, b :: bs, ⟨h1, h2⟩, h => ⟨h a (by simp) b h1, all2_map h2 fun a ha b hb => h a (by simp [ha]) b hb⟩
  | [], _ :: _, h, _ => h.elim
  | _ :: _, [], h, _ => h.elim

theorem SimAt.freeze (h : SimAt P tb N W a0 g0 w0 D0 s g μ τ a w) (i : Nat) : ∃ g' τ', SimAt P tb N W a0 g0 w0 D0 (s.frz i) g' μ τ' a w := by
  unfold St.frz
  split
  · rename_i e xs hi
    generalize hf : i + 1152921504606846976 = f
    cases hu : s.used f with
    | true => exact ⟨g, τ, h⟩
    | false =>
    simp only [cond_false]
    have hl : isLive s i := .inr (by rw [hi]; simp)
    obtain ⟨k1, k2, k3, k4⟩ := h.live i hl
    obtain ⟨hnb, hnr⟩ := h.excl i (by rw [hi]; simp)
    obtain ⟨cap, hq, ha⟩ := h.itr i _ hi
    have ha' := ha
    obtain ⟨us, el, fz, a1, a2, a3, a4, a5, a6, a7, a8, a9⟩ := ha'
    have hne : ∀ j, s.used j = true → j ≠ f := fun j hj e => by subst e; rw [hj] at hu; cases hu
    have hus : ∀ j, s.used j = true → upd s.used f true j = true := fun j hj => by rw [upd_other _ _ (hne j hj)]; exact hj
    have hgo : ∀ b, b ≠ μ i → upd g (μ i) (.ar (xs.length * P.cellsOf e)) b = g b := fun b hb => upd_other g _ hb
    have he : Ext g w (upd g (μ i) (.ar (xs.length * P.cellsOf e))) w (fun b => b = μ i) :=
      ⟨rfl, rfl, rfl, Nat.le_refl _, fun b _ hb => ⟨rfl, hgo b hb⟩, fun b _ hb => ⟨rfl, by rw [hgo b (fun e => by subst e; rw [k2] at hb; cases hb)]; exact hb⟩, fun b n _ hb => ⟨n, Nat.le_refl _, by rw [hgo b (fun e => by subst e; rw [k2] at hb; cases hb)]; exact hb, fun _ _ => rfl⟩, Shp.refl w⟩
    have hkeep := he.keeps
    have hxl : xs.length < 18446744073709551616 := by unfold mxLen at a4; omega
    have htkb : ∀ t b, s.tok t = true → τ t = some b → b ≠ μ i := fun t b ht hb e' => by
      obtain ⟨⟨n, hn⟩, _⟩ := (h.tokv t ht).2 b hb
      rw [e', k2] at hn; cases hn
    have carry : Carry g w μ τ s.tok (upd g (μ i) (.ar (xs.length * P.cellsOf e))) w μ (upd τ f (some (μ i))) (upd s.tok f true) (fun j => s.used j = true) :=
      ⟨hkeep, fun j hj => ⟨rfl, upd_other τ _ (hne j hj)⟩, fun j hj ht => by rw [upd_other _ _ (hne j hj)] at ht; exact ht, fun j b hj ht hb => by
        rw [upd_other _ _ (hne j hj)] at ht
        exact ⟨hgo b (htkb j b ht hb), rfl⟩⟩
    -- what a cell holds
    have hcell : ∀ (ac : AC tb.T), (∀ j ∈ ac.ids, s.used j = true) → ∀ v, RepC P tb g w μ τ s.tok ac v → RepC P tb (upd g (μ i) (.ar (xs.length * P.cellsOf e))) w μ (upd τ f (some (μ i))) (upd s.tok f true) (ac.frz i e xs) v := by
      intro ac hids v hr
      cases ac with
      | vsl j n =>
        simp only [AC.frz]
        cases hb : Nat.beq j i with
        | false => exact RepC.carry carry hids hr
        | true =>
          have := Nat.eq_of_beq_eq_true hb
          subst this
          simp only [cond_true]
          rw [hf]
          obtain ⟨q, q1, q2, q4, rfl⟩ := hr
          rw [hq] at q1; injection q1 with q1; subst q1
          have m1 : (xs.length + 18446744073709551616 * cap) % 18446744073709551616 = xs.length := by omega
          have m2 : (xs.length + 18446744073709551616 * cap) / 18446744073709551616 = cap := by omega
          rw [m1, m2]
          refine ⟨?_, fun _ => ?_⟩
          · refine .sl e xs (μ j) 0 cap (fun p c => (w.cell? ⟨μ j, 0 + p * P.cellsOf e + c, none⟩).getD undef) a3 a4 (fun p x hx => a7 x (List.mem_of_getElem? hx)) (fun _ => ⟨k3, .inr ⟨_, upd_same _ _ _, by omega⟩⟩) (fun p x c cv hx hc => ?_) (fun p x c cv hx hc => ?_)
            · obtain ⟨u, hu, _⟩ := a8 p x c cv hx hc
              have : w.cell? ⟨μ j, 0 + p * P.cellsOf e + c, none⟩ = some u := by unfold World.cell?; simp only [a1]; rw [Nat.zero_add]; exact hu
              rw [this]; rfl
            · obtain ⟨u, hu, hr⟩ := a8 p x c cv hx hc
              have : w.cell? ⟨μ j, 0 + p * P.cellsOf e + c, none⟩ = some u := by unfold World.cell?; simp only [a1]; rw [Nat.zero_add]; exact hu
              rw [this]; exact hr.mono hkeep
          · exact .inr ⟨μ j, 0, cap, us, el, fz, upd_same _ _ _, rfl, by rw [upd_same, Nat.zero_add], a1, by omega, a3, a2, rfl, a9⟩
      | d c => exact RepC.carry carry hids hr
      | own e' ys t => exact RepC.carry carry hids hr
      | ptr j o => exact RepC.carry carry hids hr
      | cptr cs => exact RepC.carry carry hids hr
      | fn f caps => exact RepC.carry carry hids hr
      | any => exact RepC.carry carry hids hr
      | ubool m e => exact RepC.carry carry hids hr
      | np => exact RepC.carry carry hids hr
      | map i => exact RepC.carry carry hids hr
      | slf t n i => exact RepC.carry carry hids hr
      | elp j e' k o => exact RepC.carry carry hids hr
    have hval : ∀ (v : SV tb.T), (∀ j ∈ v.ids, s.used j = true) → ∀ u, RepV P tb g w μ τ s.tok v u → RepV P tb (upd g (μ i) (.ar (xs.length * P.cellsOf e))) w μ (upd τ f (some (μ i))) (upd s.tok f true) (v.frz i e xs) u := by
      intro v hids u hr
      cases v with
      | c ac => exact hcell ac hids u hr
      | agg as =>
        obtain ⟨us', rfl, h2⟩ := hr
        exact ⟨us', rfl, all2_map h2 fun ac hac b hb => hcell ac (fun j hj => hids j (by simp only [SV.ids, List.mem_flatMap]; exact ⟨ac, hac, hj⟩)) b hb⟩
      | tup ts =>
        obtain ⟨us', rfl, h2⟩ := hr
        refine ⟨us', rfl, all2_map h2 fun p hp b hb => ?_⟩
        have hids' : ∀ ac ∈ p.2, ∀ j ∈ ac.ids, s.used j = true := fun ac hac j hj => hids j (by simp only [SV.ids, List.mem_flatMap]; exact ⟨p, hp, ac, hac, hj⟩)
        unfold RepT at hb ⊢
        obtain ⟨pb, pas⟩ := p
        cases pb
        · simp only [Bool.false_eq_true, if_false] at hb ⊢
          obtain ⟨ac, rfl, h3⟩ := hb
          exact ⟨_, rfl, hcell ac (hids' ac (by simp)) b h3⟩
        · simp only [if_true] at hb ⊢
          obtain ⟨us2, rfl, h3⟩ := hb
          exact ⟨us2, rfl, all2_map h3 fun ac hac b hb => hcell ac (hids' ac hac) b hb⟩
    have hlv : ∀ j, ((s.blk j).map (List.map (AC.frz i e xs)) ≠ none ∨ upd s.itr i none j ≠ none) → isLive s j ∧ j ≠ i := fun j hj => by
      by_cases e' : j = i
      · subst e'
        rcases hj with hj | hj
        · exact absurd (by rw [hnb]; rfl) hj
        · exact absurd (upd_same _ _ _) hj
      · refine ⟨?_, e'⟩
        rcases hj with hj | hj
        · left
          intro hb
          exact hj (by rw [hb]; rfl)
        · right
          rw [upd_other _ _ e'] at hj
          exact hj
    refine ⟨upd g (μ i) (.ar (xs.length * P.cellsOf e)), upd τ f (some (μ i)), ?_, h.size, h.defers, h.frame, fun t v hv => ?_, fun j cs hc => ?_, fun j o hj => ?_, fun j hj => ?_, fun j k hj hk e' => h.inj j k (hlv j hj).1 (hlv k hk).1 e', fun t ht => ?_, fun t u b ht hu' e1 e2 => ?_, fun j hj => ?_, fun j hj => hus j (h.rou j hj), fun t v hv j hj => ?_, fun j cs hc y hy q hq' => ?_, h.inv0⟩
    · exact h.ext.trans he (fun _ _ x => x) (fun b hb hd => by
        rw [hd] at hb ⊢
        rcases k4 with k4 | k4 | k4
        · rw [hnr] at k4; cases k4
        · omega
        · exact k4)
    · simp only at hv
      cases hev : s.env t with
      | none => simp [hev] at hv
      | some v0 =>
        simp only [hev, Option.map_some, Option.some.injEq] at hv; subst hv
        obtain ⟨u, hu', hr⟩ := h.env t v0 hev
        exact ⟨u, hu', hval v0 (fun j hj => h.uenv t v0 hev j hj) u hr⟩
    · simp only at hc
      cases hbv : s.blk j with
      | none => simp [hbv] at hc
      | some as =>
        simp only [hbv, Option.map_some, Option.some.injEq] at hc; subst hc
        obtain ⟨us', el', fz', b1, b2, b3⟩ := h.blk j as hbv
        exact ⟨us', el', fz', b1, b2, all2_map b3 fun ac hac b hb => hcell ac (fun q hq' => h.ublk j as hbv ac hac q hq') b hb⟩
    · have hj : upd s.itr i none j = some o := hj
      by_cases e' : j = i
      · subst e'; rw [upd_same] at hj; cases hj
      · rw [upd_other _ _ e'] at hj
        have hju := (h.live j (.inr (by rw [hj]; simp))).1
        rw [upd_other τ _ (hne j hju)]
        exact (h.itr j o hj).mono hkeep rfl
    · obtain ⟨c1, c2⟩ := hlv j hj
      obtain ⟨q1, q2, q3, q4⟩ := h.live j c1
      exact ⟨hus j q1, by rw [hgo _ (fun e' => c2 (h.inj j i c1 hl e'))]; exact q2, q3, q4⟩
    · have ht : upd s.tok f true t = true := ht
      by_cases e' : t = f
      · subst e'
        refine ⟨upd_same _ _ _, fun b hb => ?_⟩
        rw [upd_same] at hb; injection hb with hb; subst hb
        exact ⟨⟨_, upd_same _ _ _⟩, k3, k4.resolve_left (by rw [hnr]; simp)⟩
      · rw [upd_other _ _ e'] at ht
        obtain ⟨q1, q2⟩ := h.tokv t ht
        refine ⟨hus t q1, fun b hb => ?_⟩
        rw [upd_other _ _ e'] at hb
        obtain ⟨⟨n, r1⟩, r2⟩ := q2 b hb
        exact ⟨⟨n, by rw [hgo b (htkb t b ht hb)]; exact r1⟩, r2⟩
    · have ht : upd s.tok f true t = true := ht
      have hu2 : upd s.tok f true u = true := hu'
      by_cases c1 : t = f <;> by_cases c2 : u = f
      · rw [c1, c2]
      · subst c1
        rw [upd_same] at e1; injection e1 with e1
        rw [upd_other _ _ c2] at hu2 e2
        exact absurd e1.symm (htkb u b hu2 e2)
      · subst c2
        rw [upd_same] at e2; injection e2 with e2
        rw [upd_other _ _ c1] at ht e1
        exact absurd e2.symm (htkb t b ht e1)
      · rw [upd_other _ _ c1] at ht e1
        rw [upd_other _ _ c2] at hu2 e2
        exact h.tinj t u b ht hu2 e1 e2
    · have hj : upd s.itr i none j ≠ none := hj
      by_cases e' : j = i
      · subst e'; exact absurd (upd_same _ _ _) hj
      · rw [upd_other _ _ e'] at hj
        obtain ⟨q1, q2⟩ := h.excl j hj
        exact ⟨by simp only [q1]; rfl, q2⟩
    · simp only at hv
      cases hev : s.env t with
      | none => simp [hev] at hv
      | some v0 =>
        simp only [hev, Option.map_some, Option.some.injEq] at hv; subst hv
        rcases frz_ids_sv v0 j hj with c | c
        · exact hus j (h.uenv t v0 hev j c)
        · rw [hf] at c; subst c; exact upd_same _ _ _
    · simp only at hc
      cases hbv : s.blk j with
      | none => simp [hbv] at hc
      | some as =>
        simp only [hbv, Option.map_some, Option.some.injEq] at hc; subst hc
        obtain ⟨ac, hac, rfl⟩ := List.mem_map.1 hy
        rcases Ev.frz_ids ac q hq' with c | c
        · exact hus q (h.ublk j as hbv ac hac q c)
        · rw [hf] at c; subst c; exact upd_same _ _ _
  · exact ⟨g, τ, h⟩
theorem SimAt.prep {get : Nat → Option (SV tb.T)} : ∀ (l : LSpec) {s : St tb.T} {g : Gh} {τ : Nat → Option Nat}, SimAt P tb N W a0 g0 w0 D0 s g μ τ a w → ∃ g' τ', SimAt P tb N W a0 g0 w0 D0 (St.prep get l s) g' μ τ' a w
  | [], s, g, τ, h => ⟨g, τ, h⟩
  | (t, p) :: l, s, g, τ, h => by
    cases p with
    | own e =>
      simp only [St.prep]
      split
      · obtain ⟨g', τ', h'⟩ := h.freeze _
        exact SimAt.prep l h'
      · exact SimAt.prep l h
    | _ => exact SimAt.prep l h

theorem intoOuts_sound {rs : LSpec} {get : Nat → Option (SV tb.T)} {ex : Ex} {φ : Ex → (l : LSpec) → Ret tb l rs → Prop} : ∀ {outs : List (Ex × LSpec)} {y : Outs tb rs outs}, intoOuts P tb rs get ex s outs = some y →
    (∀ o ∈ outs, o.1 = ex → ∀ x z, extS P tb s (vget s s.env) o.2 = some x → extS P tb s get rs = some z → nodupB (idsS (vget s s.env) o.2 ++ idsS get rs) = true → φ o.1 o.2 (Ret.mk x z)) → OutIs rs φ outs y := by
  have one : ∀ (o : Ex × LSpec) (q : Ret tb o.2 rs), intoOuts.one P tb rs get ex s o = some q → (o.1 = ex → ∀ x z, extS P tb s (vget s s.env) o.2 = some x → extS P tb s get rs = some z → nodupB (idsS (vget s s.env) o.2 ++ idsS get rs) = true → φ o.1 o.2 (Ret.mk x z)) → φ o.1 o.2 q := fun o q h hφ => by
    unfold intoOuts.one at h
    cases hk : (decide (o.1 = ex) && nodupB (idsS (vget s s.env) o.2 ++ idsS get rs)) with
    | false => simp [hk] at h
    | true =>
      simp only [hk, cond_true] at h
      simp only [Bool.and_eq_true, decide_eq_true_eq] at hk
      split at h
      · rename_i x hx
        split at h
        · rename_i z hz
          simp only [Option.some.injEq] at h; subst h
          exact hφ hk.1 x z hx hz hk.2
        · cases h
      · cases h
  intro outs
  induction outs with
  | nil => intro y; exact nomatch y
  | cons o outs ih =>
    intro y h hφ
    cases outs with
    | nil => exact one o y h (hφ o (by simp))
    | cons p l =>
      simp only [intoOuts] at h
      cases hd : decide (o.1 = ex) with
      | true =>
        simp only [hd, cond_true] at h
        split at h
        · rename_i q hq
          have h := Option.some.inj h; subst h
          exact one o q hq (hφ o (by simp))
        · cases h
      | false =>
        simp only [hd, cond_false] at h
        split at h
        · rename_i q hq
          have h := Option.some.inj h; subst h
          exact ih (y := q) hq fun o ho => hφ o (List.mem_cons_of_mem _ ho)
        · cases h

theorem intoEnd_sound {rs : LSpec} {ex : Ex} {φ : Ex → (l : LSpec) → Ret tb l rs → Prop} {outs : List (Ex × LSpec)} {y : Outs tb rs outs} (he : intoEnd P tb rs ex s outs = some y)
    (hφ : ∀ l0, ∀ o ∈ outs, o.1 = ex → ∀ x z, extS P tb (St.prep (vget s s.env) l0 s) (vget (St.prep (vget s s.env) l0 s) (St.prep (vget s s.env) l0 s).env) o.2 = some x → extS P tb (St.prep (vget s s.env) l0 s) (backGet (St.prep (vget s s.env) l0 s) rs) rs = some z →
      nodupB (idsS (vget (St.prep (vget s s.env) l0 s) (St.prep (vget s s.env) l0 s).env) o.2 ++ idsS (backGet (St.prep (vget s s.env) l0 s) rs) rs) = true → φ o.1 o.2 (Ret.mk x z)) : OutIs rs φ outs y := by
  unfold intoEnd at he
  split at he
  · rename_i o0 ho0
    exact intoOuts_sound he (hφ o0.2)
  · cases he
def CutsOk (P : Program) (tb : Tab) (N : Nat) (W : Nat → Prop) (Δ : List (CutSpec tb)) (c : Code) : Prop := CutsIn Δ (fun c cut => CutSound P tb N c cut ∧ ∀ t, memB t cut.W = true → W t) c

/-- the static checks of a cut -/
def cutB (N : Nat) (cut : CutSpec tb) (c : Code) : Bool :=
  dstsB (fun d => Nat.blt d N && memB d cut.W) c && nodupB (cut.ins.map (·.1)) && (refsOf cut.ins).all (fun q => !memB (q.1 % 4294967296) cut.W) && cut.outs.all (fun o => LSpec.plainOwn o.2) && hangs cut.ins

theorem cut_end {ins l : LSpec} {x : XS tb ins} {vs : List Value} {bs : List (Option Nat)} {Wl : List Nat} (hh : HoldsL P tb g w ins x vs bs) (hi : InSlots a w ins vs) (hW : ∀ q ∈ refsOf ins, memB (q.1 % 4294967296) Wl = false) (hg : hangs ins = true) (hpo : LSpec.plainOwn l = true)
    (h : SimAt P tb N (fun t => memB t Wl = true) a g w (fun b => b ∈ touched ins bs) s g' μ τ a' w') {y : XS tb l} {z : XS tb (refsOf ins)} (hy : extS P tb s (vget s s.env) l = some y)
    (hz : extS P tb s (backGet s (refsOf ins)) (refsOf ins) = some z) (hn : nodupB (idsS (vget s s.env) l ++ idsS (backGet s (refsOf ins)) (refsOf ins)) = true) : CutLeft P tb N Wl ins g w a vs bs l (Ret.mk y z) a' w' := by
  obtain ⟨cs, hl, hbl⟩ := end_left (val := slotV w' a') hh hi (fun q hq => by rw [hW q hq]; simp) hg hpo h hy (fun q _ v hv => slot_rep' h hv) hz hn
  exact ⟨h.size, h.defers, fun t ht => h.frame t (by rw [ht]; simp), _, cs, g', at_of (fun t v hv => by obtain ⟨u, hu, _⟩ := slot_rep h hv; exact ⟨u, hu⟩) hbl, hl⟩

/-- **a piece of code under a contract** -/
theorem blk_sound (hm : P.follows .mixedOrders = true) (hΓ : ∀ p ∈ Γ, FnKeeps P tb p.1 p.2) (hsl : ∀ p ∈ Γ, (reals p.2.ins).map (·.1) = List.range (reals p.2.ins).length) {c : Code} {cut : CutSpec tb} (hb : cutB N cut c = true) (hcut : CutsOk P tb N (fun t => memB t cut.W = true) Δ c)
    (hJ : ∀ x y, cut.J x = some y → evBlk P tb Γ Δ c cut.ins cut.outs x = some y) : CutSound P tb N c cut := by
  simp only [cutB, Bool.and_eq_true] at hb
  obtain ⟨⟨⟨⟨hd, hns⟩, hrs⟩, hpo⟩, hhg⟩ := hb
  intro g w a x vs bs y hxy hinv hN hi hh hn
  have hsim := begun_sim (W := fun t => memB t cut.W = true) hinv hh hn hns hi hN
  have he := hJ x y hxy
  unfold evBlk at he
  refine wp_mono (evCode_sound hm hΓ hsl (p := fun d => Nat.blt d N && memB d cut.W) (fun d hd => by
    simp only [Bool.and_eq_true] at hd; exact ⟨Nat.le_of_ble_eq_true hd.1, hd.2⟩) c hd hcut hsim he) ?_
  rintro e a' w' ⟨ex, s', rfl, ⟨g', μ, τ, hs⟩, h2⟩
  refine intoEnd_sound (P := P) h2 ?_
  rintro l0 o ho rfl y' z hy' hz hn'
  obtain ⟨g2, τ2, hs⟩ := hs.prep (get := vget s' s'.env) l0
  refine ⟨rfl, cut_end hh hi (fun q hq => ?_) hhg ?_ hs hy' hz hn'⟩
  · have := List.all_eq_true.1 hrs q hq
    simpa using this
  · exact List.all_eq_true.1 hpo o ho

/-! ## loops -/
theorem holds_refs : ∀ {l : LSpec} {x : XS tb l} {vs : List Value} {bs : List (Option Nat)}, HoldsL P tb g w l x vs bs → ∃ z, HoldsL P tb g w (refsOf l) z (atRefs l vs) (atRefs l bs)
  | [], x, vs, bs, h => by obtain ⟨rfl, rfl⟩ := holds_nil h; exact ⟨(() : Unit), trivial⟩
  | (t, p) :: l, x, vs, bs, h => by
    obtain ⟨v, vs, b, bs, rfl, rfl⟩ := holds_cons_inv h
    obtain ⟨⟨y, hy⟩, ys, hys⟩ := holds_cons h
    obtain ⟨z, hz⟩ := holds_refs hys
    cases hr : p.isRef with
    | false =>
      have e : refsOf ((t, p) :: l) = refsOf l := by simp [refsOf, hr]
      have e1 : ∀ {α : Type} (u : α) (us : List α), atRefs ((t, p) :: l) (u :: us) = atRefs l us := fun u us => by simp [atRefs, hr]
      rw [e1, e1, e]
      exact ⟨z, hz⟩
    | true =>
      have e : refsOf ((t, p) :: l) = (t, p) :: refsOf l := by simp [refsOf, hr]
      have e1 : ∀ {α : Type} (u : α) (us : List α), atRefs ((t, p) :: l) (u :: us) = u :: atRefs l us := fun u us => by simp [atRefs, hr]
      rw [e1, e1, e]
      revert z hz
      cases hl : refsOf l with
      | nil =>
        intro z hz
        obtain ⟨e2, e3⟩ := holds_nil hz
        rw [e2, e3]
        exact ⟨y, hy⟩
      | cons q rs => intro z hz; exact ⟨(y, z), hy, hz⟩
theorem atRefs_map (val : Nat → Value) : ∀ {l : LSpec}, atRefs l (l.map fun q => val q.1) = (refsOf l).map fun q => val q.1
  | [] => rfl
  | (t, p) :: l => by
    have ih := atRefs_map val (l := l)
    cases hr : p.isRef <;> simp [atRefs, refsOf, hr, ih]

theorem left_after {ins l : LSpec} {vs vs1 : List Value} {bs bs1 : List (Option Nat)} {g1 : Gh} {w1 : World} {r : Ret tb l (refsOf ins)} {us : List Value} {cs : List (Option Nat)}
    (he : Ext g w g1 w1 (fun b => b ∈ touched ins bs)) (ht : ∀ k ∈ touched ins bs1, w.heap.size ≤ k ∨ k ∈ touched ins bs) (hv : atRefs ins vs1 = atRefs ins vs) (hb : atRefs ins bs1 = atRefs ins bs)
    (h : Left P tb g1 w1 ins l vs1 bs1 r us cs g' w') : Left P tb g w ins l vs bs r us cs g' w' := by
  obtain ⟨l1, l2, l3, l4, l5⟩ := h
  refine ⟨he.trans l1 (fun _ _ h => h) (fun b hb1 hd => (ht b hd).resolve_left (by omega)), l2, by rw [hv, hb] at l3; exact l3, l4, fun k hk => ?_⟩
  obtain ⟨k1, k2⟩ := l5 k hk
  refine ⟨?_, by rw [← hb]; exact k2⟩
  rcases k1 with c | c
  · exact .inl (Nat.le_trans he.size c)
  · exact ht k c

/-- where a loop stands when it comes again -/
structure Again (P : Program) (tb : Tab) (N : Nat) (cut : CutSpec tb) (m : XS tb cut.ins → Nat) (g : Gh) (w : World) (a : Act) (vs : List Value) (bs : List (Option Nat)) (y : Outs tb (refsOf cut.ins) cut.outs) (n : Nat) (a1 : Act) (w1 : World)
    (g1 : Gh) (x1 : XS tb cut.ins) (vs1 : List Value) (bs1 : List (Option Nat)) : Prop where
  meas : m x1 = n
  tells : cut.J x1 = some y
  size : a1.tmps.size = N
  defers : a1.defers = a.defers
  frame : ∀ t, memB t cut.W = false → a1.tmps[t]? = a.tmps[t]?
  slots : InSlots a1 w1 cut.ins vs1
  holds : HoldsL P tb g1 w1 cut.ins x1 vs1 bs1
  nodup : (blocksOf bs1).Nodup
  ext : Ext g w g1 w1 (fun b => b ∈ touched cut.ins bs)
  tch : ∀ k ∈ touched cut.ins bs1, w.heap.size ≤ k ∨ k ∈ touched cut.ins bs
  rv : atRefs cut.ins vs1 = atRefs cut.ins vs
  rb : atRefs cut.ins bs1 = atRefs cut.ins bs

theorem loop_sound (hm : P.follows .mixedOrders = true) (hΓ : ∀ p ∈ Γ, FnKeeps P tb p.1 p.2) (hsl : ∀ p ∈ Γ, (reals p.2.ins).map (·.1) = List.range (reals p.2.ins).length) {c : Code} {cut : CutSpec tb} (hb : cutB N cut c = true) (hcut : CutsOk P tb N (fun t => memB t cut.W = true) Δ c)
    (m : XS tb cut.ins → Nat) (hJ : ∀ x y, cut.J x = some y → evLoop P tb Γ Δ c cut.ins cut.outs (fun x' => bif Nat.blt (m x') (m x) then cut.J x' else none) x = some y) : CutSound P tb N (.loop c) cut := by
  simp only [cutB, Bool.and_eq_true] at hb
  obtain ⟨⟨⟨⟨hd, hns⟩, hrs⟩, hpo⟩, hhg⟩ := hb
  have hrs' : ∀ q ∈ refsOf cut.ins, memB (q.1 % 4294967296) cut.W = false := fun q hq => by
    have := List.all_eq_true.1 hrs q hq
    simpa using this
  intro g w a x vs bs y hxy hinv hN hi hh hn
  let I : Nat → Act → World → Prop := fun n a1 w1 => ∃ g1 x1 vs1 bs1, Again P tb N cut m g w a vs bs y n a1 w1 g1 x1 vs1 bs1
  classical
  let J : Act → World → Prop := fun a1 w1 => ∃ n, I n a1 w1
  have hleast : ∀ a1 w1, J a1 w1 → ∃ n, I n a1 w1 ∧ ∀ k, I k a1 w1 → n ≤ k := fun a1 w1 ⟨n, hn⟩ => by
    induction n using Nat.strongRecOn with
    | _ n ih =>
      by_cases hk : ∃ k, k < n ∧ I k a1 w1
      · obtain ⟨k, hk, hik⟩ := hk; exact ih k hk hik
      · exact ⟨n, hn, fun k hik => Nat.le_of_not_lt fun hlt => hk ⟨k, hlt, hik⟩⟩
  let M : Act → World → Nat := fun a1 w1 => if h : J a1 w1 then Classical.choose (hleast a1 w1 h) else 0
  have hM : ∀ a1 w1, J a1 w1 → I (M a1 w1) a1 w1 ∧ ∀ k, I k a1 w1 → M a1 w1 ≤ k := fun a1 w1 h => by
    have := Classical.choose_spec (hleast a1 w1 h)
    simp only [M, h, dite_true]
    exact this
  refine wp_loop J M ⟨m x, g, x, vs, bs, ⟨rfl, hxy, hN, rfl, fun _ _ => rfl, hi, hh, hn, Ext.refl _ _ _, fun _ h => .inr h, rfl, rfl⟩⟩ ?_
  intro a1 w1 hJ1
  obtain ⟨⟨g1, x1, vs1, bs1, h1⟩, hmin⟩ := hM a1 w1 hJ1
  have hsim := begun_sim (W := fun t => memB t cut.W = true) (tb.invk h1.ext hinv) h1.holds h1.nodup hns h1.slots h1.size
  have he := hJ x1 y h1.tells
  unfold evLoop at he
  refine wp_mono (evCode_sound hm hΓ hsl (p := fun d => Nat.blt d N && memB d cut.W) (fun d hd => by
    simp only [Bool.and_eq_true] at hd; exact ⟨Nat.le_of_ble_eq_true hd.1, hd.2⟩) c hd hcut hsim he) ?_
  rintro e a' w' ⟨ex, s', rfl, ⟨g', μ, τ, hs⟩, e2⟩
  have hout : ∀ {ex : Ex}, ex ≠ .normal → intoEnd P tb (refsOf cut.ins) ex s' cut.outs = some y →
      OutIs (refsOf cut.ins) (fun e l r => ex.toExit = e.toExit ∧ CutLeft P tb N cut.W cut.ins g w a vs bs l r a' w') cut.outs y := fun {ex} _ h2 => by
    refine intoEnd_sound (P := P) h2 ?_
    rintro l0 o ho rfl y' z hy' hz hn'
    obtain ⟨g2, τ2, hs⟩ := hs.prep (get := vget s' s'.env) l0
    obtain ⟨c1, c2, c3, us, cs, g2, c4, c5⟩ := cut_end h1.holds h1.slots hrs' hhg (List.all_eq_true.1 hpo o ho) hs hy' hz hn'
    exact ⟨rfl, c1, c2.trans h1.defers, fun t ht => (c3 t ht).trans (h1.frame t ht), us, cs, g2, c4, left_after h1.ext h1.tch h1.rv h1.rb c5⟩
  cases ex with
  | normal =>
    simp only at e2
    split at e2
    · rename_i x' hx'
      cases hk : nodupB (idsS (backGet s' (refsOf cut.ins)) cut.ins) with
      | false => simp [hk] at e2
      | true =>
        simp only [hk, cond_true] at e2
        cases hlt : Nat.blt (m x') (m x1) with
        | false => simp [hlt] at e2
        | true =>
          simp only [hlt, cond_true] at e2
          have hlt' : m x' < m x1 := Nat.le_of_ble_eq_true hlt
          obtain ⟨bs2, k1, k2⟩ := ext_all hs (val := slotV w' a') hx' (fun q _ v hv => slot_rep' hs (backGet_get hv))
          have hnd := blk_nodup hs k2 (nodupB_iff.1 hk)
          obtain ⟨z, hz⟩ := holds_refs k1
          rw [atRefs_map (slotV w' a')] at hz
          have hst := ref_stays (a' := a') (w' := w') h1.holds h1.slots hhg fun q hq => hs.frame _ (by rw [hrs' q hq]; simp)
          obtain ⟨r1, r2⟩ := refs_same (val := slotV w' a') h1.holds h1.slots hz fun q hq => by
            obtain ⟨v, hv⟩ := at_get h1.slots q (refsOf_sub q hq)
            unfold slotV
            rw [hst q hq, hv]; rfl
          have hagain : Again P tb N cut m g w a vs bs y (m x') a' w' g' x' (cut.ins.map fun q => slotV w' a' q.1) bs2 := by
            refine ⟨rfl, e2, hs.size, hs.defers.trans h1.defers, fun t ht => (hs.frame t (by rw [ht]; simp)).trans (h1.frame t ht), at_of (fun t v hv => by obtain ⟨u, hu, _⟩ := backGet_rep hs hv; exact ⟨u, hu⟩) k2, k1, hnd, ?_, fun k hk => ?_, ?_, r2.trans h1.rb⟩
            · exact h1.ext.trans hs.ext (fun _ _ h => h) (fun b hb hd => (h1.tch b hd).resolve_left (by omega))
            · have hk' : w1.heap.size ≤ k ∨ k ∈ touched cut.ins bs1 := by
                rcases (touched_id k2 k hk).2 with ⟨j, _, hj1, hj2⟩ | ⟨j, _, hj1, hj2, hj3⟩
                · exact ((hs.tokv j hj1).2 k hj2).2.2
                · have := (hs.live j hj1).2.2.2
                  rw [hj2, hj3] at this
                  exact this.resolve_left (by simp)
              rcases hk' with c | c
              · exact .inl (Nat.le_trans h1.ext.size c)
              · exact h1.tch k c
            · rw [atRefs_map (slotV w' a'), r1]; exact h1.rv
          have hJ' : J a' w' := ⟨m x', g', x', _, bs2, hagain⟩
          refine ⟨hJ', ?_⟩
          have := (hM a' w' hJ').2 (m x') ⟨g', x', _, bs2, hagain⟩
          have := h1.meas
          omega
    · cases e2
  | exit id => exact hout (by simp) e2
  | goto l => exact hout (by simp) e2
  | ret => exact hout (by simp) e2
end Go.Ev

/- **Functions** keep their contracts. -/
namespace Go.Ev
open Go

variable {P : Program} {tb : Tab} {N : Nat} {W : Nat → Prop} {a0 : Act} {g0 : Gh} {w0 : World} {D0 : Nat → Prop}
variable {s s' s1 s2 : St tb.T} {g g' : Gh} {μ μ' : Nat → Nat} {τ τ' : Nat → Option Nat} {a a' : Act} {w w' : World}
variable {Γ : List (Nat × FSpec tb)} {Δ : List (CutSpec tb)} {R : Type}

theorem enters_of {f : Nat} {fn : Func} {c : Code} (hf : P.funcs[f]? = some fn) (hb : fn.body = some c) (hn : (fn.name == "runtime.NumGoroutine") = false) : Enters P f := fun args w => by
  have hn' : ¬ fn.name = "runtime.NumGoroutine" := by simpa using hn
  simp [callFunc, hf, hb, hn']

/-- one result's value -/
def resSem (tmps : Array Value) : ResultVar → Sem Value
  | .tmp t => pure (tmps.getD t undef)
  | .cell b t => do loadVar t (← asAddr (tmps.getD b undef))
def resValue (P : Program) (a : Act) (w : World) (r : ResultVar) : Value :=
  match (resSem a.tmps r).run P w with | .ok v _ => v | .halt .. => undef

theorem res_sound (h : SimAt P tb N W a0 g0 w0 D0 s g μ τ a w) {r : ResultVar} {v : SV tb.T} (hr : resOf P s r = some v) :
    (resSem a.tmps r).run P w = .ok (resValue P a w r) w ∧ RepV P tb g w μ τ s.tok v (resValue P a w r) := by
  have key : ∀ u, (resSem a.tmps r).run P w = .ok u w → RepV P tb g w μ τ s.tok v u → (resSem a.tmps r).run P w = .ok (resValue P a w r) w ∧ RepV P tb g w μ τ s.tok v (resValue P a w r) := fun u hu hru => by
    have : resValue P a w r = u := by unfold resValue; rw [hu]
    rw [this]; exact ⟨hu, hru⟩
  cases r with
  | tmp t =>
    obtain ⟨u, hu, hru⟩ := h.env t v hr
    refine key u ?_ hru
    simp only [resSem, Array.getD_eq_getD_getElem?, Sem.run_pure]
    rw [hu]; rfl
  | cell b t =>
    simp only [resOf] at hr
    split at hr
    · rename_i i o he
      split at hr
      · rename_i cells hb
        obtain ⟨u, hu, hru⟩ := h.env b _ he
        have hu' : u = .pointer (some ⟨μ i, o, none⟩) := hru
        subst hu'
        obtain ⟨us, el, fz, e1, e2, e3⟩ := h.blk i cells hb
        obtain ⟨u, k1, k2⟩ := run_loadVar_cells (b := μ i) (b0 := o) hr e3 (fun j u hu => by
          unfold World.cell?; simp only [e1]; simpa using hu)
        refine key u ?_ k2
        have : a.tmps.getD b undef = .pointer (some ⟨μ i, o, none⟩) := by rw [Array.getD_eq_getD_getElem?, hu]; rfl
        simp only [resSem, this]
        simpa [asAddr] using k1
      · cases hr
    · cases hr

theorem run_mapM_list {α β : Type} {f : α → Sem β} {v : α → β} : ∀ {l : List α}, (∀ x ∈ l, (f x).run P w = .ok (v x) w) → (l.mapM f).run P w = .ok (l.map v) w
  | [], _ => by simp
  | x :: l, h => by
    have ih := run_mapM_list (l := l) fun y hy => h y (by simp [hy])
    simp [List.mapM_cons, h x (by simp), ih]

def packV (us : List Value) : Value := if h : us.toArray.size = 1 then us.toArray[0] else .tuple us.toArray
theorem packV_ret : ∀ {l : LSpec} {us : List Value}, us.length = l.length → RetV l us (packV us)
  | [], [], _ => by simp [RetV, packV]
  | [_], [_], _ => by simp [RetV, packV]
  | _ :: _ :: _, _ :: _ :: _, _ => by simp [RetV, packV]
  | [], _ :: _, h => by simp at h
  | _ :: _, [], h => by simp at h
  | [_], _ :: _ :: _, h => by simp at h
  | _ :: _ :: _, [_], h => by simp at h

theorem results_eq (fn : Func) (tmps : Array Value) : results fn tmps = fn.results.mapM (resSem tmps) >>= fun vs => pure (if h : vs.size = 1 then vs[0] else .tuple vs) := by
  unfold results
  congr 1

theorem results_run {fn : Func} (h : ∀ r ∈ fn.results.toList, (resSem a.tmps r).run P w = .ok (resValue P a w r) w) {l : LSpec} (hl : l.length = fn.results.size) :
    ∃ v, (results fn a.tmps).run P w = .ok v w ∧ RetV l (fn.results.toList.map (resValue P a w)) v := by
  refine ⟨packV (fn.results.toList.map (resValue P a w)), ?_, packV_ret (by simp [hl])⟩
  rw [results_eq, Sem.run_bind, Array.mapM_eq_mapM_toList, Sem.run_map, run_mapM_list h]
  rfl

/-- the static checks of a function -/
def fnB (fn : Func) (ins outs : LSpec) (c : Code) : Bool :=
  dstsB (fun d => Nat.blt d fn.ntmps && !memB d (fixedOf ins)) c && nodupB (ins.map (·.1)) && LSpec.plainOwn outs && Nat.ble (reals ins).length fn.ntmps && hangs ins && Nat.ble (reals outs).length 32768

theorem at_mono {w : World} {base base' : Nat → Option Value} (hb : ∀ t u, t < 4294967296 → base t = some u → base' t = some u) : ∀ {l : LSpec} {vs : List Value}, At w base l vs → At w base' l vs
  | [], [], _ => trivial
  | q :: l, v :: vs, ⟨h1, h2⟩ => by
    refine ⟨?_, at_mono hb h2⟩
    unfold vval at h1 ⊢
    by_cases ht : q.1 < 4294967296
    · simp only [ht, if_true] at h1 ⊢; exact hb _ _ ht h1
    · simp only [ht, if_false] at h1 ⊢
      cases he : base (q.1 % 4294967296) with
      | none => simp [he] at h1
      | some u => rw [he] at h1; rw [hb _ u (Nat.mod_lt _ (by omega)) he]; exact h1
  | [], _ :: _, h => h.elim
  | _ :: _, [], h => h.elim

def slotsB : LSpec → Nat → Bool
  | [], _ => true
  | q :: l, k => Nat.beq q.1 k && slotsB l (k + 1)
theorem slotsB_iff : ∀ {l : LSpec} {k : Nat}, slotsB l k = true → l.map (·.1) = List.range' k l.length
  | [], _, _ => rfl
  | q :: l, k, h => by
    simp only [slotsB, Bool.and_eq_true] at h
    have := Nat.eq_of_beq_eq_true h.1
    simp [List.range'_succ, this, slotsB_iff h.2]

set_option maxRecDepth 200000 in
/-- **a function** -/
theorem fn_sound (hm : P.follows .mixedOrders = true) {f : Nat} {fn : Func} {c : Code} {sp : FSpec tb} (hf : P.funcs[f]? = some fn) (hbody : fn.body = some c) (hname : (fn.name == "runtime.NumGoroutine") = false)
    (hΓ : ∀ p ∈ Γ, FnKeeps P tb p.1 p.2) (hsl : ∀ p ∈ Γ, (reals p.2.ins).map (·.1) = List.range (reals p.2.ins).length) (hb : fnB fn sp.ins sp.outs c = true) (hin : slotsB (reals sp.ins) 0 = true) (hout : slotsB (reals sp.outs) 0 = true)
    (hcut : CutsOk P tb fn.ntmps (fun t => memB t (fixedOf sp.ins) = false) Δ c)
    (hJ : ∀ x y, sp.f x = some y → evFn P tb Γ Δ fn sp.ins sp.outs x = some y) : FnSound P tb f sp := by
  refine ⟨enters_of hf hbody hname, fun g w x vs bs y hxy hinv ha hh hn => ?_⟩
  simp only [fnB, Bool.and_eq_true] at hb
  obtain ⟨⟨⟨⟨⟨hd, hns⟩, hpo⟩, hnt⟩, hhg⟩, hno⟩ := hb
  have hnt := Nat.le_of_ble_eq_true hnt
  have hno := Nat.le_of_ble_eq_true hno
  have hvl := hh.length.1
  have hrl := realVals_length (l := sp.ins) (vs := vs) hvl
  have hin' := slotsB_iff hin
  have hout' := slotsB_iff hout
  refine calls_of_wp hf hbody ?_
  generalize hargs : realVals sp.ins vs = args at ha hrl ⊢
  have hi : InSlots { tmps := args.toArray ++ Array.replicate (fn.ntmps - args.toArray.size) undef, defers := ([] : List Deferred) } w sp.ins vs := by
    refine at_mono (fun t u _ hu => ?_) ha
    have hlt := (List.getElem?_eq_some_iff.1 hu).1
    rw [Array.getElem?_append_left (by simpa using hlt)]
    simpa using hu
  have hN : (args.toArray ++ Array.replicate (fn.ntmps - args.toArray.size) undef).size = fn.ntmps := by simp; omega
  have hsim := begun_sim (W := fun t => memB t (fixedOf sp.ins) = false) hinv hh hn hns hi hN
  have he := hJ x y hxy
  unfold evFn at he
  rw [hbody] at he
  simp only at he
  refine wp_mono (evCode_sound hm hΓ hsl (p := fun d => Nat.blt d fn.ntmps && !memB d (fixedOf sp.ins)) (fun d hd => by
    simp only [Bool.and_eq_true, Bool.not_eq_true'] at hd; exact ⟨Nat.le_of_ble_eq_true hd.1, hd.2⟩) c hd hcut hsim he) ?_
  rintro e a' w' ⟨ex, s', rfl, ⟨g', μ, τ, hs⟩, h2⟩
  have hfix : ∀ q ∈ refsOf sp.ins, ¬ memB (q.1 % 4294967296) (fixedOf sp.ins) = false := fun q hq => by
    have : memB (q.1 % 4294967296) (fixedOf sp.ins) = true := memB_iff.2 (List.mem_map.2 ⟨q, hq, rfl⟩)
    rw [this]; simp
  have hret : ∀ s', (∃ g' μ τ, SimAt P tb fn.ntmps (fun t => memB t (fixedOf sp.ins) = false) { tmps := args.toArray ++ Array.replicate (fn.ntmps - args.toArray.size) undef, defers := ([] : List Deferred) } g w (fun b => b ∈ touched sp.ins bs) s' g' μ τ a' w') → retOf P tb fn.results sp.outs (refsOf sp.ins) s' = some y → a'.defers = [] ∧ ∃ v, (results fn a'.tmps).run P w' = .ok v w' ∧ ∃ v2 us cs g2, Ending.returned v = .returned v2 ∧ RetV (reals sp.outs) (realVals sp.outs us) v2 ∧ At w' (outAt (realVals sp.outs us) args) sp.outs us ∧ Left P tb g w sp.ins sp.outs vs bs y us cs g2 w' := fun s' ⟨g', μ, τ, hs⟩ h2 => by
    unfold retOf at h2
    cases hk : (nodupB (idsS (vget s' (resGet P fn.results s' (refsOf sp.ins))) sp.outs ++ idsS (backGet s' (refsOf sp.ins)) (refsOf sp.ins)) && Nat.beq (reals sp.outs).length fn.results.size) with
    | false => simp [hk] at h2
    | true =>
      simp only [hk, cond_true] at h2
      simp only [Bool.and_eq_true] at hk
      have hol := Nat.eq_of_beq_eq_true hk.2
      split at h2
      · rename_i yo hyo
        split at h2
        · rename_i z hz
          simp only [Option.some.injEq] at h2; subst h2
          have hres : ∀ i v, resAt P fn.results s' i = some v → ∃ r, fn.results[i]? = some r ∧ resOf P s' r = some v := fun i v hv => by
            unfold resAt at hv
            cases hr : fn.results[i]? with
            | none => simp [hr] at hv
            | some r => exact ⟨r, rfl, by simpa [hr] using hv⟩
          -- every result is there
          have hsome : ∀ {get : Nat → Option (SV tb.T)} {l : LSpec} {x : XS tb l}, extS P tb s' get l = some x → ∀ q ∈ l, ∃ v, get q.1 = some v := by
            intro get l
            induction l with
            | nil => intro x _ q hq; simp at hq
            | cons p l ih =>
              intro x hx q hq
              cases l with
              | nil =>
                simp only [extS] at hx
                simp at hq; subst hq
                cases hg : get q.1 with
                | none => simp [hg] at hx
                | some v => exact ⟨v, rfl⟩
              | cons p' l =>
                simp only [extS] at hx
                cases hg : get p.1 with
                | none => simp [hg] at hx
                | some v =>
                  simp only [hg] at hx
                  cases hp : extP P tb s' p.2 v with
                  | none => simp [hp] at hx
                  | some x1 =>
                    simp only [hp] at hx
                    cases hs2 : extS P tb s' get (p' :: l) with
                    | none => simp [hs2] at hx
                    | some xs =>
                      rcases List.mem_cons.1 hq with e | hq
                      · subst e; exact ⟨v, hg⟩
                      · exact ih hs2 q hq
          have hall : ∀ r ∈ fn.results.toList, ∃ v, resOf P s' r = some v := fun r hr => by
            obtain ⟨i, hi, hri⟩ := List.getElem_of_mem hr
            have hi' : i < (reals sp.outs).length := by rw [hol]; simpa using hi
            have hmem : i ∈ (reals sp.outs).map (·.1) := by rw [hout']; simp [List.mem_range'_1, hi']
            obtain ⟨q, hq, rfl⟩ := List.mem_map.1 hmem
            simp only [reals, List.mem_filter] at hq
            obtain ⟨v, hv⟩ := hsome hyo q hq.1
            have hlt := vreal_iff.1 hq.2
            have hv : resGet P fn.results s' (refsOf sp.ins) q.1 = some v := by
              unfold vget at hv
              rw [show Nat.blt q.1 4294967296 = true from hq.2] at hv
              exact hv
            unfold resGet at hv
            rw [show Nat.blt q.1 32768 = true from Nat.ble_eq_true_of_le (by omega)] at hv
            obtain ⟨r', h3, h4⟩ := hres _ _ hv
            have : fn.results[q.1]? = some r := by
              rw [← Array.getElem?_toList, List.getElem?_eq_getElem hi, hri]
            rw [this] at h3; simp only [Option.some.injEq] at h3; subst h3
            exact ⟨v, h4⟩
          have hrun : ∀ r ∈ fn.results.toList, (resSem a'.tmps r).run P w' = .ok (resValue P a' w' r) w' := fun r hr => by
            obtain ⟨v, hv⟩ := hall r hr
            exact (res_sound hs hv).1
          obtain ⟨v, hv, hrv⟩ := results_run (P := P) (a := a') (w := w') (fn := fn) hrun hol
          generalize hR : fn.results.toList.map (resValue P a' w') = R at hrv
          have hRlen : R.length = (reals sp.outs).length := by rw [← hR, hol]; simp
          have hback : ∀ p v, (bif vreal p && memB p ((refsOf sp.ins).map (·.1)) then backGet s' (refsOf sp.ins) p else none) = some v → ∃ u, args[p]? = some u ∧ RepV P tb g' w' μ τ s'.tok v u := fun p v hv => by
            cases hc : (vreal p && memB p ((refsOf sp.ins).map (·.1))) with
            | false => simp [hc] at hv
            | true =>
              simp only [hc, cond_true] at hv
              simp only [Bool.and_eq_true] at hc
              have hreal := vreal_iff.1 hc.1
              obtain ⟨u, hu, hru⟩ := backGet_rep hs hv
              rw [vval_real hreal] at hu
              obtain ⟨q, hq, hqt⟩ := List.mem_map.1 (memB_iff.1 hc.2)
              have hq1 : q.1 % 4294967296 = p := by rw [hqt]; exact Nat.mod_eq_of_lt hreal
              have hfr := hs.frame p (by rw [← hq1]; exact hfix q hq)
              obtain ⟨u', hu'⟩ := at_get ha q (refsOf_sub q hq)
              rw [hqt, vval_real hreal] at hu'
              have hlt' := (List.getElem?_eq_some_iff.1 hu').1
              rw [Array.getElem?_append_left (by simpa using hlt')] at hfr
              refine ⟨u, ?_, hru⟩
              rw [← hu, hfr]
              simp
          have hbase : ∀ t v, t < 4294967296 → resGet P fn.results s' (refsOf sp.ins) t = some v → ∃ u, outAt R args t = some u ∧ RepV P tb g' w' μ τ s'.tok v u := fun t v _ hv => by
            unfold resGet at hv
            unfold outAt
            by_cases hlt : t < 32768
            · rw [show Nat.blt t 32768 = true from Nat.ble_eq_true_of_le hlt] at hv
              obtain ⟨r, h3, h4⟩ := hres _ _ hv
              refine ⟨resValue P a' w' r, ?_, (res_sound hs h4).2⟩
              rw [if_pos hlt, ← hR, List.getElem?_map, Array.getElem?_toList, h3]; rfl
            · have : Nat.blt t 32768 = false := by
                cases hb : Nat.blt t 32768 with
                | false => rfl
                | true => exact absurd (Nat.le_of_ble_eq_true hb) hlt
              rw [this] at hv
              simp only [cond_false] at hv
              rw [if_neg hlt]
              exact hback (t - 32768) v hv
          have hrep : ∀ t v, vget s' (resGet P fn.results s' (refsOf sp.ins)) t = some v → ∃ u, vval w' (outAt R args) t = some u ∧ RepV P tb g' w' μ τ s'.tok v u := fun t v hv => vget_rep hs hbase hv
          obtain ⟨cs, hl, hbl⟩ := end_left (val := fun i => (vval w' (outAt R args) i).getD undef) hh hi hfix hhg hpo hs hyo (fun q hq v hv => by
              obtain ⟨u, hu, hru⟩ := hrep _ _ hv
              rw [hu]; exact hru) hz hk.1
          have hat := at_of (base := outAt R args) (fun t v hv => by obtain ⟨u, hu, _⟩ := hrep t v hv; exact ⟨u, hu⟩) hbl
          have hmap : realVals sp.outs (sp.outs.map fun q => (vval w' (outAt R args) q.1).getD undef) = R := by
            rw [realVals_map (fun i => (vval w' (outAt R args) i).getD undef)]
            have e1 : ((reals sp.outs).map fun q => (vval w' (outAt R args) q.1).getD undef) = ((reals sp.outs).map (·.1)).map fun i => R.getD i undef := by
              rw [List.map_map]
              refine List.map_congr_left fun q hq => ?_
              have hq1 : q.1 < 32768 := by
                have : q.1 ∈ (reals sp.outs).map (·.1) := List.mem_map_of_mem hq
                rw [hout'] at this
                simp [List.mem_range'_1] at this
                omega
              rw [vval_real (by omega)]
              simp [outAt, hq1, List.getD_eq_getElem?_getD]
            rw [e1, hout', ← hRlen]
            apply List.ext_getElem?
            intro i
            rcases Nat.lt_or_ge i R.length with c | c
            · simp [c]
            · simp [c]
          refine ⟨hs.defers, v, hv, v, _, cs, g', rfl, ?_, ?_, hl⟩
          · rw [hmap]; exact hrv
          · rw [hmap]; exact hat
        · cases h2
      · cases h2
  cases ex with
  | normal => exact hret _ (by obtain ⟨g2, τ2, hs2⟩ := hs.prep (get := vget s' (resGet P fn.results s' (refsOf sp.ins))) sp.outs; exact ⟨g2, μ, τ2, hs2⟩) h2
  | ret => exact hret _ (by obtain ⟨g2, τ2, hs2⟩ := hs.prep (get := vget s' (resGet P fn.results s' (refsOf sp.ins))) sp.outs; exact ⟨g2, μ, τ2, hs2⟩) h2
  | exit id => simp at h2
  | goto l => simp at h2

/-- a function that calls itself: by a measure -/
theorem fn_rec {f : Nat} {sp : FSpec tb} (m : XS tb sp.ins → Nat) (hent : Enters P f)
    (h : ∀ n, FnSound P tb f { sp with f := fun x => bif Nat.blt (m x) n then sp.f x else none } → FnSound P tb f { sp with f := fun x => bif Nat.blt (m x) (n + 1) then sp.f x else none }) : FnSound P tb f sp := by
  have key : ∀ n, FnSound P tb f { sp with f := fun x => bif Nat.blt (m x) n then sp.f x else none } := fun n => by
    induction n with
    | zero => exact ⟨hent, fun g w x vs bs y hy _ _ => by
        have : Nat.blt (m x) 0 = false := by
          cases hb : Nat.blt (m x) 0 with
          | false => rfl
          | true => exact absurd (Nat.le_of_ble_eq_true hb) (by omega)
        simp only [this, cond_false, reduceCtorEq] at hy⟩
    | succ n ih => exact h n ih
  refine ⟨hent, fun g w x vs bs y hy hinv ha hh hn => ?_⟩
  refine (key (m x + 1)).2 g w x vs bs y ?_ hinv ha hh hn
  have : Nat.blt (m x) (m x + 1) = true := Nat.ble_eq_true_of_le (Nat.le_refl _)
  simp only [this, cond_true]
  exact hy
end Go.Ev

/- Contracts of functions, all checks in one. -/
namespace Go.Ev
open Go

variable {P : Program} {tb : Tab} {N : Nat} {W : Nat → Prop}
variable {Γ : List (Nat × FSpec tb)} {Δ : List (CutSpec tb)}

theorem cuts_nil {S : Code → CutSpec tb → Prop} : ∀ c : Code, CutsIn ([] : List (CutSpec tb)) S c := by
  intro c
  induction c with
  | seq a b iha ihb => unfold CutsIn; exact ⟨iha, ihb⟩
  | cond x a b iha ihb => unfold CutsIn; exact ⟨iha, ihb⟩
  | block id b ih => unfold CutsIn; exact ih
  | scope b ih => unfold CutsIn; exact ih
  | _ => unfold CutsIn; trivial

/-- the topmost cuts of a piece of code -/
def cutsOf (Δ : List (CutSpec tb)) (c : Code) : List (Nat × Code) :=
  match findCut Δ (keyOf c) with
  | some _ => [(keyOf c, c)]
  | none => match c with
    | .seq a b => cutsOf Δ a ++ cutsOf Δ b
    | .cond _ a b => cutsOf Δ a ++ cutsOf Δ b
    | .block _ b => cutsOf Δ b
    | .scope b => cutsOf Δ b
    | _ => []
theorem cuts_of {S : Code → CutSpec tb → Prop} : ∀ c : Code, (∀ q ∈ cutsOf Δ c, ∀ cut, findCut Δ q.1 = some cut → S q.2 cut) → CutsIn Δ S c := by
  have hd : ∀ c : Code, (∀ q ∈ cutsOf Δ c, ∀ cut, findCut Δ q.1 = some cut → S q.2 cut) → ∀ cut, findCut Δ (keyOf c) = some cut → S c cut := fun c h cut hc => by
    have : cutsOf Δ c = [(keyOf c, c)] := by unfold cutsOf; rw [hc]
    exact h (keyOf c, c) (by rw [this]; simp) cut hc
  intro c
  induction c with
  | seq a b iha ihb =>
    intro h
    unfold CutsIn
    split
    · rename_i cut hc; exact hd _ h cut hc
    · rename_i hc
      unfold cutsOf at h; rw [hc] at h
      exact ⟨iha fun q hq => h q (by simp [hq]), ihb fun q hq => h q (by simp [hq])⟩
  | cond x a b iha ihb =>
    intro h
    unfold CutsIn
    split
    · rename_i cut hc; exact hd _ h cut hc
    · rename_i hc
      unfold cutsOf at h; rw [hc] at h
      exact ⟨iha fun q hq => h q (by simp [hq]), ihb fun q hq => h q (by simp [hq])⟩
  | block id b ih =>
    intro h
    unfold CutsIn
    split
    · rename_i cut hc; exact hd _ h cut hc
    · rename_i hc
      unfold cutsOf at h; rw [hc] at h
      exact ih h
  | scope b ih =>
    intro h
    unfold CutsIn
    split
    · rename_i cut hc; exact hd _ h cut hc
    · rename_i hc
      unfold cutsOf at h; rw [hc] at h
      exact ih h
  | _ =>
    intro h
    unfold CutsIn
    split
    · rename_i cut hc; exact hd _ h cut hc
    · trivial

def bodyOf (fn : Func) : Code := match fn.body with | some c => c | none => .skip
def fnK (fn : Func) (ins outs : LSpec) : Bool := fn.body.isSome && !(fn.name == "runtime.NumGoroutine") && fnB fn ins outs (bodyOf fn) && slotsB (reals ins) 0 && slotsB (reals outs) 0
def slotsAll (Γ : List (Nat × FSpec tb)) : Bool := Γ.all fun p => slotsB (reals p.2.ins) 0
theorem slotsAll_get (h : slotsAll Γ = true) : ∀ p ∈ Γ, (reals p.2.ins).map (·.1) = List.range (reals p.2.ins).length := fun p hp => by
  rw [slotsB_iff (List.all_eq_true.1 h p hp), List.range_eq_range']

/-- every function of a list keeps its contract -/
def AllSound (P : Program) (tb : Tab) (Γ : List (Nat × FSpec tb)) : Prop := ∀ p ∈ Γ, FnKeeps P tb p.1 p.2
theorem AllSound.nil : AllSound P tb [] := fun _ h => absurd h (by simp)
theorem AllSound.consK {f : Nat} {sp : FSpec tb} (h : FnKeeps P tb f sp) (k : AllSound P tb Γ) : AllSound P tb ((f, sp) :: Γ) := fun p hp => by
  rcases List.mem_cons.1 hp with rfl | hp
  · exact h
  · exact k p hp
theorem AllSound.cons {f : Nat} {sp : FSpec tb} (h : FnSound P tb f sp) (k : AllSound P tb Γ) : AllSound P tb ((f, sp) :: Γ) := .consK h.keeps k

/-- no function's number: it tells that what a slot is given is an array that is written to -/
def mutS : FSpec tb := ⟨[], [], fun _ => none⟩
theorem mut_sound {f : Nat} : FnKeeps P tb f (mutS (tb := tb)) := fun _ _ _ _ _ _ h => by simp [mutS] at h

/-- cuts of a list keep their contracts -/
def AllCuts (P : Program) (tb : Tab) (N : Nat) (ok : Nat → Bool) (Δ : List (CutSpec tb)) (L : List (Nat × Code)) : Prop := ∀ q ∈ L, ∀ cut, findCut Δ q.1 = some cut → CutSound P tb N q.2 cut ∧ cut.W.all ok = true
theorem AllCuts.nil {ok : Nat → Bool} : AllCuts P tb N ok Δ [] := fun _ h => absurd h (by simp)
theorem AllCuts.cons {ok : Nat → Bool} {k : Nat} {c : Code} {L : List (Nat × Code)} {cut : CutSpec tb} (hf : findCut Δ k = some cut) (hs : CutSound P tb N c cut) (hW : cut.W.all ok = true) (h : AllCuts P tb N ok Δ L) : AllCuts P tb N ok Δ ((k, c) :: L) := fun q hq cut' hc => by
  rcases List.mem_cons.1 hq with rfl | hq
  · rw [hf] at hc; simp only [Option.some.injEq] at hc; subst hc; exact ⟨hs, hW⟩
  · exact h q hq cut' hc

/-- the code of a loop, of a piece, by its key -/
def findKey (k : Nat) (c : Code) : Option Code :=
  bif Nat.beq (keyOf c) k then some c else match c with
    | .seq a b => match findKey k a with | some x => some x | none => findKey k b
    | .cond _ a b => match findKey k a with | some x => some x | none => findKey k b
    | .block _ b => findKey k b
    | .loop b => findKey k b
    | .scope b => findKey k b
    | _ => none
def loopAt (k : Nat) (fn : Func) : Code := match findKey k (bodyOf fn) with | some (.loop b) => b | _ => .skip
def codeAt (k : Nat) (fn : Func) : Code := match findKey k (bodyOf fn) with | some c => c | _ => .skip

/-- a function, with cuts -/
theorem fn_cut (hm : P.follows .mixedOrders = true) {f : Nat} {fn : Func} {sp : FSpec tb} (hf : P.funcs[f]? = some fn) (hk : fnK fn sp.ins sp.outs = true) (hΓ : AllSound P tb Γ) (hsl : slotsAll Γ = true)
    {L : List (Nat × Code)} (hc : cutsOf Δ (bodyOf fn) = L) (hL : AllCuts P tb fn.ntmps (fun t => !memB t (fixedOf sp.ins)) Δ L)
    (hJ : ∀ x, evFn P tb Γ Δ fn sp.ins sp.outs x = sp.f x) : FnSound P tb f sp := by
  simp only [fnK, Bool.and_eq_true, Bool.not_eq_true'] at hk
  obtain ⟨⟨⟨⟨h1, h2⟩, h3⟩, h4⟩, h5⟩ := hk
  have hb : fn.body = some (bodyOf fn) := by
    unfold bodyOf
    cases hb : fn.body with
    | none => rw [hb] at h1; cases h1
    | some c => rfl
  refine fn_sound hm hf hb h2 hΓ (slotsAll_get hsl) h3 h4 h5 (cuts_of _ fun q hq cut hcut => ?_) fun x y h => (hJ x).trans h
  rw [hc] at hq
  obtain ⟨k1, k2⟩ := hL q hq cut hcut
  refine ⟨k1, fun t ht => ?_⟩
  have := List.all_eq_true.1 k2 t (memB_iff.1 ht)
  simpa using this
/-- a function without -/
theorem fn_ev (hm : P.follows .mixedOrders = true) {f : Nat} {fn : Func} {sp : FSpec tb} (hf : P.funcs[f]? = some fn) (hk : fnK fn sp.ins sp.outs = true) (hΓ : AllSound P tb Γ) (hsl : slotsAll Γ = true)
    (hJ : ∀ x, evFn P tb Γ [] fn sp.ins sp.outs x = sp.f x) : FnSound P tb f sp := by
  simp only [fnK, Bool.and_eq_true, Bool.not_eq_true'] at hk
  obtain ⟨⟨⟨⟨h1, h2⟩, h3⟩, h4⟩, h5⟩ := hk
  have hb : fn.body = some (bodyOf fn) := by
    unfold bodyOf
    cases hb : fn.body with
    | none => rw [hb] at h1; cases h1
    | some c => rfl
  exact fn_sound hm hf hb h2 hΓ (slotsAll_get hsl) h3 h4 h5 (cuts_nil _) fun x y h => (hJ x).trans h

/-- a loop -/
theorem loop_ev (hm : P.follows .mixedOrders = true) {c : Code} {cut : CutSpec tb} (hb : cutB N cut c = true) (hΓ : AllSound P tb Γ) (hsl : slotsAll Γ = true)
    {L : List (Nat × Code)} (hc : cutsOf Δ c = L) (hL : AllCuts P tb N (fun t => memB t cut.W) Δ L)
    (F : (XS tb cut.ins → Option (Outs tb (refsOf cut.ins) cut.outs)) → XS tb cut.ins → Option (Outs tb (refsOf cut.ins) cut.outs)) (hF : ∀ back x, evLoop P tb Γ Δ c cut.ins cut.outs back x = F back x)
    (m : XS tb cut.ins → Nat) (hJ : ∀ x y, cut.J x = some y → F (fun x' => bif Nat.blt (m x') (m x) then cut.J x' else none) x = some y) : CutSound P tb N (.loop c) cut := by
  refine loop_sound hm hΓ (slotsAll_get hsl) hb (cuts_of _ fun q hq cut' hcut => ?_) m fun x y h => (hF _ x).trans (hJ x y h)
  rw [hc] at hq
  obtain ⟨k1, k2⟩ := hL q hq cut' hcut
  exact ⟨k1, fun t ht => List.all_eq_true.1 k2 t (memB_iff.1 ht)⟩
/-- a piece of code -/
theorem blk_ev (hm : P.follows .mixedOrders = true) {c : Code} {cut : CutSpec tb} (hb : cutB N cut c = true) (hΓ : AllSound P tb Γ) (hsl : slotsAll Γ = true)
    {L : List (Nat × Code)} (hc : cutsOf Δ c = L) (hL : AllCuts P tb N (fun t => memB t cut.W) Δ L) (hJ : ∀ x, evBlk P tb Γ Δ c cut.ins cut.outs x = cut.J x) : CutSound P tb N c cut := by
  refine blk_sound hm hΓ (slotsAll_get hsl) hb (cuts_of _ fun q hq cut' hcut => ?_) fun x y h => (hJ x).trans h
  rw [hc] at hq
  obtain ⟨k1, k2⟩ := hL q hq cut' hcut
  exact ⟨k1, fun t ht => List.all_eq_true.1 k2 t (memB_iff.1 ht)⟩

/-- a result's part that is owned, told as a plain one -/
theorem FnSound.drop1 {f : Nat} {ins : LSpec} {q o : Nat × Pat} {l : LSpec} {F : XS tb ins → Option (Ret tb (q :: o :: l) (refsOf ins))} {G : XS tb ins → Option (Ret tb (o :: l) (refsOf ins))}
    (h : FnSound P tb f ⟨ins, q :: o :: l, F⟩) (hq : vreal q.1 = false) (hG : ∀ x y, G x = some y → ∃ z, F x = some z ∧ y.outs = z.outs.2 ∧ y.refs = z.refs) : FnSound P tb f ⟨ins, o :: l, G⟩ := by
  refine ⟨h.1, fun g w x vs bs y hy hinv hat hh hn => ?_⟩
  obtain ⟨z, hz, e1, e2⟩ := hG x y hy
  refine (h.2 g w x vs bs z hz hinv hat hh hn).mono ?_
  rintro e w' ⟨v, us, cs, g', he, hr, ha, hx, ho, hrf, hnd, hk⟩
  obtain ⟨u, us', c, cs', rfl, rfl⟩ := holds_cons_inv ho
  have r1 : reals (q :: o :: l) = reals (o :: l) := by simp [reals, List.filter_cons, hq]
  have r2 : realVals (q :: o :: l) (u :: us') = realVals (o :: l) us' := by simp [realVals, hq]
  rw [r1, r2] at hr
  rw [r2] at ha
  have hsub : ∀ k, k ∈ blocksOf cs' → k ∈ blocksOf (c :: cs') := fun k hk => mem_blocks_cons.2 (.inr hk)
  exact ⟨v, us', cs', g', he, hr, ha.2, hx, by rw [e1]; exact ho.2, by rw [e2]; exact hrf, (nodup_blocks_cons hnd).1, fun k hk' => hk k (hsub k hk')⟩
end Go.Ev

/- Contracts of Go's library, taken over. -/
namespace Go.Ev
open Go

variable {P : Program} {tb : Tab}

/-- new blocks behind the heap, draws: nothing else -/
def Grows (w w' : World) : Prop := w'.os = w.os ∧ w'.tape = w.tape ∧ w'.output = w.output ∧ w.heap.size ≤ w'.heap.size ∧ ∀ b, b < w.heap.size → w'.heap[b]? = w.heap[b]?

theorem Grows.ext {w w' : World} (h : Grows w w') (g : Gh) (D : Nat → Prop) : Ext g w (fun b => if b < w.heap.size then g b else .con) w' D := by
  obtain ⟨h1, h2, h3, h4, h5⟩ := h
  have e : ∀ b, b < w.heap.size → (if b < w.heap.size then g b else BK.con) = g b := fun b hb => if_pos hb
  refine ⟨h1, h2, h3, h4, fun b hb _ => ⟨h5 b hb, e b hb⟩, fun b hb hg => ⟨h5 b hb, (e b hb).trans hg⟩, fun b n hb hg => ⟨n, Nat.le_refl _, (e b hb).trans hg, fun i _ => cell_of_block (h5 b hb)⟩, Shp.old h5⟩

/-- arguments, results: nothing stands behind them -/
def plainB (ins outs : LSpec) : Bool := slotsB ins 0 && slotsB outs 0 && allReal ins && allReal outs && Nat.ble outs.length 32768
theorem at_plain {w : World} : ∀ {l : LSpec} {vs : List Value} (k : Nat) {base : Nat → Option Value}, slotsB l k = true → allReal l = true → l.length = vs.length → (∀ i, base (k + i) = vs[i]?) → At w base l vs
  | [], [], _, _, _, _, _, _ => trivial
  | q :: l, v :: vs, k, base, h, hr, hl, hb => by
    simp only [slotsB, Bool.and_eq_true] at h
    simp only [allReal, List.all_cons, Bool.and_eq_true] at hr
    have hq := Nat.eq_of_beq_eq_true h.1
    refine ⟨?_, at_plain (k + 1) h.2 hr.2 (by simpa using hl) fun i => ?_⟩
    · rw [vval_real (vreal_iff.1 hr.1), hq]
      have := hb 0
      simpa using this
    · have := hb (i + 1)
      rw [show k + (i + 1) = k + 1 + i by omega] at this
      simpa using this
  | [], _ :: _, _, _, _, _, h, _ => by simp at h
  | _ :: _, [], _, _, _, _, h, _ => by simp at h
theorem plain_ins {ins outs : LSpec} {vs : List Value} (h : plainB ins outs = true) (hl : ins.length = vs.length) : realVals ins vs = vs := by
  simp only [plainB, Bool.and_eq_true] at h
  exact realVals_all h.1.1.2 hl
theorem plain_at {w : World} {ins outs : LSpec} {vs : List Value} (h : plainB ins outs = true) (hl : ins.length = vs.length) : At w (fun i => (realVals ins vs)[i]?) ins vs := by
  rw [plain_ins h hl]
  simp only [plainB, Bool.and_eq_true] at h
  exact at_plain 0 h.1.1.1.1 h.1.1.2 hl fun i => by simp
theorem plain_outs {ins outs : LSpec} {us : List Value} (h : plainB ins outs = true) (hl : outs.length = us.length) : reals outs = outs ∧ realVals outs us = us := by
  simp only [plainB, Bool.and_eq_true] at h
  exact ⟨reals_all h.1.2, realVals_all h.1.2 hl⟩
theorem plain_out_at {w : World} {ins outs : LSpec} {us args : List Value} (h : plainB ins outs = true) (hl : outs.length = us.length) : At w (outAt (realVals outs us) args) outs us := by
  rw [(plain_outs h hl).2]
  have h' := h
  simp only [plainB, Bool.and_eq_true] at h
  have hle := Nat.le_of_ble_eq_true h.2
  -- behind the last result stands nothing that is asked
  have key : ∀ {l : LSpec} {vs : List Value} (k : Nat), slotsB l k = true → allReal l = true → l.length = vs.length → (∀ i, i < vs.length → us[k + i]? = vs[i]?) → k + vs.length ≤ 32768 → At w (outAt us args) l vs := by
    intro l
    induction l with
    | nil => intro vs k _ _ hl _ _; cases vs with
      | nil => trivial
      | cons _ _ => simp at hl
    | cons q l ih =>
      intro vs k h hr hl hb hk
      cases vs with
      | nil => simp at hl
      | cons v vs =>
        simp only [slotsB, Bool.and_eq_true] at h
        simp only [allReal, List.all_cons, Bool.and_eq_true] at hr
        simp only [List.length_cons] at hk
        have hq := Nat.eq_of_beq_eq_true h.1
        refine ⟨?_, ih (k + 1) h.2 hr.2 (by simpa using hl) (fun i hi => ?_) (by omega)⟩
        · rw [vval_real (vreal_iff.1 hr.1), hq]
          have := hb 0 (by simp)
          simp only [outAt, show k < 32768 by omega, if_true]
          simpa using this
        · have := hb (i + 1) (by simpa using hi)
          rw [show k + (i + 1) = k + 1 + i by omega] at this
          simpa using this
  exact key 0 h.1.1.1.2 h.1.2 hl (fun i _ => by simp) (by omega)

/-- a function of plain values, one result that is no slice -/
theorem fn_lib1 {f : Nat} {sp : FSpec tb} (e : Nat) (hent : Enters P f) (hout : sp.outs = [(0, .val e)]) (hin : refsOf sp.ins = [])
    (h : ∀ (g : Gh) (w : World) (x : XS tb sp.ins) (vs : List Value) (bs : List (Option Nat)) (y : Ret tb sp.outs (refsOf sp.ins)), sp.f x = some y → tb.inv g w → HoldsL P tb g w sp.ins x vs bs →
      ∃ v, (∀ g w, HoldsL P tb g w sp.outs y.outs [v] [none]) ∧ Calls P f vs.toArray w fun r w' => r = .returned v ∧ Grows w w') (hpl : plainB sp.ins sp.outs = true := by rfl) : FnSound P tb f sp := by
  refine ⟨hent, fun g w x vs bs y hy hinv ha hh hn => ?_⟩
  obtain ⟨v, hv, hc⟩ := h g w x vs bs y hy hinv hh
  rw [plain_ins hpl hh.length.1]
  refine Calls.mono hc ?_
  rintro r w' ⟨rfl, hg⟩
  have hol : sp.outs.length = [v].length := by rw [hout]; rfl
  refine ⟨v, [v], [none], _, rfl, by rw [(plain_outs hpl hol).1, (plain_outs hpl hol).2, hout]; rfl, plain_out_at hpl hol, hg.ext g _, hv _ _, ?_, by simp [blocksOf], by simp [blocksOf]⟩
  have e1 : ∀ {α : Type} (l : LSpec) (us : List α), refsOf l = [] → l.length = us.length → atRefs l us = [] := by
    intro α l
    induction l with
    | nil => intro us _ _; rfl
    | cons q l ih =>
      intro us hr hl
      cases us with
      | nil => simp at hl
      | cons u us =>
        simp only [refsOf] at hr
        cases hq : q.2.isRef with
        | true => simp [hq] at hr
        | false =>
          simp only [hq, cond_false] at hr
          simp only [atRefs, hq, cond_false]
          exact ih us hr (by simpa using hl)
  rw [e1 _ _ hin hh.length.1, e1 _ _ hin hh.length.2]
  generalize y.refs = z
  revert z
  rw [hin]
  intro z
  trivial

theorem atRefs_none {α : Type} : ∀ (l : LSpec) (us : List α), refsOf l = [] → l.length = us.length → atRefs l us = []
  | [], us, _, _ => rfl
  | q :: l, [], _, hl => by simp at hl
  | q :: l, u :: us, hr, hl => by
    simp only [refsOf] at hr
    cases hq : q.2.isRef with
    | true => simp [hq] at hr
    | false =>
      simp only [hq, cond_false] at hr
      simp only [atRefs, hq, cond_false]
      exact atRefs_none l us hr (by simpa using hl)
theorem blocks_nones {α : Type} (us : List α) : blocksOf (us.map fun _ => (none : Option Nat)) = [] := by induction us <;> simp_all [blocksOf]
theorem left_plain {w w' : World} {g : Gh} {sp : FSpec tb} {x : XS tb sp.ins} {vs : List Value} {bs : List (Option Nat)} {y : Ret tb sp.outs (refsOf sp.ins)} {us : List Value} (hin : refsOf sp.ins = []) (hh : HoldsL P tb g w sp.ins x vs bs) (hg : Grows w w')
    (hv : ∀ g w, HoldsL P tb g w sp.outs y.outs us (us.map fun _ => none)) : ∃ g', Left P tb g w sp.ins sp.outs vs bs y us (us.map fun _ => none) g' w' := by
  refine ⟨_, hg.ext g _, hv _ _, ?_, by rw [blocks_nones]; exact List.nodup_nil, by rw [blocks_nones]; simp⟩
  rw [atRefs_none _ _ hin hh.length.1, atRefs_none _ _ hin hh.length.2]
  generalize y.refs = z
  revert z
  rw [hin]
  intro z
  trivial
/-- a function of plain values, plain results -/
theorem fn_libN {f : Nat} {sp : FSpec tb} (hent : Enters P f) (hin : refsOf sp.ins = [])
    (h : ∀ (g : Gh) (w : World) (x : XS tb sp.ins) (vs : List Value) (bs : List (Option Nat)) (y : Ret tb sp.outs (refsOf sp.ins)), sp.f x = some y → tb.inv g w → HoldsL P tb g w sp.ins x vs bs →
      ∃ v us, RetV sp.outs us v ∧ (∀ g w, HoldsL P tb g w sp.outs y.outs us (us.map fun _ => none)) ∧ Calls P f vs.toArray w fun r w' => r = .returned v ∧ Grows w w') (hpl : plainB sp.ins sp.outs = true := by rfl) : FnSound P tb f sp := by
  refine ⟨hent, fun g w x vs bs y hy hinv _ hh _ => ?_⟩
  obtain ⟨v, us, hr, hv, hc⟩ := h g w x vs bs y hy hinv hh
  rw [plain_ins hpl hh.length.1]
  refine Calls.mono hc ?_
  rintro r w' ⟨rfl, hg⟩
  obtain ⟨g', hl⟩ := left_plain hin hh hg hv
  have hol := (hv g w).length.1
  exact ⟨v, us, _, g', rfl, by rw [(plain_outs hpl hol).1, (plain_outs hpl hol).2]; exact hr, plain_out_at hpl hol, hl⟩
theorem Grows.refl (w : World) : Grows w w := ⟨rfl, rfl, rfl, Nat.le_refl _, fun _ _ => rfl⟩
/-- a function that the model answers at once -/
theorem fn_at_once {f : Nat} {sp : FSpec tb} (hin : refsOf sp.ins = [])
    (h : ∀ (g : Gh) (w : World) (x : XS tb sp.ins) (vs : List Value) (bs : List (Option Nat)) (y : Ret tb sp.outs (refsOf sp.ins)), sp.f x = some y → tb.inv g w → HoldsL P tb g w sp.ins x vs bs →
      ∃ v us, RetV sp.outs us v ∧ (∀ g w, HoldsL P tb g w sp.outs y.outs us (us.map fun _ => none)) ∧ (callFunc f vs.toArray).run P w = .ok (.value v) w) (hpl : plainB sp.ins sp.outs = true := by rfl) : FnKeeps P tb f sp := by
  intro g w x vs bs y hy hinv _ hh _
  obtain ⟨v, us, hr, hv, hc⟩ := h g w x vs bs y hy hinv hh
  obtain ⟨g', hl⟩ := left_plain hin hh (Grows.refl w) hv
  have hol := (hv g w).length.1
  rw [plain_ins hpl hh.length.1]
  exact .inr ⟨v, w, hc, v, us, _, g', rfl, by rw [(plain_outs hpl hol).1, (plain_outs hpl hol).2]; exact hr, plain_out_at hpl hol, hl⟩

theorem holdsV_int {g : Gh} {w : World} {e : Nat} {x : tb.T e} {v : Value} {k : IntKind} {n : Int} (ha : isAggB P e = false) (he : tb.enc e x = [.int k n]) (h : HoldsV P tb g w e x v) : v = .int k n ∧ inR k n := by
  unfold HoldsV at h
  simp only [ha, Bool.false_eq_true, if_false] at h
  obtain ⟨c, hc, hd⟩ := h
  rw [he] at hc
  simp only [List.cons.injEq, and_true] at hc
  subst hc
  cases hd
  exact ⟨rfl, by assumption⟩
theorem holdsV_int_mk {g : Gh} {w : World} {e : Nat} {x : tb.T e} {k : IntKind} {n : Int} (ha : isAggB P e = false) (he : tb.enc e x = [.int k n]) (h : inR k n) : HoldsV P tb g w e x (.int k n) := by
  unfold HoldsV
  simp only [ha, Bool.false_eq_true, if_false]
  exact ⟨_, he, .int k n h⟩
theorem holdsV_str {g : Gh} {w : World} {e : Nat} {x : tb.T e} {v : Value} {s : List UInt8} (ha : isAggB P e = false) (he : tb.enc e x = [.str s]) (h : HoldsV P tb g w e x v) : v = .string ⟨s.toArray⟩ ∧ s.length ≤ mxLen := by
  unfold HoldsV at h
  simp only [ha, Bool.false_eq_true, if_false] at h
  obtain ⟨c, hc, hd⟩ := h
  rw [he] at hc
  simp only [List.cons.injEq, and_true] at hc
  subst hc
  cases hd
  exact ⟨rfl, by assumption⟩
theorem holdsV_str_mk {g : Gh} {w : World} {e : Nat} {x : tb.T e} {s : List UInt8} (ha : isAggB P e = false) (he : tb.enc e x = [.str s]) (h : s.length ≤ mxLen) : HoldsV P tb g w e x (.string ⟨s.toArray⟩) := by
  unfold HoldsV
  simp only [ha, Bool.false_eq_true, if_false]
  exact ⟨_, he, .str s h⟩
theorem holdsV_bool_mk {g : Gh} {w : World} {e : Nat} {x : tb.T e} {b : Bool} (ha : isAggB P e = false) (he : tb.enc e x = [.bool b]) : HoldsV P tb g w e x (.bool b) := by
  unfold HoldsV
  simp only [ha, Bool.false_eq_true, if_false]
  exact ⟨_, he, .bool b⟩

/-- a table of Go's library that lies where it lay -/
def TabAt (P : Program) (name : String) (k : IntKind) (zs : List Int) (g : Gh) (w : World) : Prop := ∃ b, P.globalNamed name = some b ∧ g b = .con ∧ Lib.TabIs P w name k zs
theorem TabAt.ext {name : String} {k : IntKind} {zs : List Int} {g g' : Gh} {w w' : World} {D : Nat → Prop} (he : Ext g w g' w' D) (h : TabAt P name k zs g w) : TabAt P name k zs g' w' := by
  obtain ⟨b, h1, h2, h3⟩ := h
  have hb : b < w.heap.size := by
    unfold Lib.TabIs World.var? at h3
    rw [h1] at h3
    simp only [Option.bind_some] at h3
    cases hw : w.heap[b]? with
    | none => rw [hw] at h3; cases h3
    | some o => exact (Array.getElem?_eq_some_iff.1 hw).1
  obtain ⟨e1, e2⟩ := he.con b hb h2
  refine ⟨b, h1, e2, ?_⟩
  unfold Lib.TabIs World.var? at h3 ⊢
  rw [h1] at h3 ⊢
  simp only [Option.bind_some] at h3 ⊢
  rw [e1]; exact h3
end Go.Ev

/- Runes. -/
namespace Go.Ev
open Go

theorem rune_ascii (s : List UInt8) (p : Nat) (h : p < s.length) (ha : (s[p]).toNat < 128) : rune s p = ((s[p]).toNat, 1) := by
  have := decode_ascii ⟨s.toArray⟩ p (by simpa [ByteArray.size] using h) ha
  unfold rune
  rw [this]
  rfl

theorem rune_high (s : List UInt8) (p : Nat) (h : p < s.length) (ha : 128 ≤ (s[p]).toNat) : 128 ≤ (rune s p).1 ∧ 1 ≤ (rune s p).2 := by
  have h0 : ((⟨s.toArray⟩ : ByteArray).get! (p + 0)).toNat = (s[p]).toNat := by
    simp only [Nat.add_zero, ByteArray.get!]
    have : (s.toArray)[p]! = s[p] := by simp [h]
    exact congrArg UInt8.toNat this
  unfold rune Utf8.decode
  simp only [h0]
  rw [if_neg (by omega)]
  split
  · split <;> simp_all [Utf8.runeError]
  · split
    · split
      · rename_i hc
        simp only [Bool.and_eq_true, decide_eq_true_eq] at hc
        exact ⟨by have := hc.1; simp only; omega, by simp⟩
      · simp [Utf8.runeError]
    · split
      · split
        · rename_i hc
          simp only [Bool.and_eq_true, decide_eq_true_eq] at hc
          exact ⟨by have := hc.1; simp only; omega, by simp⟩
        · simp [Utf8.runeError]
      · simp [Utf8.runeError]
end Go.Ev

/- Loops and functions that call themselves, told by counted rounds. -/
namespace Go.Ev
open Go

/-- at most so many rounds -/
def iter {X Y : Type} (F : (X → Option Y) → X → Option Y) (n : Nat) : X → Option Y := Nat.rec (fun _ => none) (fun _ r => F r) n
theorem iter_zero {X Y : Type} (F : (X → Option Y) → X → Option Y) (x : X) : iter F 0 x = none := rfl
theorem iter_succ {X Y : Type} (F : (X → Option Y) → X → Option Y) (n : Nat) (x : X) : iter F (n + 1) x = F (iter F n) x := rfl
/-- more rounds than there will ever be -/
def big : Nat := 9223372036854775808
theorem big_pos : big = 9223372036854775807 + 1 := rfl

attribute [irreducible] iter big
/-- what has an answer keeps it -/
def Mono {X Y : Type} (F : (X → Option Y) → X → Option Y) : Prop := ∀ (r r' : X → Option Y), (∀ x y, r x = some y → r' x = some y) → ∀ x y, F r x = some y → F r' x = some y
theorem iter_more {X Y : Type} {F : (X → Option Y) → X → Option Y} (hF : Mono F) : ∀ (n m : Nat), n ≤ m → ∀ x y, iter F n x = some y → iter F m x = some y
  | 0, _, _, x, y, h => by rw [iter_zero] at h; cases h
  | n + 1, 0, h0, _, _, _ => by omega
  | n + 1, m + 1, h0, x, y, h => by
    rw [iter_succ] at h ⊢
    exact hF _ _ (iter_more hF n m (by omega)) x y h

/-- a loop's rounds, by what they tell -/
theorem iter_of {X Y : Type} {F : (X → Option Y) → X → Option Y} (m : X → Nat) (Pre : X → Prop) (spec : X → Y)
    (h : ∀ back x, Pre x → (∀ x', Pre x' → m x' < m x → back x' = some (spec x')) → F back x = some (spec x)) : ∀ n x, Pre x → m x < n → iter F n x = some (spec x)
  | 0, _, _, h0 => by omega
  | n + 1, x, hp, hn => by
    rw [iter_succ]
    exact h _ x hp fun x' hp' hm => iter_of m Pre spec h n x' hp' (by omega)
theorem iter_big {X Y : Type} {F : (X → Option Y) → X → Option Y} (m : X → Nat) (Pre : X → Prop) (spec : X → Y)
    (h : ∀ back x, Pre x → (∀ x', Pre x' → m x' < m x → back x' = some (spec x')) → F back x = some (spec x)) (x : X) (hp : Pre x) (hm : m x < 9223372036854775808) : iter F big x = some (spec x) :=
  iter_of m Pre spec h _ x hp (by rw [big_pos]; omega)

variable {P : Program} {tb : Tab} {N : Nat} {Γ : List (Nat × FSpec tb)} {Δ : List (CutSpec tb)}

theorem evLoop_mono {body : Code} {ins : LSpec} {outs : List (Ex × LSpec)} : Mono (evLoop P tb Γ Δ body ins outs) := fun r r' hr x y h => by
  unfold evLoop at h ⊢
  refine evCode_mono _ _ (fun ex s y h2 => ?_) h
  cases ex with
  | normal =>
    simp only at h2 ⊢
    cases hx : extS P tb s (backGet s (refsOf ins)) ins with
    | none => simp [hx] at h2
    | some x' =>
      simp only [hx] at h2 ⊢
      cases hk : nodupB (idsS (backGet s (refsOf ins)) ins) with
      | false => simp [hk] at h2
      | true =>
        simp only [hk, cond_true] at h2 ⊢
        exact hr x' y h2
  | _ => exact h2

/-- a loop -/
theorem loop_it (hm : P.follows .mixedOrders = true) {c : Code} {cut : CutSpec tb} (hb : cutB N cut c = true) (hΓ : AllSound P tb Γ) (hsl : slotsAll Γ = true)
    {L : List (Nat × Code)} (hc : cutsOf Δ c = L) (hL : AllCuts P tb N (fun t => memB t cut.W) Δ L)
    (F : (XS tb cut.ins → Option (Outs tb (refsOf cut.ins) cut.outs)) → XS tb cut.ins → Option (Outs tb (refsOf cut.ins) cut.outs)) (hF : ∀ back x, evLoop P tb Γ Δ c cut.ins cut.outs back x = F back x)
    (hJ : cut.J = iter F big) : CutSound P tb N (.loop c) cut := by
  have hmono : Mono F := by
    have e : (fun back x => evLoop P tb Γ Δ c cut.ins cut.outs back x) = F := by funext back x; exact hF back x
    rw [← e]; exact evLoop_mono
  classical
  have hex : ∀ x y, iter F big x = some y → ∃ n, iter F n x = some y ∧ ∀ k, (∃ z, iter F k x = some z) → n ≤ k := fun x y h => by
    have key : ∀ n y, iter F n x = some y → ∃ n', n' ≤ n ∧ iter F n' x = some y ∧ ∀ k, (∃ z, iter F k x = some z) → n' ≤ k := by
      intro n
      induction n using Nat.strongRecOn with
      | _ n ih =>
        intro y hy
        by_cases hk : ∃ k, k < n ∧ ∃ z, iter F k x = some z
        · obtain ⟨k, hk, z, hz⟩ := hk
          have := iter_more hmono k n (by omega) x z hz
          rw [hy] at this
          simp only [Option.some.injEq] at this
          subst this
          obtain ⟨n', h1, h2, h3⟩ := ih k hk y hz
          exact ⟨n', by omega, h2, h3⟩
        · exact ⟨n, Nat.le_refl _, hy, fun k hz => Nat.le_of_not_lt fun hlt => hk ⟨k, hlt, hz⟩⟩
    obtain ⟨n, _, h1, h2⟩ := key big y h
    exact ⟨n, h1, h2⟩
  let m : XS tb cut.ins → Nat := fun x => if h : ∃ n, (∃ y, iter F n x = some y) ∧ ∀ k, (∃ z, iter F k x = some z) → n ≤ k then Classical.choose h else 0
  have hmv : ∀ x n y, iter F n x = some y → (∃ z, iter F (m x) x = some z) ∧ m x ≤ n := fun x n y h => by
    have h0 : ∃ n, (∃ y, iter F n x = some y) ∧ ∀ k, (∃ z, iter F k x = some z) → n ≤ k := by
      have key : ∀ n y, iter F n x = some y → ∃ n', (∃ y, iter F n' x = some y) ∧ ∀ k, (∃ z, iter F k x = some z) → n' ≤ k := by
        intro n
        induction n using Nat.strongRecOn with
        | _ n ih =>
          intro y hy
          by_cases hk : ∃ k, k < n ∧ ∃ z, iter F k x = some z
          · obtain ⟨k, hk, z, hz⟩ := hk; exact ih k hk z hz
          · exact ⟨n, ⟨y, hy⟩, fun k hz => Nat.le_of_not_lt fun hlt => hk ⟨k, hlt, hz⟩⟩
      exact key n y h
    have := Classical.choose_spec h0
    simp only [m, h0, dite_true]
    exact ⟨this.1, this.2 n ⟨y, h⟩⟩
  refine loop_ev hm hb hΓ hsl hc hL F hF m fun x y hxy => ?_
  rw [hJ] at hxy
  obtain ⟨⟨z, hz⟩, hle⟩ := hmv x big y hxy
  have := iter_more hmono _ _ hle x z hz
  rw [hxy] at this
  simp only [Option.some.injEq] at this
  subst this
  cases hn : m x with
  | zero => rw [hn, iter_zero] at hz; cases hz
  | succ n =>
    rw [hn, iter_succ] at hz
    refine hmono _ _ (fun x' y' h' => ?_) x y hz
    obtain ⟨_, hle'⟩ := hmv x' n y' h'
    have hb' : Nat.blt (m x') (n + 1) = true := Nat.ble_eq_true_of_le (by omega)
    simp only [hb', cond_true]
    rw [hJ]
    exact iter_more hmono n big (by omega) x' y' h'

/-- a function that calls itself -/
theorem fn_it {f : Nat} {ins outs : LSpec} {F : (XS tb ins → Option (Ret tb outs (refsOf ins))) → XS tb ins → Option (Ret tb outs (refsOf ins))} (hent : Enters P f)
    (h : ∀ self, FnSound P tb f ⟨ins, outs, self⟩ → FnSound P tb f ⟨ins, outs, F self⟩) : FnSound P tb f ⟨ins, outs, iter F big⟩ := by
  have key : ∀ n, FnSound P tb f ⟨ins, outs, iter F n⟩ := fun n => by
    induction n with
    | zero => exact ⟨hent, fun g w x vs bs y hy => by simp only [iter_zero] at hy; cases hy⟩
    | succ n ih =>
      have e : iter F (n + 1) = F (iter F n) := by funext x; exact iter_succ F n x
      rw [e]; exact h _ ih
  exact key big
/-- a function with a body is entered -/
theorem enters_fn {f : Nat} {fn : Func} (hf : P.funcs[f]? = some fn) (h : (fn.body.isSome && !(fn.name == "runtime.NumGoroutine")) = true) : Enters P f := by
  simp only [Bool.and_eq_true, Bool.not_eq_true'] at h
  cases hb : fn.body with
  | none => rw [hb] at h; cases h.1
  | some c => exact enters_of hf hb h.2
/-- of a function that is told nothing of -/
theorem stub_sound {f : Nat} {ins outs : LSpec} (hent : Enters P f) : FnSound P tb f ⟨ins, outs, fun _ => none⟩ := ⟨hent, fun _ _ _ _ _ _ hy => by cases hy⟩
end Go.Ev

/- Scopes and labels: a label's rest is a contract of its own. -/
namespace Go.Ev
open Go

variable {P : Program} {tb : Tab} {N : Nat} {W : Nat → Prop} {a0 : Act} {g0 : Gh} {w0 : World} {D0 : Nat → Prop}
variable {s s' s1 s2 : St tb.T} {g g' : Gh} {μ μ' : Nat → Nat} {τ τ' : Nat → Option Nat} {a a' : Act} {w w' : World}
variable {Γ : List (Nat × FSpec tb)} {Δ : List (CutSpec tb)} {Λ : List (Nat × CutSpec tb)} {R : Type}

/-- as Q; by a goto: I -/
def Into (I : Nat → Act → World → Prop) (Q : Exit → Act → World → Prop) : Exit → Act → World → Prop
  | .goto l, a, w => I l a w
  | e, a, w => Q e a w
/-- from a label of a scope on -/
def From (P : Program) (b : Code) (l : Nat) (Q : Exit → Act → World → Prop) (a : Act) (w : World) : Prop :=
  ∀ I : Nat → Act → World → Prop, (∀ l rest a w, findLabel b l = some rest → rest.wp P (Into I Q) a w → I l a w) → I l a w
theorem From.mk {b rest : Code} {l : Nat} {Q : Exit → Act → World → Prop} (hf : findLabel b l = some rest) (h : rest.wp P (Into (fun l => From P b l Q) Q) a w) : From P b l Q a w := fun I hI =>
  hI l rest a w hf (wp_mono h fun e a w hq => by cases e <;> first | exact hq I hI | exact hq)
theorem From.mono {b : Code} {l : Nat} {Q Q' : Exit → Act → World → Prop} (h : From P b l Q a w) (hq : ∀ e a w, Q e a w → Q' e a w) : From P b l Q' a w :=
  h (fun l => From P b l Q') fun l rest a w hf hr => From.mk hf (wp_mono hr fun e a w h' => by cases e <;> first | exact h' | exact hq _ _ _ h')
theorem Into.mono {b : Code} {Q Q' : Exit → Act → World → Prop} {e : Exit} {a : Act} {w : World} (h : Into (fun l => From P b l Q) Q e a w) (hq : ∀ e a w, Q e a w → Q' e a w) : Into (fun l => From P b l Q') Q' e a w := by
  cases e with
  | goto l => exact From.mono h hq
  | _ => exact hq _ _ _ h
theorem wp_scope_from {c : Code} {Q : Exit → Act → World → Prop} (first : c.wp P (Into (fun l => From P c l Q) Q) a w) : (Code.scope c).wp P Q a w := by
  intro b k cs
  have hg : ∀ l rest, findLabel c l = some rest → gotoIn l (.inScope c :: k) = some (.code rest :: .inScope c :: k) := fun l rest hf => by simp [gotoIn, hf]
  have key : ∀ l a w, From P c l Q a w → ∃ rest, findLabel c l = some rest ∧ ∃ e a' w', Q e a' w' ∧ Arrives P (lone (b.at a (.code rest :: .inScope c :: k)) cs w) b k cs e a' w' := fun l a w h => by
    refine h (fun l a w => ∃ rest, findLabel c l = some rest ∧ ∃ e a' w', Q e a' w' ∧ Arrives P (lone (b.at a (.code rest :: .inScope c :: k)) cs w) b k cs e a' w') fun l rest a w hf hr => ⟨rest, hf, ?_⟩
    obtain ⟨e, a₁, w₁, hq, harr⟩ := hr b (.inScope c :: k) cs
    cases e with
    | normal => exact ⟨.normal, a₁, w₁, hq, Steps.trans harr (.one step_inScope)⟩
    | exit id => exact ⟨.exit id, a₁, w₁, hq, fun k' hk => harr k' (by simp [exitTo, hk])⟩
    | goto l' =>
      obtain ⟨rest', hf', e₂, a₂, w₂, hq₂, harr₂⟩ := hq
      exact ⟨e₂, a₂, w₂, hq₂, .of_steps (harr _ (hg l' rest' hf')) harr₂⟩
    | ret => exact ⟨_, a₁, w₁, hq, harr⟩
    | panic ch => exact ⟨_, a₁, w₁, hq, harr⟩
    | outgrown => exact ⟨_, a₁, w₁, hq, harr⟩
  obtain ⟨e, a₁, w₁, hq, harr⟩ := first b (.inScope c :: k) cs
  cases e with
  | normal => exact ⟨.normal, a₁, w₁, hq, .head step_scope (Steps.trans harr (.one step_inScope))⟩
  | exit id => exact ⟨.exit id, a₁, w₁, hq, fun k' hk => .head step_scope (harr k' (by simp [exitTo, hk]))⟩
  | goto l' =>
    obtain ⟨rest', hf', e₂, a₂, w₂, hq₂, harr₂⟩ := key _ a₁ w₁ hq
    exact ⟨e₂, a₂, w₂, hq₂, .of_steps (.head step_scope (harr _ (hg l' rest' hf'))) harr₂⟩
  | ret => exact ⟨_, a₁, w₁, hq, .of_steps (.one step_scope) harr⟩
  | panic ch => exact ⟨_, a₁, w₁, hq, .of_steps (.one step_scope) harr⟩
  | outgrown => exact ⟨_, a₁, w₁, hq, .of_steps (.one step_scope) harr⟩

/-- a label's rest keeps its contract -/
def LabelSound (P : Program) (tb : Tab) (N : Nat) (b : Code) (l : Nat) (cut : CutSpec tb) : Prop := CutSoundW P tb N (From P b l) cut

def labCut : List (Nat × CutSpec tb) → Nat → Option (CutSpec tb)
  | [], _ => none
  | p :: Λ, l => bif Nat.beq p.1 l then some p.2 else labCut Λ l
/-- a goto goes to its label's contract -/
def evJump (P : Program) (tb : Tab) (Λ : List (Nat × CutSpec tb)) (κ : Ex → St tb.T → Option R) (ex : Ex) (s : St tb.T) : Option R :=
  match ex with
  | .goto l => match labCut Λ l with
    | some cut => evCut P tb cut s κ
    | none => none
  | ex => κ ex s
theorem evJump_k {κ : Ex → St tb.T → Option R} {ex : Ex} : evJump P tb Λ κ ex s = obnd (evJump P tb Λ (fun ex s => some (ex, s)) ex s) fun p => κ p.1 p.2 := by
  cases ex with
  | goto l =>
    simp only [evJump]
    split
    · exact evCut_k
    · rfl
  | _ => rfl
/-- a scope's code, or a label's rest -/
noncomputable def evScope (P : Program) (tb : Tab) (Γ : List (Nat × FSpec tb)) (Δ : List (CutSpec tb)) (Λ : List (Nat × CutSpec tb)) (c : Code) (ins : LSpec) (outs : List (Ex × LSpec)) (x : XS tb ins) : Option (Outs tb (refsOf ins) outs) :=
  evCode P tb Γ Δ c (canon P tb ins x) (evJump P tb Λ fun ex s => intoEnd P tb (refsOf ins) ex s outs)

/-- labels' contracts are kept -/
def AllLabels (P : Program) (tb : Tab) (N : Nat) (ok : Nat → Bool) (b : Code) (Λ : List (Nat × CutSpec tb)) : Prop := ∀ p ∈ Λ, LabelSound P tb N b p.1 p.2 ∧ p.2.W.all ok = true
theorem AllLabels.nil {ok : Nat → Bool} {b : Code} : AllLabels P tb N ok b [] := fun _ h => absurd h (by simp)
theorem AllLabels.cons {ok : Nat → Bool} {b : Code} {l : Nat} {cut : CutSpec tb} (hs : LabelSound P tb N b l cut) (hW : cut.W.all ok = true) (h : AllLabels P tb N ok b Λ) : AllLabels P tb N ok b ((l, cut) :: Λ) := fun p hp => by
  rcases List.mem_cons.1 hp with rfl | hp
  · exact ⟨hs, hW⟩
  · exact h p hp
theorem labCut_mem {l : Nat} {cut : CutSpec tb} : ∀ {Λ : List (Nat × CutSpec tb)}, labCut Λ l = some cut → (l, cut) ∈ Λ
  | [], h => by simp [labCut] at h
  | p :: Λ, h => by
    simp only [labCut] at h
    cases hb : Nat.beq p.1 l with
    | true =>
      simp only [hb, cond_true, Option.some.injEq] at h
      have := Nat.eq_of_beq_eq_true hb
      subst this; subst h; exact List.mem_cons_self ..
    | false =>
      simp only [hb, cond_false] at h
      exact List.mem_cons_of_mem _ (labCut_mem h)

/-- what runs from here, gotos and all -/
theorem jump_sound {b : Code} {ex ex2 : Ex} (hΛ : ∀ l cut, labCut Λ l = some cut → LabelSound P tb N b l cut ∧ ∀ t, memB t cut.W = true → W t) (h : Sim P tb N W a0 g0 w0 D0 s a w)
    (he : evJump P tb Λ (fun ex s => some (ex, s)) ex s = some (ex2, s2)) :
    Into (fun l => From P b l fun e a w => e = ex2.toExit ∧ Sim P tb N W a0 g0 w0 D0 s2 a w) (fun e a w => e = ex2.toExit ∧ Sim P tb N W a0 g0 w0 D0 s2 a w) ex.toExit a w := by
  cases ex with
  | goto l =>
    simp only [evJump] at he
    split at he
    · rename_i cut hl
      obtain ⟨k1, k2⟩ := hΛ l cut hl
      obtain ⟨g, μ, τ, h⟩ := h
      exact evCut_soundW (Z := From P b l) (fun h hq => h.mono hq) k1 k2 h he
    · cases he
  | exit id => simp only [evJump, Option.some.injEq, Prod.mk.injEq] at he; obtain ⟨rfl, rfl⟩ := he; exact ⟨rfl, h⟩
  | normal => simp only [evJump, Option.some.injEq, Prod.mk.injEq] at he; obtain ⟨rfl, rfl⟩ := he; exact ⟨rfl, h⟩
  | ret => simp only [evJump, Option.some.injEq, Prod.mk.injEq] at he; obtain ⟨rfl, rfl⟩ := he; exact ⟨rfl, h⟩

theorem scope_both (hm : P.follows .mixedOrders = true) {c b : Code} {cut : CutSpec tb} (hb : cutB N cut c = true) (hΓ : AllSound P tb Γ) (hsl : slotsAll Γ = true)
    {L : List (Nat × Code)} (hc : cutsOf Δ c = L) (hL : AllCuts P tb N (fun t => memB t cut.W) Δ L) (hΛ : AllLabels P tb N (fun t => memB t cut.W) b Λ) (hJ : ∀ x, evScope P tb Γ Δ Λ c cut.ins cut.outs x = cut.J x)
    {Z : (Exit → Act → World → Prop) → Act → World → Prop} (hmono : ∀ {Q Q' : Exit → Act → World → Prop} {a : Act} {w : World}, Z Q a w → (∀ e a w, Q e a w → Q' e a w) → Z Q' a w)
    (hZ : ∀ {Q : Exit → Act → World → Prop} {a : Act} {w : World}, c.wp P (Into (fun l => From P b l Q) Q) a w → Z Q a w) : CutSoundW P tb N Z cut := by
  simp only [cutB, Bool.and_eq_true] at hb
  obtain ⟨⟨⟨⟨hd, hns⟩, hrs⟩, hpo⟩, hhg⟩ := hb
  intro g w a x vs bs y hxy hinv hN hi hh hn
  have hsim := begun_sim (W := fun t => memB t cut.W = true) hinv hh hn hns hi hN
  have he := (hJ x).trans hxy
  unfold evScope at he
  have hcut : CutsOk P tb N (fun t => memB t cut.W = true) Δ c := cuts_of _ fun q hq cut' hcut => by
    rw [hc] at hq
    obtain ⟨k1, k2⟩ := hL q hq cut' hcut
    exact ⟨k1, fun t ht => List.all_eq_true.1 k2 t (memB_iff.1 ht)⟩
  have hlab : ∀ l cut', labCut Λ l = some cut' → LabelSound P tb N b l cut' ∧ ∀ t, memB t cut'.W = true → memB t cut.W = true := fun l cut' hl => by
    obtain ⟨k1, k2⟩ := hΛ _ (labCut_mem hl)
    exact ⟨k1, fun t ht => List.all_eq_true.1 k2 t (memB_iff.1 ht)⟩
  refine hmono (hZ (Q := fun e a' w' => ∃ ex2 s2, e = ex2.toExit ∧ Sim P tb N (fun t => memB t cut.W = true) a g w (fun b => b ∈ touched cut.ins bs) s2 a' w' ∧ intoEnd P tb (refsOf cut.ins) ex2 s2 cut.outs = some y) (wp_mono (evCode_sound hm hΓ (slotsAll_get hsl) (p := fun d => Nat.blt d N && memB d cut.W) (fun d hd => by
    simp only [Bool.and_eq_true] at hd; exact ⟨Nat.le_of_ble_eq_true hd.1, hd.2⟩) c hd hcut hsim he) ?_)) ?_
  · rintro e a' w' ⟨ex, s1, rfl, hs, h2⟩
    rw [evJump_k] at h2
    obtain ⟨⟨ex2, s2⟩, h2, h3⟩ := obnd_eq_some.1 h2
    exact Into.mono (jump_sound hlab hs h2) fun e a w h => ⟨ex2, s2, h.1, h.2, h3⟩
  · rintro e a' w' ⟨ex2, s2, rfl, ⟨g', μ, τ, hs⟩, h3⟩
    refine intoEnd_sound (P := P) h3 ?_
    rintro l0 o ho rfl y' z hy' hz hn'
    obtain ⟨gq, τq, hs⟩ := hs.prep (get := vget s2 s2.env) l0
    refine ⟨rfl, cut_end hh hi (fun q hq => ?_) hhg ?_ hs hy' hz hn'⟩
    · have := List.all_eq_true.1 hrs q hq
      simpa using this
    · exact List.all_eq_true.1 hpo o ho
/-- a scope -/
theorem scope_ev (hm : P.follows .mixedOrders = true) {b : Code} {cut : CutSpec tb} (hb : cutB N cut b = true) (hΓ : AllSound P tb Γ) (hsl : slotsAll Γ = true)
    {L : List (Nat × Code)} (hc : cutsOf Δ b = L) (hL : AllCuts P tb N (fun t => memB t cut.W) Δ L) (hΛ : AllLabels P tb N (fun t => memB t cut.W) b Λ) (hJ : ∀ x, evScope P tb Γ Δ Λ b cut.ins cut.outs x = cut.J x) : CutSound P tb N (.scope b) cut :=
  scope_both hm hb hΓ hsl hc hL hΛ hJ (Z := (Code.scope b).wp P) (fun h hq => wp_mono h hq) fun h => wp_scope_from h
/-- a label -/
theorem label_ev (hm : P.follows .mixedOrders = true) {b c : Code} {l : Nat} {cut : CutSpec tb} (hf : findLabel b l = some c) (hb : cutB N cut c = true) (hΓ : AllSound P tb Γ) (hsl : slotsAll Γ = true)
    {L : List (Nat × Code)} (hc : cutsOf Δ c = L) (hL : AllCuts P tb N (fun t => memB t cut.W) Δ L) (hΛ : AllLabels P tb N (fun t => memB t cut.W) b Λ) (hJ : ∀ x, evScope P tb Γ Δ Λ c cut.ins cut.outs x = cut.J x) : LabelSound P tb N b l cut :=
  scope_both hm hb hΓ hsl hc hL hΛ hJ (Z := From P b l) (fun h hq => h.mono hq) fun h => From.mk hf h
/-- a label that is gone back to -/
theorem label_it {b : Code} {l key : Nat} {ins : LSpec} {outs : List (Ex × LSpec)} {Wl : List Nat} {F : (XS tb ins → Option (Outs tb (refsOf ins) outs)) → XS tb ins → Option (Outs tb (refsOf ins) outs)}
    (h : ∀ self, LabelSound P tb N b l ⟨key, ins, outs, Wl, self⟩ → LabelSound P tb N b l ⟨key, ins, outs, Wl, F self⟩) : LabelSound P tb N b l ⟨key, ins, outs, Wl, iter F big⟩ := by
  have k : ∀ n, LabelSound P tb N b l ⟨key, ins, outs, Wl, iter F n⟩ := fun n => by
    induction n with
    | zero => intro g w a x vs bs y hy; simp only [iter_zero] at hy; cases hy
    | succ n ih =>
      have e : iter F (n + 1) = F (iter F n) := by funext x; exact iter_succ F n x
      rw [e]; exact h _ ih
  exact k big
/-- the code of a scope, of a label's rest -/
def scopeAt (k : Nat) (fn : Func) : Code := match findKey k (bodyOf fn) with | some (.scope b) => b | _ => .skip
def restAt (b : Code) (l : Nat) : Code := match findLabel b l with | some c => c | none => .skip
end Go.Ev

/- Cells decoded, one by one: what the tables of types are made of. -/
namespace Go.Ev
open Go

variable {T : Nat → Type}

/-- bytes, written out -/
@[reducible] def U8s (l : List UInt8) : List UInt8 := l

def dbnd {α β : Type} (x : Option α) (f : α → Option β) : Option β := match x with | some a => f a | none => none
theorem dbnd_eq {α β : Type} {x : Option α} {f : α → Option β} {r : β} (h : dbnd x f = some r) : ∃ a, x = some a ∧ f a = some r := by
  cases x with
  | none => cases h
  | some a => exact ⟨a, rfl, h⟩
def dI (k : IntKind) : CV T → Option Int
  | .int k' x => bif decide (k' = k) then some x else none
  | _ => none
def dB : CV T → Option Bool
  | .bool x => some x
  | _ => none
def dU : CV T → Option UInt8
  | .int k x => bif decide (k = .u8) then some (UInt8.ofNat x.toNat) else none
  | _ => none
def dS : CV T → Option (List UInt8)
  | .str x => some x
  | _ => none
def asSl (e : Nat) (c : CV T) : Option (List (T e)) := match c with
  | .nil => some []
  | .sl e' xs => if h : e' = e then some (h ▸ xs) else none
  | _ => none
theorem dI_le {k : IntKind} {c : CV T} {x : Int} (h : dI k c = some x) : CV.le c (.int k x) := by
  cases c <;> simp only [dI, reduceCtorEq] at h
  rename_i k' y
  cases hk : decide (k' = k) with
  | false => simp [hk] at h
  | true => simp only [hk, cond_true, Option.some.injEq] at h; subst h; have := of_decide_eq_true hk; subst this; exact .inl rfl
theorem dB_le {c : CV T} {x : Bool} (h : dB c = some x) : CV.le c (.bool x) := by
  cases c <;> simp only [dB, reduceCtorEq, Option.some.injEq] at h
  subst h; exact .inl rfl
theorem dS_le {c : CV T} {x : List UInt8} (h : dS c = some x) : CV.le c (.str x) := by
  cases c <;> simp only [dS, reduceCtorEq, Option.some.injEq] at h
  subst h; exact .inl rfl
theorem u8_back {x : Int} (h : Ev.inR .u8 x) : ((UInt8.ofNat x.toNat).toNat : Int) = x := by
  obtain ⟨h1, h2⟩ := h
  simp only [lo, hi] at h1 h2
  simp only [UInt8.toNat_ofNat']
  omega
theorem dU_le {c : CV T} {x : UInt8} (h : dU c = some x) (hr : c.inR) : CV.le c (.int .u8 (x.toNat : Int)) := by
  cases c <;> simp only [dU, reduceCtorEq] at h
  rename_i k y
  cases hk : decide (k = IntKind.u8) with
  | false => simp [hk] at h
  | true =>
    simp only [hk, cond_true, Option.some.injEq] at h; subst h; have := of_decide_eq_true hk; subst this
    left
    rw [u8_back hr]
def dN : CV T → Option Unit
  | .nli => some ()
  | _ => none
theorem dN_le {c : CV T} {x : Unit} (h : dN c = some x) : CV.le c (.nli) := by
  cases c <;> simp only [dN, reduceCtorEq] at h
  exact .inl rfl
theorem asSl_le {e : Nat} {c : CV T} {x : List (T e)} (h : asSl e c = some x) : CV.le c (.sl e x) := by
  unfold asSl at h
  split at h
  · simp only [Option.some.injEq] at h; subst h; exact .inr ⟨rfl, e, rfl⟩
  · rename_i e' xs
    by_cases he : e' = e
    · subst he; simp only [dite_true, Option.some.injEq] at h; subst h; exact .inl rfl
    · simp [he] at h
  · cases h
end Go.Ev

/- A row out of a contract: what is read as data is data; the law's row. -/
namespace Go.Ev
open Go

/-! ## the kinds of a type's cells -/
inductive CK where
  | int (k : IntKind)
  | bool
  | str
  | sl (e : Nat)
  deriving DecidableEq

def CV.is {T : Nat → Type} : CK → CV T → Prop
  | .int k, .int k' _ => k' = k
  | .bool, .bool _ => True
  | .str, .str _ => True
  | .sl e, .sl e' _ => e' = e
  | _, _ => False

def kindsOf (P : Program) : Nat → Nat → Option (List CK)
  | 0, _ => none
  | d + 1, t => match P.underlying t with
    | some (.int k) => some [.int k]
    | some .bool => some [.bool]
    | some .string => some [.str]
    | some (.slice e) => some [.sl e]
    | some (.struct fs) => (match kindsF (kindsOf P d) P fs.toList 0 with
      | some l => bif Nat.beq l.length (P.cellsOf t) then some l else none
      | none => none)
    | _ => none
where
  kindsF (rec : Nat → Option (List CK)) (P : Program) : List Field → Nat → Option (List CK)
    | [], _ => some []
    | f :: fs, o => bif !Nat.beq f.offset o then none else match rec f.type with
      | some l => bif Nat.beq l.length (P.cellsOf f.type) then (match kindsF rec P fs (o + l.length) with
        | some r => some (l ++ r)
        | none => none) else none
      | none => none

/-- what a reading leaves: numbers in range, nothing longer than the reach -/
inductive Wf (P : Program) (tb : Tab) : CV tb.T → Prop where
  | int (k : IntKind) (n : Int) (h : inR k n) : Wf P tb (.int k n)
  | bool (b : Bool) : Wf P tb (.bool b)
  | str (s : List UInt8) (h : s.length ≤ 140737488351232) : Wf P tb (.str s)
  | sl (e : Nat) (xs : List (tb.T e)) (h : xs.length * P.bytesOf e ≤ 140737488351232) (hx : ∀ x ∈ xs, ∀ c ∈ tb.enc e x, Wf P tb c) : Wf P tb (.sl e xs)

/-- types that may be read -/
structure RdTab (P : Program) (tb : Tab) where
  S : List Nat
  D : Nat
  kinds : ∀ t ∈ S, ∃ ks, kindsOf P D t = some ks ∧ (∀ e, CK.sl e ∈ ks → e ∈ S ∧ 0 < P.cellsOf e) ∧ ∀ cs : List (CV tb.T), All2 CV.is ks cs → ∃ x, tb.dec t cs = some x

variable {P : Program} {tb : Tab} {H : Type} {enc : TypeId × Value → H} {w : World} {g : Gh}

theorem wf_inR {k : IntKind} {n : Int} (h : (Lit.int k n).wf = true) : inR k n := by
  cases k <;> simp [Lit.wf, IntKind.min, IntKind.max, IntKind.signed, IntKind.bits] at h <;> simp [inR, lo, hi] <;> omega

def ReadTo (P : Program) (tb : Tab) (g : Gh) (w : World) (ks : List CK) (cs : List Value) : Prop := ∃ ds : List (CV tb.T), All2 CV.is ks ds ∧ All2 (RepD P tb g w) ds cs ∧ ∀ c ∈ ds, Wf P tb c

theorem ReadTo.append {k1 k2 : List CK} {c1 c2 : List Value} (h1 : ReadTo P tb g w k1 c1) (h2 : ReadTo P tb g w k2 c2) : ReadTo P tb g w (k1 ++ k2) (c1 ++ c2) := by
  obtain ⟨d1, a1, b1, e1⟩ := h1
  obtain ⟨d2, a2, b2, e2⟩ := h2
  exact ⟨d1 ++ d2, a1.append a2, b1.append b2, fun c hc => (List.mem_append.1 hc).elim (e1 c) (e2 c)⟩

theorem read_fields {A : Nat → Prop} {n : Nat} {base : Nat} {sp : Nat → Bool} {held : Bool} {d : Nat} {cs : List Value}
    (ih : ∀ (t : Nat) (ks : List CK) (cs : List Value) (x : DataW H × List MemPlace), kindsOf P d t = some ks → DataW.trod enc P w base sp held n t cs = some x → (∀ m ∈ x.1.weights P t, m ≤ 140737488351232) → (∀ e, CK.sl e ∈ ks → A e) → ReadTo P tb g w ks cs) :
    ∀ (fs : List Field) (o : Nat) (ks : List CK) (xs : List (DataW H × List MemPlace)), kindsOf.kindsF (kindsOf P d) P fs o = some ks → xs.length = fs.length → o + ks.length ≤ cs.length →
      (∀ (i : Nat) f, fs[i]? = some f → DataW.trod enc P w base sp held n f.type ((cs.drop f.offset).take (P.cellsOf f.type)) = xs[i]?) →
      (∀ m ∈ DataW.weightsEach P (fs.map (·.type)) (xs.map (·.1)), m ≤ 140737488351232) → (∀ e, CK.sl e ∈ ks → A e) → ReadTo P tb g w ks ((cs.drop o).take ks.length)
  | [], o, ks, xs, hk, hl, ho, hf, hw, hA => by
    simp only [kindsOf.kindsF, Option.some.injEq] at hk
    subst hk
    exact ⟨[], trivial, by simp [All2], by simp⟩
  | f :: fs, o, ks, xs, hk, hl, ho, hf, hw, hA => by
    unfold kindsOf.kindsF at hk
    cases e1 : (!Nat.beq f.offset o) with
    | true => simp [e1] at hk
    | false =>
      have eo : f.offset = o := Nat.eq_of_beq_eq_true (by simpa using e1)
      simp only [e1, cond_false] at hk
      cases e2 : kindsOf P d f.type with
      | none => simp [e2] at hk
      | some l =>
        simp only [e2] at hk
        cases e3 : Nat.beq l.length (P.cellsOf f.type) with
        | false => simp [e3] at hk
        | true =>
          have el : l.length = P.cellsOf f.type := Nat.eq_of_beq_eq_true e3
          simp only [e3, cond_true] at hk
          cases e4 : kindsOf.kindsF (kindsOf P d) P fs (o + l.length) with
          | none => simp [e4] at hk
          | some r =>
            simp only [e4, Option.some.injEq] at hk
            subst hk
            cases xs with
            | nil => simp at hl
            | cons x xs =>
              have h0 := hf 0 f rfl
              simp only [List.getElem?_cons_zero] at h0
              simp only [List.length_append] at ho ⊢
              have r1 := ih f.type l _ x e2 h0 (fun m hm => hw m (by simp [DataW.weightsEach, hm])) (fun e he => hA e (by simp [he]))
              have r2 := read_fields ih fs (o + l.length) r xs e4 (by simpa using hl) (by omega) (fun i f' hf' => hf (i + 1) f' (by simpa using hf')) (fun m hm => hw m (by simp [DataW.weightsEach, hm])) (fun e he => hA e (by simp [he]))
              rw [eo, ← el] at r1
              have := r1.append r2
              have ee : (cs.drop o).take (l.length + r.length) = (cs.drop o).take l.length ++ (cs.drop (o + l.length)).take r.length := by
                rw [List.take_add, List.drop_drop]
              rw [ee]; exact this


theorem cells_at {base : Nat} {a : Addr} {n : Nat} {cs : List Value} (h : w.cells? base a n = some cs) : cs.length = n ∧ ∀ j v, cs[j]? = some v → w.cell? (a.add j) = some v := by
  unfold World.cells? at h
  split at h
  · refine ⟨by simpa using Lib.mapM_length h, fun j v hv => ?_⟩
    have hj : j < n := by
      have := (List.getElem?_eq_some_iff.1 hv).1
      have e : cs.length = n := by simpa using Lib.mapM_length h
      omega
    obtain ⟨b, hb, hf⟩ := Lib.mapM_at h j j (by simp [hj])
    rw [hv] at hb
    simp only [Option.some.injEq] at hb
    subst hb
    exact hf
  · cases h

theorem list_of {α : Type} {Q : Nat → α → Prop} : ∀ n, (∀ i, i < n → ∃ x, Q i x) → ∃ xs : List α, xs.length = n ∧ ∀ i x, xs[i]? = some x → Q i x
  | 0, _ => ⟨[], rfl, by simp⟩
  | n + 1, h => by
    obtain ⟨xs, hl, hx⟩ := list_of n (fun i hi => h i (by omega))
    obtain ⟨y, hy⟩ := h n (by omega)
    refine ⟨xs ++ [y], by simp [hl], fun i x hi => ?_⟩
    by_cases hin : i < n
    · rw [List.getElem?_append_left (by omega)] at hi
      exact hx i x hi
    · rw [List.getElem?_append_right (by omega)] at hi
      have : i - xs.length = 0 := by
        have := (List.getElem?_eq_some_iff.1 hi).1
        simp at this; omega
      rw [this] at hi
      simp only [List.getElem?_cons_zero, Option.some.injEq] at hi
      subst hi
      have : i = n := by omega
      subst this; exact hy

theorem weightsAll_mem {e : Nat} : ∀ {ds : List (DataW H)} {i : Nat} {d : DataW H}, ds[i]? = some d → ∀ m ∈ d.weights P e, m ∈ DataW.weightsAll P e ds
  | d0 :: ds, 0, d, h, m, hm => by
    simp only [List.getElem?_cons_zero, Option.some.injEq] at h
    subst h; simp [DataW.weightsAll, hm]
  | d0 :: ds, i + 1, d, h, m, hm => by
    simp only [List.getElem?_cons_succ] at h
    simp [DataW.weightsAll, weightsAll_mem h m hm]

theorem wf_le {c d : CV tb.T} (h : CV.le c d) (hc : Wf P tb c) : Wf P tb d := by
  rcases h with rfl | ⟨rfl, e, rfl⟩
  · exact hc
  · exact .sl e [] (by simp) (by simp)
theorem wf_all : ∀ {cs ds : List (CV tb.T)}, All2 CV.le cs ds → (∀ c ∈ cs, Wf P tb c) → ∀ d ∈ ds, Wf P tb d
  | [], [], _, _, d, hd => by simp at hd
  | c :: cs, d :: ds, ⟨h1, h2⟩, hc, d', hd => by
    rcases List.mem_cons.1 hd with rfl | hd
    · exact wf_le h1 (hc c (by simp))
    · exact wf_all h2 (fun c hc' => hc c (by simp [hc'])) d' hd
  | [], _ :: _, h, _, _, _ => h.elim
  | _ :: _, [], h, _, _, _ => h.elim

/-- a value read at a type of the table is data of that type -/
theorem RdTab.dec (R : RdTab P tb) {t : Nat} (ht : t ∈ R.S) {ks : List CK} {cs : List Value} (hk : kindsOf P R.D t = some ks) (h : ReadTo P tb g w ks cs) : ∃ x : tb.T t, All2 (RepD P tb g w) (tb.enc t x) cs ∧ ∀ c ∈ tb.enc t x, Wf P tb c := by
  obtain ⟨ks', hk', _, hd⟩ := R.kinds t ht
  rw [hk] at hk'
  simp only [Option.some.injEq] at hk'
  subst hk'
  obtain ⟨ds, h1, h2, h3⟩ := h
  obtain ⟨x, hx⟩ := hd ds h1
  exact ⟨x, dec_sound hx h2, wf_all (tb.ok t ds x hx (all_inR h2)) h3⟩

theorem read (R : RdTab P tb) (hg : ∀ b, g b = .con) {base : Nat} {sp : Nat → Bool} {held : Bool} : ∀ (n d t : Nat) (ks : List CK) (cs : List Value) (x : DataW H × List MemPlace),
    kindsOf P d t = some ks → DataW.trod enc P w base sp held n t cs = some x → (∀ m ∈ x.1.weights P t, m ≤ 140737488351232) → (∀ e, CK.sl e ∈ ks → e ∈ R.S ∧ 0 < P.cellsOf e) → ReadTo P tb g w ks cs := by
  intro n
  induction n with
  | zero => intro d t ks cs x _ h; simp [DataW.trod] at h
  | succ n ih =>
    intro d t ks cs x hk h hw hs
    cases d with
    | zero => simp [kindsOf] at hk
    | succ d =>
      unfold kindsOf at hk
      split at hk
      · rename_i k hu
        simp only [Option.some.injEq] at hk; subst hk
        obtain ⟨m, rfl, _, hwf⟩ := DataW.trod_int hu h
        exact ⟨[.int k m], ⟨rfl, trivial⟩, ⟨.int k m (wf_inR hwf), trivial⟩, by simpa using Wf.int k m (wf_inR hwf)⟩
      · rename_i hu
        simp only [Option.some.injEq] at hk; subst hk
        obtain ⟨b, rfl, _⟩ := DataW.trod_bool hu h
        exact ⟨[.bool b], ⟨trivial, trivial⟩, ⟨.bool b, trivial⟩, by simpa using Wf.bool b⟩
      · rename_i hu
        simp only [Option.some.injEq] at hk; subst hk
        obtain ⟨s, rfl, rfl, hl⟩ := DataW.trod_string hu h
        have hle : s.data.toList.length ≤ 140737488351232 := hw _ (by simp [DataW.weights])
        refine ⟨[.str s.data.toList], ⟨trivial, trivial⟩, ⟨?_, trivial⟩, by simpa using Wf.str _ hle⟩
        have := RepD.str (P := P) (tb := tb) (g := g) (w := w) s.data.toList (by simp only [mxLen]; omega)
        simpa using this
      · rename_i e hu
        simp only [Option.some.injEq] at hk; subst hk
        obtain ⟨he, hpos⟩ := hs e (by simp)
        rcases DataW.trod_slice hu h with ⟨rfl, rfl⟩ | ⟨a, len, cap, elems, rest, n', hn, rfl, rfl, _, hlc, hcm, hle, hel, _⟩
        · exact ⟨[.sl e []], ⟨rfl, trivial⟩, ⟨.slnil e, trivial⟩, by simpa using Wf.sl (P := P) (tb := tb) e [] (by simp) (by simp)⟩
        · obtain rfl : n = n' := by omega
          obtain ⟨kse, hke, hse, _⟩ := R.kinds e he
          have hwt : (elems.length + rest.length) * P.bytesOf e ≤ 140737488351232 ∧ ∀ m ∈ DataW.weightsAll P e (elems.map (·.1)), m ≤ 140737488351232 := by
            simp only [DataW.weights, hu, List.length_map] at hw
            exact ⟨hw _ (by simp), fun m hm => hw m (by simp [hm])⟩
          have hone : ∀ i, i < len → ∃ x : tb.T e, ∃ csE, w.cells? base (a.add (i * P.cellsOf e)) (P.cellsOf e) = some csE ∧ All2 (RepD P tb g w) (tb.enc e x) csE ∧ ∀ c ∈ tb.enc e x, Wf P tb c := fun i hi => by
            have h1 := hel i hi
            rw [List.getElem?_eq_getElem (by omega)] at h1
            obtain ⟨csE, h2, h3⟩ := Option.bind_eq_some_iff.1 h1
            obtain ⟨x, hx, hxw⟩ := R.dec he hke (ih _ _ _ _ _ hke h3 (fun m hm => hwt.2 m (weightsAll_mem (i := i) (d := (elems[i]).1) (by rw [List.getElem?_map, List.getElem?_eq_getElem (by omega)]; rfl) m hm)) hse)
            exact ⟨x, csE, h2, hx, hxw⟩
          obtain ⟨xs, hxl, hxs⟩ := list_of len hone
          have hWf : Wf P tb (.sl e xs) := .sl e xs (by rw [hxl, ← hle]; exact Nat.le_trans (Nat.mul_le_mul_right _ (by omega)) hwt.1) (fun x hx => by
            obtain ⟨i, hi, hx⟩ := List.getElem_of_mem hx
            obtain ⟨_, _, _, h⟩ := hxs i x (by rw [List.getElem?_eq_getElem hi, hx])
            exact h)
          refine ⟨[.sl e xs], ⟨rfl, trivial⟩, ⟨?_, trivial⟩, by simpa using hWf⟩
          cases len with
          | zero =>
            have : xs = [] := List.eq_nil_of_length_eq_zero hxl
            subst this
            exact .sle e a cap hcm
          | succ len =>
            obtain ⟨b, off, spot⟩ := a
            have hspot : spot = none := by
              obtain ⟨x, csE, h2, _⟩ := hone 0 (by omega)
              obtain ⟨hl, hc⟩ := cells_at h2
              obtain ⟨v, hv⟩ : ∃ v, csE[0]? = some v := ⟨csE[0], List.getElem?_eq_getElem (by omega)⟩
              have := hc 0 v hv
              unfold World.cell? at this
              split at this
              · split at this
                · cases this
                · rename_i hsp; simpa [Addr.add] using hsp
              · cases this
            subst hspot
            rw [← hxl]
            have hcell : ∀ (i : Nat) x (j : Nat) c, xs[i]? = some x → (tb.enc e x)[j]? = some c → ∃ v, w.cell? ⟨b, off + i * P.cellsOf e + j, none⟩ = some v ∧ RepD P tb g w c v := fun i x j c hx hc => by
              obtain ⟨csE, h2, h3, _⟩ := hxs i x hx
              obtain ⟨v, hv, hr⟩ := h3.get hc
              have := (cells_at h2).2 j v hv
              rw [addr_add, addr_add] at this
              exact ⟨v, this, hr⟩
            have hlenE : ∀ (i : Nat) x, xs[i]? = some x → (tb.enc e x).length = P.cellsOf e := fun i x hx => by
              obtain ⟨csE, h2, h3, _⟩ := hxs i x hx
              rw [h3.length, (cells_at h2).1]
            refine .sl e xs b off cap (fun i j => (w.cell? ⟨b, off + i * P.cellsOf e + j, none⟩).getD (.bool false)) (by omega) hcm hlenE (fun _ => ⟨?_, .inl (hg b)⟩) (fun i x j c hx hc => ?_) (fun i x j c hx hc => ?_)
            · obtain ⟨x0, hx0⟩ : ∃ x, xs[0]? = some x := ⟨xs[0], List.getElem?_eq_getElem (by omega)⟩
              obtain ⟨c0, hc0⟩ : ∃ c, (tb.enc e x0)[0]? = some c := ⟨(tb.enc e x0)[0]'(by rw [hlenE 0 x0 hx0]; exact hpos), List.getElem?_eq_getElem _⟩
              obtain ⟨v, hv, _⟩ := hcell 0 x0 0 c0 hx0 hc0
              unfold World.cell? at hv
              cases hh : w.heap[b]? with
              | none => simp [hh] at hv
              | some o => exact (Array.getElem?_eq_some_iff.1 hh).1
            · obtain ⟨v, hv, _⟩ := hcell i x j c hx hc
              rw [hv]; rfl
            · obtain ⟨v, hv, hr⟩ := hcell i x j c hx hc
              rw [hv]; exact hr
      · rename_i fs hu
        cases hkf : kindsOf.kindsF (kindsOf P d) P fs.toList 0 with
        | none => simp [hkf] at hk
        | some l =>
          simp only [hkf] at hk
          cases hlb : Nat.beq l.length (P.cellsOf t) with
          | false => simp [hlb] at hk
          | true =>
            have hll : l.length = P.cellsOf t := Nat.eq_of_beq_eq_true hlb
            simp only [hlb, cond_true, Option.some.injEq] at hk
            subst hk
            obtain ⟨xs, n', hn, rfl, hcl, hxl, hf⟩ := DataW.trod_struct hu h
            obtain rfl : n = n' := by omega
            have := read_fields (A := fun e => e ∈ R.S ∧ 0 < P.cellsOf e) (fun t ks cs x => ih d t ks cs x) fs.toList 0 l xs hkf (by simpa using hxl) (by omega) (fun i f hi => hf i f (by simpa using hi)) (fun m hm => hw m (by simpa [DataW.weights, hu] using hm)) hs
            rwa [List.drop_zero, List.take_of_length_le (by omega)] at this
      · cases hk

/-! ## what a reading finds can be decoded -/
def AllIs {T : Nat → Type} : List CK → (List (CV T) → Prop) → Prop
  | [], p => p []
  | .int k :: ks, p => ∀ n, AllIs ks fun cs => p (.int k n :: cs)
  | .bool :: ks, p => ∀ b, AllIs ks fun cs => p (.bool b :: cs)
  | .str :: ks, p => ∀ s, AllIs ks fun cs => p (.str s :: cs)
  | .sl e :: ks, p => ∀ xs, AllIs ks fun cs => p (.sl e xs :: cs)
theorem allIs {T : Nat → Type} : ∀ {ks : List CK} {p : List (CV T) → Prop}, AllIs ks p → ∀ cs, All2 CV.is ks cs → p cs
  | [], p, h, [], _ => h
  | [], _, _, _ :: _, h => h.elim
  | _ :: _, _, _, [], h => by simp [All2] at h
  | k :: ks, p, h, c :: cs, ⟨h1, h2⟩ => by
    cases k with
    | int k => cases c <;> simp [CV.is] at h1; subst h1; exact allIs (p := fun cs => p (_ :: cs)) (h _) cs h2
    | bool => cases c <;> simp [CV.is] at h1; exact allIs (p := fun cs => p (_ :: cs)) (h _) cs h2
    | str => cases c <;> simp [CV.is] at h1; exact allIs (p := fun cs => p (_ :: cs)) (h _) cs h2
    | sl e => cases c <;> simp [CV.is] at h1; subst h1; exact allIs (p := fun cs => p (_ :: cs)) (h _) cs h2
/-- all that the table asks of a type, out of closed facts -/
theorem rd_type {t D : Nat} {S : List Nat} {ks : List CK} (hk : kindsOf P D t = some ks) (hs : ks.all (fun k => match k with | .sl e => S.contains e && Nat.blt 0 (P.cellsOf e) | _ => true) = true) (hd : AllIs ks fun cs => (tb.dec t cs).isSome = true) :
    ∃ ks, kindsOf P D t = some ks ∧ (∀ e, CK.sl e ∈ ks → e ∈ S ∧ 0 < P.cellsOf e) ∧ ∀ cs : List (CV tb.T), All2 CV.is ks cs → ∃ x, tb.dec t cs = some x := by
  refine ⟨ks, hk, fun e he => ?_, fun cs hc => Option.isSome_iff_exists.1 (allIs hd cs hc)⟩
  have := List.all_eq_true.1 hs _ he
  simp only [Bool.and_eq_true, List.contains_iff_mem] at this
  exact ⟨this.1, Nat.le_of_ble_eq_true this.2⟩
end Go.Ev

/- A row out of a contract: the law's call, from its arguments' reading to what the row asks behind it. -/
namespace Go.Ev
open Go Go.RowKit Go.ChangeShapes Go.WideShapes

variable {P : Program} {tb : Tab} {H : Type} {enc : TypeId × Value → H} {w : World} {g : Gh}

def insOf : Nat → List Nat → LSpec
  | _, [] => []
  | i, t :: ts => (i, .val t) :: insOf (i + 1) ts

/-- what the arguments bring along -/
def WfL (P : Program) (tb : Tab) : (l : LSpec) → XS tb l → Prop
  | [], _ => True
  | [a], x => one a x
  | a :: b :: l, (x, xs) => one a x ∧ WfL P tb (b :: l) xs
where
  one (a : Nat × Pat) (x : X tb a.2) : Prop := match a.2, x with
    | .val e, x => ∀ c ∈ tb.enc e x, Wf P tb c
    | _, _ => True

/-- a type's outer form, as its values have it -/
theorem aggOf_some {t : Nat} {b : Bool} (h : aggOf P t = some b) : isAggB P t = b := by
  unfold isAggB; rw [h]

theorem okWide_form {r : Reach} {base : Nat} {t : Nat} {v : Value} (h : Value.okWide P w r base t v) {ks : List CK} {d : Nat} (hk : kindsOf P d t = some ks) :
    if isAggB P t then ∃ us, v = .agg us ∧ v.cells = us else v.cells = #[v] := by
  cases d with
  | zero => simp [kindsOf] at hk
  | succ d =>
    unfold kindsOf at hk
    split at hk
    · rename_i k hu
      obtain ⟨n, rfl⟩ := okWide_int hu h
      have : isAggB P t = false := by simp [isAggB, aggOf, hu]
      simp [this, Value.cells]
    · rename_i hu
      obtain ⟨n, rfl⟩ := okWide_bool hu h
      have : isAggB P t = false := by simp [isAggB, aggOf, hu]
      simp [this, Value.cells]
    · rename_i hu
      obtain ⟨n, rfl⟩ := okWide_string hu h
      have : isAggB P t = false := by simp [isAggB, aggOf, hu]
      simp [this, Value.cells]
    · rename_i hu
      obtain ⟨a, l, c, rfl⟩ := okWide_slice hu h
      have : isAggB P t = false := by simp [isAggB, aggOf, hu]
      simp [this, Value.cells]
    · rename_i fs hu
      obtain ⟨us, rfl, _⟩ := okWide_struct hu h
      have : isAggB P t = true := by simp [isAggB, aggOf, hu]
      simp [this, Value.cells]
    · cases hk

theorem holdsV_of {t : Nat} {x : tb.T t} {v : Value} (hf : if isAggB P t then ∃ us, v = .agg us ∧ v.cells = us else v.cells = #[v]) (hr : All2 (RepD P tb g w) (tb.enc t x) v.cells.toList) : HoldsV P tb g w t x v := by
  unfold HoldsV
  cases ha : isAggB P t with
  | true =>
    simp only [ha, if_true] at hf ⊢
    obtain ⟨us, rfl, hc⟩ := hf
    exact ⟨us.toList, by simp, by rw [← hc]; exact hr⟩
  | false =>
    simp only [ha, Bool.false_eq_true, if_false] at hf ⊢
    rw [hf] at hr
    cases he : tb.enc t x with
    | nil => rw [he] at hr; exact hr.elim
    | cons c cs =>
      rw [he] at hr
      obtain ⟨h1, h2⟩ := hr
      cases cs with
      | nil => exact ⟨c, rfl, h1⟩
      | cons _ _ => exact h2.elim

/-- one argument more -/
theorem holds_argc {i t : Nat} {l : LSpec} {v : Value} {vs : List Value} {bs : List (Option Nat)} {x : tb.T t} (h : HoldsV P tb g w t x v) (hw : ∀ c ∈ tb.enc t x, Wf P tb c)
    (ih : ∃ xs : XS tb l, HoldsL P tb g w l xs vs bs ∧ WfL P tb l xs) : ∃ xs : XS tb ((i, .val t) :: l), HoldsL P tb g w ((i, .val t) :: l) xs (v :: vs) (none :: bs) ∧ WfL P tb ((i, .val t) :: l) xs := by
  obtain ⟨xs, h1, h2⟩ := ih
  cases l with
  | nil =>
    cases vs with
    | nil => cases bs with
      | nil => exact ⟨x, ⟨h, rfl⟩, hw⟩
      | cons _ _ => exact h1.elim
    | cons _ _ => exact h1.elim
  | cons a l => exact ⟨(x, xs), ⟨⟨h, rfl⟩, h1⟩, ⟨hw, h2⟩⟩

/-- all arguments, read -/
theorem read_args (R : RdTab P tb) (hg : ∀ b, g b = .con) {base : Nat} : ∀ (ts : List Nat) (i : Nat) (vs : List Value) (ds : List (DataW H)) (p : List MemPlace), (∀ t ∈ ts, t ∈ R.S) →
    (∀ (j : Nat) t v, ts[j]? = some t → vs[j]? = some v → Value.okWide P w .any base t v) → DataW.TrodAll enc P w 0 (fun _ => true) true ts vs ds p → (∀ m ∈ DataW.weightsEach P ts ds, m ≤ 140737488351232) →
    ∃ xs : XS tb (insOf i ts), HoldsL P tb g w (insOf i ts) xs vs (ts.map fun _ => none) ∧ WfL P tb (insOf i ts) xs
  | [], i, vs, ds, p, _, _, h, _ => by
    cases vs with
    | nil => exact ⟨(), trivial, trivial⟩
    | cons v vs => cases ds <;> exact h.elim
  | t :: ts, i, vs, ds, p, hS, hv, h, hw => by
    cases vs with
    | nil => cases ds <;> exact h.elim
    | cons v vs =>
      cases ds with
      | nil => exact h.elim
      | cons d ds =>
        obtain ⟨p1, p2, ⟨fuel, h1⟩, h2, rfl⟩ := h
        obtain ⟨ks, hk, hs, _⟩ := R.kinds t (hS t (by simp))
        have hf := okWide_form (hv 0 t v rfl rfl) hk
        obtain ⟨x, hx, hxw⟩ := R.dec (hS t (by simp)) hk (read R hg fuel _ t ks _ _ hk h1 (fun m hm => hw m (by simp [DataW.weightsEach, hm])) hs)
        exact holds_argc (holdsV_of hf hx) hxw (read_args R hg ts (i + 1) vs ds p2 (fun t ht => hS t (by simp [ht])) (fun j t v ht hv' => hv (j + 1) t v (by simpa using ht) (by simpa using hv')) h2 (fun m hm => hw m (by simp [DataW.weightsEach, hm])))

theorem trodAll_length {ts : List Nat} {base : Nat} {sp : Nat → Bool} {held : Bool} : ∀ {ts : List Nat} {vs : List Value} {ds : List (DataW H)} {p : List MemPlace}, DataW.TrodAll enc P w base sp held ts vs ds p → ds.length = ts.length ∧ vs.length = ts.length
  | [], [], [], _, _ => ⟨rfl, rfl⟩
  | _ :: _, _ :: _, _ :: _, _, ⟨_, _, _, h, _⟩ => by
    have := trodAll_length (ts := ts) h
    exact ⟨by simp [this.1], by simp [this.2]⟩
  | [], _ :: _, _, _, h => by simp [DataW.TrodAll] at h
  | [], [], _ :: _, _, h => by simp [DataW.TrodAll] at h
  | _ :: _, [], _, _, h => by simp [DataW.TrodAll] at h
  | _ :: _, _ :: _, [], _, h => by simp [DataW.TrodAll] at h

theorem trodAll_stays {w' : World} (hl : laidOutB P = true) (hb : Below w.heap.size w w') : ∀ {ts : List Nat} {vs : List Value} {ds : List (DataW H)} {p : List MemPlace}, (∀ t ∈ ts, P.readableRec t = true ∧ t < P.types.size) →
    DataW.TrodAll enc P w 0 (fun _ => true) true ts vs ds p → DataW.TrodAll enc P w' 0 (fun b => decide (b < w.heap.size)) true ts vs ds p
  | [], [], [], _, _, h => h
  | t :: ts, v :: vs, d :: ds, _, hr, ⟨p, q, h1, h2, e⟩ => by
    refine ⟨p, q, Below.trod hl (hr t (by simp)).1 (hr t (by simp)).2 h1 hb ?_, trodAll_stays hl hb (fun t ht => hr t (by simp [ht])) h2, e⟩
    obtain ⟨fuel, h1⟩ := h1
    exact fun x hx => DataW.trod_lt fuel _ _ _ h1 x hx
  | [], _ :: _, _, _, _, h => by simp [DataW.TrodAll] at h
  | [], [], _ :: _, _, _, h => by simp [DataW.TrodAll] at h
  | _ :: _, [], _, _, _, h => by simp [DataW.TrodAll] at h
  | _ :: _, _ :: _, [], _, _, h => by simp [DataW.TrodAll] at h

theorem blocks_none (ts : List Nat) : blocksOf (ts.map fun _ => (none : Option Nat)) = [] := by induction ts <;> simp_all [blocksOf]
theorem touched_none : ∀ (l : LSpec) (ts : List Nat), touched l (ts.map fun _ => (none : Option Nat)) = []
  | [], ts => by cases ts <;> rfl
  | a :: l, [] => rfl
  | a :: l, t :: ts => by
    have := touched_none l ts
    obtain ⟨n, p⟩ := a
    cases p <;> simp [touched, this]

/-- what a law tells: true -/
def TellsTrue (P : Program) (tb : Tab) (sp : FSpec tb) : Prop := ∀ x, WfL P tb sp.ins x → ∃ y, sp.f x = some y ∧ ∀ g w us cs v, HoldsL P tb g w sp.outs y.outs us cs → RetV sp.outs us v → v = .bool true

theorem law_calls (R : RdTab P tb) {f : Nat} {fn : Func} {sp : FSpec tb} {s : ChangeSpec} {ts : List Nat} {rb : Nat} (hsound : FnSound P tb f sp) (hlaw : TellsTrue P tb sp)
    (hp : fn.params.toList = ts) (hins : sp.ins = insOf 0 ts) (hS : ∀ t ∈ ts, t ∈ R.S) (hr : fn.resultTypes = #[rb]) (hrb : P.underlying rb = some .bool)
    (hvars : s.vars = []) (hfn : ∀ ds : List (DataW H), ds.length = ts.length → s.fn H ds = { results := [.lit (.bool true)], args := ds })
    (hl : laidOutB P = true) (hread : ∀ t ∈ ts, P.readableRec t = true ∧ t < P.types.size)
    {W : World} {base : Nat} {args : Array Value} {ds gs : List (DataW H)} {before : List MemPlace}
    (hval : ∀ (j : Nat) t v, fn.params[j]? = some t → args[j]? = some v → Value.okWide P W .any base t v)
    (hW : DataW.Whole enc P fn.params.toList s.vars false W args.toList ds gs before)
    (hz : (DataW.weightsEach P (fn.params.toList ++ s.plain.varTypes P) (ds ++ gs)).all (· ≤ reachBytes) = true)
    (hinv : tb.inv (fun _ => .con) W) (hpl : plainB sp.ins sp.outs = true := by rfl) :
    Calls P f args W fun e W' => ∃ v, e = .returned v ∧ s.post enc P fn false true false false W args v W' := by
  obtain ⟨ins, outs, F⟩ := sp
  simp only at hins
  subst hins
  have hW' := hW
  obtain ⟨p, q, hA, hV, rfl, _, _⟩ := hW
  rw [hvars] at hV
  obtain ⟨rfl, rfl⟩ := trodVars_none hV
  rw [hp] at hA
  obtain ⟨hdl, hvl⟩ := trodAll_length (ts := ts) hA
  have hwt : ∀ m ∈ DataW.weightsEach P ts ds, m ≤ 140737488351232 := by
    have e0 : s.plain.varTypes P = [] := by
      have : s.plain.vars = [] := hvars
      simp [DataSpec.varTypes, this]
    rw [hp, e0, List.append_nil, List.append_nil] at hz
    intro m hm
    have := List.all_eq_true.1 hz m hm
    have : m ≤ reachBytes := by simpa using this
    unfold reachBytes at this
    omega
  obtain ⟨x, hx, hxw⟩ := read_args R (g := fun _ => .con) (fun _ => rfl) ts 0 args.toList ds p hS (fun j t v ht hv => hval j t v (by rw [← hp] at ht; simpa using ht) (by simpa using hv)) hA hwt
  obtain ⟨y, hy, hout⟩ := hlaw x hxw
  have hc := hsound.2 (fun _ => .con) W x args.toList _ y hy hinv (plain_at hpl hx.length.1) hx (by rw [blocks_none]; exact List.nodup_nil)
  rw [plain_ins hpl hx.length.1] at hc
  have ea : args.toList.toArray = args := by simp
  rw [ea] at hc
  refine hc.mono ?_
  rintro e W1 ⟨v, us, cs, g', rfl, hret, _, hext, hho, _⟩
  rw [(plain_outs hpl hho.length.1).1, (plain_outs hpl hho.length.1).2] at hret
  have hv := hout g' W1 us cs v hho hret
  subst hv
  refine ⟨_, rfl, ds, [], p ++ [], [], p, [], hW', ?_, ?_, ?_, ?_, fun h => by cases h⟩
  · rw [List.append_nil, hfn ds hdl, hr]
    exact trodAll_mk1 (shut_bool hrb true)
  · rw [List.append_nil, hfn ds hdl, hp]
    refine trodAll_stays hl ⟨hext.os, hext.tape, hext.output, hext.size, fun k hk => (hext.con k hk rfl).1⟩ hread hA
  · rw [List.append_nil, hfn ds hdl, hvars]
    rfl
  · exact Below.frame ⟨hext.os, hext.tape, hext.output, hext.size, fun k hk => (hext.con k hk rfl).1⟩ _
end Go.Ev
