/- What an operation does to the evaluator's state, and when it does the same elsewhere. -/
import Derived.Test.YtmlbknmjgahcfaaDoorEvR2
namespace Go.Ev
open Go

variable {P : Program} {tb : Tab} {R : Type} {Γ : List (Nat × FSpec tb)} {s s' s1 : St tb.T}

theorem vals_congr {T : Nat → Type} {ρ ρ' : Operand → Option (SV T)} : ∀ {xs : List Operand}, (∀ x ∈ xs, ρ x = ρ' x) → vals ρ xs = vals ρ' xs
  | [], _ => rfl
  | x :: xs, h => by
    simp only [vals]
    rw [h x (by simp), vals_congr (xs := xs) fun y hy => h y (by simp [hy])]
theorem fillS_congr {T : Nat → Type} {ρ ρ' : Operand → Option (SV T)} {t : Nat} : ∀ {ps : List (Nat × Operand)} {cells : List (AC T)}, (∀ p ∈ ps, ρ p.2 = ρ' p.2) → fillS P t ρ ps cells = fillS P t ρ' ps cells
  | [], _, _ => rfl
  | (i, x) :: ps, cells, h => by
    simp only [fillS]
    rw [h (i, x) (by simp)]
    simp only [fillS_congr (ps := ps) fun y hy => h y (by simp [hy])]
theorem boundOf_congr {T : Nat → Type} {ρ ρ' : Operand → Option (SV T)} {x : Option Operand} {d : Int} (h : ∀ y ∈ x.toList, ρ y = ρ' y) : boundOf ρ x d = boundOf ρ' x d := by
  cases x with
  | none => rfl
  | some y => simp only [boundOf]; rw [h y (by simp)]

theorem evP_congr {ρ ρ' : Operand → Option (SV tb.T)} {κ : SV tb.T → Option R} (o : Op) (h : ∀ x ∈ o.operands.toList, ρ x = ρ' x) : evP P tb o ρ κ = evP P tb o ρ' κ := by
  cases o
  case call c =>
    obtain ⟨callee, args, tys⟩ := c
    have hv : vals ρ args.toList = vals ρ' args.toList := vals_congr fun x hx => h x (by
      simp only [Op.operands, Call.operands, Array.toList_append, List.mem_append]; exact .inr hx)
    cases callee with
    | builtin b => cases b <;> simp only [evP, hv]
    | value f => rfl
    | invoke r m => rfl
  case build t ps =>
    have : ∀ cells : List (AC tb.T), fillS P t ρ ps.toList cells = fillS P t ρ' ps.toList cells := fun cells => fillS_congr fun p hp => h p.2 (by
      simp only [Op.operands, List.mem_map]; exact ⟨p, hp, rfl⟩)
    simp only [evP, this]
  case slice t x l hh m =>
    have hx := h x (by simp [Op.operands])
    have h1 : ∀ d, boundOf ρ l d = boundOf ρ' l d := fun d => boundOf_congr fun y hy => h y (by cases l <;> simp_all [Op.operands])
    have h2 : ∀ d, boundOf ρ hh d = boundOf ρ' hh d := fun d => boundOf_congr fun y hy => h y (by cases hh <;> simp_all [Op.operands])
    simp only [evP, hx, h1, h2]
  all_goals first
    | rfl
    | (simp only [evP]; simp only [Op.operands, List.mem_cons, List.not_mem_nil, or_false, forall_eq_or_imp, forall_eq] at h; simp only [h]; done)

structure Eff (T : Nat → Type) where
  d : Option Nat
  v : SV T
  F : Nat → Bool := fun _ => false
  b : Nat → Option (List (AC T)) := fun _ => none
  it : Nat → Option (List UInt8 × Nat) := fun _ => none
  tk : Nat → Bool := fun _ => false

def Eff.apply {T : Nat → Type} (e : Eff T) (s : St T) : St T :=
  { env := match e.d with | some d => upd s.env d (some e.v) | none => s.env
    blk := fun i => (e.b i).or (s.blk i)
    itr := fun i => (e.it i).or (s.itr i)
    tok := fun i => e.tk i || s.tok i
    used := fun i => e.F i || s.used i
    ro := s.ro }

def Foot.mem : Foot → Nat → Prop
  | .l i, j | .st i, j => j = i
  | _, _ => False

structure Does (P : Program) (tb : Tab) (Γ : List (Nat × FSpec tb)) (o : Oper) (s : St tb.T) (f : Foot) (s' : St tb.T) (e : Eff tb.T) : Prop where
  eq : s' = e.apply s
  fresh : ∀ i, e.F i = true → s.used i = false
  mb : ∀ i, e.b i ≠ none → e.F i = true ∨ f = .st i
  mit : ∀ i, e.it i ≠ none → e.F i = true
  dst : e.d = none ∨ e.d = o.dst
  reads : ∀ i, f.mem i → ∃ t v, .tmp t ∈ o.op.operands.toList ∧ s.env t = some v ∧ i ∈ v.ids
  again : ∀ s1, (∀ x ∈ o.op.operands.toList, s1.val x = s.val x) → (∀ i, f.mem i → s1.blk i = s.blk i) → s1.ro = s.ro → (∀ i, e.F i = true → s1.used i = false) → evOp P tb Γ o s1 some = some (e.apply s1) ∧ footOf Γ o.op s1 = f

theorem apply_putO (s : St tb.T) (d : Option Nat) (v : SV tb.T) : s.putO d v = Eff.apply { d := d, v := v } s := by
  cases d <;> simp [Eff.apply, St.putO, St.put]

theorem does_P {o : Oper} (ho : ∀ s : St tb.T, evOp P tb Γ o s some = evP P tb o.op s.val fun v => some (s.putO o.dst v)) (hf : ∀ s : St tb.T, footOf Γ o.op s = footOf Γ o.op s') (hfm : ∀ i, ¬ (footOf Γ o.op s').mem i)
    (he : evOp P tb Γ o s some = some s') : ∃ e, Does P tb Γ o s (footOf Γ o.op s) s' e := by
  rw [ho, evP_k] at he
  obtain ⟨v, hv, he⟩ := obnd_eq_some.1 he
  simp only [Option.some.injEq] at he
  refine ⟨{ d := o.dst, v := v }, by rw [← he, apply_putO], by simp, by simp, by simp, .inr rfl, fun i hi => absurd (by rw [← hf s]; exact hi) (hfm i), fun s1 h1 _ _ _ => ⟨?_, by rw [hf s1, hf s]⟩⟩
  rw [ho, evP_k, evP_congr o.op h1, hv]
  simp only [obnd_some, apply_putO]

theorem ids_tmp {x : Operand} {v : SV tb.T} {i : Nat} (hv : s.val x = some v) (hi : i ∈ v.ids) : ∃ t, x = .tmp t ∧ s.env t = some v := by
  cases x with
  | tmp t => exact ⟨t, rfl, hv⟩
  | const c =>
    simp only [St.val] at hv
    cases hc : (constV c : Option (AC tb.T)) with
    | none => simp [hc] at hv
    | some ac =>
      simp only [hc, Option.some.injEq] at hv; subst hv
      have := (constV_sound (P := default) (tb := tb) (g := fun _ => .con) (w := default) (μ := fun _ => 0) (τ := fun _ => none) (tok := fun _ => false) hc).2
      simp [SV.ids, this] at hi
  | global _ => simp [St.val] at hv
  | func f => simp only [St.val, Option.some.injEq] at hv; subst hv; simp [SV.ids, AC.ids] at hi
end Go.Ev
