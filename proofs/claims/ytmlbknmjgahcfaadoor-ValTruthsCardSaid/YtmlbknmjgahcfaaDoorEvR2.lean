/- Operations under their guards; regions in their text's order. -/
import Derived.Test.YtmlbknmjgahcfaaDoorEvR
import Derived.Orders
namespace Go.Ev
open Go

variable {P : Program} {tb : Tab} {N : Nat} {W : Nat → Prop} {a0 : Act} {g0 : Gh} {w0 : World} {D0 : Nat → Prop}
variable {s s' : St tb.T} {g g' : Gh} {μ μ' : Nat → Nat} {τ τ' : Nat → Option Nat} {a : Act} {w w' : World}
variable {Γ : List (Nat × FSpec tb)} {ops : Array Oper} {Q : Exit → Act → World → Prop}

theorem upd_id {α : Type} (f : Nat → α) (i : Nat) (v : α) (h : f i = v) : upd f i v = f := funext fun j => by
  rw [upd_eq]; split
  · rename_i e; subst e; exact h.symm
  · rfl
theorem put_id {T : Nat → Type} (s : St T) (t : Nat) (v : SV T) (h : s.env t = some v) : s.put t v = s := by
  unfold St.put; rw [upd_id _ _ _ h]

/-- what has gone before, of an operation under its guard -/
inductive GStep (P : Program) (tb : Tab) (Γ : List (Nat × FSpec tb)) (ops : Array Oper) (o : Oper) (s : St tb.T) : Foot → St tb.T → Prop where
  | run (s' : St tb.T) : (∀ j want, o.guard = some (j, want) → ∃ oj t, ops[j]? = some oj ∧ oj.dst = some t ∧ s.env t = some (.c (.d (.bool want)))) →
      evOp P tb Γ o s some = some s' → GStep P tb Γ ops o s (footOf Γ o.op s) s'
  | skip (j : Nat) (want : Bool) (oj : Oper) (t : Nat) : o.guard = some (j, want) → ops[j]? = some oj → oj.dst = some t → (s.env t = some (.c (.d (.bool (!want)))) ∨ s.env t = some (.tup [])) →
      GStep P tb Γ ops o s .p (s.putO o.dst (.tup []))

theorem gstep_of {o : Oper} {f : Foot} (he : evG P tb Γ ops o s (fun f s' => some (f, s')) = some (f, s')) : GStep P tb Γ ops o s f s' := by
  have key : ∀ f0, evOp P tb Γ o s (fun s' => some (f0, s')) = some (f, s') → evOp P tb Γ o s some = some s' ∧ f = f0 := fun f0 h => by
    rw [evOp_k] at h
    obtain ⟨s1, h1, h2⟩ := obnd_eq_some.1 h
    simp only [Option.some.injEq, Prod.mk.injEq] at h2
    exact ⟨by rw [h1, h2.2], h2.1.symm⟩
  unfold evG at he
  split at he
  · rename_i hg
    obtain ⟨h1, rfl⟩ := key _ he
    exact .run _ (fun j want h => by rw [hg] at h; cases h) h1
  · rename_i j want hg
    split at he
    · cases he
    · rename_i oj hj
      split at he
      · cases he
      · rename_i t ht
        split at he
        · rename_i b hb
          cases b <;> cases want <;> simp only [brn, cond_true, cond_false] at he
          · rw [put_id _ _ _ hb] at he
            obtain ⟨h1, rfl⟩ := key _ he
            refine .run _ (fun j' want' h => ?_) h1
            rw [hg] at h; simp only [Option.some.injEq, Prod.mk.injEq] at h
            obtain ⟨rfl, rfl⟩ := h
            exact ⟨oj, t, hj, ht, hb⟩
          · rw [put_id _ _ _ hb] at he
            simp only [Option.some.injEq, Prod.mk.injEq] at he
            obtain ⟨rfl, rfl⟩ := he
            exact .skip j true oj t hg hj ht (.inl hb)
          · rw [put_id _ _ _ hb] at he
            simp only [Option.some.injEq, Prod.mk.injEq] at he
            obtain ⟨rfl, rfl⟩ := he
            exact .skip j false oj t hg hj ht (.inl hb)
          · rw [put_id _ _ _ hb] at he
            obtain ⟨h1, rfl⟩ := key _ he
            refine .run _ (fun j' want' h => ?_) h1
            rw [hg] at h; simp only [Option.some.injEq, Prod.mk.injEq] at h
            obtain ⟨rfl, rfl⟩ := h
            exact ⟨oj, t, hj, ht, hb⟩
        · rename_i hb
          simp only [Option.some.injEq, Prod.mk.injEq] at he
          obtain ⟨rfl, rfl⟩ := he
          exact .skip j want oj t hg hj ht (.inr hb)
        · cases he

theorem yielded_of (h : SimAt P tb N W a0 g0 w0 D0 s g μ τ a w) {j t : Nat} {oj : Oper} (hj : ops[j]? = some oj) (ht : oj.dst = some t) :
    (∀ b, s.env t = some (.c (.d (.bool b))) → yielded ops a.tmps j = some b) ∧ (s.env t = some (.tup []) → yielded ops a.tmps j = none) := by
  refine ⟨fun b hb => ?_, fun hb => ?_⟩
  · obtain ⟨u, hu, hr⟩ := h.env t _ hb
    have hr' : RepD P tb g w (.bool b) u := hr
    cases hr'
    simp [yielded, hj, ht, hu]
  · obtain ⟨u, hu, us, hr, h2⟩ := h.env t _ hb
    have : us = [] := by cases us with | nil => rfl | cons _ _ => exact h2.elim
    subst this
    simp [yielded, hj, ht, hu, hr]

/-- **an operation under its guard** -/
theorem gstep_sound (hΓ : ∀ p ∈ Γ, FnKeeps P tb p.1 p.2) (hsl : ∀ p ∈ Γ, p.2.ins.map (·.1) = List.range p.2.ins.length) (h : SimAt P tb N W a0 g0 w0 D0 s g μ τ a w) {i : Nat} {o : Oper} (ho : ops[i]? = some o)
    (hd : ∀ d, o.dst = some d → d < N ∧ W d) {f : Foot} (he : GStep P tb Γ ops o s f s') : wpOp P ops Q i (Goes P tb N W a0 g0 w0 D0 s') a w := by
  unfold wpOp
  rw [ho]
  simp only
  cases he with
  | run _ hg he =>
    have hw : Region.wanted o (yielded ops a.tmps) = true := by
      unfold Region.wanted
      cases hgd : o.guard with
      | none => rfl
      | some p =>
        obtain ⟨oj, t, h1, h2, h3⟩ := hg p.1 p.2 hgd
        have := (yielded_of h h1 h2).1 _ h3
        simp [this]
    rw [if_pos hw]
    exact .inl (evOp_sound hΓ hsl h o hd he)
  | skip j want oj t hgd h1 h2 h3 =>
    have hw : Region.wanted o (yielded ops a.tmps) = false := by
      unfold Region.wanted
      rw [hgd]
      rcases h3 with h3 | h3
      · have := (yielded_of h h1 h2).1 _ h3
        simp [this]
      · have := (yielded_of h h1 h2).2 h3
        simp [this]
    rw [hw, if_neg (by simp)]
    exact (h.putO hd (v := .tup []) (u := undef) ⟨[], rfl, trivial⟩ (by simp [SV.ids])).sim


/-- **a region in its text's order** -/
theorem evOps_sound (hΓ : ∀ p ∈ Γ, FnKeeps P tb p.1 p.2) (hsl : ∀ p ∈ Γ, p.2.ins.map (·.1) = List.range p.2.ins.length) (hd : ∀ o ∈ ops.toList, ∀ d, o.dst = some d → d < N ∧ W d) :
    ∀ (os : List Oper) (k : Nat) (s : St tb.T) (a : Act) (w : World), (∀ j, os[j]? = ops[k + j]?) → Sim P tb N W a0 g0 w0 D0 s a w → evOps P tb Γ ops os s some = some s' →
      (∀ a w, Sim P tb N W a0 g0 w0 D0 s' a w → Q .normal a w) → wpOps P ops Q (List.range' k os.length) a w
  | [], k, s, a, w, _, h, he, hQ => by
    simp only [evOps, Option.some.injEq] at he; subst he
    exact hQ a w h
  | o :: os, k, s, a, w, hk, ⟨g, μ, τ, h⟩, he, hQ => by
    have ho : ops[k]? = some o := by simpa using (hk 0).symm
    simp only [evOps] at he
    rw [evG_k] at he
    obtain ⟨⟨f, s1⟩, h1, h2⟩ := obnd_eq_some.1 he
    rw [List.length_cons, List.range'_succ, wpOps_cons]
    refine wpOp_mono (fun a1 w1 h3 => ?_) (gstep_sound hΓ hsl h ho (hd o (by
      have := Array.mem_of_getElem? ho
      simpa using this)) (gstep_of h1))
    exact evOps_sound hΓ hsl hd os (k + 1) s1 a1 w1 (fun j => by
      have := hk (j + 1)
      simp only [List.getElem?_cons_succ] at this
      rw [this]; congr 1; omega) h3 h2 hQ

theorem wp_region_ev (hΓ : ∀ p ∈ Γ, FnKeeps P tb p.1 p.2) (hsl : ∀ p ∈ Γ, p.2.ins.map (·.1) = List.range p.2.ins.length) (hd : ∀ o ∈ ops.toList, ∀ d, o.dst = some d → d < N ∧ W d)
    (h : Sim P tb N W a0 g0 w0 D0 s a w) (he : evOps P tb Γ ops ops.toList s some = some s') (hQ : ∀ a w, Sim P tb N W a0 g0 w0 D0 s' a w → Q .normal a w) {id : Nat} : (Code.region id ops false).wp P Q a w := by
  refine wp_region ?_
  have := evOps_sound (Q := Q) hΓ hsl hd ops.toList 0 s a w (fun j => by simp) h he hQ
  simpa [List.range_eq_range'] using this
end Go.Ev
