/- Regions whose order is open. -/
import Derived.Test.YtmlbknmjgahcfaaDoorEvR5
namespace Go.Ev
open Go

variable {P : Program} {tb : Tab} {N : Nat} {W : Nat → Prop} {a0 : Act} {g0 : Gh} {w0 : World} {D0 : Nat → Prop}
variable {s s' s1 s2 : St tb.T} {Γ : List (Nat × FSpec tb)} {ops : Array Oper} {Q : Exit → Act → World → Prop}

structure GDoes (P : Program) (tb : Tab) (Γ : List (Nat × FSpec tb)) (ops : Array Oper) (o : Oper) (s : St tb.T) (f : Foot) (s' : St tb.T) (e : Eff tb.T) : Prop where
  eq : s' = e.apply s
  fresh : ∀ i, e.F i = true → s.used i = false
  mb : ∀ i, e.b i ≠ none → e.F i = true ∨ f = .st i
  mit : ∀ i, e.it i ≠ none → e.F i = true
  dst : e.d = none ∨ e.d = o.dst
  reads : ∀ i, f.mem i → ∃ t v, t ∈ o.looksAt ops ∧ s.env t = some v ∧ i ∈ v.ids
  again : ∀ s1, (∀ t ∈ o.looksAt ops, s1.env t = s.env t) → (∀ i, f.mem i → s1.blk i = s.blk i) → s1.ro = s.ro → (∀ i, e.F i = true → s1.used i = false) → GStep P tb Γ ops o s1 f (e.apply s1)

theorem looks_tmp {o : Oper} {t : Nat} (h : .tmp t ∈ o.op.operands.toList) : t ∈ o.looksAt ops := by
  unfold Oper.looksAt
  exact List.mem_append_left _ (List.mem_filterMap.2 ⟨.tmp t, h, rfl⟩)
theorem looks_guard {o : Oper} {j t : Nat} {want : Bool} {oj : Oper} (h : o.guard = some (j, want)) (hj : ops[j]? = some oj) (ht : oj.dst = some t) : t ∈ o.looksAt ops := by
  unfold Oper.looksAt
  refine List.mem_append_right _ ?_
  simp [h, hj, ht]

theorem gstep_does {o : Oper} {f : Foot} (h : GStep P tb Γ ops o s f s') (hx : f ≠ .x) : ∃ e, GDoes P tb Γ ops o s f s' e := by
  cases h with
  | run _ hg he =>
    obtain ⟨e, h1, h2, h3, h4, h5, h6, h7⟩ := evOp_does he hx
    refine ⟨e, h1, h2, h3, h4, h5, fun i hi => ?_, fun s1 k1 k2 k3 k4 => ?_⟩
    · obtain ⟨t, v, q1, q2, q3⟩ := h6 i hi
      exact ⟨t, v, looks_tmp q1, q2, q3⟩
    · obtain ⟨q1, q2⟩ := h7 s1 (fun x hx => by
        cases x with
        | tmp t => exact k1 t (looks_tmp hx)
        | const _ => rfl
        | global _ => rfl
        | func _ => rfl) k2 k3 k4
      rw [← q2]
      refine .run _ (fun j want hj => ?_) q1
      obtain ⟨oj, t, r1, r2, r3⟩ := hg j want hj
      exact ⟨oj, t, r1, r2, by rw [k1 t (looks_guard hj r1 r2)]; exact r3⟩
  | skip j want oj t hg h1 h2 h3 =>
    refine ⟨{ d := o.dst, v := .tup [] }, apply_putO .., by simp, by simp, by simp, .inr rfl, fun i hi => hi.elim, fun s1 k1 _ _ _ => ?_⟩
    rw [← apply_putO]
    refine .skip j want oj t hg h1 h2 ?_
    rw [k1 t (looks_guard hg h1 h2)]; exact h3

theorem not_mem_st {f : Foot} {i : Nat} (h : f = .st i) : f.mem i := by subst h; rfl
theorem free_st {f g : Foot} {i : Nat} (h : Foot.free f g = true) : (f = .st i → ¬ g.mem i) ∧ (g = .st i → ¬ f.mem i) := by
  refine ⟨fun e hm => ?_, fun e hm => ?_⟩ <;> subst e
  · cases g <;> simp only [Foot.mem] at hm <;> subst hm <;> simp [Foot.free] at h
  · cases f <;> simp only [Foot.mem] at hm <;> subst hm <;> simp [Foot.free] at h

theorem gstep_commute {o1 o2 : Oper} {f1 f2 : Foot} (hu : ∀ t v, s.env t = some v → ∀ i ∈ v.ids, s.used i = true) (h1 : GStep P tb Γ ops o1 s f1 s1) (h2 : GStep P tb Γ ops o2 s1 f2 s2) (hf : Foot.free f1 f2 = true) (ha : Oper.apart ops o1 o2 = true) :
    ∃ s3, GStep P tb Γ ops o2 s f2 s3 ∧ GStep P tb Γ ops o1 s3 f1 s2 := by
  have hx1 : f1 ≠ .x := fun e => by subst e; simp [Foot.free] at hf
  have hx2 : f2 ≠ .x := fun e => by subst e; cases f1 <;> simp [Foot.free] at hf
  obtain ⟨e1, d1⟩ := gstep_does h1 hx1
  obtain ⟨e2, d2⟩ := gstep_does h2 hx2
  obtain ⟨a1, a2, a3⟩ := Oper.apart_spec ha
  have henv : ∀ t, (∀ d, o1.dst = some d → t ≠ d) → s1.env t = s.env t := fun t ht => by
    rw [d1.eq]
    simp only [Eff.apply]
    cases hd : e1.d with
    | none => rfl
    | some d =>
      have : o1.dst = some d := by rcases d1.dst with c | c <;> rw [hd] at c; · cases c
                                   · exact c.symm
      simp only
      rw [upd_other _ _ (ht d this)]
  have hl2 : ∀ t ∈ o2.looksAt ops, s1.env t = s.env t := fun t ht => henv t fun d hd e => a1 d hd (e ▸ ht)
  have hus1 : ∀ i, s1.used i = (e1.F i || s.used i) := fun i => by rw [d1.eq]; rfl
  have hr2 : ∀ i, f2.mem i → s.used i = true := fun i hi => by
    obtain ⟨t, v, q1, q2, q3⟩ := d2.reads i hi
    rw [hl2 t q1] at q2
    exact hu t v q2 i q3
  have hr1 : ∀ i, f1.mem i → s.used i = true := fun i hi => by
    obtain ⟨t, v, q1, q2, q3⟩ := d1.reads i hi
    exact hu t v q2 i q3
  have hF2 : ∀ i, e2.F i = true → e1.F i = false ∧ s.used i = false := fun i hi => by
    have := d2.fresh i hi
    rw [hus1] at this
    simpa using this
  have hb1 : ∀ i, f2.mem i → e1.b i = none := fun i hi => by
    apply Classical.byContradiction
    intro hne
    rcases d1.mb i hne with c | c
    · have := d1.fresh i c; rw [hr2 i hi] at this; cases this
    · exact (free_st hf).1 c hi
  have hb2 : ∀ i, f1.mem i → e2.b i = none := fun i hi => by
    apply Classical.byContradiction
    intro hne
    rcases d2.mb i hne with c | c
    · have := (hF2 i c).2; rw [hr1 i hi] at this; cases this
    · exact (free_st hf).2 c hi
  have s2' := d2.again s (fun t ht => (hl2 t ht).symm) (fun i hi => by rw [d1.eq]; simp [Eff.apply, hb1 i hi]) (by rw [d1.eq]; rfl) (fun i hi => (hF2 i hi).2)
  refine ⟨_, s2', ?_⟩
  have s3' := d1.again (e2.apply s) (fun t ht => ?_) (fun i hi => by simp [Eff.apply, hb2 i hi]) rfl (fun i hi => ?_)
  · have : e1.apply (e2.apply s) = s2 := by
      rw [d2.eq, d1.eq]
      simp only [Eff.apply, St.mk.injEq]
      refine ⟨?_, ?_, ?_, ?_, ?_, trivial⟩
      · cases hd1 : e1.d with
        | none => rfl
        | some x =>
          cases hd2 : e2.d with
          | none => rfl
          | some y =>
            have q1 : o1.dst = some x := by rcases d1.dst with c | c <;> rw [hd1] at c; · cases c
                                            · exact c.symm
            have q2 : o2.dst = some y := by rcases d2.dst with c | c <;> rw [hd2] at c; · cases c
                                            · exact c.symm
            have hne : x ≠ y := fun e => a2 x q1 (e ▸ q2)
            funext t
            simp only [upd_eq]
            split
            · rename_i e; subst e; rw [if_neg hne]
            · rfl
      · funext i
        cases hbi : e1.b i with
        | none => cases e2.b i <;> simp
        | some x =>
          have : e2.b i = none := by
            apply Classical.byContradiction
            intro hne
            rcases d2.mb i hne with c | c
            · obtain ⟨k1, k2⟩ := hF2 i c
              rcases d1.mb i (by rw [hbi]; simp) with e | e
              · rw [k1] at e; cases e
              · rw [hr1 i (not_mem_st e)] at k2; cases k2
            · have := hb1 i (not_mem_st c); rw [hbi] at this; cases this
          simp [this]
      · funext i
        cases hbi : e1.it i with
        | none => cases e2.it i <;> simp
        | some x =>
          have : e2.it i = none := by
            apply Classical.byContradiction
            intro hne
            have k := (hF2 i (d2.mit i hne)).1
            rw [d1.mit i (by rw [hbi]; simp)] at k; cases k
          simp [this]
      · funext i; cases e1.tk i <;> cases e2.tk i <;> simp
      · funext i; cases e1.F i <;> cases e2.F i <;> simp
    rw [← this]; exact s3'
  · simp only [Eff.apply]
    cases hd : e2.d with
    | none => rfl
    | some d =>
      have q : o2.dst = some d := by rcases d2.dst with c | c <;> rw [hd] at c; · cases c
                                     · exact c.symm
      simp only
      exact upd_other _ _ fun e => a3 d q (by rw [← e]; exact ht)
  · simp only [Eff.apply, Bool.or_eq_false_iff]
    refine ⟨?_, d1.fresh i hi⟩
    cases h : e2.F i with
    | false => rfl
    | true => have := (hF2 i h).1; rw [hi] at this; cases this

/-! ## a run, in any order -/
def Run (P : Program) (tb : Tab) (Γ : List (Nat × FSpec tb)) (ops : Array Oper) : List (Nat × Foot) → St tb.T → St tb.T → Prop
  | [], s, s' => s' = s
  | (i, f) :: l, s, s' => ∃ o s1, ops[i]? = some o ∧ GStep P tb Γ ops o s f s1 ∧ Run P tb Γ ops l s1 s'

theorem wpOp_ex {i : Nat} {K : Act → World → Prop} {a : Act} {w : World} (h : wpOp P ops (fun _ _ _ => False) i K a w) : ∃ a w, K a w := by
  unfold wpOp at h
  split at h
  · exact ⟨_, _, h⟩
  · split at h
    · rcases h with h | ⟨_, a0, w0, h⟩
      · rename_i o _ _
        unfold Oper.wp at h
        generalize (execOp a.eval o).run P w = r at h
        cases r with
        | ok n w' =>
          cases n <;> simp only [Oper.upon] at h
          case value => exact ⟨_, _, h⟩
          case skip => exact ⟨_, _, h⟩
          case defer => exact ⟨_, _, h⟩
          case enter f args =>
            obtain ⟨e, w'', fr, hR, _⟩ := h []
            cases e with
            | returned v => exact ⟨_, _, hR⟩
            | panicked c => exact hR.elim
            | outgrown => obtain ⟨_, _, hq⟩ := hR; exact hq.elim
          case row row args =>
            obtain ⟨v, w'', hR, _⟩ := h default []
            exact ⟨_, _, hR⟩
        | halt x w' => cases x <;> simp only [Oper.upon] at h
      · exact h.elim
    · exact ⟨_, _, h⟩
end Go.Ev
