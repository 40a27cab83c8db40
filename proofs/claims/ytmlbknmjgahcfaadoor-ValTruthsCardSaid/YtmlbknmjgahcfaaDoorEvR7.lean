/- Regions whose order is open: every order ends as the text's. -/
import Derived.Test.YtmlbknmjgahcfaaDoorEvR6
namespace Go.Ev
open Go

variable {P : Program} {tb : Tab} {N : Nat} {W : Nat → Prop} {a0 : Act} {g0 : Gh} {w0 : World} {D0 : Nat → Prop}
variable {s s' s1 s2 : St tb.T} {Γ : List (Nat × FSpec tb)} {ops : Array Oper} {Q : Exit → Act → World → Prop}

/-- some frame stands for it -/
def Lives (P : Program) (tb : Tab) (N : Nat) (W : Nat → Prop) (a0 : Act) (g0 : Gh) (w0 : World) (D0 : Nat → Prop) (s : St tb.T) : Prop := ∃ a w, Sim P tb N W a0 g0 w0 D0 s a w

theorem Lives.step (hΓ : ∀ p ∈ Γ, FnKeeps P tb p.1 p.2) (hsl : ∀ p ∈ Γ, p.2.ins.map (·.1) = List.range p.2.ins.length) (h : Lives P tb N W a0 g0 w0 D0 s) {i : Nat} {o : Oper} (ho : ops[i]? = some o)
    (hd : ∀ d, o.dst = some d → d < N ∧ W d) {f : Foot} (he : GStep P tb Γ ops o s f s') : Lives P tb N W a0 g0 w0 D0 s' := by
  obtain ⟨a, w, g, μ, τ, h⟩ := h
  obtain ⟨a', w', h'⟩ := wpOp_ex (gstep_sound hΓ hsl h ho hd he)
  exact ⟨a', w', h'⟩

theorem run_move (hΓ : ∀ p ∈ Γ, FnKeeps P tb p.1 p.2) (hsl : ∀ p ∈ Γ, p.2.ins.map (·.1) = List.range p.2.ins.length) (hd : ∀ o ∈ ops.toList, ∀ d, o.dst = some d → d < N ∧ W d) {i : Nat} {f : Foot} {post : List (Nat × Foot)} {oi : Oper} (hoi : ops[i]? = some oi) :
    ∀ {pre : List (Nat × Foot)} {s s' : St tb.T}, Lives P tb N W a0 g0 w0 D0 s → Run P tb Γ ops (pre ++ (i, f) :: post) s s' → (∀ p ∈ pre, ∀ op, ops[p.1]? = some op → Foot.free p.2 f = true ∧ Oper.apart ops op oi = true) →
      Run P tb Γ ops ((i, f) :: pre ++ post) s s'
  | [], _, _, _, h, _ => h
  | (j, g) :: pre, s, s', hl, h, hf => by
    obtain ⟨o, s1, h1, h2, h3⟩ := h
    have hdo : ∀ d, o.dst = some d → d < N ∧ W d := hd o (by have := Array.mem_of_getElem? h1; simpa using this)
    obtain ⟨o2, s2, k1, k2, k3⟩ := run_move hΓ hsl hd hoi (hl.step hΓ hsl h1 hdo h2) h3 fun p hp => hf p (by simp [hp])
    rw [hoi] at k1; simp only [Option.some.injEq] at k1; subst k1
    obtain ⟨q1, q2⟩ := hf (j, g) (by simp) o h1
    obtain ⟨a, w, gh, μ, τ, hs⟩ := hl
    obtain ⟨s3, r1, r2⟩ := gstep_commute hs.uenv h2 k2 q1 q2
    exact ⟨oi, s3, hoi, r1, o, s2, h1, r2, k3⟩

/-! ## what must stand before -/
def Closed (ops : Array Oper) (L : Nat → Prop) : Prop := ∀ i o, ops[i]? = some o → L i → ∀ e ∈ o.after, Region.binds .any e = true → L e.on
def Good (ops : Array Oper) (k m : Nat) : Prop := ∀ j, Nat.testBit m j = true → ∀ L : Nat → Prop, Closed ops L → (∀ o, ops[k]? = some o → ∀ e ∈ o.after, Region.binds .any e = true → L e.on) → L j

theorem maskOf_bit {acc : List Nat} {j : Nat} : ∀ {es : List Edge} {m : Nat}, Nat.testBit (maskOf acc es m) j = true → Nat.testBit m j = true ∨ ∃ e ∈ es, Region.binds .any e = true ∧ (j = e.on ∨ Nat.testBit (acc.getD e.on 0) j = true)
  | [], m, h => .inl h
  | e :: es, m, h => by
    simp only [maskOf] at h
    cases hb : Region.binds .any e with
    | false =>
      simp only [hb, cond_false] at h
      rcases maskOf_bit h with c | ⟨e', h1, h2⟩
      · exact .inl c
      · exact .inr ⟨e', by simp [h1], h2⟩
    | true =>
      simp only [hb, cond_true] at h
      rcases maskOf_bit h with c | ⟨e', h1, h2⟩
      · simp only [Nat.testBit_or, Bool.or_eq_true] at c
        rcases c with (c | c) | c
        · exact .inl c
        · refine .inr ⟨e, by simp, hb, .inl ?_⟩
          rw [Nat.testBit_two_pow] at c
          exact (of_decide_eq_true c).symm
        · exact .inr ⟨e, by simp, hb, .inr c⟩
      · exact .inr ⟨e', by simp [h1], h2⟩

theorem good_of {acc : List Nat} {k : Nat} {o : Oper} (ho : ops[k]? = some o) (h : ∀ (i : Nat) m, acc[i]? = some m → Good ops i m) : Good ops k (maskOf acc o.after.toList 0) := by
  intro j hj L hc hL
  rcases maskOf_bit hj with c | ⟨e, h1, h2, h3⟩
  · simp at c
  · have he := hL o ho e (by simpa using h1) h2
    rcases h3 with rfl | h3
    · exact he
    · cases hm : acc[e.on]? with
      | none => simp [hm] at h3
      | some m =>
        simp only [List.getD_eq_getElem?_getD, hm, Option.getD_some] at h3
        exact h e.on m hm j h3 L hc fun o' ho' e' he' hb' => hc e.on o' ho' he e' he' hb'

theorem masks_good : ∀ (os : List Oper) (acc : List Nat), (∀ j, os[j]? = ops[acc.length + j]?) → (∀ (i : Nat) m, acc[i]? = some m → Good ops i m) → ∀ (i : Nat) m, (masks os acc)[i]? = some m → Good ops i m
  | [], acc, _, h, i, m, hm => h i m hm
  | o :: os, acc, ho, h, i, m, hm => by
    have e : masks (o :: os) acc = masks os (acc ++ [maskOf acc o.after.toList 0]) := by
      simp only [masks]
      split <;> rename_i h0 <;> rw [h0]
    rw [e] at hm
    have h0 : ops[acc.length]? = some o := by simpa using (ho 0).symm
    refine masks_good os (acc ++ [maskOf acc o.after.toList 0]) (fun j => ?_) (fun i m hm => ?_) i m hm
    · have := ho (j + 1)
      simp only [List.getElem?_cons_succ] at this
      rw [this]; congr 1; simp; omega
    · rcases Nat.lt_or_ge i acc.length with c | c
      · rw [List.getElem?_append_left c] at hm; exact h i m hm
      · rw [List.getElem?_append_right c] at hm
        have hi : i - acc.length = 0 := by
          have := (List.getElem?_eq_some_iff.1 hm).1
          simp at this; omega
        have hi' : i = acc.length := by omega
        subst hi'
        simp at hm; subst hm
        exact good_of h0 h

/-! ## the run that the evaluator has gone through -/
def Ok (ops : Array Oper) (x y : Nat × Foot) : Prop := ∀ ox oy, ops[x.1]? = some ox → ops[y.1]? = some oy → (∃ m, Good ops y.1 m ∧ Nat.testBit m x.1 = true) ∨ (Foot.free x.2 y.2 = true ∧ Oper.apart ops ox oy = true)

theorem seenOk_get {m : Nat} {o : Oper} {f : Foot} : ∀ {ps : List (Oper × Foot)} {j0 : Nat}, seenOk ops m o f ps j0 = true → ∀ (j : Nat) p, ps[j]? = some p → Nat.testBit m (j0 + j) = true ∨ (Foot.free p.2 f = true ∧ Oper.apart ops p.1 o = true)
  | [], _, _, j, p, hp => by simp at hp
  | (q, g) :: ps, j0, h, j, p, hp => by
    simp only [seenOk, Bool.and_eq_true, Bool.or_eq_true] at h
    cases j with
    | zero => simp at hp; subst hp; exact h.1
    | succ j =>
      simp only [List.getElem?_cons_succ] at hp
      have := seenOk_get h.2 j p hp
      rw [show j0 + (j + 1) = j0 + 1 + j from by omega]; exact this

theorem evOpsD_run : ∀ (os : List Oper) (ms : List Nat) (seen : List (Oper × Foot)) (s s' : St tb.T), (∀ j, os[j]? = ops[seen.length + j]?) → (∀ j m, ms[j]? = some m → Good ops (seen.length + j) m) → (∀ (j : Nat) p, seen[j]? = some p → ops[j]? = some p.1) →
    evOpsD P tb Γ ops os ms seen s some = some s' →
    ∃ R : List (Nat × Foot), R.map (·.1) = List.range' seen.length os.length ∧ Run P tb Γ ops R s s' ∧ R.Pairwise (Ok ops) ∧ (∀ (j : Nat) p, seen[j]? = some p → ∀ y ∈ R, Ok ops (j, p.2) y)
  | [], _, _, s, s', _, _, _, h => by
    simp only [evOpsD, Option.some.injEq] at h
    exact ⟨[], rfl, h.symm, .nil, by simp⟩
  | _ :: _, [], _, _, _, _, _, _, h => by simp [evOpsD] at h
  | o :: os, m :: ms, seen, s, s', ho, hm, hs, h => by
    have h0 : ops[seen.length]? = some o := by simpa using (ho 0).symm
    have hm0 : Good ops seen.length m := by simpa using hm 0 m rfl
    simp only [evOpsD] at h
    rw [evG_k] at h
    obtain ⟨⟨f, s1⟩, h1, h2⟩ := obnd_eq_some.1 h
    simp only at h2
    cases hk : seenOk ops m o f seen 0 with
    | false => simp [hk] at h2
    | true =>
      simp only [hk, cond_true] at h2
      obtain ⟨R, r1, r2, r3, r4⟩ := evOpsD_run os ms (seen ++ [(o, f)]) s1 s' (fun j => by
        have := ho (j + 1)
        simp only [List.getElem?_cons_succ] at this
        rw [this]; congr 1; simp; omega) (fun j m hj => by
          have := hm (j + 1) m (by simpa using hj)
          rw [show (seen ++ [(o, f)]).length + j = seen.length + (j + 1) from by simp; omega]; exact this) (fun j p hj => by
          rcases Nat.lt_or_ge j seen.length with c | c
          · rw [List.getElem?_append_left c] at hj; exact hs j p hj
          · rw [List.getElem?_append_right c] at hj
            have hi : j - seen.length = 0 := by
              have := (List.getElem?_eq_some_iff.1 hj).1
              simp at this; omega
            have hi' : j = seen.length := by omega
            subst hi'
            simp at hj; subst hj; exact h0) h2
      refine ⟨(seen.length, f) :: R, by simp [r1, List.range'_succ], ⟨o, s1, h0, gstep_of h1, r2⟩, List.pairwise_cons.2 ⟨fun y hy => ?_, r3⟩, fun j p hj y hy => ?_⟩
      · exact r4 seen.length (o, f) (by simp) y hy
      · have hjl := (List.getElem?_eq_some_iff.1 hj).1
        rcases List.mem_cons.1 hy with rfl | hy
        · intro ox oy h3 h4
          simp only at h3 h4
          rw [h0] at h4; simp only [Option.some.injEq] at h4; subst h4
          rw [hs j p hj] at h3; simp only [Option.some.injEq] at h3; subst h3
          rcases seenOk_get hk j p hj with c | c
          · exact .inl ⟨m, hm0, by simpa using c⟩
          · exact .inr c
        · exact r4 j p (by rw [List.getElem?_append_left hjl]; exact hj) y hy

theorem backs_get : ∀ {os : List Oper} {i : Nat}, backs os i = true → ∀ (j : Nat) o, os[j]? = some o → ∀ e ∈ o.after, Region.binds .any e = true → e.on < i + j
  | [], _, _, j, o, ho, _, _, _ => by simp at ho
  | q :: os, i, h, j, o, ho, e, he, hb => by
    simp only [backs, Bool.and_eq_true, List.all_eq_true] at h
    cases j with
    | zero =>
      simp at ho; subst ho
      have := h.1 e (by simpa using he)
      simp only [hb, Bool.not_true, Bool.false_or] at this
      exact Nat.le_of_ble_eq_true this
    | succ j =>
      simp only [List.getElem?_cons_succ] at ho
      have := backs_get h.2 j o ho e he hb
      omega

theorem wpAny_run (hΓ : ∀ p ∈ Γ, FnKeeps P tb p.1 p.2) (hsl : ∀ p ∈ Γ, p.2.ins.map (·.1) = List.range p.2.ins.length) (hd : ∀ o ∈ ops.toList, ∀ d, o.dst = some d → d < N ∧ W d) (hbk : backs ops.toList 0 = true) (hQ : ∀ a w, Sim P tb N W a0 g0 w0 D0 s' a w → Q .normal a w) :
    ∀ (fuel : Nat) (listed : Array Bool) (R : List (Nat × Foot)) (s : St tb.T) (a : Act) (w : World), R.length = fuel → listed.size = ops.size → (∀ j, j < ops.size → (listed.getD j true = false ↔ j ∈ R.map (·.1))) → (∀ j ∈ R.map (·.1), j < ops.size) →
      Closed ops (fun j => listed.getD j false = true) → (R.map (·.1)).Pairwise (· < ·) → R.Pairwise (Ok ops) → Run P tb Γ ops R s s' → Sim P tb N W a0 g0 w0 D0 s a w → wpAny P .any ops Q fuel listed a w := by
  intro fuel
  induction fuel with
  | zero =>
    intro listed R s a w hlen hsz hin hlt hcl hlt2 hok hrun hsim
    have : R = [] := List.eq_nil_of_length_eq_zero hlen
    subst this
    have hs : s' = s := hrun
    subst hs
    refine ⟨?_, hQ a w hsim⟩
    cases hr : Region.ready .any ops listed with
    | nil => rfl
    | cons j l =>
      have hj : j ∈ Region.ready .any ops listed := by rw [hr]; simp
      obtain ⟨h1, o, h2, _⟩ := mem_ready.1 hj
      have := (hin j (Array.getElem?_eq_some_iff.1 h2).1).1 h1
      simp at this
  | succ fuel ih =>
    intro listed R s a w hlen hsz hin hlt hcl hlt2 hok hrun hsim
    refine ⟨fun hnil => ?_, fun i hi => ?_⟩
    · exfalso
      cases R with
      | nil => simp at hlen
      | cons x R =>
        obtain ⟨k, f⟩ := x
        obtain ⟨o, s1, ho, hst, _⟩ := hrun
        have hk : k < ops.size := (Array.getElem?_eq_some_iff.1 ho).1
        have : k ∈ Region.ready .any ops listed := by
          rw [mem_ready]
          refine ⟨(hin k hk).2 (by simp), o, ho, fun e he hb => ?_⟩
          have he1 : e.on < k := by
            have := backs_get hbk k o (by simpa using ho) e he hb
            omega
          have he2 : e.on < listed.size := by omega
          cases hl : listed.getD e.on false with
          | true => rfl
          | false =>
            exfalso
            have h1 : listed.getD e.on true = false := by
              rw [Array.getD_eq_getD_getElem?, Array.getElem?_eq_getElem he2] at hl ⊢
              exact hl
            have h2 := (hin e.on (by omega)).1 h1
            simp only [List.map_cons, List.mem_cons] at h2
            rcases h2 with h2 | h2
            · omega
            · have := (List.pairwise_cons.1 hlt2).1 e.on h2
              simp only at this
              omega
        rw [hnil] at this; cases this
    · obtain ⟨h1, oi, h2, h3⟩ := mem_ready.1 hi
      have hi' : i < ops.size := (Array.getElem?_eq_some_iff.1 h2).1
      have hmem := (hin i hi').1 h1
      obtain ⟨⟨i', f⟩, hm, e⟩ := List.mem_map.1 hmem
      simp only at e; subst e
      obtain ⟨pre, post, rfl⟩ := List.append_of_mem hm
      have hfree : ∀ p ∈ pre, ∀ op, ops[p.1]? = some op → Foot.free p.2 f = true ∧ Oper.apart ops op oi = true := fun p hp op hop => by
        have hpw := (List.pairwise_append.1 hok).2.2 p hp (i', f) (by simp) op oi hop h2
        rcases hpw with ⟨m, hg, hb⟩ | c
        · exfalso
          have hl := hg p.1 hb (fun j => listed.getD j false = true) hcl (fun o ho e he hbb => by
            rw [h2] at ho; simp only [Option.some.injEq] at ho; subst ho
            exact h3 e he hbb)
          have hp' : p.1 < ops.size := (Array.getElem?_eq_some_iff.1 hop).1
          have hu := (hin p.1 hp').2 (by simp only [List.map_append, List.mem_append]; exact .inl (List.mem_map_of_mem hp))
          rw [Array.getD_eq_getD_getElem?, Array.getElem?_eq_getElem (by omega)] at hl hu
          simp only [Option.getD_some] at hl hu
          rw [hl] at hu; cases hu
        · exact c
      have hrun2 := run_move hΓ hsl hd h2 ⟨a, w, hsim⟩ hrun hfree
      obtain ⟨o, s1, ho, hst, hrest⟩ := hrun2
      rw [h2] at ho; simp only [Option.some.injEq] at ho; subst ho
      have hsub : List.Sublist (pre ++ post) (pre ++ (i', f) :: post) := List.Sublist.append (List.Sublist.refl _) (List.sublist_cons_self _ _)
      have hnd : ∀ j ∈ (pre ++ post).map (·.1), j ≠ i' := fun j hj e => by
        subst e
        rw [List.map_append, List.map_cons] at hlt2
        have hp := List.pairwise_append.1 hlt2
        rw [List.map_append, List.mem_append] at hj
        rcases hj with hj | hj
        · have := hp.2.2 j hj j (by simp); omega
        · have := (List.pairwise_cons.1 hp.2.1).1 j hj; omega
      obtain ⟨g, μ, τ, hsim⟩ := hsim
      refine wpOp_mono (fun a1 w1 hs1 => ?_) (gstep_sound hΓ hsl hsim h2 (hd oi (by have := Array.mem_of_getElem? h2; simpa using this)) hst)
      refine ih (listed.setIfInBounds i' true) (pre ++ post) s1 a1 w1 (by simp at hlen ⊢; omega) (by simp [hsz]) (fun j hj => ?_) (fun j hj => hlt j (by
        have := hsub.map Prod.fst
        exact this.subset hj)) (fun k ok hok' hk e he hb => ?_) (hlt2.sublist (hsub.map _)) (hok.sublist hsub) hrest hs1
      · by_cases hji : j = i'
        · subst hji
          have : (listed.setIfInBounds j true).getD j true = true := by
            rw [Array.getD_eq_getD_getElem?]
            rw [Array.getElem?_setIfInBounds_self]
            split <;> rfl
          rw [this]
          constructor
          · intro h; cases h
          · intro h; exact absurd rfl (hnd j h)
        · rw [getD_set_ne true (fun e => hji e.symm), hin j hj]
          simp only [List.map_append, List.map_cons, List.mem_append, List.mem_cons]
          constructor
          · rintro (h | h | h)
            · exact .inl h
            · exact absurd h hji
            · exact .inr h
          · rintro (h | h)
            · exact .inl h
            · exact .inr (.inr h)
      · by_cases hki : k = i'
        · subst hki
          rw [h2] at hok'; simp only [Option.some.injEq] at hok'; subst hok'
          exact getD_set_true (h3 e he hb)
        · simp only at hk ⊢
          rw [getD_set_ne false (fun e => hki e.symm)] at hk
          exact getD_set_true (hcl k ok hok' hk e he hb)

/-- **a region whose order is open** -/
theorem wp_region_evD (hm : P.follows .mixedOrders = true) (hΓ : ∀ p ∈ Γ, FnKeeps P tb p.1 p.2) (hsl : ∀ p ∈ Γ, p.2.ins.map (·.1) = List.range p.2.ins.length) (hd : ∀ o ∈ ops.toList, ∀ d, o.dst = some d → d < N ∧ W d) (hbk : backs ops.toList 0 = true)
    {a : Act} {w : World} (h : Sim P tb N W a0 g0 w0 D0 s a w) (he : evOpsD P tb Γ ops ops.toList (masks ops.toList []) [] s some = some s') (hQ : ∀ a w, Sim P tb N W a0 g0 w0 D0 s' a w → Q .normal a w) {id : Nat} : (Code.region id ops true).wp P Q a w := by
  refine wp_region_any hm ?_
  obtain ⟨R, r1, r2, r3, _⟩ := evOpsD_run ops.toList (masks ops.toList []) [] s s' (fun j => by simp) (fun j m hj => by
    simpa using masks_good (ops := ops) ops.toList [] (fun j => by simp) (fun i m h => by simp at h) j m hj) (fun j p h => by simp at h) he
  obtain ⟨g, μ, τ, h⟩ := h
  simp only [List.length_nil, Array.length_toList] at r1
  refine wpAny_run hΓ hsl hd hbk hQ ops.size (Array.replicate ops.size false) R s a _ ?_ (by simp) (fun j hj => ?_) (fun j hj => ?_) (fun i o ho hi => ?_) ?_ r3 r2 ⟨g, μ, τ, h.world rfl rfl rfl rfl⟩
  · have := congrArg List.length r1; simpa using this
  · rw [r1]
    simp [hj, List.mem_range'_1]
  · rw [r1] at hj; simpa [List.mem_range'_1] using hj
  · exfalso
    have hil : i < ops.size := (Array.getElem?_eq_some_iff.1 ho).1
    simp [hil] at hi
  · rw [r1]; exact List.pairwise_lt_range' 
end Go.Ev
