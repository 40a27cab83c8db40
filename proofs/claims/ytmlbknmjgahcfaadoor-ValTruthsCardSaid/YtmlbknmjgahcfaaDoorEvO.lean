/- What comes back, as the evaluator goes on with it. -/
import Derived.Test.YtmlbknmjgahcfaaDoorEvN
namespace Go.Ev
open Go

variable {P : Program} {tb : Tab} {N : Nat} {W : Nat → Prop} {a0 : Act} {g0 : Gh} {w0 : World} {D0 : Nat → Prop}
variable {s s' : St tb.T} {g g' : Gh} {μ μ' : Nat → Nat} {τ τ' : Nat → Option Nat} {a : Act} {w w' : World} {D : Nat → Prop}

theorem fit_exists : ∀ {l : LSpec} {bs : List (Option Nat)}, l.length = bs.length → (l.map (·.1)).Nodup → ∃ μ τ, Fit μ τ l bs
  | [], [], _, _ => ⟨fun _ => 0, fun _ => none, trivial⟩
  | p :: l, b :: bs, hl, hn => by
    rw [List.map_cons] at hn
    obtain ⟨h1, h2⟩ := List.nodup_cons.1 hn
    obtain ⟨μ, τ, h⟩ := fit_exists (l := l) (bs := bs) (by simpa using hl) h2
    have key : ∀ {l : LSpec} {bs : List (Option Nat)}, Fit μ τ l bs → p.1 ∉ l.map (·.1) → Fit (upd μ p.1 (b.getD 0)) (upd τ p.1 b) l bs := by
      intro l
      induction l with
      | nil => intro bs h _; cases bs with
        | nil => trivial
        | cons _ _ => exact h.elim
      | cons q l ih =>
        intro bs h hq
        cases bs with
        | nil => exact h.elim
        | cons c bs =>
          simp only [List.map_cons, List.mem_cons, not_or] at hq
          obtain ⟨k1, k2, k3⟩ := h
          refine ⟨by rw [upd_other _ _ (fun e => hq.1 e.symm)]; exact k1, fun k hk => by rw [upd_other _ _ (fun e => hq.1 e.symm)]; exact k2 k hk, ih k3 hq.2⟩
    exact ⟨upd μ p.1 (b.getD 0), upd τ p.1 b, upd_same _ _ _, fun k hk => by rw [upd_same, hk]; rfl, key h h1⟩
  | [], _ :: _, h, _ => by simp at h
  | _ :: _, [], h, _ => by simp at h

theorem HoldsL.length : ∀ {l : LSpec} {x : XS tb l} {vs : List Value} {bs : List (Option Nat)}, HoldsL P tb g w l x vs bs → l.length = vs.length ∧ l.length = bs.length
  | [], _, [], [], _ => ⟨rfl, rfl⟩
  | [_], _, [_], [_], _ => ⟨rfl, rfl⟩
  | _ :: q :: l, (_, xs), _ :: vs, _ :: bs, h => by
    obtain ⟨h1, h2⟩ := HoldsL.length h.2
    exact ⟨by simp only [List.length_cons] at h1 ⊢; omega, by simp only [List.length_cons] at h2 ⊢; omega⟩
  | [], _, [], _ :: _, h => h.elim
  | [], _, _ :: _, _, h => h.elim
  | [_], _, [], _, h => h.elim
  | [_], _, [_], [], h => h.elim
  | [_], _, [_], _ :: _ :: _, h => h.elim
  | [_], _, _ :: _ :: _, _, h => h.elim
  | _ :: _ :: _, _, [], _, h => h.elim
  | _ :: _ :: _, _, _ :: _, [], h => h.elim

/-- a block handed over that may be written -/
theorem touched_id {get : Nat → Option (SV tb.T)} : ∀ {l : LSpec} {bs : List (Option Nat)}, BlkL s μ τ get l bs → ∀ k ∈ touched l bs,
    k ∈ blocksOf bs ∧ ((∃ i ∈ idsS get l, s.tok i = true ∧ τ i = some k) ∨ (∃ i ∈ idsS get (refsOf l), isLive s i ∧ μ i = k ∧ s.ro i = false))
  | [], [], _, k, hk => by simp [touched] at hk
  | q :: l, b :: bs, ⟨⟨v, hg, hb⟩, h2⟩, k, hk => by
    simp only [touched] at hk
    have hmem : k ∈ blocksOf bs → k ∈ blocksOf (b :: bs) := fun hm => by
      unfold blocksOf at hm ⊢
      rw [List.filterMap_cons]
      cases b with
      | none => exact hm
      | some k' => exact List.mem_cons_of_mem _ hm
    rcases List.mem_append.1 hk with hk | hk
    · have hbk : b = some k ∧ ∀ e, q.2 ≠ .ro e := by
        split at hk
        · simp at hk
        · rename_i hne
          cases b with
          | none => simp at hk
          | some k' => simp at hk; subst hk; exact ⟨rfl, fun e he => hne e he⟩
      obtain ⟨rfl, hne⟩ := hbk
      refine ⟨by simp [blocksOf], ?_⟩
      obtain ⟨t, p⟩ := q
      cases p with
      | val e => rcases v with ac | as | ts <;> simp [BlkOf] at hb
      | own e =>
        rcases v with ac | as | ts
        · cases ac <;> simp only [BlkOf, reduceCtorEq] at hb
          rename_i t'
          exact .inl ⟨t', by simp [idsS, hg, idsP], hb.2, hb.1.symm⟩
        · simp [BlkOf] at hb
        · simp [BlkOf] at hb
      | ref e =>
        rcases v with ac | as | ts
        · cases ac <;> simp only [BlkOf, reduceCtorEq] at hb
          rename_i i _
          exact .inr ⟨i, by simp [refsOf, Pat.isRef, idsS, hg, idsP], hb.2.1, (Option.some.inj hb.1).symm, hb.2.2⟩
        · simp [BlkOf] at hb
        · simp [BlkOf] at hb
      | ro e => exact absurd rfl (hne e)
      | iter =>
        rcases v with ac | as | ts
        · cases ac <;> simp only [BlkOf, reduceCtorEq] at hb
          rename_i i _
          exact .inr ⟨i, by simp [refsOf, Pat.isRef, idsS, hg, idsP], hb.2.1, (Option.some.inj hb.1).symm, hb.2.2⟩
        · simp [BlkOf] at hb
        · simp [BlkOf] at hb
    · obtain ⟨m, ih⟩ := touched_id h2 k hk
      refine ⟨hmem m, ih.imp (fun ⟨i, hi, h⟩ => ⟨i, by simp only [idsS, List.mem_append]; exact .inr hi, h⟩) (fun ⟨i, hi, h⟩ => ⟨i, ?_, h⟩)⟩
      simp only [refsOf]
      cases q.2.isRef
      · exact hi
      · simp only [cond_true, idsS, List.mem_append]; exact .inr hi

/-- what was handed over, taken off -/
theorem SimAt.take {get : Nat → Option (SV tb.T)} {ins : LSpec} {bs : List (Option Nat)} (h : SimAt P tb N W a0 g0 w0 D0 s g μ τ a w) (hb : BlkL s μ τ get ins bs)
    (he : Ext g w g' w' (fun b => b ∈ touched ins bs)) :
    SimAt P tb N W a0 g0 w0 D0 (s.take get ins) g' μ τ a w' ∧ (∀ t k, (s.take get ins).tok t = true → τ t = some k → k ∉ blocksOf bs ∧ k < w.heap.size) ∧
      (∀ i, isLive (s.take get ins) i → isLive s i ∧ i ∉ idsS get (refsOf ins)) := by
  have htk : ∀ t, (s.take get ins).tok t = true → s.tok t = true ∧ t ∉ idsS get ins := fun t ht => by
    simp only [St.take] at ht
    cases hm : memB t (idsS get ins) with
    | true => simp [hm] at ht
    | false => 
      simp only [hm, cond_false] at ht
      exact ⟨ht, fun hi => by rw [memB_iff.2 hi] at hm; cases hm⟩
  have hlv : ∀ i, isLive (s.take get ins) i → isLive s i ∧ i ∉ idsS get (refsOf ins) := fun i hi => by
    have hm : memB i (idsS get (refsOf ins)) = false := by
      cases hm : memB i (idsS get (refsOf ins)) with
      | false => rfl
      | true => simp [isLive, St.take, hm] at hi
    exact ⟨by simpa [isLive, St.take, hm] using hi, fun hi' => by rw [memB_iff.2 hi'] at hm; cases hm⟩
  have htb : ∀ t k, (s.take get ins).tok t = true → τ t = some k → k ∉ blocksOf bs := fun t k ht hk hm => by
    obtain ⟨h1, h2⟩ := htk t ht
    obtain ⟨j, hj, hj'⟩ := blk_id hb k hm
    have := blk_inj h (.inl ⟨h1, hk⟩) hj'
    exact h2 (this ▸ hj)
  have hlb : ∀ i, isLive (s.take get ins) i → μ i ∉ touched ins bs := fun i hi hm => by
    obtain ⟨h1, h2⟩ := hlv i hi
    rcases (touched_id hb _ hm).2 with ⟨j, hj, hj1, hj2⟩ | ⟨j, hj, hj1, hj2, _⟩
    · have := blk_inj h (.inr ⟨h1, rfl⟩) (.inl ⟨hj1, hj2⟩)
      subst this
      obtain ⟨⟨n, hn⟩, _⟩ := (h.tokv i hj1).2 _ hj2
      rw [(h.live i h1).2.1] at hn; cases hn
    · have := h.inj i j h1 hj1 hj2.symm
      exact h2 (this ▸ hj)
  refine ⟨h.move he ?_ rfl (fun _ h => h) rfl (fun _ _ => ⟨rfl, rfl⟩) (fun i hi ht => ⟨(htk i ht).1, fun b hb' hm => htb i b ht hb' (touched_id hb b hm).1⟩) ?_ ?_ (fun i hi => .inl (hlv i hi).1) (fun i j hi _ li => absurd (hlv i hi).1 li) ?_ ?_ ?_, fun t k ht hk => ⟨htb t k ht hk, ((h.tokv t (htk t ht).1).2 k hk).2.1⟩, hlv⟩
  · intro b hb' hm
    rcases (touched_id hb b hm).2 with ⟨j, hj, hj1, hj2⟩ | ⟨j, hj, hj1, hj2, hj3⟩
    · exact ((h.tokv j hj1).2 b hj2).2.2
    · have := (h.live j hj1).2.2.2
      rw [hj2, hj3] at this
      exact this.resolve_left (by simp)
  · intro i cs hc
    have hi : isLive (s.take get ins) i := .inl (by rw [hc]; simp)
    refine .inl ⟨?_, hlb i hi⟩
    simp only [St.take] at hc
    cases hm : memB i (idsS get (refsOf ins)) <;> simp [hm] at hc
    exact hc
  · intro i l p hc
    have hi : isLive (s.take get ins) i := .inr (by rw [hc]; simp)
    refine .inl ⟨?_, hlb i hi⟩
    simp only [St.take] at hc
    cases hm : memB i (idsS get (refsOf ins)) <;> simp [hm] at hc
    exact hc
  · intro i hi
    simp only [St.take] at hi ⊢
    cases hm : memB i (idsS get (refsOf ins)) <;> simp only [hm, cond_true, cond_false, ne_eq, not_true_eq_false] at hi ⊢
    exact h.excl i hi
  · intro t ht hu; have := (h.tokv t (htk t ht).1).1; rw [this] at hu; cases hu
  · intro t u b ht _ hu; have := (h.tokv t (htk t ht).1).1; rw [this] at hu; cases hu

/-- a reference's block comes back -/
theorem SimAt.addBlk (h : SimAt P tb N W a0 g0 w0 D0 s g μ τ a w) {i e : Nat} {x : tb.T e} (hn : ¬ isLive s i) (hu : s.used i = true) (hb : HoldsB P tb g w e x (μ i)) (hw : w0.heap.size ≤ μ i ∨ D0 (μ i)) (hd : ∀ j, isLive s j → μ j ≠ μ i) :
    SimAt P tb N W a0 g0 w0 D0 { s with blk := upd s.blk i (some ((tb.enc e x).map .d)) } g μ τ a w := by
  obtain ⟨k1, k2, us, el, fz, k3, k4, k5⟩ := hb
  have hlv : ∀ j, isLive { s with blk := upd s.blk i (some ((tb.enc e x).map .d)) } j → j = i ∨ isLive s j := fun j hj => by
    by_cases e' : j = i
    · exact .inl e'
    · right; simpa [isLive, upd_eq, e'] using hj
  refine ⟨h.ext, h.size, h.defers, h.frame, h.env, ?_, h.itr, ?_, ?_, h.tokv, h.tinj, ?_, h.rou, h.uenv, ?_, h.inv0⟩
  · intro j cs hc
    simp only [upd_eq] at hc
    by_cases e' : j = i
    · subst e'; simp at hc; subst hc; exact ⟨us, el, fz, k3, k4, All2_d k5⟩
    · simp only [e', if_false] at hc; exact h.blk j cs hc
  · intro j hj
    rcases hlv j hj with c | c
    · subst c; exact ⟨hu, k2, k1, .inr hw⟩
    · exact h.live j c
  · intro j j' hj hj' e'
    rcases hlv j hj with c | c <;> rcases hlv j' hj' with c' | c'
    · rw [c, c']
    · subst c; exact absurd e'.symm (hd j' c')
    · subst c'; exact absurd e' (hd j c)
    · exact h.inj j j' c c' e'
  · intro j hj
    have hj' : s.itr j ≠ none := hj
    have e' : j ≠ i := fun e' => by subst e'; exact hn (.inr hj')
    simp only [upd_eq, e', if_false]
    exact h.excl j hj'
  · intro j cs hc y hy k hk
    simp only [upd_eq] at hc
    by_cases e' : j = i
    · subst e'; simp at hc; subst hc
      simp only [List.mem_map] at hy; obtain ⟨_, _, rfl⟩ := hy
      simp [AC.ids] at hk
    · simp only [e', if_false] at hc; exact h.ublk j cs hc y hy k hk
theorem SimAt.addItr (h : SimAt P tb N W a0 g0 w0 D0 s g μ τ a w) {i : Nat} {x : List UInt8 × Nat} (hn : ¬ isLive s i) (hu : s.used i = true) (hr : s.ro i = false) (hb : HoldsI g w x (μ i)) (hw : w0.heap.size ≤ μ i ∨ D0 (μ i)) (hd : ∀ j, isLive s j → μ j ≠ μ i) :
    SimAt P tb N W a0 g0 w0 D0 { s with itr := upd s.itr i (some x) } g μ τ a w := by
  obtain ⟨k1, k2, k3, k4, k5⟩ := hb
  have hlv : ∀ j, isLive { s with itr := upd s.itr i (some x) } j → j = i ∨ isLive s j := fun j hj => by
    by_cases e' : j = i
    · exact .inl e'
    · right; simpa [isLive, upd_eq, e'] using hj
  refine ⟨h.ext, h.size, h.defers, h.frame, h.env, h.blk, ?_, ?_, ?_, h.tokv, h.tinj, ?_, h.rou, h.uenv, h.ublk, h.inv0⟩
  · intro j l p hc
    simp only [upd_eq] at hc
    by_cases e' : j = i
    · subst e'; simp only [if_true] at hc
      have hc := Option.some.inj hc; subst hc; exact ⟨k3, k4, k5⟩
    · simp only [e', if_false] at hc; exact h.itr j l p hc
  · intro j hj
    rcases hlv j hj with c | c
    · subst c; exact ⟨hu, k2, k1, .inr hw⟩
    · exact h.live j c
  · intro j j' hj hj' e'
    rcases hlv j hj with c | c <;> rcases hlv j' hj' with c' | c'
    · rw [c, c']
    · subst c; exact absurd e'.symm (hd j' c')
    · subst c'; exact absurd e' (hd j c)
    · exact h.inj j j' c c' e'
  · intro j hj
    simp only [upd_eq] at hj
    by_cases e' : j = i
    · subst e'
      refine ⟨?_, hr⟩
      cases hbk : s.blk j with
      | none => rfl
      | some cs => exact absurd (.inl (by rw [hbk]; simp)) hn
    · simp only [e', if_false] at hj; exact h.excl j hj
end Go.Ev
