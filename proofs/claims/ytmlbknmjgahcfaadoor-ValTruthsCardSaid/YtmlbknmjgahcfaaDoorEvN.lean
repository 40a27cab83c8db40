/- What was handed over, as the evaluator begins with it. -/
import Derived.Test.YtmlbknmjgahcfaaDoorEvH
namespace Go.Ev
open Go

variable {P : Program} {tb : Tab} {g : Gh} {w : World} {μ : Nat → Nat} {τ : Nat → Option Nat} {tok : Nat → Bool}

theorem All2_d {cs : List (CV tb.T)} {us : List Value} (h : All2 (RepD P tb g w) cs us) : All2 (RepC P tb g w μ τ tok) (cs.map AC.d) us :=
  All2.map_left AC.d (h.mono fun _ _ _ h => h)

theorem valSV_sound {e : Nat} {x : tb.T e} {v : Value} (h : HoldsV P tb g w e x v) : RepV P tb g w μ τ tok (valSV P e (tb.enc e x)) v ∧ (valSV P e (tb.enc e x)).ids = [] := by
  unfold HoldsV at h
  unfold valSV
  cases ha : isAggB P e with
  | true =>
    simp only [ha, if_true] at h
    obtain ⟨us, rfl, h⟩ := h
    refine ⟨⟨us, rfl, All2_d h⟩, ?_⟩
    simp only [cond_true, SV.ids, List.flatMap_eq_nil_iff, List.mem_map]
    rintro a ⟨c, _, rfl⟩; rfl
  | false =>
    simp only [ha, Bool.false_eq_true, if_false] at h
    obtain ⟨c, hc, hd⟩ := h
    simp only [hc, cond_false]
    exact ⟨hd, rfl⟩

/-- identities are the slots' numbers -/
def Fit (μ : Nat → Nat) (τ : Nat → Option Nat) : LSpec → List (Option Nat) → Prop
  | [], [] => True
  | a :: l, b :: bs => τ a.1 = b ∧ (∀ k, b = some k → μ a.1 = k) ∧ Fit μ τ l bs
  | _, _ => False
/-- the temporaries hold them -/
def InSlots (a : Act) : LSpec → List Value → Prop
  | [], [] => True
  | p :: l, v :: vs => a.tmps[p.1]? = some v ∧ InSlots a l vs
  | _, _ => False

structure Begun (P : Program) (tb : Tab) (N : Nat) (W : Nat → Prop) (D0 : Nat → Prop) (l : LSpec) (bs : List (Option Nat)) (s : St tb.T) (g : Gh) (μ : Nat → Nat) (τ : Nat → Option Nat) (a : Act) (w : World) : Prop where
  sim : SimAt P tb N W a g w D0 s g μ τ a w
  slots : ∀ i, s.used i = true → i ∈ l.map (·.1)
  toks : ∀ u k, s.tok u = true → τ u = some k → k ∈ blocksOf bs
  lives : ∀ i, isLive s i → μ i ∈ blocksOf bs

variable {N : Nat} {W : Nat → Prop} {D0 : Nat → Prop} {a : Act} {s : St tb.T}

theorem Begun.empty (hinv : tb.inv g w) (hN : a.tmps.size = N) : Begun P tb N W D0 [] [] (St.empty : St tb.T) g μ τ a w := by
  refine ⟨⟨Ext.refl _ _ _, hN, rfl, fun _ _ => rfl, ?_, ?_, ?_, ?_, ?_, ?_, ?_, ?_, ?_, ?_, ?_, hinv⟩, ?_, ?_, ?_⟩ <;> simp [St.empty, isLive]

/-- one more slot -/
theorem Begun.cons {t : Nat} {p : Pat} {l : LSpec} {bs : List (Option Nat)} {b : Option Nat} {x : X tb p} {v : Value}
    (h : Begun P tb N W D0 l bs s g μ τ a w) (hv : a.tmps[t]? = some v) (hp : HoldsP P tb g w p x v b) (ht : t ∉ l.map (·.1)) (hb : ∀ k, b = some k → k ∉ blocksOf bs)
    (hτ : τ t = b) (hμ : ∀ k, b = some k → μ t = k) (hD : ∀ k, b = some k → (∃ e, p = .ro e) ∨ D0 k) :
    Begun P tb N W D0 ((t, p) :: l) (b :: bs) (putP P tb s t t p x) g μ τ a w := by
  obtain ⟨hs, h1, h2, h3⟩ := h
  have hun : s.used t = false := by
    cases hu : s.used t with
    | false => rfl
    | true => exact absurd (h1 t hu) ht
  have hnl := not_live_of_unused hs hun
  have hnt := not_tok_of_unused hs hun
  have hmem : ∀ k, k ∈ blocksOf bs → k ∈ blocksOf (b :: bs) := fun k hk => by
    unfold blocksOf at *
    rw [List.filterMap_cons]
    cases b with
    | none => exact hk
    | some k' => exact List.mem_cons_of_mem _ hk
  have hmem' : ∀ k, b = some k → k ∈ blocksOf (b :: bs) := fun k hk => by
    subst hk; simp [blocksOf]
  have husmono : ∀ i, s.used i = true → upd s.used t true i = true := fun i hi => by rw [upd_eq]; split <;> simp_all
  have hne : ∀ i, s.used i = true → i ≠ t := fun i hi e => by subst e; rw [hi] at hun; cases hun
  -- environment with one more
  have henv : ∀ (sv : SV tb.T) (tok' : Nat → Bool), (∀ u, s.used u = true → tok' u = s.tok u) → RepV P tb g w μ τ tok' sv v →
      ∀ t' v', upd s.env t (some sv) t' = some v' → ∃ u, a.tmps[t']? = some u ∧ RepV P tb g w μ τ tok' v' u := by
    intro sv tok' htok hr t' v' hv'
    rw [upd_eq] at hv'
    by_cases e : t' = t
    · subst e; simp at hv'; subst hv'; exact ⟨v, hv, hr⟩
    · simp only [e, if_false] at hv'
      obtain ⟨u, hu, hru⟩ := hs.env t' v' hv'
      refine ⟨u, hu, RepV.carry (I := fun i => s.used i = true) ⟨Keeps.refl _ _, fun _ _ => ⟨rfl, rfl⟩, fun i hi ht => by rw [htok i hi] at ht; exact ht, fun _ _ _ _ _ => ⟨rfl, rfl⟩⟩ (fun i hi => hs.uenv t' v' hv' i hi) hru⟩
  have hblk : ∀ (tok' : Nat → Bool), (∀ u, s.used u = true → tok' u = s.tok u) → ∀ i cs, s.blk i = some cs → ∃ us el fz, w.heap[μ i]? = some (.cells us el fz) ∧ (∀ j, j < us.size → ¬ (fz.1 ≤ j ∧ j < fz.2)) ∧ All2 (RepC P tb g w μ τ tok') cs us.toList := by
    intro tok' htok i cs hc
    obtain ⟨us, el, fz, e1, e2, e3⟩ := hs.blk i cs hc
    refine ⟨us, el, fz, e1, e2, e3.mono fun y hy u hu => RepC.carry (I := fun i => s.used i = true) ⟨Keeps.refl _ _, fun _ _ => ⟨rfl, rfl⟩, fun i hi ht => by rw [htok i hi] at ht; exact ht, fun _ _ _ _ _ => ⟨rfl, rfl⟩⟩ (fun j hj => hs.ublk i cs hc y hy j hj) hu⟩
  have huenv : ∀ (sv : SV tb.T) (us' : Nat → Bool), (∀ i, s.used i = true → us' i = true) → (∀ i ∈ sv.ids, us' i = true) → ∀ t' v', upd s.env t (some sv) t' = some v' → ∀ i ∈ v'.ids, us' i = true := by
    intro sv us' hus hi t' v' hv' i hi'
    rw [upd_eq] at hv'
    by_cases e : t' = t
    · subst e; simp at hv'; subst hv'; exact hi i hi'
    · simp only [e, if_false] at hv'; exact hus i (hs.uenv t' v' hv' i hi')
  have hslots : ∀ i, upd s.used t true i = true → i ∈ ((t, p) :: l).map (·.1) := fun i hi => by
    rw [upd_eq] at hi
    by_cases e : i = t
    · subst e; simp
    · simp only [e, if_false] at hi; simp only [List.map_cons, List.mem_cons]; exact .inr (h1 i hi)
  cases p with
  | val e =>
    simp only [putP]
    obtain ⟨hp, rfl⟩ := hp
    obtain ⟨r1, r2⟩ := valSV_sound (μ := μ) (τ := τ) (tok := s.tok) hp
    refine ⟨⟨hs.ext, hs.size, hs.defers, hs.frame, henv _ s.tok (fun _ _ => rfl) r1, hs.blk, hs.itr, hs.live, hs.inj, hs.tokv, hs.tinj, hs.excl, hs.rou, huenv _ s.used (fun _ h => h) (by rw [r2]; simp), hs.ublk, hs.inv0⟩, fun i hi => ?_, fun u k hu hk => hmem k (h2 u k hu hk), fun i hi => hmem _ (h3 i hi)⟩
    simp only [List.map_cons, List.mem_cons]; exact .inr (h1 i hi)
  | own e =>
    simp only [putP]
    obtain ⟨r1, r2⟩ := hp
    have htoku : ∀ u, s.used u = true → upd s.tok t true u = s.tok u := fun u hu => upd_other _ _ (hne u hu)
    have htok : ∀ u, u ≠ t → upd s.tok t true u = s.tok u := fun u hu => upd_other _ _ hu
    refine ⟨⟨hs.ext, hs.size, hs.defers, hs.frame, henv _ (upd s.tok t true) htoku ⟨r1, fun _ => by rw [hτ]; exact r2⟩, hblk _ htoku, hs.itr, ?_, hs.inj, ?_, ?_, hs.excl, fun i hi => husmono i (hs.rou i hi), huenv _ _ husmono (by simp [SV.ids, AC.ids, upd_same]), fun i cs hc y hy j hj => husmono j (hs.ublk i cs hc y hy j hj), hs.inv0⟩, hslots, ?_, fun i hi => hmem _ (h3 i hi)⟩
    · intro i hi
      obtain ⟨k1, k2⟩ := hs.live i hi
      exact ⟨husmono i k1, k2⟩
    · intro u hu
      by_cases e' : u = t
      · subst e'
        refine ⟨upd_same _ _ _, fun b' hb' => ?_⟩
        rw [hτ] at hb'
        rcases r2 with ⟨_, e2, _⟩ | ⟨k, off, cap, cells, el, fz, e1, e2, e3, e4, _⟩
        · rw [e2] at hb'; cases hb'
        · rw [e1] at hb'; injection hb' with hb'; subst hb'
          refine ⟨⟨_, e3⟩, (Array.getElem?_eq_some_iff.1 e4).1, .inr ?_⟩
          rcases hD k e1 with ⟨_, hro⟩ | hd
          · cases hro
          · exact hd
      · have hu' : s.tok u = true := by rw [← htok u e']; exact hu
        obtain ⟨k1, k2⟩ := hs.tokv u hu'
        exact ⟨husmono u k1, k2⟩
    · intro u u' b' hu hu' e1 e2
      by_cases c1 : u = t
      · by_cases c2 : u' = t
        · rw [c1, c2]
        · subst c1
          have hu'' : s.tok u' = true := by rw [← htok u' c2]; exact hu'
          exact absurd (h2 u' b' hu'' e2) (hb b' (hτ.symm.trans e1))
      · have hu1 : s.tok u = true := by rw [← htok u c1]; exact hu
        by_cases c2 : u' = t
        · subst c2
          exact absurd (h2 u b' hu1 e1) (hb b' (hτ.symm.trans e2))
        · have hu2 : s.tok u' = true := by rw [← htok u' c2]; exact hu'
          exact hs.tinj u u' b' hu1 hu2 e1 e2
    · intro u k hu hk
      by_cases c1 : u = t
      · subst c1; exact hmem' k (hτ.symm.trans hk)
      · have hu1 : s.tok u = true := by rw [← htok u c1]; exact hu
        exact hmem k (h2 u k hu1 hk)
  | ref e =>
    simp only [putP]
    obtain ⟨k, rfl, rfl, k1, k2, us, el, fz, k3, k4, k5⟩ := hp
    have hk := hμ k rfl
    have hlive : ∀ i, isLive { s with env := upd s.env t (some (.c (.ptr t 0))), blk := upd s.blk t (some ((tb.enc e x).map .d)), used := upd s.used t true } i → i = t ∨ isLive s i := fun i hi => by
      by_cases e' : i = t
      · exact .inl e'
      · right; simpa [isLive, upd_eq, e'] using hi
    refine ⟨⟨hs.ext, hs.size, hs.defers, hs.frame, henv _ s.tok (fun _ _ => rfl) (by simp [RepV, RepC, hk]), ?_, hs.itr, ?_, ?_, fun u hu => ⟨husmono u (hs.tokv u hu).1, (hs.tokv u hu).2⟩, hs.tinj, ?_, fun i hi => husmono i (hs.rou i hi), huenv _ _ husmono (by simp [SV.ids, AC.ids, upd_same]), ?_, hs.inv0⟩, hslots, fun u k' hu hk' => hmem k' (h2 u k' hu hk'), ?_⟩
    · intro i cs hc
      simp only [upd_eq] at hc
      by_cases e' : i = t
      · subst e'; simp at hc; subst hc
        rw [hk]; exact ⟨us, el, fz, k3, k4, All2_d k5⟩
      · simp only [e', if_false] at hc; exact hs.blk i cs hc
    · intro i hi
      rcases hlive i hi with e' | hl
      · subst e'
        refine ⟨upd_same _ _ _, by rw [hk]; exact k2, by rw [hk]; exact k1, .inr (.inr ?_)⟩
        rw [hk]
        rcases hD k rfl with ⟨_, hro⟩ | hd
        · cases hro
        · exact hd
      · obtain ⟨q1, q2⟩ := hs.live i hl
        exact ⟨husmono i q1, q2⟩
    · intro i j hi hj e'
      rcases hlive i hi with c1 | c1 <;> rcases hlive j hj with c2 | c2
      · rw [c1, c2]
      · subst c1; rw [hk] at e'; exact absurd (e' ▸ h3 j c2) (hb k rfl)
      · subst c2; rw [hk] at e'; exact absurd (e' ▸ h3 i c1) (hb k rfl)
      · exact hs.inj i j c1 c2 e'
    · intro i hi
      have hi' : s.itr i ≠ none := hi
      have e' : i ≠ t := fun e' => by subst e'; exact hnl (.inr hi')
      simp only [upd_eq, e', if_false]
      exact hs.excl i hi'
    · intro i cs hc y hy j hj
      simp only [upd_eq] at hc
      by_cases e' : i = t
      · subst e'; simp at hc; subst hc
        simp only [List.mem_map] at hy; obtain ⟨_, _, rfl⟩ := hy
        simp [AC.ids] at hj
      · simp only [e', if_false] at hc; exact husmono j (hs.ublk i cs hc y hy j hj)
    · intro i hi
      rcases hlive i hi with c1 | c1
      · subst c1; rw [hk]; exact hmem' k rfl
      · exact hmem _ (h3 i c1)
  | ro e =>
    simp only [putP]
    obtain ⟨k, rfl, rfl, k1, k2, us, el, fz, k3, k4, k5⟩ := hp
    have hk := hμ k rfl
    have hlive : ∀ i, isLive { s with env := upd s.env t (some (.c (.ptr t 0))), blk := upd s.blk t (some ((tb.enc e x).map .d)), used := upd s.used t true, ro := upd s.ro t true } i → i = t ∨ isLive s i := fun i hi => by
      by_cases e' : i = t
      · exact .inl e'
      · right; simpa [isLive, upd_eq, e'] using hi
    refine ⟨⟨hs.ext, hs.size, hs.defers, hs.frame, henv _ s.tok (fun _ _ => rfl) (by simp [RepV, RepC, hk]), ?_, hs.itr, ?_, ?_, fun u hu => ⟨husmono u (hs.tokv u hu).1, (hs.tokv u hu).2⟩, hs.tinj, ?_, ?_, huenv _ _ husmono (by simp [SV.ids, AC.ids, upd_same]), ?_, hs.inv0⟩, hslots, fun u k' hu hk' => hmem k' (h2 u k' hu hk'), ?_⟩
    · intro i cs hc
      simp only [upd_eq] at hc
      by_cases e' : i = t
      · subst e'; simp at hc; subst hc
        rw [hk]; exact ⟨us, el, fz, k3, k4, All2_d k5⟩
      · simp only [e', if_false] at hc; exact hs.blk i cs hc
    · intro i hi
      rcases hlive i hi with e' | hl
      · subst e'
        exact ⟨upd_same _ _ _, by rw [hk]; exact k2, by rw [hk]; exact k1, .inl (upd_same _ _ _)⟩
      · obtain ⟨q1, q2, q3, q4⟩ := hs.live i hl
        refine ⟨husmono i q1, q2, q3, q4.imp (fun q => ?_) id⟩
        show upd s.ro t true i = true
        rw [upd_eq]; split <;> simp_all
    · intro i j hi hj e'
      rcases hlive i hi with c1 | c1 <;> rcases hlive j hj with c2 | c2
      · rw [c1, c2]
      · subst c1; rw [hk] at e'; exact absurd (e' ▸ h3 j c2) (hb k rfl)
      · subst c2; rw [hk] at e'; exact absurd (e' ▸ h3 i c1) (hb k rfl)
      · exact hs.inj i j c1 c2 e'
    · intro i hi
      have hi' : s.itr i ≠ none := hi
      have e' : i ≠ t := fun e' => by subst e'; exact hnl (.inr hi')
      simp only [upd_eq, e', if_false]
      exact hs.excl i hi'
    · intro i hi
      simp only [upd_eq] at hi ⊢
      by_cases e' : i = t
      · simp [e']
      · simp only [e', if_false] at hi ⊢; exact hs.rou i hi
    · intro i cs hc y hy j hj
      simp only [upd_eq] at hc
      by_cases e' : i = t
      · subst e'; simp at hc; subst hc
        simp only [List.mem_map] at hy; obtain ⟨_, _, rfl⟩ := hy
        simp [AC.ids] at hj
      · simp only [e', if_false] at hc; exact husmono j (hs.ublk i cs hc y hy j hj)
    · intro i hi
      rcases hlive i hi with c1 | c1
      · subst c1; rw [hk]; exact hmem' k rfl
      · exact hmem _ (h3 i c1)
  | iter =>
    simp only [putP]
    obtain ⟨k, rfl, rfl, k1, k2, k3, k4, k5⟩ := hp
    have hk := hμ k rfl
    have hro : s.ro t = false := by
      cases hr : s.ro t with
      | false => rfl
      | true => have := hs.rou t hr; rw [this] at hun; cases hun
    have hlive : ∀ i, isLive { s with env := upd s.env t (some (.c (.ptr t 0))), itr := upd s.itr t (some x), used := upd s.used t true } i → i = t ∨ isLive s i := fun i hi => by
      by_cases e' : i = t
      · exact .inl e'
      · right; simpa [isLive, upd_eq, e'] using hi
    refine ⟨⟨hs.ext, hs.size, hs.defers, hs.frame, henv _ s.tok (fun _ _ => rfl) (by simp [RepV, RepC, hk]), hs.blk, ?_, ?_, ?_, fun u hu => ⟨husmono u (hs.tokv u hu).1, (hs.tokv u hu).2⟩, hs.tinj, ?_, fun i hi => husmono i (hs.rou i hi), huenv _ _ husmono (by simp [SV.ids, AC.ids, upd_same]), fun i cs hc y hy j hj => husmono j (hs.ublk i cs hc y hy j hj), hs.inv0⟩, hslots, fun u k' hu hk' => hmem k' (h2 u k' hu hk'), ?_⟩
    · intro i l' p' hc
      simp only [upd_eq] at hc
      by_cases e' : i = t
      · subst e'
        simp only [if_true] at hc
        have hc : x = (l', p') := Option.some.inj hc
        subst hc
        rw [hk]; exact ⟨k3, k4, k5⟩
      · simp only [e', if_false] at hc; exact hs.itr i l' p' hc
    · intro i hi
      rcases hlive i hi with e' | hl
      · subst e'
        refine ⟨upd_same _ _ _, by rw [hk]; exact k2, by rw [hk]; exact k1, .inr (.inr ?_)⟩
        rw [hk]
        rcases hD k rfl with ⟨_, hro⟩ | hd
        · cases hro
        · exact hd
      · obtain ⟨q1, q2⟩ := hs.live i hl
        exact ⟨husmono i q1, q2⟩
    · intro i j hi hj e'
      rcases hlive i hi with c1 | c1 <;> rcases hlive j hj with c2 | c2
      · rw [c1, c2]
      · subst c1; rw [hk] at e'; exact absurd (e' ▸ h3 j c2) (hb k rfl)
      · subst c2; rw [hk] at e'; exact absurd (e' ▸ h3 i c1) (hb k rfl)
      · exact hs.inj i j c1 c2 e'
    · intro i hi
      simp only [upd_eq] at hi
      by_cases e' : i = t
      · subst e'
        refine ⟨?_, hro⟩
        cases hbk : s.blk i with
        | none => rfl
        | some cs => exact absurd (.inl (by rw [hbk]; simp)) hnl
      · simp only [e', if_false] at hi; exact hs.excl i hi
    · intro i hi
      rcases hlive i hi with c1 | c1
      · subst c1; rw [hk]; exact hmem' k rfl
      · exact hmem _ (h3 i c1)

/-- **the beginning**: the evaluator's first state stands for what was handed over -/
theorem canon_begun (hinv : tb.inv g w) : ∀ {l : LSpec} {x : XS tb l} {vs : List Value} {bs : List (Option Nat)}, HoldsL P tb g w l x vs bs → (blocksOf bs).Nodup → (l.map (·.1)).Nodup → InSlots a l vs → Fit μ τ l bs → a.tmps.size = N → (∀ k ∈ touched l bs, D0 k) →
    Begun P tb N W D0 l bs (canon P tb l x) g μ τ a w
  | [], _, [], [], _, _, _, _, _, hN, _ => Begun.empty hinv hN
  | [p], x, [v], [b], hl, hn, hs, hi, hf, hN, hD => by
    refine Begun.cons (Begun.empty hinv hN) hi.1 hl (by simp) (by simp [blocksOf]) hf.1 hf.2.1 (fun k hk => ?_)
    by_cases hro : ∃ e, p.2 = .ro e
    · exact .inl hro
    · refine .inr (hD k ?_)
      subst hk
      simp only [touched]
      split
      · rename_i e he; exact absurd ⟨e, he⟩ hro
      · simp
  | p :: q :: l, (x, xs), v :: vs, b :: bs, hl, hn, hs, hi, hf, hN, hD => by
    have hn' : (blocksOf bs).Nodup ∧ ∀ k, b = some k → k ∉ blocksOf bs := by
      unfold blocksOf at *
      rw [List.filterMap_cons] at hn
      cases b with
      | none => exact ⟨hn, by simp⟩
      | some k => 
        simp only [id_eq] at hn
        exact ⟨(List.nodup_cons.1 hn).2, fun k' hk' => by injection hk' with hk'; subst hk'; exact (List.nodup_cons.1 hn).1⟩
    rw [List.map_cons] at hs
    refine Begun.cons (canon_begun hinv hl.2 hn'.1 (List.nodup_cons.1 hs).2 hi.2 hf.2.2 hN (fun k hk => hD k ?_)) hi.1 hl.1 (List.nodup_cons.1 hs).1 hn'.2 hf.1 hf.2.1 (fun k hk => ?_)
    · simp only [touched] at hk ⊢
      exact List.mem_append.2 (.inr hk)
    · by_cases hro : ∃ e, p.2 = .ro e
      · exact .inl hro
      · refine .inr (hD k ?_)
        subst hk
        rw [touched]
        refine List.mem_append.2 (.inl ?_)
        split
        · rename_i e he; exact absurd ⟨e, he⟩ hro
        · simp
end Go.Ev
