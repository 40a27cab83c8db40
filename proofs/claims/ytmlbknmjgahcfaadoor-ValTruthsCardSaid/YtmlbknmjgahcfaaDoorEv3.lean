/- How the relation between the evaluator's state and the machine's lasts. -/
import Derived.Test.YtmlbknmjgahcfaaDoorEv2
namespace Go.Ev
open Go

theorem upd_same {α : Type} (f : Nat → α) (i : Nat) (v : α) : upd f i v i = v := by simp [upd]
theorem upd_other {α : Type} (f : Nat → α) {i j : Nat} (v : α) (h : j ≠ i) : upd f i v j = f j := by
  have : Nat.beq j i = false := by
    cases hb : Nat.beq j i with
    | false => rfl
    | true => exact absurd (Nat.eq_of_beq_eq_true hb) h
  simp [upd, this]
theorem upd_eq {α : Type} (f : Nat → α) (i j : Nat) (v : α) : upd f i v j = if j = i then v else f j := by
  by_cases h : j = i
  · subst h; simp [upd_same]
  · simp [h, upd_other f v h]

def isLive {T : Nat → Type} (s : St T) (i : Nat) : Prop := s.blk i ≠ none ∨ s.itr i ≠ none

variable {P : Program} {tb : Tab} {N : Nat} {W : Nat → Prop} {a0 : Act} {g0 : Gh} {w0 : World} {D0 : Nat → Prop}
variable {s s' : St tb.T} {g g' : Gh} {μ μ' : Nat → Nat} {τ τ' : Nat → Option Nat} {a : Act} {w w' : World} {D : Nat → Prop}

theorem SimAt.move (h : SimAt P tb N W a0 g0 w0 D0 s g μ τ a w) (he : Ext g w g' w' D)
    (hD : ∀ b, b < w.heap.size → D b → w0.heap.size ≤ b ∨ D0 b)
    (henv : s'.env = s.env)
    (hus : ∀ i, s.used i = true → s'.used i = true)
    (hro : s'.ro = s.ro)
    (hsame : ∀ i, s.used i = true → μ' i = μ i ∧ τ' i = τ i)
    (htok : ∀ i, s.used i = true → s'.tok i = true → s.tok i = true ∧ ∀ b, τ i = some b → ¬ D b)
    (hblk : ∀ i cs, s'.blk i = some cs → (s.blk i = some cs ∧ ¬ D (μ i)) ∨
      ((∃ us el fz, w'.heap[μ' i]? = some (.cells us el fz) ∧ (∀ j, j < us.size → ¬ (fz.1 ≤ j ∧ j < fz.2)) ∧ All2 (RepC P tb g' w' μ' τ' s'.tok) cs us.toList) ∧ ∀ a ∈ cs, ∀ j ∈ a.ids, s'.used j = true))
    (hitr : ∀ i l p, s'.itr i = some (l, p) → (s.itr i = some (l, p) ∧ ¬ D (μ i)) ∨ (w'.heap[μ' i]? = some (.stringIter ⟨l.toArray⟩ p) ∧ l.length ≤ mxLen ∧ p ≤ l.length))
    (hlive : ∀ i, isLive s' i → isLive s i ∨ (s.used i = false ∧ s'.used i = true ∧ g' (μ' i) = .var ∧ w.heap.size ≤ μ' i ∧ μ' i < w'.heap.size))
    (hinj : ∀ i j, isLive s' i → isLive s' j → ¬ isLive s i → ¬ isLive s j → μ' i = μ' j → i = j)
    (hexcl : ∀ i, s'.itr i ≠ none → s'.blk i = none ∧ s'.ro i = false)
    (htokn : ∀ t, s'.tok t = true → s.used t = false → s'.used t = true ∧ ∀ b, τ' t = some b → (∃ n, g' b = .ar n) ∧ b < w'.heap.size ∧ (w0.heap.size ≤ b ∨ D0 b))
    (htinj : ∀ t u b, s'.tok t = true → s'.tok u = true → s.used t = false → τ' t = some b → τ' u = some b → t = u) :
    SimAt P tb N W a0 g0 w0 D0 s' g' μ' τ' a w' := by
  have carry : Carry g w μ τ s.tok g' w' μ' τ' s'.tok (fun i => s.used i = true) :=
    { keeps := he.keeps, same := hsame, tok := fun i hi ht => (htok i hi ht).1
      own := fun i b hi ht hb => by
        obtain ⟨h1, h2⟩ := htok i hi ht
        have h3 := ((h.tokv i h1).2 b hb).2.1
        obtain ⟨e1, e2⟩ := he.keep b h3 (h2 b hb)
        exact ⟨e2, e1⟩ }
  have hmu : ∀ i, isLive s i → s.used i = true ∧ μ' i = μ i := fun i hi => ⟨(h.live i hi).1, (hsame i (h.live i hi).1).1⟩
  refine ⟨?_, h.size, h.defers, h.frame, ?_, ?_, ?_, ?_, ?_, ?_, ?_, hexcl, fun i hi => hus i (h.rou i (by rw [← hro]; exact hi)), ?_, ?_, h.inv0⟩
  · exact h.ext.trans he (fun _ _ x => x) (fun b hb hd => by
      rcases hD b (Nat.lt_of_lt_of_le hb h.ext.size) hd with h1 | h1
      · exact absurd hb (Nat.not_lt.2 h1)
      · exact h1)
  · intro t v hv
    rw [henv] at hv
    obtain ⟨u, hu, hr⟩ := h.env t v hv
    exact ⟨u, hu, RepV.carry carry (fun i hi => h.uenv t v hv i hi) hr⟩
  · intro i cs hb
    rcases hblk i cs hb with ⟨h1, h2⟩ | ⟨h1, _⟩
    · obtain ⟨us, el, fz, e1, e2, e3⟩ := h.blk i cs h1
      have hl := h.live i (.inl (by rw [h1]; simp))
      refine ⟨us, el, fz, ?_, e2, e3.mono fun x hx v hv => RepC.carry carry (fun j hj => h.ublk i cs h1 x hx j hj) hv⟩
      rw [(hsame i hl.1).1, (he.keep _ hl.2.2.1 h2).1]; exact e1
    · exact h1
  · intro i l p hi
    rcases hitr i l p hi with ⟨h1, h2⟩ | h1
    · have hl := h.live i (.inr (by rw [h1]; simp))
      rw [(hsame i hl.1).1, (he.keep _ hl.2.2.1 h2).1]; exact h.itr i l p h1
    · exact h1
  · intro i hi
    rcases hlive i hi with h1 | ⟨h1, h2, h3, h4, h5⟩
    · obtain ⟨k1, k2, k3, k4⟩ := h.live i h1
      rw [(hsame i k1).1]
      exact ⟨hus i k1, he.var _ k3 k2, Nat.lt_of_lt_of_le k3 he.size, by rw [hro]; exact k4⟩
    · exact ⟨h2, h3, h5, .inr (.inl (Nat.le_trans h.ext.size h4))⟩
  · intro i j hi hj e
    rcases Classical.em (isLive s i) with li | li <;> rcases Classical.em (isLive s j) with lj | lj
    · rw [(hmu i li).2, (hmu j lj).2] at e
      exact h.inj i j li lj e
    · rcases hlive j hj with h1 | ⟨h1, h2, h3, h4, h5⟩
      · exact absurd h1 lj
      · rw [(hmu i li).2] at e
        have := (h.live i li).2.2.1
        omega
    · rcases hlive i hi with h1 | ⟨h1, h2, h3, h4, h5⟩
      · exact absurd h1 li
      · rw [(hmu j lj).2] at e
        have := (h.live j lj).2.2.1
        omega
    · exact hinj i j hi hj li lj e
  · intro t ht
    cases hu : s.used t with
    | false => exact htokn t ht hu
    | true =>
      obtain ⟨h1, h2⟩ := htok t hu ht
      refine ⟨hus t hu, fun b hb => ?_⟩
      rw [(hsame t hu).2] at hb
      obtain ⟨⟨n, hn⟩, h3, h4⟩ := (h.tokv t h1).2 b hb
      exact ⟨⟨n, by rw [(he.keep b h3 (h2 b hb)).2]; exact hn⟩, Nat.lt_of_lt_of_le h3 he.size, h4⟩
  · intro t u b ht hu e1 e2
    cases h1 : s.used t with
    | false => exact htinj t u b ht hu h1 e1 e2
    | true =>
      cases h2 : s.used u with
      | false => exact (htinj u t b hu ht h2 e2 e1).symm
      | true =>
        rw [(hsame t h1).2] at e1
        rw [(hsame u h2).2] at e2
        exact h.tinj t u b (htok t h1 ht).1 (htok u h2 hu).1 e1 e2
  · intro t v hv i hi
    rw [henv] at hv
    exact hus i (h.uenv t v hv i hi)
  · intro i cs hb x hx j hj
    rcases hblk i cs hb with ⟨h1, h2⟩ | ⟨_, h1⟩
    · exact hus j (h.ublk i cs h1 x hx j hj)
    · exact h1 x hx j hj

/-- nothing but what no one looks at has turned -/
theorem SimAt.world (h : SimAt P tb N W a0 g0 w0 D0 s g μ τ a w) (hh : w'.heap = w.heap) (ho : w'.os = w.os) (ht : w'.tape = w.tape) (hp : w'.output = w.output) :
    SimAt P tb N W a0 g0 w0 D0 s g μ τ a w' := by
  have he : Ext g w g w' (fun _ => False) :=
    ⟨ho, ht, hp, by rw [hh]; exact Nat.le_refl _, fun b _ _ => ⟨by rw [hh], rfl⟩, fun b _ hg => ⟨by rw [hh], hg⟩, fun _ _ h => h, fun b n _ hg => ⟨n, Nat.le_refl _, hg, fun i _ => cell_of_block (by rw [hh])⟩⟩
  refine h.move he (fun _ _ f => f.elim) rfl (fun _ h => h) rfl (fun _ _ => ⟨rfl, rfl⟩) (fun _ _ h => ⟨h, fun _ _ f => f⟩)
    (fun i cs hb => .inl ⟨hb, fun f => f⟩) (fun i l p hb => .inl ⟨hb, fun f => f⟩) (fun i hi => .inl hi) (fun i j hi hj li => absurd hi li) h.excl ?_ ?_
  · intro t ht hu; have := (h.tokv t ht).1; rw [this] at hu; cases hu
  · intro t u b ht _ hu; have := (h.tokv t ht).1; rw [this] at hu; cases hu

theorem getElem?_put (a : Act) (d t : Nat) (v : Value) (hd : d < a.tmps.size) : (a.put (some d) v).tmps[t]? = if t = d then some v else a.tmps[t]? := by
  simp only [Act.put]
  by_cases h : t = d
  · subst h; simp [hd]
  · rw [Array.getElem?_setIfInBounds_ne (by omega)]; simp [h]

/-- a temporary is written -/
theorem SimAt.put (h : SimAt P tb N W a0 g0 w0 D0 s g μ τ a w) {d : Nat} (hd : d < N) (hW : W d) {v : SV tb.T} {u : Value}
    (hr : RepV P tb g w μ τ s.tok v u) (hi : ∀ i ∈ v.ids, s.used i = true) :
    SimAt P tb N W a0 g0 w0 D0 (s.put d v) g μ τ (a.put (some d) u) w := by
  have hd' : d < a.tmps.size := by rw [h.size]; exact hd
  refine ⟨h.ext, ?_, h.defers, ?_, ?_, h.blk, h.itr, h.live, h.inj, h.tokv, h.tinj, h.excl, h.rou, ?_, h.ublk, h.inv0⟩
  · simp [Act.put, h.size]
  · intro t ht
    rw [getElem?_put _ _ _ _ hd', if_neg (fun (e : t = d) => ht (by rw [e]; exact hW))]
    exact h.frame t ht
  · intro t v' hv
    rw [getElem?_put _ _ _ _ hd']
    simp only [St.put, upd_eq] at hv
    by_cases e : t = d
    · subst e; simp at hv; subst hv; exact ⟨u, by simp, hr⟩
    · simp only [e, if_false] at hv ⊢; exact h.env t v' hv
  · intro t v' hv
    simp only [St.put, upd_eq] at hv ⊢
    by_cases e : t = d
    · subst e; simp at hv; subst hv; exact hi
    · simp only [e, if_false] at hv; exact h.uenv t v' hv

/-- or none: an operation without a temporary -/
theorem SimAt.putO (h : SimAt P tb N W a0 g0 w0 D0 s g μ τ a w) {d : Option Nat} (hd : ∀ t, d = some t → t < N ∧ W t) {v : SV tb.T} {u : Value}
    (hr : RepV P tb g w μ τ s.tok v u) (hi : ∀ i ∈ v.ids, s.used i = true) :
    SimAt P tb N W a0 g0 w0 D0 (s.putO d v) g μ τ (a.put d u) w := by
  cases d with
  | none => exact h
  | some d => exact h.put (hd d rfl).1 (hd d rfl).2 hr hi

/-- the evaluator may forget -/
theorem SimAt.forget (h : SimAt P tb N W a0 g0 w0 D0 s g μ τ a w) (f : Nat → Bool) :
    SimAt P tb N W a0 g0 w0 D0 { s with env := fun t => bif f t then none else s.env t } g μ τ a w := by
  refine ⟨h.ext, h.size, h.defers, h.frame, ?_, h.blk, h.itr, h.live, h.inj, h.tokv, h.tinj, h.excl, h.rou, ?_, h.ublk, h.inv0⟩
  · intro t v hv
    simp only at hv
    cases hf : f t <;> simp [hf] at hv
    exact h.env t v hv
  · intro t v hv
    simp only at hv ⊢
    cases hf : f t <;> simp [hf] at hv
    exact h.uenv t v hv

/-! ## a new block -/
theorem push_heap (w : World) (o : Obj) (b : Nat) (h : b < w.heap.size) : (w.heap.push o)[b]? = w.heap[b]? := by
  rw [Array.getElem?_push, if_neg (by omega)]
theorem push_new (w : World) (o : Obj) : (w.heap.push o)[w.heap.size]? = some o := by simp

theorem Ext.push (g : Gh) (w : World) (o : Obj) (k : BK) (D : Nat → Prop) : Ext g w (upd g w.heap.size k) { w with heap := w.heap.push o } D := by
  have e : ∀ b, b < w.heap.size → upd g w.heap.size k b = g b := fun b hb => upd_other g k (by omega)
  refine ⟨rfl, rfl, rfl, by simp, ?_, ?_, ?_, ?_⟩
  · intro b hb _; exact ⟨push_heap w o b hb, e b hb⟩
  · intro b hb hg; exact ⟨push_heap w o b hb, by rw [e b hb]; exact hg⟩
  · intro b hb hg; rw [e b hb]; exact hg
  · intro b n hb hg; exact ⟨n, Nat.le_refl _, by rw [e b hb]; exact hg, fun i _ => cell_of_block (push_heap w o b hb)⟩

theorem not_live_of_unused (h : SimAt P tb N W a0 g0 w0 D0 s g μ τ a w) {d : Nat} (hd : s.used d = false) : ¬ isLive s d := fun hl => by
  have := (h.live d hl).1; rw [this] at hd; cases hd
theorem not_tok_of_unused (h : SimAt P tb N W a0 g0 w0 D0 s g μ τ a w) {d : Nat} (hd : s.used d = false) : s.tok d = false := by
  cases ht : s.tok d with
  | false => rfl
  | true => have := (h.tokv d ht).1; rw [this] at hd; cases hd

/-- a new variable -/
theorem SimAt.newVar (h : SimAt P tb N W a0 g0 w0 D0 s g μ τ a w) {d : Nat} (hd : d < N) (hW : W d) (hu : s.used d = false) {as : List (AC tb.T)} {us : Array Value} {el : Nat}
    (hr : All2 (RepC P tb g w μ τ s.tok) as us.toList) (hi : ∀ x ∈ as, ∀ i ∈ x.ids, s.used i = true) :
    SimAt P tb N W a0 g0 w0 D0 { s with env := upd s.env d (some (.c (.ptr d 0))), blk := upd s.blk d (some as), used := upd s.used d true }
      (upd g w.heap.size .var) (upd μ d w.heap.size) τ (a.put (some d) (.pointer (some ⟨w.heap.size, 0, none⟩))) { w with heap := w.heap.push (.cells us el) } := by
  have hus : ∀ i, s.used i = true → upd s.used d true i = true := fun i hi => by
    rw [upd_eq]; split <;> simp_all
  have hne : ∀ i, s.used i = true → i ≠ d := fun i hi e => by subst e; rw [hi] at hu; cases hu
  have he := Ext.push g w (.cells us el) .var (fun _ => False)
  have h1 : SimAt P tb N W a0 g0 w0 D0 { s with blk := upd s.blk d (some as), used := upd s.used d true }
      (upd g w.heap.size .var) (upd μ d w.heap.size) τ a { w with heap := w.heap.push (.cells us el) } := by
    refine h.move he (fun _ _ f => f.elim) rfl hus rfl (fun i hi => ⟨upd_other μ _ (hne i hi), rfl⟩) (fun _ _ h => ⟨h, fun _ _ f => f⟩) ?_ (fun i l p hb => .inl ⟨hb, fun f => f⟩) ?_ ?_ ?_ ?_ ?_
    · intro i cs hb
      simp only [upd_eq] at hb
      by_cases e : i = d
      · subst e
        simp at hb; subst hb
        refine .inr ⟨⟨us, el, (0, 0), ?_, fun j _ => by simp, hr.mono fun x hx v hv => ?_⟩, fun x hx j hj => hus j (hi x hx j hj)⟩
        · rw [upd_same]; exact push_new w _
        · refine RepC.carry (I := fun i => s.used i = true) ⟨he.keeps, fun j hj => ⟨upd_other μ _ (hne j hj), rfl⟩, fun _ _ h => h, fun j b hj ht hb => ?_⟩ (hi x hx) hv
          have := he.keep b ((h.tokv j ht).2 b hb).2.1 (fun f => f)
          exact ⟨this.2, this.1⟩
      · simp [e] at hb; exact .inl ⟨hb, fun f => f⟩
    · intro i hl
      by_cases e : i = d
      · subst e; exact .inr ⟨hu, upd_same _ _ _, by rw [upd_same, upd_same], by rw [upd_same]; exact Nat.le_refl _, by rw [upd_same]; simp⟩
      · left; simpa [isLive, upd_eq, e] using hl
    · intro i j hi hj li lj _
      have hx : ∀ k, isLive { s with blk := upd s.blk d (some as), used := upd s.used d true } k → ¬ isLive s k → k = d := fun k hk nk => by
        apply Classical.byContradiction; intro e; exact nk (by simpa [isLive, upd_eq, e] using hk)
      rw [hx i hi li, hx j hj lj]
    · intro i hi
      simp only [upd_eq] at hi ⊢
      by_cases e : i = d
      · subst e; exact absurd (.inr hi) (not_live_of_unused h hu)
      · simp only [e, if_false] at hi ⊢
        exact h.excl i hi
    · intro t ht hu'; have := (h.tokv t ht).1; rw [this] at hu'; cases hu'
    · intro t u b ht _ hu'; have := (h.tokv t ht).1; rw [this] at hu'; cases hu'
  have h2 := h1.put hd hW (v := .c (.ptr d 0)) (u := .pointer (some ⟨w.heap.size, 0, none⟩)) (by simp [RepV, RepC, upd_same]) (by simp [SV.ids, AC.ids, upd_same])
  exact h2

/-- a new iterator over a text -/
theorem SimAt.newItr (h : SimAt P tb N W a0 g0 w0 D0 s g μ τ a w) {d : Nat} (hd : d < N) (hW : W d) (hu : s.used d = false) {l : List UInt8} (hl : l.length ≤ mxLen) :
    SimAt P tb N W a0 g0 w0 D0 { s with env := upd s.env d (some (.c (.ptr d 0))), itr := upd s.itr d (some (l, 0)), used := upd s.used d true }
      (upd g w.heap.size .var) (upd μ d w.heap.size) τ (a.put (some d) (.pointer (some ⟨w.heap.size, 0, none⟩))) { w with heap := w.heap.push (.stringIter ⟨l.toArray⟩ 0) } := by
  have hus : ∀ i, s.used i = true → upd s.used d true i = true := fun i hi => by
    rw [upd_eq]; split <;> simp_all
  have hne : ∀ i, s.used i = true → i ≠ d := fun i hi e => by subst e; rw [hi] at hu; cases hu
  have he := Ext.push g w (.stringIter ⟨l.toArray⟩ 0) .var (fun _ => False)
  have h1 : SimAt P tb N W a0 g0 w0 D0 { s with itr := upd s.itr d (some (l, 0)), used := upd s.used d true }
      (upd g w.heap.size .var) (upd μ d w.heap.size) τ a { w with heap := w.heap.push (.stringIter ⟨l.toArray⟩ 0) } := by
    refine h.move he (fun _ _ f => f.elim) rfl hus rfl (fun i hi => ⟨upd_other μ _ (hne i hi), rfl⟩) (fun _ _ h => ⟨h, fun _ _ f => f⟩) (fun i cs hb => .inl ⟨hb, fun f => f⟩) ?_ ?_ ?_ ?_ ?_ ?_
    · intro i l' p hb
      simp only [upd_eq] at hb
      by_cases e : i = d
      · subst e
        simp at hb; obtain ⟨rfl, rfl⟩ := hb
        exact .inr ⟨by rw [upd_same]; exact push_new w _, hl, Nat.zero_le _⟩
      · simp [e] at hb; exact .inl ⟨hb, fun f => f⟩
    · intro i hl
      by_cases e : i = d
      · subst e; exact .inr ⟨hu, upd_same _ _ _, by rw [upd_same, upd_same], by rw [upd_same]; exact Nat.le_refl _, by rw [upd_same]; simp⟩
      · left; simpa [isLive, upd_eq, e] using hl
    · intro i j hi hj li lj _
      have hx : ∀ k, isLive { s with itr := upd s.itr d (some (l, 0)), used := upd s.used d true } k → ¬ isLive s k → k = d := fun k hk nk => by
        apply Classical.byContradiction; intro e; exact nk (by simpa [isLive, upd_eq, e] using hk)
      rw [hx i hi li, hx j hj lj]
    · intro i hi
      simp only [upd_eq] at hi ⊢
      by_cases e : i = d
      · subst e
        refine ⟨?_, ?_⟩
        · cases hb : s.blk i with
          | none => rfl
          | some cs => exact absurd (.inl (by rw [hb]; simp)) (not_live_of_unused h hu)
        · cases hr : s.ro i with
          | false => rfl
          | true => have := h.rou i hr; rw [this] at hu; cases hu
      · simp only [e, if_false] at hi ⊢
        exact h.excl i hi
    · intro t ht hu'; have := (h.tokv t ht).1; rw [this] at hu'; cases hu'
    · intro t u b ht _ hu'; have := (h.tokv t ht).1; rw [this] at hu'; cases hu'
  have h2 := h1.put hd hW (v := .c (.ptr d 0)) (u := .pointer (some ⟨w.heap.size, 0, none⟩)) (by simp [RepV, RepC, upd_same]) (by simp [SV.ids, AC.ids, upd_same])
  exact h2
end Go.Ev
