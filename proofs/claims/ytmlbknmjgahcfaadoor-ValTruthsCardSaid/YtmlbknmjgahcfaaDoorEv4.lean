/- Memory that is written: a variable's cells, an array's free cells; what is owned. -/
import Derived.Test.YtmlbknmjgahcfaaDoorEv3
namespace Go.Ev
open Go

/-- one block holds something else; nothing else has turned -/
structure OneBlock (w w' : World) (b : Nat) (o : Obj) : Prop where
  os : w'.os = w.os
  tape : w'.tape = w.tape
  output : w'.output = w.output
  size : w'.heap.size = w.heap.size
  new : w'.heap[b]? = some o
  rest : ∀ b', b' ≠ b → w'.heap[b']? = w.heap[b']?

theorem OneBlock.trans {w w' w'' : World} {b : Nat} {o o' : Obj} (h : OneBlock w w' b o) (k : OneBlock w' w'' b o') : OneBlock w w'' b o' :=
  ⟨k.os.trans h.os, k.tape.trans h.tape, k.output.trans h.output, k.size.trans h.size, k.new, fun b' hb => (k.rest b' hb).trans (h.rest b' hb)⟩

def Value.one : Value → Bool
  | .agg _ | .tuple _ => false
  | _ => true

theorem setAt_length {α : Type} (c new : List α) (o : Nat) (h : o + new.length ≤ c.length) : (setAt c new o).length = c.length := by
  simp [setAt]; omega
theorem setAt_get {α : Type} (c new : List α) (o i : Nat) (h : o + new.length ≤ c.length) :
    (setAt c new o)[i]? = if i < o then c[i]? else if i < o + new.length then new[i - o]? else c[i]? := by
  unfold setAt
  have h1 : (c.take o).length = o := by simp; omega
  by_cases a : i < o
  · rw [if_pos a, List.append_assoc, List.getElem?_append_left (by omega), List.getElem?_take_of_lt a]
  · rw [if_neg a]
    by_cases b : i < o + new.length
    · rw [if_pos b, List.getElem?_append_left (by simp; omega), List.getElem?_append_right (by omega), h1]
    · rw [if_neg b, List.getElem?_append_right (by simp; omega), List.getElem?_drop]
      congr 1; simp; omega
theorem setAt_nil {α : Type} (c : List α) (o : Nat) : setAt c [] o = c := by simp [setAt]
theorem setAt_cons {α : Type} (c : List α) (v : α) (new : List α) (o : Nat) (h : o < c.length) : setAt c (v :: new) o = setAt (c.set o v) new (o + 1) := by
  apply List.ext_getElem?
  intro i
  by_cases hl : o + (v :: new).length ≤ c.length
  · rw [setAt_get _ _ _ _ hl, setAt_get _ _ _ _ (by simp at hl ⊢; omega)]
    simp only [List.length_cons, List.getElem?_set]
    by_cases a : i < o
    · rw [if_pos a, if_pos (by omega), if_neg (by omega)]
    · rw [if_neg a]
      by_cases e : i = o
      · subst e
        rw [if_pos (by omega), if_pos (by omega)]; simp [h]
      · rw [if_neg (by omega : ¬ i < o + 1)]
        have e' : ¬ o = i := fun x => e x.symm
        by_cases b : i < o + (new.length + 1)
        · rw [if_pos b, if_pos (by omega)]
          have : i - o = (i - (o + 1)) + 1 := by omega
          rw [this, List.getElem?_cons_succ]
        · rw [if_neg b, if_neg (by omega), if_neg e']
  · simp only [setAt, List.length_cons]
    congr 1
    have : List.take (o + 1) (c.set o v) = c.take o ++ [v] := by
      rw [List.take_add_one, List.take_set_of_le (Nat.le_refl _)]
      simp [h]
    rw [List.drop_eq_nil_of_le (by simp at hl; omega), List.drop_eq_nil_of_le (by simp at hl ⊢; omega), this]
    simp

theorem run_store_one (P : Program) {w : World} {b off : Nat} {c : Array Value} {el : Nat} {fz : Nat × Nat} {v : Value} (hb : w.heap[b]? = some (.cells c el fz)) (ho : off < c.size)
    (hf : ¬ (fz.1 ≤ off ∧ off < fz.2)) (hv : Value.one v = true) :
    ∃ w', (store ⟨b, off, none⟩ v).run P w = .ok () w' ∧ OneBlock w w' b (.cells (c.setIfInBounds off v) el fz) := by
  have hc : w.cell? ⟨b, off, none⟩ = some c[off] := by
    unfold World.cell?; simp [hb, ho]
  have hz : w.frozen? ⟨b, off, none⟩ = false := by
    unfold World.frozen?
    obtain ⟨l, h⟩ := fz
    simp only [hb]
    simp at hf ⊢
    intro h1; exact hf h1
  refine ⟨w.setCell ⟨b, off, none⟩ v, ?_, ?_⟩
  · cases v <;> first | (simp [Value.one] at hv; done) | (simp [store, Sem.run, hc, hz])
  · have hlt : b < w.heap.size := (Array.getElem?_eq_some_iff.1 hb).1
    refine ⟨rfl, rfl, rfl, by simp [World.setCell], ?_, ?_⟩
    · simp [World.setCell, Array.getElem?_modify, hb]
    · intro b' hb'
      simp only [World.setCell, Array.getElem?_modify]
      rw [if_neg (by omega)]

theorem addr_add (b off n : Nat) : (⟨b, off, none⟩ : Addr).add n = ⟨b, off + n, none⟩ := by
  unfold Addr.add
  split
  · next h => subst h; rfl
  · rfl

theorem run_store_cells (P : Program) {b o el : Nat} {fz : Nat × Nat} : ∀ (vs : List Value) (i : Nat) (c : Array Value) (w : World), w.heap[b]? = some (.cells c el fz) → o + i + vs.length ≤ c.size →
    (∀ j, j < c.size → ¬ (fz.1 ≤ j ∧ j < fz.2)) → (∀ v ∈ vs, Value.one v = true) →
    ∃ w' c', (storeCells ⟨b, o, none⟩ vs i).run P w = .ok () w' ∧ OneBlock w w' b (.cells c' el fz) ∧ c'.toList = setAt c.toList vs (o + i)
  | [], i, c, w, hb, _, _, _ => ⟨w, c, by simp [storeCells], ⟨rfl, rfl, rfl, rfl, hb, fun _ _ => rfl⟩, by rw [setAt_nil]⟩
  | v :: vs, i, c, w, hb, hl, hf, hv => by
    simp only [List.length_cons] at hl
    obtain ⟨w1, h1, k1⟩ := run_store_one P hb (by omega : o + i < c.size) (hf _ (by omega)) (hv v (by simp))
    obtain ⟨w2, c2, h2, k2, e2⟩ := run_store_cells P (o := o) vs (i + 1) (c.setIfInBounds (o + i) v) w1 k1.new (by rw [Array.size_setIfInBounds]; omega) (by simpa using hf) (fun u hu => hv u (by simp [hu]))
    refine ⟨w2, c2, ?_, k1.trans k2, ?_⟩
    · simp only [storeCells, Sem.run_bind, addr_add]
      rw [h1]
      exact h2
    · rw [e2, setAt_cons _ _ _ _ (by simp; omega)]
      simp [Nat.add_assoc]

variable {P : Program} {tb : Tab} {N : Nat} {W : Nat → Prop} {a0 : Act} {g0 : Gh} {w0 : World} {D0 : Nat → Prop}
variable {s s' : St tb.T} {g g' : Gh} {μ μ' : Nat → Nat} {τ τ' : Nat → Option Nat} {a : Act} {w w' : World} {D : Nat → Prop}

theorem RepC.one {x : AC tb.T} {v : Value} {tok : Nat → Bool} (h : RepC P tb g w μ τ tok x v) : Value.one v = true := by
  cases x with
  | d c => simp only [RepC] at h; cases h <;> rfl
  | own e xs t => obtain ⟨h, _⟩ := h; cases h <;> rfl
  | ptr i o => simp only [RepC] at h; subst h; rfl
  | cptr cs => obtain ⟨b, off, rfl, _⟩ := h; rfl
  | fn f caps => simp only [RepC] at h; subst h; rfl

/-- a variable's block is written -/
theorem Ext.var1 {b : Nat} {o : Obj} (h : OneBlock w w' b o) (hg : g b = .var) : Ext g w g w' (fun i => i = b) := by
  refine ⟨h.os, h.tape, h.output, by rw [h.size]; exact Nat.le_refl _, fun i _ hi => ⟨h.rest i hi, rfl⟩, fun i _ hi => ⟨h.rest i (fun e => by subst e; rw [hg] at hi; cases hi), hi⟩, fun _ _ h => h, fun i n _ hi => ⟨n, Nat.le_refl _, hi, fun j _ => cell_of_block (h.rest i (fun e => by subst e; rw [hg] at hi; cases hi))⟩⟩

/-- an array's cells behind what stands for good are written -/
theorem Ext.arr1 {b n n' : Nat} {c c' : Array Value} {el : Nat} {fz : Nat × Nat} (hb : w.heap[b]? = some (.cells c el fz)) (h : OneBlock w w' b (.cells c' el fz)) (hg : g b = .ar n) (hn : n ≤ n')
    (hc : ∀ i, i < n → c'[i]? = c[i]?) : Ext g w (upd g b (.ar n')) w' (fun i => i = b) := by
  have e : ∀ i, i ≠ b → upd g b (.ar n') i = g i := fun i hi => upd_other g _ hi
  refine ⟨h.os, h.tape, h.output, by rw [h.size]; exact Nat.le_refl _, fun i _ hi => ⟨h.rest i hi, e i hi⟩, fun i _ hi => ?_, fun i _ hi => ?_, fun i m _ hi => ?_⟩
  · have hne : i ≠ b := fun e => by subst e; rw [hg] at hi; cases hi
    exact ⟨h.rest i hne, by rw [e i hne]; exact hi⟩
  · have hne : i ≠ b := fun e => by subst e; rw [hg] at hi; cases hi
    rw [e i hne]; exact hi
  · by_cases hib : i = b
    · subst hib
      rw [hg] at hi; injection hi with hi; subst hi
      refine ⟨n', hn, upd_same _ _ _, fun j hj => ?_⟩
      unfold World.cell?
      simp only [h.new, hb]
      simpa using hc j hj
    · exact ⟨m, Nat.le_refl _, by rw [e i hib]; exact hi, fun j _ => cell_of_block (h.rest i hib)⟩

/-- a variable holds something else -/
theorem SimAt.setBlk (h : SimAt P tb N W a0 g0 w0 D0 s g μ τ a w) {i : Nat} (hi : isLive s i) {cells : List (AC tb.T)} {c' : Array Value} {el : Nat} {fz : Nat × Nat}
    (ho : OneBlock w w' (μ i) (.cells c' el fz)) (hf : ∀ j, j < c'.size → ¬ (fz.1 ≤ j ∧ j < fz.2)) (hr : All2 (RepC P tb g w μ τ s.tok) cells c'.toList) (hu : ∀ x ∈ cells, ∀ j ∈ x.ids, s.used j = true) (hni : s.itr i = none) (hnr : s.ro i = false) :
    SimAt P tb N W a0 g0 w0 D0 { s with blk := upd s.blk i (some cells) } g μ τ a w' := by
  obtain ⟨k1, k2, k3, k4⟩ := h.live i hi
  have he := Ext.var1 ho k2
  have hlv : ∀ j, isLive { s with blk := upd s.blk i (some cells) } j → isLive s j := fun j hj => by
    by_cases e : j = i
    · subst e; exact hi
    · simpa [isLive, upd_eq, e] using hj
  have htk : ∀ t b, s.tok t = true → τ t = some b → ¬ b = μ i := fun t b ht hb e => by
    obtain ⟨⟨n, hn⟩, _⟩ := (h.tokv t ht).2 b hb
    rw [e, k2] at hn; cases hn
  refine h.move he (fun b _ e => by rw [e]; exact k4.resolve_left (by rw [hnr]; simp)) rfl (fun _ h => h) rfl (fun _ _ => ⟨rfl, rfl⟩) (fun t _ ht => ⟨ht, fun b hb => htk t b ht hb⟩) ?_ ?_ (fun j hj => .inl (hlv j hj)) (fun j k hj _ lj => absurd (hlv j hj) lj) ?_ ?_ ?_
  · intro j cs hb
    simp only [upd_eq] at hb
    by_cases e : j = i
    · subst e
      simp at hb; subst hb
      refine .inr ⟨⟨c', el, fz, ho.new, hf, hr.mono fun x hx v hv => ?_⟩, hu⟩
      refine RepC.carry (I := fun i => s.used i = true) ⟨he.keeps, fun _ _ => ⟨rfl, rfl⟩, fun _ _ h => h, fun t b _ ht hb => ?_⟩ (hu x hx) hv
      exact ⟨rfl, ho.rest b (htk t b ht hb)⟩
    · simp [e] at hb
      exact .inl ⟨hb, fun e' => e (h.inj j i (.inl (by rw [hb]; simp)) hi e')⟩
  · intro j l p hj
    by_cases e : j = i
    · subst e; simp [hni] at hj
    · exact .inl ⟨hj, fun e' => e (h.inj j i (.inr (by rw [hj]; simp)) hi e')⟩
  · intro j hj
    have hj' : s.itr j ≠ none := hj
    simp only [upd_eq]
    by_cases e : j = i
    · subst e; exact absurd hni hj'
    · simp only [e, if_false]; exact h.excl j hj'
  · intro t ht hu'; have := (h.tokv t ht).1; rw [this] at hu'; cases hu'
  · intro t u b ht _ hu'; have := (h.tokv t ht).1; rw [this] at hu'; cases hu'

/-- an iterator has gone on -/
theorem SimAt.setItr (h : SimAt P tb N W a0 g0 w0 D0 s g μ τ a w) {i : Nat} {l l' : List UInt8} {p p' : Nat} (hi : s.itr i = some (l, p))
    (ho : OneBlock w w' (μ i) (.stringIter ⟨l'.toArray⟩ p')) (hl : l'.length ≤ mxLen) (hp : p' ≤ l'.length) :
    SimAt P tb N W a0 g0 w0 D0 { s with itr := upd s.itr i (some (l', p')) } g μ τ a w' := by
  have hlive : isLive s i := .inr (by rw [hi]; simp)
  obtain ⟨hnb, hnr⟩ := h.excl i (by rw [hi]; simp)
  obtain ⟨k1, k2, k3, k4⟩ := h.live i hlive
  have he := Ext.var1 ho k2
  have hlv : ∀ j, isLive { s with itr := upd s.itr i (some (l', p')) } j → isLive s j := fun j hj => by
    by_cases e : j = i
    · subst e; exact hlive
    · simpa [isLive, upd_eq, e] using hj
  have htk : ∀ t b, s.tok t = true → τ t = some b → ¬ b = μ i := fun t b ht hb e => by
    obtain ⟨⟨n, hn⟩, _⟩ := (h.tokv t ht).2 b hb
    rw [e, k2] at hn; cases hn
  refine h.move he (fun b _ e => by rw [e]; exact k4.resolve_left (by rw [hnr]; simp)) rfl (fun _ h => h) rfl (fun _ _ => ⟨rfl, rfl⟩) (fun t _ ht => ⟨ht, fun b hb => htk t b ht hb⟩) ?_ ?_ (fun j hj => .inl (hlv j hj)) (fun j k hj _ lj => absurd (hlv j hj) lj) ?_ ?_ ?_
  · intro j cs hb
    by_cases e : j = i
    · subst e; simp [hnb] at hb
    · exact .inl ⟨hb, fun e' => e (h.inj j i (.inl (by rw [hb]; simp)) hlive e')⟩
  · intro j l1 p1 hj
    simp only [upd_eq] at hj
    by_cases e : j = i
    · subst e; simp at hj; obtain ⟨rfl, rfl⟩ := hj
      exact .inr ⟨ho.new, hl, hp⟩
    · simp [e] at hj
      exact .inl ⟨hj, fun e' => e (h.inj j i (.inr (by rw [hj]; simp)) hlive e')⟩
  · intro j hj
    simp only [upd_eq] at hj ⊢
    by_cases e : j = i
    · subst e; exact ⟨hnb, hnr⟩
    · simp only [e, if_false] at hj; exact h.excl j hj
  · intro t ht hu'; have := (h.tokv t ht).1; rw [this] at hu'; cases hu'
  · intro t u b ht _ hu'; have := (h.tokv t ht).1; rw [this] at hu'; cases hu'

/-- something new is owned; what was owned may be handed on for it -/
theorem SimAt.newTok (h : SimAt P tb N W a0 g0 w0 D0 s g μ τ a w) (he : Ext g w g' w' D) (ids : List Nat) {d : Nat} (hun : s.used d = false)
    (hD : ∀ b, b < w.heap.size → D b → w0.heap.size ≤ b ∨ D0 b)
    (hDt : ∀ t b, s.tok t = true → memB t ids = false → τ t = some b → ¬ D b) (hDl : ∀ i, isLive s i → ¬ D (μ i))
    {b? : Option Nat} (hb : ∀ b, b? = some b → (∃ n, g' b = .ar n) ∧ b < w'.heap.size ∧ (w0.heap.size ≤ b ∨ D0 b) ∧ ∀ t, s.tok t = true → memB t ids = false → τ t ≠ some b) :
    SimAt P tb N W a0 g0 w0 D0 { s.drop ids with tok := upd (s.drop ids).tok d true, used := upd s.used d true } g' μ (upd τ d b?) a w' := by
  have hus : ∀ i, s.used i = true → upd s.used d true i = true := fun i hi => by
    rw [upd_eq]; split <;> simp_all
  have hne : ∀ i, s.used i = true → i ≠ d := fun i hi e => by subst e; rw [hi] at hun; cases hun
  have htok : ∀ t, t ≠ d → upd (s.drop ids).tok d true t = true → s.tok t = true ∧ memB t ids = false := fun t ht h1 => by
    rw [upd_other _ _ ht] at h1
    simp only [St.drop] at h1
    cases hm : memB t ids <;> simp [hm] at h1
    exact ⟨h1, rfl⟩
  have hused : ∀ t, upd (s.drop ids).tok d true t = true → s.used t = false → t = d := fun t ht hu => by
    apply Classical.byContradiction; intro e
    have := (h.tokv t (htok t e ht).1).1
    rw [this] at hu; cases hu
  refine h.move he hD rfl hus rfl (fun i hi => ⟨rfl, upd_other τ _ (hne i hi)⟩) ?_ (fun i cs hb' => .inl ⟨hb', hDl i (.inl (by rw [show s.blk i = some cs from hb']; simp))⟩) (fun i l p hb' => .inl ⟨hb', hDl i (.inr (by rw [show s.itr i = some (l, p) from hb']; simp))⟩) (fun i hi => .inl hi) (fun i j hi _ li => absurd hi li) h.excl ?_ ?_
  · intro i hi ht
    obtain ⟨h1, h2⟩ := htok i (hne i hi) ht
    exact ⟨h1, fun b hb' => hDt i b h1 h2 hb'⟩
  · intro t ht hu
    have := hused t ht hu; subst this
    refine ⟨upd_same _ _ _, fun b hb' => ?_⟩
    rw [upd_same] at hb'
    obtain ⟨h1, h2, h3, _⟩ := hb b hb'
    exact ⟨h1, h2, h3⟩
  · intro t u b ht hu hun' e1 e2
    have := hused t ht hun'; subst this
    rw [upd_same] at e1
    apply Classical.byContradiction; intro hne'
    have hu' := htok u (fun e => hne' e.symm) hu
    rw [upd_other _ _ (fun e => hne' e.symm)] at e2
    exact (hb b e1).2.2.2 u hu'.1 hu'.2 e2

/-- the same, and a temporary holds it -/
theorem SimAt.own (h : SimAt P tb N W a0 g0 w0 D0 s g μ τ a w) (he : Ext g w g' w' D) (ids : List Nat) {d : Nat} (hd : d < N) (hW : W d) (hun : s.used d = false)
    (hD : ∀ b, b < w.heap.size → D b → w0.heap.size ≤ b ∨ D0 b)
    (hDt : ∀ t b, s.tok t = true → memB t ids = false → τ t = some b → ¬ D b) (hDl : ∀ i, isLive s i → ¬ D (μ i))
    {b? : Option Nat} (hb : ∀ b, b? = some b → (∃ n, g' b = .ar n) ∧ b < w'.heap.size ∧ (w0.heap.size ≤ b ∨ D0 b) ∧ ∀ t, s.tok t = true → memB t ids = false → τ t ≠ some b)
    {e : Nat} {xs : List (tb.T e)} {v : Value} (hr : RepD P tb g' w' (.sl e xs) v) (ho : OwnAt P g' w' b? e xs.length v) :
    SimAt P tb N W a0 g0 w0 D0 { s.drop ids with env := upd s.env d (some (.c (.own e xs d))), tok := upd (s.drop ids).tok d true, used := upd s.used d true } g' μ (upd τ d b?) (a.put (some d) v) w' := by
  have h1 := h.newTok he ids hun hD hDt hDl hb
  exact h1.put hd hW (v := .c (.own e xs d)) (u := v) (by
    refine ⟨hr, fun _ => ?_⟩
    rw [upd_same]; exact ho) (by simp [SV.ids, AC.ids, upd_same])
end Go.Ev
