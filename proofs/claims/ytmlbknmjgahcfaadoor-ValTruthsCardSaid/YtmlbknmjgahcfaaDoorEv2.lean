/- What the evaluator's values stand for in the machine's world, and how that lasts. -/
import Derived.Test.YtmlbknmjgahcfaaDoorEv1
namespace Go.Ev
open Go

def Fz (g : Gh) (w : World) (b hi : Nat) : Prop := b < w.heap.size ∧ (g b = .con ∨ ∃ n, g b = .ar n ∧ hi ≤ n)

inductive RepD (P : Program) (tb : Tab) (g : Gh) (w : World) : CV tb.T → Value → Prop where
  | int (k : IntKind) (n : Int) (h : inR k n) : RepD P tb g w (.int k n) (.int k n)
  | bool (b : Bool) : RepD P tb g w (.bool b) (.bool b)
  | str (s : List UInt8) (h : s.length ≤ mxLen) : RepD P tb g w (.str s) (.string ⟨s.toArray⟩)
  | nil : RepD P tb g w .nil (.slice none 0 0)
  | slnil (e : Nat) : RepD P tb g w (.sl e []) (.slice none 0 0)
  | sle (e : Nat) (x : Addr) (cap : Nat) (h : cap ≤ mxLen) : RepD P tb g w (.sl e []) (.slice (some x) 0 cap)
  | sl (e : Nat) (xs : List (tb.T e)) (b off cap : Nat) (val : Nat → Nat → Value) (h1 : xs.length ≤ cap) (h2 : cap ≤ mxLen)
      (h3 : ∀ (i : Nat) x, xs[i]? = some x → (tb.enc e x).length = P.cellsOf e)
      (h4 : 0 < xs.length * P.cellsOf e → Fz g w b (off + xs.length * P.cellsOf e))
      (h5 : ∀ (i : Nat) x (j : Nat) c, xs[i]? = some x → (tb.enc e x)[j]? = some c → w.cell? ⟨b, off + i * P.cellsOf e + j, none⟩ = some (val i j))
      (h6 : ∀ (i : Nat) x (j : Nat) c, xs[i]? = some x → (tb.enc e x)[j]? = some c → RepD P tb g w c (val i j)) :
      RepD P tb g w (.sl e xs) (.slice (some ⟨b, off, none⟩) xs.length cap)

variable {P : Program} {tb : Tab}

/-- what stands for good stands -/
def Keeps (g : Gh) (w : World) (g' : Gh) (w' : World) : Prop :=
  ∀ b hi, Fz g w b hi → Fz g' w' b hi ∧ ∀ i, i < hi → w'.cell? ⟨b, i, none⟩ = w.cell? ⟨b, i, none⟩

theorem Keeps.refl (g : Gh) (w : World) : Keeps g w g w := fun _ _ h => ⟨h, fun _ _ => rfl⟩
theorem Keeps.trans {g g' g'' : Gh} {w w' w'' : World} (h : Keeps g w g' w') (k : Keeps g' w' g'' w'') : Keeps g w g'' w'' := fun b hi f =>
  let ⟨f', e⟩ := h b hi f
  let ⟨f'', e'⟩ := k b hi f'
  ⟨f'', fun i hi => (e' i hi).trans (e i hi)⟩

theorem RepD.mono {g g' : Gh} {w w' : World} (hk : Keeps g w g' w') {c : CV tb.T} {v : Value} (h : RepD P tb g w c v) : RepD P tb g' w' c v := by
  induction h with
  | int k n h => exact .int k n h
  | bool b => exact .bool b
  | str s h => exact .str s h
  | nil => exact .nil
  | slnil e => exact .slnil e
  | sle e x cap h => exact .sle e x cap h
  | sl e xs b off cap val h1 h2 h3 h4 h5 h6 ih =>
    refine .sl e xs b off cap val h1 h2 h3 (fun h0 => (hk _ _ (h4 h0)).1) (fun i x j c hx hc => ?_) ih
    have hi : i < xs.length := (List.getElem?_eq_some_iff.1 hx).1
    have hj : j < P.cellsOf e := by rw [← h3 i x hx]; exact (List.getElem?_eq_some_iff.1 hc).1
    have hlt : i * P.cellsOf e + j < xs.length * P.cellsOf e := by
      have : (i + 1) * P.cellsOf e ≤ xs.length * P.cellsOf e := Nat.mul_le_mul_right _ hi
      rw [Nat.add_mul] at this
      omega
    rw [(hk _ _ (h4 (by omega))).2 _ (by omega)]
    exact h5 i x j c hx hc

theorem cell_of_block {w w' : World} {b i : Nat} (h : w'.heap[b]? = w.heap[b]?) : w'.cell? ⟨b, i, none⟩ = w.cell? ⟨b, i, none⟩ := by
  unfold World.cell?
  simp only
  rw [h]

theorem Ext.refl (g : Gh) (w : World) (D : Nat → Prop) : Ext g w g w D :=
  ⟨rfl, rfl, rfl, Nat.le_refl _, fun _ _ _ => ⟨rfl, rfl⟩, fun _ _ h => ⟨rfl, h⟩, fun _ _ h => h, fun _ n _ h => ⟨n, Nat.le_refl _, h, fun _ _ => rfl⟩⟩

theorem Ext.keeps {g g' : Gh} {w w' : World} {D : Nat → Prop} (h : Ext g w g' w' D) : Keeps g w g' w' := by
  rintro b hi ⟨hb, hg⟩
  rcases hg with hg | ⟨n, hg, hn⟩
  · obtain ⟨e, hg'⟩ := h.con b hb hg
    exact ⟨⟨Nat.lt_of_lt_of_le hb h.size, .inl hg'⟩, fun i _ => cell_of_block e⟩
  · obtain ⟨n', hn', hg', hc⟩ := h.ar b n hb hg
    exact ⟨⟨Nat.lt_of_lt_of_le hb h.size, .inr ⟨n', hg', by omega⟩⟩, fun i hi => hc i (by omega)⟩

theorem Ext.trans {g g' g'' : Gh} {w w' w'' : World} {D D' D'' : Nat → Prop} (h : Ext g w g' w' D) (k : Ext g' w' g'' w'' D')
    (hD : ∀ b, b < w.heap.size → D b → D'' b) (hD' : ∀ b, b < w.heap.size → D' b → D'' b) : Ext g w g'' w'' D'' where
  os := k.os.trans h.os
  tape := k.tape.trans h.tape
  output := k.output.trans h.output
  size := Nat.le_trans h.size k.size
  keep b hb hn :=
    let h1 := h.keep b hb (fun d => hn (hD b hb d))
    let k1 := k.keep b (Nat.lt_of_lt_of_le hb h.size) (fun d => hn (hD' b hb d))
    ⟨k1.1.trans h1.1, k1.2.trans h1.2⟩
  con b hb hg :=
    let h1 := h.con b hb hg
    let k1 := k.con b (Nat.lt_of_lt_of_le hb h.size) h1.2
    ⟨k1.1.trans h1.1, k1.2⟩
  var b hb hg := k.var b (Nat.lt_of_lt_of_le hb h.size) (h.var b hb hg)
  ar b n hb hg := by
    obtain ⟨n1, l1, g1, c1⟩ := h.ar b n hb hg
    obtain ⟨n2, l2, g2, c2⟩ := k.ar b n1 (Nat.lt_of_lt_of_le hb h.size) g1
    exact ⟨n2, Nat.le_trans l1 l2, g2, fun i hi => (c2 i (by omega)).trans (c1 i hi)⟩

theorem Ext.mono {g g' : Gh} {w w' : World} {D D' : Nat → Prop} (h : Ext g w g' w' D) (hD : ∀ b, b < w.heap.size → D b → D' b) : Ext g w g' w' D' :=
  h.trans (Ext.refl _ _ D') hD (fun _ _ h => h)

/-! ## cells, slots -/
/-- whoever may append to a slice: its array's cells behind what stands for good are its own -/
def OwnAt (P : Program) (g : Gh) (w : World) (tb? : Option Nat) (e len : Nat) (v : Value) : Prop :=
  (v = .slice none 0 0 ∧ tb? = none ∧ len = 0) ∨
  ∃ b off cap cells el fz, tb? = some b ∧ v = .slice (some ⟨b, off, none⟩) len cap ∧ g b = .ar (off + len * P.cellsOf e) ∧
    w.heap[b]? = some (.cells cells el fz) ∧ off + cap * P.cellsOf e ≤ cells.size ∧ len ≤ cap ∧ (∀ i, i < cells.size → ¬ (fz.1 ≤ i ∧ i < fz.2))

def RepC (P : Program) (tb : Tab) (g : Gh) (w : World) (μ : Nat → Nat) (τ : Nat → Option Nat) (tok : Nat → Bool) : AC tb.T → Value → Prop
  | .d c, v => RepD P tb g w c v
  | .own e xs t, v => RepD P tb g w (.sl e xs) v ∧ (tok t = true → OwnAt P g w (τ t) e xs.length v)
  | .ptr i o, v => v = .pointer (some ⟨μ i, o, none⟩)
  | .cptr cs, v => ∃ b off, v = .pointer (some ⟨b, off, none⟩) ∧ (0 < cs.length → Fz g w b (off + cs.length)) ∧
      ∀ (j : Nat) c, cs[j]? = some c → ∃ u, w.cell? ⟨b, off + j, none⟩ = some u ∧ RepD P tb g w c u
  | .fn f caps, v => v = .func (.func f) #[] (caps.map fun p => Value.pointer (some ⟨μ p.1, p.2, none⟩)).toArray

def RepT (P : Program) (tb : Tab) (g : Gh) (w : World) (μ : Nat → Nat) (τ : Nat → Option Nat) (tok : Nat → Bool) (p : Bool × List (AC tb.T)) (v : Value) : Prop :=
  if p.1 then ∃ us, v = .agg us.toArray ∧ All2 (RepC P tb g w μ τ tok) p.2 us else ∃ a, p.2 = [a] ∧ RepC P tb g w μ τ tok a v

def RepV (P : Program) (tb : Tab) (g : Gh) (w : World) (μ : Nat → Nat) (τ : Nat → Option Nat) (tok : Nat → Bool) : SV tb.T → Value → Prop
  | .c a, v => RepC P tb g w μ τ tok a v
  | .agg as, v => ∃ us, v = .agg us.toArray ∧ All2 (RepC P tb g w μ τ tok) as us
  | .tup ts, v => ∃ us, v = .tuple us.toArray ∧ All2 (RepT P tb g w μ τ tok) ts us

/-- the identities that a value bears -/
def AC.ids {T : Nat → Type} : AC T → List Nat
  | .d _ | .cptr _ => []
  | .own _ _ t => [t]
  | .ptr i _ => [i]
  | .fn _ caps => caps.map (·.1)
def SV.ids {T : Nat → Type} : SV T → List Nat
  | .c a => a.ids
  | .agg as => as.flatMap AC.ids
  | .tup ts => ts.flatMap fun p => p.2.flatMap AC.ids

theorem All2.mono {α β : Type} {R S : α → β → Prop} : ∀ {as : List α} {bs : List β}, (∀ a ∈ as, ∀ b, R a b → S a b) → All2 R as bs → All2 S as bs
  | [], [], _, _ => trivial
  | _ :: _, _ :: _, h, ⟨h1, h2⟩ => ⟨h _ (List.mem_cons_self) _ h1, All2.mono (fun a ha b hb => h a (List.mem_cons_of_mem _ ha) b hb) h2⟩
  | [], _ :: _, _, h => h.elim
  | _ :: _, [], _, h => h.elim
theorem All2.length {α β : Type} {R : α → β → Prop} : ∀ {as : List α} {bs : List β}, All2 R as bs → as.length = bs.length
  | [], [], _ => rfl
  | _ :: _, _ :: _, ⟨_, h⟩ => by simp [All2.length h]
  | [], _ :: _, h => h.elim
  | _ :: _, [], h => h.elim
theorem All2.get {α β : Type} {R : α → β → Prop} : ∀ {as : List α} {bs : List β}, All2 R as bs → ∀ {i : Nat} {a : α}, as[i]? = some a → ∃ b, bs[i]? = some b ∧ R a b
  | [], [], _, i, a, h => by simp at h
  | x :: as, y :: bs, ⟨h1, h2⟩, 0, a, h => by simp at h; subst h; exact ⟨y, rfl, h1⟩
  | x :: as, y :: bs, ⟨h1, h2⟩, i + 1, a, h => by simp only [List.getElem?_cons_succ] at h ⊢; exact All2.get h2 h
  | [], _ :: _, h, _, _, _ => h.elim
  | _ :: _, [], h, _, _, _ => h.elim
theorem All2.append {α β : Type} {R : α → β → Prop} : ∀ {as : List α} {bs : List β} {cs : List α} {ds : List β}, All2 R as bs → All2 R cs ds → All2 R (as ++ cs) (bs ++ ds)
  | [], [], _, _, _, h => h
  | _ :: _, _ :: _, _, _, ⟨h1, h2⟩, h => ⟨h1, All2.append h2 h⟩
  | [], _ :: _, _, _, h, _ => h.elim
  | _ :: _, [], _, _, h, _ => h.elim
theorem All2.take {α β : Type} {R : α → β → Prop} : ∀ (n : Nat) {as : List α} {bs : List β}, All2 R as bs → All2 R (as.take n) (bs.take n)
  | 0, _, _, _ => by simp [All2]
  | n + 1, [], [], _ => by simp [All2]
  | n + 1, _ :: _, _ :: _, ⟨h1, h2⟩ => ⟨h1, All2.take n h2⟩
  | _ + 1, [], _ :: _, h => h.elim
  | _ + 1, _ :: _, [], h => h.elim
theorem All2.drop {α β : Type} {R : α → β → Prop} : ∀ (n : Nat) {as : List α} {bs : List β}, All2 R as bs → All2 R (as.drop n) (bs.drop n)
  | 0, _, _, h => h
  | n + 1, [], [], _ => by simp [All2]
  | n + 1, _ :: _, _ :: _, ⟨_, h2⟩ => All2.drop n h2
  | _ + 1, [], _ :: _, h => h.elim
  | _ + 1, _ :: _, [], h => h.elim
theorem All2.of_get {α β : Type} {R : α → β → Prop} : ∀ {as : List α} {bs : List β}, as.length = bs.length → (∀ (i : Nat) a b, as[i]? = some a → bs[i]? = some b → R a b) → All2 R as bs
  | [], [], _, _ => trivial
  | a :: as, b :: bs, hl, h => ⟨h 0 a b rfl rfl, All2.of_get (by simpa using hl) fun i x y hx hy => h (i + 1) x y (by simpa using hx) (by simpa using hy)⟩
  | [], _ :: _, h, _ => by simp at h
  | _ :: _, [], h, _ => by simp at h
theorem All2.map_left {α β γ : Type} {R : α → β → Prop} (f : γ → α) : ∀ {cs : List γ} {bs : List β}, All2 (fun c b => R (f c) b) cs bs → All2 R (cs.map f) bs
  | [], [], _ => trivial
  | _ :: _, _ :: _, ⟨h1, h2⟩ => ⟨h1, All2.map_left f h2⟩
  | [], _ :: _, h => h.elim
  | _ :: _, [], h => h.elim
theorem All2.of_map_left {α β γ : Type} {R : α → β → Prop} (f : γ → α) : ∀ {cs : List γ} {bs : List β}, All2 R (cs.map f) bs → All2 (fun c b => R (f c) b) cs bs
  | [], [], _ => trivial
  | _ :: _, _ :: _, ⟨h1, h2⟩ => ⟨h1, All2.of_map_left f h2⟩
  | [], _ :: _, h => h.elim
  | _ :: _, [], h => h.elim

/-- what a value needs to stand for the same in another state of things -/
structure Carry (g : Gh) (w : World) (μ : Nat → Nat) (τ : Nat → Option Nat) (tok : Nat → Bool) (g' : Gh) (w' : World) (μ' : Nat → Nat) (τ' : Nat → Option Nat) (tok' : Nat → Bool) (ids : Nat → Prop) : Prop where
  keeps : Keeps g w g' w'
  same : ∀ i, ids i → μ' i = μ i ∧ τ' i = τ i
  tok : ∀ i, ids i → tok' i = true → tok i = true
  own : ∀ i b, ids i → tok' i = true → τ i = some b → g' b = g b ∧ w'.heap[b]? = w.heap[b]?

section
variable {g g' : Gh} {w w' : World} {μ μ' : Nat → Nat} {τ τ' : Nat → Option Nat} {tok tok' : Nat → Bool} {I : Nat → Prop}

theorem RepC.carry (h : Carry g w μ τ tok g' w' μ' τ' tok' I) {a : AC tb.T} {v : Value} (hi : ∀ i ∈ a.ids, I i) (hr : RepC P tb g w μ τ tok a v) : RepC P tb g' w' μ' τ' tok' a v := by
  cases a with
  | d c => exact RepD.mono h.keeps (c := c) hr
  | own e xs t =>
    obtain ⟨h1, h2⟩ := hr
    have ht : I t := hi t (by simp [AC.ids])
    refine ⟨h1.mono h.keeps, fun htok => ?_⟩
    rw [(h.same t ht).2]
    rcases h2 (h.tok t ht htok) with ⟨e1, e2, e3⟩ | ⟨b, off, cap, cells, el, fz, e1, e2, e3, e4, e5⟩
    · exact .inl ⟨e1, e2, e3⟩
    · obtain ⟨hg, hw⟩ := h.own t b ht htok e1
      exact .inr ⟨b, off, cap, cells, el, fz, e1, e2, hg.trans e3, hw.trans e4, e5⟩
  | ptr i o =>
    simp only [RepC] at hr ⊢
    rw [(h.same i (hi i (by simp [AC.ids]))).1]; exact hr
  | cptr cs =>
    obtain ⟨b, off, e1, e2, e3⟩ := hr
    refine ⟨b, off, e1, fun h0 => (h.keeps _ _ (e2 h0)).1, fun j c hc => ?_⟩
    obtain ⟨u, hu, hd⟩ := e3 j c hc
    have hj : j < cs.length := (List.getElem?_eq_some_iff.1 hc).1
    exact ⟨u, by rw [(h.keeps _ _ (e2 (by omega))).2 _ (by omega)]; exact hu, hd.mono h.keeps⟩
  | fn f caps =>
    simp only [RepC] at hr ⊢
    rw [hr]
    congr 2
    refine List.map_congr_left fun p hp => ?_
    rw [(h.same p.1 (hi p.1 (by simp only [AC.ids, List.mem_map]; exact ⟨p, hp, rfl⟩))).1]

theorem RepT.carry (h : Carry g w μ τ tok g' w' μ' τ' tok' I) {p : Bool × List (AC tb.T)} {v : Value} (hi : ∀ a ∈ p.2, ∀ i ∈ a.ids, I i) (hr : RepT P tb g w μ τ tok p v) : RepT P tb g' w' μ' τ' tok' p v := by
  obtain ⟨b, as⟩ := p
  unfold RepT at *
  cases b
  · simp only [Bool.false_eq_true, if_false] at *
    obtain ⟨a, rfl, ha⟩ := hr
    exact ⟨a, rfl, ha.carry h (fun i hi' => hi a (by simp) i hi')⟩
  · simp only [if_true] at *
    obtain ⟨us, rfl, ha⟩ := hr
    exact ⟨us, rfl, ha.mono fun a hm v hv => RepC.carry h (hi a hm) hv⟩

theorem RepV.carry (h : Carry g w μ τ tok g' w' μ' τ' tok' I) {x : SV tb.T} {v : Value} (hi : ∀ i ∈ x.ids, I i) (hr : RepV P tb g w μ τ tok x v) : RepV P tb g' w' μ' τ' tok' x v := by
  cases x with
  | c a => exact RepC.carry h hi hr
  | agg as =>
    obtain ⟨us, rfl, ha⟩ := hr
    exact ⟨us, rfl, ha.mono fun a hm v hv => RepC.carry h (fun i hi' => hi i (by simp only [SV.ids, List.mem_flatMap]; exact ⟨a, hm, hi'⟩)) hv⟩
  | tup ts =>
    obtain ⟨us, rfl, ha⟩ := hr
    exact ⟨us, rfl, ha.mono fun p hm v hv => RepT.carry h (fun a hma i hi' => hi i (List.mem_flatMap.2 ⟨p, hm, List.mem_flatMap.2 ⟨a, hma, hi'⟩⟩)) hv⟩
end

/-! ## the state stands for the frame and the world -/
structure SimAt (P : Program) (tb : Tab) (N : Nat) (W : Nat → Prop) (a0 : Act) (g0 : Gh) (w0 : World) (D0 : Nat → Prop) (s : St tb.T) (g : Gh) (μ : Nat → Nat) (τ : Nat → Option Nat) (a : Act) (w : World) : Prop where
  ext : Ext g0 w0 g w D0
  size : a.tmps.size = N
  defers : a.defers = a0.defers
  frame : ∀ t, ¬ W t → a.tmps[t]? = a0.tmps[t]?
  env : ∀ t v, s.env t = some v → ∃ u, a.tmps[t]? = some u ∧ RepV P tb g w μ τ s.tok v u
  blk : ∀ i cs, s.blk i = some cs → ∃ us el fz, w.heap[μ i]? = some (.cells us el fz) ∧ (∀ j, j < us.size → ¬ (fz.1 ≤ j ∧ j < fz.2)) ∧
    All2 (RepC P tb g w μ τ s.tok) cs us.toList
  itr : ∀ i l p, s.itr i = some (l, p) → w.heap[μ i]? = some (.stringIter ⟨l.toArray⟩ p) ∧ l.length ≤ mxLen ∧ p ≤ l.length
  live : ∀ i, (s.blk i ≠ none ∨ s.itr i ≠ none) → s.used i = true ∧ g (μ i) = .var ∧ μ i < w.heap.size ∧ (s.ro i = true ∨ w0.heap.size ≤ μ i ∨ D0 (μ i))
  inj : ∀ i j, (s.blk i ≠ none ∨ s.itr i ≠ none) → (s.blk j ≠ none ∨ s.itr j ≠ none) → μ i = μ j → i = j
  tokv : ∀ t, s.tok t = true → s.used t = true ∧ ∀ b, τ t = some b → (∃ n, g b = .ar n) ∧ b < w.heap.size ∧ (w0.heap.size ≤ b ∨ D0 b)
  tinj : ∀ t u b, s.tok t = true → s.tok u = true → τ t = some b → τ u = some b → t = u
  excl : ∀ i, s.itr i ≠ none → s.blk i = none ∧ s.ro i = false
  rou : ∀ i, s.ro i = true → s.used i = true
  uenv : ∀ t v, s.env t = some v → ∀ i ∈ v.ids, s.used i = true
  ublk : ∀ i cs, s.blk i = some cs → ∀ a ∈ cs, ∀ j ∈ a.ids, s.used j = true
  inv0 : tb.inv g0 w0

def Sim (P : Program) (tb : Tab) (N : Nat) (W : Nat → Prop) (a0 : Act) (g0 : Gh) (w0 : World) (D0 : Nat → Prop) (s : St tb.T) (a : Act) (w : World) : Prop :=
  ∃ g μ τ, SimAt P tb N W a0 g0 w0 D0 s g μ τ a w
end Go.Ev
