/- What a contract says: what is handed over, and what comes back. -/
import Derived.Test.YtmlbknmjgahcfaaDoorEv9
namespace Go.Ev
open Go

def HoldsV (P : Program) (tb : Tab) (g : Gh) (w : World) (e : Nat) (x : tb.T e) (v : Value) : Prop :=
  if isAggB P e then ∃ us : List Value, v = .agg us.toArray ∧ All2 (RepD P tb g w) (tb.enc e x) us else ∃ c, tb.enc e x = [c] ∧ RepD P tb g w c v
/-- a variable's block holds x -/
def HoldsB (P : Program) (tb : Tab) (g : Gh) (w : World) (e : Nat) (x : tb.T e) (k : Nat) : Prop :=
  k < w.heap.size ∧ g k = .var ∧ ∃ us el fz, w.heap[k]? = some (.cells us el fz) ∧ (∀ j, j < us.size → ¬ (fz.1 ≤ j ∧ j < fz.2)) ∧ All2 (RepD P tb g w) (tb.enc e x) us.toList
def HoldsI (g : Gh) (w : World) (x : List UInt8 × Nat) (k : Nat) : Prop :=
  k < w.heap.size ∧ g k = .var ∧ w.heap[k]? = some (.stringIter ⟨x.1.toArray⟩ x.2) ∧ x.1.length ≤ mxLen ∧ x.2 ≤ x.1.length

def HoldsP (P : Program) (tb : Tab) (g : Gh) (w : World) : (p : Pat) → X tb p → Value → Option Nat → Prop
  | .val e, x, v, b => HoldsV P tb g w e x v ∧ b = none
  | .own e, x, v, b => RepD P tb g w (.sl e x) v ∧ OwnAt P g w b e (List.length (α := tb.T e) x) v
  | .ref e, x, v, b => ∃ k, b = some k ∧ v = .pointer (some ⟨k, 0, none⟩) ∧ HoldsB P tb g w e x k
  | .ro e, x, v, b => ∃ k, b = some k ∧ v = .pointer (some ⟨k, 0, none⟩) ∧ HoldsB P tb g w e x k
  | .iter, x, v, b => ∃ k, b = some k ∧ v = .pointer (some ⟨k, 0, none⟩) ∧ HoldsI g w x k

def HoldsL (P : Program) (tb : Tab) (g : Gh) (w : World) : (l : LSpec) → XS tb l → List Value → List (Option Nat) → Prop
  | [], _, [], [] => True
  | [a], x, [v], [b] => HoldsP P tb g w a.2 x v b
  | a :: c :: l, (x, xs), v :: vs, b :: bs => HoldsP P tb g w a.2 x v b ∧ HoldsL P tb g w (c :: l) xs vs bs
  | _, _, _, _ => False

/-- the blocks that may be written -/
def touched : LSpec → List (Option Nat) → List Nat
  | a :: l, b :: bs => (match a.2 with | .ro _ => [] | _ => b.toList) ++ touched l bs
  | _, _ => []
def blocksOf (bs : List (Option Nat)) : List Nat := bs.filterMap id
/-- what stands at the references' places -/
def atRefs {α : Type} : LSpec → List α → List α
  | a :: l, b :: bs => bif a.2.isRef then b :: atRefs l bs else atRefs l bs
  | _, _ => []

/-- results: none, one, more -/
def RetV (l : LSpec) (vs : List Value) (v : Value) : Prop :=
  match l, vs with
  | [], [] => v = .tuple #[]
  | [_], [u] => v = u
  | _ :: _ :: _, us => v = .tuple us.toArray
  | _, _ => False

/-- what a call leaves behind: its results; the references' blocks; nothing else has turned -/
def Left (P : Program) (tb : Tab) (g : Gh) (w : World) (ins outs : LSpec) (vs : List Value) (bs : List (Option Nat)) (y : Ret tb outs (refsOf ins)) (us : List Value) (cs : List (Option Nat)) (g' : Gh) (w' : World) : Prop :=
  Ext g w g' w' (fun b => b ∈ touched ins bs) ∧ HoldsL P tb g' w' outs y.outs us cs ∧ HoldsL P tb g' w' (refsOf ins) y.refs (atRefs ins vs) (atRefs ins bs) ∧
  (blocksOf cs).Nodup ∧ (∀ k ∈ blocksOf cs, (w.heap.size ≤ k ∨ k ∈ touched ins bs) ∧ k ∉ blocksOf (atRefs ins bs))

def Enters (P : Program) (f : Nat) : Prop := ∀ (args : Array Value) (w : World), (callFunc f args).run P w = .ok (.enter f args) w

/-- a function keeps its contract -/
def FnSound (P : Program) (tb : Tab) (f : Nat) (sp : FSpec tb) : Prop :=
  Enters P f ∧ ∀ (g : Gh) (w : World) (x : XS tb sp.ins) (vs : List Value) (bs : List (Option Nat)) (y : Ret tb sp.outs (refsOf sp.ins)), sp.f x = some y → tb.inv g w →
    HoldsL P tb g w sp.ins x vs bs → (blocksOf bs).Nodup →
    Calls P f vs.toArray w fun e w' => ∃ v us cs g', e = .returned v ∧ RetV sp.outs us v ∧ Left P tb g w sp.ins sp.outs vs bs y us cs g' w'

/-- a call: the function's body is entered, or the model answers at once -/
def Called (P : Program) (f : Nat) (args : Array Value) (w : World) (Q : Ending → World → Prop) : Prop :=
  ((callFunc f args).run P w = .ok (.enter f args) w ∧ Calls P f args w Q) ∨ ∃ v w', (callFunc f args).run P w = .ok (.value v) w' ∧ Q (.returned v) w'
/-- a function keeps its contract, wherever its answer comes from -/
def FnKeeps (P : Program) (tb : Tab) (f : Nat) (sp : FSpec tb) : Prop :=
  ∀ (g : Gh) (w : World) (x : XS tb sp.ins) (vs : List Value) (bs : List (Option Nat)) (y : Ret tb sp.outs (refsOf sp.ins)), sp.f x = some y → tb.inv g w →
    HoldsL P tb g w sp.ins x vs bs → (blocksOf bs).Nodup →
    Called P f vs.toArray w fun e w' => ∃ v us cs g', e = .returned v ∧ RetV sp.outs us v ∧ Left P tb g w sp.ins sp.outs vs bs y us cs g' w'
theorem FnSound.keeps {P : Program} {tb : Tab} {f : Nat} {sp : FSpec tb} (h : FnSound P tb f sp) : FnKeeps P tb f sp := fun g w x vs bs y hy hi hh hn => .inl ⟨h.1 _ _, h.2 g w x vs bs y hy hi hh hn⟩

variable {P : Program} {tb : Tab} {g : Gh} {w : World} {μ : Nat → Nat} {τ : Nat → Option Nat}

/-! ## from the evaluator's state to what is handed over -/
/-- whose block it is -/
def BlkOf {T : Nat → Type} (s : St T) (μ : Nat → Nat) (τ : Nat → Option Nat) (p : Pat) (v : SV T) (b : Option Nat) : Prop :=
  match p, v with
  | .own _, .c (.own _ _ t) => b = τ t ∧ s.tok t = true
  | .ref _, .c (.ptr i _) => b = some (μ i) ∧ isLive s i ∧ s.ro i = false
  | .ro _, .c (.ptr i _) => b = some (μ i) ∧ isLive s i
  | .iter, .c (.ptr i _) => b = some (μ i) ∧ isLive s i ∧ s.ro i = false
  | _, _ => b = none

variable {N : Nat} {W : Nat → Prop} {a0 : Act} {g0 : Gh} {w0 : World} {D0 : Nat → Prop} {s : St tb.T} {a : Act}

theorem all_d : ∀ {as : List (AC tb.T)} {cs : List (CV tb.T)}, cvs as = some cs → as.length = cs.length
  | [], cs, h => by simp only [cvs, Option.some.injEq] at h; subst h; rfl
  | a :: as, cs, h => by
    simp only [cvs] at h
    cases ha : a.cv with
    | none => simp [ha] at h
    | some c =>
      cases hs : cvs as with
      | none => simp [ha, hs] at h
      | some cs' => simp only [ha, hs, Option.some.injEq] at h; subst h; simp [all_d hs]

theorem extBlk_inv {e : Nat} {v : SV tb.T} {x : tb.T e} (hx : extBlk tb s e v = some x) : ∃ i as cs, v = .c (.ptr i 0) ∧ s.blk i = some as ∧ cvs as = some cs ∧ tb.dec e cs = some x := by
  unfold extBlk at hx
  rcases v with ac | as | ts
  · cases ac with
    | ptr i o =>
      cases o with
      | zero =>
        simp only at hx
        cases hb : s.blk i with
        | none => simp [hb] at hx
        | some as =>
          simp only [hb] at hx
          cases hc : cvs as with
          | none => simp [hc] at hx
          | some cs => exact ⟨i, as, cs, rfl, hb, hc, by simpa [hc] using hx⟩
      | succ o => simp at hx
    | _ => simp at hx
  · simp at hx
  · simp at hx
theorem extOwn_inv {e : Nat} {v : SV tb.T} {x : List (tb.T e)} (hx : extOwn tb s e v = some x) : (v = .c (.d .nil) ∧ x = []) ∨ ∃ t, v = .c (.own e x t) ∧ s.tok t = true := by
  unfold extOwn at hx
  rcases v with ac | as | ts
  · cases ac with
    | own e' xs t =>
      simp only at hx
      by_cases he : e' = e
      · subst he
        simp only [dite_true] at hx
        cases ht : s.tok t with
        | false => simp [ht] at hx
        | true =>
          simp only [ht, cond_true, Option.some.injEq] at hx; subst hx
          exact .inr ⟨t, rfl, ht⟩
      · simp [he] at hx
    | d c =>
      cases c with
      | nil => simp only [Option.some.injEq] at hx; subst hx; exact .inl ⟨rfl, rfl⟩
      | _ => simp at hx
    | _ => simp at hx
  · simp at hx
  · simp at hx
theorem extItr_inv {v : SV tb.T} {x : List UInt8 × Nat} (hx : extItr s v = some x) : ∃ i, v = .c (.ptr i 0) ∧ s.itr i = some x := by
  unfold extItr at hx
  rcases v with ac | as | ts
  · cases ac with
    | ptr i o =>
      cases o with
      | zero => exact ⟨i, rfl, hx⟩
      | succ o => simp at hx
    | _ => simp at hx
  · simp at hx
  · simp at hx

theorem ext_one (h : SimAt P tb N W a0 g0 w0 D0 s g μ τ a w) {p : Pat} {v : SV tb.T} {u : Value} {x : X tb p} (hx : extP P tb s p v = some x) (hr : RepV P tb g w μ τ s.tok v u) :
    ∃ b, HoldsP P tb g w p x u b ∧ BlkOf s μ τ p v b := by
  have blkCase : ∀ {e : Nat} {x : tb.T e}, extBlk tb s e v = some x → ∃ i, v = .c (.ptr i 0) ∧ isLive s i ∧ u = .pointer (some ⟨μ i, 0, none⟩) ∧ HoldsB P tb g w e x (μ i) := by
    intro e x hx
    obtain ⟨i, as, cs, rfl, hb, hc, hx⟩ := extBlk_inv hx
    have hl : isLive s i := .inl (by rw [hb]; simp)
    obtain ⟨us, el, fz, e1, e2, e3⟩ := h.blk i as hb
    obtain ⟨k1, k2, k3, _⟩ := h.live i hl
    exact ⟨i, rfl, hl, hr, k3, k2, us, el, fz, e1, e2, dec_sound hx (cvs_sound hc e3)⟩
  cases p with
  | val e =>
    refine ⟨none, ⟨?_, rfl⟩, by cases v <;> rfl⟩
    have hx : extVal P tb e v = some x := hx
    unfold extVal at hx
    cases v with
    | c ac =>
      simp only at hx
      cases ha : isAggB P e with
      | true => simp [ha] at hx
      | false =>
        simp only [ha, cond_false] at hx
        cases hc : ac.cv with
        | none => simp [hc] at hx
        | some c =>
          simp only [hc] at hx
          have hd := dec_sound hx (vs := [u]) ⟨cv_sound hc hr, trivial⟩
          unfold HoldsV
          simp only [ha, Bool.false_eq_true, if_false]
          cases he : tb.enc e x with
          | nil => rw [he] at hd; exact hd.elim
          | cons c' cs =>
            rw [he] at hd
            obtain ⟨d1, d2⟩ := hd
            cases cs with
            | nil => exact ⟨c', rfl, d1⟩
            | cons _ _ => exact d2.elim
    | agg as =>
      simp only at hx
      cases ha : isAggB P e with
      | false => simp [ha] at hx
      | true =>
        simp only [ha, cond_true] at hx
        cases hc : cvs as with
        | none => simp [hc] at hx
        | some cs =>
          simp only [hc] at hx
          obtain ⟨us, rfl, hus⟩ := hr
          unfold HoldsV
          simp only [ha, if_true]
          exact ⟨us, rfl, dec_sound hx (cvs_sound hc hus)⟩
    | tup _ => simp at hx
  | own e =>
    rcases extOwn_inv (x := x) hx with ⟨rfl, e0⟩ | ⟨t, rfl, ht⟩
    · have e0 : x = ([] : List (tb.T e)) := e0
      subst e0
      cases hr
      exact ⟨none, ⟨.slnil e, .inl ⟨rfl, rfl, rfl⟩⟩, rfl⟩
    · exact ⟨τ t, ⟨hr.1, hr.2 ht⟩, rfl, ht⟩
  | ref e =>
    have hx : (bif isRo s v then none else extBlk tb s e v) = some x := hx
    cases hro : isRo s v with
    | true => simp [hro] at hx
    | false =>
      simp only [hro, cond_false] at hx
      obtain ⟨i, rfl, hl, hu, hb⟩ := blkCase hx
      exact ⟨some (μ i), ⟨μ i, rfl, hu, hb⟩, rfl, hl, hro⟩
  | ro e =>
    obtain ⟨i, rfl, hl, hu, hb⟩ := blkCase (x := x) hx
    exact ⟨some (μ i), ⟨μ i, rfl, hu, hb⟩, rfl, hl⟩
  | iter =>
    obtain ⟨i, rfl, hx'⟩ := extItr_inv (x := x) hx
    obtain ⟨l, p⟩ := x
    clear hx
    have hx := hx'
    have hl : isLive s i := .inr (by rw [hx]; simp)
    obtain ⟨e1, e2, e3⟩ := h.itr i l p hx
    obtain ⟨k1, k2, k3, _⟩ := h.live i hl
    exact ⟨some (μ i), ⟨μ i, rfl, hr, k3, k2, e1, e2, e3⟩, rfl, hl, (h.excl i (by rw [hx]; simp)).2⟩

/-- the list of them, slot by slot -/
def BlkL {T : Nat → Type} (s : St T) (μ : Nat → Nat) (τ : Nat → Option Nat) (get : Nat → Option (SV T)) : LSpec → List (Option Nat) → Prop
  | [], [] => True
  | a :: l, b :: bs => (∃ v, get a.1 = some v ∧ BlkOf s μ τ a.2 v b) ∧ BlkL s μ τ get l bs
  | _, _ => False

theorem ext_all (h : SimAt P tb N W a0 g0 w0 D0 s g μ τ a w) {get : Nat → Option (SV tb.T)} {val : Nat → Value} :
    ∀ {l : LSpec} {x : XS tb l}, extS P tb s get l = some x → (∀ a ∈ l, ∀ v, get a.1 = some v → RepV P tb g w μ τ s.tok v (val a.1)) →
      ∃ bs, HoldsL P tb g w l x (l.map fun a => val a.1) bs ∧ BlkL s μ τ get l bs
  | [], x, _, _ => ⟨[], trivial, trivial⟩
  | [a], x, hx, hr => by
    simp only [extS] at hx
    cases hg : get a.1 with
    | none => simp [hg] at hx
    | some v =>
      simp only [hg] at hx
      obtain ⟨b, k1, k2⟩ := ext_one h hx (hr a (by simp) v hg)
      exact ⟨[b], k1, ⟨v, hg, k2⟩, trivial⟩
  | a :: c :: l, x, hx, hr => by
    simp only [extS] at hx
    cases hg : get a.1 with
    | none => simp [hg] at hx
    | some v =>
      simp only [hg] at hx
      cases he : extP P tb s a.2 v with
      | none => simp [he] at hx
      | some x1 =>
        simp only [he] at hx
        cases hs : extS P tb s get (c :: l) with
        | none => simp [hs] at hx
        | some xs =>
          simp only [hs] at hx
          have hx := Option.some.inj hx; subst hx
          obtain ⟨b, k1, k2⟩ := ext_one h he (hr a (by simp) v hg)
          obtain ⟨bs, k3, k4⟩ := ext_all h hs (fun a' ha' => hr a' (by simp [ha']))
          exact ⟨b :: bs, ⟨k1, k3⟩, ⟨v, hg, k2⟩, k4⟩

theorem memB_iff {i : Nat} : ∀ {l : List Nat}, memB i l = true ↔ i ∈ l
  | [] => by simp [memB]
  | j :: l => by
    simp only [memB, Bool.or_eq_true, List.mem_cons]
    rw [memB_iff]
    constructor
    · rintro (h | h)
      · exact .inl (Nat.eq_of_beq_eq_true h)
      · exact .inr h
    · rintro (h | h)
      · subst h; exact .inl (by simp)
      · exact .inr h
theorem nodupB_iff : ∀ {l : List Nat}, nodupB l = true ↔ l.Nodup
  | [] => by simp [nodupB]
  | i :: l => by
    simp only [nodupB, Bool.and_eq_true, Bool.not_eq_true', List.nodup_cons]
    rw [nodupB_iff, ← memB_iff]
    simp

theorem blkof_id {p : Pat} {v : SV tb.T} {k : Nat} (h : BlkOf s μ τ p v (some k)) : ∃ i ∈ idsP p v, (s.tok i = true ∧ τ i = some k) ∨ (isLive s i ∧ μ i = k) := by
  cases p <;> rcases v with ac | as | ts <;> first | (cases ac <;> simp only [BlkOf, reduceCtorEq] at h) | (simp only [BlkOf, reduceCtorEq] at h)
  · exact ⟨_, by simp [idsP], .inl ⟨h.2, h.1.symm⟩⟩
  · exact ⟨_, by simp [idsP], .inr ⟨h.2.1, (Option.some.inj h.1).symm⟩⟩
  · exact ⟨_, by simp [idsP], .inr ⟨h.2, (Option.some.inj h.1).symm⟩⟩
  · exact ⟨_, by simp [idsP], .inr ⟨h.2.1, (Option.some.inj h.1).symm⟩⟩

/-- every block handed over belongs to an identity handed over -/
theorem blk_id {get : Nat → Option (SV tb.T)} : ∀ {l : LSpec} {bs : List (Option Nat)}, BlkL s μ τ get l bs → ∀ k ∈ blocksOf bs, ∃ i ∈ idsS get l, (s.tok i = true ∧ τ i = some k) ∨ (isLive s i ∧ μ i = k)
  | [], [], _, k, hk => by simp [blocksOf] at hk
  | a :: l, b :: bs, ⟨⟨v, hg, hb⟩, h2⟩, k, hk => by
    have hsplit : (b = some k) ∨ k ∈ blocksOf bs := by
      simp only [blocksOf, List.filterMap_cons] at hk
      cases b with
      | none => exact .inr (by simpa [blocksOf] using hk)
      | some k' =>
        simp only [id_eq, List.mem_cons] at hk
        rcases hk with e | e
        · subst e; exact .inl rfl
        · exact .inr (by simpa [blocksOf] using e)
    rcases hsplit with e | e
    · subst e
      obtain ⟨i, hi, h⟩ := blkof_id hb
      exact ⟨i, by simp only [idsS, hg, List.mem_append]; exact .inl hi, h⟩
    · obtain ⟨i, hi, h⟩ := blk_id h2 k e
      exact ⟨i, by simp only [idsS, List.mem_append]; exact .inr hi, h⟩

theorem blk_inj (h : SimAt P tb N W a0 g0 w0 D0 s g μ τ a w) {i j k : Nat} (hi : (s.tok i = true ∧ τ i = some k) ∨ (isLive s i ∧ μ i = k)) (hj : (s.tok j = true ∧ τ j = some k) ∨ (isLive s j ∧ μ j = k)) : i = j := by
  rcases hi with ⟨h1, h2⟩ | ⟨h1, h2⟩ <;> rcases hj with ⟨h3, h4⟩ | ⟨h3, h4⟩
  · exact h.tinj i j k h1 h3 h2 h4
  · obtain ⟨⟨n, hn⟩, _⟩ := (h.tokv i h1).2 k h2
    have := (h.live j h3).2.1
    rw [h4, hn] at this; cases this
  · obtain ⟨⟨n, hn⟩, _⟩ := (h.tokv j h3).2 k h4
    have := (h.live i h1).2.1
    rw [h2, hn] at this; cases this
  · exact h.inj i j h1 h3 (h2.trans h4.symm)

theorem blk_nodup (h : SimAt P tb N W a0 g0 w0 D0 s g μ τ a w) {get : Nat → Option (SV tb.T)} : ∀ {l : LSpec} {bs : List (Option Nat)}, BlkL s μ τ get l bs → (idsS get l).Nodup → (blocksOf bs).Nodup
  | [], [], _, _ => by simp [blocksOf]
  | a :: l, b :: bs, hb@⟨⟨v, hg, hb1⟩, h2⟩, hn => by
    have hn' := hn
    simp only [idsS, hg] at hn'
    obtain ⟨n1, n2, n3⟩ := List.nodup_append.1 hn'
    have ih := blk_nodup h h2 n2
    cases b with
    | none => simpa [blocksOf] using ih
    | some k =>
      simp only [blocksOf, List.filterMap_cons, id_eq]
      refine List.nodup_cons.2 ⟨fun hk => ?_, ih⟩
      obtain ⟨j, hj, hj'⟩ := blk_id h2 k hk
      have hi : ∃ i ∈ idsP a.2 v, (s.tok i = true ∧ τ i = some k) ∨ (isLive s i ∧ μ i = k) := by
        exact blkof_id hb1
      obtain ⟨i, hi, hi'⟩ := hi
      have := blk_inj h hi' hj'
      subst this
      exact n3 i hi i hj rfl
end Go.Ev
