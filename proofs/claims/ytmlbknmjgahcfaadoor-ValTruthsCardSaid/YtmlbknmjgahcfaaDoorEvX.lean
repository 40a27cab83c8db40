/- A row out of a contract: what is read as data is data; the law's row. -/
import Derived.Test.YtmlbknmjgahcfaaDoorEvL
import Derived.LaidMore
import Derived.OpenShut
import Derived.WideShapes
import Derived.Handed
import Derived.SizedLaws
namespace Go.Ev
open Go

/-! ## the kinds of a type's cells -/
inductive CK where
  | int (k : IntKind)
  | bool
  | str
  | sl (e : Nat)
  deriving DecidableEq

def CV.is {T : Nat → Type} : CK → CV T → Prop
  | .int k, .int k' _ => k' = k
  | .bool, .bool _ => True
  | .str, .str _ => True
  | .sl e, .sl e' _ => e' = e
  | _, _ => False

def kindsOf (P : Program) : Nat → Nat → Option (List CK)
  | 0, _ => none
  | d + 1, t => match P.underlying t with
    | some (.int k) => some [.int k]
    | some .bool => some [.bool]
    | some .string => some [.str]
    | some (.slice e) => some [.sl e]
    | some (.struct fs) => (match kindsF (kindsOf P d) P fs.toList 0 with
      | some l => bif Nat.beq l.length (P.cellsOf t) then some l else none
      | none => none)
    | _ => none
where
  kindsF (rec : Nat → Option (List CK)) (P : Program) : List Field → Nat → Option (List CK)
    | [], _ => some []
    | f :: fs, o => bif !Nat.beq f.offset o then none else match rec f.type with
      | some l => bif Nat.beq l.length (P.cellsOf f.type) then (match kindsF rec P fs (o + l.length) with
        | some r => some (l ++ r)
        | none => none) else none
      | none => none

/-- what a reading leaves: numbers in range, nothing longer than the reach -/
inductive Wf (P : Program) (tb : Tab) : CV tb.T → Prop where
  | int (k : IntKind) (n : Int) (h : inR k n) : Wf P tb (.int k n)
  | bool (b : Bool) : Wf P tb (.bool b)
  | str (s : List UInt8) (h : s.length ≤ 140737488351232) : Wf P tb (.str s)
  | sl (e : Nat) (xs : List (tb.T e)) (h : xs.length * P.bytesOf e ≤ 140737488351232) (hx : ∀ x ∈ xs, ∀ c ∈ tb.enc e x, Wf P tb c) : Wf P tb (.sl e xs)

/-- types that may be read -/
structure RdTab (P : Program) (tb : Tab) where
  S : List Nat
  D : Nat
  kinds : ∀ t ∈ S, ∃ ks, kindsOf P D t = some ks ∧ (∀ e, CK.sl e ∈ ks → e ∈ S ∧ 0 < P.cellsOf e) ∧ ∀ cs : List (CV tb.T), All2 CV.is ks cs → ∃ x, tb.dec t cs = some x

variable {P : Program} {tb : Tab} {H : Type} {enc : TypeId × Value → H} {w : World} {g : Gh}

theorem wf_inR {k : IntKind} {n : Int} (h : (Lit.int k n).wf = true) : inR k n := by
  cases k <;> simp [Lit.wf, IntKind.min, IntKind.max, IntKind.signed, IntKind.bits] at h <;> simp [inR, lo, hi] <;> omega

def ReadTo (P : Program) (tb : Tab) (g : Gh) (w : World) (ks : List CK) (cs : List Value) : Prop := ∃ ds : List (CV tb.T), All2 CV.is ks ds ∧ All2 (RepD P tb g w) ds cs ∧ ∀ c ∈ ds, Wf P tb c

theorem ReadTo.append {k1 k2 : List CK} {c1 c2 : List Value} (h1 : ReadTo P tb g w k1 c1) (h2 : ReadTo P tb g w k2 c2) : ReadTo P tb g w (k1 ++ k2) (c1 ++ c2) := by
  obtain ⟨d1, a1, b1, e1⟩ := h1
  obtain ⟨d2, a2, b2, e2⟩ := h2
  exact ⟨d1 ++ d2, a1.append a2, b1.append b2, fun c hc => (List.mem_append.1 hc).elim (e1 c) (e2 c)⟩

theorem read_fields {A : Nat → Prop} {n : Nat} {base : Nat} {sp : Nat → Bool} {held : Bool} {d : Nat} {cs : List Value}
    (ih : ∀ (t : Nat) (ks : List CK) (cs : List Value) (x : DataW H × List MemPlace), kindsOf P d t = some ks → DataW.trod enc P w base sp held n t cs = some x → (∀ m ∈ x.1.weights P t, m ≤ 140737488351232) → (∀ e, CK.sl e ∈ ks → A e) → ReadTo P tb g w ks cs) :
    ∀ (fs : List Field) (o : Nat) (ks : List CK) (xs : List (DataW H × List MemPlace)), kindsOf.kindsF (kindsOf P d) P fs o = some ks → xs.length = fs.length → o + ks.length ≤ cs.length →
      (∀ (i : Nat) f, fs[i]? = some f → DataW.trod enc P w base sp held n f.type ((cs.drop f.offset).take (P.cellsOf f.type)) = xs[i]?) →
      (∀ m ∈ DataW.weightsEach P (fs.map (·.type)) (xs.map (·.1)), m ≤ 140737488351232) → (∀ e, CK.sl e ∈ ks → A e) → ReadTo P tb g w ks ((cs.drop o).take ks.length)
  | [], o, ks, xs, hk, hl, ho, hf, hw, hA => by
    simp only [kindsOf.kindsF, Option.some.injEq] at hk
    subst hk
    exact ⟨[], trivial, by simp [All2], by simp⟩
  | f :: fs, o, ks, xs, hk, hl, ho, hf, hw, hA => by
    unfold kindsOf.kindsF at hk
    cases e1 : (!Nat.beq f.offset o) with
    | true => simp [e1] at hk
    | false =>
      have eo : f.offset = o := Nat.eq_of_beq_eq_true (by simpa using e1)
      simp only [e1, cond_false] at hk
      cases e2 : kindsOf P d f.type with
      | none => simp [e2] at hk
      | some l =>
        simp only [e2] at hk
        cases e3 : Nat.beq l.length (P.cellsOf f.type) with
        | false => simp [e3] at hk
        | true =>
          have el : l.length = P.cellsOf f.type := Nat.eq_of_beq_eq_true e3
          simp only [e3, cond_true] at hk
          cases e4 : kindsOf.kindsF (kindsOf P d) P fs (o + l.length) with
          | none => simp [e4] at hk
          | some r =>
            simp only [e4, Option.some.injEq] at hk
            subst hk
            cases xs with
            | nil => simp at hl
            | cons x xs =>
              have h0 := hf 0 f rfl
              simp only [List.getElem?_cons_zero] at h0
              simp only [List.length_append] at ho ⊢
              have r1 := ih f.type l _ x e2 h0 (fun m hm => hw m (by simp [DataW.weightsEach, hm])) (fun e he => hA e (by simp [he]))
              have r2 := read_fields ih fs (o + l.length) r xs e4 (by simpa using hl) (by omega) (fun i f' hf' => hf (i + 1) f' (by simpa using hf')) (fun m hm => hw m (by simp [DataW.weightsEach, hm])) (fun e he => hA e (by simp [he]))
              rw [eo, ← el] at r1
              have := r1.append r2
              have ee : (cs.drop o).take (l.length + r.length) = (cs.drop o).take l.length ++ (cs.drop (o + l.length)).take r.length := by
                rw [List.take_add, List.drop_drop]
              rw [ee]; exact this


theorem cells_at {base : Nat} {a : Addr} {n : Nat} {cs : List Value} (h : w.cells? base a n = some cs) : cs.length = n ∧ ∀ j v, cs[j]? = some v → w.cell? (a.add j) = some v := by
  unfold World.cells? at h
  split at h
  · refine ⟨by simpa using Lib.mapM_length h, fun j v hv => ?_⟩
    have hj : j < n := by
      have := (List.getElem?_eq_some_iff.1 hv).1
      have e : cs.length = n := by simpa using Lib.mapM_length h
      omega
    obtain ⟨b, hb, hf⟩ := Lib.mapM_at h j j (by simp [hj])
    rw [hv] at hb
    simp only [Option.some.injEq] at hb
    subst hb
    exact hf
  · cases h

theorem list_of {α : Type} {Q : Nat → α → Prop} : ∀ n, (∀ i, i < n → ∃ x, Q i x) → ∃ xs : List α, xs.length = n ∧ ∀ i x, xs[i]? = some x → Q i x
  | 0, _ => ⟨[], rfl, by simp⟩
  | n + 1, h => by
    obtain ⟨xs, hl, hx⟩ := list_of n (fun i hi => h i (by omega))
    obtain ⟨y, hy⟩ := h n (by omega)
    refine ⟨xs ++ [y], by simp [hl], fun i x hi => ?_⟩
    by_cases hin : i < n
    · rw [List.getElem?_append_left (by omega)] at hi
      exact hx i x hi
    · rw [List.getElem?_append_right (by omega)] at hi
      have : i - xs.length = 0 := by
        have := (List.getElem?_eq_some_iff.1 hi).1
        simp at this; omega
      rw [this] at hi
      simp only [List.getElem?_cons_zero, Option.some.injEq] at hi
      subst hi
      have : i = n := by omega
      subst this; exact hy

theorem weightsAll_mem {e : Nat} : ∀ {ds : List (DataW H)} {i : Nat} {d : DataW H}, ds[i]? = some d → ∀ m ∈ d.weights P e, m ∈ DataW.weightsAll P e ds
  | d0 :: ds, 0, d, h, m, hm => by
    simp only [List.getElem?_cons_zero, Option.some.injEq] at h
    subst h; simp [DataW.weightsAll, hm]
  | d0 :: ds, i + 1, d, h, m, hm => by
    simp only [List.getElem?_cons_succ] at h
    simp [DataW.weightsAll, weightsAll_mem h m hm]

theorem wf_le {c d : CV tb.T} (h : CV.le c d) (hc : Wf P tb c) : Wf P tb d := by
  rcases h with rfl | ⟨rfl, e, rfl⟩
  · exact hc
  · exact .sl e [] (by simp) (by simp)
theorem wf_all : ∀ {cs ds : List (CV tb.T)}, All2 CV.le cs ds → (∀ c ∈ cs, Wf P tb c) → ∀ d ∈ ds, Wf P tb d
  | [], [], _, _, d, hd => by simp at hd
  | c :: cs, d :: ds, ⟨h1, h2⟩, hc, d', hd => by
    rcases List.mem_cons.1 hd with rfl | hd
    · exact wf_le h1 (hc c (by simp))
    · exact wf_all h2 (fun c hc' => hc c (by simp [hc'])) d' hd
  | [], _ :: _, h, _, _, _ => h.elim
  | _ :: _, [], h, _, _, _ => h.elim

/-- a value read at a type of the table is data of that type -/
theorem RdTab.dec (R : RdTab P tb) {t : Nat} (ht : t ∈ R.S) {ks : List CK} {cs : List Value} (hk : kindsOf P R.D t = some ks) (h : ReadTo P tb g w ks cs) : ∃ x : tb.T t, All2 (RepD P tb g w) (tb.enc t x) cs ∧ ∀ c ∈ tb.enc t x, Wf P tb c := by
  obtain ⟨ks', hk', _, hd⟩ := R.kinds t ht
  rw [hk] at hk'
  simp only [Option.some.injEq] at hk'
  subst hk'
  obtain ⟨ds, h1, h2, h3⟩ := h
  obtain ⟨x, hx⟩ := hd ds h1
  exact ⟨x, dec_sound hx h2, wf_all (tb.ok t ds x hx (all_inR h2)) h3⟩

theorem read (R : RdTab P tb) (hg : ∀ b, g b = .con) {base : Nat} {sp : Nat → Bool} {held : Bool} : ∀ (n d t : Nat) (ks : List CK) (cs : List Value) (x : DataW H × List MemPlace),
    kindsOf P d t = some ks → DataW.trod enc P w base sp held n t cs = some x → (∀ m ∈ x.1.weights P t, m ≤ 140737488351232) → (∀ e, CK.sl e ∈ ks → e ∈ R.S ∧ 0 < P.cellsOf e) → ReadTo P tb g w ks cs := by
  intro n
  induction n with
  | zero => intro d t ks cs x _ h; simp [DataW.trod] at h
  | succ n ih =>
    intro d t ks cs x hk h hw hs
    cases d with
    | zero => simp [kindsOf] at hk
    | succ d =>
      unfold kindsOf at hk
      split at hk
      · rename_i k hu
        simp only [Option.some.injEq] at hk; subst hk
        obtain ⟨m, rfl, _, hwf⟩ := DataW.trod_int hu h
        exact ⟨[.int k m], ⟨rfl, trivial⟩, ⟨.int k m (wf_inR hwf), trivial⟩, by simpa using Wf.int k m (wf_inR hwf)⟩
      · rename_i hu
        simp only [Option.some.injEq] at hk; subst hk
        obtain ⟨b, rfl, _⟩ := DataW.trod_bool hu h
        exact ⟨[.bool b], ⟨trivial, trivial⟩, ⟨.bool b, trivial⟩, by simpa using Wf.bool b⟩
      · rename_i hu
        simp only [Option.some.injEq] at hk; subst hk
        obtain ⟨s, rfl, rfl, hl⟩ := DataW.trod_string hu h
        have hle : s.data.toList.length ≤ 140737488351232 := hw _ (by simp [DataW.weights])
        refine ⟨[.str s.data.toList], ⟨trivial, trivial⟩, ⟨?_, trivial⟩, by simpa using Wf.str _ hle⟩
        have := RepD.str (P := P) (tb := tb) (g := g) (w := w) s.data.toList (by simp only [mxLen]; omega)
        simpa using this
      · rename_i e hu
        simp only [Option.some.injEq] at hk; subst hk
        obtain ⟨he, hpos⟩ := hs e (by simp)
        rcases DataW.trod_slice hu h with ⟨rfl, rfl⟩ | ⟨a, len, cap, elems, rest, n', hn, rfl, rfl, _, hlc, hcm, hle, hel, _⟩
        · exact ⟨[.sl e []], ⟨rfl, trivial⟩, ⟨.slnil e, trivial⟩, by simpa using Wf.sl (P := P) (tb := tb) e [] (by simp) (by simp)⟩
        · obtain rfl : n = n' := by omega
          obtain ⟨kse, hke, hse, _⟩ := R.kinds e he
          have hwt : (elems.length + rest.length) * P.bytesOf e ≤ 140737488351232 ∧ ∀ m ∈ DataW.weightsAll P e (elems.map (·.1)), m ≤ 140737488351232 := by
            simp only [DataW.weights, hu, List.length_map] at hw
            exact ⟨hw _ (by simp), fun m hm => hw m (by simp [hm])⟩
          have hone : ∀ i, i < len → ∃ x : tb.T e, ∃ csE, w.cells? base (a.add (i * P.cellsOf e)) (P.cellsOf e) = some csE ∧ All2 (RepD P tb g w) (tb.enc e x) csE ∧ ∀ c ∈ tb.enc e x, Wf P tb c := fun i hi => by
            have h1 := hel i hi
            rw [List.getElem?_eq_getElem (by omega)] at h1
            obtain ⟨csE, h2, h3⟩ := Option.bind_eq_some_iff.1 h1
            obtain ⟨x, hx, hxw⟩ := R.dec he hke (ih _ _ _ _ _ hke h3 (fun m hm => hwt.2 m (weightsAll_mem (i := i) (d := (elems[i]).1) (by rw [List.getElem?_map, List.getElem?_eq_getElem (by omega)]; rfl) m hm)) hse)
            exact ⟨x, csE, h2, hx, hxw⟩
          obtain ⟨xs, hxl, hxs⟩ := list_of len hone
          have hWf : Wf P tb (.sl e xs) := .sl e xs (by rw [hxl, ← hle]; exact Nat.le_trans (Nat.mul_le_mul_right _ (by omega)) hwt.1) (fun x hx => by
            obtain ⟨i, hi, hx⟩ := List.getElem_of_mem hx
            obtain ⟨_, _, _, h⟩ := hxs i x (by rw [List.getElem?_eq_getElem hi, hx])
            exact h)
          refine ⟨[.sl e xs], ⟨rfl, trivial⟩, ⟨?_, trivial⟩, by simpa using hWf⟩
          cases len with
          | zero =>
            have : xs = [] := List.eq_nil_of_length_eq_zero hxl
            subst this
            exact .sle e a cap hcm
          | succ len =>
            obtain ⟨b, off, spot⟩ := a
            have hspot : spot = none := by
              obtain ⟨x, csE, h2, _⟩ := hone 0 (by omega)
              obtain ⟨hl, hc⟩ := cells_at h2
              obtain ⟨v, hv⟩ : ∃ v, csE[0]? = some v := ⟨csE[0], List.getElem?_eq_getElem (by omega)⟩
              have := hc 0 v hv
              unfold World.cell? at this
              split at this
              · split at this
                · cases this
                · rename_i hsp; simpa [Addr.add] using hsp
              · cases this
            subst hspot
            rw [← hxl]
            have hcell : ∀ (i : Nat) x (j : Nat) c, xs[i]? = some x → (tb.enc e x)[j]? = some c → ∃ v, w.cell? ⟨b, off + i * P.cellsOf e + j, none⟩ = some v ∧ RepD P tb g w c v := fun i x j c hx hc => by
              obtain ⟨csE, h2, h3, _⟩ := hxs i x hx
              obtain ⟨v, hv, hr⟩ := h3.get hc
              have := (cells_at h2).2 j v hv
              rw [addr_add, addr_add] at this
              exact ⟨v, this, hr⟩
            have hlenE : ∀ (i : Nat) x, xs[i]? = some x → (tb.enc e x).length = P.cellsOf e := fun i x hx => by
              obtain ⟨csE, h2, h3, _⟩ := hxs i x hx
              rw [h3.length, (cells_at h2).1]
            refine .sl e xs b off cap (fun i j => (w.cell? ⟨b, off + i * P.cellsOf e + j, none⟩).getD (.bool false)) (by omega) hcm hlenE (fun _ => ⟨?_, .inl (hg b)⟩) (fun i x j c hx hc => ?_) (fun i x j c hx hc => ?_)
            · obtain ⟨x0, hx0⟩ : ∃ x, xs[0]? = some x := ⟨xs[0], List.getElem?_eq_getElem (by omega)⟩
              obtain ⟨c0, hc0⟩ : ∃ c, (tb.enc e x0)[0]? = some c := ⟨(tb.enc e x0)[0]'(by rw [hlenE 0 x0 hx0]; exact hpos), List.getElem?_eq_getElem _⟩
              obtain ⟨v, hv, _⟩ := hcell 0 x0 0 c0 hx0 hc0
              unfold World.cell? at hv
              cases hh : w.heap[b]? with
              | none => simp [hh] at hv
              | some o => exact (Array.getElem?_eq_some_iff.1 hh).1
            · obtain ⟨v, hv, _⟩ := hcell i x j c hx hc
              rw [hv]; rfl
            · obtain ⟨v, hv, hr⟩ := hcell i x j c hx hc
              rw [hv]; exact hr
      · rename_i fs hu
        cases hkf : kindsOf.kindsF (kindsOf P d) P fs.toList 0 with
        | none => simp [hkf] at hk
        | some l =>
          simp only [hkf] at hk
          cases hlb : Nat.beq l.length (P.cellsOf t) with
          | false => simp [hlb] at hk
          | true =>
            have hll : l.length = P.cellsOf t := Nat.eq_of_beq_eq_true hlb
            simp only [hlb, cond_true, Option.some.injEq] at hk
            subst hk
            obtain ⟨xs, n', hn, rfl, hcl, hxl, hf⟩ := DataW.trod_struct hu h
            obtain rfl : n = n' := by omega
            have := read_fields (A := fun e => e ∈ R.S ∧ 0 < P.cellsOf e) (fun t ks cs x => ih d t ks cs x) fs.toList 0 l xs hkf (by simpa using hxl) (by omega) (fun i f hi => hf i f (by simpa using hi)) (fun m hm => hw m (by simpa [DataW.weights, hu] using hm)) hs
            rwa [List.drop_zero, List.take_of_length_le (by omega)] at this
      · cases hk

/-! ## what a reading finds can be decoded -/
def AllIs {T : Nat → Type} : List CK → (List (CV T) → Prop) → Prop
  | [], p => p []
  | .int k :: ks, p => ∀ n, AllIs ks fun cs => p (.int k n :: cs)
  | .bool :: ks, p => ∀ b, AllIs ks fun cs => p (.bool b :: cs)
  | .str :: ks, p => ∀ s, AllIs ks fun cs => p (.str s :: cs)
  | .sl e :: ks, p => ∀ xs, AllIs ks fun cs => p (.sl e xs :: cs)
theorem allIs {T : Nat → Type} : ∀ {ks : List CK} {p : List (CV T) → Prop}, AllIs ks p → ∀ cs, All2 CV.is ks cs → p cs
  | [], p, h, [], _ => h
  | [], _, _, _ :: _, h => h.elim
  | _ :: _, _, _, [], h => by simp [All2] at h
  | k :: ks, p, h, c :: cs, ⟨h1, h2⟩ => by
    cases k with
    | int k => cases c <;> simp [CV.is] at h1; subst h1; exact allIs (p := fun cs => p (_ :: cs)) (h _) cs h2
    | bool => cases c <;> simp [CV.is] at h1; exact allIs (p := fun cs => p (_ :: cs)) (h _) cs h2
    | str => cases c <;> simp [CV.is] at h1; exact allIs (p := fun cs => p (_ :: cs)) (h _) cs h2
    | sl e => cases c <;> simp [CV.is] at h1; subst h1; exact allIs (p := fun cs => p (_ :: cs)) (h _) cs h2
/-- all that the table asks of a type, out of closed facts -/
theorem rd_type {t D : Nat} {S : List Nat} {ks : List CK} (hk : kindsOf P D t = some ks) (hs : ks.all (fun k => match k with | .sl e => S.contains e && Nat.blt 0 (P.cellsOf e) | _ => true) = true) (hd : AllIs ks fun cs => (tb.dec t cs).isSome = true) :
    ∃ ks, kindsOf P D t = some ks ∧ (∀ e, CK.sl e ∈ ks → e ∈ S ∧ 0 < P.cellsOf e) ∧ ∀ cs : List (CV tb.T), All2 CV.is ks cs → ∃ x, tb.dec t cs = some x := by
  refine ⟨ks, hk, fun e he => ?_, fun cs hc => Option.isSome_iff_exists.1 (allIs hd cs hc)⟩
  have := List.all_eq_true.1 hs _ he
  simp only [Bool.and_eq_true, List.contains_iff_mem] at this
  exact ⟨this.1, Nat.le_of_ble_eq_true this.2⟩
end Go.Ev
