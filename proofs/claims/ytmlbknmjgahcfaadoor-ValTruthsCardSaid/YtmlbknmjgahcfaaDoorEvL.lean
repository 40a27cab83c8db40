/- Contracts of Go's library, taken over. -/
import Derived.Test.YtmlbknmjgahcfaaDoorEvC5
import Derived.Lib.LaidTab
namespace Go.Ev
open Go

variable {P : Program} {tb : Tab}

/-- new blocks behind the heap, draws: nothing else -/
def Grows (w w' : World) : Prop := w'.os = w.os ∧ w'.tape = w.tape ∧ w'.output = w.output ∧ w.heap.size ≤ w'.heap.size ∧ ∀ b, b < w.heap.size → w'.heap[b]? = w.heap[b]?

theorem Grows.ext {w w' : World} (h : Grows w w') (g : Gh) (D : Nat → Prop) : Ext g w (fun b => if b < w.heap.size then g b else .con) w' D := by
  obtain ⟨h1, h2, h3, h4, h5⟩ := h
  have e : ∀ b, b < w.heap.size → (if b < w.heap.size then g b else BK.con) = g b := fun b hb => if_pos hb
  refine ⟨h1, h2, h3, h4, fun b hb _ => ⟨h5 b hb, e b hb⟩, fun b hb hg => ⟨h5 b hb, (e b hb).trans hg⟩, fun b hb hg => (e b hb).trans hg, fun b n hb hg => ⟨n, Nat.le_refl _, (e b hb).trans hg, fun i _ => cell_of_block (h5 b hb)⟩⟩

/-- a function of plain values, one result that is no slice -/
theorem fn_lib1 {f : Nat} {sp : FSpec tb} (e : Nat) (hent : Enters P f) (hout : sp.outs = [(0, .val e)]) (hin : refsOf sp.ins = [])
    (h : ∀ (g : Gh) (w : World) (x : XS tb sp.ins) (vs : List Value) (bs : List (Option Nat)) (y : Ret tb sp.outs (refsOf sp.ins)), sp.f x = some y → tb.inv g w → HoldsL P tb g w sp.ins x vs bs →
      ∃ v, (∀ g w, HoldsL P tb g w sp.outs y.outs [v] [none]) ∧ Calls P f vs.toArray w fun r w' => r = .returned v ∧ Grows w w') : FnSound P tb f sp := by
  refine ⟨hent, fun g w x vs bs y hy hinv hh hn => ?_⟩
  obtain ⟨v, hv, hc⟩ := h g w x vs bs y hy hinv hh
  refine Calls.mono hc ?_
  rintro r w' ⟨rfl, hg⟩
  refine ⟨v, [v], [none], _, rfl, by rw [hout]; rfl, hg.ext g _, hv _ _, ?_, by simp [blocksOf], by simp [blocksOf]⟩
  have e1 : ∀ {α : Type} (l : LSpec) (us : List α), refsOf l = [] → l.length = us.length → atRefs l us = [] := by
    intro α l
    induction l with
    | nil => intro us _ _; rfl
    | cons q l ih =>
      intro us hr hl
      cases us with
      | nil => simp at hl
      | cons u us =>
        simp only [refsOf] at hr
        cases hq : q.2.isRef with
        | true => simp [hq] at hr
        | false =>
          simp only [hq, cond_false] at hr
          simp only [atRefs, hq, cond_false]
          exact ih us hr (by simpa using hl)
  rw [e1 _ _ hin hh.length.1, e1 _ _ hin hh.length.2]
  generalize y.refs = z
  revert z
  rw [hin]
  intro z
  trivial

theorem atRefs_none {α : Type} : ∀ (l : LSpec) (us : List α), refsOf l = [] → l.length = us.length → atRefs l us = []
  | [], us, _, _ => rfl
  | q :: l, [], _, hl => by simp at hl
  | q :: l, u :: us, hr, hl => by
    simp only [refsOf] at hr
    cases hq : q.2.isRef with
    | true => simp [hq] at hr
    | false =>
      simp only [hq, cond_false] at hr
      simp only [atRefs, hq, cond_false]
      exact atRefs_none l us hr (by simpa using hl)
theorem blocks_nones {α : Type} (us : List α) : blocksOf (us.map fun _ => (none : Option Nat)) = [] := by induction us <;> simp_all [blocksOf]
theorem left_plain {w w' : World} {g : Gh} {sp : FSpec tb} {x : XS tb sp.ins} {vs : List Value} {bs : List (Option Nat)} {y : Ret tb sp.outs (refsOf sp.ins)} {us : List Value} (hin : refsOf sp.ins = []) (hh : HoldsL P tb g w sp.ins x vs bs) (hg : Grows w w')
    (hv : ∀ g w, HoldsL P tb g w sp.outs y.outs us (us.map fun _ => none)) : ∃ g', Left P tb g w sp.ins sp.outs vs bs y us (us.map fun _ => none) g' w' := by
  refine ⟨_, hg.ext g _, hv _ _, ?_, by rw [blocks_nones]; exact List.nodup_nil, by rw [blocks_nones]; simp⟩
  rw [atRefs_none _ _ hin hh.length.1, atRefs_none _ _ hin hh.length.2]
  generalize y.refs = z
  revert z
  rw [hin]
  intro z
  trivial
/-- a function of plain values, plain results -/
theorem fn_libN {f : Nat} {sp : FSpec tb} (hent : Enters P f) (hin : refsOf sp.ins = [])
    (h : ∀ (g : Gh) (w : World) (x : XS tb sp.ins) (vs : List Value) (bs : List (Option Nat)) (y : Ret tb sp.outs (refsOf sp.ins)), sp.f x = some y → tb.inv g w → HoldsL P tb g w sp.ins x vs bs →
      ∃ v us, RetV sp.outs us v ∧ (∀ g w, HoldsL P tb g w sp.outs y.outs us (us.map fun _ => none)) ∧ Calls P f vs.toArray w fun r w' => r = .returned v ∧ Grows w w') : FnSound P tb f sp := by
  refine ⟨hent, fun g w x vs bs y hy hinv hh _ => ?_⟩
  obtain ⟨v, us, hr, hv, hc⟩ := h g w x vs bs y hy hinv hh
  refine Calls.mono hc ?_
  rintro r w' ⟨rfl, hg⟩
  obtain ⟨g', hl⟩ := left_plain hin hh hg hv
  exact ⟨v, us, _, g', rfl, hr, hl⟩
theorem Grows.refl (w : World) : Grows w w := ⟨rfl, rfl, rfl, Nat.le_refl _, fun _ _ => rfl⟩
/-- a function that the model answers at once -/
theorem fn_at_once {f : Nat} {sp : FSpec tb} (hin : refsOf sp.ins = [])
    (h : ∀ (g : Gh) (w : World) (x : XS tb sp.ins) (vs : List Value) (bs : List (Option Nat)) (y : Ret tb sp.outs (refsOf sp.ins)), sp.f x = some y → tb.inv g w → HoldsL P tb g w sp.ins x vs bs →
      ∃ v us, RetV sp.outs us v ∧ (∀ g w, HoldsL P tb g w sp.outs y.outs us (us.map fun _ => none)) ∧ (callFunc f vs.toArray).run P w = .ok (.value v) w) : FnKeeps P tb f sp := by
  intro g w x vs bs y hy hinv hh _
  obtain ⟨v, us, hr, hv, hc⟩ := h g w x vs bs y hy hinv hh
  obtain ⟨g', hl⟩ := left_plain hin hh (Grows.refl w) hv
  exact .inr ⟨v, w, hc, v, us, _, g', rfl, hr, hl⟩

theorem holdsV_int {g : Gh} {w : World} {e : Nat} {x : tb.T e} {v : Value} {k : IntKind} {n : Int} (ha : isAggB P e = false) (he : tb.enc e x = [.int k n]) (h : HoldsV P tb g w e x v) : v = .int k n ∧ inR k n := by
  unfold HoldsV at h
  simp only [ha, Bool.false_eq_true, if_false] at h
  obtain ⟨c, hc, hd⟩ := h
  rw [he] at hc
  simp only [List.cons.injEq, and_true] at hc
  subst hc
  cases hd
  exact ⟨rfl, by assumption⟩
theorem holdsV_int_mk {g : Gh} {w : World} {e : Nat} {x : tb.T e} {k : IntKind} {n : Int} (ha : isAggB P e = false) (he : tb.enc e x = [.int k n]) (h : inR k n) : HoldsV P tb g w e x (.int k n) := by
  unfold HoldsV
  simp only [ha, Bool.false_eq_true, if_false]
  exact ⟨_, he, .int k n h⟩
theorem holdsV_str {g : Gh} {w : World} {e : Nat} {x : tb.T e} {v : Value} {s : List UInt8} (ha : isAggB P e = false) (he : tb.enc e x = [.str s]) (h : HoldsV P tb g w e x v) : v = .string ⟨s.toArray⟩ ∧ s.length ≤ mxLen := by
  unfold HoldsV at h
  simp only [ha, Bool.false_eq_true, if_false] at h
  obtain ⟨c, hc, hd⟩ := h
  rw [he] at hc
  simp only [List.cons.injEq, and_true] at hc
  subst hc
  cases hd
  exact ⟨rfl, by assumption⟩
theorem holdsV_str_mk {g : Gh} {w : World} {e : Nat} {x : tb.T e} {s : List UInt8} (ha : isAggB P e = false) (he : tb.enc e x = [.str s]) (h : s.length ≤ mxLen) : HoldsV P tb g w e x (.string ⟨s.toArray⟩) := by
  unfold HoldsV
  simp only [ha, Bool.false_eq_true, if_false]
  exact ⟨_, he, .str s h⟩
theorem holdsV_bool_mk {g : Gh} {w : World} {e : Nat} {x : tb.T e} {b : Bool} (ha : isAggB P e = false) (he : tb.enc e x = [.bool b]) : HoldsV P tb g w e x (.bool b) := by
  unfold HoldsV
  simp only [ha, Bool.false_eq_true, if_false]
  exact ⟨_, he, .bool b⟩

/-- a table of Go's library that lies where it lay -/
def TabAt (P : Program) (name : String) (k : IntKind) (zs : List Int) (g : Gh) (w : World) : Prop := ∃ b, P.globalNamed name = some b ∧ g b = .con ∧ Lib.TabIs P w name k zs
theorem TabAt.ext {name : String} {k : IntKind} {zs : List Int} {g g' : Gh} {w w' : World} {D : Nat → Prop} (he : Ext g w g' w' D) (h : TabAt P name k zs g w) : TabAt P name k zs g' w' := by
  obtain ⟨b, h1, h2, h3⟩ := h
  have hb : b < w.heap.size := by
    unfold Lib.TabIs World.var? at h3
    rw [h1] at h3
    simp only [Option.bind_some] at h3
    cases hw : w.heap[b]? with
    | none => rw [hw] at h3; cases h3
    | some o => exact (Array.getElem?_eq_some_iff.1 hw).1
  obtain ⟨e1, e2⟩ := he.con b hb h2
  refine ⟨b, h1, e2, ?_⟩
  unfold Lib.TabIs World.var? at h3 ⊢
  rw [h1] at h3 ⊢
  simp only [Option.bind_some] at h3 ⊢
  rw [e1]; exact h3
end Go.Ev
