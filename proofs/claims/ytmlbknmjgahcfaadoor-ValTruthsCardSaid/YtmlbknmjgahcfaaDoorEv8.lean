/- Operations that look at temporaries alone: all of them are told right. -/
import Derived.Test.YtmlbknmjgahcfaaDoorEv7
import Derived.Laws.Tables
namespace Go.Ev
open Go

variable {P : Program} {tb : Tab} {g : Gh} {w : World} {μ : Nat → Nat} {τ : Nat → Option Nat} {tok : Nat → Bool}

/-! ## parts of structs -/
theorem foldl_set : ∀ (vs : List Value) (k off : Nat) (c : Array Value), off + k + vs.length ≤ c.size →
    ((vs.zipIdx k).foldl (fun cs (x : Value × Nat) => cs.setIfInBounds (off + x.2) x.1) c).toList = setAt c.toList vs (off + k)
  | [], k, off, c, _ => by simp [setAt_nil]
  | v :: vs, k, off, c, h => by
    simp only [List.zipIdx_cons, List.foldl_cons, List.length_cons] at h ⊢
    rw [foldl_set vs (k + 1) off _ (by rw [Array.size_setIfInBounds]; omega)]
    rw [setAt_cons _ _ _ _ (by simp; omega)]
    simp [Nat.add_assoc]

theorem cells_agg (us : List Value) : (Value.agg us.toArray).cells = us.toArray := rfl
theorem cells_one {v : Value} (h : Value.one v = true) : v.cells = #[v] := by
  cases v <;> first | rfl | cases h

/-- a value's cells -/
theorem cells_sound {x : SV tb.T} {as : List (AC tb.T)} {v : Value} (h : x.cells = some as) (hr : RepV P tb g w μ τ tok x v) : All2 (RepC P tb g w μ τ tok) as v.cells.toList := by
  cases x with
  | c a =>
    simp only [SV.cells, Option.some.injEq] at h; subst h
    have hr' : RepC P tb g w μ τ tok a v := hr
    rw [cells_one hr'.one]
    exact ⟨hr', trivial⟩
  | agg as' =>
    simp only [SV.cells, Option.some.injEq] at h; subst h
    obtain ⟨us, rfl, h⟩ := hr
    exact h
  | tup vs => simp [SV.cells] at h

theorem setAt_All2 {α β : Type} {R : α → β → Prop} {as bs : List α} {us vs : List β} {o : Nat} (h : All2 R as us) (k : All2 R bs vs) : All2 R (setAt as bs o) (setAt us vs o) := by
  unfold setAt
  rw [k.length]
  exact ((h.take o).append k).append (h.drop _)

theorem built_places {fs : List Field} (h : fs.all (fun f => (P.info? f.type).isSome) = true) :
    fs.mapM (fun f => (P.info? f.type).map fun i => (f.offset, i.size)) = some (fs.map fun f => (f.offset, P.cellsOf f.type)) := by
  induction fs with
  | nil => simp
  | cons f fs ih =>
    simp only [List.all_cons, Bool.and_eq_true] at h
    obtain ⟨h1, h2⟩ := h
    obtain ⟨i, hi⟩ := Option.isSome_iff_exists.1 h1
    simp [ih h2, hi, Program.cellsOf]

theorem fillS_sound {t : Nat} {fs : Array Field} (hu : P.underlying t = some (.struct fs)) {ρ : Operand → Option (SV tb.T)} {ν : Operand → Value} {U : Nat → Prop}
    (hρ : ∀ x v, ρ x = some v → RepV P tb g w μ τ tok v (ν x) ∧ ∀ i ∈ v.ids, U i) :
    ∀ (ps : List (Nat × Operand)) (cells : List (AC tb.T)) (as : List (AC tb.T)) (c : Array Value), fillS P t ρ ps cells = some as → All2 (RepC P tb g w μ τ tok) cells c.toList → (∀ a ∈ cells, ∀ i ∈ a.ids, U i) →
      ∃ c', Instr.fill ((fs.toList.map fun f => (f.offset, P.cellsOf f.type)).toArray[·]?) c (ps.map fun p => (p.1, ν p.2)) = some c' ∧ All2 (RepC P tb g w μ τ tok) as c'.toList ∧ (∀ a ∈ as, ∀ i ∈ a.ids, U i)
  | [], cells, as, c, h, hr, hi => by
    simp only [fillS, Option.some.injEq] at h; subst h
    exact ⟨c, rfl, hr, hi⟩
  | (i, x) :: ps, cells, as, c, h, hr, hi => by
    simp only [fillS] at h
    cases hf : fieldOf P t i with
    | none => simp [hf] at h
    | some f =>
      cases hx : ρ x with
      | none => simp [hf, hx] at h
      | some v =>
        cases hv : v.cells with
        | none => simp [hf, hx, hv] at h
        | some bs =>
          simp only [hf, hx, hv] at h
          cases hc : (decide (bs.length = P.cellsOf f.type) && decide (f.offset + bs.length ≤ cells.length)) with
          | false => simp [hc] at h
          | true =>
            simp only [hc, cond_true] at h
            simp only [Bool.and_eq_true, decide_eq_true_eq] at hc
            obtain ⟨h1, h2⟩ := hc
            obtain ⟨r1, r2⟩ := hρ x v hx
            have rc := cells_sound hv r1
            have hlen := rc.length
            have hlen' := hr.length
            have hfs : fs[i]? = some f := by simpa [fieldOf, hu] using hf
            have hsize : (ν x).cells.size = bs.length := by rw [← Array.length_toList]; exact hlen.symm
            have hcs : c.size = cells.length := by rw [← Array.length_toList]; exact hlen'.symm
            have hset := setAt_All2 (o := f.offset) hr rc
            have hfold := foldl_set (ν x).cells.toList 0 f.offset c (by rw [Array.length_toList]; omega)
            obtain ⟨c', k1, k2, k3⟩ := fillS_sound hu hρ ps _ as
              ((ν x).cells.zipIdx.foldl (fun cs (c, j) => cs.setIfInBounds (f.offset + j) c) c) h (by
                rw [← Array.foldl_toList, Array.toList_zipIdx]
                rw [Nat.add_zero] at hfold
                have : (fun (cs : Array Value) (x : Value × Nat) => cs.setIfInBounds (f.offset + x.2) x.1) = (fun cs x => match x with | (c, j) => cs.setIfInBounds (f.offset + j) c) := rfl
                rw [← this, hfold]
                exact hset) (fun a ha j hj => by
                unfold setAt at ha
                rcases List.mem_append.1 ha with ha | ha
                · rcases List.mem_append.1 ha with ha | ha
                  · exact hi a (List.mem_of_mem_take ha) j hj
                  · refine r2 j ?_
                    cases v with
                    | c a' => simp only [SV.cells, Option.some.injEq] at hv; subst hv; simp at ha; subst ha; exact hj
                    | agg as' => simp only [SV.cells, Option.some.injEq] at hv; subst hv; exact List.mem_flatMap.2 ⟨a, ha, hj⟩
                    | tup _ => simp [SV.cells] at hv
                · exact hi a (List.mem_of_mem_drop ha) j hj)
            refine ⟨c', ?_, k2, k3⟩
            simp only [List.map_cons, Instr.fill]
            have hp : (fs.toList.map fun f => (f.offset, P.cellsOf f.type)).toArray[i]? = some (f.offset, P.cellsOf f.type) := by
              simp [hfs]
            simp only [hp]
            have hc' : (decide ((ν x).cells.size ≠ P.cellsOf f.type) || decide (f.offset + (ν x).cells.size > c.size)) = false := by
              rw [hsize, hcs, h1, Bool.or_eq_false_iff]
              rw [h1] at h2
              simp; omega
            simp only [hc', Bool.false_eq_true, if_false]
            exact k1

theorem zeroOf_sound {e : Nat} {as : List (AC tb.T)} (h : zeroOf P e = some as) : ∃ i z, P.info? e = some i ∧ i.zero = some z ∧ All2 (RepC P tb g w μ τ tok) as z.cells.toList ∧ ∀ a ∈ as, a.ids = [] := by
  unfold zeroOf at h
  cases hi : P.info? e with
  | none => simp [hi] at h
  | some i =>
    cases hz : i.zero with
    | none => simp [hi, hz] at h
    | some z =>
      simp only [hi, hz] at h
      obtain ⟨h1, h2⟩ := constCells_sound (P := P) (g := g) (w := w) (μ := μ) (τ := τ) (tok := tok) h
      exact ⟨i, z, rfl, hz, h1, h2⟩

theorem build_sound {t : Nat} {parts : Array (Nat × Operand)} {z as : List (AC tb.T)} {fs : Array Field} {ρ : Operand → Option (SV tb.T)} {ν : Operand → Value} {U : Nat → Prop}
    (hρ : ∀ x v, ρ x = some v → RepV P tb g w μ τ tok v (ν x) ∧ ∀ i ∈ v.ids, U i) (hu : P.underlying t = some (.struct fs)) (hz : zeroOf P t = some z) (hok : fieldsOk P t = true)
    (h : fillS P t ρ parts.toList z = some as) :
    ∃ us : List Value, (Instr.build t (parts.map fun p => (p.1, ν p.2))).run P w = .ok (.agg us.toArray) w ∧ All2 (RepC P tb g w μ τ tok) as us ∧ ∀ a ∈ as, ∀ i ∈ a.ids, U i := by
  obtain ⟨it, zv, hi, hz', hzr, hzi⟩ := zeroOf_sound (P := P) (g := g) (w := w) (μ := μ) (τ := τ) (tok := tok) hz
  obtain ⟨c', k1, k2, k3⟩ := fillS_sound hu hρ parts.toList z as zv.cells h hzr (fun a ha i hi => by rw [hzi a ha] at hi; simp at hi)
  refine ⟨c'.toList, ?_, k2, k3⟩
  refine run_build w t _ c' ?_
  simp only [fieldsOk, hu] at hok
  unfold Program.built
  simp only [hi, hu, hz', built_places hok]
  simpa using k1

/-! ## pieces -/
theorem cut1_sound {t : Nat} {cells : List (AC tb.T)} {o : Nat} {v : SV tb.T} {us : Array Value} (h : cut1 P t cells o = some v) (hr : All2 (RepC P tb g w μ τ tok) cells us.toList) :
    (∃ u, (part t us o).run P w = .ok u w ∧ RepV P tb g w μ τ tok v u) ∧ ∀ i ∈ v.ids, ∃ a ∈ cells, i ∈ a.ids := by
  unfold cut1 at h
  cases ha : aggOf P t with
  | none => simp [ha] at h
  | some b =>
    cases b with
    | true =>
      simp only [ha] at h
      cases hb : Nat.ble (o + P.cellsOf t) cells.length with
      | false => simp [hb] at h
      | true =>
        simp only [hb, cond_true, Option.some.injEq] at h; subst h
        refine ⟨⟨_, run_part_agg ha _ _ _, ⟨(us.toList.drop o).take (P.cellsOf t), ?_, (hr.drop o).take _⟩⟩, ?_⟩
        · congr 1
          apply Array.ext'
          simp [List.take_drop]
        · intro i hi
          simp only [SV.ids, List.mem_flatMap] at hi
          obtain ⟨a, ha, hi⟩ := hi
          exact ⟨a, List.mem_of_mem_drop (List.mem_of_mem_take ha), hi⟩
    | false =>
      simp only [ha] at h
      cases hg : cells[o]? with
      | none => simp [hg] at h
      | some a =>
        simp only [hg, Option.some.injEq] at h; subst h
        obtain ⟨u, hu, hru⟩ := hr.get hg
        refine ⟨⟨u, run_part_cell ha (by simpa using hu) _, hru⟩, fun i hi => ⟨a, List.mem_of_getElem? hg, hi⟩⟩

theorem idx_some {α : Type} {xs : List α} {i : Int} {y : α} (h : idx xs i = some y) : 0 ≤ i ∧ i < xs.length ∧ xs[i.toNat]? = some y := by
  unfold idx at h
  by_cases h0 : 0 ≤ i
  · simp only [h0, decide_true, cond_true] at h
    have := (List.getElem?_eq_some_iff.1 h).1
    exact ⟨h0, by omega, h⟩
  · simp [h0] at h
theorem sub_some {α : Type} {xs zs : List α} {l h : Int} (hs : sub xs l h = some zs) : 0 ≤ l ∧ l ≤ h ∧ h ≤ xs.length ∧ zs = (xs.take h.toNat).drop l.toNat := by
  unfold sub at hs
  cases hc : (decide (0 ≤ l) && decide (l ≤ h) && decide (h ≤ xs.length)) with
  | false => simp [hc] at hs
  | true =>
    simp only [hc, cond_true, Option.some.injEq] at hs
    simp only [Bool.and_eq_true, decide_eq_true_eq] at hc
    exact ⟨hc.1.1, hc.1.2, hc.2, hs.symm⟩

/-- a piece of a slice is a slice -/
theorem slice_piece {e : Nat} {xs : List (tb.T e)} {b off cap : Nat} (hr : RepD P tb g w (.sl e xs) (.slice (some ⟨b, off, none⟩) xs.length cap)) (hs : sized P e = true) {l h : Nat} (hl : l ≤ h) (hh : h ≤ xs.length) :
    RepD P tb g w (.sl e ((xs.take h).drop l)) (.slice (some (if cap = l then ⟨b, off, none⟩ else ⟨b, off + l * P.cellsOf e, none⟩)) (h - l) (cap - l)) := by
  obtain ⟨⟨_, _, hv, hcap, hm⟩, hc⟩ := slice_cells hr
  injection hv with _ _ hv
  subst hv
  rcases hc with ⟨_, rfl⟩ | ⟨b', off', cap', hv, h1, h2, h3, h4, val, h5, h6⟩
  · have e1 : h - l = 0 := by simp at hh; omega
    rw [e1]
    simpa using RepD.sle (P := P) (tb := tb) (g := g) (w := w) e _ (cap - l) (by omega)
  injection hv with hv _ hv'
  subst hv'
  injection hv with hv
  injection hv with e1 e2
  subst e1; subst e2
  have hlen : ((xs.take h).drop l).length = h - l := by simp; omega
  have hget : ∀ i, i < h - l → ((xs.take h).drop l)[i]? = xs[l + i]? := fun i hi => by
    rw [List.getElem?_drop, List.getElem?_take_of_lt (by omega)]
  by_cases e0 : cap = l
  · -- nothing is left
    have hz : h - l = 0 := by omega
    have hnil : (xs.take h).drop l = [] := List.eq_nil_of_length_eq_zero (by omega)
    rw [if_pos e0, hz, hnil]
    have := RepD.sl (P := P) (tb := tb) (g := g) (w := w) e [] b off (cap - l) (fun _ _ => .bool false) (by simp) (by omega) (by simp) (by simp) (by simp) (by simp)
    simpa using this
  · rw [if_neg e0]
    have := RepD.sl (P := P) (tb := tb) (g := g) (w := w) e ((xs.take h).drop l) b (off + l * P.cellsOf e) (cap - l) (fun i j => val (l + i) j) (by rw [hlen]; omega) (by omega)
      (fun i x hx => by
        have hi : i < h - l := by have := (List.getElem?_eq_some_iff.1 hx).1; omega
        exact h3 (l + i) x (by rw [← hget i hi]; exact hx))
      (fun h0 => by
        rw [hlen] at h0 ⊢
        have hpos : 0 < P.cellsOf e := by unfold sized at hs; exact Nat.le_of_ble_eq_true hs
        have hx : 0 < xs.length * P.cellsOf e := Nat.mul_pos (by
          rcases Nat.eq_zero_or_pos (h - l) with z | z
          · rw [z] at h0; simp at h0
          · omega) hpos
        obtain ⟨f1, f2⟩ := h4 hx
        refine ⟨f1, f2.imp id fun ⟨n, hn, hle⟩ => ⟨n, hn, Nat.le_trans ?_ hle⟩⟩
        have : l * P.cellsOf e + (h - l) * P.cellsOf e = h * P.cellsOf e := by rw [← Nat.add_mul]; congr 1; omega
        have := Nat.mul_le_mul_right (P.cellsOf e) hh
        omega)
      (fun i x j c hx hc => by
        have hi : i < h - l := by have := (List.getElem?_eq_some_iff.1 hx).1; omega
        have := h5 (l + i) x j c (by rw [← hget i hi]; exact hx) hc
        rw [← this]
        congr 2
        rw [Nat.add_mul]; omega)
      (fun i x j c hx hc => by
        have hi : i < h - l := by have := (List.getElem?_eq_some_iff.1 hx).1; omega
        exact h6 (l + i) x j c (by rw [← hget i hi]; exact hx) hc)
    rw [hlen] at this
    exact this
end Go.Ev
