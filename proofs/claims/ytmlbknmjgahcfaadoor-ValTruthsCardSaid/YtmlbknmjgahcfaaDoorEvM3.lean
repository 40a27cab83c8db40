/- Operations that make slices, or append to them. -/
import Derived.Test.YtmlbknmjgahcfaaDoorEvM2
import Derived.Great.BuildSlice
namespace Go.Ev
open Go

variable {P : Program} {tb : Tab} {N : Nat} {W : Nat → Prop} {a0 : Act} {g0 : Gh} {w0 : World} {D0 : Nat → Prop}
variable {s s' : St tb.T} {g g' : Gh} {μ μ' : Nat → Nat} {τ τ' : Nat → Option Nat} {a : Act} {w w' : World}
variable {K : Act → World → Prop} {Q : Exit → Act → World → Prop}

theorem Ext.push' (g : Gh) {w w' : World} {o : Obj} (k : BK) (D : Nat → Prop) (hh : w'.heap = w.heap.push o) (ho : w'.os = w.os) (ht : w'.tape = w.tape) (hp : w'.output = w.output) : Ext g w (upd g w.heap.size k) w' D := by
  have e := Ext.push g w o k D
  refine ⟨ho, ht, hp, by rw [hh]; exact e.size, fun b hb hd => ?_, fun b hb hg => ?_, e.var, fun b n hb hg => ?_⟩
  · rw [hh]; exact e.keep b hb hd
  · rw [hh]; exact e.con b hb hg
  · obtain ⟨n', h1, h2, h3⟩ := e.ar b n hb hg
    exact ⟨n', h1, h2, fun i hi => by
      rw [← h3 i hi]
      exact cell_of_block (w := { w with heap := w.heap.push o }) (by rw [hh])⟩

/-- a new slice, owned -/
theorem own_new (h : SimAt P tb N W a0 g0 w0 D0 s g μ τ a w) (ids : List Nat) {d e : Nat} (hd : d < N) (hW : W d) (hun : s.used d = false) {xs : List (tb.T e)} {us : List Value} {c : Array Value} {el : Nat} {fz : Nat × Nat} {cap : Nat}
    (hh : w'.heap = w.heap.push (.cells c el fz)) (ho : w'.os = w.os) (ht : w'.tape = w.tape) (hp : w'.output = w.output)
    (hlen : ∀ x ∈ xs, (tb.enc e x).length = P.cellsOf e) (hcap : xs.length ≤ cap) (hm : cap ≤ mxLen) (hr : All2 (RepD P tb g w) (cellsOfSl tb e xs) us) (hus : ∀ (j : Nat) v, us[j]? = some v → c[j]? = some v)
    (hc : cap * P.cellsOf e ≤ c.size) (hf : ∀ i, i < c.size → ¬ (fz.1 ≤ i ∧ i < fz.2)) :
    Sim P tb N W a0 g0 w0 D0 { s.drop ids with env := upd s.env d (some (.c (.own e xs d))), tok := upd (s.drop ids).tok d true, used := upd s.used d true }
      (a.put (some d) (.slice (some ⟨w.heap.size, 0, none⟩) xs.length cap)) w' := by
  have hnew : w'.heap[w.heap.size]? = some (.cells c el fz) := by rw [hh]; exact push_new w _
  have he := Ext.push' g (.ar (xs.length * P.cellsOf e)) (fun _ => False) hh ho ht hp
  have hsz : w.heap.size < w'.heap.size := by rw [hh]; simp
  refine (h.own (b? := some w.heap.size) he ids hd hW hun (fun _ _ f => f.elim) (fun _ _ _ _ _ f => f) (fun _ _ f => f) (fun b hb => ?_) ?_ ?_).sim
  · injection hb with hb; subst hb
    refine ⟨⟨_, upd_same _ _ _⟩, hsz, .inl h.ext.size, fun t ht _ e => ?_⟩
    have := ((h.tokv t ht).2 _ e).2.1
    omega
  · refine sl_of_cells hlen hcap hm (fun _ => ⟨hsz, .inr ⟨_, upd_same _ _ _, by omega⟩⟩) (hr.mono fun _ _ _ q => q.mono he.keeps) (fun j v hv => ?_)
    unfold World.cell?
    simp only [hnew, Nat.zero_add]
    simpa using hus j v hv
  · exact .inr ⟨w.heap.size, 0, cap, c, el, fz, rfl, rfl, by rw [upd_same, Nat.zero_add], hnew, by omega, hcap, hf⟩

/-! ## slices' literals -/
def valAt : Nat → List (Nat × Value) → Option Value
  | _, [] => none
  | i, (j, v) :: ps => bif Nat.beq i j then some v else valAt i ps
theorem valAt_map (ν : Operand → Value) (i : Nat) : ∀ ps : List (Nat × Operand), valAt i (ps.map fun p => (p.1, ν p.2)) = (partAt i ps).map ν
  | [] => rfl
  | (j, x) :: ps => by
    simp only [List.map_cons, valAt, partAt]
    cases Nat.beq i j
    · exact valAt_map ν i ps
    · rfl
theorem valAt_none {i : Nat} : ∀ {ps : List (Nat × Value)}, i ∉ ps.map (·.1) → valAt i ps = none
  | [], _ => rfl
  | (j, v) :: ps, h => by
    simp only [List.map_cons, List.mem_cons, not_or] at h
    have : Nat.beq i j = false := by
      cases hb : Nat.beq i j with
      | false => rfl
      | true => exact absurd (Nat.eq_of_beq_eq_true hb) h.1
    simp only [valAt, this, cond_false]
    exact valAt_none h.2

theorem partAt_mem : ∀ {ps : List (Nat × Operand)} {q : Nat × Operand}, (ps.map (·.1)).Nodup → q ∈ ps → partAt q.1 ps = some q.2
  | [], q, _, hq => by simp at hq
  | (pi, px) :: ps, q, hn, hq => by
    rw [List.map_cons] at hn
    obtain ⟨m1, m2⟩ := List.nodup_cons.1 hn
    rcases List.mem_cons.1 hq with e' | e'
    · subst e'; simp [partAt]
    · have hne : Nat.beq q.1 pi = false := by
        cases hb : Nat.beq q.1 pi with
        | false => rfl
        | true =>
          have := Nat.eq_of_beq_eq_true hb
          exact absurd (List.mem_map.2 ⟨q, e', this⟩) m1
      simp only [partAt, hne, cond_false]
      exact partAt_mem m2 e'

theorem row_index {i i0 j sz : Nat} (hj : j < sz) : (i0 * sz ≤ i * sz + j ∧ i * sz + j < i0 * sz + sz) ↔ i = i0 := by
  constructor
  · rintro ⟨h1, h2⟩
    rcases Nat.lt_trichotomy i i0 with c | c | c
    · have := Nat.mul_le_mul_right sz (show i + 1 ≤ i0 from c)
      rw [Nat.add_mul] at this; omega
    · exact c
    · have := Nat.mul_le_mul_right sz (show i0 + 1 ≤ i from c)
      rw [Nat.add_mul] at this; omega
  · rintro rfl; omega

theorem fill_row {sz n : Nat} : ∀ (ps : List (Nat × Value)) (c : Array Value), (∀ p ∈ ps, p.1 < n ∧ p.2.cells.size = sz) → (ps.map (·.1)).Nodup → n * sz ≤ c.size →
    ∃ c', Instr.fill (fun i => some (i * sz, sz)) c ps = some c' ∧ c'.size = c.size ∧ ∀ i j, i < n → j < sz → c'[i * sz + j]? = match valAt i ps with | some v => v.cells[j]? | none => c[i * sz + j]?
  | [], c, _, _, _ => ⟨c, rfl, rfl, fun _ _ _ _ => rfl⟩
  | (i0, v) :: ps, c, hp, hn, hc => by
    obtain ⟨h1, h2⟩ := hp (i0, v) (by simp)
    simp only at h1 h2
    rw [List.map_cons] at hn
    obtain ⟨n1, n2⟩ := List.nodup_cons.1 hn
    have hle : i0 * sz + sz ≤ c.size := by
      have := Nat.mul_le_mul_right sz (show i0 + 1 ≤ n from h1)
      rw [Nat.add_mul] at this; omega
    have hfold := foldl_set v.cells.toList 0 (i0 * sz) c (by rw [Array.length_toList, h2]; omega)
    let c1 : Array Value := v.cells.zipIdx.foldl (fun cs (x : Value × Nat) => cs.setIfInBounds (i0 * sz + x.2) x.1) c
    have hc1 : c1.toList = setAt c.toList v.cells.toList (i0 * sz) := by
      simp only [c1]
      rw [← Array.foldl_toList, Array.toList_zipIdx]
      exact hfold
    have hs1 : c1.size = c.size := by
      have := congrArg List.length hc1
      rw [setAt_length _ _ _ (by simp [h2]; omega)] at this
      simpa using this
    obtain ⟨c', k1, k2, k3⟩ := fill_row ps c1 (fun p hp' => hp p (by simp [hp'])) n2 (by rw [hs1]; exact hc)
    refine ⟨c', ?_, k2.trans hs1, fun i j hi hj => ?_⟩
    · simp only [Instr.fill]
      have hcond : (decide (v.cells.size ≠ sz) || decide (i0 * sz + v.cells.size > c.size)) = false := by
        rw [h2]; simp; omega
      simp only [hcond, Bool.false_eq_true, if_false]
      exact k1
    · rw [k3 i j hi hj]
      have hget : c1[i * sz + j]? = if i = i0 then v.cells[j]? else c[i * sz + j]? := by
        rw [← Array.getElem?_toList, hc1, setAt_get _ _ _ _ (by simp [h2]; omega)]
        have hr := row_index (i := i) (i0 := i0) hj
        simp only [Array.length_toList, h2]
        by_cases e : i = i0
        · subst e
          rw [if_neg (by omega), if_pos (by omega), if_pos rfl, show i * sz + j - i * sz = j by omega]; simp
        · rw [if_neg e]
          by_cases c1 : i * sz + j < i0 * sz
          · rw [if_pos c1]; simp
          · rw [if_neg c1, if_neg (fun c2 => e (hr.1 ⟨by omega, c2⟩))]; simp
      simp only [valAt]
      by_cases e : i = i0
      · subst e
        rw [valAt_none n1]
        simp [hget]
      · have : Nat.beq i i0 = false := by
          cases hb : Nat.beq i i0 with
          | false => rfl
          | true => exact absurd (Nat.eq_of_beq_eq_true hb) e
        simp only [this, cond_false, hget, if_neg e]

theorem buildEls_spec {e : Nat} {ρ : Operand → Option (SV tb.T)} {parts : List (Nat × Operand)} : ∀ {n i0 : Nat} {xs : List (tb.T e)}, buildEls P tb e ρ parts n i0 = some xs →
    xs.length = n ∧ ∀ (k : Nat) x, xs[k]? = some x → ∃ as cs, elCells P e ρ parts (i0 + k) = some as ∧ cvs as = some cs ∧ cs.length = P.cellsOf e ∧ tb.dec e cs = some x
  | 0, i0, xs, h => by simp only [buildEls, Option.some.injEq] at h; subst h; simp
  | n + 1, i0, xs, h => by
    simp only [buildEls] at h
    cases h1 : elCells P e ρ parts i0 with
    | none => simp [h1] at h
    | some as =>
      cases h2 : cvs as with
      | none => simp [h1, h2] at h
      | some cs =>
        cases h3 : Nat.beq cs.length (P.cellsOf e) with
        | false => simp [h1, h2, h3] at h
        | true =>
          cases h4 : tb.dec e cs with
          | none => simp [h1, h2, h3, h4] at h
          | some x0 =>
            cases h5 : buildEls P tb e ρ parts n (i0 + 1) with
            | none => simp [h1, h2, h3, h4, h5] at h
            | some xs' =>
              simp only [h1, h2, h3, h4, h5, cond_true, Option.some.injEq] at h; subst h
              obtain ⟨k1, k2⟩ := buildEls_spec h5
              refine ⟨by simp [k1], fun k x hx => ?_⟩
              cases k with
              | zero => simp at hx; subst hx; exact ⟨as, cs, h1, h2, Nat.eq_of_beq_eq_true h3, h4⟩
              | succ k =>
                simp only [List.getElem?_cons_succ] at hx
                obtain ⟨as', cs', q⟩ := k2 k x hx
                exact ⟨as', cs', by rw [show i0 + (k + 1) = i0 + 1 + k by omega]; exact q.1, q.2⟩

/-- the elements' cells, row by row -/
theorem rows_all2 {e : Nat} {xs : List (tb.T e)} {c : Array Value} (hpos : 0 < P.cellsOf e) (hc : c.size = xs.length * P.cellsOf e) (hlen : ∀ x ∈ xs, (tb.enc e x).length = P.cellsOf e)
    (h : ∀ (i : Nat) x, xs[i]? = some x → ∀ j cv, (tb.enc e x)[j]? = some cv → ∃ v, c[i * P.cellsOf e + j]? = some v ∧ RepD P tb g w cv v) : All2 (RepD P tb g w) (cellsOfSl tb e xs) c.toList := by
  refine All2.of_get (by rw [flat_len hlen]; simp [hc]) (fun k cv v hk hv => ?_)
  have hkl : k < xs.length * P.cellsOf e := by rw [← flat_len hlen]; exact (List.getElem?_eq_some_iff.1 hk).1
  have h1 : k / P.cellsOf e < xs.length := Nat.div_lt_of_lt_mul (by rw [Nat.mul_comm]; exact hkl)
  have h2 : k % P.cellsOf e < P.cellsOf e := Nat.mod_lt _ hpos
  have h3 : k / P.cellsOf e * P.cellsOf e + k % P.cellsOf e = k := by have := Nat.div_add_mod k (P.cellsOf e); rw [Nat.mul_comm] at this; exact this
  have hx := List.getElem?_eq_getElem h1
  have hf := flat_get hlen _ _ _ hx h2
  rw [h3, hk] at hf
  obtain ⟨v', hv', hd⟩ := h _ _ hx _ _ hf.symm
  rw [h3] at hv'
  have hvv : v' = v := by
    rw [← Array.getElem?_toList, hv] at hv'; exact (Option.some.inj hv').symm
  subst hvv; exact hd

theorem go_buildSlice (h : SimAt P tb N W a0 g0 w0 D0 s g μ τ a w) {Γ : List (Nat × FSpec tb)} {o : Oper} {t n : Nat} {parts : Array (Nat × Operand)} (ho : o.op = .buildSlice t n parts) (hd : ∀ d, o.dst = some d → d < N ∧ W d)
    (he : evOp P tb Γ o s some = some s') : o.wp P a w (Goes P tb N W a0 g0 w0 D0 s') Q := by
  unfold evOp at he
  rw [ho] at he
  simp only at he
  cases hdst : o.dst with
  | none => simp [hdst] at he
  | some d =>
    simp only [hdst] at he
    cases hel : elemOf P t with
    | none => simp [hel] at he
    | some e =>
      simp only [hel] at he
      have hu := elemOf_some hel
      cases hk : (nodupB (parts.toList.map (·.1)) && parts.toList.all (fun p => Nat.blt p.1 n) && Nat.ble (n * P.cellsOf e) 16777216 && Nat.blt 0 (P.cellsOf e) && hasZero P e) with
      | false => simp only [hk, cond_false] at he; cases he
      | true =>
        simp only [hk, cond_true] at he
        simp only [Bool.and_eq_true] at hk
        obtain ⟨⟨⟨⟨hnd, hall⟩, hbig⟩, hpos⟩, hhz⟩ := hk
        have hnd := nodupB_iff.1 hnd
        have hbig : n * P.cellsOf e ≤ 16777216 := Nat.le_of_ble_eq_true hbig
        have hpos : 0 < P.cellsOf e := Nat.le_of_ble_eq_true hpos
        cases hb : buildEls P tb e s.val parts.toList n 0 with
        | none => simp [hb] at he
        | some xs =>
          simp only [hb, newOwn] at he
          cases hus : s.used d with
          | true => simp [hus] at he
          | false =>
            simp only [hus, cond_false, Option.some.injEq] at he; subst he
            obtain ⟨hxl, hxs⟩ := buildEls_spec hb
            have hρ := val_sound h
            obtain ⟨ie, hie⟩ := info_of_sized (P := P) (t := e) (by unfold sized; exact Nat.ble_eq_true_of_le hpos)
            have hsz : ie.size = P.cellsOf e := by simp [Program.cellsOf, hie]
            have hpd : ∀ p ∈ parts.toList.map (fun p => (p.1, a.eval p.2)), p.1 < n := fun p hp => by
              simp only [List.mem_map] at hp
              obtain ⟨q, hq, rfl⟩ := hp
              have := List.all_eq_true.1 hall q hq
              exact Nat.le_of_ble_eq_true this
            -- each element's cells
            have hel' : ∀ (k : Nat) x, xs[k]? = some x → ∃ us : List Value, us.length = P.cellsOf e ∧ All2 (RepD P tb g w) (tb.enc e x) us ∧
                ((∃ y, partAt k parts.toList = some y ∧ (a.eval y).cells.toList = us) ∨ (partAt k parts.toList = none ∧ ∃ z, ie.zero = some z ∧ z.cells.toList = us)) := fun k x hx => by
              obtain ⟨as, cs, q1, q2, q3, q4⟩ := hxs k x hx
              rw [Nat.zero_add] at q1
              unfold elCells at q1
              cases hp : partAt k parts.toList with
              | some y =>
                simp only [hp] at q1
                cases hv : s.val y with
                | none => simp [hv] at q1
                | some v =>
                  simp only [hv] at q1
                  have hr := cells_sound q1 (hρ y v hv).1
                  have hd' := dec_sound q4 (cvs_sound q2 hr)
                  refine ⟨(a.eval y).cells.toList, ?_, hd', .inl ⟨y, rfl, rfl⟩⟩
                  rw [← q3, ← all_d q2]; exact hr.length.symm
              | none =>
                simp only [hp] at q1
                obtain ⟨i, z, hi, hz, hr, _⟩ := zeroOf_sound (P := P) (g := g) (w := w) (μ := μ) (τ := τ) (tok := s.tok) q1
                rw [hie] at hi; injection hi with hi; subst hi
                have hd' := dec_sound q4 (cvs_sound q2 hr)
                refine ⟨z.cells.toList, ?_, hd', .inr ⟨rfl, z, hz, rfl⟩⟩
                rw [← q3, ← all_d q2]; exact hr.length.symm
            have hlen : ∀ x ∈ xs, (tb.enc e x).length = P.cellsOf e := fun x hx => by
              obtain ⟨i, hi, hx⟩ := List.getElem_of_mem hx
              obtain ⟨us, q1, q2, _⟩ := hel' i x (by rw [List.getElem?_eq_getElem hi, hx])
              rw [q2.length, q1]
            have hpsz : ∀ p ∈ parts.toList.map (fun p => (p.1, a.eval p.2)), p.2.cells.size = P.cellsOf e := fun p hp => by
              have hlt := hpd p hp
              simp only [List.mem_map] at hp
              obtain ⟨q, hq, rfl⟩ := hp
              have hpa := partAt_mem hnd hq
              simp only at hlt
              have hx : ∃ x, xs[q.1]? = some x := ⟨_, List.getElem?_eq_getElem (by rw [hxl]; exact hlt)⟩
              obtain ⟨x, hx⟩ := hx
              obtain ⟨us, q1, q2, q3⟩ := hel' q.1 x hx
              rcases q3 with ⟨y, hy, hy'⟩ | ⟨hy, _⟩
              · rw [hpa] at hy; injection hy with hy; subst hy
                rw [← q1, ← hy']; simp
              · rw [hpa] at hy; cases hy
            rcases Nat.eq_zero_or_pos n with hn0 | hn0
            · -- no element
              subst hn0
              have hxs0 : xs = [] := List.eq_nil_of_length_eq_zero hxl
              subst hxs0
              have hp0 : parts.map (fun p => (p.1, a.eval p.2)) = #[] := by
                apply Array.ext'
                rw [Array.toList_map]
                cases hpl : parts.toList.map (fun p => (p.1, a.eval p.2)) with
                | nil => rfl
                | cons p ps => have := hpd p (by rw [hpl]; simp); omega
              have hrun : (execOp a.eval o).run P w = .ok (.value (.slice (some ⟨w.heap.size, 0, none⟩) 0 0)) { w with heap := w.heap.push (.cells #[] e) } := by
                have hp0' : (Array.map (fun (x : Nat × Operand) => match x with | (i, y) => (i, a.eval y)) parts) = #[] := hp0
                have hr0 : Array.range 0 = #[] := rfl
                simp [execOp, ho, Instr.buildSlice, run_underlying hu, run_sizeOf_ex ⟨ie, hie⟩, hp0', Instr.fill, newRow, hr0]
              refine wp_value hrun ?_
              rw [hdst]
              exact own_new h [] (hd d hdst).1 (hd d hdst).2 hus (us := []) rfl rfl rfl rfl hlen (Nat.le_refl _) (Nat.zero_le _) trivial (by simp) (by simp) (by simp)
            · -- some
              have hz : ∃ z, ie.zero = some z := by
                simp only [hasZero, hie] at hhz
                cases hz : ie.zero with
                | none => simp [hz] at hhz
                | some z => exact ⟨z, rfl⟩
              obtain ⟨z, hz⟩ := hz
              have hmul : 0 < n * P.cellsOf e := Nat.mul_pos hn0 hpos
              let c0 : Array Value := (Array.range (n * P.cellsOf e)).map (z.cells[· % z.cells.size]!)
              have hc0 : c0.size = n * P.cellsOf e := by simp [c0]
              obtain ⟨c', k1, k2, k3⟩ := fill_row (sz := P.cellsOf e) (n := n) (parts.toList.map fun p => (p.1, a.eval p.2)) c0 (fun p hp => ⟨hpd p hp, hpsz p hp⟩) (by rw [List.map_map]; exact hnd) (by rw [hc0]; exact Nat.le_refl _)
              have hrun : (execOp a.eval o).run P w = .ok (.value (.slice (some ⟨w.heap.size, 0, none⟩) n n)) { w with heap := w.heap.push (.cells c' e) } := by
                have := run_buildSlice (P := P) w t e n (parts.map fun p => (p.1, a.eval p.2)) c' ie z hu hie hz (by rw [hsz]; omega) (by rw [hsz]; omega) (by rw [hsz, Array.toList_map]; exact k1)
                simp [execOp, ho, this]
              refine wp_value hrun ?_
              rw [hdst]
              have hc' : c'.size = xs.length * P.cellsOf e := by rw [k2, hc0, hxl]
              have hrows : All2 (RepD P tb g w) (cellsOfSl tb e xs) c'.toList := rows_all2 hpos hc' hlen (fun i x hx j cv hj => by
                have hi : i < n := by rw [← hxl]; exact (List.getElem?_eq_some_iff.1 hx).1
                obtain ⟨us, q1, q2, q3⟩ := hel' i x hx
                have hj' : j < P.cellsOf e := by rw [← hlen x (List.mem_of_getElem? hx)]; exact (List.getElem?_eq_some_iff.1 hj).1
                obtain ⟨v, hv, hd'⟩ := q2.get hj
                refine ⟨v, ?_, hd'⟩
                rw [k3 i j hi hj', valAt_map]
                rcases q3 with ⟨y, hy, hy'⟩ | ⟨hy, z', hz', hy'⟩
                · rw [hy]
                  simp only [Option.map_some]
                  rw [← Array.getElem?_toList, hy']; exact hv
                · rw [hy]
                  simp only [Option.map_none]
                  rw [hz] at hz'; injection hz' with hz'; subst hz'
                  have hzs : z.cells.size = P.cellsOf e := by rw [← Array.length_toList, hy', q1]
                  have hlt : i * P.cellsOf e + j < n * P.cellsOf e := by
                    have := Nat.mul_le_mul_right (P.cellsOf e) (show i + 1 ≤ n from hi)
                    rw [Nat.add_mul] at this; omega
                  have hmod : (i * P.cellsOf e + j) % P.cellsOf e = j := by rw [Nat.mul_comm, Nat.mul_add_mod]; exact Nat.mod_eq_of_lt hj'
                  simp only [c0, Array.getElem?_map, Array.getElem?_range, hlt, if_true, Option.map_some, hzs, hmod]
                  rw [← hy', Array.getElem?_toList] at hv
                  rw [getElem!_def, hv])
              have := own_new h [] (hd d hdst).1 (hd d hdst).2 hus (us := c'.toList) (c := c') (el := e) (fz := (0, 0)) (cap := n) (w' := { w with heap := w.heap.push (.cells c' e) }) rfl rfl rfl rfl hlen (by rw [hxl]; exact Nat.le_refl _) (by unfold mxLen; have := Nat.le_mul_of_pos_right n hpos; omega) hrows (fun j v hv => by simpa using hv) (by rw [hc', hxl]; exact Nat.le_refl _) (by simp)
              rw [hxl] at this
              exact this
end Go.Ev
