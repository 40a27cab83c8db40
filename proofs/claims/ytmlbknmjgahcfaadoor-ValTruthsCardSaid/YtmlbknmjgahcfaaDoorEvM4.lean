/- make, []byte(s), append. -/
import Derived.Test.YtmlbknmjgahcfaaDoorEvM3
namespace Go.Ev
open Go

variable {P : Program} {tb : Tab} {N : Nat} {W : Nat → Prop} {a0 : Act} {g0 : Gh} {w0 : World} {D0 : Nat → Prop}
variable {s s' : St tb.T} {g g' : Gh} {μ μ' : Nat → Nat} {τ τ' : Nat → Option Nat} {a : Act} {w w' : World}
variable {K : Act → World → Prop} {Q : Exit → Act → World → Prop}

theorem rows_take {e : Nat} {xs : List (tb.T e)} {c : Array Value} (hpos : 0 < P.cellsOf e) (hc : xs.length * P.cellsOf e ≤ c.size) (hlen : ∀ x ∈ xs, (tb.enc e x).length = P.cellsOf e)
    (h : ∀ (i : Nat) x, xs[i]? = some x → ∀ j cv, (tb.enc e x)[j]? = some cv → ∃ v, c[i * P.cellsOf e + j]? = some v ∧ RepD P tb g w cv v) : All2 (RepD P tb g w) (cellsOfSl tb e xs) (c.toList.take (xs.length * P.cellsOf e)) := by
  have hl : (c.toList.take (xs.length * P.cellsOf e)).length = xs.length * P.cellsOf e := by simp; omega
  have := rows_all2 (P := P) (tb := tb) (g := g) (w := w) (e := e) (xs := xs) (c := (c.toList.take (xs.length * P.cellsOf e)).toArray) hpos (by simp; omega) hlen (fun i x hx j cv hj => by
    obtain ⟨v, hv, hd⟩ := h i x hx j cv hj
    refine ⟨v, ?_, hd⟩
    have hi : i < xs.length := (List.getElem?_eq_some_iff.1 hx).1
    have hj' : j < P.cellsOf e := by rw [← hlen x (List.mem_of_getElem? hx)]; exact (List.getElem?_eq_some_iff.1 hj).1
    have hlt : i * P.cellsOf e + j < xs.length * P.cellsOf e := by
      have := Nat.mul_le_mul_right (P.cellsOf e) (show i + 1 ≤ xs.length from hi)
      rw [Nat.add_mul] at this; omega
    rw [List.getElem?_toArray, List.getElem?_take_of_lt hlt]
    simpa using hv)
  simpa using this

theorem mkList_some {α : Type} {B : Nat} {z : α} {l c : Int} {xs : List α} (h : mkList B z l c = some xs) : 0 ≤ l ∧ l ≤ c ∧ c * B ≤ 140737488355328 ∧ xs = List.replicate l.toNat z := by
  unfold mkList at h
  cases hc : (decide (0 ≤ l) && decide (l ≤ c) && decide (c * B ≤ 140737488355328)) with
  | false => simp [hc] at h
  | true =>
    simp only [hc, cond_true, Option.some.injEq] at h
    simp only [Bool.and_eq_true, decide_eq_true_eq] at hc
    exact ⟨hc.1.1, hc.1.2, hc.2, h.symm⟩

theorem go_makeSlice (h : SimAt P tb N W a0 g0 w0 D0 s g μ τ a w) {Γ : List (Nat × FSpec tb)} {o : Oper} {t : Nat} {ol oc : Operand} (ho : o.op = .makeSlice t ol oc) (hd : ∀ d, o.dst = some d → d < N ∧ W d)
    (he : evOp P tb Γ o s some = some s') : o.wp P a w (Goes P tb N W a0 g0 w0 D0 s') Q := by
  unfold evOp at he
  rw [ho] at he
  simp only at he
  cases hdst : o.dst with
  | none => simp [hdst] at he
  | some d =>
    cases hel : elemOf P t with
    | none => simp [hdst, hel] at he
    | some e =>
      cases hz : zeroOf (T := tb.T) P e with
      | none => simp [hdst, hel, hz] at he
      | some z =>
        cases hcv : cvs z with
        | none => simp [hdst, hel, hz, hcv] at he
        | some cs =>
          cases hk : (sized P e && Nat.beq cs.length (P.cellsOf e)) with
          | false => simp only [hdst, hel, hz, hcv, hk, cond_false] at he; cases he
          | true =>
            cases hdec : tb.dec e cs with
            | none => simp only [hdst, hel, hz, hcv, hk, cond_true, hdec] at he; cases he
            | some x =>
              simp only [hdst, hel, hz, hcv, hk, cond_true, hdec] at he
              simp only [Bool.and_eq_true] at hk
              obtain ⟨hs, hcl⟩ := hk
              have hpos : 0 < P.cellsOf e := by unfold sized at hs; exact Nat.le_of_ble_eq_true hs
              have hcl := Nat.eq_of_beq_eq_true hcl
              split at he
              · rename_i li ci hl hc
                have r1 := (val_sound h ol _ hl).1
                have r2 := (val_sound h oc _ hc).1
                generalize hul : a.eval ol = ul at r1
                generalize huc : a.eval oc = uc at r2
                cases r1; rename_i i1
                cases r2; rename_i i2
                obtain ⟨xs, hx, he⟩ := obnd_eq_some.1 he
                obtain ⟨m0, m1, m2, rfl⟩ := mkList_some hx
                unfold newOwn at he
                cases hus : s.used d with
                | true => simp [hus] at he
                | false =>
                  simp only [hus, cond_false, Option.some.injEq] at he; subst he
                  have hu := elemOf_some hel
                  obtain ⟨ie, zv, hie, hzv, hzr, _⟩ := zeroOf_sound (P := P) (g := g) (w := w) (μ := μ) (τ := τ) (tok := s.tok) hz
                  have hsz : ie.size = P.cellsOf e := by simp [Program.cellsOf, hie]
                  have hby : ie.bytes = P.bytesOf e := by simp [Program.bytesOf, hie]
                  have hzd := dec_sound hdec (cvs_sound hcv hzr)
                  have hzs : zv.cells.size = P.cellsOf e := by rw [← Array.length_toList, ← hcl, ← all_d hcv]; exact hzr.length.symm
                  have hxl : (tb.enc e x).length = P.cellsOf e := by rw [hzd.length, Array.length_toList, hzs]
                  let c' : Array Value := (Array.range (ci.toNat * P.cellsOf e)).map (zv.cells[· % zv.cells.size]!)
                  have hc' : c'.size = ci.toNat * P.cellsOf e := by simp [c']
                  have hw1 : IntKind.i64.wrap li = li := wrap_of_inR i1
                  have hw2 : IntKind.i64.wrap ci = ci := wrap_of_inR i2
                  have hmul : (ie.bytes : Int) * ci ≤ 140737488355328 := by rw [hby, Int.mul_comm]; exact m2
                  have htl : ∀ n : Int, 0 ≤ n → n ≤ ci → ¬ (n < 0 ∨ (ie.bytes : Int) * n > 281474976710656) := fun n h0 h1 => by
                    have := Int.mul_le_mul_of_nonneg_left h1 (show (0 : Int) ≤ (ie.bytes : Int) by omega)
                    omega
                  have hroom : ¬ (ci.toNat * ie.bytes > roomBytes) := by
                    unfold roomBytes
                    have : ((ci.toNat * ie.bytes : Nat) : Int) = ci * ie.bytes := by rw [Int.natCast_mul, Int.toNat_of_nonneg (by omega)]
                    rw [Int.mul_comm] at hmul
                    omega
                  have hrun : (execOp a.eval o).run P w = .ok (.value (.slice (some ⟨w.heap.size, 0, none⟩) li.toNat ci.toNat)) { w with heap := w.heap.push (.cells c' e) } := by
                    have hcond : (decide (ci < 0) || decide ((ie.bytes : Int) * ci > 2 ^ 48)) = false := by
                      have := htl ci (by omega) (by omega)
                      simp; omega
                    simp only [execOp, ho, Instr.makeSlice, Sem.run_bind, run_underlying hu, Result.andThen_ok, hul, huc, asInt, asIntOf, Sem.run_pure, run_typeInfo hie, hw1, hw2, hcond, Bool.false_or]
                    rw [if_neg (by simp; omega)]
                    simp only [askRoom, hroom, if_false, Sem.run_bind, Sem.run_pure, Result.andThen_ok, run_sizeOf_ex ⟨ie, hie⟩]
                    by_cases h0 : ci.toNat * P.cellsOf e = 0
                    · have hr0 : Array.range 0 = #[] := rfl
                      have hc0 : c' = #[] := by simp only [c', h0, hr0, Array.map_empty]
                      simp only [h0, if_true, hr0, Array.map_empty, newRow, Sem.run_bind, run_newObj', Sem.run_pure, Result.andThen_ok, hc0]
                    · simp only [h0, if_false, zeroValue, Sem.run_bind, run_typeInfo hie, hzv, newRow, run_newObj', Sem.run_pure, Result.andThen_ok]
                      rfl
                  refine wp_value hrun ?_
                  rw [hdst]
                  have hlr : (List.replicate li.toNat x).length = li.toNat := by simp
                  have hall : ∀ y ∈ List.replicate li.toNat x, (tb.enc e y).length = P.cellsOf e := fun y hy => by
                    rw [(List.mem_replicate.1 hy).2]; exact hxl
                  have hle : li.toNat ≤ ci.toNat := by omega
                  have hle' := Nat.mul_le_mul_right (P.cellsOf e) hle
                  have := own_new h [] (hd d hdst).1 (hd d hdst).2 hus (xs := List.replicate li.toNat x) (us := c'.toList.take (li.toNat * P.cellsOf e)) (c := c') (el := e) (fz := (0, 0)) (cap := ci.toNat) (w' := { w with heap := w.heap.push (.cells c' e) }) rfl rfl rfl rfl hall (by rw [hlr]; exact hle) (by unfold mxLen; unfold inR Ev.hi at i2; simp only [] at i2; omega)
                    (by
                      have := rows_take (P := P) (tb := tb) (g := g) (w := w) (xs := List.replicate li.toNat x) (c := c') hpos (by rw [hlr, hc']; exact hle') hall (fun i y hy j cv hj => by
                        have hi : i < li.toNat := by have := (List.getElem?_eq_some_iff.1 hy).1; rwa [hlr] at this
                        have hyx : y = x := (List.mem_replicate.1 (List.mem_of_getElem? hy)).2
                        subst hyx
                        have hj' : j < P.cellsOf e := by rw [← hxl]; exact (List.getElem?_eq_some_iff.1 hj).1
                        obtain ⟨v, hv, hdv⟩ := hzd.get hj
                        refine ⟨v, ?_, hdv⟩
                        have hlt : i * P.cellsOf e + j < ci.toNat * P.cellsOf e := by
                          have := Nat.mul_le_mul_right (P.cellsOf e) (show i + 1 ≤ ci.toNat by omega)
                          rw [Nat.add_mul] at this; omega
                        have hmod : (i * P.cellsOf e + j) % P.cellsOf e = j := by rw [Nat.mul_comm, Nat.mul_add_mod]; exact Nat.mod_eq_of_lt hj'
                        simp only [c', Array.getElem?_map, Array.getElem?_range, hlt, if_true, Option.map_some, hzs, hmod]
                        rw [Array.getElem?_toList] at hv
                        rw [getElem!_def, hv])
                      rw [hlr] at this; exact this)
                    (fun j v hv => by
                      have hj : j < li.toNat * P.cellsOf e := by have := (List.getElem?_eq_some_iff.1 hv).1; simp at this; omega
                      rw [List.getElem?_take_of_lt hj] at hv
                      simpa using hv) (by rw [hc']; exact Nat.le_refl _) (by simp)
                  rw [hlr] at this
                  exact this
              · cases he
end Go.Ev
