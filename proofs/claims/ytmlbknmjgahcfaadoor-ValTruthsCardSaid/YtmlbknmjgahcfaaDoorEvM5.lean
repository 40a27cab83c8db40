/- []byte(s), append. -/
import Derived.Test.YtmlbknmjgahcfaaDoorEvM4
import Derived.Laws.IdiomStrings
namespace Go.Ev
open Go

variable {P : Program} {tb : Tab} {N : Nat} {W : Nat → Prop} {a0 : Act} {g0 : Gh} {w0 : World} {D0 : Nat → Prop}
variable {s s' : St tb.T} {g g' : Gh} {μ μ' : Nat → Nat} {τ τ' : Nat → Option Nat} {a : Act} {w w' : World}
variable {K : Act → World → Prop} {Q : Exit → Act → World → Prop}

/-- a text's bytes, as elements -/
theorem bytes_cells {e : Nat} (he : e = tb.b8) (hl : tb.T e = UInt8) (ht : List UInt8 = List (tb.T e)) (l : List UInt8) :
    (cast ht l : List (tb.T e)).length = l.length ∧ (∀ x ∈ (cast ht l : List (tb.T e)), (tb.enc e x).length = 1) ∧ cellsOfSl tb e (cast ht l) = l.map fun b => CV.int .u8 (b.toNat : Int) := by
  have hb := fun x => b8_of he (l := hl) x
  have key : ∀ (t : Type) (h1 : t = UInt8) (h2 : List UInt8 = List t) (enc : t → List (CV tb.T)) (_ : ∀ x : t, enc x = [.int .u8 ((cast h1 x).toNat : Int)]),
      (cast h2 l : List t).length = l.length ∧ (∀ x ∈ (cast h2 l : List t), (enc x).length = 1) ∧ (cast h2 l : List t).flatMap enc = l.map fun b => CV.int .u8 (b.toNat : Int) := by
    intro t h1 h2 enc henc
    subst h1
    refine ⟨rfl, fun x _ => by rw [henc]; rfl, ?_⟩
    show l.flatMap enc = _
    have : enc = fun b => [CV.int .u8 (b.toNat : Int)] := funext fun x => by rw [henc]; rfl
    rw [this]
    induction l with
    | nil => rfl
    | cons b l ih => simpa using ih
  exact key (tb.T e) hl ht (tb.enc e) hb

theorem bytes_repd (l : List UInt8) : All2 (RepD P tb g w) (l.map fun b => CV.int .u8 (b.toNat : Int)) (l.map fun b => Value.int .u8 (b.toNat : Int)) := by
  induction l with
  | nil => trivial
  | cons b l ih =>
    refine ⟨.int _ _ ?_, ih⟩
    have := b.toNat_lt
    unfold inR lo hi; simp only []; omega

theorem cut_cap {need t : Nat} (h : need < 2 ^ 63) : need ≤ need + t % (2 ^ 63 - need) ∧ need + t % (2 ^ 63 - need) < 2 ^ 63 := by
  have := Nat.mod_lt t (show 2 ^ 63 - need > 0 by omega)
  omega

theorem go_bytes (h : SimAt P tb N W a0 g0 w0 D0 s g μ τ a w) {o : Oper} {src dst e d : Nat} {x : Operand} {l : List UInt8} (ho : o.op = .convert src dst x) (hdst : o.dst = some d) (hd : d < N ∧ W d)
    {ud : TypeDesc} (hs : P.underlying src = some ud) (hu : P.underlying dst = some (.slice e)) (hue : P.underlying e = some (.int .u8)) (hv : s.val x = some (.c (.d (.str l)))) (he : e = tb.b8) (hsz : P.cellsOf e = 1) (ht : List UInt8 = List (tb.T e))
    (hn : newOwn tb s d e (cast ht l) some = some s') : o.wp P a w (Goes P tb N W a0 g0 w0 D0 s') Q := by
  unfold newOwn at hn
  cases hus : s.used d with
  | true => simp [hus] at hn
  | false =>
    simp only [hus, cond_false, Option.some.injEq] at hn; subst hn
    have r1 := (val_sound h x _ hv).1
    generalize hx : a.eval x = ux at r1
    cases r1; rename_i hl
    have hl8 : tb.T e = UInt8 := by rw [he, tb.hb]
    obtain ⟨b1, b2, b3⟩ := bytes_cells he hl8 ht l
    have hrun := Lib.run_convert_string_bytes (P := P) w src dst e ⟨l.toArray⟩ hs hu hue
    rw [size_mk] at hrun
    have hcap := cut_cap (need := l.length) (t := w.tape w.drawn (.appendCap l.length 0 e)) (by unfold mxLen at hl; omega)
    have hg : grownCap w l.length 0 e = l.length + w.tape w.drawn (.appendCap l.length 0 e) % (2 ^ 63 - l.length) := rfl
    rw [← hg] at hcap
    have hexec : (execOp a.eval o).run P w = .ok (.value (.slice (some ⟨w.heap.size, 0, none⟩) l.length (grownCap w l.length 0 e))) (Lib.bytesWorld w e ⟨l.toArray⟩) := by
      simp [execOp, ho, hx, hrun]
    refine wp_value hexec ?_
    rw [hdst]
    have hcs : (Lib.bytesCells w e ⟨l.toArray⟩).size = grownCap w l.length 0 e := by
      simp only [Lib.bytesCells, size_mk, Array.size_append, Array.size_map, Array.size_replicate]
      show l.toArray.size + _ = _
      simp; omega
    have hheap : (Lib.bytesWorld w e ⟨l.toArray⟩).heap = w.heap.push (.cells (Lib.bytesCells w e ⟨l.toArray⟩) e ((Lib.bytesCells w e ⟨l.toArray⟩).size, (Lib.bytesCells w e ⟨l.toArray⟩).size + 1)) := by
      apply Array.ext_getElem?
      intro i
      rcases Nat.lt_trichotomy i w.heap.size with c | c | c
      · rw [Lib.bytesWorld_at_old _ _ _ _ c, push_heap _ _ _ c]
      · subst c; rw [Lib.bytesWorld_at_new, push_new]
      · rw [Array.getElem?_eq_none (by rw [Lib.bytesWorld_size]; omega), Array.getElem?_eq_none (by simp; omega)]
    have hw3 : (Lib.bytesWorld w e ⟨l.toArray⟩).os = w.os ∧ (Lib.bytesWorld w e ⟨l.toArray⟩).tape = w.tape ∧ (Lib.bytesWorld w e ⟨l.toArray⟩).output = w.output := by
      unfold Lib.bytesWorld World.freeze
      split <;> exact ⟨rfl, rfl, rfl⟩
    have := own_new h [] hd.1 hd.2 hus (xs := (cast ht l : List (tb.T e))) (us := l.map fun b => Value.int .u8 (b.toNat : Int)) (cap := grownCap w l.length 0 e) hheap hw3.1 hw3.2.1 hw3.2.2
      (fun y hy => by rw [hsz]; exact b2 y hy) (by rw [b1]; exact hcap.1) (by unfold mxLen; omega) (by rw [b3]; exact bytes_repd l) (fun j v hv => by
        simp only [Lib.bytesCells]
        rw [Array.getElem?_append_left (by
          have := (List.getElem?_eq_some_iff.1 hv).1
          simpa using this)]
        simpa using hv) (by rw [hsz, Nat.mul_one, hcs]; exact Nat.le_refl _) (by intro i hi; simp only; omega)
    rw [b1] at this
    exact this

/-! ## []rune(s) -/
theorem runesFrom_runesL (l : List UInt8) : ∀ (n i : Nat) (acc : Array Value), Conv.runesFrom ⟨l.toArray⟩ n i acc = acc ++ ((runesL l n i).map (Value.int .i32)).toArray
  | 0, _, acc => by simp [Conv.runesFrom, runesL]
  | n + 1, i, acc => by
    unfold Conv.runesFrom runesL
    have hsz : (⟨l.toArray⟩ : ByteArray).size = l.length := by simp [ByteArray.size]
    rw [hsz]
    by_cases h : i < l.length
    · have hb : Nat.blt i l.length = true := Nat.ble_eq_true_of_le h
      rw [if_pos h, hb, cond_true]
      show Conv.runesFrom _ _ (i + (rune l i).2) (acc.push (.int .i32 (Int.ofNat (rune l i).1))) = _
      rw [runesFrom_runesL l n]
      simp
    · have hb : Nat.blt i l.length = false := by
        cases hb : Nat.blt i l.length with
        | false => rfl
        | true => exact absurd (Nat.le_of_ble_eq_true hb) h
      rw [if_neg h, hb, cond_false]
      simp
theorem runesL_length (l : List UInt8) : ∀ (n i : Nat), (runesL l n i).length ≤ n
  | 0, _ => by simp [runesL]
  | n + 1, i => by
    unfold runesL
    have := runesL_length l n (i + (rune l i).2)
    cases Nat.blt i l.length <;> simp <;> omega
theorem runesL_in (l : List UInt8) : ∀ (n i : Nat), ∀ r ∈ runesL l n i, inR .i32 r
  | 0, _, r, h => by simp [runesL] at h
  | n + 1, i, r, h => by
    unfold runesL at h
    cases hb : Nat.blt i l.length with
    | false => simp [hb] at h
    | true =>
      simp only [hb, cond_true, List.mem_cons] at h
      rcases h with rfl | h
      · have := decode_fst ⟨l.toArray⟩ i
        unfold inR lo Ev.hi; simp only [rune]; omega
      · exact runesL_in l n _ r h
theorem runes_some {l : List UInt8} {rs : List Int} (h : runes l = some rs) : l.length ≤ 70368744177664 ∧ rs = runesL l l.length 0 := by
  unfold runes at h
  cases hb : Nat.ble l.length 70368744177664 with
  | false => simp [hb] at h
  | true => simp only [hb, cond_true, Option.some.injEq] at h; exact ⟨Nat.le_of_ble_eq_true hb, h.symm⟩
/-- runes, as elements -/
theorem runes_cells {e : Nat} (he : tb.r4 = some e) (ht : List Int = List (tb.T e)) (l : List Int) :
    (cast ht l : List (tb.T e)).length = l.length ∧ (∀ x ∈ (cast ht l : List (tb.T e)), (tb.enc e x).length = 1) ∧ cellsOfSl tb e (cast ht l) = l.map fun r => CV.int .i32 r := by
  have key : ∀ (t : Type) (h1 : t = Int) (h2 : List Int = List t) (enc : t → List (CV tb.T)) (_ : ∀ x : t, enc x = [.int .i32 (cast h1 x)]),
      (cast h2 l : List t).length = l.length ∧ (∀ x ∈ (cast h2 l : List t), (enc x).length = 1) ∧ (cast h2 l : List t).flatMap enc = l.map fun r => CV.int .i32 r := by
    intro t h1 h2 enc henc
    subst h1
    refine ⟨rfl, fun x _ => by rw [henc]; rfl, ?_⟩
    show l.flatMap enc = _
    have : enc = fun b => [CV.int .i32 b] := funext fun x => by rw [henc]; rfl
    rw [this]
    induction l with
    | nil => rfl
    | cons b l ih => simpa using ih
  exact key (tb.T e) (tb.hr e he) ht (tb.enc e) (tb.hre e he)
theorem runes_repd {l : List Int} (h : ∀ r ∈ l, inR .i32 r) : All2 (RepD P tb g w) (l.map fun r => CV.int .i32 r) (l.map (Value.int .i32)) := by
  induction l with
  | nil => trivial
  | cons b l ih => exact ⟨.int _ _ (h b (List.mem_cons_self ..)), ih fun r hr => h r (List.mem_cons_of_mem _ hr)⟩
theorem go_runes (h : SimAt P tb N W a0 g0 w0 D0 s g μ τ a w) {o : Oper} {src dst e d : Nat} {x : Operand} {l : List UInt8} {rs : List Int} (ho : o.op = .convert src dst x) (hdst : o.dst = some d) (hd : d < N ∧ W d)
    (hs : P.underlying src = some .string) (hu : P.underlying dst = some (.slice e)) (hue : P.underlying e = some (.int .i32)) (hv : s.val x = some (.c (.d (.str l)))) (he : tb.r4 = some e) (hsz : P.cellsOf e = 1) (hrs : runes l = some rs)
    (ht : List Int = List (tb.T e)) (hn : newOwn tb s d e (cast ht rs) some = some s') : o.wp P a w (Goes P tb N W a0 g0 w0 D0 s') Q := by
  unfold newOwn at hn
  cases hus : s.used d with
  | true => simp [hus] at hn
  | false =>
    simp only [hus, cond_false, Option.some.injEq] at hn; subst hn
    have r1 := (val_sound h x _ hv).1
    generalize hx : a.eval x = ux at r1
    cases r1; rename_i hl
    obtain ⟨hlen, hre⟩ := runes_some hrs
    obtain ⟨b1, b2, b3⟩ := runes_cells he ht rs
    have hrl : rs.length ≤ l.length := by rw [hre]; exact runesL_length l _ _
    have hin : ∀ r ∈ rs, inR .i32 r := by rw [hre]; exact runesL_in l _ _
    have hfrom : Conv.runesFrom ⟨l.toArray⟩ (⟨l.toArray⟩ : ByteArray).size 0 #[] = (rs.map (Value.int .i32)).toArray := by
      have hsz : (⟨l.toArray⟩ : ByteArray).size = l.length := by simp [ByteArray.size]
      rw [runesFrom_runesL, hsz, ← hre]; simp
    have hrun := run_runes_of_string (P := P) w src dst e ⟨l.toArray⟩ hs hu hue (by rw [hfrom]; simp; omega)
    rw [hfrom] at hrun
    have hsize : (rs.map (Value.int .i32)).toArray.size = rs.length := by simp
    rw [hsize] at hrun
    have hcap := cut_cap (need := rs.length) (t := w.tape w.drawn (.appendCap rs.length 0 e)) (by omega)
    have hg : grownCap w rs.length 0 e = rs.length + w.tape w.drawn (.appendCap rs.length 0 e) % (2 ^ 63 - rs.length) := rfl
    rw [← hg] at hcap
    have hexec : (execOp a.eval o).run P w = .ok (.value (.slice (some ⟨w.heap.size, 0, none⟩) rs.length (grownCap w rs.length 0 e)))
        (w.drew.alloc (.cells ((rs.map (Value.int .i32)).toArray ++ Array.replicate (grownCap w rs.length 0 e - rs.length) (.int .i32 0)) e)) := by
      simp [execOp, ho, hx, hrun]
    refine wp_value hexec ?_
    rw [hdst]
    have hcs : ((rs.map (Value.int .i32)).toArray ++ Array.replicate (grownCap w rs.length 0 e - rs.length) (Value.int .i32 0)).size = grownCap w rs.length 0 e := by
      simp; omega
    have := own_new h [] hd.1 hd.2 hus (xs := (cast ht rs : List (tb.T e))) (us := rs.map (Value.int .i32)) (cap := grownCap w rs.length 0 e)
      (w' := w.drew.alloc (.cells ((rs.map (Value.int .i32)).toArray ++ Array.replicate (grownCap w rs.length 0 e - rs.length) (.int .i32 0)) e)) rfl rfl rfl rfl
      (fun y hy => by rw [hsz]; exact b2 y hy) (by rw [b1]; exact hcap.1) (by unfold mxLen; omega) (by rw [b3]; exact runes_repd hin) (fun j v hv => by
        rw [Array.getElem?_append_left (by
          have := (List.getElem?_eq_some_iff.1 hv).1
          simpa using this)]
        simpa using hv) (by rw [hsz, Nat.mul_one, hcs]; exact Nat.le_refl _) (by intro i hi; simp)
    rw [b1] at this
    exact this

/-! ## append -/
theorem app_some {α : Type} {B : Nat} {xs ys zs : List α} (h : app B xs ys = some zs) : (xs.length + ys.length) * B ≤ 140737488355328 ∧ zs = xs ++ ys := by
  unfold app at h
  cases hc : Nat.ble ((xs.length + ys.length) * B) 140737488355328 with
  | false => simp [hc] at h
  | true => simp only [hc, cond_true, Option.some.injEq] at h; exact ⟨Nat.le_of_ble_eq_true hc, h.symm⟩

/-- what is appended: read as a row of elements -/
def Src (P : Program) (tb : Tab) (g : Gh) (w : World) (e : Nat) (ys : List (tb.T e)) (v : Value) (us : List Value) : Prop :=
  us.length = ys.length * P.cellsOf e ∧ All2 (RepD P tb g w) (cellsOfSl tb e ys) us ∧ (∀ x ∈ ys, (tb.enc e x).length = P.cellsOf e) ∧
  (∀ w1 : World, w1.heap = w.heap → (Builtin.lenOf v).run P w1 = .ok ys.length w1 ∧ (Builtin.firstCells (P.cellsOf e) ys.length v).run P w1 = .ok us.toArray w1)

theorem src_slice {e : Nat} {ys : List (tb.T e)} {v : Value} (hr : RepD P tb g w (.sl e ys) v) : ∃ us, Src P tb g w e ys v us := by
  rcases (slice_cells hr).2 with ⟨hv, rfl⟩ | ⟨b, off, cap, rfl, _⟩
  · rcases hv with rfl | ⟨x, cap, rfl, _⟩
    · exact ⟨[], by simp, trivial, by simp, fun w1 _ => ⟨by simp [Builtin.lenOf], by simp [Builtin.firstCells]⟩⟩
    · exact ⟨[], by simp, trivial, by simp, fun w1 _ => ⟨by simp [Builtin.lenOf], by simpa [Builtin.firstCells] using run_loadCellsL (P := P) (w := w1) x [] (by simp)⟩⟩
  · obtain ⟨us, h1, h2, h3, h4⟩ := slice_loads hr
    refine ⟨us, h1, h2, h4, fun w1 hw => ⟨by simp [Builtin.lenOf], ?_⟩⟩
    have := run_loadCellsL (P := P) (w := w1) ⟨b, off, none⟩ us (fun j v hv => by
      rw [addr_add, cell_of_block (w := w) (by rw [hw])]; exact h3 j v hv)
    rw [h1] at this
    simp [Builtin.firstCells, this]

theorem src_str {e : Nat} (he : e = tb.b8) (hl : tb.T e = UInt8) (ht : List UInt8 = List (tb.T e)) (hsz : P.cellsOf e = 1) (l : List UInt8) : ∃ us, Src P tb g w e (cast ht l) (.string ⟨l.toArray⟩) us := by
  obtain ⟨b1, b2, b3⟩ := bytes_cells he hl ht l
  refine ⟨l.map fun b => Value.int .u8 (b.toNat : Int), by simp [b1, hsz], by rw [b3]; exact bytes_repd l, fun x hx => by rw [hsz]; exact b2 x hx, fun w1 _ => ⟨by simp [Builtin.lenOf, size_mk, b1], ?_⟩⟩
  rw [b1]
  simp only [Builtin.firstCells, Sem.run_pure]
  congr 1
  have : (⟨l.toArray⟩ : ByteArray).extract 0 l.length = ⟨l.toArray⟩ := by
    rw [Lib.extract_eq]; simp
  rw [this]
  simp

theorem growBy_le (need : Nat) : ∀ (r c : Nat), c ≤ need + (need + 768) / 4 → Builtin.growBy need r c ≤ need + (need + 768) / 4
  | 0, c, h => h
  | r + 1, c, h => by
    simp only [Builtin.growBy]
    split
    · exact h
    · refine growBy_le need r _ ?_
      omega
theorem nextcap_le {need old : Nat} (h : old < need) : Builtin.nextslicecap need old ≤ 2 * need := by
  unfold Builtin.nextslicecap
  split
  · omega
  · split
    · omega
    · have := growBy_le need 4 old (by omega)
      omega

theorem zeroCells_size (z : Array Value) (n : Nat) : (Builtin.zeroCells z n).size = n * z.size := by simp [Builtin.zeroCells]

/-- the machine's append where there is room -/
theorem run_append_room {st xt e ty n sLen sCap : Nat} {base : Option Addr} {xv : Value} {us : Array Value} (hel : P.underlying st = some (.slice e)) (hxt : (∃ e2, P.underlying xt = some (.slice e2)) ∨ P.underlying xt = some .string)
    (hi : ∃ i, P.info? e = some i) (hlen : (Builtin.lenOf xv).run P w = .ok n w) (hfc : (Builtin.firstCells (P.cellsOf e) n xv).run P w = .ok us w) (hroom : sLen + n ≤ sCap)
    (hst : (match base with | some a => storeCells (a.add (sLen * P.cellsOf e)) us.toList | none => pure ()).run P w = .ok () w') :
    (Builtin.append_ #[st, xt] ty #[.slice base sLen sCap, xv]).run P w = .ok (.slice base (sLen + n) sCap) w' := by
  unfold Builtin.append_
  rcases hxt with ⟨e2, hx⟩ | hx
  · simp only [List.getElem?_toArray, List.getElem?_cons_zero, List.getElem?_cons_succ, Sem.run_bind, run_underlying hel, run_underlying hx, Result.andThen_ok, run_sizeOf_ex hi, hlen, Bool.false_eq_true, if_false, Sem.run_pure, hroom, if_true]
    cases base with
    | none => simp only [] at hst; simp only [Sem.run_pure] at hst; simp [hfc]; injection hst
    | some a => simp only [] at hst; simp [hfc, hst]
  · simp only [List.getElem?_toArray, List.getElem?_cons_zero, List.getElem?_cons_succ, Sem.run_bind, run_underlying hel, run_underlying hx, Result.andThen_ok, run_sizeOf_ex hi, hlen, Bool.false_eq_true, if_false, Sem.run_pure, hroom, if_true]
    cases base with
    | none => simp only [] at hst; simp only [Sem.run_pure] at hst; simp [hfc]; injection hst
    | some a => simp only [] at hst; simp [hfc, hst]

/-- the machine's append where there is none -/
theorem run_append_grow {st xt e ty n sLen sCap : Nat} {base : Option Addr} {xv z : Value} {us os : Array Value} {ie : TypeInfo} (hel : P.underlying st = some (.slice e)) (hxt : (∃ e2, P.underlying xt = some (.slice e2)) ∨ P.underlying xt = some .string)
    (hie : P.info? e = some ie) (hz : ie.zero = some z) (hlen : (Builtin.lenOf xv).run P w = .ok n w) (hroom : ¬ sLen + n ≤ sCap) (hby : ie.bytes ≠ 0) (hlim : Builtin.nextslicecap (sLen + n) sCap * ie.bytes ≤ 2 ^ 48) (_hneed : sLen + n < 2 ^ 63)
    (hold : (Builtin.firstCells (P.cellsOf e) sLen (.slice base sLen sCap)).run P w.drew = .ok os w.drew) (hfc : (Builtin.firstCells (P.cellsOf e) n xv).run P w.drew = .ok us w.drew) :
    (Builtin.append_ #[st, xt] ty #[.slice base sLen sCap, xv]).run P w =
      .ok (.slice (some ⟨w.heap.size, 0, none⟩) (sLen + n) (grownCap w (sLen + n) sCap e)) { w.drew with heap := w.heap.push (.cells (os ++ us ++ Builtin.zeroCells z.cells (grownCap w (sLen + n) sCap e - (sLen + n))) e) } := by
  have hl1 : ¬ (Builtin.nextslicecap (sLen + n) sCap * ie.bytes > 2 ^ 48) := by omega
  have hch : (choose (.appendCap (sLen + n) sCap e)).run P w = .ok (grownCap w (sLen + n) sCap e) w.drew := by
    simp [choose, Sem.run, Question.forced]; rfl
  have hask : ∀ (k : Nat) (w1 : World), (askRoom k).run P w1 = .ok () w1 := fun k w1 => by
    unfold askRoom
    split <;> simp [mark, Sem.run]
  unfold Builtin.append_
  rcases hxt with ⟨e2, hx⟩ | hx
  · simp only [List.getElem?_toArray, List.getElem?_cons_zero, List.getElem?_cons_succ, Sem.run_bind, run_underlying hel, run_underlying hx, Result.andThen_ok, run_sizeOf_ex ⟨ie, hie⟩, hlen, Bool.false_eq_true, if_false, Sem.run_pure, hroom, run_typeInfo hie, hby, false_or, and_false, hl1, hch, hask, hold, zeroValue, hz]
    simp [hfc, newRow]
    rw [← Array.append_assoc]
    rfl
  · simp only [List.getElem?_toArray, List.getElem?_cons_zero, List.getElem?_cons_succ, Sem.run_bind, run_underlying hel, run_underlying hx, Result.andThen_ok, run_sizeOf_ex ⟨ie, hie⟩, hlen, Bool.false_eq_true, if_false, Sem.run_pure, hroom, run_typeInfo hie, hby, false_or, and_false, hl1, hch, hask, hold, zeroValue, hz]
    simp [hfc, newRow]
    rw [← Array.append_assoc]
    rfl

theorem go_append_own (h : SimAt P tb N W a0 g0 w0 D0 s g μ τ a w) {o : Oper} {st xt e d : Nat} {args : Array Operand} (ho : o.op = .call { callee := .builtin .append, args := args, argTypes := #[st, xt] }) (hdst : o.dst = some d) (hd : d < N ∧ W d)
    (hel : P.underlying st = some (.slice e)) (hxt : (∃ e2, P.underlying xt = some (.slice e2)) ∨ P.underlying xt = some .string) (hs : sized P e = true) (hz : hasZero P e = true) (hb : 0 < P.bytesOf e)
    {ids : List Nat} {xs ys : List (tb.T e)} {sv xv : Value} {b? : Option Nat} {us : List Value} (hargs : args.map a.eval = #[sv, xv]) (hsv : RepD P tb g w (.sl e xs) sv) (how : OwnAt P g w b? e xs.length sv) (hsrc : Src P tb g w e ys xv us)
    (hlim : (xs.length + ys.length) * P.bytesOf e ≤ 140737488355328) (hus : s.used d = false)
    (hbo : ∀ b, b? = some b → (w0.heap.size ≤ b ∨ D0 b) ∧ (∀ t, s.tok t = true → memB t ids = false → τ t ≠ some b)) :
    o.wp P a w (Goes P tb N W a0 g0 w0 D0 { s.drop ids with env := upd s.env d (some (.c (.own e (xs ++ ys) d))), tok := upd (s.drop ids).tok d true, used := upd s.used d true }) Q := by
  obtain ⟨u1, u2, u3, u4⟩ := hsrc
  obtain ⟨ie, hie⟩ := info_of_sized hs
  have hpos : 0 < P.cellsOf e := by unfold sized at hs; exact Nat.le_of_ble_eq_true hs
  have hisz : ie.size = P.cellsOf e := by simp [Program.cellsOf, hie]
  have hiby : ie.bytes = P.bytesOf e := by simp [Program.bytesOf, hie]
  obtain ⟨z, hzv, hzs⟩ : ∃ z, ie.zero = some z ∧ z.cells.size = P.cellsOf e := by
    simp only [hasZero, hie] at hz
    cases hq : ie.zero with
    | none => simp [hq] at hz
    | some z => simp only [hq] at hz; exact ⟨z, rfl, by rw [← hisz]; exact Nat.eq_of_beq_eq_true hz⟩
  have hneed : xs.length + ys.length ≤ 140737488355328 := Nat.le_trans (Nat.le_mul_of_pos_right _ hb) hlim
  obtain ⟨⟨y0, cap, hsve, hcap1, hcap2⟩, hsc⟩ := slice_cells hsv
  have hall : ∀ x ∈ xs ++ ys, (tb.enc e x).length = P.cellsOf e := fun x hx => by
    rcases List.mem_append.1 hx with hx | hx
    · rcases hsc with ⟨_, rfl⟩ | ⟨b, off, cap', hv, q1, q2, q3, _⟩
      · simp at hx
      · obtain ⟨i, hi, hx⟩ := List.getElem_of_mem hx
        exact q3 i x (by rw [List.getElem?_eq_getElem hi, hx])
    · exact u3 x hx
  have hcells : cellsOfSl tb e (xs ++ ys) = cellsOfSl tb e xs ++ cellsOfSl tb e ys := by simp [cellsOfSl]
  -- the machine's append, up to where it parts
  have hexec : ∀ r w1, (Builtin.append_ #[st, xt] o.type #[sv, xv]).run P w = .ok r w1 → (execOp a.eval o).run P w = .ok (.value r) w1 := fun r w1 hr => by
    simp [execOp, ho, resolve, invoke, builtin, hargs, hr]
  obtain ⟨hlen, hfc⟩ := u4 w rfl
  by_cases hroom : xs.length + ys.length ≤ cap
  · -- there is room
    rcases how with ⟨hsv0, hb0, hl0⟩ | ⟨b, off, cap', cells, el, fz, hbs, hsvo, hgb, hheap, hcs, hlc, hfz⟩
    · -- a nil slice, nothing appended
      rw [hsv0] at hsve; injection hsve with e1 e2 e3
      have hx0 : xs = [] := List.eq_nil_of_length_eq_zero hl0
      subst hx0
      have hy0 : ys = [] := List.eq_nil_of_length_eq_zero (by simp at hroom; omega)
      subst hy0
      have hu0 : us = [] := List.eq_nil_of_length_eq_zero (by rw [u1]; simp)
      subst hu0
      have hr : (Builtin.append_ #[st, xt] o.type #[sv, xv]).run P w = .ok (.slice none 0 0) w := by
        rw [hsv0]
        exact run_append_room hel hxt ⟨ie, hie⟩ hlen hfc (Nat.le_refl _) (by simp)
      refine wp_value (hexec _ _ hr) ?_
      rw [hdst]
      exact (h.own (D := fun _ => False) (b? := none) (Ext.refl _ _ _) ids hd.1 hd.2 hus (fun _ _ f => f.elim) (fun _ _ _ _ _ f => f) (fun _ _ f => f) (by simp) (xs := ([] ++ [] : List (tb.T e))) (.slnil e) (.inl ⟨rfl, rfl, rfl⟩)).sim
    · -- the array's own cells
      rw [hsvo] at hsve; injection hsve with e1 e2 e3
      subst e3
      subst hsvo
      have hblt : b < w.heap.size := (Array.getElem?_eq_some_iff.1 hheap).1
      have hmul : (xs.length + ys.length) * P.cellsOf e ≤ cap' * P.cellsOf e := Nat.mul_le_mul_right _ hroom
      have hadd : (xs.length + ys.length) * P.cellsOf e = xs.length * P.cellsOf e + ys.length * P.cellsOf e := Nat.add_mul _ _ _
      have hone : ∀ u ∈ us, Value.one u = true := fun u hu => by
        obtain ⟨j, hj, hu⟩ := List.getElem_of_mem hu
        have hj' : j < (cellsOfSl tb e ys).length := by rw [u2.length]; exact hj
        obtain ⟨u', hu', hd'⟩ := u2.get (List.getElem?_eq_getElem hj')
        rw [List.getElem?_eq_getElem hj, hu] at hu'; simp only [Option.some.injEq] at hu'; subst hu'
        revert hd'
        generalize (cellsOfSl tb e ys)[j] = cc
        intro hd'
        cases hd' <;> rfl
      obtain ⟨w1, c', k1, k2, k3⟩ := run_store_cells P (b := b) (o := off + xs.length * P.cellsOf e) (el := el) (fz := fz) us 0 cells w hheap (by rw [u1]; omega) hfz hone
      rw [Nat.add_zero] at k3
      have hrun := run_append_room (P := P) (ty := o.type) (base := some ⟨b, off, none⟩) (us := us.toArray) hel hxt ⟨ie, hie⟩ hlen hfc hroom (w' := w1) (by simp only [addr_add]; exact k1)
      refine wp_value (hexec _ _ hrun) ?_
      rw [hdst]
      have hc'len : c'.size = cells.size := by
        have := congrArg List.length k3
        rw [setAt_length _ _ _ (by rw [u1]; simp; omega)] at this
        simpa using this
      have hget : ∀ i, c'[i]? = if i < off + xs.length * P.cellsOf e then cells[i]? else if i < off + xs.length * P.cellsOf e + us.length then us[i - (off + xs.length * P.cellsOf e)]? else cells[i]? := fun i => by
        rw [← Array.getElem?_toList, k3, setAt_get _ _ _ _ (by rw [u1]; simp; omega)]
        simp
      have hext := Ext.arr1 (g := g) (n' := off + (xs.length + ys.length) * P.cellsOf e) hheap k2 hgb (by omega) (fun i hi => by rw [hget, if_pos hi])
      have hold : ∃ os : List Value, os.length = xs.length * P.cellsOf e ∧ All2 (RepD P tb g w) (cellsOfSl tb e xs) os ∧ (∀ (j : Nat) v, os[j]? = some v → w.cell? ⟨b, off + j, none⟩ = some v) := by
        obtain ⟨os, q1, q2, q3, _⟩ := slice_loads hsv
        exact ⟨os, q1, q2, q3⟩
      obtain ⟨os, q1, q2, q3⟩ := hold
      refine (h.own (D := fun i => i = b) (b? := some b) hext ids hd.1 hd.2 hus (fun b' _ hb' => by subst hb'; exact (hbo b' hbs).1) (fun t b' ht hm hb' e' => (hbo b hbs).2 t ht hm (by rw [hb', e'])) (fun i hi e' => by
        have := (h.live i hi).2.1
        rw [e', hgb] at this; cases this) (fun b' hb' => ?_) (xs := xs ++ ys) ?_ ?_).sim
      · injection hb' with hb'; subst hb'
        exact ⟨⟨_, upd_same _ _ _⟩, by rw [k2.size]; exact hblt, (hbo b hbs).1, fun t ht hm => (hbo b hbs).2 t ht hm⟩
      · have hll : (xs ++ ys).length = xs.length + ys.length := by simp
        have := sl_of_cells (P := P) (tb := tb) (g := upd g b (.ar (off + (xs.length + ys.length) * P.cellsOf e))) (w := w1) (xs := xs ++ ys) (b := b) (off := off) (cap := cap') (us := os ++ us) hall (by rw [hll]; exact hroom) hcap2
          (fun _ => ⟨by rw [k2.size]; exact hblt, .inr ⟨_, upd_same _ _ _, by rw [hll]; exact Nat.le_refl _⟩⟩)
          (by rw [hcells]; exact (q2.append u2).mono fun _ _ _ r => r.mono hext.keeps)
          (fun j v hv => by
            unfold World.cell?
            simp only [k2.new]
            rw [if_neg (by simp), hget]
            rcases Nat.lt_or_ge j os.length with c1 | c1
            · rw [List.getElem?_append_left c1] at hv
              rw [if_pos (by omega)]
              have := q3 j v hv
              unfold World.cell? at this
              simp only [hheap] at this
              simpa using this
            · rw [List.getElem?_append_right c1] at hv
              have : j - os.length < us.length := (List.getElem?_eq_some_iff.1 hv).1
              rw [if_neg (by omega), if_pos (by omega)]
              rw [← hv]; congr 1; omega)
        rw [hll] at this
        exact this
      · refine .inr ⟨b, off, cap', c', el, fz, rfl, by simp, by rw [upd_same]; simp, k2.new, by rw [hc'len]; exact hcs, by simpa using hroom, fun i hi => hfz i (by rw [← hc'len]; exact hi)⟩
  · -- a new array
    have hbn : ie.bytes ≠ 0 := by rw [hiby]; omega
    have hnc : Builtin.nextslicecap (xs.length + ys.length) cap * ie.bytes ≤ 2 ^ 48 := by
      have h1 := nextcap_le (need := xs.length + ys.length) (old := cap) (by omega)
      have h2 := Nat.mul_le_mul_right ie.bytes h1
      rw [hiby] at h2 ⊢
      rw [Nat.mul_assoc] at h2
      omega
    have hneed' : xs.length + ys.length < 2 ^ 63 := by omega
    have hold : ∃ os : List Value, os.length = xs.length * P.cellsOf e ∧ All2 (RepD P tb g w) (cellsOfSl tb e xs) os ∧ ∃ base, sv = .slice base xs.length cap ∧ (Builtin.firstCells (P.cellsOf e) xs.length (.slice base xs.length cap)).run P w.drew = .ok os.toArray w.drew := by
      obtain ⟨os, q1, q2, q3, q4⟩ := src_slice hsv
      exact ⟨os, q1, q2, y0, hsve, by rw [← hsve]; exact (q4 w.drew rfl).2⟩
    obtain ⟨os, q1, q2, base, q3, q4⟩ := hold
    have hrun := run_append_grow (P := P) (ty := o.type) (base := base) (us := us.toArray) (os := os.toArray) hel hxt hie hzv hlen hroom hbn hnc hneed' q4 (u4 w.drew rfl).2
    rw [← q3] at hrun
    refine wp_value (hexec _ _ hrun) ?_
    rw [hdst]
    have hcap := cut_cap (need := xs.length + ys.length) (t := w.tape w.drawn (.appendCap (xs.length + ys.length) cap e)) hneed'
    have hg : grownCap w (xs.length + ys.length) cap e = xs.length + ys.length + w.tape w.drawn (.appendCap (xs.length + ys.length) cap e) % (2 ^ 63 - (xs.length + ys.length)) := rfl
    rw [← hg] at hcap
    have hll : (xs ++ ys).length = xs.length + ys.length := by simp
    have hadd : (xs.length + ys.length) * P.cellsOf e = xs.length * P.cellsOf e + ys.length * P.cellsOf e := Nat.add_mul _ _ _
    have hsub : (grownCap w (xs.length + ys.length) cap e - (xs.length + ys.length)) * P.cellsOf e + (xs.length + ys.length) * P.cellsOf e = grownCap w (xs.length + ys.length) cap e * P.cellsOf e := by
      rw [← Nat.add_mul]; congr 1; omega
    have := own_new h ids hd.1 hd.2 hus (xs := xs ++ ys) (us := os ++ us) (c := os.toArray ++ us.toArray ++ Builtin.zeroCells z.cells (grownCap w (xs.length + ys.length) cap e - (xs.length + ys.length))) (el := e) (fz := (0, 0)) (cap := grownCap w (xs.length + ys.length) cap e)
      (w' := { w.drew with heap := w.heap.push (.cells (os.toArray ++ us.toArray ++ Builtin.zeroCells z.cells (grownCap w (xs.length + ys.length) cap e - (xs.length + ys.length))) e) }) rfl rfl rfl rfl hall (by rw [hll]; exact hcap.1) (by unfold mxLen; omega)
      (by rw [hcells]; exact q2.append u2) (fun j v hv => by
        have hj := (List.getElem?_eq_some_iff.1 hv).1
        rw [Array.getElem?_append_left (by simpa using hj)]
        simpa using hv) (by simp only [Array.size_append, List.size_toArray, zeroCells_size, hzs, q1, u1]; omega) (by simp)
    rw [hll] at this
    exact this
end Go.Ev
