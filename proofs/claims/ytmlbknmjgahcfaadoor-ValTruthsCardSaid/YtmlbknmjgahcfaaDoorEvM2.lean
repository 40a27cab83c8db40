/- Operations that touch memory: variables, iterators, new slices. -/
import Derived.Test.YtmlbknmjgahcfaaDoorEvM
namespace Go.Ev
open Go

variable {P : Program} {tb : Tab} {N : Nat} {W : Nat → Prop} {a0 : Act} {g0 : Gh} {w0 : World} {D0 : Nat → Prop}
variable {s s' : St tb.T} {g g' : Gh} {μ μ' : Nat → Nat} {τ τ' : Nat → Option Nat} {a : Act} {w w' : World}
variable {K : Act → World → Prop} {Q : Exit → Act → World → Prop}

theorem run_newObj' (o : Obj) (w : World) : (newObj o).run P w = .ok w.heap.size { w with heap := w.heap.push o } := rfl

theorem SimAt.sim (h : SimAt P tb N W a0 g0 w0 D0 s g μ τ a w) : Sim P tb N W a0 g0 w0 D0 s a w := ⟨g, μ, τ, h⟩

theorem go_P (h : SimAt P tb N W a0 g0 w0 D0 s g μ τ a w) {o : Oper} (hd : ∀ d, o.dst = some d → d < N ∧ W d) (he : (evP P tb o.op s.val fun v => some (s.putO o.dst v)) = some s') :
    o.wp P a w (Goes P tb N W a0 g0 w0 D0 s') Q := by
  rw [evP_k] at he
  obtain ⟨v, hv, he⟩ := obnd_eq_some.1 he
  simp only [Option.some.injEq] at he; subst he
  obtain ⟨u, h1, h2, h3⟩ := evP_sound (val_sound h) o hv
  exact wp_value h1 (h.putO hd h2 h3).sim

theorem go_alloc (h : SimAt P tb N W a0 g0 w0 D0 s g μ τ a w) {o : Oper} {e d : Nat} {z : List (AC tb.T)} (ho : o.op = .alloc e) (hdst : o.dst = some d) (hd : d < N ∧ W d) (hz : zeroOf P e = some z) (he : newVar s d z some = some s') :
    o.wp P a w (Goes P tb N W a0 g0 w0 D0 s') Q := by
  unfold newVar at he
  cases hu : s.used d with
  | true => simp [hu] at he
  | false =>
    simp only [hu, cond_false, Option.some.injEq] at he; subst he
    obtain ⟨i, zv, hi, hz', hr, hids⟩ := zeroOf_sound (P := P) (g := g) (w := w) (μ := μ) (τ := τ) (tok := s.tok) hz
    have hrun : (execOp a.eval o).run P w = .ok (.value (.pointer (some ⟨w.heap.size, 0, none⟩))) { w with heap := w.heap.push (.cells zv.cells e) } := by
      simp [execOp, ho, Instr.alloc, zeroValue, run_typeInfo hi, hz', Go.newVar, newRow]
    refine wp_value hrun ?_
    rw [hdst]
    exact (h.newVar hd.1 hd.2 hu hr (fun x hx i hi => by rw [hids x hx] at hi; simp at hi)).sim

theorem go_box (h : SimAt P tb N W a0 g0 w0 D0 s g μ τ a w) {o : Oper} {e d : Nat} {x : Operand} {v : SV tb.T} {as : List (AC tb.T)} (ho : o.op = .box e x) (hdst : o.dst = some d) (hd : d < N ∧ W d)
    (hv : s.val x = some v) (hc : v.cells = some as) (he : newVar s d as some = some s') : o.wp P a w (Goes P tb N W a0 g0 w0 D0 s') Q := by
  unfold newVar at he
  cases hu : s.used d with
  | true => simp [hu] at he
  | false =>
    simp only [hu, cond_false, Option.some.injEq] at he; subst he
    obtain ⟨r1, r2⟩ := val_sound h x v hv
    have hr := cells_sound hc r1
    have hrun : (execOp a.eval o).run P w = .ok (.value (.pointer (some ⟨w.heap.size, 0, none⟩))) { w with heap := w.heap.push (.cells (a.eval x).cells e) } := by
      simp [execOp, ho, Instr.box, Go.newVar, newRow]
    refine wp_value hrun ?_
    rw [hdst]
    refine (h.newVar hd.1 hd.2 hu hr (fun y hy i hi => r2 i ?_)).sim
    cases v with
    | c a' => simp only [SV.cells, Option.some.injEq] at hc; subst hc; simp at hy; subst hy; exact hi
    | agg as' => simp only [SV.cells, Option.some.injEq] at hc; subst hc; exact List.mem_flatMap.2 ⟨y, hy, hi⟩
    | tup _ => simp [SV.cells] at hc

/-- a value read out of memory, whose cells are known -/
theorem run_loadVar_cells {t : Nat} {b off : Nat} {v : SV tb.T} {cells : List (AC tb.T)} {us : List Value} {tok : Nat → Bool} (hc : cut1 P t cells off = some v) (hr : All2 (RepC P tb g w μ τ tok) cells us)
    {b0 : Nat} (hm : ∀ j u, us[off + j]? = some u → w.cell? ⟨b, b0 + j, none⟩ = some u) :
    ∃ u, (loadVar t ⟨b, b0, none⟩).run P w = .ok u w ∧ RepV P tb g w μ τ tok v u := by
  unfold cut1 at hc
  cases ha : aggOf P t with
  | none => simp [ha] at hc
  | some ag =>
    cases ag with
    | true =>
      simp only [ha] at hc
      cases hb : Nat.ble (off + P.cellsOf t) cells.length with
      | false => simp [hb] at hc
      | true =>
        simp only [hb, cond_true, Option.some.injEq] at hc; subst hc
        have hle : off + P.cellsOf t ≤ cells.length := Nat.le_of_ble_eq_true hb
        have hlen := hr.length
        have hl : ((us.drop off).take (P.cellsOf t)).length = P.cellsOf t := by simp; omega
        have hload := run_loadCellsL (P := P) (w := w) ⟨b, b0, none⟩ ((us.drop off).take (P.cellsOf t)) (fun j u hu => by
          rw [addr_add]
          have hj : j < P.cellsOf t := by rw [← hl]; exact (List.getElem?_eq_some_iff.1 hu).1
          rw [List.getElem?_take_of_lt hj, List.getElem?_drop] at hu
          exact hm j u hu)
        rw [hl] at hload
        obtain ⟨d, hd⟩ := underlying_of_agg ha
        refine ⟨_, by simp only [loadVar, Sem.run_bind, run_isAgg_of ha, Result.andThen_ok, if_true, run_sizeOf_ex (info_of_underlying hd), hload, Sem.run_pure], ⟨_, rfl, (hr.drop off).take _⟩⟩
    | false =>
      simp only [ha] at hc
      cases hg : cells[off]? with
      | none => simp [hg] at hc
      | some ac =>
        simp only [hg, Option.some.injEq] at hc; subst hc
        obtain ⟨u, hu, hru⟩ := hr.get hg
        have := hm 0 u (by simpa using hu)
        refine ⟨u, ?_, hru⟩
        simp only [loadVar, Sem.run_bind, run_isAgg_of ha, Result.andThen_ok, Bool.false_eq_true, if_false]
        rw [Nat.add_zero] at this
        simp [load, Sem.run, this]

theorem go_load (h : SimAt P tb N W a0 g0 w0 D0 s g μ τ a w) {Γ : List (Nat × FSpec tb)} {o : Oper} {t : Nat} {x : Operand} (ho : o.op = .load t x) (hd : ∀ d, o.dst = some d → d < N ∧ W d)
    (he : evOp P tb Γ o s some = some s') : o.wp P a w (Goes P tb N W a0 g0 w0 D0 s') Q := by
  unfold evOp at he
  rw [ho] at he
  simp only at he
  have hexec : ∀ u ad, a.eval x = .pointer (some ad) → (loadVar t ad).run P w = .ok u w → (execOp a.eval o).run P w = .ok (.value u) w := fun u ad hx hl => by
    simp [execOp, ho, Instr.loadAt, hx, Instr.sureAddr, hl]
  split at he
  · rename_i i off hv
    obtain ⟨r1, r2⟩ := val_sound h x _ hv
    have hx : a.eval x = .pointer (some ⟨μ i, off, none⟩) := r1
    cases hb : s.blk i with
    | none => simp [hb] at he
    | some cells =>
      simp only [hb] at he
      cases hc : cut1 P t cells off with
      | none => simp [hc] at he
      | some v =>
        simp only [hc, Option.some.injEq] at he; subst he
        obtain ⟨us, el, fz, e1, e2, e3⟩ := h.blk i cells hb
        obtain ⟨u, hu, hru⟩ := run_loadVar_cells (b := μ i) (b0 := off) hc e3 (fun j u hu => by
          unfold World.cell?; simp only [e1]; simpa using hu)
        refine wp_value (hexec u _ hx hu) (h.putO hd hru (fun j hj => ?_)).sim
        obtain ⟨⟨_, _, _⟩, hids⟩ := cut1_sound (us := us) hc e3
        obtain ⟨y, hy, hjy⟩ := hids j hj
        exact h.ublk i cells hb y hy j hjy
  · rename_i cs hv
    obtain ⟨r1, r2⟩ := val_sound h x _ hv
    obtain ⟨b, off, hx, h1, h2⟩ := r1
    cases hc : cut1 P t (cs.map AC.d) 0 with
    | none => simp [hc] at he
    | some v =>
      simp only [hc, Option.some.injEq] at he; subst he
      -- the cells that stand there
      have hus : ∃ us : List Value, All2 (RepD P tb g w) cs us ∧ ∀ j u, us[j]? = some u → w.cell? ⟨b, off + j, none⟩ = some u := by
        refine ⟨(List.range cs.length).map fun j => (w.cell? ⟨b, off + j, none⟩).getD (.bool false), All2.of_get (by simp) (fun j c u hc hu => ?_), fun j u hu => ?_⟩
        · have hj : j < cs.length := (List.getElem?_eq_some_iff.1 hc).1
          obtain ⟨u', hu', hd'⟩ := h2 j c hc
          simp [hj, hu'] at hu; subst hu; exact hd'
        · have hj : j < cs.length := by have := (List.getElem?_eq_some_iff.1 hu).1; simpa using this
          obtain ⟨u', hu', hd'⟩ := h2 j _ (List.getElem?_eq_getElem hj)
          simp [hj, hu'] at hu; subst hu; exact hu'
      obtain ⟨us, hr, hm⟩ := hus
      obtain ⟨u, hu, hru⟩ := run_loadVar_cells (b := b) (b0 := off) (μ := μ) (τ := τ) (tok := s.tok) hc (All2_d hr) (fun j u hu => hm j u (by simpa using hu))
      refine wp_value (hexec u _ hx hu) (h.putO hd hru (fun j hj => ?_)).sim
      obtain ⟨⟨_, _, _⟩, hids⟩ := cut1_sound (P := P) (g := g) (w := w) (μ := μ) (τ := τ) (tok := s.tok) (us := us.toArray) hc (by simpa using All2_d hr)
      obtain ⟨y, hy, hjy⟩ := hids j hj
      simp only [List.mem_map] at hy; obtain ⟨_, _, rfl⟩ := hy
      simp [AC.ids] at hjy
  · cases he

theorem go_store (h : SimAt P tb N W a0 g0 w0 D0 s g μ τ a w) {Γ : List (Nat × FSpec tb)} {o : Oper} {t : Nat} {x y : Operand} (ho : o.op = .store t x y)
    (he : evOp P tb Γ o s some = some s') : o.wp P a w (Goes P tb N W a0 g0 w0 D0 s') Q := by
  unfold evOp at he
  rw [ho] at he
  simp only at he
  cases hdst : o.dst with
  | some _ => simp [hdst] at he
  | none =>
    simp only [hdst] at he
    split at he
    · rename_i i off hv
      obtain ⟨r1, _⟩ := val_sound h x _ hv
      have hx : a.eval x = .pointer (some ⟨μ i, off, none⟩) := r1
      cases hro : s.ro i with
      | true => simp [hro] at he
      | false =>
        simp only [hro, cond_false] at he
        cases hb : s.blk i with
        | none => simp [hb] at he
        | some cells =>
          simp only [hb] at he
          cases hvy : s.val y with
          | none => simp [hvy] at he
          | some v =>
            simp only [hvy] at he
            cases hc : v.cells with
            | none => simp [hc] at he
            | some as =>
              simp only [hc] at he
              cases hk : (sized P t && Nat.beq as.length (P.cellsOf t) && Nat.ble (off + as.length) cells.length) with
              | false => simp [hk] at he
              | true =>
                simp only [hk, cond_true, Option.some.injEq] at he; subst he
                simp only [Bool.and_eq_true] at hk
                obtain ⟨⟨hs, hl⟩, hle⟩ := hk
                have hl := Nat.eq_of_beq_eq_true hl
                have hle := Nat.le_of_ble_eq_true hle
                obtain ⟨q1, q2⟩ := val_sound h y v hvy
                have hr := cells_sound hc q1
                have hrl := hr.length
                obtain ⟨us, el, fz, e1, e2, e3⟩ := h.blk i cells hb
                have hul : us.size = cells.length := by rw [← Array.length_toList]; exact e3.length.symm
                have hone : ∀ u ∈ (a.eval y).cells.toList, Value.one u = true := fun u hu => by
                  obtain ⟨j, hj, hu⟩ := List.getElem_of_mem hu
                  have hj' : j < as.length := by rw [hrl]; exact hj
                  obtain ⟨u', hu', hru⟩ := hr.get (List.getElem?_eq_getElem hj')
                  rw [List.getElem?_eq_getElem hj, hu] at hu'; simp only [Option.some.injEq] at hu'; subst hu'
                  exact hru.one
                obtain ⟨w1, c', h1, h2, h3⟩ := run_store_cells P (b := μ i) (o := off) (el := el) (fz := fz) (a.eval y).cells.toList 0 us w e1 (by rw [← hrl]; omega) e2 hone
                have hlive : isLive s i := .inl (by rw [hb]; simp)
                have hni : s.itr i = none := by
                  cases hi : s.itr i with
                  | none => rfl
                  | some z => have := (h.excl i (by rw [hi]; simp)).1; rw [hb] at this; cases this
                have hsz : c'.size = us.size := by
                  have := congrArg List.length h3
                  rw [setAt_length _ _ _ (by rw [Array.length_toList (xs := us), ← hrl]; omega)] at this
                  simpa using this
                have hrun : (execOp a.eval o).run P w = .ok .skip w1 := by
                  have hsize : (a.eval y).cells.size = P.cellsOf t := by rw [← hl, hrl]; simp
                  simp [execOp, ho, Instr.storeAt, hx, Instr.sureAddr, storeVar, run_sizeOf_ex (info_of_sized hs), hsize, h1]
                refine wp_skip' hrun ?_
                rw [hdst]
                refine (h.setBlk hlive h2 (fun j hj => e2 j (by rw [← hsz]; exact hj)) ?_ (fun z hz j hj => ?_) hni hro).sim
                · rw [h3, Nat.add_zero]
                  exact setAt_All2 e3 hr
                · unfold setAt at hz
                  rcases List.mem_append.1 hz with hz | hz
                  · rcases List.mem_append.1 hz with hz | hz
                    · exact h.ublk i cells hb z (List.mem_of_mem_take hz) j hj
                    · refine q2 j ?_
                      cases v with
                      | c a' => simp only [SV.cells, Option.some.injEq] at hc; subst hc; simp at hz; subst hz; exact hj
                      | agg as' => simp only [SV.cells, Option.some.injEq] at hc; subst hc; exact List.mem_flatMap.2 ⟨z, hz, hj⟩
                      | tup _ => simp [SV.cells] at hc
                  · exact h.ublk i cells hb z (List.mem_of_mem_drop hz) j hj
    · cases he

theorem go_range (h : SimAt P tb N W a0 g0 w0 D0 s g μ τ a w) {Γ : List (Nat × FSpec tb)} {o : Oper} {t : Nat} {x : Operand} (ho : o.op = .range t x) (hd : ∀ d, o.dst = some d → d < N ∧ W d)
    (he : evOp P tb Γ o s some = some s') : o.wp P a w (Goes P tb N W a0 g0 w0 D0 s') Q := by
  unfold evOp at he
  rw [ho] at he
  simp only at he
  cases hdst : o.dst with
  | none => simp [hdst] at he
  | some d =>
    simp only [hdst] at he
    split at he
    · rename_i l hu hv
      obtain ⟨r1, _⟩ := val_sound h x _ hv
      have hx : RepD P tb g w (.str l) (a.eval x) := r1
      generalize hux : a.eval x = ux at hx
      cases hx
      rename_i hl
      cases hus : s.used d with
      | true => simp [hus] at he
      | false =>
        simp only [hus, cond_false, Option.some.injEq] at he; subst he
        have hrun : (execOp a.eval o).run P w = .ok (.value (.pointer (some ⟨w.heap.size, 0, none⟩))) { w with heap := w.heap.push (.stringIter ⟨l.toArray⟩ 0) } := by
          simp [execOp, ho, Instr.range, run_underlying hu, hux]
        refine wp_value hrun ?_
        rw [hdst]
        exact (h.newItr (hd d hdst).1 (hd d hdst).2 hus hl).sim
    · cases he

theorem decode_fst (s : ByteArray) (i : Nat) : (Utf8.decode s i).1 ≤ 0x10FFFF := by
  unfold Utf8.decode
  simp only []
  have hb : ∀ k, (s.get! k).toNat < 256 := fun k => (s.get! k).toNat_lt
  have h0 := hb (i + 0); have h1 := hb (i + 1); have h2 := hb (i + 2); have h3 := hb (i + 3)
  repeat' split
  all_goals simp only [Utf8.runeError, Utf8.valid, Bool.or_eq_true, Bool.and_eq_true, decide_eq_true_eq] at *
  all_goals omega
theorem decode_snd (s : ByteArray) (i : Nat) (hi : i < s.size) : 1 ≤ (Utf8.decode s i).2 ∧ i + (Utf8.decode s i).2 ≤ s.size := by
  unfold Utf8.decode
  simp only []
  repeat' split
  all_goals simp only [Bool.and_eq_true, decide_eq_true_eq] at *
  all_goals omega

theorem go_next (h : SimAt P tb N W a0 g0 w0 D0 s g μ τ a w) {Γ : List (Nat × FSpec tb)} {o : Oper} {str : Bool} {x : Operand} (ho : o.op = .next x str) (hd : ∀ d, o.dst = some d → d < N ∧ W d)
    (he : evOp P tb Γ o s some = some s') : o.wp P a w (Goes P tb N W a0 g0 w0 D0 s') Q := by
  unfold evOp at he
  rw [ho] at he
  simp only at he
  cases str with
  | false => simp at he
  | true =>
    simp only [cond_true] at he
    cases hdst : o.dst with
    | none => simp [hdst] at he
    | some d =>
      simp only [hdst] at he
      split at he
      · rename_i i hv
        obtain ⟨r1, _⟩ := val_sound h x _ hv
        have hx : a.eval x = .pointer (some ⟨μ i, 0, none⟩) := r1
        cases hi : s.itr i with
        | none => simp [hi] at he
        | some lp =>
          obtain ⟨l, p⟩ := lp
          simp only [hi] at he
          obtain ⟨e1, e2, e3⟩ := h.itr i l p hi
          have hlt : μ i < w.heap.size := (Array.getElem?_eq_some_iff.1 e1).1
          have hgo : (getObj (μ i)).run P w = .ok (.stringIter ⟨l.toArray⟩ p) w := by simp [getObj, Sem.run, e1]
          by_cases hp : p < l.length
          · simp only [hp, decide_true, brn_true, Option.some.injEq] at he; subst he
            have hd2 := decode_snd ⟨l.toArray⟩ p (by rw [size_mk]; exact hp)
            rw [size_mk] at hd2
            have hd1 := decode_fst ⟨l.toArray⟩ p
            let w1 : World := { w with heap := w.heap.setIfInBounds (μ i) (.stringIter ⟨l.toArray⟩ (p + (rune l p).2)) }
            have hset : (setObj (μ i) (.stringIter ⟨l.toArray⟩ (p + (rune l p).2))).run P w = .ok () w1 := by simp [setObj, Sem.run, e1, w1]
            have ho1 : OneBlock w w1 (μ i) (.stringIter ⟨l.toArray⟩ (p + (rune l p).2)) := ⟨rfl, rfl, rfl, by simp [w1], by simp [w1, hlt], fun b' hb' => by
              simp only [w1]; rw [Array.getElem?_setIfInBounds_ne (by omega)]⟩
            have hrun : (execOp a.eval o).run P w = .ok (.value (.tuple #[.bool true, goInt p, .int .i32 ((rune l p).1 : Int)])) w1 := by
              have hsz : p < (⟨l.toArray⟩ : ByteArray).size := by rw [size_mk]; exact hp
              simp only [rune] at hset ⊢
              simp [execOp, ho, Instr.next, hx, hgo, hsz, hset]
            refine wp_value hrun ?_
            rw [hdst]
            have h1 := h.setItr hi (l' := l) ho1 e2 (by simp only [rune]; exact hd2.2)
            refine (h1.put (hd d hdst).1 (hd d hdst).2 (v := .tup [(false, [.d (.bool true)]), (false, [.d (.int .i64 (p : Int))]), (false, [.d (.int .i32 ((rune l p).1 : Int))])]) ?_ (by simp [SV.ids, AC.ids])).sim
            refine ⟨[.bool true, goInt p, .int .i32 ((rune l p).1 : Int)], rfl, ⟨_, rfl, .bool true⟩, ⟨_, rfl, .int _ _ ?_⟩, ⟨_, rfl, .int _ _ ?_⟩, trivial⟩
            · unfold inR lo Ev.hi; unfold mxLen at e2; simp only []; omega
            · unfold inR lo Ev.hi; simp only [rune]; omega
          · simp only [hp, decide_false, brn_false, Option.some.injEq] at he; subst he
            have hrun : (execOp a.eval o).run P w = .ok (.value (.tuple #[.bool false])) w := by
              have hsz : ¬ p < (⟨l.toArray⟩ : ByteArray).size := by rw [size_mk]; exact hp
              simp [execOp, ho, Instr.next, hx, hgo, hsz]
            refine wp_value hrun ?_
            rw [hdst]
            exact (h.put (hd d hdst).1 (hd d hdst).2 (v := .tup [(false, [.d (.bool false)])]) ⟨[.bool false], rfl, ⟨_, rfl, .bool false⟩, trivial⟩ (by simp [SV.ids, AC.ids])).sim
      · cases he
end Go.Ev
