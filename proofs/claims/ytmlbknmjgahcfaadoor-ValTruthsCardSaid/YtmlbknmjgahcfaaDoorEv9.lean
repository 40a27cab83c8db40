/- Operations that look at temporaries alone: the theorem. -/
import Derived.Test.YtmlbknmjgahcfaaDoorEv8
import Derived.Test.YtmlbknmjgahcfaaDoorEvK
namespace Go.Ev
open Go

variable {P : Program} {tb : Tab} {g : Gh} {w : World} {μ : Nat → Nat} {τ : Nat → Option Nat} {tok : Nat → Bool}

theorem vals_sound {ρ : Operand → Option (SV tb.T)} {ν : Operand → Value} {U : Nat → Prop} (hρ : ∀ x v, ρ x = some v → RepV P tb g w μ τ tok v (ν x) ∧ ∀ i ∈ v.ids, U i) :
    ∀ {xs : List Operand} {vs : List (SV tb.T)}, vals ρ xs = some vs → All2 (RepV P tb g w μ τ tok) vs (xs.map ν) ∧ ∀ v ∈ vs, ∀ i ∈ v.ids, U i
  | [], vs, h => by simp only [vals, Option.some.injEq] at h; subst h; exact ⟨trivial, by simp⟩
  | x :: xs, vs, h => by
    simp only [vals] at h
    cases hx : ρ x with
    | none => simp [hx] at h
    | some v =>
      cases hs : vals ρ xs with
      | none => simp [hx, hs] at h
      | some vs' =>
        simp only [hx, hs, Option.some.injEq] at h; subst h
        obtain ⟨k1, k2⟩ := vals_sound hρ hs
        refine ⟨⟨(hρ x v hx).1, k1⟩, fun u hu => ?_⟩
        rcases List.mem_cons.1 hu with e | e
        · subst e; exact (hρ x u hx).2
        · exact k2 u e

theorem minAll_sound : ∀ {r : List (SV tb.T)} {k : IntKind} {x n : Int} {us : List Value}, minAll k x r = some n → inR k x → All2 (RepV P tb g w μ τ tok) r us →
    (us.foldlM Builtin.min2 (.int k x)).run P w = .ok (.int k n) w ∧ inR k n
  | [], k, x, n, us, h, hx, hr => by
    cases us with
    | cons _ _ => exact hr.elim
    | nil => simp only [minAll, Option.some.injEq] at h; subst h; exact ⟨by simp, hx⟩
  | v :: r, k, x, n, us, h, hx, hr => by
    cases us with
    | nil => exact hr.elim
    | cons u us =>
      obtain ⟨h1, h2⟩ := hr
      unfold minAll at h
      split at h
      · rename_i e; cases e
      · rename_i k' y r' e
        injection e with e1 e2
        subst e1; subst e2
        cases h1
        rename_i hy
        by_cases ek : k = k'
        · subst ek
          simp only [decide_true, cond_true] at h
          have hz : (bif decide (y < x) then y else x) = if y < x then y else x := by by_cases c : y < x <;> simp [c]
          rw [hz] at h
          have hb : inR k (if y < x then y else x) := by split <;> assumption
          obtain ⟨k1, k2⟩ := minAll_sound h hb h2
          exact ⟨by simp only [List.foldlM_cons, Builtin.min2, Sem.run_bind, Sem.run_pure, Result.andThen_ok]; exact k1, k2⟩
        · simp [ek] at h
      · cases h
theorem maxAll_sound : ∀ {r : List (SV tb.T)} {k : IntKind} {x n : Int} {us : List Value}, maxAll k x r = some n → inR k x → All2 (RepV P tb g w μ τ tok) r us →
    (us.foldlM Builtin.max2 (.int k x)).run P w = .ok (.int k n) w ∧ inR k n
  | [], k, x, n, us, h, hx, hr => by
    cases us with
    | cons _ _ => exact hr.elim
    | nil => simp only [maxAll, Option.some.injEq] at h; subst h; exact ⟨by simp, hx⟩
  | v :: r, k, x, n, us, h, hx, hr => by
    cases us with
    | nil => exact hr.elim
    | cons u us =>
      obtain ⟨h1, h2⟩ := hr
      unfold maxAll at h
      split at h
      · rename_i e; cases e
      · rename_i k' y r' e
        injection e with e1 e2
        subst e1; subst e2
        cases h1
        rename_i hy
        by_cases ek : k = k'
        · subst ek
          simp only [decide_true, cond_true] at h
          have hz : (bif decide (x < y) then y else x) = if x < y then y else x := by by_cases c : x < y <;> simp [c]
          rw [hz] at h
          have hb : inR k (if x < y then y else x) := by split <;> assumption
          obtain ⟨k1, k2⟩ := maxAll_sound h hb h2
          exact ⟨by simp only [List.foldlM_cons, Builtin.max2, Sem.run_bind, Sem.run_pure, Result.andThen_ok]; exact k1, k2⟩
        · simp [ek] at h
      · cases h

/-- what an operation over temporaries comes to -/
def POut (P : Program) (tb : Tab) (g : Gh) (w : World) (μ : Nat → Nat) (τ : Nat → Option Nat) (tok : Nat → Bool) (U : Nat → Prop) (s : Sem Next) (v : SV tb.T) : Prop :=
  ∃ u, s.run P w = .ok (.value u) w ∧ RepV P tb g w μ τ tok v u ∧ ∀ i ∈ v.ids, U i

theorem POut.of_run {U : Nat → Prop} {s : Sem Value} {v : SV tb.T} {u : Value} (h : s.run P w = .ok u w) (hr : RepV P tb g w μ τ tok v u) (hi : ∀ i ∈ v.ids, U i) :
    POut P tb g w μ τ tok U (do pure (.value (← s))) v :=
  ⟨u, by simp [h], hr, hi⟩

theorem ids_d {T : Nat → Type} (c : CV T) {U : Nat → Prop} : ∀ i ∈ (SV.c (AC.d c)).ids, U i := by simp [SV.ids, AC.ids]

theorem fieldOf_some {t i : Nat} {f : Field} (h : fieldOf P t i = some f) : ∃ fs, P.underlying t = some (.struct fs) ∧ fs[i]? = some f := by
  unfold fieldOf at h
  split at h
  · rename_i fs hu; exact ⟨fs, hu, h⟩
  · cases h
theorem elemOf_some {t e : Nat} (h : elemOf P t = some e) : P.underlying t = some (.slice e) := by
  unfold elemOf at h
  split at h
  · rename_i e' hu; simp only [Option.some.injEq] at h; subst h; exact hu
  · cases h

theorem evLen_sound {t : Nat} {x v : SV tb.T} {u : Value} {U : Nat → Prop} (h : evLen P t x some = some v) (hx : RepV P tb g w μ τ tok x u) (ty : TypeId) (tys : List TypeId) :
    ∃ r, (Builtin.len_ (t :: tys).toArray ty #[u]).run P w = .ok r w ∧ RepV P tb g w μ τ tok v r ∧ ∀ i ∈ v.ids, U i := by
  have hi : ∀ n : Nat, n ≤ mxLen → inR .i64 (n : Int) := fun n hn => by
    unfold inR lo hi; unfold mxLen at hn; simp only []; omega
  unfold evLen at h
  split at h
  · rename_i s hu
    cases hx
    rename_i hl
    simp only [Option.some.injEq] at h; subst h
    refine ⟨.int .i64 s.length, ?_, .int _ _ (hi _ hl), ids_d _⟩
    simp [Builtin.len_, run_underlying hu, goInt, size_mk]
  · rename_i e hu
    cases hx
    simp only [Option.some.injEq] at h; subst h
    exact ⟨.int .i64 0, by simp [Builtin.len_, run_underlying hu, goInt], .int _ _ (hi 0 (Nat.zero_le _)), ids_d _⟩
  · rename_i e _ xs hu
    obtain ⟨⟨y, cap, rfl, h1, h2⟩, _⟩ := slice_cells hx
    simp only [Option.some.injEq] at h; subst h
    exact ⟨.int .i64 xs.length, by simp [Builtin.len_, run_underlying hu, goInt], .int _ _ (hi _ (by omega)), ids_d _⟩
  · rename_i e _ xs _ hu
    obtain ⟨⟨y, cap, rfl, h1, h2⟩, _⟩ := slice_cells hx.1
    simp only [Option.some.injEq] at h; subst h
    exact ⟨.int .i64 xs.length, by simp [Builtin.len_, run_underlying hu, goInt], .int _ _ (hi _ (by omega)), ids_d _⟩
  · cases h

theorem boundOf_sound {ρ : Operand → Option (SV tb.T)} {ν : Operand → Value} {U : Nat → Prop} (hρ : ∀ x v, ρ x = some v → RepV P tb g w μ τ tok v (ν x) ∧ ∀ i ∈ v.ids, U i)
    {l : Option Operand} {d n : Int} (h : boundOf ρ l d = some n) : (l = none ∧ n = d) ∨ ∃ x k, l = some x ∧ ν x = .int k n := by
  cases l with
  | none => simp only [boundOf, Option.some.injEq] at h; exact .inl ⟨rfl, h.symm⟩
  | some x =>
    simp only [boundOf] at h
    cases hx : ρ x with
    | none => simp [hx] at h
    | some v =>
      rw [hx] at h
      split at h
      · rename_i k m e
        simp only [Option.some.injEq] at h e
        subst h; subst e
        have := (hρ x _ hx).1
        generalize hu : ν x = u at this
        cases this
        exact .inr ⟨x, k, rfl, hu⟩
      · cases h

theorem boundOf_map {ρ : Operand → Option (SV tb.T)} {ν : Operand → Value} {U : Nat → Prop} (hρ : ∀ x v, ρ x = some v → RepV P tb g w μ τ tok v (ν x) ∧ ∀ i ∈ v.ids, U i)
    {l : Option Operand} {d n : Int} (h : boundOf ρ l d = some n) : (l.map ν = none ∧ n = d) ∨ ∃ k, l.map ν = some (.int k n) := by
  rcases boundOf_sound hρ h with ⟨rfl, rfl⟩ | ⟨y, k, rfl, hk⟩
  · exact .inl ⟨rfl, rfl⟩
  · exact .inr ⟨k, by simp [hk]⟩

theorem run_sliceBounds {isSlice : Bool} {len cap : Nat} {lo' hi' : Option Value} {l h : Int} (hl : (lo' = none ∧ l = 0) ∨ ∃ k, lo' = some (.int k l)) (hh : (hi' = none ∧ h = len) ∨ ∃ k, hi' = some (.int k h))
    (h0 : 0 ≤ l) (h1 : l ≤ h) (h2 : h ≤ len) (hc : len ≤ cap) : (Instr.sliceBounds isSlice len cap lo' hi' none).run P w = .ok (l.toNat, h.toNat, cap) w := by
  have hb : ∀ (k : IntKind) (i : Int) (y : Nat) code, 0 ≤ i → i ≤ y → (Instr.sliceBound (.int k i) y code).run P w = .ok i.toNat w := fun k i y code a b => by
    simp [Instr.sliceBound, asIntOf, a, b]
  unfold Instr.sliceBounds
  rcases hh with ⟨rfl, rfl⟩ | ⟨k, rfl⟩
  · rcases hl with ⟨rfl, rfl⟩ | ⟨k', rfl⟩
    · simp
    · simp [hb _ _ _ _ h0 h1]
  · have e1 := fun code => hb k h cap code (by omega) (by omega)
    rcases hl with ⟨rfl, rfl⟩ | ⟨k', rfl⟩
    · simp [e1]
    · have e2 := fun code => hb k' l h.toNat code h0 (by omega)
      simp [e1, e2]

theorem evP_sound {ρ : Operand → Option (SV tb.T)} {ν : Operand → Value} {U : Nat → Prop} (hρ : ∀ x v, ρ x = some v → RepV P tb g w μ τ tok v (ν x) ∧ ∀ i ∈ v.ids, U i)
    (o : Oper) {v : SV tb.T} (h : evP P tb o.op ρ some = some v) : POut P tb g w μ τ tok U (execOp ν o) v := by
  obtain ⟨dst, op, ty, pos, after, guard⟩ := o
  simp only at h
  unfold evP at h
  split at h
  · -- move
    rename_i x
    cases hx : ρ x with
    | none => simp [hx] at h
    | some v' =>
      simp only [hx, Option.some.injEq] at h; subst h
      exact ⟨ν x, by simp [execOp], (hρ x _ hx).1, (hρ x _ hx).2⟩
  · rename_i x
    cases hx : ρ x with
    | none => simp [hx] at h
    | some v' =>
      simp only [hx, Option.some.injEq] at h; subst h
      exact ⟨ν x, by simp [execOp], (hρ x _ hx).1, (hρ x _ hx).2⟩
  · -- pick
    rename_i c a b
    split at h
    · rename_i t hc
      have hc' := (hρ c _ hc).1
      generalize hu : ν c = u at hc'
      cases hc'
      cases t
      · simp only [brn_false] at h
        cases hb : ρ b with
        | none => simp [hb] at h
        | some v' =>
          simp only [hb, Option.some.injEq] at h; subst h
          exact ⟨ν b, by simp [execOp, hu, asBool], (hρ b _ hb).1, (hρ b _ hb).2⟩
      · simp only [brn_true] at h
        cases ha : ρ a with
        | none => simp [ha] at h
        | some v' =>
          simp only [ha, Option.some.injEq] at h; subst h
          exact ⟨ν a, by simp [execOp, hu, asBool], (hρ a _ ha).1, (hρ a _ ha).2⟩
    · cases h
  · -- binOp
    rename_i op xt x y _
    cases hx : ρ x with
    | none => simp [hx] at h
    | some u =>
      cases hy : ρ y with
      | none => simp [hx, hy] at h
      | some v' =>
        simp only [hx, hy] at h
        rw [evBin_k] at h
        obtain ⟨c, hc, h⟩ := obnd_eq_some.1 h
        simp only [Option.some.injEq] at h; subst h
        obtain ⟨r, hr, hd⟩ := evBin_sound (ox := x) (oy := y) hc (hρ x _ hx).1 (hρ y _ hy).1
        exact POut.of_run (s := do eqGuard op xt x y (ν x) (ν y); binOp op xt (ν x) (ν y)) hr hd (ids_d _)
  · -- unOp
    rename_i op _ x
    cases hx : ρ x with
    | none => simp [hx] at h
    | some u =>
      simp only [hx] at h
      rw [evUn_k] at h
      obtain ⟨c, hc, h⟩ := obnd_eq_some.1 h
      simp only [Option.some.injEq] at h; subst h
      obtain ⟨r, hr, hd⟩ := evUn_sound hc (hρ x _ hx).1
      exact POut.of_run hr hd (ids_d _)
  · -- convert
    rename_i src dst' x
    cases hx : ρ x with
    | none => simp [hx] at h
    | some u =>
      simp only [hx] at h
      rw [evConv_k] at h
      obtain ⟨c, hc, h⟩ := obnd_eq_some.1 h
      simp only [Option.some.injEq] at h; subst h
      obtain ⟨r, hr, hd⟩ := evConv_sound hc (hρ x _ hx).1
      exact POut.of_run hr hd (ids_d _)
  · -- fieldAddr
    rename_i s x f
    cases hf : fieldOf P s f with
    | none => simp [hf] at h
    | some fd =>
      simp only [hf] at h
      cases hz : Nat.beq (P.cellsOf fd.type) 0 with
      | true => simp [hz] at h
      | false =>
        simp only [hz, cond_false] at h
        obtain ⟨fs, hu, hfs⟩ := fieldOf_some hf
        have hne : P.cellsOf fd.type ≠ 0 := fun e => by rw [e] at hz; cases hz
        have hinfo : ∃ i, P.info? fd.type = some i := by
          unfold Program.cellsOf at hne
          cases hi : P.info? fd.type with
          | none => simp [hi] at hne
          | some i => exact ⟨i, rfl⟩
        have hrun : ∀ a : Addr, (Instr.fieldAt s (.pointer (some a)) f).run P w = .ok (.pointer (some (a.add fd.offset))) w := fun a => by
          simp [Instr.fieldAt, run_underlying hu, hfs, Instr.sureAddr, fieldPlace, run_sizeOf_ex hinfo, hne]
        split at h
        · rename_i i o hx
          have hx' := hρ x _ hx
          have e : ν x = .pointer (some ⟨μ i, o, none⟩) := hx'.1
          simp only [Option.some.injEq] at h; subst h
          have hr := hrun ⟨μ i, o, none⟩
          rw [← e] at hr
          refine POut.of_run hr ?_ hx'.2
          rw [addr_add]; rfl
        · rename_i cs hx
          have hx' := hρ x _ hx
          obtain ⟨b, off, e, h1, h2⟩ := hx'.1
          cases hb : Nat.blt fd.offset cs.length with
          | false => simp [hb] at h
          | true =>
            simp only [hb, cond_true, Option.some.injEq] at h; subst h
            have hr := hrun ⟨b, off, none⟩
            rw [← e] at hr
            have hlt : fd.offset < cs.length := Nat.le_of_ble_eq_true hb
            refine POut.of_run hr ⟨b, off + fd.offset, by rw [addr_add], fun h0 => ?_, fun j c hc => ?_⟩ (by simp [SV.ids, AC.ids])
            · obtain ⟨f1, f2⟩ := h1 (by omega)
              refine ⟨f1, f2.imp id fun ⟨n, hn, hle⟩ => ⟨n, hn, ?_⟩⟩
              rw [List.length_drop]; omega
            · rw [List.getElem?_drop] at hc
              obtain ⟨u, hu', hd⟩ := h2 _ c hc
              exact ⟨u, by rw [Nat.add_assoc]; exact hu', hd⟩
        · cases h
  · -- field
    rename_i s x f
    cases hf : fieldOf P s f with
    | none => simp [hf] at h
    | some fd =>
      simp only [hf] at h
      obtain ⟨fs, hu, hfs⟩ := fieldOf_some hf
      split at h
      · rename_i as hx
        have hx' := hρ x _ hx
        obtain ⟨us, e, hr⟩ := hx'.1
        cases hc : cut1 P fd.type as fd.offset with
        | none => simp [hc] at h
        | some v' =>
          simp only [hc, Option.some.injEq] at h; subst h
          obtain ⟨⟨u, hu', hru⟩, hi⟩ := cut1_sound (us := us.toArray) hc (by simpa using hr)
          refine POut.of_run (s := Instr.field s (ν x) f) ?_ hru (fun i hi' => ?_)
          · rw [e]
            simp [Instr.field, run_underlying hu, hfs, asAgg, hu']
          · obtain ⟨a, ha, hia⟩ := hi i hi'
            exact hx'.2 i (List.mem_flatMap.2 ⟨a, ha, hia⟩)
      · cases h
  · -- indexAddr
    rename_i t x ix
    cases he : elemOf P t with
    | none => simp [he] at h
    | some e =>
      simp only [he] at h
      have hu := elemOf_some he
      split at h
      · rename_i a hx
        have hx' := hρ x _ hx
        cases hs : sliceOf tb a e with
        | none => simp [hs] at h
        | some xs =>
          simp only [hs] at h
          split at h
          · rename_i k i hix
            have hi' := (hρ ix _ hix).1
            generalize hui : ν ix = ui at hi'
            cases hi'
            cases hz : sized P e with
            | false => simp [hz] at h
            | true =>
              simp only [hz, cond_true] at h
              obtain ⟨y, hy, h⟩ := obnd_eq_some.1 h
              simp only [Option.some.injEq] at h; subst h
              obtain ⟨i0, i1, hget⟩ := idx_some hy
              have hr := sliceOf_sound hs hx'.1
              have hc := (slice_cells hr).2
              rcases hc with ⟨_, rfl⟩ | ⟨b, off, cap, ev, h1, h2, h3, h4, val, h5, h6⟩
              · simp at hget
              have hlen := h3 _ _ hget
              have hpos : 0 < P.cellsOf e := by unfold sized at hz; exact Nat.le_of_ble_eq_true hz
              have hi2 : i.toNat < xs.length := by omega
              have hmul : (i.toNat + 1) * P.cellsOf e ≤ xs.length * P.cellsOf e := Nat.mul_le_mul_right _ hi2
              rw [Nat.add_mul, Nat.one_mul] at hmul
              refine POut.of_run (s := Instr.indexAt t (ν x) (ν ix)) (u := .pointer (some ⟨b, off + i.toNat * P.cellsOf e, none⟩)) ?_ ⟨b, _, rfl, fun h0 => ?_, fun j c hc => ?_⟩ (by simp [SV.ids, AC.ids])
              · rw [ev, hui]
                have : (Instr.indexAt t (.slice (some ⟨b, off, none⟩) xs.length cap) (.int k i)).run P w = .ok (.pointer (some ((⟨b, off, none⟩ : Addr).add (i.toNat * P.cellsOf e)))) w := by
                  simp [Instr.indexAt, asIntOf, run_underlying hu, i0, i1, run_sizeOf_ex (info_of_sized hz)]
                rw [this, addr_add]
              · obtain ⟨f1, f2⟩ := h4 (by omega)
                refine ⟨f1, f2.imp id fun ⟨n, hn, hle⟩ => ⟨n, hn, ?_⟩⟩
                rw [hlen]; omega
              · exact ⟨val i.toNat j, h5 _ _ _ _ hget hc, h6 _ _ _ _ hget hc⟩
          · cases h
      · cases h
  · -- index
    rename_i t x ix
    split at h
    · rename_i hu
      split at h
      · rename_i s hx
        have hx' := (hρ x _ hx).1
        generalize hux : ν x = ux at hx'
        cases hx'
        split at h
        · rename_i k i hix
          have hi' := (hρ ix _ hix).1
          generalize hui : ν ix = ui at hi'
          cases hi'
          obtain ⟨y, hy, h⟩ := obnd_eq_some.1 h
          simp only [Option.some.injEq] at h; subst h
          obtain ⟨i0, i1, hget⟩ := idx_some hy
          refine POut.of_run (s := Instr.index t (ν x) (ν ix)) (u := .int .u8 (y.toNat : Int)) ?_ (.int _ _ ?_) (ids_d _)
          · rw [hux, hui]
            have hb : (⟨s.toArray⟩ : ByteArray)[i.toNat]? = some y := by
              have hlt := (List.getElem?_eq_some_iff.1 hget).1
              have hv := (List.getElem?_eq_some_iff.1 hget).2
              have : i.toNat < (⟨s.toArray⟩ : ByteArray).size := by rw [size_mk]; exact hlt
              rw [getElem?_pos (⟨s.toArray⟩ : ByteArray) i.toNat this]
              simp only [Option.some.injEq]
              rw [← hv]
              rfl
            simp [Instr.index, asIntOf, run_underlying hu, i0, hb]
          · unfold inR lo hi
            have := y.toNat_lt
            simp only []; omega
        · cases h
      · cases h
    · cases h
  · -- extract
    rename_i x i
    split at h
    · rename_i vs hx
      have hx' := hρ x _ hx
      obtain ⟨us, e, hr⟩ := hx'.1
      split at h
      · rename_i as hv
        simp only [Option.some.injEq] at h; subst h
        obtain ⟨u, hu, hrt⟩ := hr.get hv
        refine POut.of_run (s := Instr.extract (ν x) i) (u := u) ?_ (by simpa [RepT, RepV] using hrt) (fun j hj => hx'.2 j ?_)
        · rw [e]; simp [Instr.extract, hu]
        · exact List.mem_flatMap.2 ⟨_, List.mem_of_getElem? hv, hj⟩
      · rename_i a hv
        simp only [Option.some.injEq] at h; subst h
        obtain ⟨u, hu, hrt⟩ := hr.get hv
        obtain ⟨a', ha', hra⟩ : ∃ a', [a] = [a'] ∧ RepC P tb g w μ τ tok a' u := by simpa [RepT] using hrt
        simp only [List.cons.injEq, and_true] at ha'; subst ha'
        refine POut.of_run (s := Instr.extract (ν x) i) (u := u) ?_ hra (fun j hj => hx'.2 j ?_)
        · rw [e]; simp [Instr.extract, hu]
        · exact List.mem_flatMap.2 ⟨_, List.mem_of_getElem? hv, by simpa [SV.ids] using hj⟩
      · cases h
    · cases h
  · -- build
    rename_i t parts
    split at h
    · rename_i fs hu
      cases hz : zeroOf (T := tb.T) P t with
      | none => simp [hz] at h
      | some z =>
        cases hok : fieldsOk P t with
        | false => simp [hz, hok] at h
        | true =>
          cases hfl : fillS P t ρ parts.toList z with
          | none => simp [hz, hok, hfl] at h
          | some as =>
            simp only [hz, hok, hfl, cond_true, Option.some.injEq] at h; subst h
            obtain ⟨us, h1, h2, h3⟩ := build_sound hρ hu hz hok hfl
            refine POut.of_run h1 ⟨us, rfl, h2⟩ (fun i hi => ?_)
            simp only [SV.ids, List.mem_flatMap] at hi
            obtain ⟨a, ha, hia⟩ := hi
            exact h3 a ha i hia
    · cases h
  · -- slice
    rename_i t x l hgh m
    cases m with
    | some m => cases h
    | none =>
      simp only at h
      split at h
      · rename_i hu
        split at h
        · rename_i s hx
          have hx' := (hρ x _ hx).1
          generalize hux : ν x = ux at hx'
          cases hx'
          rename_i hlen
          split at h
          · rename_i li hl
            split at h
            · rename_i hi hh
              obtain ⟨z, hz, h⟩ := obnd_eq_some.1 h
              simp only [Option.some.injEq] at h; subst h
              obtain ⟨a0, a1, a2, rfl⟩ := sub_some hz
              refine POut.of_run (s := Instr.sliceAt t (ν x) (l.map ν) (hgh.map ν) (Option.map ν none)) (u := .string ⟨((s.take hi.toNat).drop li.toNat).toArray⟩) ?_ (.str _ (by simp; omega)) (ids_d _)
              have hb := run_sliceBounds (P := P) (w := w) (isSlice := false) (len := s.length) (cap := s.length) (lo' := l.map ν) (hi' := hgh.map ν) (l := li) (h := hi)
                (boundOf_map hρ hl)
                (boundOf_map hρ hh) a0 a1 a2 (Nat.le_refl _)
              rw [hux]
              simp only [Option.map_none]
              simp only [Instr.sliceAt, Instr.slice, Sem.run_bind, run_underlying hu, Result.andThen_ok, size_mk]
              have he : (⟨s.toArray⟩ : ByteArray).extract li.toNat hi.toNat = ⟨((s.take hi.toNat).drop li.toNat).toArray⟩ := by
                rw [Lib.extract_eq, List.drop_take]
              simp [hb, he]
            · cases h
          · cases h
        · cases h
      · rename_i e hu
        split at h
        · rename_i a hx
          have hx' := hρ x _ hx
          cases hs : sliceOf tb a e with
          | none => simp [hs] at h
          | some xs =>
            simp only [hs] at h
            split at h
            · rename_i li hl
              split at h
              · rename_i hi hh
                cases hz' : sized P e with
                | false => simp [hz'] at h
                | true =>
                  simp only [hz', cond_true] at h
                  obtain ⟨z, hz, h⟩ := obnd_eq_some.1 h
                  simp only [Option.some.injEq] at h; subst h
                  obtain ⟨a0, a1, a2, rfl⟩ := sub_some hz
                  have hr := sliceOf_sound hs hx'.1
                  obtain ⟨_, hc⟩ := slice_cells hr
                  have hb := fun cap (hcap : xs.length ≤ cap) => run_sliceBounds (P := P) (w := w) (isSlice := true) (len := xs.length) (cap := cap) (lo' := l.map ν) (hi' := hgh.map ν) (l := li) (h := hi)
                    (boundOf_map hρ hl)
                    (boundOf_map hρ hh) a0 a1 a2 hcap
                  have hsz := fun w => run_sizeOf_ex (P := P) (info_of_sized hz') w
                  rcases hc with ⟨ev | ⟨y, cap, ev, hcm⟩, rfl⟩ | ⟨b, off, cap, ev, h1, h2, _⟩
                  · refine POut.of_run (s := Instr.sliceAt t (ν x) (l.map ν) (hgh.map ν) (Option.map ν none)) (u := .slice none 0 0) ?_ (by simp; exact .slnil e) (ids_d _)
                    have hb0 := hb 0 (Nat.le_refl _)
                    simp only [List.length_nil] at hb0 a2
                    have e1 : li.toNat = 0 := by omega
                    have e2 : hi.toNat = 0 := by omega
                    rw [ev]
                    simp only [Option.map_none, Instr.sliceAt, Instr.slice, Sem.run_bind, run_underlying hu, Result.andThen_ok, hb0, hsz, e1, e2]
                    simp
                  · have hb0 := hb cap (Nat.zero_le _)
                    simp only [List.length_nil] at hb0 a2
                    have e1 : li.toNat = 0 := by omega
                    have e2 : hi.toNat = 0 := by omega
                    refine POut.of_run (s := Instr.sliceAt t (ν x) (l.map ν) (hgh.map ν) (Option.map ν none)) (u := .slice (some y) 0 cap) ?_ (by simp; exact .sle e y cap hcm) (ids_d _)
                    rw [ev]
                    simp only [Option.map_none, Instr.sliceAt, Instr.slice, Sem.run_bind, run_underlying hu, Result.andThen_ok, hb0, hsz, e1, e2]
                    simp [Addr.add]
                  · rw [ev] at hr
                    have hp := slice_piece hr hz' (l := li.toNat) (h := hi.toNat) (by omega) (by omega)
                    refine POut.of_run (s := Instr.sliceAt t (ν x) (l.map ν) (hgh.map ν) (Option.map ν none)) ?_ hp (ids_d _)
                    have hb0 := hb cap h1
                    rw [ev]
                    simp only [Option.map_none, Instr.sliceAt, Instr.slice, Sem.run_bind, run_underlying hu, Result.andThen_ok, hb0, hsz, Sem.run_pure]
                    congr 2
                    split
                    · rfl
                    · simp only [Option.map_some, addr_add]
              · cases h
            · cases h
        · cases h
      · cases h
  · -- nilCheck
    rename_i x
    split at h
    · rename_i i o hx
      have hx' := hρ x _ hx
      have e : ν x = .pointer (some ⟨μ i, o, none⟩) := hx'.1
      simp only [Option.some.injEq] at h; subst h
      exact ⟨ν x, by simp [execOp, e], hx'.1, hx'.2⟩
    · rename_i cs hx
      have hx' := hρ x _ hx
      obtain ⟨b, off, e, h1⟩ := hx'.1
      simp only [Option.some.injEq] at h; subst h
      exact ⟨ν x, by simp [execOp, e], hx'.1, hx'.2⟩
    · cases h
  · -- len
    rename_i args argTypes
    split at h
    · rename_i v' hv
      split at h
      · rename_i t ts ht
        obtain ⟨h1, h2⟩ := vals_sound hρ hv
        cases hm : args.toList.map ν with
        | nil => rw [hm] at h1; exact h1.elim
        | cons u us =>
          rw [hm] at h1
          obtain ⟨h1, h3⟩ := h1
          cases us with
          | cons _ _ => exact h3.elim
          | nil =>
            obtain ⟨r, hr, hd, hi⟩ := evLen_sound (U := U) h h1 ty ts
            have ha : args.map ν = #[u] := by apply Array.ext'; simpa using hm
            have ht' : argTypes = (t :: ts).toArray := by apply Array.ext'; simpa using ht
            subst ht'
            refine ⟨r, ?_, hd, hi⟩
            simp [execOp, resolve, invoke, builtin, ha, hr]
      · cases h
    · cases h
  · -- min
    rename_i args argTypes
    split at h
    · rename_i k x r hv
      cases hm' : minAll k x r with
      | none => simp [hm'] at h
      | some n =>
        simp only [hm', Option.some.injEq] at h; subst h
        obtain ⟨h1, h2⟩ := vals_sound hρ hv
        cases hm : args.toList.map ν with
        | nil => rw [hm] at h1; exact h1.elim
        | cons u us =>
          rw [hm] at h1
          obtain ⟨h1, h3⟩ := h1
          cases h1
          rename_i hx
          obtain ⟨k1, k2⟩ := minAll_sound hm' hx h3
          refine ⟨.int k n, ?_, .int _ _ k2, ids_d _⟩
          simp [execOp, resolve, invoke, builtin, Builtin.min_, hm, k1]
    · cases h
  · -- max
    rename_i args argTypes
    split at h
    · rename_i k x r hv
      cases hm' : maxAll k x r with
      | none => simp [hm'] at h
      | some n =>
        simp only [hm', Option.some.injEq] at h; subst h
        obtain ⟨h1, h2⟩ := vals_sound hρ hv
        cases hm : args.toList.map ν with
        | nil => rw [hm] at h1; exact h1.elim
        | cons u us =>
          rw [hm] at h1
          obtain ⟨h1, h3⟩ := h1
          cases h1
          rename_i hx
          obtain ⟨k1, k2⟩ := maxAll_sound hm' hx h3
          refine ⟨.int k n, ?_, .int _ _ k2, ids_d _⟩
          simp [execOp, resolve, invoke, builtin, Builtin.max_, hm, k1]
    · cases h
  · cases h
end Go.Ev
