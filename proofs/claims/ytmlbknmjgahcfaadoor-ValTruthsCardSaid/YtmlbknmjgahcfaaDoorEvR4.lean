/- Effects, kind by kind. -/
import Derived.Test.YtmlbknmjgahcfaaDoorEvR3
namespace Go.Ev
open Go

variable {P : Program} {tb : Tab} {R : Type} {Γ : List (Nat × FSpec tb)} {s s' s1 : St tb.T}

theorem upd_or {α : Type} (f : Nat → Option α) (i : Nat) (v : α) : upd f i (some v) = fun j => (upd (fun _ => none) i (some v) j).or (f j) := funext fun j => by
  simp only [upd_eq]; split <;> simp
theorem upd_bor (f : Nat → Bool) (i : Nat) : upd f i true = fun j => upd (fun _ => false) i true j || f j := funext fun j => by
  simp only [upd_eq]; split <;> simp

theorem newVar_eff {d : Nat} {z : List (AC tb.T)} (h : newVar s d z some = some s') : s.used d = false ∧ s' = Eff.apply { d := some d, v := .c (.ptr d 0), F := upd (fun _ => false) d true, b := upd (fun _ => none) d (some z) } s := by
  unfold newVar at h
  cases hu : s.used d with
  | true => simp [hu] at h
  | false =>
    simp only [hu, cond_false, Option.some.injEq] at h
    refine ⟨rfl, ?_⟩
    rw [← h, Eff.apply, upd_or s.blk, upd_bor s.used]
    simp
theorem newVar_again {d : Nat} {z : List (AC tb.T)} (h : s.used d = false) : newVar s d z some = some (Eff.apply { d := some d, v := .c (.ptr d 0), F := upd (fun _ => false) d true, b := upd (fun _ => none) d (some z) } s) := by
  have : newVar s d z some = some { s with env := upd s.env d (some (.c (.ptr d 0))), blk := upd s.blk d (some z), used := upd s.used d true } := by simp [newVar, h]
  rw [this]
  rw [(newVar_eff this).2]
theorem newOwn_eff {d e : Nat} {xs : List (tb.T e)} (h : newOwn tb s d e xs some = some s') : s.used d = false ∧ s' = Eff.apply { d := some d, v := .c (.own e xs d), F := upd (fun _ => false) d true, tk := upd (fun _ => false) d true } s := by
  unfold newOwn at h
  cases hu : s.used d with
  | true => simp [hu] at h
  | false =>
    simp only [hu, cond_false, Option.some.injEq] at h
    refine ⟨rfl, ?_⟩
    rw [← h, Eff.apply, upd_bor s.tok, upd_bor s.used]
    simp
theorem newOwn_again {d e : Nat} {xs : List (tb.T e)} (h : s.used d = false) : newOwn tb s d e xs some = some (Eff.apply { d := some d, v := .c (.own e xs d), F := upd (fun _ => false) d true, tk := upd (fun _ => false) d true } s) := by
  have : newOwn tb s d e xs some = some { s with env := upd s.env d (some (.c (.own e xs d))), tok := upd s.tok d true, used := upd s.used d true } := by simp [newOwn, h]
  rw [this]
  rw [(newOwn_eff this).2]

theorem upd_true {i j : Nat} (h : upd (fun _ => false) i true j = true) : j = i := by
  rw [upd_eq] at h; split at h
  · assumption
  · cases h
theorem upd_ne_none {α : Type} {i j : Nat} {v : Option α} (h : upd (fun _ => none) i v j ≠ none) : j = i := by
  rw [upd_eq] at h; split at h
  · assumption
  · exact absurd rfl h

/-- an operation that makes a variable -/
theorem does_newVar {o : Oper} {d : Nat} {z : List (AC tb.T)} (hdst : o.dst = some d) (hf : ∀ s : St tb.T, footOf Γ o.op s = .n)
    (ho : ∀ s1 : St tb.T, (∀ x ∈ o.op.operands.toList, s1.val x = s.val x) → evOp P tb Γ o s1 some = newVar s1 d z some) (he : evOp P tb Γ o s some = some s') : ∃ e, Does P tb Γ o s (footOf Γ o.op s) s' e := by
  rw [ho s fun _ _ => rfl] at he
  obtain ⟨h1, h2⟩ := newVar_eff he
  refine ⟨_, h2, fun i hi => by rw [upd_true hi]; exact h1, fun i hi => .inl (by rw [upd_ne_none hi]; show upd (fun _ => false) d true d = true; exact upd_same _ _ _), by simp, .inr hdst.symm, fun i hi => absurd hi (by rw [hf]; exact fun h => h), fun s1 k1 _ _ k4 => ⟨?_, by rw [hf, hf]⟩⟩
  rw [ho s1 k1]
  exact newVar_again (k4 d (by show upd (fun _ => false) d true d = true; exact upd_same _ _ _))
theorem does_newOwn {o : Oper} {d e : Nat} {xs : List (tb.T e)} (hdst : o.dst = some d) (hf : ∀ s : St tb.T, footOf Γ o.op s = .n)
    (ho : ∀ s1 : St tb.T, (∀ x ∈ o.op.operands.toList, s1.val x = s.val x) → evOp P tb Γ o s1 some = newOwn tb s1 d e xs some) (he : evOp P tb Γ o s some = some s') : ∃ e, Does P tb Γ o s (footOf Γ o.op s) s' e := by
  rw [ho s fun _ _ => rfl] at he
  obtain ⟨h1, h2⟩ := newOwn_eff he
  refine ⟨_, h2, fun i hi => by rw [upd_true hi]; exact h1, by simp, by simp, .inr hdst.symm, fun i hi => absurd hi (by rw [hf]; exact fun h => h), fun s1 k1 _ _ k4 => ⟨?_, by rw [hf, hf]⟩⟩
  rw [ho s1 k1]
  exact newOwn_again (k4 d (by show upd (fun _ => false) d true d = true; exact upd_same _ _ _))

theorem does_load {o : Oper} {t : Nat} {a : Operand} (ho : o.op = .load t a) (he : evOp P tb Γ o s some = some s') (hx : footOf Γ o.op s ≠ .x) : ∃ e, Does P tb Γ o s (footOf Γ o.op s) s' e := by
  have hev : ∀ s1 : St tb.T, evOp P tb Γ o s1 some = match s1.val a with
    | some (.c (.ptr i off)) => match s1.blk i with
      | some cells => match cut1 P t cells off with
        | some v => some (s1.putO o.dst v)
        | none => none
      | none => none
    | some (.c (.cptr cs)) => match cut1 P t (cs.map AC.d) 0 with
      | some v => some (s1.putO o.dst v)
      | none => none
    | _ => none := fun s1 => by obtain ⟨odst, oop, oty, oaf, ogd⟩ := o; simp only at ho; subst ho; rfl
  have hft : ∀ s1 : St tb.T, footOf Γ o.op s1 = match s1.val a with | some (.c (.ptr i _)) => .l i | some (.c (.cptr _)) => .p | _ => .x := fun s1 => by rw [ho]; rfl
  have hop : a ∈ o.op.operands.toList := by rw [ho]; simp [Op.operands]
  rw [hev] at he
  split at he
  · rename_i i off hv
    split at he
    · rename_i cells hb
      split at he
      · rename_i v hc
        simp only [Option.some.injEq] at he
        have hf : footOf Γ o.op s = .l i := by rw [hft, hv]
        rw [hf]
        refine ⟨{ d := o.dst, v := v }, by rw [← he, apply_putO], by simp, by simp, by simp, .inr rfl, fun j hj => ?_, fun s1 k1 k2 _ _ => ⟨?_, by rw [hft, k1 a hop, hv]⟩⟩
        · have : j = i := hj
          subst this
          obtain ⟨t', e, h'⟩ := ids_tmp hv (i := j) (by simp [SV.ids, AC.ids])
          exact ⟨t', _, by rw [← e]; exact hop, h', by simp [SV.ids, AC.ids]⟩
        · rw [hev, k1 a hop, hv]
          simp only [k2 i rfl, hb, hc, apply_putO]
      · cases he
    · cases he
  · rename_i cs hv
    split at he
    · rename_i v hc
      simp only [Option.some.injEq] at he
      have hf : footOf Γ o.op s = .p := by rw [hft, hv]
      rw [hf]
      refine ⟨{ d := o.dst, v := v }, by rw [← he, apply_putO], by simp, by simp, by simp, .inr rfl, fun j hj => hj.elim, fun s1 k1 _ _ _ => ⟨?_, by rw [hft, k1 a hop, hv]⟩⟩
      rw [hev, k1 a hop, hv]
      simp only [hc, apply_putO]
    · cases he
  · cases he

theorem does_store {o : Oper} {t : Nat} {a x : Operand} (ho : o.op = .store t a x) (he : evOp P tb Γ o s some = some s') : ∃ e, Does P tb Γ o s (footOf Γ o.op s) s' e := by
  have hft : ∀ s1 : St tb.T, footOf Γ o.op s1 = match s1.val a with | some (.c (.ptr i _)) => .st i | _ => .x := fun s1 => by rw [ho]; rfl
  have hopa : a ∈ o.op.operands.toList := by rw [ho]; simp [Op.operands]
  have hopx : x ∈ o.op.operands.toList := by rw [ho]; simp [Op.operands]
  have hev : ∀ s1 : St tb.T, evOp P tb Γ o s1 some = match o.dst with
    | some _ => none
    | none => match s1.val a with
      | some (.c (.ptr i off)) => bif s1.ro i then none else match s1.blk i with
        | some cells => match s1.val x with
          | some v => match v.cells with
            | some as => bif sized P t && Nat.beq as.length (P.cellsOf t) && Nat.ble (off + as.length) cells.length then some { s1 with blk := upd s1.blk i (some (setAt cells as off)) } else none
            | none => none
          | none => none
        | none => none
      | _ => none := fun s1 => by obtain ⟨odst, oop, oty, oaf, ogd⟩ := o; simp only at ho; subst ho; rfl
  rw [hev] at he
  cases hdst : o.dst with
  | some d => simp [hdst] at he
  | none =>
    simp only [hdst] at he
    split at he
    · rename_i i off hv
      cases hro : s.ro i with
      | true => simp [hro] at he
      | false =>
        simp only [hro, cond_false] at he
        split at he
        · rename_i cells hb
          split at he
          · rename_i v hvx
            split at he
            · rename_i as has
              cases hk : (sized P t && Nat.beq as.length (P.cellsOf t) && Nat.ble (off + as.length) cells.length) with
              | false => simp only [hk, cond_false, reduceCtorEq] at he
              | true =>
                simp only [hk, cond_true, Option.some.injEq] at he
                have hf : footOf Γ o.op s = .st i := by rw [hft, hv]
                rw [hf]
                refine ⟨{ d := none, v := .tup [], b := upd (fun _ => none) i (some (setAt cells as off)) }, ?_, by simp, fun j hj => .inr (by rw [upd_ne_none hj]), by simp, .inl rfl, fun j hj => ?_, fun s1 k1 k2 k3 _ => ⟨?_, by rw [hft, k1 a hopa, hv]⟩⟩
                · rw [← he, Eff.apply, upd_or s.blk]; simp
                · have : j = i := hj
                  subst this
                  obtain ⟨t', e, h'⟩ := ids_tmp hv (i := j) (by simp [SV.ids, AC.ids])
                  exact ⟨t', _, by rw [← e]; exact hopa, h', by simp [SV.ids, AC.ids]⟩
                · rw [hev, hdst]
                  simp only [k1 a hopa, hv, k3, hro, k2 i rfl, hb, k1 x hopx, hvx, has, hk, cond_false, cond_true]
                  rw [upd_or s1.blk, Eff.apply]; simp [k3]
            · cases he
          · cases he
        · cases he
    · cases he

/-! ### a call of a function that takes and gives plain values -/
theorem plain_refs : ∀ {l : LSpec}, LSpec.plain l = true → refsOf l = []
  | [], _ => rfl
  | (i, p) :: l, h => by
    simp only [LSpec.plain, List.all_cons, Bool.and_eq_true] at h
    have ih := plain_refs (l := l) h.2
    cases p <;> simp_all [refsOf, Pat.isRef]
theorem plain_ids {T : Nat → Type} {get : Nat → Option (SV T)} : ∀ {l : LSpec}, LSpec.plain l = true → idsS get l = []
  | [], _ => rfl
  | (i, p) :: l, h => by
    simp only [LSpec.plain, List.all_cons, Bool.and_eq_true] at h
    have ih := plain_ids (get := get) (l := l) h.2
    cases p <;> simp_all [idsS, idsP]
    split <;> rfl
theorem plain_ext {get : Nat → Option (SV tb.T)} : ∀ {l : LSpec}, LSpec.plain l = true → extS P tb s get l = extS P tb s1 get l
  | [], _ => rfl
  | [(i, p)], h => by
    simp only [LSpec.plain, List.all_cons, Bool.and_eq_true] at h
    cases p <;> first | rfl | simp at h
  | (i, p) :: b :: l, h => by
    simp only [LSpec.plain, List.all_cons, Bool.and_eq_true] at h
    have ih := plain_ext (get := get) (l := b :: l) (by simp only [LSpec.plain, List.all_cons, Bool.and_eq_true]; exact h.2)
    cases p <;> first | (simp only [extS, ih, extP]; done) | simp at h
theorem plain_take {get : Nat → Option (SV tb.T)} {l : LSpec} (h : LSpec.plain l = true) : s.take get l = s := by
  simp [St.take, plain_ids h, plain_refs h, idsS, memB]
theorem putRefs_nil {get : Nat → Option (SV tb.T)} : ∀ {rs : LSpec} (x : XS tb rs), rs = [] → putRefs tb s get rs x = s
  | [], _, _ => rfl

/-- what a call leaves: its temporary, new arrays -/
def outEff (F : Nat → Bool) (d : Option Nat) (v : SV tb.T) : Eff tb.T := { d := d, v := v, F := F, tk := F }
theorem putOne_do (d : Nat) (p : Pat) (x : X tb p) (h : outOne P tb d s p x = some s') :
    ∃ F v, s' = (outEff F (some d) v).apply s ∧ (∀ i, F i = true → s.used i = false) ∧ ∀ s1 : St tb.T, (∀ i, F i = true → s1.used i = false) → outOne P tb d s1 p x = some ((outEff F (some d) v).apply s1) := by
  cases p with
  | val e =>
    simp only [outOne, Option.some.injEq] at h
    exact ⟨fun _ => false, valSV P e (tb.enc e x), by rw [← h]; simp [outEff, Eff.apply, St.put], by simp, fun s1 _ => by simp [outOne, outEff, Eff.apply, St.put]⟩
  | own e =>
    have h' : newOwn tb s d e x some = some s' := h
    obtain ⟨h1, h2⟩ := newOwn_eff h'
    refine ⟨upd (fun _ => false) d true, .c (.own e x d), h2, fun i hi => by rw [upd_true hi]; exact h1, fun s1 h3 => ?_⟩
    exact newOwn_again (h3 d (by exact upd_same _ _ _))
  | ref e => simp [outOne] at h
  | ro e => simp [outOne] at h
  | iter => simp [outOne] at h

/-- the same, without the temporary -/
def ownEff (F : Nat → Bool) (s : St tb.T) : St tb.T := { s with tok := fun i => F i || s.tok i, used := fun i => F i || s.used i }
theorem part1_do (d j : Nat) (a : Nat × Pat) (x : X tb a.2) (q : Bool × List (AC tb.T)) (h : outTup.part1 P tb d s j a x = some (q, s')) :
    ∃ F, s' = ownEff F s ∧ (∀ i, F i = true → s.used i = false) ∧ ∀ s1 : St tb.T, (∀ i, F i = true → s1.used i = false) → outTup.part1 P tb d s1 j a x = some (q, ownEff F s1) := by
  obtain ⟨i, p⟩ := a
  cases p with
  | val e =>
    refine ⟨fun _ => false, ?_⟩
    have e0 : ∀ s1 : St tb.T, ownEff (fun _ => false) s1 = s1 := fun s1 => by simp [ownEff]
    simp only [e0]
    have e1 : ∀ s1 : St tb.T, outTup.part1 P tb d s1 j (i, .val e) x = (bif isAggB P e then some ((true, (tb.enc e x).map .d), s1) else match tb.enc e x with | [c] => some ((false, [.d c]), s1) | _ => none) := fun _ => rfl
    simp only [e1] at h ⊢
    cases ha : isAggB P e with
    | true => simp only [ha, cond_true, Option.some.injEq, Prod.mk.injEq] at h ⊢; exact ⟨h.2.symm, by simp, fun s1 _ => ⟨h.1, trivial⟩⟩
    | false =>
      simp only [ha, cond_false] at h ⊢
      split at h
      · rename_i c hc
        simp only [Option.some.injEq, Prod.mk.injEq] at h
        exact ⟨h.2.symm, by simp, fun s1 _ => by simp [h.1]⟩
      · cases h
  | own e =>
    have e1 : ∀ s1 : St tb.T, outTup.part1 P tb d s1 j (i, .own e) x = (bif s1.used (d + 65536 * j) then none else
        some ((false, [.own e x (d + 65536 * j)]), { s1 with tok := upd s1.tok (d + 65536 * j) true, used := upd s1.used (d + 65536 * j) true })) := fun _ => rfl
    simp only [e1] at h ⊢
    cases hu : s.used (d + 65536 * j) with
    | true => simp [hu] at h
    | false =>
      simp only [hu, cond_false, Option.some.injEq, Prod.mk.injEq] at h
      refine ⟨upd (fun _ => false) (d + 65536 * j) true, ?_, fun i hi => by rw [upd_true hi]; exact hu, fun s1 h3 => ?_⟩
      · rw [← h.2, upd_bor s.tok, upd_bor s.used]; rfl
      · have := h3 (d + 65536 * j) (upd_same _ _ _)
        simp only [this, cond_false, Option.some.injEq, Prod.mk.injEq]
        exact ⟨h.1, by rw [upd_bor s1.tok, upd_bor s1.used]; rfl⟩
  | ref e => cases h
  | ro e => cases h
  | iter => cases h

theorem ownEff_two (F G : Nat → Bool) (s : St tb.T) : ownEff G (ownEff F s) = ownEff (fun i => G i || F i) s := by
  simp [ownEff, Bool.or_assoc]
theorem outTup_do (d : Nat) : ∀ (j : Nat) (l : LSpec) (x : XS tb l) (s s' : St tb.T) (qs : List (Bool × List (AC tb.T))), outTup P tb d s j l x = some (qs, s') →
    ∃ F, s' = ownEff F s ∧ (∀ i, F i = true → s.used i = false) ∧ ∀ s1 : St tb.T, (∀ i, F i = true → s1.used i = false) → outTup P tb d s1 j l x = some (qs, ownEff F s1)
  | j, [], x, s, s', qs, h => by
    simp only [outTup, Option.some.injEq, Prod.mk.injEq] at h
    refine ⟨fun _ => false, by rw [← h.2]; simp [ownEff], by simp, fun s1 _ => by simp [outTup, h.1, ownEff]⟩
  | j, [a], x, s, s', qs, h => by
    simp only [outTup] at h
    cases hp : outTup.part1 P tb d s j a x with
    | none => simp [hp] at h
    | some q =>
      obtain ⟨q, s2⟩ := q
      simp only [hp, Option.some.injEq, Prod.mk.injEq] at h
      obtain ⟨F, h1, h2, h3⟩ := part1_do d j a x q hp
      exact ⟨F, by rw [← h.2]; exact h1, h2, fun s1 k => by simp only [outTup, h3 s1 k, h.1]⟩
  | j, a :: b :: l, (x, xs), s, s', qs, h => by
    simp only [outTup] at h
    cases hp : outTup.part1 P tb d s j a x with
    | none => simp [hp] at h
    | some q =>
      obtain ⟨q, s2⟩ := q
      simp only [hp] at h
      cases hq : outTup P tb d s2 (j + 1) (b :: l) xs with
      | none => simp [hq] at h
      | some r =>
        obtain ⟨ps, s3⟩ := r
        simp only [hq, Option.some.injEq, Prod.mk.injEq] at h
        obtain ⟨F, h1, h2, h3⟩ := part1_do d j a x q hp
        obtain ⟨G, k1, k2, k3⟩ := outTup_do d (j + 1) (b :: l) xs s2 s3 ps hq
        refine ⟨fun i => G i || F i, by rw [← h.2, k1, h1, ownEff_two], fun i hi => ?_, fun s1 k => ?_⟩
        · simp only [Bool.or_eq_true] at hi
          rcases hi with hi | hi
          · have := k2 i hi
            rw [h1] at this
            simp only [ownEff, Bool.or_eq_false_iff] at this
            exact this.2
          · exact h2 i hi
        · have e1 := h3 s1 fun i hi => k i (by simp [hi])
          have e2 := k3 (ownEff F s1) fun i hi => by
            have f1 := k2 i hi
            rw [h1] at f1
            simp only [ownEff, Bool.or_eq_false_iff] at f1 ⊢
            exact ⟨f1.1, k i (by simp [hi])⟩
          simp only [outTup, e1, e2, ownEff_two, h.1]

theorem putOuts_do {dst : Option Nat} : ∀ {l : LSpec} {x : XS tb l}, putOuts P tb dst s l x = some s' →
    ∃ F d v, (d = none ∨ d = dst) ∧ s' = (outEff F d v).apply s ∧ (∀ i, F i = true → s.used i = false) ∧ ∀ s1 : St tb.T, (∀ i, F i = true → s1.used i = false) → putOuts P tb dst s1 l x = some ((outEff F d v).apply s1)
  | [], x, h => by
    simp only [putOuts, Option.some.injEq] at h
    refine ⟨fun _ => false, dst, .tup [], .inr rfl, by rw [← h, apply_putO]; rfl, by simp, fun s1 _ => by simp only [putOuts, apply_putO]; rfl⟩
  | [a], x, h => by
    cases dst with
    | none =>
      simp only [putOuts, Option.some.injEq] at h
      exact ⟨fun _ => false, none, .tup [], .inl rfl, by rw [← h]; simp [outEff, Eff.apply], by simp, fun s1 _ => by simp [putOuts, outEff, Eff.apply]⟩
    | some d =>
      simp only [putOuts] at h
      obtain ⟨F, v, h1, h2, h3⟩ := putOne_do d a.2 x h
      exact ⟨F, some d, v, .inr rfl, h1, h2, h3⟩
  | a :: b :: l, x, h => by
    cases dst with
    | none =>
      simp only [putOuts, Option.some.injEq] at h
      exact ⟨fun _ => false, none, .tup [], .inl rfl, by rw [← h]; simp [outEff, Eff.apply], by simp, fun s1 _ => by simp [putOuts, outEff, Eff.apply]⟩
    | some d =>
      simp only [putOuts] at h
      cases hq : outTup P tb d s 0 (a :: b :: l) x with
      | none => simp [hq] at h
      | some r =>
        obtain ⟨ps, s2⟩ := r
        simp only [hq, Option.some.injEq] at h
        obtain ⟨F, h1, h2, h3⟩ := outTup_do d 0 (a :: b :: l) x s s2 ps hq
        have e0 : ∀ s1 : St tb.T, (ownEff F s1).put d (.tup ps) = (outEff F (some d) (.tup ps)).apply s1 := fun s1 => by simp [ownEff, outEff, Eff.apply, St.put]
        exact ⟨F, some d, .tup ps, .inr rfl, by rw [← h, h1, e0], h2, fun s1 k => by simp only [putOuts, h3 s1 k, e0]⟩

theorem evCall_do {fid : Nat} {vs : List (SV tb.T)} {dst : Option Nat} : ∀ {Γ : List (Nat × FSpec tb)}, plainFn Γ fid = true → evCall P tb fid vs dst s some Γ = some s' →
    ∃ F d v, (d = none ∨ d = dst) ∧ s' = (outEff F d v).apply s ∧ (∀ i, F i = true → s.used i = false) ∧ ∀ s1 : St tb.T, (∀ i, F i = true → s1.used i = false) → evCall P tb fid vs dst s1 some Γ = some ((outEff F d v).apply s1)
  | [], _, h => by simp [evCall] at h
  | (g, sp) :: Γ, hp, h => by
    simp only [plainFn, List.all_cons, Bool.and_eq_true] at hp
    simp only [evCall] at h ⊢
    cases hf : Nat.beq g fid with
    | false => simp only [hf, cond_false] at h ⊢; exact evCall_do hp.2 h
    | true =>
      simp only [hf, cond_true] at h ⊢
      have hp1 : LSpec.plain sp.ins = true ∧ LSpec.plainOwn sp.outs = true := by
        have := hp.1
        simp only [hf, Bool.not_true, Bool.false_or, Bool.and_eq_true] at this; exact this
      cases hx : extS P tb s (fun i => vs[i]?) sp.ins with
      | none =>
        simp only [hx] at h
        obtain ⟨F, d, v, h1, h2, h3, h4⟩ := evCall_do hp.2 h
        refine ⟨F, d, v, h1, h2, h3, fun s1 k => ?_⟩
        rw [plain_ext (s := s1) (s1 := s) hp1.1, hx]
        exact h4 s1 k
      | some x =>
        simp only [hx] at h
        cases hk : (nodupB (idsS (fun i => vs[i]?) sp.ins) && Nat.beq sp.ins.length vs.length) with
        | false => simp [hk] at h
        | true =>
          simp only [hk, cond_true] at h
          obtain ⟨y, hy, h⟩ := obnd_eq_some.1 h
          rw [plain_take hp1.1, putRefs_nil _ (plain_refs hp1.1)] at h
          cases ho : putOuts P tb dst s sp.outs y.outs with
          | none => simp [ho] at h
          | some s2 =>
            simp only [ho, Option.some.injEq] at h
            obtain ⟨F, d, v, h1, h2, h3, h4⟩ := putOuts_do ho
            refine ⟨F, d, v, h1, by rw [← h]; exact h2, h3, fun s1 k => ?_⟩
            rw [plain_ext (s := s1) (s1 := s) hp1.1, hx]
            simp only [cond_true, hy, obnd_some]
            rw [plain_take hp1.1, putRefs_nil _ (plain_refs hp1.1), h4 s1 k]
end Go.Ev
