/- Every operation's effect; two that do not touch one another change places. -/
import Derived.Test.YtmlbknmjgahcfaaDoorEvR4
namespace Go.Ev
open Go

variable {P : Program} {tb : Tab} {R : Type} {Γ : List (Nat × FSpec tb)} {s s' s1 : St tb.T}

theorem partAt_mem2 {i : Nat} {x : Operand} : ∀ {ps : List (Nat × Operand)}, partAt i ps = some x → x ∈ ps.map (·.2)
  | [], h => by simp [partAt] at h
  | (j, y) :: ps, h => by
    simp only [partAt] at h
    cases hb : Nat.beq i j with
    | true => simp only [hb, cond_true, Option.some.injEq] at h; subst h; simp
    | false => simp only [hb, cond_false] at h; simp only [List.map_cons, List.mem_cons]; exact .inr (partAt_mem2 h)
theorem elCells_congr {e : Nat} {ρ ρ' : Operand → Option (SV tb.T)} {ps : List (Nat × Operand)} (h : ∀ x ∈ ps.map (·.2), ρ x = ρ' x) (i : Nat) : elCells P e ρ ps i = elCells P e ρ' ps i := by
  unfold elCells
  cases hp : partAt i ps with
  | none => rfl
  | some x => simp only; rw [h x (partAt_mem2 hp)]
theorem buildEls_congr {e : Nat} {ρ ρ' : Operand → Option (SV tb.T)} {ps : List (Nat × Operand)} (h : ∀ x ∈ ps.map (·.2), ρ x = ρ' x) : ∀ (n i : Nat), buildEls P tb e ρ ps n i = buildEls P tb e ρ' ps n i
  | 0, _ => rfl
  | n + 1, i => by
    simp only [buildEls]
    rw [elCells_congr h, buildEls_congr h n (i + 1)]

theorem evConvert_eq (dst : Option Tmp) (src t : Nat) (x : Operand) (ty : Nat) (pos : String) (aft : Array Edge) (gd : Option (Nat × Bool)) (s1 : St tb.T) : evOp P tb Γ ⟨dst, .convert src t x, ty, pos, aft, gd⟩ s1 some = match P.underlying src, P.underlying t, s1.val x, dst with
    | some .string, some (.slice e), some (.c (.d (.str l))), some d => match P.underlying e with
      | some (.int .u8) => if h : e = tb.b8 then (bif Nat.beq (P.cellsOf e) 1 then newOwn tb s1 d e (cast (by rw [h, tb.hb]) l) some else none) else none
      | some (.int .i32) => if h : tb.r4 = some e then (bif Nat.beq (P.cellsOf e) 1 then obnd (runes l) fun rs => newOwn tb s1 d e (cast (by rw [tb.hr e h]) rs) some else none) else none
      | _ => none
    | _, _, _, _ => evP P tb (.convert src t x) s1.val fun v => some (s1.putO dst v) := rfl

theorem does_bytes {dst : Option Tmp} {src t : Nat} {x : Operand} {ty : Nat} {pos : String} {aft : Array Edge} {gd : Option (Nat × Bool)} (he : evOp P tb Γ ⟨dst, .convert src t x, ty, pos, aft, gd⟩ s some = some s') :
    ∃ e, Does P tb Γ ⟨dst, .convert src t x, ty, pos, aft, gd⟩ s (footOf Γ (.convert src t x) s) s' e := by
  have hev := evConvert_eq (P := P) (tb := tb) (Γ := Γ) dst src t x ty pos aft gd
  have hop : ∀ s1 : St tb.T, (∀ y ∈ (Op.convert src t x).operands.toList, s1.val y = s.val y) → s1.val x = s.val x := fun s1 h => h x (by simp [Op.operands])
  by_cases hc : ∃ e l d, P.underlying src = some .string ∧ P.underlying t = some (.slice e) ∧ s.val x = some (.c (.d (.str l))) ∧ dst = some d
  · obtain ⟨e, l, d, h1, h2, h3, h4⟩ := hc
    have he' := he
    rw [hev, h1, h2, h3, h4] at he
    simp only at he
    split at he
    · rename_i hu
      by_cases hb : e = tb.b8
      · simp only [hb, dite_true] at he
        cases hk : Nat.beq (P.cellsOf tb.b8) 1 with
        | false => simp [hk] at he
        | true =>
          subst hb
          refine does_newOwn (e := tb.b8) (xs := cast (by rw [tb.hb]) l) (d := d) h4 (fun _ => rfl) (fun s1 hs1 => ?_) he'
          rw [hev, h1, h2, hop s1 hs1, h3, h4]
          simp [hu, hk]
      · simp [hb] at he
    · rename_i hu
      by_cases hb : tb.r4 = some e
      · simp only [hb, dite_true] at he
        cases hk : Nat.beq (P.cellsOf e) 1 with
        | false => simp [hk] at he
        | true =>
          cases hr : runes l with
          | none => simp [hk, hr] at he
          | some rs =>
            refine does_newOwn (e := e) (xs := cast (by rw [tb.hr e hb]) rs) (d := d) h4 (fun _ => rfl) (fun s1 hs1 => ?_) he'
            rw [hev, h1, h2, hop s1 hs1, h3, h4]
            simp [hu, hk, hb, hr]
      · simp [hb] at he
    · cases he
  · have hev2 : ∀ s1 : St tb.T, s1.val x = s.val x → evOp P tb Γ ⟨dst, .convert src t x, ty, pos, aft, gd⟩ s1 some = evP P tb (.convert src t x) s1.val fun v => some (s1.putO dst v) := fun s1 h1 => by
      rw [hev]
      split
      · rename_i e l d k1 k2 k3
        exact absurd ⟨e, l, d, k1, k2, by rw [← h1]; exact k3, rfl⟩ hc
      · rfl
    rw [hev2 s rfl, evP_k] at he
    obtain ⟨v, hv, he⟩ := obnd_eq_some.1 he
    simp only [Option.some.injEq] at he
    refine ⟨{ d := dst, v := v }, by rw [← he, apply_putO], by simp, by simp, by simp, .inr rfl, fun i hi => hi.elim, fun s1 h1 _ _ _ => ⟨?_, rfl⟩⟩
    rw [hev2 s1 (hop s1 h1), evP_k, evP_congr _ h1, hv]
    simp only [obnd_some, apply_putO]

theorem evOp_does {o : Oper} (he : evOp P tb Γ o s some = some s') (hx : footOf Γ o.op s ≠ .x) : ∃ e, Does P tb Γ o s (footOf Γ o.op s) s' e := by
  obtain ⟨dst, op, ty, pos, aft, gd⟩ := o
  cases op
  case alloc e =>
    have he' := he
    simp only [evOp] at he
    cases dst with
    | none => simp at he
    | some d =>
      simp only at he
      cases hz : (zeroOf P e : Option (List (AC tb.T))) with
      | none => simp [hz] at he
      | some z => exact does_newVar (d := d) (z := z) rfl (fun _ => rfl) (fun s1 _ => by simp only [evOp, hz]) he'
  case box t x =>
    have he' := he
    simp only [evOp] at he
    cases dst with
    | none => simp at he
    | some d =>
      simp only at he
      cases hv : s.val x with
      | none => simp [hv] at he
      | some v =>
        cases hc : v.cells with
        | none => simp [hv, hc] at he
        | some as => exact does_newVar (d := d) (z := as) rfl (fun _ => rfl) (fun s1 h1 => by
            have := h1 x (by simp [Op.operands])
            simp only [evOp, this, hv, hc]) he'
  case load t a => exact does_load rfl he hx
  case store t a x => exact does_store rfl he
  case buildSlice t n parts =>
    have he' := he
    simp only [evOp] at he
    cases dst with
    | none => simp at he
    | some d =>
      simp only at he
      cases hel : elemOf P t with
      | none => simp [hel] at he
      | some e =>
        simp only [hel] at he
        cases hk : (nodupB (parts.toList.map (·.1)) && parts.toList.all (fun p => Nat.blt p.1 n) && Nat.ble (n * P.cellsOf e) 16777216 && Nat.blt 0 (P.cellsOf e) && hasZero P e) with
        | false => simp only [hk, cond_false, reduceCtorEq] at he
        | true =>
          simp only [hk, cond_true] at he
          cases hb : buildEls P tb e s.val parts.toList n 0 with
          | none => simp [hb] at he
          | some xs => exact does_newOwn (d := d) (e := e) (xs := xs) rfl (fun _ => rfl) (fun s1 h1 => by
              have : buildEls P tb e s1.val parts.toList n 0 = some xs := by
                rw [← hb]; exact buildEls_congr (fun x hx => h1 x (by simpa [Op.operands] using hx)) n 0
              simp only [evOp, hel, hk, cond_true, this]) he'
  case makeSlice t l c =>
    have he' := he
    simp only [evOp] at he
    cases dst with
    | none => simp at he
    | some d =>
      simp only at he
      cases hel : elemOf P t with
      | none => simp [hel] at he
      | some e =>
        simp only [hel] at he
        cases hz : (zeroOf P e : Option (List (AC tb.T))) with
        | none => simp [hz] at he
        | some z =>
          simp only [hz] at he
          cases hcs : cvs z with
          | none => simp [hcs] at he
          | some cs =>
            simp only [hcs] at he
            cases hk : (sized P e && Nat.beq cs.length (P.cellsOf e)) with
            | false => simp only [hk, cond_false, reduceCtorEq] at he
            | true =>
              simp only [hk, cond_true] at he
              cases hd : tb.dec e cs with
              | none => simp [hd] at he
              | some x =>
                simp only [hd] at he
                split at he
                · rename_i li ci k1 k2
                  cases hm : mkList (P.bytesOf e) x li ci with
                  | none => simp [hm] at he
                  | some xs => exact does_newOwn (d := d) (e := e) (xs := xs) rfl (fun _ => rfl) (fun s1 h1 => by
                      have e1 := h1 l (by simp [Op.operands])
                      have e2 := h1 c (by simp [Op.operands])
                      simp only [evOp, hel, hz, hcs, hk, cond_true, hd, e1, e2, k1, k2, hm, obnd_some]) he'
                · cases he
  case convert src t x => exact does_bytes he
  case range xt x =>
    simp only [evOp] at he
    cases dst with
    | none => simp at he
    | some d =>
      simp only at he
      split at he
      · rename_i l k1 k2
        cases hu : s.used d with
        | true => simp [hu] at he
        | false =>
          simp only [hu, cond_false, Option.some.injEq] at he
          refine ⟨{ d := some d, v := .c (.ptr d 0), F := upd (fun _ => false) d true, it := upd (fun _ => none) d (some (l, 0)) }, ?_, fun i hi => by rw [upd_true hi]; exact hu, by simp, fun i hi => by rw [upd_ne_none hi]; show upd (fun _ => false) d true d = true; exact upd_same _ _ _, .inr rfl, fun i hi => hi.elim, fun s1 h1 _ _ h4 => ⟨?_, rfl⟩⟩
          · rw [← he, Eff.apply, upd_or s.itr, upd_bor s.used]; simp
          · have e1 := h1 x (by simp [Op.operands])
            have e2 := h4 d (by show upd (fun _ => false) d true d = true; exact upd_same _ _ _)
            simp only [evOp, k1, e1, k2, e2, cond_false]
            rw [Eff.apply, upd_or s1.itr, upd_bor s1.used]; simp
      · cases he
  case next it str => exact absurd rfl hx
  case call c =>
    obtain ⟨callee, args, tys⟩ := c
    cases callee with
    | builtin b =>
      cases b
      case append => exact absurd rfl hx
      all_goals exact does_P (fun _ => rfl) (fun _ => rfl) (fun _ h => h) he
    | invoke r m => exact does_P (fun _ => rfl) (fun _ => rfl) (fun _ h => h) he
    | value f =>
      cases f
      case func f =>
        have hp : plainFn Γ f = true := by
          cases hp : plainFn Γ f with
          | true => rfl
          | false => exact absurd (show (bif plainFn Γ f then Foot.n else Foot.x) = .x by rw [hp]; rfl) hx
        simp only [evOp, St.val] at he
        cases hv : vals s.val args.toList with
        | none => simp [hv] at he
        | some vs =>
          have hv' := hv
          simp only [hv, List.map_nil, List.append_nil] at he
          obtain ⟨F, d, v, h1, h2, h3, h4⟩ := evCall_do hp he
          refine ⟨outEff F d v, h2, h3, by simp [outEff], by simp [outEff], h1, fun i hi => ?_, fun s1 k1 _ _ k4 => ⟨?_, rfl⟩⟩
          · have hi' : Foot.mem (bif plainFn Γ f then Foot.n else Foot.x) i := hi
            rw [hp] at hi'; exact hi'.elim
          · have : vals s1.val args.toList = some vs := by
              rw [← hv']; exact vals_congr fun x hx => k1 x (by simp only [Op.operands, Call.operands, Array.toList_append, List.mem_append]; exact .inr hx)
            simp only [evOp, this]
            simp only [St.val, List.map_nil, List.append_nil]
            exact h4 s1 k4
      all_goals exact absurd rfl hx
  all_goals first
    | exact does_P (fun _ => rfl) (fun _ => rfl) (fun _ h => h) he
end Go.Ev
