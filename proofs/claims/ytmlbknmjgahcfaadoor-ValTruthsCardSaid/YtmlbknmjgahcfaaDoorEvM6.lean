/- Calls; every operation is told right. -/
import Derived.Test.YtmlbknmjgahcfaaDoorEvM5
namespace Go.Ev
open Go

variable {P : Program} {tb : Tab} {N : Nat} {W : Nat → Prop} {a0 : Act} {g0 : Gh} {w0 : World} {D0 : Nat → Prop}
variable {s s' : St tb.T} {g g' : Gh} {μ μ' : Nat → Nat} {τ τ' : Nat → Option Nat} {a : Act} {w w' : World}
variable {K : Act → World → Prop} {Q : Exit → Act → World → Prop}

theorem go_append (h : SimAt P tb N W a0 g0 w0 D0 s g μ τ a w) {o : Oper} {st xt : Nat} {args : Array Operand} {sv xv : SV tb.T} (ho : o.op = .call { callee := .builtin .append, args := args, argTypes := #[st, xt] }) (hd : ∀ d, o.dst = some d → d < N ∧ W d)
    (hv : vals s.val args.toList = some [sv, xv]) (he : evAppend P tb o.dst st xt sv xv s some = some s') : o.wp P a w (Goes P tb N W a0 g0 w0 D0 s') Q := by
  unfold evAppend at he
  cases hdst : o.dst with
  | none => simp [hdst] at he
  | some d =>
    simp only [hdst] at he
    cases hel : elemOf P st with
    | none => simp [hel] at he
    | some e =>
      simp only [hel] at he
      obtain ⟨r1, r2⟩ := vals_sound (val_sound h) hv
      obtain ⟨us, hargs, ru, rx⟩ : ∃ us : Value × Value, args.map a.eval = #[us.1, us.2] ∧ RepV P tb g w μ τ s.tok sv us.1 ∧ RepV P tb g w μ τ s.tok xv us.2 := by
        match hm : args.toList.map a.eval, r1 with
        | [u, x], ⟨q1, q2, _⟩ => exact ⟨(u, x), by apply Array.ext'; simpa using hm, q1, q2⟩
      obtain ⟨uv, xvv⟩ := us
      simp only at hargs ru rx
      -- what is appended
      split at he
      · cases he
      · rename_i ys hys
        have hsrc : ((∃ e2, P.underlying xt = some (.slice e2)) ∨ P.underlying xt = some .string) ∧ ∃ zs, Src P tb g w e ys xvv zs := by
          split at hys
          · rename_i e2 ac hx
            exact ⟨.inl ⟨e2, hx⟩, src_slice (sliceOf_sound hys rx)⟩
          · rename_i l hx
            have rx' : RepD P tb g w (.str l) xvv := rx
            cases rx'
            by_cases hb : e = tb.b8
            · simp only [hb, dite_true] at hys
              cases hc : Nat.beq (P.cellsOf tb.b8) 1 with
              | false => simp [hc] at hys
              | true =>
                simp only [hc, cond_true, Option.some.injEq] at hys
                have hsz := Nat.eq_of_beq_eq_true hc
                refine ⟨.inr hx, ?_⟩
                subst hb
                rw [← hys]
                exact src_str rfl tb.hb _ hsz l
            · simp [hb] at hys
          · cases hys
        obtain ⟨hxt, zs, hsrc⟩ := hsrc
        cases hk : (sized P e && hasZero P e && Nat.blt 0 (P.bytesOf e)) with
        | false => simp [hk] at he
        | true =>
          simp only [hk, Bool.not_true, cond_false] at he
          simp only [Bool.and_eq_true] at hk
          obtain ⟨⟨hs, hz⟩, hby⟩ := hk
          have hby : 0 < P.bytesOf e := Nat.le_of_ble_eq_true hby
          split at he
          · -- a nil slice
            obtain ⟨all, hall, he2⟩ := obnd_eq_some.1 he
            clear he
            obtain ⟨hlim, hal⟩ := app_some hall
            clear hall
            subst hal
            unfold newOwn at he2
            cases hus : s.used d with
            | true => simp [hus] at he2
            | false =>
              simp only [hus, cond_false, Option.some.injEq] at he2; subst he2
              have ru' : RepD P tb g w .nil uv := ru
              cases ru'
              exact go_append_own h ho hdst (hd d hdst) (elemOf_some hel) hxt hs hz hby (ids := []) (xs := []) (b? := none) hargs (.slnil e) (.inl ⟨rfl, rfl, rfl⟩) hsrc hlim hus (by simp)
          · rename_i e' xs t
            by_cases hee : e' = e
            · subst hee
              simp only [dite_true] at he
              cases ht : s.tok t with
              | false => simp [ht] at he
              | true =>
                simp only [ht, cond_true] at he
                obtain ⟨all, hall, he2⟩ := obnd_eq_some.1 he
                clear he
                obtain ⟨hlim, hal⟩ := app_some hall
                clear hall
                subst hal
                unfold newOwn at he2
                cases hus : s.used d with
                | true => simp [St.drop, hus] at he2
                | false =>
                  have hus' : (s.drop [t]).used d = false := hus
                  simp only [hus', cond_false, Option.some.injEq] at he2; subst he2
                  obtain ⟨q1, q2⟩ := ru
                  refine go_append_own h ho hdst (hd d hdst) (elemOf_some hel) hxt hs hz hby (ids := [t]) (b? := τ t) hargs q1 (q2 ht) hsrc hlim hus (fun b hb => ⟨((h.tokv t ht).2 b hb).2.2, fun t' ht' hm e => ?_⟩)
                  have := h.tinj t' t b ht' ht e hb
                  subst this
                  simp [memB] at hm
            · simp [hee] at he
          · cases he

theorem refsOf_length_blk {get : Nat → Option (SV tb.T)} : ∀ {l : LSpec} {bs : List (Option Nat)}, BlkL s μ τ get l bs → l.length = bs.length
  | [], [], _ => rfl
  | _ :: l, _ :: bs, ⟨_, h⟩ => by simp [refsOf_length_blk h]
  | [], _ :: _, h => h.elim
  | _ :: _, [], h => h.elim

/-- what a contract leaves, the evaluator goes on with -/
theorem after_left (h : SimAt P tb N W a0 g0 w0 D0 s g μ τ a w) {get : Nat → Option (SV tb.T)} {ins outs : LSpec} {vs : List Value} {bs : List (Option Nat)} {y : Ret tb outs (refsOf ins)} {us : List Value} {cs : List (Option Nat)}
    (hb : BlkL s μ τ get ins bs) (hn : (blocksOf bs).Nodup) (hl : Left P tb g w ins outs vs bs y us cs g' w') :
    SimAt P tb N W a0 g0 w0 D0 (putRefs tb (s.take get ins) get (refsOf ins) y.refs) g' μ τ a w' ∧ (∀ k ∈ blocksOf cs, NewBlk P tb w0 D0 (putRefs tb (s.take get ins) get (refsOf ins) y.refs) τ k) := by
  obtain ⟨l1, l2, l3, l4, l5⟩ := hl
  obtain ⟨t1, t2, t3⟩ := h.take hb l1
  have hsub : (blocksOf (atRefs ins bs)).Sublist (blocksOf bs) := (atRefs_sub (l := ins) (bs := bs)).filterMap _
  have hdis : ∀ j, isLive (s.take get ins) j → μ j ∉ blocksOf (atRefs ins bs) := fun j hj hm => by
    obtain ⟨k1, k2⟩ := t3 j hj
    obtain ⟨i, hi, hi'⟩ := blk_id (atRefs_blk hb) _ hm
    have := blk_inj h (.inr ⟨k1, rfl⟩) hi'
    exact k2 (this ▸ hi)
  obtain ⟨p1, p2, p3, p4, p5, p6⟩ := putRefs_sim t1 (refsOf_isRef (l := ins)) (so := s) (atRefs_blk hb) l3 (hn.sublist hsub) (fun i hi hr => by
    obtain ⟨q1, q2, q3, q4⟩ := h.live i hi
    exact ⟨q1, hr, q4.resolve_left (by rw [hr]; simp)⟩) hdis
  refine ⟨p1, fun k hk => ?_⟩
  obtain ⟨m1, m2⟩ := l5 k hk
  refine ⟨?_, fun t ht e => ?_⟩
  · rcases m1 with c | c
    · exact .inl (Nat.le_trans h.ext.size c)
    · rcases (touched_id hb k c).2 with ⟨j, _, hj1, hj2⟩ | ⟨j, _, hj1, hj2, hj3⟩
      · exact ((h.tokv j hj1).2 k hj2).2.2
      · have := (h.live j hj1).2.2.2
        rw [hj2, hj3] at this
        exact this.resolve_left (by simp)
  · rw [p3] at ht
    obtain ⟨q1, q2⟩ := t2 t k ht e
    rcases m1 with c | c
    · omega
    · exact q1 (touched_id hb k c).1

theorem extS_length {_get : Nat → Option (SV tb.T)} {l : LSpec} {n : Nat} (h : Nat.beq l.length n = true) : l.length = n := Nat.eq_of_beq_eq_true h

theorem go_call (h : SimAt P tb N W a0 g0 w0 D0 s g μ τ a w) {o : Oper} {fid : Nat} {vs : List (SV tb.T)} {us : List Value} (hexec : (execOp a.eval o).run P w = (callFunc fid us.toArray).run P w) (hd : ∀ d, o.dst = some d → d < N ∧ W d)
    (hr : All2 (RepV P tb g w μ τ s.tok) vs us) : ∀ {Γ : List (Nat × FSpec tb)}, (∀ p ∈ Γ, FnKeeps P tb p.1 p.2) → (∀ p ∈ Γ, p.2.ins.map (·.1) = List.range p.2.ins.length) →
    evCall P tb fid vs o.dst s some Γ = some s' → o.wp P a w (Goes P tb N W a0 g0 w0 D0 s') Q
  | [], _, _, he => by simp [evCall] at he
  | (f, sp) :: Γ, hΓ, hsl, he => by
    simp only [evCall] at he
    cases hf : Nat.beq f fid with
    | false =>
      simp only [hf, cond_false] at he
      exact go_call h hexec hd hr (fun p hp => hΓ p (by simp [hp])) (fun p hp => hsl p (by simp [hp])) he
    | true =>
      simp only [hf, cond_true] at he
      have hfe := Nat.eq_of_beq_eq_true hf
      cases hx : extS P tb s (fun i => vs[i]?) sp.ins with
      | none =>
        simp only [hx] at he
        exact go_call h hexec hd hr (fun p hp => hΓ p (by simp [hp])) (fun p hp => hsl p (by simp [hp])) he
      | some x =>
        simp only [hx] at he
        cases hk : (nodupB (idsS (fun i => vs[i]?) sp.ins) && Nat.beq sp.ins.length vs.length) with
        | false => simp [hk] at he
        | true =>
          simp only [hk, cond_true] at he
          simp only [Bool.and_eq_true] at hk
          obtain ⟨hk1, hk2⟩ := hk
          have hk1 := nodupB_iff.1 hk1
          have hk2 := Nat.eq_of_beq_eq_true hk2
          obtain ⟨y, hy, he⟩ := obnd_eq_some.1 he
          cases hp : putOuts P tb o.dst (putRefs tb (s.take (fun i => vs[i]?) sp.ins) (fun i => vs[i]?) (refsOf sp.ins) y.refs) sp.outs y.outs with
          | none => simp [hp] at he
          | some s2 =>
            simp only [hp, Option.some.injEq] at he; subst he
            have hct := hΓ (f, sp) (by simp)
            simp only at hct
            have hslots := hsl (f, sp) (by simp)
            simp only at hslots
            have hul := hr.length
            -- the values, by slots
            obtain ⟨bs, hh, hbl⟩ := ext_all h (val := fun i => us.getD i undef) hx (fun q hq v hv => by
              obtain ⟨u, hu, hru⟩ := hr.get hv
              simpa [hu] using hru)
            have hmap : (sp.ins.map fun q => us.getD q.1 undef) = us := by
              have : (sp.ins.map fun q => us.getD q.1 undef) = (sp.ins.map (·.1)).map fun i => us.getD i undef := by rw [List.map_map]; rfl
              rw [this, hslots, hk2, hul]
              apply List.ext_getElem?
              intro i
              rcases Nat.lt_or_ge i us.length with c | c
              · simp [c]
              · simp [c]
            rw [hmap] at hh
            have hn := blk_nodup h hbl hk1
            rcases hct g w x us bs y hy (tb.invk h.ext h.inv0) hh hn with ⟨hent, hcall⟩ | ⟨v, w', hval, v', us', cs, g', hve, hv, hleft⟩
            · unfold Oper.wp
              rw [hexec, ← hfe, hent]
              refine Calls.mono hcall ?_
              rintro e w' ⟨v, us', cs, g', rfl, hv, hleft⟩
              obtain ⟨k1, k2⟩ := after_left h hbl hn hleft
              obtain ⟨τ', k3⟩ := putOuts_sim (dst := o.dst) k1 hleft.2.1 hleft.2.2.2.1 k2 hv hd hp
              exact k3.sim
            · injection hve with hve
              subst hve
              refine wp_value (by rw [hexec, ← hfe]; exact hval) ?_
              obtain ⟨k1, k2⟩ := after_left h hbl hn hleft
              obtain ⟨τ', k3⟩ := putOuts_sim (dst := o.dst) k1 hleft.2.1 hleft.2.2.2.1 k2 hv hd hp
              exact k3.sim

theorem evP_call_none {tb : Tab} {c : Call} {ρ : Operand → Option (SV tb.T)} {κ : SV tb.T → Option (St tb.T)} {f : Operand} (hc : c.callee = .value f) : evP P tb (.call c) ρ κ = none := by
  obtain ⟨callee, args, tys⟩ := c
  simp only at hc; subst hc
  rfl

/-- **every operation** -/
theorem evOp_sound {Γ : List (Nat × FSpec tb)} (hΓ : ∀ p ∈ Γ, FnKeeps P tb p.1 p.2) (hsl : ∀ p ∈ Γ, p.2.ins.map (·.1) = List.range p.2.ins.length) (h : SimAt P tb N W a0 g0 w0 D0 s g μ τ a w) (o : Oper) (hd : ∀ d, o.dst = some d → d < N ∧ W d)
    (he : evOp P tb Γ o s some = some s') : o.wp P a w (Goes P tb N W a0 g0 w0 D0 s') Q := by
  have he' := he
  unfold evOp at he
  split at he
  · -- alloc
    rename_i e ho
    cases hdst : o.dst with
    | none => simp [hdst] at he
    | some d =>
      cases hz : zeroOf (T := tb.T) P e with
      | none => simp [hdst, hz] at he
      | some z =>
        simp only [hdst, hz] at he
        exact go_alloc h ho hdst (hd d hdst) hz he
  · -- box
    rename_i e x ho
    cases hdst : o.dst with
    | none => simp [hdst] at he
    | some d =>
      cases hv : s.val x with
      | none => simp [hdst, hv] at he
      | some v =>
        cases hc : v.cells with
        | none => simp [hdst, hv, hc] at he
        | some as =>
          simp only [hdst, hv, hc] at he
          exact go_box h ho hdst (hd d hdst) hv hc he
  · rename_i t x ho; exact go_load h ho hd he'
  · rename_i t x y ho; exact go_store h ho he'
  · rename_i t n parts ho; exact go_buildSlice h ho hd he'
  · rename_i t l c ho; exact go_makeSlice h ho hd he'
  · -- convert
    rename_i src dst x ho
    split at he
    · rename_i e l d hs hu hv hdst
      split at he
      · rename_i hue
        by_cases hb : e = tb.b8
        · simp only [hb, dite_true] at he
          cases hc : Nat.beq (P.cellsOf tb.b8) 1 with
          | false => simp [hc] at he
          | true =>
            simp only [hc, cond_true] at he
            subst hb
            exact go_bytes h ho hdst (hd d hdst) hs hu hue hv rfl (Nat.eq_of_beq_eq_true hc) _ he
        · simp [hb] at he
      · rename_i hue
        by_cases hb : tb.r4 = some e
        · simp only [hb, dite_true] at he
          cases hc : Nat.beq (P.cellsOf e) 1 with
          | false => simp [hc] at he
          | true =>
            simp only [hc, cond_true] at he
            obtain ⟨rs, hrs, he⟩ := obnd_eq_some.1 he
            exact go_runes h ho hdst (hd d hdst) hs hu hue hv hb (Nat.eq_of_beq_eq_true hc) hrs _ he
        · simp [hb] at he
      · cases he
    · exact go_P h hd (by rw [ho]; rw [ho] at he; exact he)
  · rename_i t x ho; exact go_range h ho hd he'
  · rename_i x str ho; exact go_next h ho hd he'
  · -- append
    rename_i args argTypes ho
    split at he
    · rename_i sv xv st xt hv ht
      have : argTypes = #[st, xt] := by apply Array.ext'; simpa using ht
      subst this
      exact go_append h ho hd hv he
    · cases he
  · -- a function
    rename_i f args argTypes ho
    split at he
    · rename_i fid caps hf
      split at he
      · rename_i vs hv
        obtain ⟨r1, r2⟩ := val_sound h f _ hf
        obtain ⟨q1, q2⟩ := vals_sound (val_sound h) hv
        have hfe : a.eval f = .func (.func fid) #[] (caps.map fun p => Value.pointer (some ⟨μ p.1, p.2, none⟩)).toArray := r1
        refine go_call (us := args.toList.map a.eval ++ caps.map fun p => Value.pointer (some ⟨μ p.1, p.2, none⟩)) h ?_ hd (q1.append ?_) hΓ hsl he
        · simp only [execOp, ho, resolve, hfe, Deferred.ofValue, Sem.run_bind, Sem.run_pure, Result.andThen_ok, invoke]
          congr 1
          congr 1
          apply Array.ext'
          simp
        · clear he hf r1 r2 hfe
          induction caps with
          | nil => trivial
          | cons p ps ih => exact ⟨rfl, ih⟩
      · cases he
    · cases he
  · exact go_P h hd he
end Go.Ev
