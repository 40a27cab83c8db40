/- **Code**: the evaluator tells what the machine does. -/
import Derived.Test.YtmlbknmjgahcfaaDoorEvC1
import Derived.Scope
namespace Go.Ev
open Go

variable {P : Program} {tb : Tab} {N : Nat} {W : Nat → Prop} {a0 : Act} {g0 : Gh} {w0 : World} {D0 : Nat → Prop}
variable {s s' s1 s2 : St tb.T} {g g' : Gh} {μ μ' : Nat → Nat} {τ τ' : Nat → Option Nat} {a a' : Act} {w w' : World}
variable {Γ : List (Nat × FSpec tb)} {Δ : List (CutSpec tb)} {R : Type}

def Ex.toExit : Ex → Exit
  | .normal => .normal
  | .exit id => .exit id
  | .goto l => .goto l
  | .ret => .ret

def dstsB (p : Nat → Bool) : Code → Bool
  | .region _ ops _ => ops.toList.all fun o => match o.dst with | some d => p d | none => true
  | .seq a b => dstsB p a && dstsB p b
  | .cond _ a b => dstsB p a && dstsB p b
  | .block _ b => dstsB p b
  | .loop b => dstsB p b
  | .scope b => dstsB p b
  | .rangeFunc .. => false
  | _ => true

def OutIs (rs : LSpec) (φ : Ex → (l : LSpec) → Ret tb l rs → Prop) : (outs : List (Ex × LSpec)) → Outs tb rs outs → Prop
  | [], y => nomatch y
  | [o], y => φ o.1 o.2 y
  | o :: _ :: _, .inl y => φ o.1 o.2 y
  | _ :: p :: l, .inr y => OutIs rs φ (p :: l) y

/-- what a cut leaves, by one way out -/
def CutLeft (P : Program) (tb : Tab) (N : Nat) (Wl : List Nat) (ins : LSpec) (g : Gh) (w : World) (a : Act) (vs : List Value) (bs : List (Option Nat)) (l : LSpec) (r : Ret tb l (refsOf ins)) (a' : Act) (w' : World) : Prop :=
  a'.tmps.size = N ∧ a'.defers = a.defers ∧ (∀ t, memB t Wl = false → a'.tmps[t]? = a.tmps[t]?) ∧ ∃ us cs g', InSlots a' l us ∧ Left P tb g w ins l vs bs r us cs g' w'

/-- a piece of code keeps its contract -/
def CutSound (P : Program) (tb : Tab) (N : Nat) (c : Code) (cut : CutSpec tb) : Prop :=
  ∀ (g : Gh) (w : World) (a : Act) (x : XS tb cut.ins) (vs : List Value) (bs : List (Option Nat)) (y : Outs tb (refsOf cut.ins) cut.outs), cut.J x = some y → tb.inv g w → a.tmps.size = N → InSlots a cut.ins vs → HoldsL P tb g w cut.ins x vs bs → (blocksOf bs).Nodup →
    c.wp P (fun ex a' w' => OutIs (refsOf cut.ins) (fun e l r => ex = e.toExit ∧ CutLeft P tb N cut.W cut.ins g w a vs bs l r a' w') cut.outs y) a w

theorem SimAt.reframe (h : SimAt P tb N W a0 g0 w0 D0 s g μ τ a w) (hs : a'.tmps.size = N) (hd : a'.defers = a.defers) (hf : ∀ t, ¬ W t → a'.tmps[t]? = a.tmps[t]?) (he : ∀ t v, s.env t = some v → a'.tmps[t]? = a.tmps[t]?) :
    SimAt P tb N W a0 g0 w0 D0 s g μ τ a' w :=
  ⟨h.ext, hs, hd.trans h.defers, fun t ht => (hf t ht).trans (h.frame t ht), fun t v hv => by rw [he t v hv]; exact h.env t v hv, h.blk, h.itr, h.live, h.inj, h.tokv, h.tinj, h.excl, h.rou, h.uenv, h.ublk, h.inv0⟩

theorem SimAt.see (h : SimAt P tb N W a0 g0 w0 D0 s g μ τ a w) {t : Nat} {v : SV tb.T} {u : Value} (hu : a.tmps[t]? = some u) (hr : RepV P tb g w μ τ s.tok v u) (hi : ∀ i ∈ v.ids, s.used i = true) :
    SimAt P tb N W a0 g0 w0 D0 (s.put t v) g μ τ a w := by
  refine ⟨h.ext, h.size, h.defers, h.frame, ?_, h.blk, h.itr, h.live, h.inj, h.tokv, h.tinj, h.excl, h.rou, ?_, h.ublk, h.inv0⟩
  · intro t' v' hv
    simp only [St.put, upd_eq] at hv
    by_cases e : t' = t
    · subst e; simp at hv; subst hv; exact ⟨u, hu, hr⟩
    · simp only [e, if_false] at hv; exact h.env t' v' hv
  · intro t' v' hv
    simp only [St.put, upd_eq] at hv ⊢
    by_cases e : t' = t
    · subst e; simp at hv; subst hv; exact hi
    · simp only [e, if_false] at hv; exact h.uenv t' v' hv

theorem putRefs_env {get : Nat → Option (SV tb.T)} : ∀ {rs : LSpec} {x : XS tb rs} {s : St tb.T}, (putRefs tb s get rs x).env = s.env := by
  have one : ∀ (s : St tb.T) (q : Nat × Pat) (x : X tb q.2), (putRefs.one tb get s q x).env = s.env := fun s q x => by
    unfold putRefs.one
    split
    · split <;> rfl
    · rfl
  intro rs
  induction rs with
  | nil => intro x s; rfl
  | cons q rs ih =>
    intro x s
    cases rs with
    | nil => exact one s q x
    | cons q' rs =>
      obtain ⟨x, xs⟩ := x
      exact (ih (x := xs) (s := putRefs.one tb get s q x)).trans (one s q x)

theorem cutOne_sim {key : Nat} {q : Nat × Pat} {x : X tb q.2} {v : Value} {b : Option Nat} (h : SimAt P tb N W a0 g0 w0 D0 s g μ τ a w) (hp : HoldsP P tb g w q.2 x v b) (hv : a.tmps[q.1]? = some v)
    (hb : ∀ k, b = some k → NewBlk P tb w0 D0 s τ k) (ho : cutOne P tb key s q x = some s') :
    ∃ τ', SimAt P tb N W a0 g0 w0 D0 s' g μ τ' a w ∧ ∀ bs, (∀ k, b = some k → k ∉ blocksOf bs) → (∀ k ∈ blocksOf bs, NewBlk P tb w0 D0 s τ k) → ∀ k ∈ blocksOf bs, NewBlk P tb w0 D0 s' τ' k := by
  obtain ⟨t, p⟩ := q
  cases p with
  | val e =>
    obtain ⟨hp, rfl⟩ := hp
    have ho : some (s.put t (valSV P e (tb.enc e x))) = some s' := ho
    simp only [Option.some.injEq] at ho; subst ho
    obtain ⟨k1, k2⟩ := valSV_sound (μ := μ) (τ := τ) (tok := s.tok) hp
    exact ⟨τ, h.see hv k1 (by rw [k2]; simp), fun bs _ hk => hk⟩
  | own e =>
    have ho : (bif s.used (t + 65536 * (key + 1)) then none else some { s with env := upd s.env t (some (.c (.own e x (t + 65536 * (key + 1))))), tok := upd s.tok (t + 65536 * (key + 1)) true, used := upd s.used (t + 65536 * (key + 1)) true }) = some s' := ho
    cases hu : s.used (t + 65536 * (key + 1)) with
    | true => simp [hu] at ho
    | false =>
      simp only [hu, cond_false, Option.some.injEq] at ho; subst ho
      obtain ⟨k1, k2⟩ := h.tok1 hu hp hb
      refine ⟨_, k1.see hv (v := .c (.own e x (t + 65536 * (key + 1)))) k2 (by simp [SV.ids, AC.ids, upd_same]), fun bs hn hk k hkb => ⟨(hk k hkb).1, fun t' ht he => ?_⟩⟩
      have ht : upd s.tok (t + 65536 * (key + 1)) true t' = true := ht
      by_cases e' : t' = t + 65536 * (key + 1)
      · subst e'; rw [upd_same] at he; exact hn k he hkb
      · rw [upd_other _ _ e'] at ht he; exact (hk k hkb).2 t' ht he
  | ref e => cases ho
  | ro e => cases ho
  | iter => cases ho

theorem cutOuts_sim {key : Nat} : ∀ {l : LSpec} {x : XS tb l} {us : List Value} {bs : List (Option Nat)} {s s' : St tb.T} {τ : Nat → Option Nat},
    SimAt P tb N W a0 g0 w0 D0 s g μ τ a w → HoldsL P tb g w l x us bs → InSlots a l us → (blocksOf bs).Nodup → (∀ k ∈ blocksOf bs, NewBlk P tb w0 D0 s τ k) → cutOuts P tb key s l x = some s' →
    ∃ τ', SimAt P tb N W a0 g0 w0 D0 s' g μ τ' a w
  | [], x, us, bs, s, s', τ, h, _, _, _, _, ho => by
    simp only [cutOuts, Option.some.injEq] at ho; subst ho; exact ⟨τ, h⟩
  | [q], x, us, bs, s, s', τ, h, hl, hi, hn, hb, ho => by
    simp only [cutOuts] at ho
    match us, bs, hl with
    | [u], [b], hl =>
      obtain ⟨τ', k, _⟩ := cutOne_sim h hl hi.1 (fun k hk => hb k (mem_blocks_cons.2 (.inl hk))) ho
      exact ⟨τ', k⟩
  | q :: q' :: l, (x, xs), us, bs, s, s', τ, h, hl, hi, hn, hb, ho => by
    simp only [cutOuts] at ho
    cases hp : cutOne P tb key s q x with
    | none => simp [hp] at ho
    | some s1 =>
      simp only [hp] at ho
      match us, bs, hl with
      | u :: us, b :: bs, hl =>
        obtain ⟨n1, n2⟩ := nodup_blocks_cons hn
        obtain ⟨τ1, k1, k2⟩ := cutOne_sim h hl.1 hi.1 (fun k hk => hb k (mem_blocks_cons.2 (.inl hk))) hp
        exact cutOuts_sim k1 hl.2 hi.2 n1 (k2 bs n2 fun k hk => hb k (mem_blocks_cons.2 (.inr hk))) ho

theorem cutPost_pick {c : CutSpec tb} {κ : Ex → St tb.T → Option R} {r : R} {φ : Ex → (l : LSpec) → Ret tb l (refsOf c.ins) → Prop} : ∀ {outs : List (Ex × LSpec)} {y : Outs tb (refsOf c.ins) outs}, cutPost P tb c s κ outs y = some r → OutIs (refsOf c.ins) φ outs y →
    ∃ e l q, φ e l q ∧ cutPost.one P tb c s κ (e, l) q = some r
  | [], y, _, _ => nomatch y
  | [o], y, h, hy => ⟨o.1, o.2, y, hy, h⟩
  | o :: _ :: _, .inl y, h, hy => ⟨o.1, o.2, y, hy, h⟩
  | _ :: p :: l, .inr y, h, hy => cutPost_pick (outs := p :: l) (y := y) h hy

/-- **a cut** -/
theorem evCut_sound {c : Code} {cut : CutSpec tb} (hc : CutSound P tb N c cut) (hW : ∀ t, memB t cut.W = true → W t) (h : SimAt P tb N W a0 g0 w0 D0 s g μ τ a w) {ex : Ex}
    (he : evCut P tb cut s (fun ex s => some (ex, s)) = some (ex, s')) : c.wp P (fun e a w => e = ex.toExit ∧ Sim P tb N W a0 g0 w0 D0 s' a w) a w := by
  unfold evCut at he
  cases hx : extS P tb s s.env cut.ins with
  | none => simp [hx] at he
  | some x =>
    simp only [hx] at he
    cases hk : nodupB (idsS s.env cut.ins) with
    | false => simp [hk] at he
    | true =>
      simp only [hk, cond_true] at he
      obtain ⟨y, hy, he⟩ := obnd_eq_some.1 he
      have hget : ∀ q ∈ cut.ins, ∀ v, s.env q.1 = some v → RepV P tb g w μ τ s.tok v (a.tmps.getD q.1 undef) := fun q _ v hv => by
        obtain ⟨u, hu, hr⟩ := h.env q.1 v hv
        rw [Array.getD_eq_getD_getElem?, hu]; exact hr
      obtain ⟨bs, hh, hbl⟩ := ext_all h (val := fun t => a.tmps.getD t undef) hx hget
      have hslots : ∀ {l : LSpec} {bs : List (Option Nat)}, BlkL s μ τ s.env l bs → InSlots a l (l.map fun q => a.tmps.getD q.1 undef) := by
        intro l
        induction l with
        | nil => intro bs _; trivial
        | cons q l ih =>
          intro bs hb
          cases bs with
          | nil => exact hb.elim
          | cons b bs =>
            obtain ⟨⟨v, hv, _⟩, h2⟩ := hb
            obtain ⟨u, hu, _⟩ := h.env q.1 v hv
            exact ⟨by simp only [Array.getD_eq_getD_getElem?]; rw [hu]; rfl, ih h2⟩
      have hn := blk_nodup h hbl (nodupB_iff.1 hk)
      refine wp_mono (hc g w a x _ bs y hy (tb.invk h.ext h.inv0) h.size (hslots hbl) hh hn) ?_
      intro e a' w' hout
      obtain ⟨e1, l, r, ⟨hex, c1, c2, c3, us, cs, g', c4, c5⟩, hone⟩ := cutPost_pick he hout
      unfold cutPost.one at hone
      split at hone
      · rename_i s2 hs2
        simp only [Option.some.injEq, Prod.mk.injEq] at hone
        obtain ⟨rfl, rfl⟩ := hone
        refine ⟨hex, ?_⟩
        obtain ⟨k1, k2⟩ := after_left h hbl hn c5
        have k3 := k1.forget fun t => memB t cut.W
        rw [putRefs_env] at k3
        have k4 := k3.reframe c1 (c2.trans rfl) (fun t ht => c3 t (by
          cases hm : memB t cut.W with
          | false => rfl
          | true => exact absurd (hW t hm) ht)) (fun t v hv => c3 t (by
          cases hm : memB t cut.W with
          | false => rfl
          | true => simp [hm] at hv))
        obtain ⟨τ', k5⟩ := cutOuts_sim k4 c5.2.1 c4 c5.2.2.2.1 k2 hs2
        exact k5.sim
      · cases hone

/-! ## all code -/
theorem cutPost_k {c : CutSpec tb} {s : St tb.T} {κ : Ex → St tb.T → Option R} : ∀ {outs : List (Ex × LSpec)} {y : Outs tb (refsOf c.ins) outs}, cutPost P tb c s κ outs y = obnd (cutPost P tb c s (fun ex s => some (ex, s)) outs y) fun p => κ p.1 p.2
  | [], y => nomatch y
  | [o], y => by simp only [cutPost]; unfold cutPost.one; split <;> rfl
  | o :: _ :: _, .inl y => by simp only [cutPost, osum]; unfold cutPost.one; split <;> rfl
  | _ :: p :: l, .inr y => by simp only [cutPost, osum]; exact cutPost_k (outs := p :: l) (y := y)
theorem evCut_k {c : CutSpec tb} {s : St tb.T} {κ : Ex → St tb.T → Option R} : evCut P tb c s κ = obnd (evCut P tb c s (fun ex s => some (ex, s))) fun p => κ p.1 p.2 := by
  unfold evCut
  split
  · rw [obnd_cond]
    congr 1
    rw [obnd_obnd]
    exact obnd_congr _ fun y => cutPost_k
  · rfl

theorem evCode_k : ∀ (c : Code) (s : St tb.T) {R : Type} (κ : Ex → St tb.T → Option R), evCode P tb Γ Δ c s κ = obnd (evCode P tb Γ Δ c s (fun ex s => some (ex, s))) fun p => κ p.1 p.2 := by
  intro c
  induction c with
  | skip => intro s R κ; unfold evCode; split <;> first | exact evCut_k | rfl
  | label l => intro s R κ; unfold evCode; split <;> first | exact evCut_k | rfl
  | region id ops draw =>
    intro s R κ
    unfold evCode
    split
    · exact evCut_k
    · cases draw with
      | true =>
        simp only [cond_true]
        rw [obnd_cond]
        congr 1
        rw [evOpsD_k, evOpsD_k (κ := fun s => some (Ex.normal, s)), obnd_obnd]; rfl
      | false =>
        simp only [cond_false]
        rw [evOps_k, evOps_k (κ := fun s => some (Ex.normal, s)), obnd_obnd]; rfl
  | seq a b iha ihb =>
    intro s R κ
    unfold evCode
    split
    · exact evCut_k
    · simp only
      rw [iha]
      conv => rhs; arg 1; rw [iha]
      rw [obnd_obnd]
      refine obnd_congr _ fun p => ?_
      obtain ⟨ex, s1⟩ := p
      cases ex with
      | normal => exact ihb s1 κ
      | exit _ => rfl
      | goto _ => rfl
      | ret => rfl
  | cond x a b iha ihb =>
    intro s R κ
    unfold evCode
    split
    · exact evCut_k
    · simp only
      split
      · rw [obnd_brn]
        rw [← iha, ← ihb]
      · rfl
  | block id b ih =>
    intro s R κ
    unfold evCode
    split
    · exact evCut_k
    · simp only
      rw [ih]
      conv => rhs; arg 1; rw [ih]
      rw [obnd_obnd]
      refine obnd_congr _ fun p => ?_
      obtain ⟨ex, s1⟩ := p
      cases ex with
      | exit id' => simp only; rw [obnd_cond]; rfl
      | _ => rfl
  | scope b ih =>
    intro s R κ
    unfold evCode
    split
    · exact evCut_k
    · simp only
      rw [ih]
      conv => rhs; arg 1; rw [ih]
      rw [obnd_obnd]
      refine obnd_congr _ fun p => ?_
      obtain ⟨ex, s1⟩ := p
      cases ex <;> rfl
  | exit id => intro s R κ; unfold evCode; split <;> first | exact evCut_k | rfl
  | goto l => intro s R κ; unfold evCode; split <;> first | exact evCut_k | rfl
  | ret => intro s R κ; unfold evCode; split <;> first | exact evCut_k | rfl
  | loop b ih => intro s R κ; unfold evCode; split <;> first | exact evCut_k | rfl
  | rangeFunc f ps as b iha ihb => intro s R κ; unfold evCode; split <;> first | exact evCut_k | rfl
  | refuse why => intro s R κ; unfold evCode; split <;> first | exact evCut_k | rfl

/-- every cut in it keeps its contract -/
def CutsIn (Δ : List (CutSpec tb)) (S : Code → CutSpec tb → Prop) (c : Code) : Prop :=
  match findCut Δ (keyOf c) with
  | some cut => S c cut
  | none => match c with
    | .seq a b => CutsIn Δ S a ∧ CutsIn Δ S b
    | .cond _ a b => CutsIn Δ S a ∧ CutsIn Δ S b
    | .block _ b => CutsIn Δ S b
    | .scope b => CutsIn Δ S b
    | _ => True

theorem evCode_sound (hm : P.follows .mixedOrders = true) (hΓ : ∀ p ∈ Γ, FnKeeps P tb p.1 p.2) (hsl : ∀ p ∈ Γ, p.2.ins.map (·.1) = List.range p.2.ins.length) {p : Nat → Bool} (hp : ∀ d, p d = true → d < N ∧ W d) :
    ∀ (c : Code), dstsB p c = true → CutsIn Δ (fun c cut => CutSound P tb N c cut ∧ ∀ t, memB t cut.W = true → W t) c → ∀ {s s' : St tb.T} {ex : Ex} {a : Act} {w : World}, Sim P tb N W a0 g0 w0 D0 s a w → evCode P tb Γ Δ c s (fun ex s => some (ex, s)) = some (ex, s') →
      c.wp P (fun e a w => e = ex.toExit ∧ Sim P tb N W a0 g0 w0 D0 s' a w) a w := by
  have hcut : ∀ (c : Code) (cut : CutSpec tb), findCut Δ (keyOf c) = some cut → CutsIn Δ (fun c cut => CutSound P tb N c cut ∧ ∀ t, memB t cut.W = true → W t) c → ∀ {s s' : St tb.T} {ex : Ex} {a : Act} {w : World}, Sim P tb N W a0 g0 w0 D0 s a w → evCut P tb cut s (fun ex s => some (ex, s)) = some (ex, s') →
      c.wp P (fun e a w => e = ex.toExit ∧ Sim P tb N W a0 g0 w0 D0 s' a w) a w := fun c cut hf hc s s' ex a w ⟨g, μ, τ, h⟩ he => by
    unfold CutsIn at hc
    rw [hf] at hc
    exact evCut_sound hc.1 hc.2 h he
  intro c
  induction c with
  | skip =>
    intro hd hc s s' ex a w h he
    unfold evCode at he
    split at he
    · rename_i cut hf; exact hcut _ cut hf hc h he
    · simp only [Option.some.injEq, Prod.mk.injEq] at he
      obtain ⟨rfl, rfl⟩ := he
      exact wp_skip ⟨rfl, h⟩
  | label l =>
    intro hd hc s s' ex a w h he
    unfold evCode at he
    split at he
    · rename_i cut hf; exact hcut _ cut hf hc h he
    · simp only [Option.some.injEq, Prod.mk.injEq] at he
      obtain ⟨rfl, rfl⟩ := he
      exact wp_label ⟨rfl, h⟩
  | region id ops draw =>
    intro hd hc s s' ex a w h he
    have hds : ∀ o ∈ ops.toList, ∀ d, o.dst = some d → d < N ∧ W d := fun o ho d hod => by
      simp only [dstsB, List.all_eq_true] at hd
      have := hd o ho
      rw [hod] at this
      exact hp d this
    unfold evCode at he
    split at he
    · rename_i cut hf; exact hcut _ cut hf hc h he
    · cases draw with
      | true =>
        simp only [cond_true] at he
        cases hb : backs ops.toList 0 with
        | false => simp [hb] at he
        | true =>
          simp only [hb, cond_true] at he
          rw [evOpsD_k] at he
          obtain ⟨s1, h1, h2⟩ := obnd_eq_some.1 he
          simp only [Option.some.injEq, Prod.mk.injEq] at h2
          obtain ⟨rfl, rfl⟩ := h2
          exact wp_region_evD hm hΓ hsl hds hb h h1 fun a w h => ⟨rfl, h⟩
      | false =>
        simp only [cond_false] at he
        rw [evOps_k] at he
        obtain ⟨s1, h1, h2⟩ := obnd_eq_some.1 he
        simp only [Option.some.injEq, Prod.mk.injEq] at h2
        obtain ⟨rfl, rfl⟩ := h2
        exact wp_region_ev hΓ hsl hds h h1 fun a w h => ⟨rfl, h⟩
  | seq x y ihx ihy =>
    intro hd hc s s' ex a w h he
    simp only [dstsB, Bool.and_eq_true] at hd
    unfold evCode at he
    split at he
    · rename_i cut hf; exact hcut _ cut hf hc h he
    · rename_i hf
      unfold CutsIn at hc
      rw [hf] at hc
      simp only at he hc
      rw [evCode_k] at he
      obtain ⟨⟨e1, s1⟩, h1, h2⟩ := obnd_eq_some.1 he
      refine wp_seq (wp_mono (ihx hd.1 hc.1 h h1) ?_)
      rintro e a1 w1 ⟨rfl, hs1⟩
      cases e1 with
      | normal => exact ihy hd.2 hc.2 hs1 h2
      | exit id => simp only [Option.some.injEq, Prod.mk.injEq] at h2; obtain ⟨rfl, rfl⟩ := h2; exact ⟨rfl, hs1⟩
      | goto l => simp only [Option.some.injEq, Prod.mk.injEq] at h2; obtain ⟨rfl, rfl⟩ := h2; exact ⟨rfl, hs1⟩
      | ret => simp only [Option.some.injEq, Prod.mk.injEq] at h2; obtain ⟨rfl, rfl⟩ := h2; exact ⟨rfl, hs1⟩
  | cond x y z ihy ihz =>
    intro hd hc s s' ex a w h he
    simp only [dstsB, Bool.and_eq_true] at hd
    unfold evCode at he
    split at he
    · rename_i cut hf; exact hcut _ cut hf hc h he
    · rename_i hf
      unfold CutsIn at hc
      rw [hf] at hc
      simp only at he hc
      split at he
      · rename_i t hv
        obtain ⟨g, μ, τ, h'⟩ := h
        have hr : RepD P tb g w (.bool t) (a.eval x) := (val_sound h' x _ hv).1
        have hev : a.eval x = .bool t := by
          generalize a.eval x = u at hr
          cases hr; rfl
        refine wp_cond hev ?_
        cases t with
        | true => exact ihy hd.1 hc.1 ⟨g, μ, τ, h'⟩ he
        | false => exact ihz hd.2 hc.2 ⟨g, μ, τ, h'⟩ he
      · cases he
  | block id b ih =>
    intro hd hc s s' ex a w h he
    simp only [dstsB] at hd
    unfold evCode at he
    split at he
    · rename_i cut hf; exact hcut _ cut hf hc h he
    · rename_i hf
      unfold CutsIn at hc
      rw [hf] at hc
      simp only at he hc
      rw [evCode_k] at he
      obtain ⟨⟨e1, s1⟩, h1, h2⟩ := obnd_eq_some.1 he
      refine wp_block (wp_mono (ih hd hc h h1) ?_)
      rintro e a1 w1 ⟨rfl, hs1⟩
      cases e1 with
      | exit id' =>
        simp only at h2
        cases hb : Nat.beq id' id with
        | true =>
          have := Nat.eq_of_beq_eq_true hb
          subst this
          simp only [hb, cond_true, Option.some.injEq, Prod.mk.injEq] at h2
          obtain ⟨rfl, rfl⟩ := h2
          simp only [Ex.toExit, Exit.inBlock, if_true]
          exact ⟨trivial, hs1⟩
        | false =>
          have hne : id' ≠ id := fun e => by subst e; simp at hb
          simp only [hb, cond_false, Option.some.injEq, Prod.mk.injEq] at h2
          obtain ⟨rfl, rfl⟩ := h2
          simp only [Ex.toExit, Exit.inBlock, if_neg hne]
          exact ⟨trivial, hs1⟩
      | normal => simp only [Option.some.injEq, Prod.mk.injEq] at h2; obtain ⟨rfl, rfl⟩ := h2; exact ⟨rfl, hs1⟩
      | goto l => simp only [Option.some.injEq, Prod.mk.injEq] at h2; obtain ⟨rfl, rfl⟩ := h2; exact ⟨rfl, hs1⟩
      | ret => simp only [Option.some.injEq, Prod.mk.injEq] at h2; obtain ⟨rfl, rfl⟩ := h2; exact ⟨rfl, hs1⟩
  | scope b ih =>
    intro hd hc s s' ex a w h he
    simp only [dstsB] at hd
    unfold evCode at he
    split at he
    · rename_i cut hf; exact hcut _ cut hf hc h he
    · rename_i hf
      unfold CutsIn at hc
      rw [hf] at hc
      simp only at he hc
      rw [evCode_k] at he
      obtain ⟨⟨e1, s1⟩, h1, h2⟩ := obnd_eq_some.1 he
      refine wp_scope_straight (wp_mono (ih hd hc h h1) ?_)
      rintro e a1 w1 ⟨rfl, hs1⟩
      cases e1 with
      | goto l => simp at h2
      | exit id => simp only [Option.some.injEq, Prod.mk.injEq] at h2; obtain ⟨rfl, rfl⟩ := h2; exact ⟨rfl, hs1⟩
      | normal => simp only [Option.some.injEq, Prod.mk.injEq] at h2; obtain ⟨rfl, rfl⟩ := h2; exact ⟨rfl, hs1⟩
      | ret => simp only [Option.some.injEq, Prod.mk.injEq] at h2; obtain ⟨rfl, rfl⟩ := h2; exact ⟨rfl, hs1⟩
  | exit id =>
    intro hd hc s s' ex a w h he
    unfold evCode at he
    split at he
    · rename_i cut hf; exact hcut _ cut hf hc h he
    · simp only [Option.some.injEq, Prod.mk.injEq] at he
      obtain ⟨rfl, rfl⟩ := he
      exact wp_exit ⟨rfl, h⟩
  | goto l =>
    intro hd hc s s' ex a w h he
    unfold evCode at he
    split at he
    · rename_i cut hf; exact hcut _ cut hf hc h he
    · simp only [Option.some.injEq, Prod.mk.injEq] at he
      obtain ⟨rfl, rfl⟩ := he
      exact wp_goto ⟨rfl, h⟩
  | ret =>
    intro hd hc s s' ex a w h he
    unfold evCode at he
    split at he
    · rename_i cut hf; exact hcut _ cut hf hc h he
    · simp only [Option.some.injEq, Prod.mk.injEq] at he
      obtain ⟨rfl, rfl⟩ := he
      exact wp_ret ⟨rfl, h⟩
  | loop b ih =>
    intro hd hc s s' ex a w h he
    unfold evCode at he
    split at he
    · rename_i cut hf; exact hcut _ cut hf hc h he
    · cases he
  | rangeFunc f ps as b iha ihb =>
    intro hd hc s s' ex a w h he
    unfold evCode at he
    split at he
    · rename_i cut hf; exact hcut _ cut hf hc h he
    · cases he
  | refuse why =>
    intro hd hc s s' ex a w h he
    unfold evCode at he
    split at he
    · rename_i cut hf; exact hcut _ cut hf hc h he
    · cases he
end Go.Ev
