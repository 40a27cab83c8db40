/- Cuts and functions keep their contracts. -/
import Derived.Test.YtmlbknmjgahcfaaDoorEvC2
import Derived.Laws.Sem
namespace Go.Ev
open Go

variable {P : Program} {tb : Tab} {N : Nat} {W : Nat → Prop} {a0 : Act} {g0 : Gh} {w0 : World} {D0 : Nat → Prop}
variable {s s' s1 s2 : St tb.T} {g g' : Gh} {μ μ' : Nat → Nat} {τ τ' : Nat → Option Nat} {a a' : Act} {w w' : World}
variable {Γ : List (Nat × FSpec tb)} {Δ : List (CutSpec tb)} {R : Type}

/-- the first state -/
theorem begun_sim (hinv : tb.inv g w) {l : LSpec} {x : XS tb l} {vs : List Value} {bs : List (Option Nat)} (hh : HoldsL P tb g w l x vs bs) (hn : (blocksOf bs).Nodup) (hs : nodupB (l.map (·.1)) = true) (hi : InSlots a l vs) (hN : a.tmps.size = N) :
    Sim P tb N W a g w (fun b => b ∈ touched l bs) (canon P tb l x) a w := by
  have hs' := nodupB_iff.1 hs
  obtain ⟨μ, τ, hf⟩ := fit_exists (hh.length.2) hs'
  exact ⟨g, μ, τ, (canon_begun (W := W) hinv hh hn hs' hi hf hN (D0 := fun b => b ∈ touched l bs) fun k hk => hk).sim⟩

theorem intoOuts_sound {rs : LSpec} {get : Nat → Option (SV tb.T)} {ex : Ex} {φ : Ex → (l : LSpec) → Ret tb l rs → Prop} : ∀ {outs : List (Ex × LSpec)} {y : Outs tb rs outs}, intoOuts P tb rs get ex s outs = some y →
    (∀ o ∈ outs, o.1 = ex → ∀ x z, extS P tb s s.env o.2 = some x → extS P tb s get rs = some z → nodupB (idsS s.env o.2) = true → φ o.1 o.2 (Ret.mk x z)) → OutIs rs φ outs y := by
  have one : ∀ (o : Ex × LSpec) (q : Ret tb o.2 rs), intoOuts.one P tb rs get ex s o = some q → (o.1 = ex → ∀ x z, extS P tb s s.env o.2 = some x → extS P tb s get rs = some z → nodupB (idsS s.env o.2) = true → φ o.1 o.2 (Ret.mk x z)) → φ o.1 o.2 q := fun o q h hφ => by
    unfold intoOuts.one at h
    cases hk : (decide (o.1 = ex) && nodupB (idsS s.env o.2)) with
    | false => simp [hk] at h
    | true =>
      simp only [hk, cond_true] at h
      simp only [Bool.and_eq_true, decide_eq_true_eq] at hk
      split at h
      · rename_i x hx
        split at h
        · rename_i z hz
          simp only [Option.some.injEq] at h; subst h
          exact hφ hk.1 x z hx hz hk.2
        · cases h
      · cases h
  intro outs
  induction outs with
  | nil => intro y; exact nomatch y
  | cons o outs ih =>
    intro y h hφ
    cases outs with
    | nil => exact one o y h (hφ o (by simp))
    | cons p l =>
      simp only [intoOuts] at h
      cases hd : decide (o.1 = ex) with
      | true =>
        simp only [hd, cond_true] at h
        split at h
        · rename_i q hq
          have h := Option.some.inj h; subst h
          exact one o q hq (hφ o (by simp))
        · cases h
      | false =>
        simp only [hd, cond_false] at h
        split at h
        · rename_i q hq
          have h := Option.some.inj h; subst h
          exact ih (y := q) hq fun o ho => hφ o (List.mem_cons_of_mem _ ho)
        · cases h

def CutsOk (P : Program) (tb : Tab) (N : Nat) (W : Nat → Prop) (Δ : List (CutSpec tb)) (c : Code) : Prop := CutsIn Δ (fun c cut => CutSound P tb N c cut ∧ ∀ t, memB t cut.W = true → W t) c

/-- the static checks of a cut -/
def cutB (N : Nat) (cut : CutSpec tb) (c : Code) : Bool :=
  dstsB (fun d => Nat.blt d N && memB d cut.W) c && nodupB (cut.ins.map (·.1)) && (refsOf cut.ins).all (fun q => !memB q.1 cut.W) && cut.outs.all (fun o => LSpec.plainOwn o.2)

theorem blkl_slots (h : SimAt P tb N W a0 g0 w0 D0 s g μ τ a w) {get : Nat → Option (SV tb.T)} (hg : ∀ t v, get t = some v → s.env t = some v) : ∀ {l : LSpec} {bs : List (Option Nat)}, BlkL s μ τ get l bs → InSlots a l (l.map fun q => a.tmps.getD q.1 undef)
  | [], _, _ => trivial
  | q :: l, b :: bs, ⟨⟨v, hv, _⟩, h2⟩ => by
    obtain ⟨u, hu, _⟩ := h.env q.1 v (hg q.1 v hv)
    exact ⟨by simp only [Array.getD_eq_getD_getElem?]; rw [hu]; rfl, blkl_slots h hg h2⟩
  | _ :: _, [], h => h.elim

theorem cut_end {ins l : LSpec} {x : XS tb ins} {vs : List Value} {bs : List (Option Nat)} {Wl : List Nat} (hh : HoldsL P tb g w ins x vs bs) (hi : InSlots a ins vs) (hW : ∀ q ∈ refsOf ins, memB q.1 Wl = false) (hpo : LSpec.plainOwn l = true)
    (h : SimAt P tb N (fun t => memB t Wl = true) a g w (fun b => b ∈ touched ins bs) s g' μ τ a' w') {y : XS tb l} {z : XS tb (refsOf ins)} (hy : extS P tb s s.env l = some y)
    (hz : extS P tb s (backGet s (refsOf ins)) (refsOf ins) = some z) (hn : nodupB (idsS s.env l) = true) : CutLeft P tb N Wl ins g w a vs bs l (Ret.mk y z) a' w' := by
  have hval : ∀ q ∈ l, ∀ v, s.env q.1 = some v → RepV P tb g' w' μ τ s.tok v (a'.tmps.getD q.1 undef) := fun q _ v hv => by
    obtain ⟨u, hu, hr⟩ := h.env q.1 v hv
    rw [Array.getD_eq_getD_getElem?, hu]; exact hr
  obtain ⟨cs, hl⟩ := end_left (val := fun t => a'.tmps.getD t undef) hh hi (fun q hq => by rw [hW q hq]; simp) hpo h hy hval hz hn
  refine ⟨h.size, h.defers, fun t ht => h.frame t (by rw [ht]; simp), _, cs, g', ?_, hl⟩
  obtain ⟨cs', _, hbl⟩ := ext_all h (val := fun t => a'.tmps.getD t undef) hy hval
  exact blkl_slots h (fun _ _ hv => hv) hbl

/-- **a piece of code under a contract** -/
theorem blk_sound (hm : P.follows .mixedOrders = true) (hΓ : ∀ p ∈ Γ, FnKeeps P tb p.1 p.2) (hsl : ∀ p ∈ Γ, p.2.ins.map (·.1) = List.range p.2.ins.length) {c : Code} {cut : CutSpec tb} (hb : cutB N cut c = true) (hcut : CutsOk P tb N (fun t => memB t cut.W = true) Δ c)
    (hJ : ∀ x y, cut.J x = some y → evBlk P tb Γ Δ c cut.ins cut.outs x = some y) : CutSound P tb N c cut := by
  simp only [cutB, Bool.and_eq_true] at hb
  obtain ⟨⟨⟨hd, hns⟩, hrs⟩, hpo⟩ := hb
  intro g w a x vs bs y hxy hinv hN hi hh hn
  have hsim := begun_sim (W := fun t => memB t cut.W = true) hinv hh hn hns hi hN
  have he := hJ x y hxy
  unfold evBlk at he
  rw [evCode_k] at he
  obtain ⟨⟨ex, s'⟩, h1, h2⟩ := obnd_eq_some.1 he
  refine wp_mono (evCode_sound hm hΓ hsl (p := fun d => Nat.blt d N && memB d cut.W) (fun d hd => by
    simp only [Bool.and_eq_true] at hd; exact ⟨Nat.le_of_ble_eq_true hd.1, hd.2⟩) c hd hcut hsim h1) ?_
  rintro e a' w' ⟨rfl, g', μ, τ, hs⟩
  refine intoOuts_sound (P := P) h2 ?_
  rintro o ho rfl y' z hy' hz hn'
  refine ⟨rfl, cut_end hh hi (fun q hq => ?_) ?_ hs hy' hz hn'⟩
  · have := List.all_eq_true.1 hrs q hq
    simpa using this
  · exact List.all_eq_true.1 hpo o ho

/-! ## loops -/
theorem holds_refs : ∀ {l : LSpec} {x : XS tb l} {vs : List Value} {bs : List (Option Nat)}, HoldsL P tb g w l x vs bs → ∃ z, HoldsL P tb g w (refsOf l) z (atRefs l vs) (atRefs l bs)
  | [], x, vs, bs, h => by obtain ⟨rfl, rfl⟩ := holds_nil h; exact ⟨(() : Unit), trivial⟩
  | (t, p) :: l, x, vs, bs, h => by
    obtain ⟨v, vs, b, bs, rfl, rfl⟩ := holds_cons_inv h
    obtain ⟨⟨y, hy⟩, ys, hys⟩ := holds_cons h
    obtain ⟨z, hz⟩ := holds_refs hys
    cases hr : p.isRef with
    | false =>
      have e : refsOf ((t, p) :: l) = refsOf l := by simp [refsOf, hr]
      have e1 : ∀ {α : Type} (u : α) (us : List α), atRefs ((t, p) :: l) (u :: us) = atRefs l us := fun u us => by simp [atRefs, hr]
      rw [e1, e1, e]
      exact ⟨z, hz⟩
    | true =>
      have e : refsOf ((t, p) :: l) = (t, p) :: refsOf l := by simp [refsOf, hr]
      have e1 : ∀ {α : Type} (u : α) (us : List α), atRefs ((t, p) :: l) (u :: us) = u :: atRefs l us := fun u us => by simp [atRefs, hr]
      rw [e1, e1, e]
      revert z hz
      cases hl : refsOf l with
      | nil =>
        intro z hz
        obtain ⟨e2, e3⟩ := holds_nil hz
        rw [e2, e3]
        exact ⟨y, hy⟩
      | cons q rs => intro z hz; exact ⟨(y, z), hy, hz⟩
theorem atRefs_map (val : Nat → Value) : ∀ {l : LSpec}, atRefs l (l.map fun q => val q.1) = (refsOf l).map fun q => val q.1
  | [] => rfl
  | (t, p) :: l => by
    have ih := atRefs_map val (l := l)
    cases hr : p.isRef <;> simp [atRefs, refsOf, hr, ih]

theorem left_after {ins l : LSpec} {vs vs1 : List Value} {bs bs1 : List (Option Nat)} {g1 : Gh} {w1 : World} {r : Ret tb l (refsOf ins)} {us : List Value} {cs : List (Option Nat)}
    (he : Ext g w g1 w1 (fun b => b ∈ touched ins bs)) (ht : ∀ k ∈ touched ins bs1, w.heap.size ≤ k ∨ k ∈ touched ins bs) (hv : atRefs ins vs1 = atRefs ins vs) (hb : atRefs ins bs1 = atRefs ins bs)
    (h : Left P tb g1 w1 ins l vs1 bs1 r us cs g' w') : Left P tb g w ins l vs bs r us cs g' w' := by
  obtain ⟨l1, l2, l3, l4, l5⟩ := h
  refine ⟨he.trans l1 (fun _ _ h => h) (fun b hb1 hd => (ht b hd).resolve_left (by omega)), l2, by rw [hv, hb] at l3; exact l3, l4, fun k hk => ?_⟩
  obtain ⟨k1, k2⟩ := l5 k hk
  refine ⟨?_, by rw [← hb]; exact k2⟩
  rcases k1 with c | c
  · exact .inl (Nat.le_trans he.size c)
  · exact ht k c

/-- where a loop stands when it comes again -/
structure Again (P : Program) (tb : Tab) (N : Nat) (cut : CutSpec tb) (m : XS tb cut.ins → Nat) (g : Gh) (w : World) (a : Act) (vs : List Value) (bs : List (Option Nat)) (y : Outs tb (refsOf cut.ins) cut.outs) (n : Nat) (a1 : Act) (w1 : World)
    (g1 : Gh) (x1 : XS tb cut.ins) (vs1 : List Value) (bs1 : List (Option Nat)) : Prop where
  meas : m x1 = n
  tells : cut.J x1 = some y
  size : a1.tmps.size = N
  defers : a1.defers = a.defers
  frame : ∀ t, memB t cut.W = false → a1.tmps[t]? = a.tmps[t]?
  slots : InSlots a1 cut.ins vs1
  holds : HoldsL P tb g1 w1 cut.ins x1 vs1 bs1
  nodup : (blocksOf bs1).Nodup
  ext : Ext g w g1 w1 (fun b => b ∈ touched cut.ins bs)
  tch : ∀ k ∈ touched cut.ins bs1, w.heap.size ≤ k ∨ k ∈ touched cut.ins bs
  rv : atRefs cut.ins vs1 = atRefs cut.ins vs
  rb : atRefs cut.ins bs1 = atRefs cut.ins bs

theorem loop_sound (hm : P.follows .mixedOrders = true) (hΓ : ∀ p ∈ Γ, FnKeeps P tb p.1 p.2) (hsl : ∀ p ∈ Γ, p.2.ins.map (·.1) = List.range p.2.ins.length) {c : Code} {cut : CutSpec tb} (hb : cutB N cut c = true) (hcut : CutsOk P tb N (fun t => memB t cut.W = true) Δ c)
    (m : XS tb cut.ins → Nat) (hJ : ∀ x y, cut.J x = some y → evLoop P tb Γ Δ c cut.ins cut.outs (fun x' => bif Nat.blt (m x') (m x) then cut.J x' else none) x = some y) : CutSound P tb N (.loop c) cut := by
  simp only [cutB, Bool.and_eq_true] at hb
  obtain ⟨⟨⟨hd, hns⟩, hrs⟩, hpo⟩ := hb
  have hrs' : ∀ q ∈ refsOf cut.ins, memB q.1 cut.W = false := fun q hq => by
    have := List.all_eq_true.1 hrs q hq
    simpa using this
  intro g w a x vs bs y hxy hinv hN hi hh hn
  let I : Nat → Act → World → Prop := fun n a1 w1 => ∃ g1 x1 vs1 bs1, Again P tb N cut m g w a vs bs y n a1 w1 g1 x1 vs1 bs1
  classical
  let J : Act → World → Prop := fun a1 w1 => ∃ n, I n a1 w1
  have hleast : ∀ a1 w1, J a1 w1 → ∃ n, I n a1 w1 ∧ ∀ k, I k a1 w1 → n ≤ k := fun a1 w1 ⟨n, hn⟩ => by
    induction n using Nat.strongRecOn with
    | _ n ih =>
      by_cases hk : ∃ k, k < n ∧ I k a1 w1
      · obtain ⟨k, hk, hik⟩ := hk; exact ih k hk hik
      · exact ⟨n, hn, fun k hik => Nat.le_of_not_lt fun hlt => hk ⟨k, hlt, hik⟩⟩
  let M : Act → World → Nat := fun a1 w1 => if h : J a1 w1 then Classical.choose (hleast a1 w1 h) else 0
  have hM : ∀ a1 w1, J a1 w1 → I (M a1 w1) a1 w1 ∧ ∀ k, I k a1 w1 → M a1 w1 ≤ k := fun a1 w1 h => by
    have := Classical.choose_spec (hleast a1 w1 h)
    simp only [M, h, dite_true]
    exact this
  refine wp_loop J M ⟨m x, g, x, vs, bs, ⟨rfl, hxy, hN, rfl, fun _ _ => rfl, hi, hh, hn, Ext.refl _ _ _, fun _ h => .inr h, rfl, rfl⟩⟩ ?_
  intro a1 w1 hJ1
  obtain ⟨⟨g1, x1, vs1, bs1, h1⟩, hmin⟩ := hM a1 w1 hJ1
  have hsim := begun_sim (W := fun t => memB t cut.W = true) (tb.invk h1.ext hinv) h1.holds h1.nodup hns h1.slots h1.size
  have he := hJ x1 y h1.tells
  unfold evLoop at he
  rw [evCode_k] at he
  obtain ⟨⟨ex, s'⟩, e1, e2⟩ := obnd_eq_some.1 he
  refine wp_mono (evCode_sound hm hΓ hsl (p := fun d => Nat.blt d N && memB d cut.W) (fun d hd => by
    simp only [Bool.and_eq_true] at hd; exact ⟨Nat.le_of_ble_eq_true hd.1, hd.2⟩) c hd hcut hsim e1) ?_
  rintro e a' w' ⟨rfl, g', μ, τ, hs⟩
  have hout : ∀ {ex : Ex}, ex ≠ .normal → intoOuts P tb (refsOf cut.ins) (backGet s' (refsOf cut.ins)) ex s' cut.outs = some y →
      OutIs (refsOf cut.ins) (fun e l r => ex.toExit = e.toExit ∧ CutLeft P tb N cut.W cut.ins g w a vs bs l r a' w') cut.outs y := fun {ex} _ h2 => by
    refine intoOuts_sound (P := P) h2 ?_
    rintro o ho rfl y' z hy' hz hn'
    obtain ⟨c1, c2, c3, us, cs, g2, c4, c5⟩ := cut_end h1.holds h1.slots hrs' (List.all_eq_true.1 hpo o ho) hs hy' hz hn'
    exact ⟨rfl, c1, c2.trans h1.defers, fun t ht => (c3 t ht).trans (h1.frame t ht), us, cs, g2, c4, left_after h1.ext h1.tch h1.rv h1.rb c5⟩
  cases ex with
  | normal =>
    simp only at e2
    split at e2
    · rename_i x' hx'
      cases hk : nodupB (idsS (backGet s' (refsOf cut.ins)) cut.ins) with
      | false => simp [hk] at e2
      | true =>
        simp only [hk, cond_true] at e2
        cases hlt : Nat.blt (m x') (m x1) with
        | false => simp [hlt] at e2
        | true =>
          simp only [hlt, cond_true] at e2
          have hlt' : m x' < m x1 := Nat.le_of_ble_eq_true hlt
          obtain ⟨bs2, k1, k2⟩ := ext_all hs (val := fun t => a'.tmps.getD t undef) hx' (fun q _ v hv => by
            obtain ⟨u, hu, hr⟩ := hs.env q.1 v (backGet_rep hs hv)
            rw [Array.getD_eq_getD_getElem?, hu]; exact hr)
          have hnd := blk_nodup hs k2 (nodupB_iff.1 hk)
          obtain ⟨z, hz⟩ := holds_refs k1
          rw [atRefs_map (fun t => a'.tmps.getD t undef)] at hz
          obtain ⟨r1, r2⟩ := refs_same (val := fun t => a'.tmps.getD t undef) h1.holds h1.slots hz fun q hq => by
            obtain ⟨v, hv⟩ := inslots_get h1.slots q (refsOf_sub q hq)
            have := hs.frame q.1 (by rw [hrs' q hq]; simp)
            rw [hv] at this ⊢
            rw [Array.getD_eq_getD_getElem?, this]; rfl
          have hagain : Again P tb N cut m g w a vs bs y (m x') a' w' g' x' (cut.ins.map fun q => a'.tmps.getD q.1 undef) bs2 := by
            refine ⟨rfl, e2, hs.size, hs.defers.trans h1.defers, fun t ht => (hs.frame t (by rw [ht]; simp)).trans (h1.frame t ht), blkl_slots hs (fun t v hv => backGet_rep hs hv) k2, k1, hnd, ?_, fun k hk => ?_, ?_, r2.trans h1.rb⟩
            · exact h1.ext.trans hs.ext (fun _ _ h => h) (fun b hb hd => (h1.tch b hd).resolve_left (by omega))
            · have hk' : w1.heap.size ≤ k ∨ k ∈ touched cut.ins bs1 := by
                rcases (touched_id k2 k hk).2 with ⟨j, _, hj1, hj2⟩ | ⟨j, _, hj1, hj2, hj3⟩
                · exact ((hs.tokv j hj1).2 k hj2).2.2
                · have := (hs.live j hj1).2.2.2
                  rw [hj2, hj3] at this
                  exact this.resolve_left (by simp)
              rcases hk' with c | c
              · exact .inl (Nat.le_trans h1.ext.size c)
              · exact h1.tch k c
            · rw [atRefs_map (fun t => a'.tmps.getD t undef), r1]; exact h1.rv
          have hJ' : J a' w' := ⟨m x', g', x', _, bs2, hagain⟩
          refine ⟨hJ', ?_⟩
          have := (hM a' w' hJ').2 (m x') ⟨g', x', _, bs2, hagain⟩
          have := h1.meas
          omega
    · cases e2
  | exit id => exact hout (by simp) e2
  | goto l => exact hout (by simp) e2
  | ret => exact hout (by simp) e2
end Go.Ev
