/- The end of a piece of code: from the evaluator's state to what is left. -/
import Derived.Test.YtmlbknmjgahcfaaDoorEvR7
namespace Go.Ev
open Go

variable {P : Program} {tb : Tab} {N : Nat} {W : Nat → Prop} {D0 : Nat → Prop}
variable {s s' : St tb.T} {g g' : Gh} {μ μ' : Nat → Nat} {τ τ' : Nat → Option Nat} {a a' : Act} {w w' : World}

@[simp] theorem ret_outs {outs : LSpec} : ∀ {rs : LSpec} (x : XS tb outs) (z : XS tb rs), (Ret.mk x z).outs = x
  | [], _, _ => rfl
  | _ :: _, _, _ => rfl
theorem ret_refs {outs : LSpec} : ∀ {rs : LSpec} (x : XS tb outs) (z : XS tb rs), (Ret.mk x z).refs = z
  | [], _, () => rfl
  | _ :: _, _, _ => rfl

/-- the references among what was handed over -/
theorem holds_cons {q : Nat × Pat} {l : LSpec} {x : XS tb (q :: l)} {v : Value} {vs : List Value} {b : Option Nat} {bs : List (Option Nat)} (h : HoldsL P tb g w (q :: l) x (v :: vs) (b :: bs)) :
    (∃ y, HoldsP P tb g w q.2 y v b) ∧ ∃ ys, HoldsL P tb g w l ys vs bs := by
  cases l with
  | nil =>
    cases vs with
    | nil => cases bs with
      | nil => exact ⟨⟨x, h⟩, (() : Unit), trivial⟩
      | cons _ _ => exact h.elim
    | cons _ _ => cases bs <;> exact h.elim
  | cons c l => obtain ⟨x, xs⟩ := x; exact ⟨⟨x, h.1⟩, xs, h.2⟩

theorem holds_nil {x : XS tb []} {vs : List Value} {bs : List (Option Nat)} (h : HoldsL P tb g w [] x vs bs) : vs = [] ∧ bs = [] := by
  cases vs <;> cases bs <;> first | exact ⟨rfl, rfl⟩ | exact h.elim
theorem holds_cons_inv {q : Nat × Pat} {l : LSpec} {x : XS tb (q :: l)} {vs : List Value} {bs : List (Option Nat)} (h : HoldsL P tb g w (q :: l) x vs bs) : ∃ v vs' b bs', vs = v :: vs' ∧ bs = b :: bs' := by
  cases l with
  | nil => cases vs with
    | nil => exact h.elim
    | cons v vs => cases bs with
      | nil => cases vs <;> exact h.elim
      | cons b bs => exact ⟨_, _, _, _, rfl, rfl⟩
  | cons c l => cases vs with
    | nil => exact h.elim
    | cons v vs => cases bs with
      | nil => exact h.elim
      | cons b bs => exact ⟨_, _, _, _, rfl, rfl⟩

theorem holdsP_ref {p : Pat} {y : X tb p} {v : Value} {b : Option Nat} (hr : p.isRef = true) (h : HoldsP P tb g w p y v b) : ∃ k, b = some k ∧ v = .pointer (some ⟨k, 0, none⟩) := by
  cases p with
  | val e => cases hr
  | own e => cases hr
  | ro e => cases hr
  | ref e => obtain ⟨k, h1, h2, _⟩ := h; exact ⟨k, h1, h2⟩
  | iter => obtain ⟨k, h1, h2, _⟩ := h; exact ⟨k, h1, h2⟩

/-- the references' slots hold pointers, their blocks are what these point to -/
theorem refs_same : ∀ {l : LSpec} {x : XS tb l} {vs : List Value} {bs : List (Option Nat)} {z : XS tb (refsOf l)} {val : Nat → Value} {cs : List (Option Nat)},
    HoldsL P tb g w l x vs bs → InSlots a l vs → HoldsL P tb g' w' (refsOf l) z ((refsOf l).map fun q => val q.1) cs → (∀ q ∈ refsOf l, a.tmps[q.1]? = some (val q.1)) →
    (refsOf l).map (fun q => val q.1) = atRefs l vs ∧ cs = atRefs l bs
  | [], x, vs, bs, z, val, cs, h, _, hz, _ => by
    obtain ⟨rfl, rfl⟩ := holds_nil h
    obtain ⟨_, rfl⟩ := holds_nil (x := z) hz
    exact ⟨rfl, rfl⟩
  | (t, p) :: l, x, vs, bs, z, val, cs, h, hi, hz, hv => by
    obtain ⟨v, vs, b, bs, rfl, rfl⟩ := holds_cons_inv h
    obtain ⟨⟨y, hy⟩, ys, hys⟩ := holds_cons h
    obtain ⟨i1, i2⟩ := hi
    cases hr : p.isRef with
    | false =>
      have e : refsOf ((t, p) :: l) = refsOf l := by simp [refsOf, hr]
      have e1 : ∀ {α : Type} (u : α) (us : List α), atRefs ((t, p) :: l) (u :: us) = atRefs l us := fun u us => by simp [atRefs, hr]
      rw [e1, e1]
      revert z hz hv
      rw [e]
      intro z hz hv
      exact refs_same hys i2 hz hv
    | true =>
      have e : refsOf ((t, p) :: l) = (t, p) :: refsOf l := by simp [refsOf, hr]
      have e1 : ∀ {α : Type} (u : α) (us : List α), atRefs ((t, p) :: l) (u :: us) = u :: atRefs l us := fun u us => by simp [atRefs, hr]
      rw [e1, e1]
      revert z hz hv
      rw [e]
      intro z hz hv
      rw [List.map_cons] at hz ⊢
      obtain ⟨_, _, c, cs', hz1, rfl⟩ := holds_cons_inv hz
      obtain ⟨⟨y2, hy2⟩, zs, hzs⟩ := holds_cons hz
      obtain ⟨r1, r2⟩ := refs_same hys i2 hzs fun q hq => hv q (by simp [hq])
      obtain ⟨k, hk1, hk2⟩ := holdsP_ref hr hy
      obtain ⟨k', hk3, hk4⟩ := holdsP_ref hr hy2
      have hvt := hv (t, p) (by simp)
      simp only at hvt hk4
      rw [hvt] at i1
      simp only [Option.some.injEq] at i1
      rw [r1, r2, i1]
      refine ⟨rfl, ?_⟩
      rw [i1, hk2] at hk4
      rw [hk1, hk3]
      injection hk4 with e'
      injection e' with e'
      injection e' with e'
      rw [e']

theorem inslots_get : ∀ {l : LSpec} {vs : List Value}, InSlots a l vs → ∀ q ∈ l, ∃ v, a.tmps[q.1]? = some v
  | [], [], _, q, hq => by simp at hq
  | _ :: _, _ :: _, ⟨h1, h2⟩, q, hq => by
    rcases List.mem_cons.1 hq with rfl | hq
    · exact ⟨_, h1⟩
    · exact inslots_get h2 q hq
  | [], _ :: _, h, _, _ => h.elim
  | _ :: _, [], h, _, _ => h.elim

theorem refsOf_sub : ∀ {l : LSpec}, ∀ q ∈ refsOf l, q ∈ l
  | [], q, h => by simp [refsOf] at h
  | p :: l, q, h => by
    simp only [refsOf] at h
    cases hr : p.2.isRef with
    | true =>
      simp only [hr, cond_true] at h
      rcases List.mem_cons.1 h with rfl | h
      · simp
      · exact List.mem_cons_of_mem _ (refsOf_sub q h)
    | false => simp only [hr, cond_false] at h; exact List.mem_cons_of_mem _ (refsOf_sub q h)

/-- outs that are plain or owned: their blocks are arrays, owned by what is at hand -/
theorem outs_blocks (h : SimAt P tb N W a g w D0 s g' μ τ a' w') {get : Nat → Option (SV tb.T)} : ∀ {l : LSpec} {cs : List (Option Nat)}, LSpec.plainOwn l = true → BlkL s μ τ get l cs → ∀ k ∈ blocksOf cs, (∃ n, g' k = .ar n) ∧ (w.heap.size ≤ k ∨ D0 k)
  | [], [], _, _, k, hk => by simp [blocksOf] at hk
  | (t, p) :: l, c :: cs, hp, ⟨⟨v, _, hb⟩, h2⟩, k, hk => by
    simp only [LSpec.plainOwn, List.all_cons, Bool.and_eq_true] at hp
    rcases mem_blocks_cons.1 hk with e | hk
    · subst e
      cases p with
      | val e => simp only [BlkOf] at hb; cases hb
      | own e =>
        rcases v with ac | as | ts <;> first | (cases ac <;> simp only [BlkOf, reduceCtorEq] at hb) | (simp only [BlkOf, reduceCtorEq] at hb)
        obtain ⟨h1, h2⟩ := hb
        obtain ⟨_, h3⟩ := h.tokv _ h2
        obtain ⟨k1, _, k3⟩ := h3 k h1.symm
        exact ⟨k1, k3⟩
      | ref e => simp at hp
      | ro e => simp at hp
      | iter => simp at hp
    · exact outs_blocks h (l := l) hp.2 h2 k hk
  | [], _ :: _, _, h, _, _ => h.elim
  | _ :: _, [], _, h, _, _ => h.elim

theorem refs_blocks : ∀ {l : LSpec} {x : XS tb l} {vs : List Value} {bs : List (Option Nat)}, (∀ q ∈ l, q.2.isRef = true) → HoldsL P tb g w l x vs bs → ∀ k ∈ blocksOf bs, g k = .var
  | [], x, vs, bs, _, h, k, hk => by obtain ⟨_, rfl⟩ := holds_nil h; simp [blocksOf] at hk
  | (t, p) :: l, x, vs, bs, hr, h, k, hk => by
    obtain ⟨v, vs, b, bs, rfl, rfl⟩ := holds_cons_inv h
    obtain ⟨⟨y, hy⟩, ys, hys⟩ := holds_cons h
    rcases mem_blocks_cons.1 hk with e | hk
    · subst e
      have := hr (t, p) (by simp)
      cases p with
      | val e => cases this
      | own e => cases this
      | ro e => cases this
      | ref e => obtain ⟨k', h1, _, _, h3, _⟩ := hy; injection h1 with h1; rw [h1]; exact h3
      | iter => obtain ⟨k', h1, _, _, h3, _⟩ := hy; injection h1 with h1; rw [h1]; exact h3
    · exact refs_blocks (fun q hq => hr q (by simp [hq])) hys k hk

theorem backGet_rep (_h : SimAt P tb N W a g w D0 s g' μ τ a' w') {rs : LSpec} {t : Nat} {v : SV tb.T} (hv : backGet s rs t = some v) : s.env t = some v := by
  unfold backGet at hv
  cases hm : memB t (rs.map (·.1)) with
  | false => simpa [hm] using hv
  | true =>
    simp only [hm, cond_true] at hv
    split at hv
    · rename_i i he
      cases hb : Nat.beq i t with
      | false => simp [hb] at hv
      | true =>
        simp only [hb, cond_true] at hv
        have := Nat.eq_of_beq_eq_true hb
        subst this
        rw [he]; exact hv
    · cases hv

/-- **the end** -/
theorem end_left {ins outs : LSpec} {x : XS tb ins} {vs : List Value} {bs : List (Option Nat)} (hh : HoldsL P tb g w ins x vs bs) (hi : InSlots a ins vs) (hW : ∀ q ∈ refsOf ins, ¬ W q.1) (hpo : LSpec.plainOwn outs = true)
    (h : SimAt P tb N W a g w (fun b => b ∈ touched ins bs) s g' μ τ a' w') {get : Nat → Option (SV tb.T)} {val : Nat → Value} {y : XS tb outs} {z : XS tb (refsOf ins)} (hy : extS P tb s get outs = some y)
    (hval : ∀ q ∈ outs, ∀ v, get q.1 = some v → RepV P tb g' w' μ τ s.tok v (val q.1)) (hz : extS P tb s (backGet s (refsOf ins)) (refsOf ins) = some z) (hn : nodupB (idsS get outs) = true) :
    ∃ cs, Left P tb g w ins outs vs bs (Ret.mk y z) (outs.map fun q => val q.1) cs g' w' := by
  obtain ⟨cs, k1, k2⟩ := ext_all h hy hval
  obtain ⟨ds, m1, m2⟩ := ext_all h (val := fun t => a'.tmps.getD t undef) hz (fun q hq v hv => by
    obtain ⟨u, hu, hr⟩ := h.env q.1 v (backGet_rep h hv)
    rw [Array.getD_eq_getD_getElem?, hu]; exact hr)
  obtain ⟨r1, r2⟩ := refs_same (val := fun t => a'.tmps.getD t undef) hh hi m1 fun q hq => by
    obtain ⟨v, hv⟩ := inslots_get hi q (refsOf_sub q hq)
    have := h.frame q.1 (hW q hq)
    rw [hv] at this ⊢
    rw [Array.getD_eq_getD_getElem?, this]; rfl
  have hnd := blk_nodup h k2 (nodupB_iff.1 hn)
  have hbl := outs_blocks h hpo k2
  refine ⟨cs, h.ext, by rw [ret_outs]; exact k1, by rw [ret_refs, ← r1, ← r2]; exact m1, hnd, fun k hk => ⟨(hbl k hk).2, fun hm => ?_⟩⟩
  rw [← r2] at hm
  have := refs_blocks (refsOf_isRef) m1 k hm
  obtain ⟨⟨n, hn⟩, _⟩ := hbl k hk
  rw [this] at hn; cases hn
end Go.Ev
