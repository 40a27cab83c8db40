/- References and results, as they come back. -/
import Derived.Test.YtmlbknmjgahcfaaDoorEvO
namespace Go.Ev
open Go

variable {P : Program} {tb : Tab} {N : Nat} {W : Nat → Prop} {a0 : Act} {g0 : Gh} {w0 : World} {D0 : Nat → Prop}
variable {s s' : St tb.T} {g g' : Gh} {μ μ' : Nat → Nat} {τ τ' : Nat → Option Nat} {a : Act} {w w' : World}

theorem atRefs_blk {get : Nat → Option (SV tb.T)} : ∀ {l : LSpec} {bs : List (Option Nat)}, BlkL s μ τ get l bs → BlkL s μ τ get (refsOf l) (atRefs l bs)
  | [], [], _ => trivial
  | q :: l, b :: bs, ⟨h1, h2⟩ => by
    simp only [refsOf, atRefs]
    cases q.2.isRef
    · exact atRefs_blk h2
    · exact ⟨h1, atRefs_blk h2⟩
theorem atRefs_sub {α : Type} : ∀ {l : LSpec} {bs : List α}, (atRefs l bs).Sublist bs
  | [], _ => by simp [atRefs]
  | q :: l, [] => by simp [atRefs]
  | q :: l, b :: bs => by
    simp only [atRefs]
    cases q.2.isRef
    · exact (atRefs_sub (l := l)).cons _
    · exact (atRefs_sub (l := l)).cons_cons _
theorem refsOf_isRef : ∀ {l : LSpec}, ∀ q ∈ refsOf l, q.2.isRef = true
  | [], _, h => by simp [refsOf] at h
  | p :: l, q, h => by
    simp only [refsOf] at h
    cases hp : p.2.isRef with
    | false => rw [hp] at h; exact refsOf_isRef q h
    | true =>
      rw [hp] at h
      rcases List.mem_cons.1 h with e | e
      · subst e; exact hp
      · exact refsOf_isRef q e

/-- one reference's block, back in the state -/
theorem ref_one {get : Nat → Option (SV tb.T)} {q : Nat × Pat} {x : X tb q.2} {v : SV tb.T} {u : Value} {b : Option Nat} {so : St tb.T}
    (h : SimAt P tb N W a0 g0 w0 D0 s g μ τ a w) (hq : q.2.isRef = true) (hg : get q.1 = some v) (hb : BlkOf so μ τ q.2 v b) (hp : HoldsP P tb g w q.2 x u b)
    (hso : ∀ i, isLive so i → so.ro i = false → s.used i = true ∧ s.ro i = false ∧ (w0.heap.size ≤ μ i ∨ D0 (μ i))) (hdis : ∀ j k, isLive s j → b = some k → μ j ≠ k) :
    SimAt P tb N W a0 g0 w0 D0 (putRefs.one tb get s q x) g μ τ a w ∧ (∀ j, isLive (putRefs.one tb get s q x) j → isLive s j ∨ b = some (μ j)) ∧
      (putRefs.one tb get s q x).tok = s.tok ∧ (putRefs.one tb get s q x).used = s.used ∧ (putRefs.one tb get s q x).ro = s.ro ∧ (putRefs.one tb get s q x).env = s.env := by
  obtain ⟨t, p⟩ := q
  cases p with
  | val e => cases hq
  | own e => cases hq
  | ro e => cases hq
  | ref e =>
    rcases v with ac | as | ts
    · cases ac <;> simp only [BlkOf] at hb
      case d => obtain ⟨k, hk, _⟩ := hp; subst hk; cases hb
      case own => obtain ⟨k, hk, _⟩ := hp; subst hk; cases hb
      case cptr => obtain ⟨k, hk, _⟩ := hp; subst hk; cases hb
      case fn => obtain ⟨k, hk, _⟩ := hp; subst hk; cases hb
      case ptr i o =>
        obtain ⟨k, hk, _, hB⟩ := hp
        obtain ⟨hbi, hl, hro⟩ := hb
        obtain ⟨hu, hr, hw⟩ := hso i hl hro
        have hki : μ i = k := by rw [hk] at hbi; exact (Option.some.inj hbi).symm
        subst hki
        have hone : putRefs.one tb get s (t, .ref e) x = { s with blk := upd s.blk i (some ((tb.enc e x).map .d)) } := by
          simp only [putRefs.one]
          simp only at hg
          rw [hg]
        rw [hone]
        refine ⟨h.addBlk (fun hl => hdis i _ hl hk rfl) hu hB hw (fun j hj => hdis j _ hj hk), fun j hj => ?_, rfl, rfl, rfl, rfl⟩
        by_cases e' : j = i
        · subst e'; exact .inr hk
        · left; simpa [isLive, upd_eq, e'] using hj
    · obtain ⟨k, hk, _⟩ := hp; simp only [BlkOf] at hb; rw [hb] at hk; cases hk
    · obtain ⟨k, hk, _⟩ := hp; simp only [BlkOf] at hb; rw [hb] at hk; cases hk
  | iter =>
    rcases v with ac | as | ts
    · cases ac <;> simp only [BlkOf] at hb
      case d => obtain ⟨k, hk, _⟩ := hp; subst hk; cases hb
      case own => obtain ⟨k, hk, _⟩ := hp; subst hk; cases hb
      case cptr => obtain ⟨k, hk, _⟩ := hp; subst hk; cases hb
      case fn => obtain ⟨k, hk, _⟩ := hp; subst hk; cases hb
      case ptr i o =>
        obtain ⟨k, hk, _, hB⟩ := hp
        obtain ⟨hbi, hl, hro⟩ := hb
        obtain ⟨hu, hr, hw⟩ := hso i hl hro
        have hki : μ i = k := by rw [hk] at hbi; exact (Option.some.inj hbi).symm
        subst hki
        have hone : putRefs.one tb get s (t, .iter) x = { s with itr := upd s.itr i (some x) } := by
          simp only [putRefs.one]
          simp only at hg
          rw [hg]
        rw [hone]
        refine ⟨h.addItr (fun hl => hdis i _ hl hk rfl) hu hr hB hw (fun j hj => hdis j _ hj hk), fun j hj => ?_, rfl, rfl, rfl, rfl⟩
        by_cases e' : j = i
        · subst e'; exact .inr hk
        · left; simpa [isLive, upd_eq, e'] using hj
    · obtain ⟨k, hk, _⟩ := hp; simp only [BlkOf] at hb; rw [hb] at hk; cases hk
    · obtain ⟨k, hk, _⟩ := hp; simp only [BlkOf] at hb; rw [hb] at hk; cases hk

theorem mem_blocks_cons {b : Option Nat} {bs : List (Option Nat)} {k : Nat} : k ∈ blocksOf (b :: bs) ↔ b = some k ∨ k ∈ blocksOf bs := by
  unfold blocksOf
  rw [List.filterMap_cons]
  cases b with
  | none => simp
  | some k' => simp only [id_eq, List.mem_cons, Option.some.injEq]; constructor <;> (rintro (h | h); exact .inl h.symm; exact .inr h)

theorem nodup_blocks_cons {b : Option Nat} {bs : List (Option Nat)} (h : (blocksOf (b :: bs)).Nodup) : (blocksOf bs).Nodup ∧ ∀ k, b = some k → k ∉ blocksOf bs := by
  unfold blocksOf at *
  rw [List.filterMap_cons] at h
  cases b with
  | none => exact ⟨h, by simp⟩
  | some k => exact ⟨(List.nodup_cons.1 h).2, fun k' hk' => by injection hk' with hk'; subst hk'; exact (List.nodup_cons.1 h).1⟩

theorem putRefs_sim {get : Nat → Option (SV tb.T)} {so : St tb.T} : ∀ {rs : LSpec} {x : XS tb rs} {us : List Value} {bs : List (Option Nat)} {s : St tb.T},
    SimAt P tb N W a0 g0 w0 D0 s g μ τ a w → (∀ q ∈ rs, q.2.isRef = true) → BlkL so μ τ get rs bs → HoldsL P tb g w rs x us bs → (blocksOf bs).Nodup →
    (∀ i, isLive so i → so.ro i = false → s.used i = true ∧ s.ro i = false ∧ (w0.heap.size ≤ μ i ∨ D0 (μ i))) → (∀ j, isLive s j → μ j ∉ blocksOf bs) →
    SimAt P tb N W a0 g0 w0 D0 (putRefs tb s get rs x) g μ τ a w ∧ (∀ j, isLive (putRefs tb s get rs x) j → isLive s j ∨ μ j ∈ blocksOf bs) ∧
      (putRefs tb s get rs x).tok = s.tok ∧ (putRefs tb s get rs x).used = s.used ∧ (putRefs tb s get rs x).ro = s.ro ∧ (putRefs tb s get rs x).env = s.env
  | [], x, us, bs, s, h, _, _, _, _, _, _ => ⟨h, fun j hj => .inl hj, rfl, rfl, rfl, rfl⟩
  | [q], x, us, [b], s, h, hq, ⟨⟨v, hg, hb⟩, _⟩, hl, hn, hso, hdis => by
    cases us with
    | nil => exact hl.elim
    | cons u us =>
      cases us with
      | cons _ _ => exact hl.elim
      | nil =>
        obtain ⟨k1, k2, k3⟩ := ref_one h (hq q (by simp)) hg hb hl hso (fun j k hj hk e => hdis j hj (by rw [e]; exact mem_blocks_cons.2 (.inl hk)))
        exact ⟨k1, fun j hj => (k2 j hj).imp id (fun hk => mem_blocks_cons.2 (.inl hk)), k3⟩
  | q :: q' :: rs, (x, xs), us, b :: bs, s, h, hq, ⟨⟨v, hg, hb⟩, hbl⟩, hl, hn, hso, hdis => by
    cases us with
    | nil => exact hl.elim
    | cons u us =>
      obtain ⟨hl1, hl2⟩ := hl
      obtain ⟨n1, n2⟩ := nodup_blocks_cons hn
      obtain ⟨k1, k2, k3, k4, k5, k6⟩ := ref_one h (hq q (by simp)) hg hb hl1 hso (fun j k hj hk e => hdis j hj (by rw [e]; exact mem_blocks_cons.2 (.inl hk)))
      obtain ⟨m1, m2, m3, m4, m5, m6⟩ := putRefs_sim (rs := q' :: rs) k1 (fun p hp => hq p (by simp [hp])) hbl hl2 n1 (fun i hi hr => by rw [k4, k5]; exact hso i hi hr) (fun j hj hm => by
        rcases k2 j hj with c | c
        · exact hdis j c (mem_blocks_cons.2 (.inr hm))
        · exact n2 _ c hm)
      refine ⟨m1, fun j hj => ?_, m3.trans k3, m4.trans k4, m5.trans k5, m6.trans k6⟩
      rcases m2 j hj with c | c
      · exact (k2 j c).imp id (fun hk => mem_blocks_cons.2 (.inl hk))
      · exact .inr (mem_blocks_cons.2 (.inr c))
  | [_], _, _, [], _, _, _, hb, _, _, _, _ => hb.elim
  | [_], _, _, _ :: _ :: _, _, _, _, hb, _, _, _, _ => hb.2.elim
  | _ :: _ :: _, _, _, [], _, _, _, hb, _, _, _, _ => hb.elim

/-! ## results -/
/-- what a new owned thing needs -/
def NewBlk (_P : Program) (tb : Tab) (w0 : World) (D0 : Nat → Prop) (s : St tb.T) (τ : Nat → Option Nat) (k : Nat) : Prop :=
  (w0.heap.size ≤ k ∨ D0 k) ∧ ∀ t, s.tok t = true → τ t ≠ some k

theorem own_block {e len : Nat} {b : Option Nat} {v : Value} {k : Nat} (h : OwnAt P g w b e len v) (hb : b = some k) : (∃ n, g k = .ar n) ∧ k < w.heap.size := by
  rcases h with ⟨_, h, _⟩ | ⟨k', off, cap, cells, el, fz, h1, _, h3, h4, _⟩
  · rw [hb] at h; cases h
  · rw [hb] at h1; injection h1 with h1; subst h1
    exact ⟨⟨_, h3⟩, (Array.getElem?_eq_some_iff.1 h4).1⟩

/-- an owned thing under a new identity -/
theorem SimAt.tok1 (h : SimAt P tb N W a0 g0 w0 D0 s g μ τ a w) {d e : Nat} {xs : List (tb.T e)} {v : Value} {b : Option Nat} (hun : s.used d = false) (hp : HoldsP P tb g w (.own e) xs v b) (hb : ∀ k, b = some k → NewBlk P tb w0 D0 s τ k) :
    SimAt P tb N W a0 g0 w0 D0 { s with tok := upd s.tok d true, used := upd s.used d true } g μ (upd τ d b) a w ∧ RepC P tb g w μ (upd τ d b) (upd s.tok d true) (.own e xs d) v := by
  refine ⟨h.newTok (D := fun _ => False) (Ext.refl _ _ _) [] hun (fun _ _ f => f.elim) (fun _ _ _ _ _ f => f) (fun _ _ f => f) (fun k hk => ?_), hp.1, fun _ => by rw [upd_same]; exact hp.2⟩
  obtain ⟨h1, h2⟩ := own_block hp.2 hk
  exact ⟨h1, h2, (hb k hk).1, fun t ht _ => (hb k hk).2 t ht⟩

structure Later (s s' : St tb.T) (τ τ' : Nat → Option Nat) (bs : List (Option Nat)) : Prop where
  used : ∀ i, s.used i = true → s'.used i = true ∧ τ' i = τ i ∧ s'.tok i = s.tok i
  toks : ∀ t k, s'.tok t = true → τ' t = some k → (s.tok t = true ∧ τ t = some k) ∨ k ∈ blocksOf bs
  env : s'.env = s.env

theorem Later.carry {bs : List (Option Nat)} (h : Later s s' τ τ' bs) : Carry g w μ τ s.tok g w μ τ' s'.tok (fun i => s.used i = true) :=
  ⟨Keeps.refl _ _, fun i hi => ⟨rfl, (h.used i hi).2.1⟩, fun i hi ht => by rw [(h.used i hi).2.2] at ht; exact ht, fun _ _ _ _ _ => ⟨rfl, rfl⟩⟩

theorem part1_sim {d j : Nat} {q : Nat × Pat} {x : X tb q.2} {v : Value} {b : Option Nat} {p : Bool × List (AC tb.T)} (h : SimAt P tb N W a0 g0 w0 D0 s g μ τ a w) (hp : HoldsP P tb g w q.2 x v b)
    (hb : ∀ k, b = some k → NewBlk P tb w0 D0 s τ k) (ho : outTup.part1 P tb d s j q x = some (p, s')) :
    ∃ τ', SimAt P tb N W a0 g0 w0 D0 s' g μ τ' a w ∧ RepT P tb g w μ τ' s'.tok p v ∧ (∀ y ∈ p.2, ∀ i ∈ y.ids, s'.used i = true) ∧ Later s s' τ τ' [b] := by
  obtain ⟨t, pt⟩ := q
  cases pt with
  | val e =>
    obtain ⟨hv, rfl⟩ := hp
    have ho : (bif isAggB P e then some ((true, (tb.enc e x).map AC.d), s) else (match tb.enc e x with | [c] => some ((false, [AC.d c]), s) | _ => none)) = some (p, s') := ho
    unfold HoldsV at hv
    have hl : Later s s τ τ [none] := ⟨fun i hi => ⟨hi, rfl, rfl⟩, fun t k ht hk => .inl ⟨ht, hk⟩, rfl⟩
    cases ha : isAggB P e with
    | true =>
      simp only [ha, cond_true, Option.some.injEq, Prod.mk.injEq, if_true] at ho hv
      obtain ⟨rfl, rfl⟩ := ho
      obtain ⟨us, rfl, hr⟩ := hv
      refine ⟨τ, h, ⟨us, rfl, All2_d hr⟩, ?_, hl⟩
      intro y hy i hi
      simp only [List.mem_map] at hy; obtain ⟨_, _, rfl⟩ := hy
      simp [AC.ids] at hi
    | false =>
      simp only [ha, Bool.false_eq_true, if_false, cond_false] at ho hv
      obtain ⟨c, hc, hd⟩ := hv
      rw [hc] at ho
      simp only [Option.some.injEq, Prod.mk.injEq] at ho
      obtain ⟨rfl, rfl⟩ := ho
      exact ⟨τ, h, ⟨_, rfl, hd⟩, by simp [AC.ids], hl⟩
  | own e =>
    have ho : (bif s.used (d + 65536 * j) then none else some ((false, [AC.own e x (d + 65536 * j)]), { s with tok := upd s.tok (d + 65536 * j) true, used := upd s.used (d + 65536 * j) true })) = some (p, s') := ho
    cases hu : s.used (d + 65536 * j) with
    | true => simp [hu] at ho
    | false =>
      simp only [hu, cond_false, Option.some.injEq, Prod.mk.injEq] at ho
      obtain ⟨rfl, rfl⟩ := ho
      obtain ⟨k1, k2⟩ := h.tok1 hu hp hb
      have hne : ∀ i, s.used i = true → i ≠ d + 65536 * j := fun i hi e' => by rw [← e', hi] at hu; cases hu
      refine ⟨_, k1, ⟨_, rfl, k2⟩, by simp [AC.ids, upd_same], ⟨fun i hi => ⟨?_, upd_other _ _ (hne i hi), upd_other _ _ (hne i hi)⟩, fun t' k ht hk => ?_, rfl⟩⟩
      · show upd s.used _ true i = true
        rw [upd_other _ _ (hne i hi)]; exact hi
      · have ht : upd s.tok (d + 65536 * j) true t' = true := ht
        by_cases e' : t' = d + 65536 * j
        · subst e'; rw [upd_same] at hk; exact .inr (by simp [blocksOf, hk])
        · rw [upd_other _ _ e'] at ht hk; exact .inl ⟨ht, hk⟩
  | ref e => cases ho
  | ro e => cases ho
  | iter => cases ho

theorem Later.trans {s'' : St tb.T} {τ'' : Nat → Option Nat} {b : Option Nat} {bs : List (Option Nat)} (h : Later s s' τ τ' [b]) (k : Later s' s'' τ' τ'' bs) : Later s s'' τ τ'' (b :: bs) :=
  ⟨fun i hi => ⟨(k.used i (h.used i hi).1).1, ((k.used i (h.used i hi).1).2.1).trans (h.used i hi).2.1, ((k.used i (h.used i hi).1).2.2).trans (h.used i hi).2.2⟩,
   fun t q ht hq => by
    rcases k.toks t q ht hq with ⟨c1, c2⟩ | c
    · rcases h.toks t q c1 c2 with c | c
      · exact .inl c
      · refine .inr (mem_blocks_cons.2 (.inl ?_))
        rcases mem_blocks_cons.1 c with c | c
        · exact c
        · simp [blocksOf] at c
    · exact .inr (mem_blocks_cons.2 (.inr c)), k.env.trans h.env⟩

theorem newblk_later {b : Option Nat} {bs : List (Option Nat)} (h : Later s s' τ τ' [b]) (hn : ∀ k, b = some k → k ∉ blocksOf bs) (hb : ∀ k ∈ blocksOf bs, NewBlk P tb w0 D0 s τ k) : ∀ k ∈ blocksOf bs, NewBlk P tb w0 D0 s' τ' k := fun k hk => by
  refine ⟨(hb k hk).1, fun t ht he => ?_⟩
  rcases h.toks t k ht he with ⟨c1, c2⟩ | c
  · exact (hb k hk).2 t c1 c2
  · have : b = some k := by
      cases b with
      | none => simp [blocksOf] at c
      | some k' => simp [blocksOf] at c; rw [c]
    exact hn k this hk

theorem outTup_sim {d : Nat} : ∀ {l : LSpec} {j : Nat} {x : XS tb l} {us : List Value} {bs : List (Option Nat)} {s s' : St tb.T} {τ : Nat → Option Nat} {ps : List (Bool × List (AC tb.T))},
    SimAt P tb N W a0 g0 w0 D0 s g μ τ a w → HoldsL P tb g w l x us bs → (blocksOf bs).Nodup → (∀ k ∈ blocksOf bs, NewBlk P tb w0 D0 s τ k) → outTup P tb d s j l x = some (ps, s') →
    ∃ τ', SimAt P tb N W a0 g0 w0 D0 s' g μ τ' a w ∧ All2 (RepT P tb g w μ τ' s'.tok) ps us ∧ (∀ p ∈ ps, ∀ y ∈ p.2, ∀ i ∈ y.ids, s'.used i = true) ∧ Later s s' τ τ' bs
  | [], j, x, us, bs, s, s', τ, ps, h, hl, _, _, ho => by
    simp only [outTup, Option.some.injEq, Prod.mk.injEq] at ho
    obtain ⟨rfl, rfl⟩ := ho
    cases us with
    | cons _ _ => exact hl.elim
    | nil => exact ⟨τ, h, trivial, by simp, ⟨fun i hi => ⟨hi, rfl, rfl⟩, fun t k ht hk => .inl ⟨ht, hk⟩, rfl⟩⟩
  | [q], j, x, us, bs, s, s', τ, ps, h, hl, hn, hb, ho => by
    simp only [outTup] at ho
    cases hp : outTup.part1 P tb d s j q x with
    | none => simp [hp] at ho
    | some r =>
      obtain ⟨p, s1⟩ := r
      simp only [hp, Option.some.injEq, Prod.mk.injEq] at ho
      obtain ⟨rfl, rfl⟩ := ho
      match us, bs, hl with
      | [u], [b], hl =>
        obtain ⟨τ', k1, k2, k3, k4⟩ := part1_sim h hl (fun k hk => hb k (mem_blocks_cons.2 (.inl hk))) hp
        exact ⟨τ', k1, ⟨k2, trivial⟩, by simpa using k3, k4⟩
  | q :: q' :: l, j, (x, xs), us, bs, s, s', τ, ps, h, hl, hn, hb, ho => by
    simp only [outTup] at ho
    cases hp : outTup.part1 P tb d s j q x with
    | none => simp [hp] at ho
    | some r =>
      obtain ⟨p, s1⟩ := r
      simp only [hp] at ho
      cases hr : outTup P tb d s1 (j + 1) (q' :: l) xs with
      | none => simp [hr] at ho
      | some r' =>
        obtain ⟨ps', s2⟩ := r'
        simp only [hr, Option.some.injEq, Prod.mk.injEq] at ho
        obtain ⟨rfl, rfl⟩ := ho
        match us, bs, hl with
        | u :: us, b :: bs, hl =>
          obtain ⟨n1, n2⟩ := nodup_blocks_cons hn
          obtain ⟨τ1, k1, k2, k3, k4⟩ := part1_sim h hl.1 (fun k hk => hb k (mem_blocks_cons.2 (.inl hk))) hp
          obtain ⟨τ2, m1, m2, m3, m4⟩ := outTup_sim k1 hl.2 n1 (newblk_later k4 n2 (fun k hk => hb k (mem_blocks_cons.2 (.inr hk)))) hr
          refine ⟨τ2, m1, ⟨RepT.carry m4.carry k3 k2, m2⟩, ?_, k4.trans m4⟩
          intro p' hp' y hy i hi
          rcases List.mem_cons.1 hp' with e | e
          · subst e; exact (m4.used i (k3 y hy i hi)).1
          · exact m3 p' e y hy i hi

theorem putOuts_sim {dst : Option Nat} {l : LSpec} {x : XS tb l} {us : List Value} {bs : List (Option Nat)} {v : Value} (h : SimAt P tb N W a0 g0 w0 D0 s g μ τ a w) (hl : HoldsL P tb g w l x us bs) (hn : (blocksOf bs).Nodup)
    (hb : ∀ k ∈ blocksOf bs, NewBlk P tb w0 D0 s τ k) (hv : RetV l us v) (hd : ∀ d, dst = some d → d < N ∧ W d) (ho : putOuts P tb dst s l x = some s') :
    ∃ τ', SimAt P tb N W a0 g0 w0 D0 s' g μ τ' (a.put dst v) w := by
  match l, x, ho with
  | [], x, ho =>
    simp only [putOuts, Option.some.injEq] at ho; subst ho
    match us, bs, hl with
    | [], [], _ =>
      simp only [RetV] at hv; subst hv
      exact ⟨τ, h.putO hd (v := .tup []) ⟨[], rfl, trivial⟩ (by simp [SV.ids])⟩
  | [q], x, ho =>
    match us, bs, hl with
    | [u], [b], hl =>
      simp only [RetV] at hv; subst hv
      cases dst with
      | none => simp only [putOuts, Option.some.injEq] at ho; subst ho; exact ⟨τ, h⟩
      | some d =>
        simp only [putOuts] at ho
        obtain ⟨t, p⟩ := q
        cases p with
        | val e =>
          have ho : some (s.put d (valSV P e (tb.enc e x))) = some s' := ho
          simp only [Option.some.injEq] at ho; subst ho
          obtain ⟨k1, k2⟩ := valSV_sound (μ := μ) (τ := τ) (tok := s.tok) hl.1
          exact ⟨τ, h.put (hd d rfl).1 (hd d rfl).2 k1 (by rw [k2]; simp)⟩
        | own e =>
          have ho : (bif s.used d then none else some { s with env := upd s.env d (some (.c (.own e x d))), tok := upd s.tok d true, used := upd s.used d true }) = some s' := ho
          cases hu : s.used d with
          | true => simp [hu] at ho
          | false =>
            simp only [hu, cond_false, Option.some.injEq] at ho; subst ho
            obtain ⟨k1, k2⟩ := h.tok1 hu hl (fun k hk => hb k (mem_blocks_cons.2 (.inl hk)))
            exact ⟨_, k1.put (hd d rfl).1 (hd d rfl).2 (v := .c (.own e x d)) k2 (by simp [SV.ids, AC.ids, upd_same])⟩
        | ref e => cases ho
        | ro e => cases ho
        | iter => cases ho
  | q :: q' :: l, x, ho =>
    have hv : v = .tuple us.toArray := by
      match us, hl, hv with
      | [], hl, _ => exact hl.elim
      | [u], _, hv => exact hv
      | u :: u' :: us, _, hv => exact hv
    subst hv
    cases dst with
    | none => simp only [putOuts, Option.some.injEq] at ho; subst ho; exact ⟨τ, h⟩
    | some d =>
      simp only [putOuts] at ho
      cases hr : outTup P tb d s 0 (q :: q' :: l) x with
      | none => simp [hr] at ho
      | some r =>
        obtain ⟨ps, s1⟩ := r
        simp only [hr, Option.some.injEq] at ho; subst ho
        obtain ⟨τ1, k1, k2, k3, k4⟩ := outTup_sim h hl hn hb hr
        exact ⟨τ1, k1.put (hd d rfl).1 (hd d rfl).2 (v := .tup ps) ⟨us, rfl, k2⟩ (by
          intro i hi
          simp only [SV.ids, List.mem_flatMap] at hi
          obtain ⟨p, hp, y, hy, hi⟩ := hi
          exact k3 p hp y hy i hi)⟩
end Go.Ev
