/- Operations that look at temporaries alone, more: '==' of structs, signs, conversions. -/
import Derived.Test.YtmlbknmjgahcfaaDoorEv5
namespace Go.Ev
open Go

variable {P : Program} {tb : Tab} {g : Gh} {w : World} {μ : Nat → Nat} {τ : Nat → Option Nat} {tok : Nat → Bool}

/-! ## '==' of structs -/
def eq1 {T : Nat → Type} : CV T → CV T → Bool
  | .int _ a, .int _ b => decide (a = b)
  | .bool a, .bool b => decide (a = b)
  | .str a, .str b => decide (a = b)
  | _, _ => false
def eqB {T : Nat → Type} : List (CV T) → List (CV T) → Bool
  | [], [] => true
  | c :: cs, d :: ds => eq1 c d && eqB cs ds
  | _, _ => false
def kin {T : Nat → Type} : Nat → CV T → CV T → Prop
  | 0, .int k _, .int k' _ => k = k'
  | 1, .bool _, .bool _ => True
  | 2, .str _, .str _ => True
  | _, _, _ => False
def Kin {T : Nat → Type} : List Nat → List (CV T) → List (CV T) → Prop
  | [], [], [] => True
  | l :: ls, c :: cs, d :: ds => kin l c d ∧ Kin ls cs ds
  | _, _, _ => False

theorem eqCell_spec {T : Nat → Type} {R : Type} {l : Nat} {c d : CV T} {κ : Bool → Option R} {r : R} (h : eqCell l c d κ = some r) : kin l c d ∧ κ (eq1 c d) = some r := by
  unfold eqCell at h
  split at h
  · rename_i k a k' b
    by_cases e : k = k'
    · simp only [e, decide_true, cond_true] at h; exact ⟨e, h⟩
    · simp [e] at h
  · exact ⟨trivial, h⟩
  · exact ⟨trivial, h⟩
  · cases h

theorem eqCells_spec {T : Nat → Type} {R : Type} : ∀ {ls : List Nat} {cs ds : List (CV T)} {κ : Bool → Option R} {r : R}, eqCells ls cs ds κ = some r → Kin ls cs ds ∧ κ (eqB cs ds) = some r
  | [], [], [], κ, r, h => ⟨trivial, h⟩
  | l :: ls, x :: xs, y :: ys, κ, r, h => by
    simp only [eqCells] at h
    obtain ⟨h1, h2⟩ := eqCell_spec h
    cases ls with
    | nil =>
      cases xs with
      | nil => cases ys with
        | nil => exact ⟨⟨h1, trivial⟩, by simpa [eqB] using h2⟩
        | cons y ys => cases h2
      | cons x xs => cases h2
    | cons l' ls =>
      obtain ⟨h3, h4⟩ := eqCells_spec h2
      exact ⟨⟨h1, h3⟩, by simpa [eqB] using h4⟩
  | [], [], _ :: _, _, _, h => by simp [eqCells] at h
  | [], _ :: _, _, _, _, h => by simp [eqCells] at h
  | _ :: _, [], _, _, _, h => by simp [eqCells] at h
  | _ :: _, _ :: _, [], _, _, h => by simp [eqCells] at h

theorem Kin.length {T : Nat → Type} : ∀ {ls : List Nat} {cs ds : List (CV T)}, Kin ls cs ds → cs.length = ls.length ∧ ds.length = ls.length
  | [], [], [], _ => ⟨rfl, rfl⟩
  | _ :: _, _ :: _, _ :: _, ⟨_, h⟩ => by simp [Kin.length h]
  | [], [], _ :: _, h => h.elim
  | [], _ :: _, _, h => h.elim
  | _ :: _, [], _, h => h.elim
  | _ :: _, _ :: _, [], h => h.elim
theorem Kin.split {T : Nat → Type} : ∀ {ls ms : List Nat} {cs ds : List (CV T)}, Kin (ls ++ ms) cs ds →
    Kin ls (cs.take ls.length) (ds.take ls.length) ∧ Kin ms (cs.drop ls.length) (ds.drop ls.length) ∧ eqB cs ds = (eqB (cs.take ls.length) (ds.take ls.length) && eqB (cs.drop ls.length) (ds.drop ls.length))
  | [], ms, cs, ds, h => by simpa [Kin, eqB] using h
  | l :: ls, ms, [], ds, h => by cases ds <;> exact h.elim
  | l :: ls, ms, _ :: _, [], h => h.elim
  | l :: ls, ms, c :: cs, d :: ds, h => by
    obtain ⟨h1, h2⟩ := h
    obtain ⟨k1, k2, k3⟩ := Kin.split (ls := ls) (ms := ms) h2
    refine ⟨⟨h1, k1⟩, k2, ?_⟩
    simp only [eqB, List.length_cons, List.take_succ_cons, List.drop_succ_cons, k3, Bool.and_assoc]

theorem run_underlying' {t : Nat} {d : TypeDesc} (h : P.underlying t = some d) (w : World) : (underlying t).run P w = .ok d w := run_underlying h w
theorem info_of_underlying {t : Nat} {d : TypeDesc} (h : P.underlying t = some d) : ∃ i, P.info? t = some i := by
  unfold Program.underlying at h
  cases hi : P.info? t with
  | none => simp [hi] at h
  | some i => exact ⟨i, rfl⟩
theorem info_of_sized {t : Nat} (h : sized P t = true) : ∃ i, P.info? t = some i := by
  unfold sized Program.cellsOf at h
  cases hi : P.info? t with
  | none => simp [hi] at h
  | some i => exact ⟨i, rfl⟩
theorem run_typeInfo {t : Nat} {i : TypeInfo} (h : P.info? t = some i) (w : World) : (typeInfo t).run P w = .ok i w := by
  simp [typeInfo, h]
theorem run_sizeOf_ex {t : Nat} (h : ∃ i, P.info? t = some i) (w : World) : (sizeOf t).run P w = .ok (P.cellsOf t) w := by
  obtain ⟨i, h⟩ := h
  simp [sizeOf, run_typeInfo h, Program.cellsOf, h]
theorem run_isAgg_of {t : Nat} {b : Bool} (h : aggOf P t = some b) (w : World) : (isAgg t).run P w = .ok b w := by
  unfold aggOf at h
  cases hu : P.underlying t with
  | none => simp [hu] at h
  | some d =>
    cases d <;> simp only [hu, Option.some.injEq] at h <;> subst h <;> simp [isAgg, run_underlying hu]
theorem underlying_of_agg {t : Nat} {b : Bool} (h : aggOf P t = some b) : ∃ d, P.underlying t = some d := by
  unfold aggOf at h
  cases hu : P.underlying t with
  | none => simp [hu] at h
  | some d => exact ⟨d, rfl⟩

theorem run_part_agg {t : Nat} (h : aggOf P t = some true) (cs : Array Value) (off : Nat) (w : World) : (part t cs off).run P w = .ok (.agg (cs.extract off (off + P.cellsOf t))) w := by
  obtain ⟨d, hd⟩ := underlying_of_agg h
  simp [part, run_isAgg_of h, run_sizeOf_ex (info_of_underlying hd)]
theorem run_part_cell {t : Nat} (h : aggOf P t = some false) {cs : Array Value} {off : Nat} {v : Value} (hv : cs[off]? = some v) (w : World) : (part t cs off).run P w = .ok v w := by
  simp [part, run_isAgg_of h, hv]

/-- what values of a type that has leaves look like, in cells -/
def Shape (P : Program) (t : Nat) (us : List Value) (v : Value) : Prop :=
  (aggOf P t = some true ∧ v = .agg us.toArray) ∨ (aggOf P t = some false ∧ us = [v])

theorem leaves_agg {d t : Nat} {ls : List Nat} (h : leaves P d t = some ls) : ∃ b, aggOf P t = some b ∧ (b = false → ls.length = 1) := by
  cases d with
  | zero => simp [leaves] at h
  | succ d =>
    simp only [leaves] at h
    unfold aggOf
    cases hu : P.underlying t with
    | none => simp [hu] at h
    | some d' =>
      cases d' <;> simp only [hu, Option.some.injEq, reduceCtorEq] at h ⊢
      all_goals first
        | (subst h; exact ⟨false, rfl, fun _ => rfl⟩)
        | exact ⟨true, rfl, fun e => by cases e⟩

theorem run_equal_leaves : ∀ (d t : Nat) (ls : List Nat), leaves P d t = some ls → ∀ (D : Nat), d ≤ D → ∀ (cs ds : List (CV tb.T)) (us vs : List Value) (u v : Value), Kin ls cs ds →
    All2 (RepD P tb g w) cs us → All2 (RepD P tb g w) ds vs → Shape P t us u → Shape P t vs v →
    (Op.equalIn D t u v).run P w = .ok (eqB cs ds) w := by
  intro d
  induction d with
  | zero => intro t ls h; simp [leaves] at h
  | succ d ih =>
    intro t ls h D hD cs ds us vs u v hk hc hd hsu hsv
    obtain ⟨D, rfl⟩ : ∃ D', D = D' + 1 := ⟨D - 1, by omega⟩
    simp only [leaves] at h
    cases hu : P.underlying t with
    | none => simp [hu] at h
    | some ty =>
      have scalar : aggOf P t = some false → ∃ c d' x y, cs = [c] ∧ ds = [d'] ∧ u = x ∧ v = y ∧ RepD P tb g w c x ∧ RepD P tb g w d' y ∧ us = [x] ∧ vs = [y] := fun ha => by
        rcases hsu with ⟨h1, _⟩ | ⟨_, h1⟩
        · rw [ha] at h1; cases h1
        rcases hsv with ⟨h2, _⟩ | ⟨_, h2⟩
        · rw [ha] at h2; cases h2
        subst h1; subst h2
        cases cs with
        | nil => exact hc.elim
        | cons c cs =>
          obtain ⟨r1, r2⟩ := hc
          cases cs with
          | cons _ _ => exact r2.elim
          | nil =>
            cases ds with
            | nil => exact hd.elim
            | cons d' ds =>
              obtain ⟨q1, q2⟩ := hd
              cases ds with
              | cons _ _ => exact q2.elim
              | nil => exact ⟨c, d', u, v, rfl, rfl, rfl, rfl, r1, q1, rfl, rfl⟩
      cases ty <;> simp only [hu, Option.some.injEq, reduceCtorEq] at h
      case int k =>
        subst h
        obtain ⟨c, d', x, y, rfl, rfl, rfl, rfl, r1, r2, _, _⟩ := scalar (by simp [aggOf, hu])
        obtain ⟨hk, _⟩ := hk
        cases c <;> cases d' <;> simp only [kin] at hk
        cases r1; cases r2
        subst hk
        rw [run_equalIn_int _ _ _ _ _ _ _ hu]
        simp [eqB, eq1]
        rfl
      case bool =>
        subst h
        obtain ⟨c, d', x, y, rfl, rfl, rfl, rfl, r1, r2, _, _⟩ := scalar (by simp [aggOf, hu])
        obtain ⟨hk, _⟩ := hk
        cases c <;> cases d' <;> simp only [kin] at hk
        cases r1; cases r2
        rw [run_equalIn_bool' _ _ _ _ _ hu]
        simp [eqB, eq1]
        rfl
      case string =>
        subst h
        obtain ⟨c, d', x, y, rfl, rfl, rfl, rfl, r1, r2, _, _⟩ := scalar (by simp [aggOf, hu])
        obtain ⟨hk, _⟩ := hk
        cases c <;> cases d' <;> simp only [kin] at hk
        cases r1; cases r2
        rw [run_equalIn_string _ _ _ _ _ hu, toList_mk, toList_mk]
        have key : ∀ a b : List UInt8, (a == b) = eqB [CV.str (T := tb.T) a] [CV.str b] := fun a b => by
          by_cases e : a = b
          · subst e; simp [eqB, eq1]
          · simp [eqB, eq1, e]
        rw [key]
      case struct fs =>
        have ha : aggOf P t = some true := by simp [aggOf, hu]
        rcases hsu with ⟨_, hsu⟩ | ⟨h1, _⟩
        · rcases hsv with ⟨_, hsv⟩ | ⟨h1, _⟩
          · subst hsu; subst hsv
            cases hst : P.stoodInHeld t with
            | true => simp [hst] at h
            | false =>
              simp only [hst, cond_false] at h
              have hf : P.fieldsOf t = fs := by simp [Program.fieldsOf, hu]
              rw [run_equalIn_struct _ _ _ _ _ (by rw [hf]; exact hu) hst, hf]
              have key : ∀ (fl : List Field) (o : Nat) (ls : List Nat), leaves.leavesF (leaves P d) P fl o = some ls → ∀ (cs ds : List (CV tb.T)), Kin ls cs ds →
                  All2 (RepD P tb g w) cs (us.drop o) → All2 (RepD P tb g w) ds (vs.drop o) →
                  (Op.eqFields D us.toArray vs.toArray fl).run P w = .ok (eqB cs ds) w := by
                intro fl
                induction fl with
                | nil =>
                  intro o ls hl cs ds hk hc hd
                  simp only [leaves.leavesF, Option.some.injEq] at hl; subst hl
                  cases cs with
                  | cons _ _ => exact hk.elim
                  | nil => cases ds with
                    | cons _ _ => exact hk.elim
                    | nil => simp [Op.eqFields, eqB]
                | cons f fl ihf =>
                  intro o ls hl cs ds hk hc hd
                  simp only [leaves.leavesF] at hl
                  cases hnm : (f.name == "_" || !Nat.beq f.offset o) with
                  | true => simp [hnm] at hl
                  | false =>
                    simp only [hnm, cond_false] at hl
                    simp only [Bool.or_eq_false_iff] at hnm
                    obtain ⟨hn1, hn2⟩ := hnm
                    have hoff : f.offset = o := by
                      have : Nat.beq f.offset o = true := by simpa using hn2
                      exact Nat.eq_of_beq_eq_true this
                    have hname : f.name ≠ "_" := by intro e; rw [e] at hn1; simp at hn1
                    cases hl1 : leaves P d f.type with
                    | none => simp [hl1] at hl
                    | some l1 =>
                      simp only [hl1] at hl
                      cases hb : Nat.beq l1.length (P.cellsOf f.type) with
                      | false => simp [hb] at hl
                      | true =>
                        simp only [hb, cond_true] at hl
                        have hsz := Nat.eq_of_beq_eq_true hb
                        cases hl2 : leaves.leavesF (leaves P d) P fl (o + l1.length) with
                        | none => simp [hl2] at hl
                        | some l2 =>
                          simp only [hl2, Option.some.injEq] at hl; subst hl
                          obtain ⟨k1, k2, k3⟩ := Kin.split hk
                          have c1 := hc.take l1.length
                          have c2 := hc.drop l1.length
                          have d1 := hd.take l1.length
                          have d2 := hd.drop l1.length
                          rw [List.drop_drop] at c2 d2
                          have hlen := Kin.length k1
                          obtain ⟨b, hb1, hb2⟩ := leaves_agg hl1
                          have parts : ∀ zs : List Value, ((zs.drop o).take l1.length).length = l1.length → ∃ p, (part f.type zs.toArray f.offset).run P w = .ok p w ∧ Shape P f.type ((zs.drop o).take l1.length) p := fun zs hz => by
                            cases b with
                            | true =>
                              refine ⟨_, run_part_agg hb1 _ _ _, .inl ⟨hb1, ?_⟩⟩
                              rw [hoff, ← hsz]
                              apply congrArg
                              apply Array.ext'
                              simp [List.take_drop]
                            | false =>
                              have h1 := hb2 rfl
                              rw [h1] at hz ⊢
                              cases hz' : zs.drop o with
                              | nil => rw [hz'] at hz; simp at hz
                              | cons z zr =>
                                refine ⟨z, run_part_cell hb1 (by
                                  rw [hoff]
                                  have : (zs.drop o)[0]? = some z := by rw [hz']; rfl
                                  rw [List.getElem?_drop] at this
                                  simpa using this) _, .inr ⟨hb1, by simp⟩⟩
                          obtain ⟨pu, hpu, su⟩ := parts us (by rw [← c1.length]; exact hlen.1)
                          obtain ⟨pv, hpv, sv⟩ := parts vs (by rw [← d1.length]; exact hlen.2)
                          have he := ih f.type l1 hl1 D (by omega) _ _ _ _ _ _ k1 c1 d1 su sv
                          have hr := ihf (o + l1.length) l2 hl2 _ _ k2 c2 d2
                          simp only [Op.eqFields, hname, ne_eq, not_false_eq_true, if_true, Sem.run_bind, hpu, hpv, he, Result.andThen_ok, Sem.run_ite, hr]
                          rw [k3]
                          cases eqB (List.take l1.length cs) (List.take l1.length ds) <;> simp
              exact key fs.toList 0 ls h cs ds hk (by simpa using hc) (by simpa using hd)
          · rw [ha] at h1; cases h1
        · rw [ha] at h1; cases h1
end Go.Ev
