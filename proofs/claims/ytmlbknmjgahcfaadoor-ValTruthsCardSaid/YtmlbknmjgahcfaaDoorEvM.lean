/- Operations that touch memory are told right. -/
import Derived.Test.YtmlbknmjgahcfaaDoorEvQ
import Derived.Lib.ConvBytes
namespace Go.Ev
open Go

variable {P : Program} {tb : Tab} {N : Nat} {W : Nat → Prop} {a0 : Act} {g0 : Gh} {w0 : World} {D0 : Nat → Prop}
variable {s s' : St tb.T} {g g' : Gh} {μ μ' : Nat → Nat} {τ τ' : Nat → Option Nat} {a : Act} {w w' : World}

theorem val_sound (h : SimAt P tb N W a0 g0 w0 D0 s g μ τ a w) (x : Operand) (v : SV tb.T) (hx : s.val x = some v) : RepV P tb g w μ τ s.tok v (a.eval x) ∧ ∀ i ∈ v.ids, s.used i = true := by
  cases x with
  | tmp t =>
    obtain ⟨u, hu, hr⟩ := h.env t v hx
    refine ⟨?_, h.uenv t v hx⟩
    simp only [Act.eval]
    rw [Array.getD_eq_getD_getElem?, hu]; exact hr
  | const c =>
    simp only [St.val] at hx
    cases hc : (constV c : Option (AC tb.T)) with
    | none => simp [hc] at hx
    | some ac =>
      simp only [hc, Option.some.injEq] at hx; subst hx
      obtain ⟨k1, k2⟩ := constV_sound (P := P) (g := g) (w := w) (μ := μ) (τ := τ) (tok := s.tok) hc
      exact ⟨k1, by simp [SV.ids, k2]⟩
  | global _ => simp [St.val] at hx
  | func f =>
    simp only [St.val, Option.some.injEq] at hx; subst hx
    exact ⟨by simp [RepV, RepC, Act.eval], by simp [SV.ids, AC.ids]⟩

/-- what the next operation finds -/
abbrev Goes (P : Program) (tb : Tab) (N : Nat) (W : Nat → Prop) (a0 : Act) (g0 : Gh) (w0 : World) (D0 : Nat → Prop) (s' : St tb.T) : Act → World → Prop := fun a' w' => Sim P tb N W a0 g0 w0 D0 s' a' w'

theorem wp_value {o : Oper} {u : Value} {K : Act → World → Prop} {Q : Exit → Act → World → Prop} (hr : (execOp a.eval o).run P w = .ok (.value u) w') (hk : K (a.put o.dst u) w') : o.wp P a w K Q := by
  unfold Oper.wp; rw [hr]; exact hk
theorem wp_skip' {o : Oper} {K : Act → World → Prop} {Q : Exit → Act → World → Prop} (hr : (execOp a.eval o).run P w = .ok .skip w') (hk : K (a.put o.dst undef) w') : o.wp P a w K Q := by
  unfold Oper.wp; rw [hr]; exact hk

/-- a slice's cells, one by one -/
def cellsOfSl (tb : Tab) (e : Nat) (xs : List (tb.T e)) : List (CV tb.T) := xs.flatMap (tb.enc e)

theorem flat_get {e n : Nat} : ∀ {xs : List (tb.T e)}, (∀ x ∈ xs, (tb.enc e x).length = n) → ∀ (i : Nat) x (j : Nat), xs[i]? = some x → j < n → (cellsOfSl tb e xs)[i * n + j]? = (tb.enc e x)[j]?
  | [], _, i, x, j, hx, _ => by simp at hx
  | y :: ys, h, 0, x, j, hx, hj => by
    simp at hx; subst hx
    simp only [cellsOfSl, List.flatMap_cons, Nat.zero_mul, Nat.zero_add]
    rw [List.getElem?_append_left (by rw [h y (by simp)]; exact hj)]
  | y :: ys, h, i + 1, x, j, hx, hj => by
    simp only [List.getElem?_cons_succ] at hx
    have ih := flat_get (fun z hz => h z (by simp [hz])) i x j hx hj
    simp only [cellsOfSl, List.flatMap_cons] at ih ⊢
    rw [List.getElem?_append_right (by rw [h y (by simp), Nat.add_mul]; omega), h y (by simp)]
    rw [← ih]; congr 1; rw [Nat.add_mul]; omega
theorem flat_len {e n : Nat} : ∀ {xs : List (tb.T e)}, (∀ x ∈ xs, (tb.enc e x).length = n) → (cellsOfSl tb e xs).length = xs.length * n
  | [], _ => by simp [cellsOfSl]
  | y :: ys, h => by
    have ih := flat_len (xs := ys) (fun z hz => h z (by simp [hz]))
    simp only [cellsOfSl, List.flatMap_cons, List.length_append, List.length_cons] at ih ⊢
    rw [ih, h y (by simp), Nat.add_mul]; omega

/-- the cells of a slice that is read, in memory -/
theorem slice_loads {e : Nat} {xs : List (tb.T e)} {b off cap : Nat} (hr : RepD P tb g w (.sl e xs) (.slice (some ⟨b, off, none⟩) xs.length cap)) :
    ∃ us : List Value, us.length = xs.length * P.cellsOf e ∧ All2 (RepD P tb g w) (cellsOfSl tb e xs) us ∧ (∀ j v, us[j]? = some v → w.cell? ⟨b, off + j, none⟩ = some v) ∧ ∀ x ∈ xs, (tb.enc e x).length = P.cellsOf e := by
  obtain ⟨_, hc⟩ := slice_cells hr
  rcases hc with ⟨_, rfl⟩ | ⟨b', off', cap', hv, h1, h2, h3, h4, val, h5, h6⟩
  · exact ⟨[], by simp, trivial, by simp, by simp⟩
  injection hv with hv _ hv'
  injection hv with hv
  injection hv with e1 e2
  subst e1; subst e2
  have hall : ∀ x ∈ xs, (tb.enc e x).length = P.cellsOf e := fun x hx => by
    obtain ⟨i, hi, hx⟩ := List.getElem_of_mem hx
    exact h3 i x (by rw [List.getElem?_eq_getElem hi, hx])
  let us : List Value := (List.range (xs.length * P.cellsOf e)).map fun k => val (k / P.cellsOf e) (k % P.cellsOf e)
  have hul : us.length = xs.length * P.cellsOf e := by simp [us]
  have hdm : ∀ k, k < xs.length * P.cellsOf e → 0 < P.cellsOf e ∧ k / P.cellsOf e < xs.length ∧ k % P.cellsOf e < P.cellsOf e ∧ k / P.cellsOf e * P.cellsOf e + k % P.cellsOf e = k := fun k hk => by
    have hpos : 0 < P.cellsOf e := by
      rcases Nat.eq_zero_or_pos (P.cellsOf e) with z | z
      · rw [z] at hk; simp at hk
      · exact z
    refine ⟨hpos, Nat.div_lt_of_lt_mul (by rw [Nat.mul_comm]; exact hk), Nat.mod_lt _ hpos, ?_⟩
    have := Nat.div_add_mod k (P.cellsOf e)
    rw [Nat.mul_comm] at this; exact this
  have hget : ∀ k, k < xs.length * P.cellsOf e → us[k]? = some (val (k / P.cellsOf e) (k % P.cellsOf e)) := fun k hk => by
    simp [us, hk]
  refine ⟨us, hul, All2.of_get (by rw [flat_len hall, hul]) (fun k c v hc hv => ?_), fun j v hv => ?_, hall⟩
  · have hk : k < xs.length * P.cellsOf e := by rw [← hul]; exact (List.getElem?_eq_some_iff.1 hv).1
    obtain ⟨p0, p1, p2, p3⟩ := hdm k hk
    rw [hget k hk] at hv; simp only [Option.some.injEq] at hv; subst hv
    have hx : xs[k / P.cellsOf e]? = some xs[k / P.cellsOf e] := List.getElem?_eq_getElem p1
    have := flat_get hall _ _ _ hx p2
    rw [p3, hc] at this
    exact h6 _ _ _ _ hx this.symm
  · have hk : j < xs.length * P.cellsOf e := by rw [← hul]; exact (List.getElem?_eq_some_iff.1 hv).1
    obtain ⟨p0, p1, p2, p3⟩ := hdm j hk
    rw [hget j hk] at hv; simp only [Option.some.injEq] at hv; subst hv
    have hx : xs[j / P.cellsOf e]? = some xs[j / P.cellsOf e] := List.getElem?_eq_getElem p1
    have hlen := h3 _ _ hx
    have := h5 _ _ (j % P.cellsOf e) _ hx (List.getElem?_eq_getElem (by rw [hlen]; exact p2))
    rw [Nat.add_assoc, p3] at this
    exact this

/-- a slice out of cells that stand for good -/
theorem sl_of_cells {e : Nat} {xs : List (tb.T e)} {b off cap : Nat} {us : List Value} (hlen : ∀ x ∈ xs, (tb.enc e x).length = P.cellsOf e) (hcap : xs.length ≤ cap) (hm : cap ≤ mxLen)
    (hf : 0 < xs.length * P.cellsOf e → Fz g w b (off + xs.length * P.cellsOf e)) (hr : All2 (RepD P tb g w) (cellsOfSl tb e xs) us) (hc : ∀ j v, us[j]? = some v → w.cell? ⟨b, off + j, none⟩ = some v) :
    RepD P tb g w (.sl e xs) (.slice (some ⟨b, off, none⟩) xs.length cap) := by
  have hkey : ∀ (i : Nat) x (j : Nat) c, xs[i]? = some x → (tb.enc e x)[j]? = some c → ∃ v, us[i * P.cellsOf e + j]? = some v ∧ RepD P tb g w c v := fun i x j c hx hj => by
    have hlt : j < P.cellsOf e := by rw [← hlen x (List.mem_of_getElem? hx)]; exact (List.getElem?_eq_some_iff.1 hj).1
    have := flat_get hlen i x j hx hlt
    rw [hj] at this
    exact hr.get this
  refine .sl e xs b off cap (fun i j => us.getD (i * P.cellsOf e + j) (.bool false)) hcap hm (fun i x hx => hlen x (List.mem_of_getElem? hx)) hf (fun i x j c hx hj => ?_) (fun i x j c hx hj => ?_)
  · obtain ⟨v, hv, _⟩ := hkey i x j c hx hj
    have := hc _ v hv
    rw [Nat.add_assoc, this]
    simp [hv]
  · obtain ⟨v, hv, hd⟩ := hkey i x j c hx hj
    simpa [hv] using hd
end Go.Ev
