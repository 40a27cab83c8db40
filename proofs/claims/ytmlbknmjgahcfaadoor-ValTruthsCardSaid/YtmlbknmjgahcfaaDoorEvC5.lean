/- Contracts of functions, all checks in one. -/
import Derived.Test.YtmlbknmjgahcfaaDoorEvC4
namespace Go.Ev
open Go

variable {P : Program} {tb : Tab} {N : Nat} {W : Nat → Prop}
variable {Γ : List (Nat × FSpec tb)} {Δ : List (CutSpec tb)}

theorem cuts_nil {S : Code → CutSpec tb → Prop} : ∀ c : Code, CutsIn ([] : List (CutSpec tb)) S c := by
  intro c
  induction c with
  | seq a b iha ihb => unfold CutsIn; exact ⟨iha, ihb⟩
  | cond x a b iha ihb => unfold CutsIn; exact ⟨iha, ihb⟩
  | block id b ih => unfold CutsIn; exact ih
  | scope b ih => unfold CutsIn; exact ih
  | _ => unfold CutsIn; trivial

/-- the topmost cuts of a piece of code -/
def cutsOf (Δ : List (CutSpec tb)) (c : Code) : List (Nat × Code) :=
  match findCut Δ (keyOf c) with
  | some _ => [(keyOf c, c)]
  | none => match c with
    | .seq a b => cutsOf Δ a ++ cutsOf Δ b
    | .cond _ a b => cutsOf Δ a ++ cutsOf Δ b
    | .block _ b => cutsOf Δ b
    | .scope b => cutsOf Δ b
    | _ => []
theorem cuts_of {S : Code → CutSpec tb → Prop} : ∀ c : Code, (∀ q ∈ cutsOf Δ c, ∀ cut, findCut Δ q.1 = some cut → S q.2 cut) → CutsIn Δ S c := by
  have hd : ∀ c : Code, (∀ q ∈ cutsOf Δ c, ∀ cut, findCut Δ q.1 = some cut → S q.2 cut) → ∀ cut, findCut Δ (keyOf c) = some cut → S c cut := fun c h cut hc => by
    have : cutsOf Δ c = [(keyOf c, c)] := by unfold cutsOf; rw [hc]
    exact h (keyOf c, c) (by rw [this]; simp) cut hc
  intro c
  induction c with
  | seq a b iha ihb =>
    intro h
    unfold CutsIn
    split
    · rename_i cut hc; exact hd _ h cut hc
    · rename_i hc
      unfold cutsOf at h; rw [hc] at h
      exact ⟨iha fun q hq => h q (by simp [hq]), ihb fun q hq => h q (by simp [hq])⟩
  | cond x a b iha ihb =>
    intro h
    unfold CutsIn
    split
    · rename_i cut hc; exact hd _ h cut hc
    · rename_i hc
      unfold cutsOf at h; rw [hc] at h
      exact ⟨iha fun q hq => h q (by simp [hq]), ihb fun q hq => h q (by simp [hq])⟩
  | block id b ih =>
    intro h
    unfold CutsIn
    split
    · rename_i cut hc; exact hd _ h cut hc
    · rename_i hc
      unfold cutsOf at h; rw [hc] at h
      exact ih h
  | scope b ih =>
    intro h
    unfold CutsIn
    split
    · rename_i cut hc; exact hd _ h cut hc
    · rename_i hc
      unfold cutsOf at h; rw [hc] at h
      exact ih h
  | _ =>
    intro h
    unfold CutsIn
    split
    · rename_i cut hc; exact hd _ h cut hc
    · trivial

def bodyOf (fn : Func) : Code := match fn.body with | some c => c | none => .skip
def fnK (fn : Func) (ins outs : LSpec) : Bool := fn.body.isSome && !(fn.name == "runtime.NumGoroutine") && fnB fn ins outs (bodyOf fn) && slotsB ins 0 && slotsB outs 0
def slotsAll (Γ : List (Nat × FSpec tb)) : Bool := Γ.all fun p => slotsB p.2.ins 0
theorem slotsAll_get (h : slotsAll Γ = true) : ∀ p ∈ Γ, p.2.ins.map (·.1) = List.range p.2.ins.length := fun p hp => by
  rw [slotsB_iff (List.all_eq_true.1 h p hp), List.range_eq_range']

/-- every function of a list keeps its contract -/
def AllSound (P : Program) (tb : Tab) (Γ : List (Nat × FSpec tb)) : Prop := ∀ p ∈ Γ, FnKeeps P tb p.1 p.2
theorem AllSound.nil : AllSound P tb [] := fun _ h => absurd h (by simp)
theorem AllSound.consK {f : Nat} {sp : FSpec tb} (h : FnKeeps P tb f sp) (k : AllSound P tb Γ) : AllSound P tb ((f, sp) :: Γ) := fun p hp => by
  rcases List.mem_cons.1 hp with rfl | hp
  · exact h
  · exact k p hp
theorem AllSound.cons {f : Nat} {sp : FSpec tb} (h : FnSound P tb f sp) (k : AllSound P tb Γ) : AllSound P tb ((f, sp) :: Γ) := .consK h.keeps k

/-- cuts of a list keep their contracts -/
def AllCuts (P : Program) (tb : Tab) (N : Nat) (ok : Nat → Bool) (Δ : List (CutSpec tb)) (L : List (Nat × Code)) : Prop := ∀ q ∈ L, ∀ cut, findCut Δ q.1 = some cut → CutSound P tb N q.2 cut ∧ cut.W.all ok = true
theorem AllCuts.nil {ok : Nat → Bool} : AllCuts P tb N ok Δ [] := fun _ h => absurd h (by simp)
theorem AllCuts.cons {ok : Nat → Bool} {k : Nat} {c : Code} {L : List (Nat × Code)} {cut : CutSpec tb} (hf : findCut Δ k = some cut) (hs : CutSound P tb N c cut) (hW : cut.W.all ok = true) (h : AllCuts P tb N ok Δ L) : AllCuts P tb N ok Δ ((k, c) :: L) := fun q hq cut' hc => by
  rcases List.mem_cons.1 hq with rfl | hq
  · rw [hf] at hc; simp only [Option.some.injEq] at hc; subst hc; exact ⟨hs, hW⟩
  · exact h q hq cut' hc

/-- the code of a loop, of a piece, by its key -/
def findKey (k : Nat) (c : Code) : Option Code :=
  bif Nat.beq (keyOf c) k then some c else match c with
    | .seq a b => match findKey k a with | some x => some x | none => findKey k b
    | .cond _ a b => match findKey k a with | some x => some x | none => findKey k b
    | .block _ b => findKey k b
    | .loop b => findKey k b
    | .scope b => findKey k b
    | _ => none
def loopAt (k : Nat) (fn : Func) : Code := match findKey k (bodyOf fn) with | some (.loop b) => b | _ => .skip
def codeAt (k : Nat) (fn : Func) : Code := match findKey k (bodyOf fn) with | some c => c | _ => .skip

/-- a function, with cuts -/
theorem fn_cut (hm : P.follows .mixedOrders = true) {f : Nat} {fn : Func} {sp : FSpec tb} (hf : P.funcs[f]? = some fn) (hk : fnK fn sp.ins sp.outs = true) (hΓ : AllSound P tb Γ) (hsl : slotsAll Γ = true)
    {L : List (Nat × Code)} (hc : cutsOf Δ (bodyOf fn) = L) (hL : AllCuts P tb fn.ntmps (fun t => !memB t ((refsOf sp.ins).map (·.1))) Δ L)
    (hJ : ∀ x, evFn P tb Γ Δ fn sp.ins sp.outs x = sp.f x) : FnSound P tb f sp := by
  simp only [fnK, Bool.and_eq_true, Bool.not_eq_true'] at hk
  obtain ⟨⟨⟨⟨h1, h2⟩, h3⟩, h4⟩, h5⟩ := hk
  have hb : fn.body = some (bodyOf fn) := by
    unfold bodyOf
    cases hb : fn.body with
    | none => rw [hb] at h1; cases h1
    | some c => rfl
  refine fn_sound hm hf hb h2 hΓ (slotsAll_get hsl) h3 h4 h5 (cuts_of _ fun q hq cut hcut => ?_) fun x y h => (hJ x).trans h
  rw [hc] at hq
  obtain ⟨k1, k2⟩ := hL q hq cut hcut
  refine ⟨k1, fun t ht => ?_⟩
  have := List.all_eq_true.1 k2 t (memB_iff.1 ht)
  simpa using this
/-- a function without -/
theorem fn_ev (hm : P.follows .mixedOrders = true) {f : Nat} {fn : Func} {sp : FSpec tb} (hf : P.funcs[f]? = some fn) (hk : fnK fn sp.ins sp.outs = true) (hΓ : AllSound P tb Γ) (hsl : slotsAll Γ = true)
    (hJ : ∀ x, evFn P tb Γ [] fn sp.ins sp.outs x = sp.f x) : FnSound P tb f sp := by
  simp only [fnK, Bool.and_eq_true, Bool.not_eq_true'] at hk
  obtain ⟨⟨⟨⟨h1, h2⟩, h3⟩, h4⟩, h5⟩ := hk
  have hb : fn.body = some (bodyOf fn) := by
    unfold bodyOf
    cases hb : fn.body with
    | none => rw [hb] at h1; cases h1
    | some c => rfl
  exact fn_sound hm hf hb h2 hΓ (slotsAll_get hsl) h3 h4 h5 (cuts_nil _) fun x y h => (hJ x).trans h

/-- a loop -/
theorem loop_ev (hm : P.follows .mixedOrders = true) {c : Code} {cut : CutSpec tb} (hb : cutB N cut c = true) (hΓ : AllSound P tb Γ) (hsl : slotsAll Γ = true)
    {L : List (Nat × Code)} (hc : cutsOf Δ c = L) (hL : AllCuts P tb N (fun t => memB t cut.W) Δ L)
    (F : (XS tb cut.ins → Option (Outs tb (refsOf cut.ins) cut.outs)) → XS tb cut.ins → Option (Outs tb (refsOf cut.ins) cut.outs)) (hF : ∀ back x, evLoop P tb Γ Δ c cut.ins cut.outs back x = F back x)
    (m : XS tb cut.ins → Nat) (hJ : ∀ x y, cut.J x = some y → F (fun x' => bif Nat.blt (m x') (m x) then cut.J x' else none) x = some y) : CutSound P tb N (.loop c) cut := by
  refine loop_sound hm hΓ (slotsAll_get hsl) hb (cuts_of _ fun q hq cut' hcut => ?_) m fun x y h => (hF _ x).trans (hJ x y h)
  rw [hc] at hq
  obtain ⟨k1, k2⟩ := hL q hq cut' hcut
  exact ⟨k1, fun t ht => List.all_eq_true.1 k2 t (memB_iff.1 ht)⟩
/-- a piece of code -/
theorem blk_ev (hm : P.follows .mixedOrders = true) {c : Code} {cut : CutSpec tb} (hb : cutB N cut c = true) (hΓ : AllSound P tb Γ) (hsl : slotsAll Γ = true)
    {L : List (Nat × Code)} (hc : cutsOf Δ c = L) (hL : AllCuts P tb N (fun t => memB t cut.W) Δ L) (hJ : ∀ x, evBlk P tb Γ Δ c cut.ins cut.outs x = cut.J x) : CutSound P tb N c cut := by
  refine blk_sound hm hΓ (slotsAll_get hsl) hb (cuts_of _ fun q hq cut' hcut => ?_) fun x y h => (hJ x).trans h
  rw [hc] at hq
  obtain ⟨k1, k2⟩ := hL q hq cut' hcut
  exact ⟨k1, fun t ht => List.all_eq_true.1 k2 t (memB_iff.1 ht)⟩
end Go.Ev
