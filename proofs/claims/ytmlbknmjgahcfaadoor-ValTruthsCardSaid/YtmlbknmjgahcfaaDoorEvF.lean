/- Loops and functions that call themselves, told by counted rounds. -/
import Derived.Test.YtmlbknmjgahcfaaDoorEvC5
namespace Go.Ev
open Go

/-- at most so many rounds -/
def iter {X Y : Type} (F : (X → Option Y) → X → Option Y) (n : Nat) : X → Option Y := Nat.rec (fun _ => none) (fun _ r => F r) n
theorem iter_zero {X Y : Type} (F : (X → Option Y) → X → Option Y) (x : X) : iter F 0 x = none := rfl
theorem iter_succ {X Y : Type} (F : (X → Option Y) → X → Option Y) (n : Nat) (x : X) : iter F (n + 1) x = F (iter F n) x := rfl
/-- more rounds than there will ever be -/
def big : Nat := 9223372036854775808
theorem big_pos : big = 9223372036854775807 + 1 := rfl

attribute [irreducible] iter big
/-- what has an answer keeps it -/
def Mono {X Y : Type} (F : (X → Option Y) → X → Option Y) : Prop := ∀ (r r' : X → Option Y), (∀ x y, r x = some y → r' x = some y) → ∀ x y, F r x = some y → F r' x = some y
theorem iter_more {X Y : Type} {F : (X → Option Y) → X → Option Y} (hF : Mono F) : ∀ (n m : Nat), n ≤ m → ∀ x y, iter F n x = some y → iter F m x = some y
  | 0, _, _, x, y, h => by rw [iter_zero] at h; cases h
  | n + 1, 0, h0, _, _, _ => by omega
  | n + 1, m + 1, h0, x, y, h => by
    rw [iter_succ] at h ⊢
    exact hF _ _ (iter_more hF n m (by omega)) x y h

/-- a loop's rounds, by what they tell -/
theorem iter_of {X Y : Type} {F : (X → Option Y) → X → Option Y} (m : X → Nat) (Pre : X → Prop) (spec : X → Y)
    (h : ∀ back x, Pre x → (∀ x', Pre x' → m x' < m x → back x' = some (spec x')) → F back x = some (spec x)) : ∀ n x, Pre x → m x < n → iter F n x = some (spec x)
  | 0, _, _, h0 => by omega
  | n + 1, x, hp, hn => by
    rw [iter_succ]
    exact h _ x hp fun x' hp' hm => iter_of m Pre spec h n x' hp' (by omega)
theorem iter_big {X Y : Type} {F : (X → Option Y) → X → Option Y} (m : X → Nat) (Pre : X → Prop) (spec : X → Y)
    (h : ∀ back x, Pre x → (∀ x', Pre x' → m x' < m x → back x' = some (spec x')) → F back x = some (spec x)) (x : X) (hp : Pre x) (hm : m x < 9223372036854775808) : iter F big x = some (spec x) :=
  iter_of m Pre spec h _ x hp (by rw [big_pos]; omega)

variable {P : Program} {tb : Tab} {N : Nat} {Γ : List (Nat × FSpec tb)} {Δ : List (CutSpec tb)}

theorem evLoop_mono {body : Code} {ins : LSpec} {outs : List (Ex × LSpec)} : Mono (evLoop P tb Γ Δ body ins outs) := fun r r' hr x y h => by
  unfold evLoop at h ⊢
  rw [evCode_k] at h ⊢
  obtain ⟨⟨ex, s⟩, h1, h2⟩ := obnd_eq_some.1 h
  refine obnd_eq_some.2 ⟨(ex, s), h1, ?_⟩
  cases ex with
  | normal =>
    simp only at h2 ⊢
    cases hx : extS P tb s (backGet s (refsOf ins)) ins with
    | none => simp [hx] at h2
    | some x' =>
      simp only [hx] at h2 ⊢
      cases hk : nodupB (idsS (backGet s (refsOf ins)) ins) with
      | false => simp [hk] at h2
      | true =>
        simp only [hk, cond_true] at h2 ⊢
        exact hr x' y h2
  | _ => exact h2

/-- a loop -/
theorem loop_it (hm : P.follows .mixedOrders = true) {c : Code} {cut : CutSpec tb} (hb : cutB N cut c = true) (hΓ : AllSound P tb Γ) (hsl : slotsAll Γ = true)
    {L : List (Nat × Code)} (hc : cutsOf Δ c = L) (hL : AllCuts P tb N (fun t => memB t cut.W) Δ L)
    (F : (XS tb cut.ins → Option (Outs tb (refsOf cut.ins) cut.outs)) → XS tb cut.ins → Option (Outs tb (refsOf cut.ins) cut.outs)) (hF : ∀ back x, evLoop P tb Γ Δ c cut.ins cut.outs back x = F back x)
    (hJ : cut.J = iter F big) : CutSound P tb N (.loop c) cut := by
  have hmono : Mono F := by
    have e : (fun back x => evLoop P tb Γ Δ c cut.ins cut.outs back x) = F := by funext back x; exact hF back x
    rw [← e]; exact evLoop_mono
  classical
  have hex : ∀ x y, iter F big x = some y → ∃ n, iter F n x = some y ∧ ∀ k, (∃ z, iter F k x = some z) → n ≤ k := fun x y h => by
    have key : ∀ n y, iter F n x = some y → ∃ n', n' ≤ n ∧ iter F n' x = some y ∧ ∀ k, (∃ z, iter F k x = some z) → n' ≤ k := by
      intro n
      induction n using Nat.strongRecOn with
      | _ n ih =>
        intro y hy
        by_cases hk : ∃ k, k < n ∧ ∃ z, iter F k x = some z
        · obtain ⟨k, hk, z, hz⟩ := hk
          have := iter_more hmono k n (by omega) x z hz
          rw [hy] at this
          simp only [Option.some.injEq] at this
          subst this
          obtain ⟨n', h1, h2, h3⟩ := ih k hk y hz
          exact ⟨n', by omega, h2, h3⟩
        · exact ⟨n, Nat.le_refl _, hy, fun k hz => Nat.le_of_not_lt fun hlt => hk ⟨k, hlt, hz⟩⟩
    obtain ⟨n, _, h1, h2⟩ := key big y h
    exact ⟨n, h1, h2⟩
  let m : XS tb cut.ins → Nat := fun x => if h : ∃ n, (∃ y, iter F n x = some y) ∧ ∀ k, (∃ z, iter F k x = some z) → n ≤ k then Classical.choose h else 0
  have hmv : ∀ x n y, iter F n x = some y → (∃ z, iter F (m x) x = some z) ∧ m x ≤ n := fun x n y h => by
    have h0 : ∃ n, (∃ y, iter F n x = some y) ∧ ∀ k, (∃ z, iter F k x = some z) → n ≤ k := by
      have key : ∀ n y, iter F n x = some y → ∃ n', (∃ y, iter F n' x = some y) ∧ ∀ k, (∃ z, iter F k x = some z) → n' ≤ k := by
        intro n
        induction n using Nat.strongRecOn with
        | _ n ih =>
          intro y hy
          by_cases hk : ∃ k, k < n ∧ ∃ z, iter F k x = some z
          · obtain ⟨k, hk, z, hz⟩ := hk; exact ih k hk z hz
          · exact ⟨n, ⟨y, hy⟩, fun k hz => Nat.le_of_not_lt fun hlt => hk ⟨k, hlt, hz⟩⟩
      exact key n y h
    have := Classical.choose_spec h0
    simp only [m, h0, dite_true]
    exact ⟨this.1, this.2 n ⟨y, h⟩⟩
  refine loop_ev hm hb hΓ hsl hc hL F hF m fun x y hxy => ?_
  rw [hJ] at hxy
  obtain ⟨⟨z, hz⟩, hle⟩ := hmv x big y hxy
  have := iter_more hmono _ _ hle x z hz
  rw [hxy] at this
  simp only [Option.some.injEq] at this
  subst this
  cases hn : m x with
  | zero => rw [hn, iter_zero] at hz; cases hz
  | succ n =>
    rw [hn, iter_succ] at hz
    refine hmono _ _ (fun x' y' h' => ?_) x y hz
    obtain ⟨_, hle'⟩ := hmv x' n y' h'
    have hb' : Nat.blt (m x') (n + 1) = true := Nat.ble_eq_true_of_le (by omega)
    simp only [hb', cond_true]
    rw [hJ]
    exact iter_more hmono n big (by omega) x' y' h'

/-- a function that calls itself -/
theorem fn_it {f : Nat} {ins outs : LSpec} {F : (XS tb ins → Option (Ret tb outs (refsOf ins))) → XS tb ins → Option (Ret tb outs (refsOf ins))} (hent : Enters P f)
    (h : ∀ self, FnSound P tb f ⟨ins, outs, self⟩ → FnSound P tb f ⟨ins, outs, F self⟩) : FnSound P tb f ⟨ins, outs, iter F big⟩ := by
  have key : ∀ n, FnSound P tb f ⟨ins, outs, iter F n⟩ := fun n => by
    induction n with
    | zero => exact ⟨hent, fun g w x vs bs y hy => by simp only [iter_zero] at hy; cases hy⟩
    | succ n ih =>
      have e : iter F (n + 1) = F (iter F n) := by funext x; exact iter_succ F n x
      rw [e]; exact h _ ih
  exact key big
end Go.Ev
