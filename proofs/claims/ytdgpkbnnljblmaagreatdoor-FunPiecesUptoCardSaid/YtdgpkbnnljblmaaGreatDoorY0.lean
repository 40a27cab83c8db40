/- Y0 -/
import Derived.Test.YtdgpkbnnljblmaaGreatDoorV1
namespace Go.Proofs.YtdgpkbnnljblmaaGreatDoor
open Go Go.Ev Go.Lib
def foldX {A S Y : Type} (step : S → A → S ⊕ Y) (fin : S → Y) : S → List A → Y
  | s, [] => fin s
  | s, a :: l => match step s a with
    | .inl s' => foldX step fin s' l
    | .inr y => y
def contX {S Y Z : Type} (b : S → Option Z) (g : Y → Z) : S ⊕ Y → Option Z
  | .inl s => b s
  | .inr y => some (g y)
theorem fold_loop {A S X Y Z : Type} {F : (X → Option Z) → X → Option Z} (mk : S → Nat → X) (g : Y → Z) (l : List A) (step : S → A → S ⊕ Y) (fin : S → Y) (Pre : S → Nat → Prop)
    (hl : l.length ≤ 1000000000)
    (h : ∀ back s i (hi : i < l.length), Pre s i → F back (mk s i) = contX (fun s' => back (mk s' (i + 1))) g (step s l[i]))
    (hp : ∀ s i (hi : i < l.length) s', Pre s i → step s l[i] = .inl s' → Pre s' (i + 1))
    (hend : ∀ back s, Pre s l.length → F back (mk s l.length) = some (g (fin s))) (s : S) (h0 : Pre s 0) : iter F big (mk s 0) = some (g (foldX step fin s l)) := by
  have key : ∀ k n i s, i + k = l.length → k < n → Pre s i → iter F n (mk s i) = some (g (foldX step fin s (l.drop i))) := by
    intro k
    induction k with
    | zero =>
      intro n i s hi hn hs
      obtain ⟨m, rfl⟩ : ∃ m, n = m + 1 := ⟨n - 1, by omega⟩
      have : i = l.length := by omega
      subst this
      rw [iter_succ, hend _ _ hs, List.drop_length]; rfl
    | succ k ih =>
      intro n i s hi hn hs
      obtain ⟨m, rfl⟩ : ∃ m, n = m + 1 := ⟨n - 1, by omega⟩
      have hlt : i < l.length := by omega
      rw [iter_succ, h _ _ _ hlt hs, List.drop_eq_getElem_cons hlt]
      simp only [foldX]
      cases hst : step s l[i] with
      | inl s' => exact ih m (i + 1) s' (by omega) (by omega) (hp _ _ hlt _ hs hst)
      | inr y => rfl
  have := key l.length big 0 s (by omega) (by rw [big_pos]; omega) h0
  simpa using this
theorem find_loop {A X Z : Type} {F : (X → Option Z) → X → Option Z} (mk : Nat → X) (g : Option Nat → Z) (l : List A) (p : A → Bool) (hl : l.length ≤ 1000000000)
    (h : ∀ back i (hi : i < l.length), F back (mk i) = bif p l[i] then some (g (some i)) else back (mk (i + 1)))
    (hend : ∀ back, F back (mk l.length) = some (g none)) : iter F big (mk 0) = some (g (l.findIdx? p)) := by
  have key : ∀ k n i, i + k = l.length → k < n → iter F n (mk i) = some (g (((l.drop i).findIdx? p).map (· + i))) := by
    intro k
    induction k with
    | zero =>
      intro n i hi hn
      obtain ⟨m, rfl⟩ : ∃ m, n = m + 1 := ⟨n - 1, by omega⟩
      have : i = l.length := by omega
      subst this
      rw [iter_succ, hend, List.drop_length]; rfl
    | succ k ih =>
      intro n i hi hn
      obtain ⟨m, rfl⟩ : ∃ m, n = m + 1 := ⟨n - 1, by omega⟩
      have hlt : i < l.length := by omega
      rw [iter_succ, h _ _ hlt, List.drop_eq_getElem_cons hlt, List.findIdx?_cons]
      cases hpl : p l[i] with
      | true => simp
      | false =>
        simp only [cond_false]
        rw [ih m (i + 1) (by omega) (by omega)]
        simp only [Bool.false_eq_true, if_false, Option.map_map]
        congr 3
        funext j
        simp only [Function.comp]
        omega
  have := key l.length big 0 (by omega) (by rw [big_pos]; omega)
  simpa using this
theorem idxG {A : Type} {l : List A} {i : Nat} (hi : i < l.length) : idx l (i : Int) = some l[i] := by simp [idx, hi]
theorem idxZ {A : Type} {a : A} {l : List A} : idx (a :: l) 0 = some a := rfl
theorem wr1 {i : Nat} (h : i < 1000000000) : IntKind.i64.wrap ((i : Int) + 1) = ((i + 1 : Nat) : Int) := by
  simp [IntKind.wrap, IntKind.bits, IntKind.signed]; omega
theorem ltT {i n : Nat} (h : i < n) : decide ((i : Int) < (n : Int)) = true := decide_eq_true (by omega)
theorem ltF {n : Nat} : decide ((n : Int) < (n : Int)) = false := decide_eq_false (by omega)
theorem any_findIdx {A : Type} (p : A → Bool) (l : List A) : (l.findIdx? p).isSome = l.any p := by
  simp [List.findIdx?_isSome]
end Go.Proofs.YtdgpkbnnljblmaaGreatDoor
