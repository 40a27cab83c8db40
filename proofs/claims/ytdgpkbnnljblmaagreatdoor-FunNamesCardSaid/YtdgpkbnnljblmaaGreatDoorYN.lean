/- YN -/
import Derived.Test.YtdgpkbnnljblmaaGreatDoorY0
import Derived.Test.YtdgpkbnnljblmaaGreatDoorKA
namespace Go.Proofs.YtdgpkbnnljblmaaGreatDoor
open Go Go.Ev Go.Lib
def nmL : List (List UInt8) := (ref13_NamesF ()).getD []
def fnL : List Function := (fun_allF ()).getD []
theorem names_is : ref13_NamesF () = some nmL := rfl
theorem all_is : fun_allF () = some fnL := rfl
theorem fn_nm : fnL.map (·.name) = nmL := by decide +kernel
theorem nm_nodup : nmL.Nodup := by decide +kernel
theorem nm_len : nmL.length = 30 := by decide +kernel
theorem fn_len : fnL.length = 30 := by decide +kernel
theorem fn_get {i : Nat} (h : i < fnL.length) : (fnL[i]).name = nmL[i]'(by rw [nm_len]; rw [fn_len] at h; exact h) := by
  have : (fnL.map (·.name))[i]'(by rw [List.length_map]; exact h) = (fnL[i]).name := List.getElem_map _
  rw [← this]
  congr 1
theorem name_in {op : Int} {i : Nat} (h : op = i) (hi : i < 30) : fun_NameF op = some (nmL[i]'(by rw [nm_len]; exact hi), true) := by
  subst h
  unfold fun_NameF
  rw [all_is, obnd_some, decide_eq_false (show ¬ (i : Int) < 0 by omega), brn_false, fn_len, decide_eq_false (show ¬ ((30 : Nat) : Int) ≤ (i : Int) by omega), brn_false, idxG (by rw [fn_len]; exact hi), obnd_some, fn_get]
theorem name_out {op : Int} (h : op < 0 ∨ 30 ≤ op) : fun_NameF op = some ([], false) := by
  unfold fun_NameF
  rw [all_is, obnd_some]
  rcases h with h | h
  · rw [decide_eq_true h]; rfl
  · rw [decide_eq_false (show ¬ op < 0 by omega), brn_false, fn_len, decide_eq_true (show ((30 : Nat) : Int) ≤ op by omega)]; rfl
def atL (s : List UInt8) : Option Nat := nmL.findIdx? (fun a => decide (a = s))
theorem find_is (s : List UInt8) : fun_FindF s = some (match atL s with | some i => ((i : Int), true) | none => (0, false)) := by
  unfold fun_FindF slices_IndexFunc_fun_function_fun_function_fun_Find_1F
  have this : slices_IndexFunc_fun_function_fun_function_fun_Find_1_l1J (s, fnL, (), (fnL.length : Int), 0) = some ((fun (r : Option Nat) => match r with | some i => .inr (i : Int) | none => .inl ()) _) := find_loop (F := slices_IndexFunc_fun_function_fun_function_fun_Find_1_l1F) (fun i => (s, fnL, (), (fnL.length : Int), (i : Int))) (fun r => match r with | some i => .inr (i : Int) | none => .inl ()) fnL (fun f => decide (f.name = s)) (by rw [fn_len]; omega)
    (fun back i hi => by
      unfold slices_IndexFunc_fun_function_fun_function_fun_Find_1_l1F fun_Find_1F
      simp only
      rw [ltT hi, brn_true, idxG hi, obnd_some, obnd_some, wr1 (by rw [fn_len] at hi; omega)]
      cases decide ((fnL[i]).name = s) <;> rfl)
    (fun back => by
      unfold slices_IndexFunc_fun_function_fun_function_fun_Find_1_l1F
      simp only
      rw [ltF, brn_false])
  rw [all_is, obnd_some]
  simp only
  rw [this, obnd_some]
  have e : fnL.findIdx? (fun f => decide (f.name = s)) = atL s := by
    unfold atL
    rw [← fn_nm, List.findIdx?_map]; rfl
  rw [e]
  cases atL s with
  | none => rfl
  | some i =>
    simp only [osum, obnd_some]
    rw [decide_eq_false (show ¬ (i : Int) < 0 by omega), decide_eq_true (show (0 : Int) ≤ (i : Int) by omega)]; rfl
def nmS (s : List UInt8) (k : Int) (is1 : Bool) (x : Bool × Nat) (a : List UInt8) : (Bool × Nat) ⊕ (Bool ⊕ Bool) :=
  bif decide (a = s) then (bif !is1 then .inr (.inr false) else bif !decide (k = x.2) then .inr (.inr false) else .inl (true, x.2 + 1)) else .inl (x.1, x.2 + 1)
theorem nm_fold (s : List UInt8) (k : Int) (is1 : Bool) : ∀ (l : List (List UInt8)) (f : Bool) (n : Nat), (∀ i (hi : i < l.length), l[i] = s → is1 = true ∧ k = ((n + i : Nat) : Int)) →
    foldX (nmS s k is1) (fun x => (.inl x.1 : Bool ⊕ Bool)) (f, n) l = .inl (f || l.any (fun a => decide (a = s)))
  | [], f, n, _ => by simp [foldX]
  | a :: l, f, n, h => by
    have ih := fun f => nm_fold s k is1 l f (n + 1) (fun i hi e => by
      have := h (i + 1) (by simp; omega) (by simpa using e)
      exact ⟨this.1, by rw [this.2]; omega⟩)
    simp only [foldX, nmS]
    by_cases ha : a = s
    · have h0 := h 0 (by simp) (by simpa using ha)
      obtain ⟨rfl, h0⟩ := h0
      rw [decide_eq_true ha, decide_eq_true (show k = ((n : Nat) : Int) by omega)]
      simp only [Bool.not_true, cond_true, cond_false]
      rw [ih]; simp [ha]
    · rw [decide_eq_false ha]
      simp only [cond_false]
      rw [ih]; simp [ha]
theorem nm_loop (s : List UInt8) (k : Int) (is1 : Bool) (h : ∀ i (hi : i < nmL.length), nmL[i] = s → is1 = true ∧ k = (i : Int)) : law11_FunNames_l1J (s, nmL, k, is1, false, 0) = some (.inl (nmL.any (fun a => decide (a = s)))) := by
  have this : law11_FunNames_l1J (s, nmL, k, is1, false, 0) = some (id _) := fold_loop (F := law11_FunNames_l1F) (fun (x : Bool × Nat) (i : Nat) => (s, nmL, k, is1, x.1, (i : Int))) id nmL (nmS s k is1) (fun x => .inl x.1) (fun x i => x.2 = i) (by rw [nm_len]; omega)
    (fun back x i hi hx => by
      obtain ⟨f, n⟩ := x
      simp only at hx
      subst hx
      unfold law11_FunNames_l1F nmS
      simp only
      rw [ltT hi, brn_true, idxG hi, obnd_some, wr1 (by rw [nm_len] at hi; omega)]
      cases decide (nmL[n] = s) <;> cases is1 <;> cases decide (k = (n : Int)) <;> rfl)
    (fun x i hi s' hx e => by
      obtain ⟨f, n⟩ := x
      simp only at hx
      subst hx
      unfold nmS at e
      simp only at e
      revert e
      cases decide (nmL[n] = s) <;> cases is1 <;> cases decide (k = (n : Int)) <;> intro e <;> cases e <;> rfl)
    (fun back x _ => by
      unfold law11_FunNames_l1F
      simp only
      rw [ltF, brn_false]; rfl) (false, 0) rfl
  rw [this, id, nm_fold _ _ _ _ _ _ (fun i hi e => by have := h i hi e; exact ⟨this.1, by rw [this.2]; omega⟩)]
  rfl
theorem nm_tail (s : List UInt8) : (obnd (fun_FindF s) fun y_2 => obnd (law11_FunNames_l1J (s, nmL, y_2.fst, y_2.snd, false, 0)) fun y => osum y (fun y => brn (decide (y = y_2.snd)) (brn y_2.snd (some true) (some (decide (y_2.fst = 0)))) (some false)) fun y => some y) = some true := by
  rw [find_is, obnd_some]
  cases hs : atL s with
  | none =>
    simp only
    have hn : ∀ a ∈ nmL, ¬ a = s := by
      unfold atL at hs
      rw [List.findIdx?_eq_none_iff] at hs
      intro a ha
      simpa using hs a ha
    rw [nm_loop _ _ _ (fun i hi e => absurd e (hn _ (List.getElem_mem hi))), obnd_some, show nmL.any (fun a => decide (a = s)) = false from by rw [List.any_eq_false]; intro a ha; simpa using hn a ha]
    rfl
  | some j =>
    simp only
    unfold atL at hs
    rw [List.findIdx?_eq_some_iff_getElem] at hs
    obtain ⟨hj, h1, _⟩ := hs
    have h1 : nmL[j] = s := by simpa using h1
    rw [nm_loop _ _ _ (fun i hi e => ⟨rfl, by rw [(List.getElem_inj nm_nodup).1 (h1.trans e.symm)]⟩), obnd_some, show nmL.any (fun a => decide (a = s)) = true from by rw [List.any_eq_true]; exact ⟨_, List.getElem_mem hj, by simpa using h1⟩]
    rfl
theorem FunNames_true (op : Int) (s : List UInt8) : law11_FunNamesF (op, s) = some true := by
  unfold law11_FunNamesF
  rw [show law11_knownF () = some true from rfl, obnd_some]
  simp only [Bool.not_true, brn_false]
  rw [names_is, obnd_some]
  by_cases h0 : 0 ≤ op
  · obtain ⟨i, rfl⟩ := Int.eq_ofNat_of_zero_le h0
    by_cases h1 : i < 30
    · rw [name_in rfl h1, obnd_some, decide_eq_true h0, brn_true, decide_eq_true (show (i : Int) < (nmL.length : Int) by rw [nm_len]; omega), idxG (by rw [nm_len]; exact h1)]
      simp only [decide_true, Bool.not_true, brn_false, brn_true, obnd_some]
      exact nm_tail s
    · rw [name_out (.inr (by omega)), obnd_some, decide_eq_true h0, brn_true, nm_len, decide_eq_false (show ¬ (i : Int) < ((30 : Nat) : Int) by omega)]
      simp only [decide_true, Bool.not_true, Bool.not_false, brn_false, brn_true]
      exact nm_tail s
  · rw [name_out (.inl (by omega)), obnd_some, decide_eq_false h0, brn_false]
    simp only [decide_true, Bool.not_true, Bool.not_false, brn_false, brn_true]
    exact nm_tail s
end Go.Proofs.YtdgpkbnnljblmaaGreatDoor
