/- YC -/
import Derived.Test.YtdgpkbnnljblmaaGreatDoorY6
import Derived.Test.YtdgpkbnnljblmaaGreatDoorKF
namespace Go.Proofs.YtdgpkbnnljblmaaGreatDoor
open Go Go.Ev Go.Lib
def one (v : Val) : Arg := ⟨false, [v]⟩
theorem one_is2 (v : Val) : fun_OneF v = some (one v) := rfl
theorem single_one (v : Val) : fun_singleF (one v) = some v := rfl
theorem ch_ar : arLo 25 = 2 ∧ arHi 25 = 9223372036854775807 ∧ arLo 24 = 2 ∧ arHi 24 = 2 ∧ arLo 23 = 2 ∧ arHi 23 = 2 ∧ arLo 10 = 2 ∧ arHi 10 = 3 := by decide +kernel
theorem num_vN (d : Dec) : val_NumberF (vN d) = some (d, v0, true) := rfl
theorem tru_vT (b : Bool) : val_TruthF (vT b) = some (b, v0, true) := by cases b <;> rfl
theorem shaped_one (v : Val) : fun_shapedF [one v] = some true := by rw [shaped_is (by simp)]; rfl
theorem subU_any {A : Type} {D : List A} {i k : Nat} (h : i ≤ k) (h2 : k ≤ D.length) : sub D (i : Int) (k : Int) = some ((D.take k).drop i) := by
  have hd : (decide ((0 : Int) ≤ (i : Int)) && decide ((i : Int) ≤ (k : Int)) && decide ((k : Int) ≤ (D.length : Int))) = true := by
    simp; omega
  simp only [sub, hd, cond_true, Int.toNat_natCast]
  try rfl
theorem sub01 (a : Arg) (l : List Arg) : sub (a :: l) 0 1 = some [a] := by
  have := subU_any (D := a :: l) (i := 0) (k := 1) (by omega) (by simp)
  simpa using this
theorem chosen_23 (a b : Val) : fun_ApplyF (23, [one a, one b]) = some (if a.Kind = 4 then b else a) := by
  obtain ⟨_, _, _, _, h1, h2, _, _⟩ := ch_ar
  rw [show ((23 : Int)) = ((23 : Nat) : Int) from rfl, apply_ok (by omega) (by rw [h1]; simp) (by rw [h2]; simp), core_chosen (by simp)]
  unfold fun_chosenF
  simp only
  rw [sub01, obnd_some, shaped_one, obnd_some, idxZ, obnd_some, show idx (one a).L 0 = some a from rfl, obnd_some]
  by_cases h : a.Kind = 4
  · rw [if_pos h, h]; rfl
  · rw [if_neg h, decide_eq_false h]; rfl
theorem chosen_10 (t : Bool) (a b : Val) : fun_ApplyF (10, [one (vT t), one a, one b]) = some (if t then a else b) := by
  obtain ⟨_, _, _, _, _, _, h1, h2⟩ := ch_ar
  rw [show ((10 : Int)) = ((10 : Nat) : Int) from rfl, apply_ok (by omega) (by rw [h1]; simp) (by rw [h2]; simp), core_chosen (by simp)]
  unfold fun_chosenF
  simp only
  rw [sub01, obnd_some, shaped_one, obnd_some, idxZ, obnd_some, show idx (one (vT t)).L 0 = some (vT t) from rfl, obnd_some, tru_vT, obnd_some]
  cases t <;> rfl
theorem chosen_25 {n : Int} {l : List Val} (hl : l.length ≤ 900) (h : 1 ≤ l.length) : fun_ApplyF (25, one (vN ⟨n, 0⟩) :: l.map one) = some (if 1 ≤ n ∧ n ≤ l.length then l.getD (n - 1).toNat v0 else vE 15) := by
  obtain ⟨h1, h2, _, _, _, _, _, _⟩ := ch_ar
  rw [show ((25 : Int)) = ((25 : Nat) : Int) from rfl, apply_ok (by omega) (by rw [h1]; simp; omega) (by rw [h2]; simp; omega), core_chosen (by simp)]
  unfold fun_chosenF
  simp only
  rw [sub01, obnd_some, shaped_one, obnd_some, idxZ, obnd_some, show idx (one (vN ⟨n, 0⟩)).L 0 = some (vN ⟨n, 0⟩) from rfl, obnd_some, num_vN, obnd_some]
  simp only [fault_is, obnd_some, List.length_cons, List.length_map]
  rw [show decide (((25 : Nat) : Int) = 24) = false from rfl, show decide (((25 : Nat) : Int) = 23) = false from rfl, show decide (((25 : Nat) : Int) = 10) = false from rfl]
  simp only [Bool.not_true, brn_false, decide_true]
  by_cases c1 : n < 1
  · rw [decide_eq_true c1, brn_true, if_neg (by omega)]
  rw [decide_eq_false c1, brn_false]
  by_cases c2 : ((l.length + 1 : Nat) : Int) ≤ n
  · rw [decide_eq_true c2, brn_true, if_neg (by omega)]
  rw [decide_eq_false c2, brn_false, if_pos (by omega)]
  obtain ⟨k, rfl⟩ : ∃ k : Nat, n = ((k + 1 : Nat) : Int) := ⟨(n - 1).toNat, by omega⟩
  have hk : k < l.length := by omega
  have e : idx (one (vN ⟨((k + 1 : Nat) : Int), 0⟩) :: l.map one) ((k + 1 : Nat) : Int) = some (one l[k]) := by
    rw [idxG (by simp; omega)]; simp
  rw [e, obnd_some, single_one, obnd_some]
  have e2 : (((k + 1 : Nat) : Int) - 1).toNat = k := by omega
  rw [e2]
  simp [List.getD_eq_getElem?_getD, hk]
theorem chosen_24 {n : Int} {l : List Val} (hl : l.length ≤ 900) (h : 1 ≤ n ∧ n ≤ l.length) : fun_ApplyF (24, [⟨true, l⟩, one (vN ⟨n, 0⟩)]) = some (l.getD (n - 1).toNat v0) := by
  obtain ⟨_, _, h1, h2, _, _, _, _⟩ := ch_ar
  rw [show ((24 : Int)) = ((24 : Nat) : Int) from rfl, apply_ok (by omega) (by rw [h1]; simp) (by rw [h2]; simp), core_chosen (by simp)]
  unfold fun_chosenF fun_indexedF
  simp only
  rw [idxZ, obnd_some]
  have e : sub [⟨true, l⟩, one (vN ⟨n, 0⟩)] 1 (([⟨true, l⟩, one (vN ⟨n, 0⟩)] : List Arg).length : Int) = some [one (vN ⟨n, 0⟩)] := subU_any (D := [⟨true, l⟩, one (vN ⟨n, 0⟩)]) (i := 1) (k := 2) (by omega) (by simp)
  rw [e, obnd_some, shaped_one, obnd_some, show idx ([⟨true, l⟩, one (vN ⟨n, 0⟩)] : List Arg) 1 = some (one (vN ⟨n, 0⟩)) from rfl, obnd_some, show idx (one (vN ⟨n, 0⟩)).L 0 = some (vN ⟨n, 0⟩) from rfl, obnd_some, num_vN, obnd_some]
  simp only [fault_is, obnd_some]
  rw [show decide (((24 : Nat) : Int) = 24) = true from rfl]
  simp only [Bool.not_true, brn_false, decide_true, brn_true]
  rw [decide_eq_false (show ¬ n < 1 by omega), brn_false, decide_eq_false (show ¬ (l.length : Int) < n by omega), brn_false]
  obtain ⟨k, rfl⟩ : ∃ k : Nat, n = ((k + 1 : Nat) : Int) := ⟨(n - 1).toNat, by omega⟩
  have hk : k < l.length := by omega
  rw [i64_in (by omega) (by omega), show (((k + 1 : Nat) : Int) - 1) = (k : Int) by omega, idxG hk]
  simp [List.getD_eq_getElem?_getD, hk]
def chS (s : List Val) (v : Val) : List Val ⊕ (List Val ⊕ List Val) :=
  bif decide (1000 < (v.S.length : Int)) then .inr (.inr s) else bif decide ((val_CheckF v).getD 1 = 0) then .inl (s ++ [v]) else .inr (.inr s)
def chG (n1 : Arg) : List Val ⊕ List Val → ((List Val × List Arg) × Arg) ⊕ ((List Val × Bool) × Arg)
  | .inl s => .inl ((s, n1 :: s.map one), ⟨true, s⟩)
  | .inr s => .inr ((s, true), ⟨true, s⟩)
theorem ch_loop {l : List Val} (n1 : Arg) (hl : l.length ≤ 20) : law11_FunChooses_l1J ([], l, ⟨true, []⟩, [n1], 0) = some (chG n1 (foldX chS .inl [] l)) :=
  fold_loop (F := law11_FunChooses_l1F) (fun (s : List Val) (i : Nat) => (s, l, (⟨true, s⟩ : Arg), n1 :: s.map one, (i : Int))) (chG n1) l chS .inl (fun s i => s.length = i) (by omega)
    (fun back s i hi hs => by
      unfold law11_FunChooses_l1F chS
      simp only
      rw [ltT hi, brn_true, idxG hi, obnd_some, obnd_some]
      by_cases h1 : 1000 < ((l[i]).S.length : Int)
      · rw [decide_eq_true h1]; rfl
      · rw [decide_eq_false h1]
        obtain ⟨e, he, _, _⟩ := check_eq (x := l[i]) (by omega)
        rw [he]
        simp only [brn_false, cond_false, obnd_some, Option.getD_some]
        by_cases h2 : e = 0
        · rw [decide_eq_true h2]
          simp only [Bool.not_true, brn_false, cond_true]
          rw [appN (by simp only [List.length_singleton]; omega), obnd_some, one_is2, obnd_some, appN (by simp only [List.length_cons, List.length_map, List.length_nil]; omega), obnd_some, wr1 (by omega)]
          simp [contX]
        · rw [decide_eq_false h2]; rfl)
    (fun s i hi s' hs h => by
      unfold chS at h
      revert h
      cases decide (1000 < ((l[i]).S.length : Int)) <;> cases decide ((val_CheckF l[i]).getD 1 = 0) <;> intro h <;> cases h
      simp [hs])
    (fun back s hs => by
      unfold law11_FunChooses_l1F
      simp only
      rw [ltF, brn_false]; rfl) [] rfl
theorem ch_fold : ∀ (l s : List Val), (foldX chS .inl s l = .inl (s ++ l)) ∨ ∃ t, foldX chS (.inl : List Val → List Val ⊕ List Val) s l = .inr t
  | [], s => .inl (by simp [foldX])
  | v :: l, s => by
    simp only [foldX]
    cases h : chS s v with
    | inr t =>
      unfold chS at h
      revert h
      cases decide (1000 < (v.S.length : Int)) <;> cases decide ((val_CheckF v).getD 1 = 0) <;> intro h <;> cases h <;> exact .inr ⟨s, rfl⟩
    | inl s' =>
      have e : s' = s ++ [v] := by
        unfold chS at h
        revert h
        cases decide (1000 < (v.S.length : Int)) <;> cases decide ((val_CheckF v).getD 1 = 0) <;> intro h <;> cases h; rfl
      subst e
      rcases ch_fold l (s ++ [v]) with h | h
      · exact .inl (by simpa using h)
      · exact .inr h
theorem veq (v : Val) : (decide (v.Kind = v.Kind) && (decide (v.N.M = v.N.M) && (decide (v.N.S = v.N.S) && (decide (v.S = v.S) && (decide (v.B = v.B) && decide (v.E = v.E)))))) = true := by simp
theorem FunChooses_true {l : List Val} {n : UInt8} : law11_FunChoosesF (l, n) = some true := by
  unfold law11_FunChoosesF
  rw [show law11_knownF () = some true from rfl, obnd_some]
  simp only [Bool.not_true, brn_false]
  by_cases h0 : (l.length : Int) = 0
  · rw [decide_eq_true h0, brn_true]
  rw [decide_eq_false h0, brn_false, brn_false]
  by_cases h1 : 20 < (l.length : Int)
  · rw [decide_eq_true h1, brn_true]
  rw [decide_eq_false h1, brn_false]
  have hn : n.toNat < 256 := n.toNat_lt
  have hk : (IntKind.i64.wrap (n.toNat : Int)).tmod (l.length : Int) = ((n.toNat % l.length : Nat) : Int) := by
    rw [i64_in (by omega) (by omega), Int.tmod_eq_emod_of_nonneg (by omega)]; rfl
  have hlt : n.toNat % l.length < l.length := Nat.mod_lt _ (by omega)
  generalize n.toNat % l.length = k at hk hlt
  rw [hk, i64_in (n := 1 + (k : Int)) (by omega) (by omega), show law9_NF (1 + (k : Int)) = some (vN ⟨1 + (k : Int), 0⟩) from rfl]
  simp only [obnd_some, one_is2]
  rw [ch_loop _ (by omega)]
  rcases ch_fold l [] with h | ⟨t, h⟩
  · rw [h]
    simp only [chG, obnd_some, osum, List.nil_append]
    obtain ⟨a, l', rfl⟩ : ∃ a l', l = a :: l' := by
      cases l with
      | nil => exact absurd rfl h0
      | cons a l' => exact ⟨a, l', rfl⟩
    have hz : idx (a :: l') (IntKind.i64.wrap (((a :: l').length : Int) - 1)) = some ((a :: l').getLast (by simp)) := by
      rw [i64_in (by simp only [List.length_cons] at *; omega) (by simp only [List.length_cons] at *; omega), show ((a :: l').length : Int) - 1 = (((a :: l').length - 1 : Nat) : Int) by simp only [List.length_cons]; omega, idxG (by simp)]
      rw [List.getLast_eq_getElem]
    rw [idxZ, obnd_some, hz, obnd_some]
    generalize (a :: l').getLast (by simp) = z
    rw [chosen_23, obnd_some]
    have hb : law11_FunChooses_b2J (a :: l', ⟨true, a :: l'⟩, one (vN ⟨1 + (k : Int), 0⟩) :: (a :: l').map one, (k : Int), a, z, ⟨3, ⟨0, 0⟩, [], true, 0⟩, ⟨3, ⟨0, 0⟩, [], false, 0⟩) = some true := by
      unfold law11_FunChooses_b2J
      simp only
      rw [chosen_25 (by omega) (by simp), if_pos (by omega), show (1 + (k : Int) - 1).toNat = k by omega, obnd_some, idxG hlt, obnd_some]
      have e1 : (a :: l').getD k v0 = (a :: l')[k] := by rw [List.getD_eq_getElem?_getD, List.getElem?_eq_getElem hlt]; rfl
      rw [e1, veq]
      simp only [cond_false, brn_true]
      rw [i64_in (n := (k : Int) + 1) (by omega) (by omega), show law9_NF ((k : Int) + 1) = some (vN ⟨(k : Int) + 1, 0⟩) from rfl]
      simp only [obnd_some, one_is2]
      rw [chosen_24 (by omega) (by omega), show ((k : Int) + 1 - 1).toNat = k by omega, obnd_some, e1, veq]
      simp only [brn_true]
      rw [show (⟨3, ⟨0, 0⟩, [], true, 0⟩ : Val) = vT true from rfl, show (⟨3, ⟨0, 0⟩, [], false, 0⟩ : Val) = vT false from rfl, chosen_10, obnd_some, if_pos rfl, veq]
      simp only [brn_true]
      rw [chosen_10, obnd_some, if_neg (by decide), veq]
      simp only [brn_true]
      rw [show law9_NF 0 = some (vN ⟨0, 0⟩) from rfl]
      simp only [obnd_some]
      rw [show [one (vN ⟨0, 0⟩), one a] = one (vN ⟨0, 0⟩) :: [a].map one from rfl, chosen_25 (by simp) (by simp), if_neg (by omega), obnd_some, fault_is, obnd_some]
      simp
    by_cases h4 : a.Kind = 4
    · rw [if_pos h4, decide_eq_true h4, brn_true, veq]
      simp only [Bool.not_true, cond_true, brn_false]
      rw [hb]; rfl
    · rw [if_neg h4, decide_eq_false h4, brn_false, veq]
      simp only [Bool.not_true, Bool.not_false, cond_true, brn_false, brn_true]
      rw [hb]; rfl
  · rw [h]; rfl
end Go.Proofs.YtdgpkbnnljblmaaGreatDoor
