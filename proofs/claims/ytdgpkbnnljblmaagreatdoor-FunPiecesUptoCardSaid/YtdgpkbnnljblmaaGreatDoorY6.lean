/- Y6 -/
import Derived.Test.YtdgpkbnnljblmaaGreatDoorY5
namespace Go.Proofs.YtdgpkbnnljblmaaGreatDoor
open Go Go.Ev Go.Lib
def fnT : List Function := (fun_allF ()).getD []
theorem allT_is : fun_allF () = some fnT := rfl
theorem fnT_len : fnT.length = 30 := by decide +kernel
def core (k : Int) (l : List Arg) : Option Val :=
  obnd (fun_Apply_b1J (k, l, v0, k)) fun y =>
    osum y
      (fun y =>
        obnd (fun_shapedF l) fun y_2 =>
          brn (!y_2) (some (vE 15))
            (obnd (fun_Apply_l3J ([], l, (l.length : Int), 0)) fun y_3 =>
              obnd (fun_Apply_b4J (k, y.2, y_3, k)) fun y => osum y (fun _ => obnd (fun_wordedF (k, y_3)) fun y => some y) fun y => some y.2))
      fun y => some y.2
def arLo (k : Nat) : Int := ((fnT[k]?).map (·.lo)).getD 0
def arHi (k : Nat) : Int := ((fnT[k]?).map (·.hi)).getD 0
theorem apply_is {k : Nat} (hk : k < 30) (l : List Arg) : fun_ApplyF ((k : Int), l) =
    brn (decide ((l.length : Int) < arLo k)) (some (vE 15)) (brn (decide (arHi k < (l.length : Int))) (some (vE 15)) (core k l)) := by
  have h1 : k < fnT.length := by rw [fnT_len]; exact hk
  unfold fun_ApplyF arLo arHi
  rw [allT_is, obnd_some, decide_eq_false (show ¬ (k : Int) < 0 by omega), brn_false, decide_eq_false (show ¬ (fnT.length : Int) ≤ (k : Int) by rw [fnT_len]; omega), brn_false, idxG h1, List.getElem?_eq_getElem h1]
  simp only [fault_is, obnd_some]
  rfl
theorem apply_ok {k : Nat} (hk : k < 30) {l : List Arg} (h1 : arLo k ≤ l.length) (h2 : (l.length : Int) ≤ arHi k) : fun_ApplyF ((k : Int), l) = core k l := by
  rw [apply_is hk, decide_eq_false (by omega), brn_false, decide_eq_false (by omega), brn_false]
theorem core_many {k : Int} {l : List Arg} (h : k = 0 ∨ k = 1 ∨ k = 2 ∨ k = 3 ∨ k = 4 ∨ k = 11 ∨ k = 12 ∨ k = 18) : core k l = fun_manyF (k, l) := by
  unfold core fun_Apply_b1J fun_Apply_b2J
  rcases h with rfl | rfl | rfl | rfl | rfl | rfl | rfl | rfl
  · cases fun_manyF (0, l) <;> simp [osum]
  · cases fun_manyF (1, l) <;> simp [osum]
  · cases fun_manyF (2, l) <;> simp [osum]
  · cases fun_manyF (3, l) <;> simp [osum]
  · cases fun_manyF (4, l) <;> simp [osum]
  · cases fun_manyF (11, l) <;> simp [osum]
  · cases fun_manyF (12, l) <;> simp [osum]
  · cases fun_manyF (18, l) <;> simp [osum]
def fst1 (a : Arg) : Val := a.L.headD v0
def single (k : Int) (vs : List Val) : Option Val := obnd (fun_Apply_b4J (k, v0, vs, k)) fun y => osum y (fun _ => fun_wordedF (k, vs)) fun y => some y.2
theorem firsts_is {l : List Arg} (hl : l.length ≤ 1000) (hb : l.any badB = false) : fun_Apply_l3J ([], l, (l.length : Int), 0) = some (l.map fst1) := by
  have this : fun_Apply_l3J ([], l, (l.length : Int), 0) = some (id _) := fold_loop (F := fun_Apply_l3F) (fun (s : List Val) (i : Nat) => (s, l, (l.length : Int), (i : Int))) id l (fun s a => .inl (s ++ [fst1 a])) id (fun s i => s.length = i) (by omega)
    (fun back s i hi hs => by
      have hb' : badB l[i] = false := by
        rw [List.any_eq_false] at hb
        simpa using hb _ (List.getElem_mem hi)
      unfold badB at hb'
      simp only [Bool.or_eq_false_iff, Bool.not_eq_false', decide_eq_true_eq] at hb'
      have e : idx (l[i]).L 0 = some (fst1 l[i]) := by
        unfold fst1
        obtain ⟨_, h1⟩ := hb'
        match h : (l[i]).L, h1 with
        | [v], _ => rfl
      unfold fun_Apply_l3F
      simp only
      rw [ltT hi, brn_true, idxG hi, obnd_some, e, obnd_some, appN (by simp only [List.length_singleton]; omega), obnd_some, wr1 (by omega)]
      rfl)
    (fun s i hi s' hs h => by cases h; simp [hs])
    (fun back s hs => by
      unfold fun_Apply_l3F
      simp only
      rw [ltF, brn_false]; rfl) [] rfl
  rw [this, foldX_inl]
  have : ∀ (l : List Arg) (s : List Val), l.foldl (fun s a => s ++ [fst1 a]) s = s ++ l.map fst1 := by
    intro l
    induction l with
    | nil => intro s; simp
    | cons a l ih => intro s; simp only [List.foldl_cons, List.map_cons]; rw [ih]; simp
  rw [id, id, this]; rfl
theorem core_rest {k : Int} {l : List Arg} (hl : l.length ≤ 1000) (h : k ≠ 0 ∧ k ≠ 1 ∧ k ≠ 2 ∧ k ≠ 3 ∧ k ≠ 4 ∧ k ≠ 11 ∧ k ≠ 12 ∧ k ≠ 18 ∧ k ≠ 10 ∧ k ≠ 23 ∧ k ≠ 24 ∧ k ≠ 25 ∧ k ≠ 28) : core k l = if l.any badB then some (vE 15) else single k (l.map fst1) := by
  unfold core fun_Apply_b1J fun_Apply_b2J
  obtain ⟨h0, h1, h2, h3, h4, h5, h6, h7, h8, h9, h10, h11, h12⟩ := h
  simp only [h0, h1, h2, h3, h4, h5, h6, h7, h8, h9, h10, h11, h12, decide_false, brn_false, osum, obnd_some]
  rw [shaped_is hl, obnd_some]
  cases hb : l.any badB with
  | true => rfl
  | false =>
    simp only [Bool.not_false, Bool.not_true, brn_false, Bool.false_eq_true, if_false]
    rw [firsts_is hl hb, obnd_some]
    unfold single
    cases fun_Apply_b4J (k, v0, l.map fst1, k) with
    | none => rfl
    | some y =>
      cases y with
      | inl _ => simp only [obnd_some]; cases fun_wordedF (k, l.map fst1) <;> rfl
      | inr _ => rfl
theorem single_word {k : Int} (vs : List Val) (h : k ≠ 21 ∧ k ≠ 22 ∧ k ≠ 29 ∧ k ≠ 13 ∧ k ≠ 5 ∧ k ≠ 6 ∧ k ≠ 7 ∧ k ≠ 8 ∧ k ≠ 9) : single k vs = fun_wordedF (k, vs) := by
  unfold single fun_Apply_b4J
  obtain ⟨h0, h1, h2, h3, h4, h5, h6, h7, h8⟩ := h
  simp only [h0, h1, h2, h3, h4, h5, h6, h7, h8, decide_false, brn_false, osum, obnd_some]
end Go.Proofs.YtdgpkbnnljblmaaGreatDoor
