/- Y9 -/
import Derived.Test.YtdgpkbnnljblmaaGreatDoorY8
namespace Go.Proofs.YtdgpkbnnljblmaaGreatDoor
open Go Go.Ev Go.Lib
def divR (a b : Dec) : Dec × Int := (dec_DivF (a, b)).getD (⟨0, 0⟩, 0)
theorem divR_eq {a b : Dec} (ha : okd a) (hb : okd b) : dec_DivF (a, b) = some (divR a b) ∧ ref7_DivDecF (a, b) = some (divR a b) := by
  obtain ⟨r, h1, h2, _⟩ := div_eq ha hb
  unfold divR
  rw [h1]; exact ⟨rfl, h2⟩
def foldV (op : Int) (l : List Dec) : Val :=
  if op = 1 then (match l with | [] => vN ⟨0, 0⟩ | x :: xs => vN (xs.foldl minD x))
  else if op = 2 then (match l with | [] => vN ⟨0, 0⟩ | x :: xs => vN (xs.foldl maxD x))
  else if (sumD ⟨0, 0⟩ l).2 = 0 then (if op = 0 then vN (sumD ⟨0, 0⟩ l).1 else numV (divR (sumD ⟨0, 0⟩ l).1 ⟨l.length, 0⟩)) else numV (sumD ⟨0, 0⟩ l)
theorem many_count {l : List Arg} (h : okA l) (hb : l.any badA = false) : fun_manyF (3, l) = some (vN ⟨(cntA 0 l : Nat), 0⟩) := by
  unfold fun_manyF fun_many_b1J
  simp only
  rw [contains_many (by have := h.1; omega), hb, obnd_some, brn_false, counted_is h]
  simp only [decide_true, brn_true, obnd_some]
  rw [int_is]; rfl
theorem b4_one {x : List Dec} (hx : ∀ d ∈ x, okd d) (hl : x.length ≤ 100000) : fun_many_b4J (1, v0, x) = some (.inr ((), foldV 1 x)) := by
  unfold fun_many_b4J foldV
  simp only [decide_true, brn_true, if_true]
  cases x with
  | nil => rfl
  | cons d xs =>
    rw [decide_eq_true (show 0 < ((d :: xs).length : Int) by simp only [List.length_cons]; omega), brn_true, min_is (hx d (by simp)) (by simp only [List.length_cons] at hl; omega) (fun e he => hx e (by simp [he])), obnd_some, num_is2]; rfl
theorem b4_two {x : List Dec} (hx : ∀ d ∈ x, okd d) (hl : x.length ≤ 100000) : fun_many_b4J (2, v0, x) = some (.inr ((), foldV 2 x)) := by
  unfold fun_many_b4J foldV
  simp only
  rw [show decide ((2 : Int) = 1) = false from rfl, brn_false, if_neg (by decide)]
  simp only [decide_true, brn_true, if_true]
  cases x with
  | nil => rfl
  | cons d xs =>
    rw [decide_eq_true (show 0 < ((d :: xs).length : Int) by simp only [List.length_cons]; omega), brn_true, max_is (hx d (by simp)) (by simp only [List.length_cons] at hl; omega) (fun e he => hx e (by simp [he])), obnd_some, num_is2]; rfl
theorem many_num {op : Int} {l : List Arg} (hop : op = 0 ∨ op = 1 ∨ op = 2 ∨ op = 4) (h : okA l) (hb : l.any badA = false) :
    fun_manyF (op, l) = some (match numA [] l with | .inl x => foldV op x | .inr v => v) := by
  have hb1 : fun_many_b1J (op, l, v0, op) = some (.inl ((), v0)) := by
    unfold fun_many_b1J
    rcases hop with rfl | rfl | rfl | rfl <;> rfl
  unfold fun_manyF
  simp only
  rw [contains_many (by have := h.1; omega), hb, obnd_some, brn_false, show (⟨0, ⟨0, 0⟩, [], false, 0⟩ : Val) = v0 from rfl, hb1, numbers_is h]
  simp only [obnd_some, osum]
  cases hn : numA [] l with
  | inr v => rfl
  | inl x =>
    have hx := numA_ok (fun a ha => (h.2 a ha).2) (by simp) hn
    have hl := numA_len (fun a ha => (h.2 a ha).1) hn
    have h40 := h.1
    simp only [List.length_nil] at hl
    simp only [Bool.not_true, brn_false]
    rcases (show op = 1 ∨ op = 2 ∨ (op = 0 ∨ op = 4) by omega) with rfl | rfl | ho
    · rw [b4_one hx (by omega)]; rfl
    · rw [b4_two hx (by omega)]; rfl
    · have hb4 : fun_many_b4J (op, v0, x) = some (.inl ((), v0)) := by
        unfold fun_many_b4J
        rcases ho with rfl | rfl <;> rfl
      rw [hb4, show dec_IntF 0 = some ⟨0, 0⟩ from rfl]
      simp only [obnd_some]
      rw [many_l5 (by omega) hx, obnd_some]
      unfold sumOut foldV
      rw [if_neg (show ¬ op = 1 by omega), if_neg (show ¬ op = 2 by omega)]
      by_cases hs : (sumD ⟨0, 0⟩ x).2 = 0
      · rw [if_pos hs, if_pos hs]
        simp only
        by_cases h0 : op = 0
        · rw [decide_eq_true h0, brn_true, if_pos h0, num_is2]; rfl
        · have so := (sumD_ok (l := x) okd0).1 hs
          rw [decide_eq_false h0, brn_false, if_neg h0, show dec_IntF (x.length : Int) = some ⟨x.length, 0⟩ from rfl, obnd_some, (divR_eq so (okdI (by unfold I64; omega))).1, obnd_some, num_is2, obnd_some]
      · rw [if_neg hs, if_neg hs]
theorem apply_many {k : Nat} {l : List Arg} (hl : l.length ≤ 1000) (h : k = 0 ∨ k = 1 ∨ k = 2 ∨ k = 3 ∨ k = 4 ∨ k = 11 ∨ k = 12 ∨ k = 18) : fun_ApplyF ((k : Int), l) = fun_manyF ((k : Int), l) := by
  have ha : arLo k = 0 ∧ arHi k = 9223372036854775807 := by
    rcases h with rfl | rfl | rfl | rfl | rfl | rfl | rfl | rfl <;> decide +kernel
  rw [apply_ok (by omega) (by rw [ha.1]; omega) (by rw [ha.2]; omega), core_many (by omega)]
theorem cmp_vN {a b : Dec} (ha : okd a) (hb : okd b) : val_CompareF (vN a, vN b) = some (cmpV (V a) (V b)) := by
  rw [Cmp_is (okW_N ha) (okW_N hb) (by simp [vN]) (by simp [vN])]
  rw [show key (vN a) = [1, V a] from rfl, show key (vN b) = [1, V b] from rfl, cmpL_head, cmpL_one, cmpV_N]
end Go.Proofs.YtdgpkbnnljblmaaGreatDoor
