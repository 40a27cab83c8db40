/- Numbers in digits, the lowest first: plain Lean. -/
import Derived.Test.YtmlbknmjgahcfaaDoorDH
import Derived.Test.YtmlbknmjgahcfaaDoorDO
namespace Go.Proofs.YtmlbknmjgahcfaaDoor
open Go Go.Ev

/-- the digits of a number, the lowest first, none that is 0 at the end -/
def digs (n : Nat) : List Int := if h : n = 0 then [] else ((n % 10 : Nat) : Int) :: digs (n / 10)
termination_by n
decreasing_by omega
theorem digs_zero : digs 0 = [] := by rw [digs]; rfl
theorem digs_pos {n : Nat} (h : n ≠ 0) : digs n = ((n % 10 : Nat) : Int) :: digs (n / 10) := by
  conv => lhs; rw [digs]
  rw [dif_neg h]
/-- what digits mean -/
def vd : List Int → Nat
  | [] => 0
  | d :: D => d.toNat + 10 * vd D
def isDig (D : List Int) : Prop := ∀ d ∈ D, 0 ≤ d ∧ d ≤ 9
theorem isDig_cons {d : Int} {D : List Int} : isDig (d :: D) ↔ (0 ≤ d ∧ d ≤ 9) ∧ isDig D := by simp [isDig]
theorem isDig_nil : isDig [] := by simp [isDig]
theorem isDig_append {D E : List Int} : isDig (D ++ E) ↔ isDig D ∧ isDig E := by
  simp only [isDig, List.mem_append]
  exact ⟨fun h => ⟨fun d hd => h d (.inl hd), fun d hd => h d (.inr hd)⟩, fun h d hd => hd.elim (h.1 d) (h.2 d)⟩
theorem isDig_drop {D : List Int} (h : isDig D) (n : Nat) : isDig (D.drop n) := fun d hd => h d (List.mem_of_mem_drop hd)
theorem isDig_take {D : List Int} (h : isDig D) (n : Nat) : isDig (D.take n) := fun d hd => h d (List.mem_of_mem_take hd)
theorem vd_append : ∀ (D E : List Int), vd (D ++ E) = vd D + 10 ^ D.length * vd E
  | [], E => by simp [vd]
  | d :: D, E => by
    simp only [List.cons_append, vd, vd_append D E, List.length_cons, Nat.pow_succ]
    rw [Nat.mul_add, Nat.mul_comm (10 ^ D.length) 10, Nat.mul_assoc]
    omega
theorem vd_lt : ∀ {D : List Int}, isDig D → vd D < 10 ^ D.length
  | [], _ => by simp [vd]
  | d :: D, h => by
    obtain ⟨h1, h2⟩ := isDig_cons.1 h
    have := vd_lt h2
    simp only [vd, List.length_cons, Nat.pow_succ]
    omega
theorem digs_dig : ∀ (n : Nat), isDig (digs n) := by
  intro n
  induction n using Nat.strongRecOn with
  | _ n ih =>
    by_cases h : n = 0
    · subst h; rw [digs_zero]; exact isDig_nil
    · rw [digs_pos h]
      exact isDig_cons.2 ⟨by omega, ih _ (by omega)⟩
theorem vd_digs : ∀ (n : Nat), vd (digs n) = n := by
  intro n
  induction n using Nat.strongRecOn with
  | _ n ih =>
    by_cases h : n = 0
    · subst h; rw [digs_zero]; rfl
    · rw [digs_pos h]
      simp only [vd]
      rw [ih _ (by omega)]
      omega
theorem digs_len_le : ∀ (k n : Nat), n < 10 ^ k → (digs n).length ≤ k
  | 0, n, h => by
    have : n = 0 := by simp at h; omega
    subst this; rw [digs_zero]; simp
  | k + 1, n, h => by
    by_cases h0 : n = 0
    · subst h0; rw [digs_zero]; simp
    · rw [digs_pos h0]
      have := digs_len_le k (n / 10) (by rw [Nat.pow_succ] at h; omega)
      simp; omega
theorem digs_len_lt {k n : Nat} (h : (digs n).length ≤ k) : n < 10 ^ k := by
  have h1 := vd_lt (digs_dig n)
  rw [vd_digs] at h1
  exact Nat.lt_of_lt_of_le h1 (Nat.pow_le_pow_right (by omega) h)
theorem digs_nil {n : Nat} : (digs n).length = 0 ↔ n = 0 := by
  constructor
  · intro h; have := digs_len_lt (n := n) (k := 0) (by omega); simpa using this
  · intro h; subst h; rw [digs_zero]; rfl

/-- without the noughts at the end -/
def rtrim : List Int → List Int
  | [] => []
  | d :: D => match rtrim D with
    | [] => if d = 0 then [] else [d]
    | e :: E => d :: e :: E
theorem rtrim_eq : ∀ {D : List Int}, isDig D → rtrim D = digs (vd D)
  | [], _ => by simp [rtrim, vd, digs_zero]
  | d :: D, h => by
    obtain ⟨h1, h2⟩ := isDig_cons.1 h
    have ih := rtrim_eq h2
    simp only [rtrim, vd]
    by_cases hv : vd D = 0
    · rw [ih, hv, digs_zero]
      simp only
      by_cases hd : d = 0
      · subst hd; simp [digs_zero]
      · rw [if_neg hd, digs_pos (by omega), show (d.toNat + 10 * 0) / 10 = 0 by omega, digs_zero]
        congr 1; omega
    · rw [ih, digs_pos hv]
      simp only
      rw [← digs_pos hv, digs_pos (n := d.toNat + 10 * vd D) (by omega), show (d.toNat + 10 * vd D) / 10 = vd D by omega]
      congr 1; omega
theorem rtrim_snoc_zero : ∀ (D : List Int), rtrim (D ++ [0]) = rtrim D
  | [] => by simp [rtrim]
  | d :: D => by simp only [List.cons_append, rtrim, rtrim_snoc_zero D]
theorem rtrim_snoc_ne {x : Int} (hx : x ≠ 0) : ∀ (D : List Int), rtrim (D ++ [x]) = D ++ [x]
  | [] => by simp [rtrim, hx]
  | d :: D => by
    simp only [List.cons_append, rtrim, rtrim_snoc_ne hx D]
    cases D <;> simp
theorem rtrim_len : ∀ (D : List Int), (rtrim D).length ≤ D.length
  | [] => by simp [rtrim]
  | d :: D => by
    have := rtrim_len D
    simp only [rtrim]
    split
    · split <;> simp
    · rename_i e E h; rw [h] at this; simp only [List.length_cons] at *; omega
theorem rtrim_take : ∀ (D : List Int), rtrim D = D.take (rtrim D).length
  | [] => by simp [rtrim]
  | d :: D => by
    have ih := rtrim_take D
    simp only [rtrim]
    split
    · split <;> simp
    · rename_i e E h
      rw [h] at ih
      simp only [List.length_cons] at ih ⊢
      rw [List.take_succ_cons, ← ih]
/-- of a number's digits the lowest left out -/
theorem digs_drop : ∀ (k n : Nat), (digs n).drop k = digs (n / 10 ^ k)
  | 0, n => by simp
  | k + 1, n => by
    by_cases h : n = 0
    · subst h; rw [digs_zero]; simp [digs_zero]
    · rw [digs_pos h, List.drop_succ_cons, digs_drop k, Nat.div_div_eq_div_mul, Nat.pow_succ, Nat.mul_comm]
theorem digs_get : ∀ (k n : Nat), k < (digs n).length → (digs n)[k]? = some ((n / 10 ^ k % 10 : Nat) : Int)
  | 0, n, h => by
    by_cases h0 : n = 0
    · subst h0; rw [digs_zero] at h; simp at h
    · rw [digs_pos h0]; simp
  | k + 1, n, h => by
    by_cases h0 : n = 0
    · subst h0; rw [digs_zero] at h; simp at h
    · rw [digs_pos h0] at h ⊢
      simp only [List.length_cons, List.getElem?_cons_succ] at h ⊢
      rw [digs_get k _ (by omega), Nat.div_div_eq_div_mul, Nat.pow_succ, Nat.mul_comm]
theorem digs_up : ∀ (k n : Nat), n ≠ 0 → digs (n * 10 ^ k) = List.replicate k 0 ++ digs n
  | 0, n, _ => by simp
  | k + 1, n, h => by
    have h1 : n * 10 ^ (k + 1) = n * 10 ^ k * 10 := by rw [Nat.pow_succ, Nat.mul_assoc]
    have h2 : n * 10 ^ k ≠ 0 := by
      have := Nat.pow_pos (a := 10) (n := k) (by omega)
      exact Nat.mul_ne_zero h (by omega)
    rw [h1, digs_pos (by omega), show n * 10 ^ k * 10 / 10 = n * 10 ^ k by omega, digs_up k n h, show n * 10 ^ k * 10 % 10 = 0 by omega]
    rfl
theorem idxI {D : List Int} {k : Nat} {v : Int} (h : D[k]? = some v) : idx D (k : Int) = some v := by
  simp [idx, h]
theorem appS {xs ys : List Int} (h : xs.length + ys.length ≤ 10000) : app 8 xs ys = some (xs ++ ys) := by
  have : Nat.ble ((xs.length + ys.length) * 8) 140737488355328 = true := Nat.ble_eq_true_of_le (by omega)
  simp [app, this]
theorem subS {D : List Int} {k : Nat} (h : k ≤ D.length) : sub D (k : Int) (D.length : Int) = some (D.drop k) := by
  simp [sub, h]
end Go.Proofs.YtmlbknmjgahcfaaDoor
