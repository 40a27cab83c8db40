/- Loops over lists, numbers' ranges, bytes, in plain Lean. -/
import Derived.Test.YtankcgcnkoialaaF2
namespace Go.Proofs.Ytankcgcnkoialaa
open Go Go.Ev Go.Lib

def foldX {A S Y : Type} (step : S → A → S ⊕ Y) (fin : S → Y) : S → List A → Y
  | s, [] => fin s
  | s, a :: l => match step s a with
    | .inl s' => foldX step fin s' l
    | .inr y => y
/-- what comes behind a step -/
def contX {S Y Z : Type} (b : S → Option Z) (g : Y → Z) : S ⊕ Y → Option Z
  | .inl s => b s
  | .inr y => some (g y)
/-- a loop that counts through a list -/
theorem fold_loop {A S X Y Z : Type} {F : (X → Option Z) → X → Option Z} (mk : S → Nat → X) (g : Y → Z) (l : List A) (step : S → A → S ⊕ Y) (fin : S → Y) (Pre : S → Nat → Prop)
    (hl : l.length ≤ 1000000000)
    (h : ∀ back s i (hi : i < l.length), Pre s i → F back (mk s i) = contX (fun s' => back (mk s' (i + 1))) g (step s l[i]))
    (hp : ∀ s i (hi : i < l.length) s', Pre s i → step s l[i] = .inl s' → Pre s' (i + 1))
    (hend : ∀ back s, Pre s l.length → F back (mk s l.length) = some (g (fin s))) (s : S) (h0 : Pre s 0) : iter F big (mk s 0) = some (g (foldX step fin s l)) := by
  have key : ∀ k n i s, i + k = l.length → k < n → Pre s i → iter F n (mk s i) = some (g (foldX step fin s (l.drop i))) := by
    intro k
    induction k with
    | zero =>
      intro n i s hi hn hs
      obtain ⟨m, rfl⟩ : ∃ m, n = m + 1 := ⟨n - 1, by omega⟩
      have : i = l.length := by omega
      subst this
      rw [iter_succ, hend _ _ hs, List.drop_length]; rfl
    | succ k ih =>
      intro n i s hi hn hs
      obtain ⟨m, rfl⟩ : ∃ m, n = m + 1 := ⟨n - 1, by omega⟩
      have hlt : i < l.length := by omega
      rw [iter_succ, h _ _ _ hlt hs, List.drop_eq_getElem_cons hlt]
      simp only [foldX]
      cases hst : step s l[i] with
      | inl s' => exact ih m (i + 1) s' (by omega) (by omega) (hp _ _ hlt _ hs hst)
      | inr y => rfl
  have := key l.length big 0 s (by omega) (by rw [big_pos]; omega) h0
  simpa using this
/-- a loop that looks for something in a list -/
theorem find_loop {A X Z : Type} {F : (X → Option Z) → X → Option Z} (mk : Nat → X) (g : Option Nat → Z) (l : List A) (p : A → Bool) (hl : l.length ≤ 1000000000)
    (h : ∀ back i (hi : i < l.length), F back (mk i) = bif p l[i] then some (g (some i)) else back (mk (i + 1)))
    (hend : ∀ back, F back (mk l.length) = some (g none)) : iter F big (mk 0) = some (g (l.findIdx? p)) := by
  have key : ∀ k n i, i + k = l.length → k < n → iter F n (mk i) = some (g (((l.drop i).findIdx? p).map (· + i))) := by
    intro k
    induction k with
    | zero =>
      intro n i hi hn
      obtain ⟨m, rfl⟩ : ∃ m, n = m + 1 := ⟨n - 1, by omega⟩
      have : i = l.length := by omega
      subst this
      rw [iter_succ, hend, List.drop_length]; rfl
    | succ k ih =>
      intro n i hi hn
      obtain ⟨m, rfl⟩ : ∃ m, n = m + 1 := ⟨n - 1, by omega⟩
      have hlt : i < l.length := by omega
      rw [iter_succ, h _ _ hlt, List.drop_eq_getElem_cons hlt, List.findIdx?_cons]
      cases hpl : p l[i] with
      | true => simp
      | false =>
        simp only [cond_false]
        rw [ih m (i + 1) (by omega) (by omega)]
        simp only [Bool.false_eq_true, if_false, Option.map_map]
        congr 3
        funext j
        simp only [Function.comp]
        omega
  have := key l.length big 0 (by omega) (by rw [big_pos]; omega)
  simpa using this
theorem idxG {A : Type} {l : List A} {i : Nat} (hi : i < l.length) : idx l (i : Int) = some l[i] := by simp [idx, hi]
theorem idxZ {A : Type} {a : A} {l : List A} : idx (a :: l) 0 = some a := rfl
theorem wr1 {i : Nat} (h : i < 1000000000) : IntKind.i64.wrap ((i : Int) + 1) = ((i + 1 : Nat) : Int) := by
  simp [IntKind.wrap, IntKind.bits, IntKind.signed]; omega
theorem ltT {i n : Nat} (h : i < n) : decide ((i : Int) < (n : Int)) = true := decide_eq_true (by omega)
theorem ltF {n : Nat} : decide ((n : Int) < (n : Int)) = false := decide_eq_false (by omega)

theorem u64 (n : Int) : IntKind.u64.wrap n = n % 18446744073709551616 := by simp [IntKind.wrap, IntKind.bits, IntKind.signed]

theorem i64 (n : Int) : IntKind.i64.wrap n = (n + 9223372036854775808) % 18446744073709551616 - 9223372036854775808 := IntKind.wrap_i64 n

theorem u64_in {n : Int} (h0 : 0 ≤ n) (h1 : n < 18446744073709551616) : IntKind.u64.wrap n = n := by rw [u64]; omega

theorem i64_in {n : Int} (h0 : -9223372036854775808 ≤ n) (h1 : n ≤ 9223372036854775807) : IntKind.i64.wrap n = n := by rw [i64]; omega


theorem or_low {a b : Int} {s : Nat} (ha : 0 ≤ a) (hb : 0 ≤ b) (hb2 : b < 2 ^ s) (h : a * 2 ^ s + b < 18446744073709551616) : bitsOf .or .u64 (a * 2 ^ s) b = a * 2 ^ s + b := by
  obtain ⟨m, rfl⟩ := Int.eq_ofNat_of_zero_le ha
  obtain ⟨n, rfl⟩ := Int.eq_ofNat_of_zero_le hb
  have c : ((2 : Int) ^ s) = ((2 ^ s : Nat) : Int) := by simp
  rw [c] at *
  have hb3 : n < 2 ^ s := Int.ofNat_lt.1 hb2
  simp only [bitsOf]
  rw [BitVec.toNat_or, ← Int.natCast_mul, BitVec.ofInt_natCast, BitVec.ofInt_natCast, BitVec.toNat_ofNat, BitVec.toNat_ofNat, u64]
  have h' : ((m * 2 ^ s : Nat) : Int) + n < 18446744073709551616 := by rw [Int.natCast_mul]; simpa using h
  generalize hp : m * 2 ^ s = p at *
  have e1 : p % 2 ^ IntKind.u64.bits = p := Nat.mod_eq_of_lt (by simp only [IntKind.bits]; omega)
  have e2 : n % 2 ^ IntKind.u64.bits = n := Nat.mod_eq_of_lt (by simp only [IntKind.bits]; omega)
  rw [e1, e2, ← hp, ← Nat.shiftLeft_eq, ← Nat.shiftLeft_add_eq_or_of_lt hb3, Nat.shiftLeft_eq, hp]
  omega


theorem appN {A : Type} {B : Nat} {xs ys : List A} (h : (xs.length + ys.length) * B ≤ 140737488355328) : app B xs ys = some (xs ++ ys) := by
  have : Nat.ble ((xs.length + ys.length) * B) 140737488355328 = true := Nat.ble_eq_true_of_le h
  simp [app, this]

theorem foldX_inl {A S Y : Type} (f : S → A → S) (fin : S → Y) : ∀ (l : List A) (s : S), foldX (fun s a => .inl (f s a)) fin s l = fin (l.foldl f s)
  | [], _ => rfl
  | a :: l, s => by simp only [foldX, List.foldl_cons]; exact foldX_inl f fin l _

end Go.Proofs.Ytankcgcnkoialaa
