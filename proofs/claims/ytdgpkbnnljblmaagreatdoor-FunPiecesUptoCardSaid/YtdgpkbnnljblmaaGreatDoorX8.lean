/- X8 -/
import Derived.Test.YtdgpkbnnljblmaaGreatDoorX6
namespace Go.Proofs.YtdgpkbnnljblmaaGreatDoor
open Go Go.Ev Go.Lib
theorem appN {A : Type} {B : Nat} {xs ys : List A} (h : (xs.length + ys.length) * B ≤ 140737488355328) : app B xs ys = some (xs ++ ys) := by
  have : Nat.ble ((xs.length + ys.length) * B) 140737488355328 = true := Nat.ble_eq_true_of_le h
  simp [app, this]
theorem wrap_nat {n : Nat} (h : n < 9223372036854775808) : IntKind.i64.wrap (n : Int) = n := i64_in (by omega) (by omega)
theorem and_nat {x y : Nat} (hx : x < 9223372036854775808) (hy : y < 9223372036854775808) : bitsOf .and .i64 (x : Int) (y : Int) = ((x &&& y : Nat) : Int) := by
  simp only [bitsOf]
  rw [BitVec.toNat_and, BitVec.ofInt_natCast, BitVec.ofInt_natCast, BitVec.toNat_ofNat, BitVec.toNat_ofNat]
  simp only [IntKind.bits]
  rw [Nat.mod_eq_of_lt (by omega), Nat.mod_eq_of_lt (by omega)]
  exact wrap_nat (Nat.lt_of_le_of_lt Nat.and_le_left hx)
theorem or_nat {x y : Nat} (hx : x < 1073741824) (hy : y < 64) : bitsOf .or .i64 ((x * 64 : Nat) : Int) (y : Int) = ((x * 64 + y : Nat) : Int) := by
  simp only [bitsOf]
  rw [BitVec.toNat_or, BitVec.ofInt_natCast, BitVec.ofInt_natCast, BitVec.toNat_ofNat, BitVec.toNat_ofNat]
  simp only [IntKind.bits]
  rw [Nat.mod_eq_of_lt (by omega), Nat.mod_eq_of_lt (by omega)]
  have := Nat.two_pow_add_eq_or_of_lt (i := 6) (b := y) (by omega) x
  rw [Nat.mul_comm x 64, show (64 : Nat) = 2 ^ 6 from rfl, ← this]
  exact wrap_nat (by omega)
theorem byte_and : ∀ b : Fin 256, (b.val &&& 31 = b.val % 32) ∧ (b.val &&& 15 = b.val % 16) ∧ (b.val &&& 7 = b.val % 8) ∧ (b.val &&& 63 = b.val % 64) ∧ ((b.val &&& 192 = 128) ↔ b.val / 64 = 2) := by decide +kernel
theorem bAnd {b : Nat} (h : b < 256) : bitsOf .and .i64 (b : Int) 31 = ((b % 32 : Nat) : Int) ∧ bitsOf .and .i64 (b : Int) 15 = ((b % 16 : Nat) : Int) ∧ bitsOf .and .i64 (b : Int) 7 = ((b % 8 : Nat) : Int) ∧
    bitsOf .and .i64 (b : Int) 63 = ((b % 64 : Nat) : Int) ∧ (bitsOf .and .i64 (b : Int) 192 = 128 ↔ b / 64 = 2) := by
  obtain ⟨h1, h2, h3, h4, h5⟩ := byte_and ⟨b, h⟩
  simp only at h1 h2 h3 h4 h5
  refine ⟨?_, ?_, ?_, ?_, ?_⟩
  · rw [← h1]; exact and_nat (y := 31) (by omega) (by omega)
  · rw [← h2]; exact and_nat (y := 15) (by omega) (by omega)
  · rw [← h3]; exact and_nat (y := 7) (by omega) (by omega)
  · rw [← h4]; exact and_nat (y := 63) (by omega) (by omega)
  · have e : bitsOf .and .i64 (b : Int) 192 = ((b &&& 192 : Nat) : Int) := and_nat (y := 192) (by omega) (by omega)
    rw [e]
    constructor
    · intro h; exact h5.1 (by omega)
    · intro h; have := h5.2 h; omega
def more : List UInt8 → Nat → Nat → Option Nat
  | _, 0, v => some v
  | [], _ + 1, _ => none
  | d :: l, n + 1, v => if d.toNat / 64 = 2 then more l n (v * 64 + d.toNat % 64) else none
theorem more_is {x : List UInt8} {i n v : Nat} (hl : x.length ≤ 5000000) (hn : i + n < x.length) (hn3 : n ≤ 3) (hv : v < 64) : ref7_Runes_l4J (x, (i : Int), (n : Int), (v : Int), 1) = some (match more (x.drop (i + 1)) n v with | some w => .inl (w : Int) | none => .inr ([], false)) := by
  obtain ⟨y, h1, h2⟩ := iter_ex (F := ref7_Runes_l4F) (fun z => 10 - z.2.2.2.2.toNat) (fun z => ∃ k w : Nat, z = (x, (i : Int), (n : Int), (w : Int), ((k + 1 : Nat) : Int)) ∧ k ≤ n ∧ w < 64 * 64 ^ k ∧ more (x.drop (i + 1 + k)) (n - k) w = more (x.drop (i + 1)) n v)
      (fun y => y = (match more (x.drop (i + 1)) n v with | some w => .inl (w : Int) | none => .inr ([], false))) (by
    rintro back z ⟨k, w, rfl, hk, hw, hm⟩ hb
    unfold ref7_Runes_l4F
    simp only at hb ⊢
    rw [← hm]
    rcases Nat.lt_or_ge k n with hlt | hge
    · have hx : i + 1 + k < x.length := by omega
      have hdl := (x[i + 1 + k]'hx).toNat_lt
      obtain ⟨_, _, _, b63, b192⟩ := bAnd hdl
      have hw3 : w < 64 * 64 ^ 3 := Nat.lt_of_lt_of_le hw (Nat.mul_le_mul_left _ (Nat.pow_le_pow_right (by omega) (by omega)))
      rw [decide_eq_true (by omega), brn_true, i64_in (by omega) (by omega), show (i : Int) + ((k + 1 : Nat) : Int) = ((i + 1 + k : Nat) : Int) by omega, idxB (List.getElem?_eq_getElem hx), obnd_some, wrap_nat (by omega)]
      have hd : x.drop (i + 1 + k) = x[i + 1 + k]'hx :: x.drop (i + 1 + k + 1) := List.drop_eq_getElem_cons hx
      rw [hd, show n - k = (n - (k + 1)) + 1 by omega]
      generalize x[i + 1 + k]'hx = d at *
      by_cases h2 : d.toNat / 64 = 2
      · rw [decide_eq_true (b192.2 h2), Bool.not_true, brn_false, b63, show (w : Int) * 64 = ((w * 64 : Nat) : Int) by omega, wrap_nat (by omega), or_nat (by omega) (by omega), i64_in (by omega) (by omega)]
        have e : more (d :: x.drop (i + 1 + k + 1)) (n - (k + 1) + 1) w = more (x.drop (i + 1 + k + 1)) (n - (k + 1)) (w * 64 + d.toNat % 64) := by
          show (if _ then _ else _) = _
          rw [if_pos h2]
        rw [e]
        rw [hd, show n - k = (n - (k + 1)) + 1 by omega, e] at hm
        rw [hm]
        exact hb _ ⟨k + 1, w * 64 + d.toNat % 64, by simp, by omega, by rw [Nat.pow_succ]; omega, by rw [← hm]; rfl⟩ (by simp only; omega)
      · rw [decide_eq_false (fun h => h2 (b192.1 h)), Bool.not_false, brn_true]
        have e : more (d :: x.drop (i + 1 + k + 1)) (n - (k + 1) + 1) w = none := by
          show (if _ then _ else _) = _
          rw [if_neg h2]
        rw [e]
        exact ⟨_, rfl, rfl⟩
    · have : k = n := by omega
      subst this
      rw [decide_eq_false (by omega), brn_false, Nat.sub_self]
      refine ⟨_, rfl, ?_⟩
      have : ∀ l, more l 0 w = some w := fun l => by cases l <;> rfl
      rw [this]) (x, (i : Int), (n : Int), (v : Int), 1) ⟨0, v, by simp, by omega, by omega, by simp⟩ (by simp only; omega)
  subst h2; exact h1
end Go.Proofs.YtdgpkbnnljblmaaGreatDoor
