/- X1 -/
import Derived.Test.YtdgpkbnnljblmaaGreatDoorQQ
namespace Go.Proofs.YtdgpkbnnljblmaaGreatDoor
open Go Go.Ev
def chr (d : Int) : UInt8 := UInt8.ofNat (48 + d.toNat)
def wordsOf (D : List Int) : List UInt8 := (D.map chr).reverse
theorem decDigits_digs : ∀ (n : Nat), n ≠ 0 → Lib.decDigits n = wordsOf (digs n) := by
  intro n
  induction n using Nat.strongRecOn with
  | _ n ih =>
    intro h
    rw [Lib.decDigits, digs_pos h]
    unfold wordsOf
    simp only [List.map_cons, List.reverse_cons]
    by_cases h10 : n < 10
    · rw [dif_pos h10, Nat.div_eq_of_lt h10, digs_zero, Nat.mod_eq_of_lt h10]
      simp [chr]
    · rw [dif_neg h10, ih (n / 10) (by omega) (by omega)]
      unfold wordsOf
      have e : ((n : Int) % 10).toNat = n % 10 := by omega
      simp [chr, e]
def padded (n s : Nat) : List Int := digs n ++ List.replicate (s + 1 - (digs n).length) 0
theorem padded_len (n s : Nat) : (padded n s).length = max (s + 1) (digs n).length := by
  unfold padded; simp; omega
theorem padded_dig (n s : Nat) : isDig (padded n s) := isDig_append.2 ⟨digs_dig n, fun d hd => by rw [List.eq_of_mem_replicate hd]; omega⟩
theorem repeat_zero : ∀ c, Lib.repeatL [48] c = List.replicate c 48
  | 0 => rfl
  | c + 1 => by rw [Lib.repeatL, repeat_zero c]; rfl
theorem padded_words (n s : Nat) : List.replicate (s + 1 - (Lib.decDigits n).length) (48 : UInt8) ++ Lib.decDigits n = wordsOf (padded n s) := by
  unfold padded wordsOf
  by_cases h : n = 0
  · subst h
    rw [digs_zero, Lib.decDigits_one (by omega)]
    simp only [List.length_singleton, List.length_nil, List.nil_append, List.map_replicate, List.reverse_replicate]
    have e : chr 0 = 48 := rfl
    rw [e, show (UInt8.ofNat (48 + 0)) = (48 : UInt8) from rfl, show s + 1 - 1 = s by omega, show s + 1 - 0 = s + 1 by omega, List.replicate_succ']
  · rw [decDigits_digs n h]
    unfold wordsOf
    simp only [List.map_append, List.map_replicate, List.reverse_append, List.reverse_replicate, List.length_reverse, List.length_map]
    rfl
def dotted (D : List Int) (s : Nat) : List UInt8 := if s = 0 then wordsOf D else wordsOf (D.drop s) ++ 46 :: wordsOf (D.take s)
def decWords (M : Int) (s : Nat) : List UInt8 := (if M < 0 then [45] else []) ++ dotted (padded M.natAbs s) s
theorem catS {x y : List UInt8} (h : x.length + y.length ≤ 10000) : cat x y = some (x ++ y) := by
  have : fits (x.length + y.length) = true := by unfold fits; exact Nat.ble_eq_true_of_le (by unfold mxLen; omega)
  unfold cat
  rw [this]; rfl
theorem subU {D : List UInt8} {i k : Nat} (h : i ≤ k) (h2 : k ≤ D.length) : sub D (i : Int) (k : Int) = some ((D.take k).drop i) := by
  have hd : (decide ((0 : Int) ≤ (i : Int)) && decide ((i : Int) ≤ (k : Int)) && decide ((k : Int) ≤ (D.length : Int))) = true := by
    simp; omega
  simp only [sub, hd, cond_true, Int.toNat_natCast]
  try rfl
theorem decText_is {M : Int} {s : Nat} (hM : I64 M) (hs : s ≤ 9) : dec_TextF ⟨M, (s : Int)⟩ = some (decWords M s) := by
  have l1 := len19 hM
  have hp := padded_len M.natAbs s
  have hlen : (Lib.decDigits M.natAbs).length ≤ 20 := by
    by_cases h : M.natAbs = 0
    · rw [h, Lib.decDigits_one (by omega)]; simp
    · rw [decDigits_digs _ h]; unfold wordsOf; simp; omega
  unfold dec_TextF
  rw [of_is hM, obnd_some]
  have lo : (W M.natAbs (decide (M < 0))).lo = M.natAbs := by
    show (M.natAbs : Int) % 18446744073709551616 = M.natAbs
    unfold I64 at hM; omega
  have mi : (W (M.natAbs : Int) (decide (M < 0))).minus = decide (M < 0) := rfl
  have fu : strconv_FormatUintF ((M.natAbs : Int), 10) = some (Lib.decDigits M.natAbs) := by
    unfold strconv_FormatUintF istrconv_FormatUintF
    simp
  rw [lo, fu, obnd_some, mi]
  unfold decWords dotted
  have hw := padded_words M.natAbs s
  by_cases h0 : s = 0
  · subst h0
    rw [decide_eq_false (by simp), brn_false, if_pos rfl, ← hw]
    have e : 0 + 1 - (Lib.decDigits M.natAbs).length = 0 := by
      have : 0 < (Lib.decDigits M.natAbs).length := by
        rw [Lib.decDigits_length]
        unfold Lib.nDigits; split <;> omega
      omega
    rw [e]
    by_cases hm : M < 0
    · rw [decide_eq_true hm, brn_true, catS (by simp; omega), obnd_some, if_pos hm]; rfl
    · rw [decide_eq_false hm, brn_false, if_neg hm]; rfl
  · have hc : (bif decide (IntKind.i64.wrap (IntKind.i64.wrap ((s : Int) + 1) - ((Lib.decDigits M.natAbs).length : Int)) < 0) then (0 : Int) else IntKind.i64.wrap (IntKind.i64.wrap ((s : Int) + 1) - ((Lib.decDigits M.natAbs).length : Int))) = ((s + 1 - (Lib.decDigits M.natAbs).length : Nat) : Int) := by
      rw [i64_in (n := (s : Int) + 1) (by omega) (by omega), i64_in (by omega) (by omega)]
      by_cases h : (s : Int) + 1 - ((Lib.decDigits M.natAbs).length : Int) < 0
      · rw [decide_eq_true h, cond_true]; omega
      · rw [decide_eq_false h, cond_false]; omega
    rw [decide_eq_true (by simp; omega), brn_true]
    simp only
    rw [hc]
    have hr : strings_RepeatF ([48], ((s + 1 - (Lib.decDigits M.natAbs).length : Nat) : Int)) = some (List.replicate (s + 1 - (Lib.decDigits M.natAbs).length) 48) := by
      unfold strings_RepeatF
      simp only [Int.toNat_natCast]
      rw [decide_eq_true (by omega), decide_eq_true (by simp; omega), repeat_zero]; rfl
    have hwl : (wordsOf (padded M.natAbs s)).length = max (s + 1) (digs M.natAbs).length := by unfold wordsOf; simp [hp]
    rw [hr, obnd_some, catS (by simp; omega), obnd_some, hw, if_neg h0, hwl, i64_in (by omega) (by omega), show ((max (s + 1) (digs M.natAbs).length : Nat) : Int) - (s : Int) = ((max (s + 1) (digs M.natAbs).length - s : Nat) : Int) by omega]
    have s1 := subU (D := wordsOf (padded M.natAbs s)) (i := 0) (k := max (s + 1) (digs M.natAbs).length - s) (by omega) (by omega)
    have s2 := subU (D := wordsOf (padded M.natAbs s)) (i := max (s + 1) (digs M.natAbs).length - s) (k := max (s + 1) (digs M.natAbs).length) (by omega) (by omega)
    rw [List.take_of_length_le (by omega)] at s2
    have e1 : (wordsOf (padded M.natAbs s)).take (max (s + 1) (digs M.natAbs).length - s) = wordsOf ((padded M.natAbs s).drop s) := by
      unfold wordsOf
      rw [List.take_reverse, List.length_map, hp, List.map_drop]
      congr 2; omega
    have e2 : (wordsOf (padded M.natAbs s)).drop (max (s + 1) (digs M.natAbs).length - s) = wordsOf ((padded M.natAbs s).take s) := by
      unfold wordsOf
      rw [List.drop_reverse, List.length_map, hp, List.map_take]
      congr 2; omega
    rw [List.drop_zero, e1] at s1
    rw [e2] at s2
    have z0 : ((0 : Nat) : Int) = 0 := rfl
    rw [z0] at s1
    have la : (wordsOf ((padded M.natAbs s).drop s)).length ≤ 30 := by unfold wordsOf; simp [hp]; omega
    have lb : (wordsOf ((padded M.natAbs s).take s)).length ≤ 30 := by unfold wordsOf; simp; omega
    rw [s1, obnd_some, catS (by simp; omega), obnd_some, s2, obnd_some, catS (by simp; omega), obnd_some]
    by_cases hm : M < 0
    · rw [decide_eq_true hm, brn_true, catS (by simp; omega), obnd_some, if_pos hm]; simp
    · rw [decide_eq_false hm, brn_false, if_neg hm]; simp
end Go.Proofs.YtdgpkbnnljblmaaGreatDoor
