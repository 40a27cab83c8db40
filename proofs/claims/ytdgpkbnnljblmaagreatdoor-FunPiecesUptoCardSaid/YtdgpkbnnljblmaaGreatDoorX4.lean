/- X4 -/
import Derived.Test.YtdgpkbnnljblmaaGreatDoorX3
namespace Go.Proofs.YtdgpkbnnljblmaaGreatDoor
open Go Go.Ev
def judged (m : Bool) (w b : List UInt8) : Dec × Int :=
  if (if m then 9223372036854775808 < valB (w ++ b) 0 else 9223372036854775808 ≤ valB (w ++ b) 0) then (⟨0, 0⟩, 8)
  else if 9 < b.length ∨ b.getLast? = some 48 then (⟨0, 0⟩, 1)
  else (⟨if m then -(valB (w ++ b) 0 : Int) else (valB (w ++ b) 0 : Int), (b.length : Int)⟩, 0)
def headW (x w b : List UInt8) (p : Bool) : Bool := decide (w = []) || (p && decide (b = [])) || (decide (1 < w.length) && decide (w.head? = some 48)) || decide (x = [45, 48])
def minusOf (x : List UInt8) : Bool := decide (x.head? = some 45)
def textOf (x : List UInt8) : List UInt8 := if x.head? = some 45 then x.tail else x
def parseSpec (x : List UInt8) : Dec × Int :=
  if (headW x (cutW (textOf x)).1 (cutW (textOf x)).2.1 (cutW (textOf x)).2.2 || !((cutW (textOf x)).1 ++ (cutW (textOf x)).2.1).all isD) = true then (⟨0, 0⟩, 2)
  else judged (minusOf x) (cutW (textOf x)).1 (cutW (textOf x)).2.1
theorem prefix_is {x : List UInt8} (hl : x.length ≤ 10000) : strings_CutPrefixF (x, [45]) = some (textOf x, minusOf x) := by
  unfold strings_CutPrefixF istringslite_CutPrefixF istringslite_HasPrefixF textOf minusOf
  cases x with
  | nil => simp
  | cons c t =>
    have s1 := subU (D := c :: t) (i := 0) (k := 1) (by omega) (by simp)
    have s2 := subU (D := c :: t) (i := 1) (k := (c :: t).length) (by simp) (by omega)
    rw [List.take_of_length_le (Nat.le_refl _)] at s2
    have z0 : ((0 : Nat) : Int) = 0 := rfl
    have z1 : ((([45] : List UInt8).length : Nat) : Int) = ((1 : Nat) : Int) := rfl
    rw [z0] at s1
    simp only
    rw [z1, decide_eq_true (by simp; omega), brn_true, s1, obnd_some, obnd_some, s2]
    simp only [List.take_succ_cons, List.take_zero, List.drop_zero, List.head?_cons, List.drop_succ_cons, List.tail_cons]
    by_cases h : c = 45
    · subst h; simp
    · have : ¬ ([c] = [(45 : UInt8)]) := fun e => h (by simpa using e)
      rw [decide_eq_false this]; simp [h]
theorem suffix_is {b : List UInt8} (hl : b.length ≤ 10000) : strings_HasSuffixF (b, [48]) = some (decide (b.getLast? = some 48)) := by
  unfold strings_HasSuffixF istringslite_HasSuffixF
  have z1 : ((([48] : List UInt8).length : Nat) : Int) = ((1 : Nat) : Int) := rfl
  simp only
  rw [z1]
  rcases List.eq_nil_or_concat b with rfl | ⟨l, c, rfl⟩
  · simp
  · simp only [List.concat_eq_append] at hl ⊢
    have hlen : (l ++ [c]).length = l.length + 1 := by simp
    have s2 := subU (D := l ++ [c]) (i := l.length) (k := (l ++ [c]).length) (by simp) (by omega)
    rw [List.take_of_length_le (Nat.le_refl _), List.drop_left] at s2
    rw [decide_eq_true (by omega), brn_true, i64_in (by omega) (by omega), show ((l ++ [c]).length : Int) - ((1 : Nat) : Int) = ((l.length : Nat) : Int) by omega, s2, obnd_some, obnd_some]
    simp
theorem tailP_is {m w0 : Bool} {w b : List UInt8} (hl : w.length + b.length ≤ 10000) : (obnd (cat w b) fun z =>
    obnd (dec_Parse_l1J (⟨0, 0, m⟩, w0, false, z, 0)) fun y_2 =>
      obnd (dec_Parse_b2J (⟨0, 0⟩, m, b, y_2.2.fst, y_2.1)) fun y =>
        osum y (fun _ => some ((⟨IntKind.i64.wrap y_2.2.fst.lo, (b.length : Int)⟩ : Dec), (0 : Int))) fun y => some (y.2, y.1)) = some (if (w0 || !(w ++ b).all isD) = true then (⟨0, 0⟩, 2) else judged m w b) := by
  rw [catS hl, obnd_some]
  obtain ⟨wr, lg, lo, pos, h1, h2, h3⟩ := parse_loop (m := m) (w0 := w0) (z := w ++ b) (by simp; omega)
  rw [h1, obnd_some]
  unfold dec_Parse_b2J
  simp only
  rw [← h2]
  cases wr with
  | true => simp [osum]
  | false =>
    rw [brn_false, if_neg (by simp)]
    unfold judged
    rcases h3 rfl with ⟨rfl, h4⟩ | ⟨rfl, rfl, h4⟩
    · rw [brn_true, obnd_some, if_pos (by cases m <;> simp <;> omega)]; rfl
    · rw [brn_false, suffix_is (by omega)]
      simp only [obnd_some]
      generalize valB (w ++ b) 0 = N at *
      by_cases g1 : (9223372036854775808 : Int) < (N : Int)
      · rw [decide_eq_true g1, brn_true, obnd_some, if_pos (by cases m <;> simp <;> omega)]; rfl
      · rw [decide_eq_false g1, brn_false]
        have fin : (m = true ∨ N < 9223372036854775808) → (obnd (brn (decide (9 < (b.length : Int))) (some (Sum.inr ((1 : Int), (⟨0, 0⟩ : Dec)))) (brn (decide (b.getLast? = some 48)) (some (Sum.inr (1, ⟨0, 0⟩)))
            (brn m (some (Sum.inr (0, ⟨IntKind.i64.wrap (IntKind.u64.wrap (0 - (N : Int))), (b.length : Int)⟩))) (some (Sum.inl ((), (⟨0, 0⟩ : Dec))))))) fun y => osum y (fun _ => some ((⟨IntKind.i64.wrap (N : Int), (b.length : Int)⟩ : Dec), (0 : Int))) fun y => some (y.2, y.1)) =
            some (if (if m = true then 9223372036854775808 < N else 9223372036854775808 ≤ N) then (⟨0, 0⟩, 8) else if 9 < b.length ∨ b.getLast? = some 48 then (⟨0, 0⟩, 1) else (⟨if m = true then -(N : Int) else (N : Int), (b.length : Int)⟩, 0)) := fun hm => by
          rw [if_neg (by cases m <;> simp at hm ⊢ <;> omega)]
          by_cases g3 : 9 < b.length
          · rw [decide_eq_true (by omega), brn_true, if_pos (.inl g3)]; rfl
          · rw [decide_eq_false (by omega), brn_false]
            by_cases g4 : b.getLast? = some 48
            · rw [decide_eq_true g4, brn_true, if_pos (.inr g4)]; rfl
            · rw [decide_eq_false g4, brn_false, if_neg (by simp [g3, g4])]
              cases m with
              | true =>
                rw [brn_true, obnd_some]
                have : IntKind.i64.wrap (IntKind.u64.wrap (0 - (N : Int))) = -(N : Int) := by rw [u64, i64]; omega
                simp only [osum, this, if_true]
              | false =>
                simp at hm
                rw [brn_false, obnd_some, i64_in (by omega) (by omega)]
                simp [osum]
        by_cases g2 : (N : Int) = 9223372036854775808
        · rw [decide_eq_true g2, brn_true]
          cases m with
          | false => rw [Bool.not_false, brn_true, obnd_some, if_pos (by simp; omega)]; rfl
          | true => rw [Bool.not_true, brn_false]; exact fin (.inl rfl)
        · rw [decide_eq_false g2, brn_false]; exact fin (.inr (by omega))
theorem parse_is {x : List UInt8} (hl : x.length ≤ 5000) : dec_ParseF x = some (parseSpec x) := by
  unfold dec_ParseF parseSpec
  rw [prefix_is (by omega), obnd_some]
  have htl : (textOf x).length ≤ 5000 := by
    unfold textOf
    split
    · simp; omega
    · exact hl
  simp only
  rw [cut_is (by omega), obnd_some]
  obtain ⟨h1, h2, h3⟩ := cutW_eq (textOf x)
  have hlen : (cutW (textOf x)).1.length + (cutW (textOf x)).2.1.length ≤ 5000 := by
    have := congrArg List.length h1
    simp only [List.length_append] at this
    cases hp : (cutW (textOf x)).2.2 with
    | true => rw [hp] at this; simp at this; omega
    | false => rw [h2 hp]; simp; omega
  generalize (cutW (textOf x)).1 = w at *
  generalize (cutW (textOf x)).2.1 = b at *
  generalize (cutW (textOf x)).2.2 = p at *
  simp only [tailP_is (m := minusOf x) (w := w) (b := b) (show w.length + b.length ≤ 10000 by omega)]
  unfold headW
  by_cases c1 : w = []
  · simp [c1]
  · rw [decide_eq_false c1, brn_false]
    have tail : (brn (decide (1 < (w.length : Int))) (obnd (idx w 0) fun y_2 => brn (decide ((y_2.toNat : Int) = 48)) (some (if (true || !(w ++ b).all isD) = true then ((⟨0, 0⟩ : Dec), (2 : Int)) else judged (minusOf x) w b)) (some (if (decide (x = [45, 48]) || !(w ++ b).all isD) = true then (⟨0, 0⟩, 2) else judged (minusOf x) w b)))
        (some (if (decide (x = [45, 48]) || !(w ++ b).all isD) = true then (⟨0, 0⟩, 2) else judged (minusOf x) w b))) =
        some (if (((decide (1 < w.length) && decide (w.head? = some 48)) || decide (x = [45, 48])) || !(w ++ b).all isD) = true then (⟨0, 0⟩, 2) else judged (minusOf x) w b) := by
      cases w with
      | nil => exact absurd rfl c1
      | cons c t =>
        by_cases c2 : 1 < (c :: t).length
        · rw [decide_eq_true (by omega), brn_true, show idx (c :: t) 0 = some c from rfl, obnd_some, decide_eq_true c2]
          by_cases c3 : c = 48
          · subst c3; simp
          · have : ¬ ((c.toNat : Int) = 48) := fun e => c3 (UInt8.toNat_inj.1 (show c.toNat = (48 : UInt8).toNat by simp; omega))
            rw [decide_eq_false this, brn_false]
            simp [c3]
        · rw [decide_eq_false (by omega), brn_false, decide_eq_false c2]; simp
    cases p with
    | true =>
      rw [brn_true]
      by_cases c4 : b = []
      · rw [decide_eq_true c4, brn_true]; simp
      · rw [decide_eq_false c4, brn_false, tail]; simp
    | false => rw [brn_false, tail]; simp
end Go.Proofs.YtdgpkbnnljblmaaGreatDoor
