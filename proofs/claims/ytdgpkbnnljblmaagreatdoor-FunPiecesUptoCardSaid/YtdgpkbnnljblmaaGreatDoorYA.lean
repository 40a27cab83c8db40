/- YA -/
import Derived.Test.YtdgpkbnnljblmaaGreatDoorY8
namespace Go.Proofs.YtdgpkbnnljblmaaGreatDoor
open Go Go.Ev Go.Lib
def foldI {S : Type} (step : S → Nat → Int → S) : S → Nat → List Int → S
  | st, _, [] => st
  | st, i, r :: l => foldI step (step st i r) (i + 1) l
theorem rune_loop {S X Z : Type} {F : (X → Option Z) → X → Option Z} (mk : S → Nat → Nat → X) (g : S → Nat → Z) (s : List UInt8) (step : S → Nat → Int → S) (Pre : S → Nat → Prop) (hl : s.length ≤ 100000000)
    (h : ∀ back st i p, p < s.length → i ≤ p → Pre st i → isRune ((rune s p).1 : Int) → F back (mk st i p) = back (mk (step st i ((rune s p).1 : Int)) (i + 1) (p + (rune s p).2)))
    (hp : ∀ st i r, isRune r → Pre st i → Pre (step st i r) (i + 1))
    (hend : ∀ back st i p, s.length ≤ p → Pre st i → F back (mk st i p) = some (g st p)) (st : S) (h0 : Pre st 0) : ∃ p, iter F big (mk st 0 0) = some (g (foldI step st 0 (rs s)) p) := by
  have key : ∀ k n p i st, s.length - p ≤ k → k < n → i ≤ p → Pre st i → ∃ q, iter F n (mk st i p) = some (g (foldI step st i (rs (s.drop p))) q) := by
    intro k
    induction k with
    | zero =>
      intro n p i st hk hn hi hpre
      obtain ⟨m, rfl⟩ : ∃ m, n = m + 1 := ⟨n - 1, by omega⟩
      refine ⟨p, ?_⟩
      rw [iter_succ, hend _ _ _ _ (by omega) hpre, List.drop_eq_nil_of_le (by omega)]; rfl
    | succ k ih =>
      intro n p i st hk hn hi hpre
      obtain ⟨m, rfl⟩ : ∃ m, n = m + 1 := ⟨n - 1, by omega⟩
      by_cases hlt : p < s.length
      · obtain ⟨e, hw⟩ := rs_at hlt
        have hr : isRune ((rune s p).1 : Int) := by rw [rune_drop]; exact decode_rune _
        rw [iter_succ, h _ _ _ _ hlt hi hpre hr, e]
        exact ih m (p + (rune s p).2) (i + 1) _ (by omega) (by omega) (by omega) (hp _ _ _ hr hpre)
      · refine ⟨p, ?_⟩
        rw [iter_succ, hend _ _ _ _ (by omega) hpre, List.drop_eq_nil_of_le (by omega)]; rfl
  have := key s.length big 0 0 st (by omega) (by rw [big_pos]; omega) (by omega) h0
  simpa using this
theorem enc_len {r : Int} (h : isRune r) : (Lib.encodeRune r).length ≤ 4 := by
  obtain ⟨n, rfl⟩ := Int.eq_ofNat_of_zero_le h.1
  rw [encZ n h]
  split
  · simp
  · split
    · simp
    · split <;> simp
theorem ofNat_u8 (n : Nat) : UInt8.ofNat (IntKind.u8.wrap (n : Int)).toNat = UInt8.ofNat n := by
  rw [u8w]
  apply UInt8.toNat_inj.1
  simp [UInt8.toNat_ofNat']
  omega
theorem appendRune_is {out : List UInt8} {r : Int} (h : isRune r) (hl : out.length ≤ 100000000) : utf8_AppendRuneF (out, r) = some (out ++ Lib.encodeRune r) := by
  have hu := u32in h
  obtain ⟨n, rfl⟩ := Int.eq_ofNat_of_zero_le h.1
  have h' := h
  unfold isRune at h'
  rw [encZ n h]
  have ha : ∀ ys : List UInt8, ys.length ≤ 4 → app 1 out ys = some (out ++ ys) := fun ys hy => appN (by omega)
  unfold utf8_AppendRuneF
  simp only
  rw [hu]
  by_cases c1 : n < 128
  · rw [decide_eq_true (show (n : Int) ≤ 127 by omega), brn_true, if_pos c1, ofNat_u8, ha _ (by simp), obnd_some]
  rw [decide_eq_false (show ¬ (n : Int) ≤ 127 by omega), brn_false, if_neg c1]
  unfold utf8_appendRuneNonASCIIF utf8_appendRuneNonASCII_b1J
  simp only
  rw [hu]
  have d6 := fdivN n 64
  have d12 := fdivN n 4096
  have d18 := fdivN n 262144
  simp only [Int.cast_ofNat_Int] at d6 d12 d18
  rw [d6, d12, d18, lo6, lo6, lo6]
  simp only [Int.toNat_natCast]
  by_cases c2 : n < 2048
  · rw [decide_eq_true (show (n : Int) ≤ 2047 by omega), brn_true, if_pos c2, hi5 (by omega), Int.toNat_natCast, ha _ (by simp), obnd_some, obnd_some]
  rw [decide_eq_false (show ¬ (n : Int) ≤ 2047 by omega), brn_false, if_neg c2]
  by_cases c3 : n < 65536
  · rw [if_pos c3, hi4 (by omega), Int.toNat_natCast]
    by_cases c4 : (n : Int) < 55296
    · rw [decide_eq_true c4, brn_true, obnd_some, brn_true, ha _ (by simp), obnd_some, obnd_some]
    · rw [decide_eq_false c4, brn_false, decide_eq_true (show 57343 < (n : Int) by omega), brn_true, decide_eq_true (show (n : Int) ≤ 65535 by omega), obnd_some, brn_true, ha _ (by simp), obnd_some, obnd_some]
  · rw [if_neg c3, hi3 (by omega), Int.toNat_natCast, decide_eq_false (show ¬ (n : Int) < 55296 by omega), brn_false, decide_eq_true (show 57343 < (n : Int) by omega), brn_true, decide_eq_false (show ¬ (n : Int) ≤ 65535 by omega), obnd_some, brn_false,
      decide_eq_true (show 65535 < (n : Int) by omega), brn_true, decide_eq_true (show (n : Int) ≤ 1114111 by omega), brn_true, ha _ (by simp), obnd_some, obnd_some]
theorem writeRune_is {out : List UInt8} {r : Int} (h : isRune r) (hl : out.length ≤ 100000000) : ∃ k, strings_Builder_WriteRuneF (out, (), r) = some ((out ++ Lib.encodeRune r, k, ()), ()) := by
  unfold strings_Builder_WriteRuneF
  simp only
  rw [show bld_copyCheckF (out, ()) = some (out, ()) from rfl, obnd_some, appendRune_is h hl, obnd_some]
  exact ⟨_, rfl⟩
def selS (f n : Int) (out : List UInt8) (i : Nat) (r : Int) : List UInt8 := if f ≤ (i : Int) ∧ (i : Int) - f < n then out ++ Lib.encodeRune r else out
theorem part_is {s : List UInt8} {f n : Int} (hl : s.length ≤ 2000000) (hf : 0 ≤ f) (hf2 : f ≤ 9223372036854775807) : fun_partF (s, f, n) = some (foldI (selS f n) [] 0 (rs s)) := by
  obtain ⟨p, e⟩ := rune_loop (F := fun_part_l1F) (fun (out : List UInt8) (i p : Nat) => (out, f, n, (), (i : Int), s, p)) (fun (out : List UInt8) p => (out, (), s, p)) s (selS f n) (fun out i => out.length ≤ 4 * i) (by omega)
    (fun back out i p hp hi hpre hr => by
      obtain ⟨k, hk⟩ := writeRune_is (out := out) hr (by omega)
      unfold fun_part_l1F selS
      simp only
      rw [decide_eq_true hp, brn_true, hk, obnd_some, wr1 (by omega)]
      by_cases c1 : f ≤ (i : Int)
      · rw [decide_eq_true c1, brn_true, i64_in (by omega) (by omega)]
        by_cases c2 : (i : Int) - f < n
        · rw [decide_eq_true c2, if_pos ⟨c1, c2⟩]; rfl
        · rw [decide_eq_false c2, if_neg (fun c => c2 c.2)]; rfl
      · rw [decide_eq_false c1, if_neg (fun c => c1 c.1)]; rfl)
    (fun out i r hr hpre => by
      have := enc_len hr
      unfold selS
      split
      · rw [List.length_append]; omega
      · omega)
    (fun back out i p hp hpre => by
      unfold fun_part_l1F
      simp only
      rw [decide_eq_false (by omega), brn_false]) [] (by simp)
  unfold fun_partF
  simp only
  rw [show fun_part_l1J ([], f, n, (), 0, s, 0) = _ from e, obnd_some]; rfl
theorem sel_none {f n : Int} : ∀ (l : List Int) (i : Nat) (out : List UInt8), f + n ≤ (i : Int) → foldI (selS f n) out i l = out
  | [], _, _, _ => rfl
  | r :: l, i, out, h => by
    simp only [foldI]
    have e : selS f n out i r = out := by unfold selS; rw [if_neg (by omega)]
    rw [e]
    exact sel_none l (i + 1) out (by omega)
theorem sel_take {f : Nat} {n : Int} : ∀ (l : List Int) (i : Nat) (out : List UInt8), f ≤ i → foldI (selS (f : Int) n) out i l = out ++ encs (l.take ((f : Int) + n - i).toNat)
  | [], _, _, _ => by simp [foldI, encs]
  | r :: l, i, out, h => by
    simp only [foldI]
    by_cases c : (i : Int) - f < n
    · have e : selS (f : Int) n out i r = out ++ Lib.encodeRune r := by unfold selS; rw [if_pos ⟨by omega, c⟩]
      rw [e, sel_take l (i + 1) _ (by omega)]
      have e2 : ((f : Int) + n - (i : Nat)).toNat = ((f : Int) + n - ((i + 1 : Nat) : Int)).toNat + 1 := by omega
      rw [e2, List.take_succ_cons]
      unfold encs
      rw [List.flatMap_cons, List.append_assoc]
    · have e := sel_none (f := (f : Int)) (n := n) (r :: l) i out (by omega)
      simp only [foldI] at e
      rw [e, show ((f : Int) + n - (i : Nat)).toNat = 0 by omega]
      simp [encs]
theorem sel_is {f : Nat} {n : Int} : ∀ (l : List Int) (i : Nat) (out : List UInt8), i ≤ f → foldI (selS (f : Int) n) out i l = out ++ encs ((l.drop (f - i)).take n.toNat)
  | [], _, _, _ => by simp [foldI, encs]
  | r :: l, i, out, h => by
    by_cases c : i = f
    · subst c
      rw [sel_take (r :: l) i out (Nat.le_refl _), Nat.sub_self, List.drop_zero, show ((i : Int) + n - (i : Nat)).toNat = n.toNat by omega]
    · simp only [foldI]
      have e : selS (f : Int) n out i r = out := by unfold selS; rw [if_neg (by omega)]
      rw [e, sel_is l (i + 1) out (by omega), show f - i = (f - (i + 1)) + 1 by omega, List.drop_succ_cons]
theorem part_take {s : List UInt8} {f : Nat} {n : Int} (hl : s.length ≤ 2000000) (hf2 : f ≤ 9223372036854775807) : fun_partF (s, (f : Int), n) = some (encs (((rs s).drop f).take n.toNat)) := by
  rw [part_is hl (by omega) (by omega), sel_is _ _ _ (by omega)]; rfl
end Go.Proofs.YtdgpkbnnljblmaaGreatDoor
