/- X2 -/
import Derived.Test.YtdgpkbnnljblmaaGreatDoorX1
namespace Go.Proofs.YtdgpkbnnljblmaaGreatDoor
open Go Go.Ev
theorem words_snoc (D : List Int) (d : Int) : wordsOf (D ++ [d]) = chr d :: wordsOf D := by
  unfold wordsOf; simp
theorem pad_is {n s : Nat} {m : Bool} {dec : Dec} (hs : dec.S = (s : Int)) (h9 : s ≤ 9) (hl : (digs n).length ≤ 20) : ref7_DecText_l1J (digs n, dec, ⟨m, digs n⟩) = some (padded n s, ⟨m, padded n s⟩) := by
  obtain ⟨y, h1, h2⟩ := iter_ex (F := ref7_DecText_l1F) (fun x => 100 - x.1.length) (fun x => x.2.1 = dec ∧ x.2.2.Minus = m ∧ ∃ k, x.1 = digs n ++ List.replicate k 0 ∧ (digs n).length + k ≤ max (s + 1) (digs n).length) (fun y => y = (padded n s, ⟨m, padded n s⟩)) (by
    rintro back ⟨D, d, ⟨m', E⟩⟩ ⟨e1, e2, k, e3, hk⟩ hb
    simp only at e1 e2 e3
    subst e1; subst e2; subst e3
    unfold ref7_DecText_l1F
    simp only at hb ⊢
    rw [hs]
    by_cases h : (digs n).length + k ≤ s
    · rw [decide_eq_true (by simp; omega), brn_true, appS (by simp; omega), obnd_some]
      refine hb _ ⟨rfl, rfl, k + 1, by rw [List.replicate_succ', List.append_assoc], by omega⟩ (by simp; omega)
    · rw [decide_eq_false (by simp; omega), brn_false]
      refine ⟨_, rfl, ?_⟩
      have : k = s + 1 - (digs n).length := by omega
      subst this
      rfl) (digs n, dec, ⟨m, digs n⟩) ⟨rfl, rfl, 0, by simp, by omega⟩ (by simp only; omega)
  subst h2; exact h1
def pre (D : List Int) (s i : Nat) : List UInt8 := if s = 0 ∨ i ≤ s then wordsOf (D.take i) else wordsOf ((D.take i).drop s) ++ 46 :: wordsOf (D.take s)
theorem chr_is {y : Int} (h : 0 ≤ y ∧ y ≤ 9) : UInt8.ofNat (IntKind.u8.wrap (IntKind.i64.wrap (48 + y))).toNat = chr y := by
  rw [i64_in (by omega) (by omega)]
  have : IntKind.u8.wrap (48 + y) = 48 + y := by
    unfold IntKind.wrap; simp [IntKind.bits, IntKind.signed]; omega
  rw [this]
  unfold chr
  congr 1; omega
theorem take_snoc {D : List Int} {i : Nat} (h : i < D.length) : D.take (i + 1) = D.take i ++ [D[i]] := by
  rw [List.take_add_one, List.getElem?_eq_getElem h]; rfl
theorem pre_len (D : List Int) (s i : Nat) : (pre D s i).length ≤ i + i + 1 + s := by
  unfold pre
  split
  · unfold wordsOf; simp; omega
  · unfold wordsOf; simp; omega
theorem letters_is {D : List Int} {s : Nat} {m : Bool} {dec : Dec} (hS : dec.S = (s : Int)) (h9 : s ≤ 9) (hD : isDig D) (hl : D.length ≤ 30) (hl2 : s < D.length) : ref7_DecText_l2J (dec, ⟨m, D⟩, [], 0) = some (dotted D s) := by
  obtain ⟨y, h1, h2⟩ := iter_ex (F := ref7_DecText_l2F) (fun x => 100 - x.2.2.2.toNat) (fun x => ∃ i : Nat, x = (dec, ⟨m, D⟩, pre D s i, (i : Int)) ∧ i ≤ D.length) (fun y => y = dotted D s) (by
    rintro back x ⟨i, rfl, hi⟩ hb
    unfold ref7_DecText_l2F
    simp only at hb ⊢
    have hpl := pre_len D s i
    rcases Nat.lt_or_ge i D.length with hlt | hge
    · have hd := hD D[i] (List.getElem_mem hlt)
      have ht := take_snoc hlt
      rw [decide_eq_true (by omega), brn_true, idxI (v := D[i]) (List.getElem?_eq_getElem hlt), hS]
      simp only [obnd_some, chr_is hd]
      have fin : ∀ z, z = pre D s (i + 1) → ∃ y, back (dec, ⟨m, D⟩, z, IntKind.i64.wrap ((i : Int) + 1)) = some y ∧ y = dotted D s := fun z hz => by
        subst hz
        rw [i64_in (by omega) (by omega)]
        exact hb _ ⟨i + 1, rfl, by omega⟩ (by simp only; omega)
      by_cases he : i = s
      · rw [decide_eq_true (by omega), brn_true]
        by_cases h0 : 0 < i
        · rw [decide_eq_true (by omega), brn_true, catS (by simp; omega), obnd_some, catS (by simp; omega), obnd_some]
          refine fin _ ?_
          unfold pre
          rw [if_pos (by omega), if_neg (by omega), ht, List.drop_append_of_le_length (by simp; omega), List.drop_eq_nil_of_le (by simp; omega), words_snoc]
          subst he
          simp [wordsOf]
        · rw [decide_eq_false (by omega), brn_false, catS (by simp; omega), obnd_some]
          refine fin _ ?_
          unfold pre
          rw [if_pos (by omega), if_pos (by omega), ht, words_snoc]; rfl
      · rw [decide_eq_false (by omega), brn_false, catS (by simp; omega), obnd_some]
        refine fin _ ?_
        unfold pre
        by_cases hc : s = 0 ∨ i ≤ s
        · rw [if_pos hc, if_pos (by omega), ht, words_snoc]; rfl
        · rw [if_neg hc, if_neg (by omega), ht, List.drop_append_of_le_length (by simp; omega), words_snoc]; rfl
    · rw [decide_eq_false (by omega), brn_false]
      refine ⟨_, rfl, ?_⟩
      unfold pre dotted
      have : i = D.length := by omega
      subst this
      rw [List.take_of_length_le (Nat.le_refl _)]
      by_cases h0 : s = 0
      · rw [if_pos (.inl h0), if_pos h0]
      · rw [if_neg (by omega), if_neg h0]) (dec, ⟨m, D⟩, [], 0) ⟨0, by simp [pre, wordsOf], by omega⟩ (by simp only; omega)
  subst h2; exact h1
theorem refText_is {M : Int} {s : Nat} (hM : I64 M) (hs : s ≤ 9) : ref7_DecTextF ⟨M, (s : Int)⟩ = some (decWords M s) := by
  have l1 := len19 hM
  have hp := padded_len M.natAbs s
  unfold ref7_DecTextF
  rw [big_is hM, obnd_some]
  simp only
  rw [pad_is (s := s) rfl hs (by omega), obnd_some]
  simp only
  rw [letters_is (s := s) rfl hs (padded_dig _ _) (by omega) (by omega), obnd_some]
  unfold decWords
  have hdl : (dotted (padded M.natAbs s) s).length ≤ 100 := by
    unfold dotted wordsOf
    split <;> simp <;> omega
  by_cases hm : M < 0
  · rw [decide_eq_true hm, brn_true, catS (by simp; omega), obnd_some, if_pos hm]
  · rw [decide_eq_false hm, brn_false, if_neg hm]; rfl
end Go.Proofs.YtdgpkbnnljblmaaGreatDoor
