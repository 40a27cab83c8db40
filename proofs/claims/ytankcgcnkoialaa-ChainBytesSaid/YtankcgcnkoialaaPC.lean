/- A chain read: the program and the document tell the same, in plain Lean. -/
import Derived.Test.YtankcgcnkoialaaPB
namespace Go.Proofs.Ytankcgcnkoialaa
open Go Go.Ev Go.Lib

def decL (B : List UInt8) : Nat → Nat → List Place → List Place × Int × Int
  | 0, a, acc => if a = B.length then (acc, 0, 0) else ([], (a : Int), 4)
  | k + 1, a, acc =>
    if (u8S B a).2.2 ≠ 0 then ([], (a : Int), 5) else
    if (u16S B (a + 1)).2.2 ≠ 0 then ([], ((a + 1 : Nat) : Int), 5) else
    if (u8S B (a + 3)).2.2 ≠ 0 then ([], ((a + 3 : Nat) : Int), 5) else
    if 8 ≤ (u8S B a).1 then ([], (a : Int), 12) else
    decL B k (a + 4) (acc ++ [⟨(u8S B a).1, ⟨(u16S B (a + 1)).1, (u8S B (a + 3)).1⟩⟩])
def decS (t : Int) (B : List UInt8) : List Place × Int × Int :=
  if t ≠ 6247 then ([], 0, 2) else
  if (u16S B 0).2.2 ≠ 0 then ([], 0, 5) else
  if 4096 < (u16S B 0).1 then ([], 0, 4) else decL B (u16S B 0).1.toNat 2 []
theorem u8_cases (B : List UInt8) (a : Nat) : (u8S B a = (0, ⟨B, (a : Int)⟩, 5)) ∨ (a < B.length ∧ ∃ n, 0 ≤ n ∧ n < 256 ∧ u8S B a = (n, ⟨B, ((a + 1 : Nat) : Int)⟩, 0)) := by
  unfold u8S
  by_cases h : a < B.length
  · rw [List.getElem?_eq_getElem h]
    exact .inr ⟨h, _, by omega, byte_lt _, rfl⟩
  · rw [List.getElem?_eq_none (by omega)]
    exact .inl rfl
theorem u16_cases (B : List UInt8) (a : Nat) : (u16S B a = (0, ⟨B, (a : Int)⟩, 5)) ∨ (a + 1 < B.length ∧ ∃ n, 0 ≤ n ∧ n < 65536 ∧ u16S B a = (n, ⟨B, ((a + 2 : Nat) : Int)⟩, 0)) := by
  unfold u16S
  by_cases h : a + 1 < B.length
  · rw [List.getElem?_eq_getElem h, List.getElem?_eq_getElem (show a < B.length by omega)]
    have := byte_lt B[a]
    have := byte_lt B[a + 1]
    exact .inr ⟨h, _, by omega, by omega, rfl⟩
  · rw [List.getElem?_eq_none (l := B) (i := a + 1) (by omega)]
    left
    cases B[a]? <;> rfl
/-- one place more, or what is wrong: the program -/
theorem dec_s1 {B : List UInt8} (hl : B.length ≤ 100000000) : ∀ (k : Nat) (n a : Nat) (acc : List Place), acc.length + k = n → n ≤ 4096 → a ≤ B.length → ∀ m, k < m → ∃ c, iter chain_Decode_s1_1F m (acc, ⟨B, (a : Int)⟩, (n : Int)) = some (decL B k a acc, c)
  | 0, n, a, acc, hk, hn, ha, m, hm => by
    obtain ⟨m, rfl⟩ : ∃ m', m = m' + 1 := ⟨m - 1, by omega⟩
    rw [iter_succ]
    unfold chain_Decode_s1_1F
    simp only
    rw [decide_eq_true (by omega), brn_true, end_is ha, obnd_some]
    unfold decL
    by_cases h : a = B.length
    · rw [if_pos h, if_pos h]; exact ⟨_, rfl⟩
    · rw [if_neg h, if_neg h]; exact ⟨_, rfl⟩
  | k + 1, n, a, acc, hk, hn, ha, m, hm => by
    obtain ⟨m, rfl⟩ : ∃ m', m = m' + 1 := ⟨m - 1, by omega⟩
    have ih := dec_s1 hl k n (a + 4)
    rw [iter_succ]
    generalize hb : iter chain_Decode_s1_1F m = back
    unfold chain_Decode_s1_1F
    simp only
    rw [decide_eq_false (by omega), brn_false, u8_is hl ha, obnd_some]
    unfold decL
    rcases u8_cases B a with e1 | ⟨a1, s, s0, s1, e1⟩
    · rw [e1, if_pos (by simp)]; exact ⟨_, rfl⟩
    rw [e1, if_neg (by simp)]
    simp only
    rw [decide_true, Bool.not_true, brn_false, u16_is hl (by omega), obnd_some]
    rcases u16_cases B (a + 1) with e2 | ⟨a2, r, r0, r1, e2⟩
    · rw [e2, if_pos (by simp)]; exact ⟨_, rfl⟩
    rw [e2, if_neg (by simp)]
    simp only
    rw [decide_true, Bool.not_true, brn_false, show a + 1 + 2 = a + 3 from rfl, u8_is hl (by omega), obnd_some]
    rcases u8_cases B (a + 3) with e3 | ⟨a3, c, c0, c1, e3⟩
    · rw [e3, if_pos (by simp)]; exact ⟨_, rfl⟩
    rw [e3, if_neg (by simp)]
    simp only
    rw [decide_true, Bool.not_true, brn_false]
    by_cases h8 : 8 ≤ s
    · rw [decide_eq_true h8, brn_true, if_pos h8, i64_in (by omega) (by omega), show ((a + 3 + 1 : Nat) : Int) - 4 = (a : Int) by omega]; exact ⟨_, rfl⟩
    · rw [decide_eq_false h8, brn_false, if_neg h8, appN (by simp only [List.length_singleton]; omega), obnd_some]
      obtain ⟨c', hc'⟩ := ih (acc ++ [⟨s, ⟨r, c⟩⟩]) (by simp only [List.length_append, List.length_singleton]; omega) hn (by omega) m (by omega)
      rw [hb, show ((a + 4 : Nat) : Int) = ((a + 3 + 1 : Nat) : Int) from rfl] at hc'
      rw [hc']
      exact ⟨_, rfl⟩
theorem decode_is {r : Rec} (hl : r.Data.length ≤ 100000000) : chain_DecodeF r = some (decS r.Type_ r.Data) := by
  unfold chain_DecodeF chain_Decode_s1J decS
  simp only
  by_cases ht : ¬ r.Type_ = 6247
  · rw [decide_eq_false ht, if_pos ht]; rfl
  have ht := Classical.not_not.1 ht
  rw [decide_eq_true ht, Bool.not_true, brn_false, if_neg (by simp [ht])]
  have h0 := u16_is hl (Nat.zero_le r.Data.length)
  rw [show ((0 : Nat) : Int) = 0 from rfl] at h0
  rw [h0, obnd_some]
  rcases u16_cases r.Data 0 with e | ⟨a0, n, n0, n1, e⟩
  · rw [e, if_pos (by simp)]; rfl
  rw [e, if_neg (by simp)]
  simp only
  rw [decide_true, Bool.not_true, brn_false]
  by_cases hn : 4096 < n
  · rw [decide_eq_true hn, brn_true, if_pos hn]; rfl
  rw [decide_eq_false hn, brn_false, if_neg hn]
  generalize hB : r.Data = B at *
  obtain ⟨k, rfl⟩ := Int.eq_ofNat_of_zero_le n0
  rw [Int.toNat_natCast, show 0 + 2 = 2 from rfl]
  -- the first round by hand
  have hs := dec_s1 hl k k 2 [] (by simp) (by omega) (by omega) (big + 1) (by rw [big_pos]; omega)
  obtain ⟨c, hc⟩ := hs
  rw [iter_succ] at hc
  have hj : chain_Decode_s1_1J = iter chain_Decode_s1_1F big := rfl
  rw [hj]
  generalize iter chain_Decode_s1_1F big = back at hc ⊢
  unfold chain_Decode_s1_1F at hc
  simp only at hc ⊢
  -- the same, but for what comes back beside
  revert hc
  by_cases hk : ((List.length ([] : List Place) : Nat) : Int) = (k : Int)
  · rw [decide_eq_true hk, brn_true, brn_true, end_is (by omega), obnd_some, obnd_some]
    by_cases h : 2 = B.length
    · rw [if_pos h]
      simp only [decide_true, brn_true, obnd_some, osum]
      intro hc
      have := Option.some.inj hc
      have h' : _ = decL B k 2 [] := congrArg Prod.fst this
      exact congrArg some h'
    · rw [if_neg h]
      intro hc
      have := Option.some.inj hc
      have h' : _ = decL B k 2 [] := congrArg Prod.fst this
      rw [← h']; rfl
  · rw [decide_eq_false hk, brn_false, brn_false, u8_is hl (by omega), obnd_some, obnd_some]
    rcases u8_cases B 2 with e1 | ⟨a1, s, s0, s1, e1⟩
    · rw [e1]
      intro hc
      have := Option.some.inj hc
      have h' : _ = decL B k 2 [] := congrArg Prod.fst this
      rw [← h']; rfl
    rw [e1]
    simp only
    rw [decide_true, Bool.not_true, brn_false, brn_false, show 2 + 1 = 3 from rfl, u16_is hl (by omega), obnd_some, obnd_some]
    rcases u16_cases B 3 with e2 | ⟨a2, r2, r0, r1, e2⟩
    · rw [e2]
      intro hc
      have := Option.some.inj hc
      have h' : _ = decL B k 2 [] := congrArg Prod.fst this
      rw [← h']; rfl
    rw [e2]
    simp only
    rw [decide_true, Bool.not_true, brn_false, brn_false, show 3 + 2 = 5 from rfl, u8_is hl (by omega), obnd_some, obnd_some]
    rcases u8_cases B 5 with e3 | ⟨a3, c3, c0, c1, e3⟩
    · rw [e3]
      intro hc
      have := Option.some.inj hc
      have h' : _ = decL B k 2 [] := congrArg Prod.fst this
      rw [← h']; rfl
    rw [e3]
    simp only
    rw [decide_true, Bool.not_true, brn_false, brn_false]
    by_cases h8 : 8 ≤ s
    · rw [decide_eq_true h8, brn_true, brn_true]
      intro hc
      have := Option.some.inj hc
      have h' : _ = decL B k 2 [] := congrArg Prod.fst this
      rw [← h']; rfl
    · rw [decide_eq_false h8, brn_false, brn_false, appN (by simp), obnd_some, obnd_some]
      intro hc
      cases hq : back ([] ++ [⟨s, ⟨r2, c3⟩⟩], ⟨B, ((5 + 1 : Nat) : Int)⟩, (k : Int)) with
      | none => rw [hq] at hc; cases hc
      | some y =>
        rw [hq] at hc
        have := Option.some.inj hc
        have h' : _ = decL B k 2 [] := congrArg Prod.fst this
        rw [← h']; rfl
/-- the document's -/
theorem ref_l1 {B : List UInt8} (hl : B.length ≤ 100000000) : ∀ (k : Nat) (n i a : Nat) (acc : List Place), i + k = n → n ≤ 4096 → acc.length = i → a ≤ B.length → ∀ m, k < m →
    (∃ q, iter ref18_DecodeChain_l1F m ((n : Int), ⟨B, (a : Int)⟩, acc, (i : Int)) = some q ∧ (osum q (fun y => obnd (ref7_EndF y.2) fun y_1 => brn (!decide (y_1 = 0)) (some ([], y.2.At, 4)) (some (y.1, 0, 0))) fun y => some (y.1.fst, y.1.2)) = some (decL B k a acc))
  | 0, n, i, a, acc, hk, hn, hi, ha, m, hm => by
    obtain ⟨m, rfl⟩ : ∃ m', m = m' + 1 := ⟨m - 1, by omega⟩
    rw [iter_succ]
    unfold ref18_DecodeChain_l1F
    simp only
    rw [i64_in (by omega) (by omega), decide_eq_false (by omega), brn_false]
    refine ⟨_, rfl, ?_⟩
    simp only [osum]
    rw [refEnd_is ha, obnd_some]
    unfold decL
    by_cases h : a = B.length
    · rw [if_pos h, if_pos h]; rfl
    · rw [if_neg h, if_neg h]; rfl
  | k + 1, n, i, a, acc, hk, hn, hi, ha, m, hm => by
    obtain ⟨m, rfl⟩ : ∃ m', m = m' + 1 := ⟨m - 1, by omega⟩
    have ih := ref_l1 hl k n (i + 1) (a + 4)
    rw [iter_succ]
    generalize hb : iter ref18_DecodeChain_l1F m = back
    unfold ref18_DecodeChain_l1F
    simp only
    rw [i64_in (n := (n : Int)) (by omega) (by omega), decide_eq_true (by omega), brn_true, low8 hl ha, obnd_some]
    unfold decL
    rcases u8_cases B a with e1 | ⟨a1, s, s0, s1, e1⟩
    · rw [e1, if_pos (by simp)]; exact ⟨_, rfl, rfl⟩
    rw [e1, if_neg (by simp)]
    simp only
    rw [decide_true, Bool.not_true, brn_false, low16 hl (by omega), obnd_some]
    rcases u16_cases B (a + 1) with e2 | ⟨a2, r, r0, r1, e2⟩
    · rw [e2, if_pos (by simp)]; exact ⟨_, rfl, rfl⟩
    rw [e2, if_neg (by simp)]
    simp only
    rw [decide_true, Bool.not_true, brn_false, show a + 1 + 2 = a + 3 from rfl, low8 hl (by omega), obnd_some]
    rcases u8_cases B (a + 3) with e3 | ⟨a3, c, c0, c1, e3⟩
    · rw [e3, if_pos (by simp)]; exact ⟨_, rfl, rfl⟩
    rw [e3, if_neg (by simp)]
    simp only
    rw [decide_true, Bool.not_true, brn_false]
    by_cases h8 : 8 ≤ s
    · rw [decide_eq_true h8, brn_true, if_pos h8]; exact ⟨_, rfl, rfl⟩
    · rw [decide_eq_false h8, brn_false, if_neg h8, appN (by simp only [List.length_singleton]; omega), obnd_some, i64_in (n := s) (by omega) (by omega), i64_in (n := r) (by omega) (by omega), i64_in (n := c) (by omega) (by omega), wr1 (by omega)]
      obtain ⟨q, h1, h2⟩ := ih (acc ++ [⟨s, ⟨r, c⟩⟩]) (by omega) hn (by simp only [List.length_append, List.length_singleton]; omega) (by omega) m (by omega)
      rw [hb, show ((a + 4 : Nat) : Int) = ((a + 3 + 1 : Nat) : Int) from rfl] at h1
      rw [h1]
      exact ⟨q, rfl, h2⟩
theorem refDecode_is {r : Rec} (hl : r.Data.length ≤ 100000000) : ref18_DecodeChainF r = some (decS r.Type_ r.Data) := by
  unfold ref18_DecodeChainF decS
  by_cases ht : ¬ r.Type_ = 6247
  · rw [decide_eq_false ht, if_pos ht]; rfl
  have ht := Classical.not_not.1 ht
  rw [decide_eq_true ht, Bool.not_true, brn_false, if_neg (by simp [ht])]
  have h0 := low16 hl (Nat.zero_le r.Data.length)
  rw [show ((0 : Nat) : Int) = 0 from rfl] at h0
  rw [h0, obnd_some]
  rcases u16_cases r.Data 0 with e | ⟨a0, n, n0, n1, e⟩
  · rw [e, if_pos (by simp)]; rfl
  rw [e, if_neg (by simp)]
  simp only
  rw [decide_true, Bool.not_true, brn_false]
  by_cases hn : 4096 < n
  · rw [decide_eq_true hn, brn_true, if_pos hn]
  rw [decide_eq_false hn, brn_false, if_neg hn]
  obtain ⟨k, rfl⟩ := Int.eq_ofNat_of_zero_le n0
  obtain ⟨q, h1, h2⟩ := ref_l1 hl k k 0 2 [] (by omega) (by omega) rfl (by omega) big (by rw [big_pos]; omega)
  rw [Int.toNat_natCast, show 0 + 2 = 2 from rfl, show ref18_DecodeChain_l1J = iter ref18_DecodeChain_l1F big from rfl, show (0 : Int) = ((0 : Nat) : Int) from rfl, h1, obnd_some]
  exact h2
end Go.Proofs.Ytankcgcnkoialaa
