/- XB -/
import Derived.Test.YtdgpkbnnljblmaaGreatDoorXA
import Derived.Test.YtdgpkbnnljblmaaGreatDoorX7
namespace Go.Proofs.YtdgpkbnnljblmaaGreatDoor
open Go Go.Ev Go.Lib
theorem bl_at : ∀ (k : Nat) (a b : List UInt8), (∀ j, j < k → (a.getD j 0).toNat = (b.getD j 0).toNat) → k < a.length → k < b.length → (a.getD k 0).toNat < (b.getD k 0).toNat → Op.bytesLess a b = true ∧ Op.bytesLess b a = false
  | k, [], b, _, h, _, _ => by simp at h
  | k, a :: x, [], _, _, h, _ => by simp at h
  | 0, a :: x, b :: y, _, _, _, hlt => by
    simp only [List.getD_cons_zero] at hlt
    have h1 : a < b := UInt8.lt_iff_toNat_lt.2 hlt
    have h2 : ¬ b < a := fun h => by have := UInt8.lt_iff_toNat_lt.1 h; omega
    have h3 : ¬ b = a := fun h => by subst h; omega
    simp [Op.bytesLess, h1, h2, h3]
  | k + 1, a :: x, b :: y, he, hx, hy, hlt => by
    have h0 := he 0 (by omega)
    simp only [List.getD_cons_zero] at h0
    have hab : a = b := UInt8.toNat_inj.1 h0
    subst hab
    simp only [List.getD_cons_succ] at hlt
    have ih := bl_at k x y (fun j hj => by have := he (j + 1) (by omega); simpa only [List.getD_cons_succ] using this) (by simp at hx; omega) (by simp at hy; omega) hlt
    have h2 : ¬ a < a := fun h => by have := UInt8.lt_iff_toNat_lt.1 h; omega
    simp [Op.bytesLess, h2, ih]
theorem bl_append : ∀ (p x y : List UInt8), Op.bytesLess (p ++ x) (p ++ y) = Op.bytesLess x y
  | [], _, _ => rfl
  | a :: p, x, y => by
    have h2 : ¬ a < a := fun h => by have := UInt8.lt_iff_toNat_lt.1 h; omega
    simp [Op.bytesLess, h2, bl_append p x y]
def good (l : List UInt8) : Prop := ¬ ((decodeL l).1 = 65533 ∧ (decodeL l).2 = 1)
theorem part_at {n n' c b1 b2 b3 c' d1 d2 d3 : Nat} (hc : c < 256) (hc' : c' < 256)
    (hg : ¬ ((decodeN n c b1 b2 b3).1 = 65533 ∧ (decodeN n c b1 b2 b3).2 = 1)) (hg' : ¬ ((decodeN n' c' d1 d2 d3).1 = 65533 ∧ (decodeN n' c' d1 d2 d3).2 = 1)) (hlt : (decodeN n c b1 b2 b3).1 < (decodeN n' c' d1 d2 d3).1) :
    c < c' ∨ (c = c' ∧ b1 < d1 ∧ 1 < n ∧ 1 < n') ∨ (c = c' ∧ b1 = d1 ∧ b2 < d2 ∧ 2 < n ∧ 2 < n') ∨ (c = c' ∧ b1 = d1 ∧ b2 = d2 ∧ b3 < d3 ∧ 3 < n ∧ 3 < n') := by
  rcases decodeN_shape n c b1 b2 b3 with ⟨p1, e⟩ | ⟨p1, p2, p3, p4, e⟩ | ⟨p1, p2, p3, p4, p5, p6, e⟩ | ⟨p1, p2, p3, p4, p5, p6, p7, e⟩ | e
  all_goals rw [e] at hg hlt
  case inr.inr.inr.inr => exact absurd ⟨rfl, rfl⟩ hg
  all_goals rcases decodeN_shape n' c' d1 d2 d3 with ⟨q1, e'⟩ | ⟨q1, q2, q3, q4, e'⟩ | ⟨q1, q2, q3, q4, q5, q6, e'⟩ | ⟨q1, q2, q3, q4, q5, q6, q7, e'⟩ | e'
  all_goals rw [e'] at hg' hlt
  all_goals first
    | exact absurd ⟨rfl, rfl⟩ hg'
    | (simp only at hlt; clear hg hg' e e'; omega)
theorem rune_lt {a b : List UInt8} (ha : a ≠ []) (hb : b ≠ []) (ga : good a) (gb : good b) (hlt : (decodeL a).1 < (decodeL b).1) : Op.bytesLess a b = true ∧ Op.bytesLess b a = false := by
  unfold good at ga gb
  rw [decodeL_N] at ga gb hlt
  rw [decodeL_N b] at hlt
  have la : 0 < a.length := List.length_pos_iff.2 ha
  have lb : 0 < b.length := List.length_pos_iff.2 hb
  rcases part_at (a.getD 0 0).toNat_lt (b.getD 0 0).toNat_lt ga gb hlt with h | ⟨h0, h, n1, n2⟩ | ⟨h0, h1, h, n1, n2⟩ | ⟨h0, h1, h2, h, n1, n2⟩
  · exact bl_at 0 a b (fun j hj => by omega) la lb h
  · exact bl_at 1 a b (fun j hj => by
      have : j = 0 := by omega
      subst this; exact h0) n1 n2 h
  · exact bl_at 2 a b (fun j hj => by
      have : j = 0 ∨ j = 1 := by omega
      rcases this with rfl | rfl
      · exact h0
      · exact h1) n1 n2 h
  · exact bl_at 3 a b (fun j hj => by
      have : j = 0 ∨ j = 1 ∨ j = 2 := by omega
      rcases this with rfl | rfl | rfl
      · exact h0
      · exact h1
      · exact h2) n1 n2 h
theorem bl_irrefl : ∀ a : List UInt8, Op.bytesLess a a = false
  | [] => rfl
  | a :: l => by
    have h2 : ¬ a < a := fun h => by have := UInt8.lt_iff_toNat_lt.1 h; omega
    simp [Op.bytesLess, h2, bl_irrefl l]
theorem order_is : ∀ (n : Nat) (a b : List UInt8), a.length ≤ n → validD a = true → validD b = true → cmpL (rs a) (rs b) = if a = b then 0 else if sLt a b = true then -1 else 1
  | n, [], [], _, _, _ => by simp [rs_nil, cmpL]
  | n, [], c :: b, _, _, _ => by rw [rs_nil, rs_cons (by simp)]; simp [cmpL, sLt, Op.bytesLess]
  | n, c :: a, [], _, _, _ => by rw [rs_nil, rs_cons (by simp)]; simp [cmpL, sLt, Op.bytesLess]
  | 0, c :: a, d :: b, h, _, _ => by simp at h
  | n + 1, c :: a, d :: b, hn, ha, hb => by
    have na : c :: a ≠ [] := by simp
    have nb : d :: b ≠ [] := by simp
    generalize hA : c :: a = A at *
    generalize hB : d :: b = B at *
    rw [validD_step A na] at ha
    rw [validD_step B nb] at hb
    have ga : good A := fun h => by rw [if_pos h] at ha; cases ha
    have gb : good B := fun h => by rw [if_pos h] at hb; cases hb
    rw [if_neg ga] at ha
    rw [if_neg gb] at hb
    rw [rs_cons na, rs_cons nb]
    show (if _ then _ else _) = _
    have wa := decodeL_width A
    have la : 0 < A.length := List.length_pos_iff.2 na
    by_cases he : (decodeL A).1 = (decodeL B).1
    · have e1 := encode_decode A na ga
      have e2 := encode_decode B nb gb
      rw [he, e2] at e1
      have ih := order_is n (A.drop (decodeL A).2) (B.drop (decodeL B).2) (by rw [List.length_drop]; omega) ha hb
      rw [if_pos (by rw [he]), ih]
      have a1 := List.take_append_drop (decodeL A).2 A
      have b1 := List.take_append_drop (decodeL B).2 B
      rw [e1] at b1
      unfold sLt
      have e3 : Op.bytesLess A B = Op.bytesLess (A.drop (decodeL A).2) (B.drop (decodeL B).2) := by
        conv => lhs; rw [← a1, ← b1]
        exact bl_append _ _ _
      have e4 : A = B ↔ A.drop (decodeL A).2 = B.drop (decodeL B).2 := by
        constructor
        · intro h
          rw [← a1, ← b1] at h
          exact List.append_cancel_left h
        · intro h
          rw [← a1, ← b1, h]
      rw [e3]
      simp only [e4]
    · rw [if_neg (by omega)]
      rcases Nat.lt_or_ge (decodeL A).1 (decodeL B).1 with hlt | hge
      · obtain ⟨h1, h2⟩ := rune_lt na nb ga gb hlt
        rw [if_neg (fun h => by rw [h, bl_irrefl] at h1; cases h1), if_pos (show sLt A B = true from h1)]
        unfold cmpN; rw [if_pos (by omega)]
      · obtain ⟨h1, h2⟩ := rune_lt nb na gb ga (by omega)
        rw [if_neg (fun h => by rw [h, bl_irrefl] at h1; cases h1)]
        unfold sLt
        rw [h2, if_neg (by simp)]
        unfold cmpN; rw [if_neg (by omega), if_pos (by omega)]
end Go.Proofs.YtdgpkbnnljblmaaGreatDoor
