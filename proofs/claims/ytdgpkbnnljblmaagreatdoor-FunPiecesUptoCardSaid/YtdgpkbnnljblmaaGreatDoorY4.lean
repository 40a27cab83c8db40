/- Y4 -/
import Derived.Test.YtdgpkbnnljblmaaGreatDoorY3
namespace Go.Proofs.YtdgpkbnnljblmaaGreatDoor
open Go Go.Ev Go.Lib
theorem decode_app {a b : List UInt8} (ha : a ≠ []) (hg : good a) : decodeL (a ++ b) = decodeL a := by
  have hl : 0 < a.length := List.length_pos_iff.2 ha
  have hget : ∀ j, j < a.length → (a ++ b).getD j 0 = a.getD j 0 := fun j hj => by simp [List.getD_eq_getElem?_getD, List.getElem?_append_left hj]
  unfold good at hg
  rw [decodeL_N] at hg ⊢
  rw [decodeL_N, hget 0 hl, List.length_append]
  have k0 := (a.getD 0 0).toNat_lt
  rcases decodeN_shape a.length (a.getD 0 0).toNat (a.getD 1 0).toNat (a.getD 2 0).toNat (a.getD 3 0).toNat with ⟨c, e⟩ | ⟨c1, c2, c3, cv, e⟩ | ⟨c1, c2, c3, c4, cv, cs, e⟩ | ⟨c1, c2, c3, c4, c5, cv, cw, e⟩ | e
  · rw [e]; unfold decodeN; rw [if_pos c]
  · rw [e, hget 1 c2]
    unfold decodeN
    rw [if_neg (by omega), if_pos ⟨c1, by omega, c3⟩, if_pos cv]
  · rw [e, hget 1 (by omega), hget 2 c2]
    unfold decodeN
    rw [if_neg (by omega), if_neg (by omega), if_pos ⟨c1, ⟨by omega, c3⟩, by omega, c4⟩]
    rw [if_pos (by omega)]
  · rw [e, hget 1 (by omega), hget 2 (by omega), hget 3 c2]
    unfold decodeN
    rw [if_neg (by omega), if_neg (by omega), if_neg (by omega), if_pos ⟨c1, ⟨by omega, c3⟩, ⟨by omega, c4⟩, by omega, c5⟩]
    rw [if_pos (by omega)]
  · rw [e] at hg; exact absurd ⟨rfl, rfl⟩ hg
theorem good_of {a : List UInt8} (ha : a ≠ []) (h : validD a = true) : good a ∧ validD (a.drop (decodeL a).2) = true := by
  rw [validD_step a ha] at h
  unfold good
  by_cases c : (decodeL a).1 = 65533 ∧ (decodeL a).2 = 1
  · rw [if_pos c] at h; cases h
  · rw [if_neg c] at h; exact ⟨c, h⟩
theorem app_all : ∀ (n : Nat) (a b : List UInt8), a.length ≤ n → validD a = true → validD (a ++ b) = validD b ∧ rs (a ++ b) = rs a ++ rs b
  | n, [], b, _, _ => ⟨rfl, rfl⟩
  | 0, c :: a, b, h, _ => by simp at h
  | n + 1, c :: a, b, h, hv => by
    have hne : c :: a ≠ [] := by simp
    obtain ⟨hg, hv'⟩ := good_of hne hv
    have hne2 : (c :: a) ++ b ≠ [] := by simp
    have hd := decode_app (b := b) hne hg
    have hw := decodeL_width (c :: a)
    have hle := decodeL_le (c :: a) hne
    have hdr : ((c :: a) ++ b).drop (decodeL (c :: a)).2 = (c :: a).drop (decodeL (c :: a)).2 ++ b := List.drop_append_of_le_length hle
    obtain ⟨i1, i2⟩ := app_all n ((c :: a).drop (decodeL (c :: a)).2) b (by rw [List.length_drop]; simp only [List.length_cons] at *; omega) hv'
    refine ⟨?_, ?_⟩
    · rw [validD_step _ hne2, hd, hdr, if_neg hg, i1]
    · rw [rs_cons hne2, hd, hdr, i2, rs_cons hne]; rfl
theorem valid_app {a b : List UInt8} (ha : validD a = true) : validD (a ++ b) = validD b := (app_all _ a b (Nat.le_refl _) ha).1
theorem rs_app {a b : List UInt8} (ha : validD a = true) : rs (a ++ b) = rs a ++ rs b := (app_all _ a b (Nat.le_refl _) ha).2
def encs (l : List Int) : List UInt8 := l.flatMap Lib.encodeRune
theorem encs_rs : ∀ (n : Nat) (a : List UInt8), a.length ≤ n → validD a = true → encs (rs a) = a
  | _, [], _, _ => rfl
  | 0, c :: a, h, _ => by simp at h
  | n + 1, c :: a, h, hv => by
    have hne : c :: a ≠ [] := by simp
    obtain ⟨hg, hv'⟩ := good_of hne hv
    have hw := decodeL_width (c :: a)
    have ih := encs_rs n ((c :: a).drop (decodeL (c :: a)).2) (by rw [List.length_drop]; simp only [List.length_cons] at *; omega) hv'
    rw [rs_cons hne]
    unfold encs at *
    rw [List.flatMap_cons, ih, encode_decode _ hne hg, List.take_append_drop]
theorem part_rs : ∀ (i : Nat) (a : List UInt8), validD a = true → i ≤ (rs a).length → ∃ x y, a = x ++ y ∧ validD x = true ∧ validD y = true ∧ rs x = (rs a).take i ∧ rs y = (rs a).drop i
  | 0, a, hv, _ => ⟨[], a, rfl, rfl, hv, rfl, rfl⟩
  | i + 1, [], _, h => by simp [rs_nil] at h
  | i + 1, c :: a, hv, h => by
    have hne : c :: a ≠ [] := by simp
    obtain ⟨hg, hv'⟩ := good_of hne hv
    have hle := decodeL_le (c :: a) hne
    rw [rs_cons hne] at h ⊢
    simp only [List.length_cons] at h
    obtain ⟨x, y, h1, h2, h3, h4, h5⟩ := part_rs i _ hv' (by omega)
    have hw := decodeL_width (c :: a)
    have he : (c :: a).take (decodeL (c :: a)).2 ≠ [] := fun e => by
      have := congrArg List.length e
      simp only [List.length_take, List.length_nil] at this
      simp only [List.length_cons] at *; omega
    have hd : decodeL ((c :: a).take (decodeL (c :: a)).2) = decodeL (c :: a) := by
      have hs := decodeN_shape (c :: a).length ((c :: a).getD 0 0).toNat ((c :: a).getD 1 0).toNat ((c :: a).getD 2 0).toNat ((c :: a).getD 3 0).toNat
      unfold good at hg
      have hN := decodeL_N (c :: a)
      have hget : ∀ k j, j < k → ((c :: a).take k).getD j 0 = (c :: a).getD j 0 := fun k j hj => by simp [List.getD_eq_getElem?_getD, hj]
      rw [hN] at hg
      rcases hs with ⟨c1, e⟩ | ⟨c1, c2, c3, cv, e⟩ | ⟨c1, c2, c3, c4, cv, cs, e⟩ | ⟨c1, c2, c3, c4, c5, cv, cw, e⟩ | e
      · rw [hN, e]
        rw [decodeL_N, hget 1 0 (by omega)]
        unfold decodeN
        rw [if_pos c1]
      · rw [hN, e]
        rw [decodeL_N, hget 2 0 (by omega), hget 2 1 (by omega), List.length_take]
        unfold decodeN
        rw [if_neg (by omega), if_pos ⟨c1, by omega, c3⟩, if_pos cv]
      · rw [hN, e]
        rw [decodeL_N, hget 3 0 (by omega), hget 3 1 (by omega), hget 3 2 (by omega), List.length_take]
        unfold decodeN
        rw [if_neg (by omega), if_neg (by omega), if_pos ⟨c1, ⟨by omega, c3⟩, by omega, c4⟩]
        rw [if_pos (by omega)]
      · rw [hN, e]
        rw [decodeL_N, hget 4 0 (by omega), hget 4 1 (by omega), hget 4 2 (by omega), hget 4 3 (by omega), List.length_take]
        unfold decodeN
        rw [if_neg (by omega), if_neg (by omega), if_neg (by omega), if_pos ⟨c1, ⟨by omega, c3⟩, ⟨by omega, c4⟩, by omega, c5⟩]
        rw [if_pos (by omega)]
      · rw [e] at hg; exact absurd ⟨rfl, rfl⟩ hg
    have hdn : ((c :: a).take (decodeL (c :: a)).2).drop (decodeL (c :: a)).2 = [] := by
      rw [List.drop_eq_nil_iff, List.length_take]; omega
    have hvt : validD ((c :: a).take (decodeL (c :: a)).2) = true := by
      rw [validD_step _ he, hd, if_neg hg, hdn]; rfl
    have hrt : rs ((c :: a).take (decodeL (c :: a)).2) = [((decodeL (c :: a)).1 : Int)] := by
      rw [rs_cons he, hd, hdn]; rfl
    refine ⟨(c :: a).take (decodeL (c :: a)).2 ++ x, y, ?_, ?_, h3, ?_, h5⟩
    · rw [List.append_assoc, ← h1, List.take_append_drop]
    · rw [valid_app hvt, h2]
    · rw [rs_app hvt, hrt, h4]; rfl
theorem slice_rs {a : List UInt8} (hv : validD a = true) {i k : Nat} (h : i + k ≤ (rs a).length) : validD (encs (((rs a).drop i).take k)) = true ∧ rs (encs (((rs a).drop i).take k)) = ((rs a).drop i).take k ∧ (encs (((rs a).drop i).take k)).length ≤ a.length := by
  obtain ⟨x, y, h1, h2, h3, h4, h5⟩ := part_rs i a hv (by omega)
  obtain ⟨x', y', k1, k2, k3, k4, k5⟩ := part_rs k y h3 (by rw [h5, List.length_drop]; omega)
  rw [← h5, ← k4, encs_rs _ x' (Nat.le_refl _) k2]
  refine ⟨k2, rfl, ?_⟩
  rw [h1, k1]; simp; omega
theorem or8 : (∀ x : Fin 32, bitsOf .or .u8 192 (x.val : Int) = 192 + x.val) ∧ (∀ x : Fin 16, bitsOf .or .u8 224 (x.val : Int) = 224 + x.val) ∧ (∀ x : Fin 8, bitsOf .or .u8 240 (x.val : Int) = 240 + x.val) ∧
    (∀ x : Fin 64, bitsOf .or .u8 128 (x.val : Int) = 128 + x.val) ∧ (∀ x : Fin 256, bitsOf .and .u8 (x.val : Int) 63 = ((x.val % 64 : Nat) : Int)) := by decide +kernel
theorem u8w (n : Nat) : IntKind.u8.wrap (n : Int) = ((n % 256 : Nat) : Int) := by simp [IntKind.wrap, IntKind.bits, IntKind.signed]
theorem fdivN (n k : Nat) : (n : Int).fdiv (k : Int) = ((n / k : Nat) : Int) := by
  rw [Int.fdiv_eq_ediv_of_nonneg _ (by omega)]; rfl
theorem lo6 (n : Nat) : bitsOf .or .u8 128 (bitsOf .and .u8 (IntKind.u8.wrap (n : Int)) 63) = ((128 + n % 64 : Nat) : Int) := by
  rw [u8w]
  have h1 := or8.2.2.2.2 ⟨n % 256, by omega⟩
  simp only at h1
  rw [h1]
  have h2 := or8.2.2.2.1 ⟨n % 256 % 64, by omega⟩
  simp only at h2
  rw [h2]; omega
theorem hi5 {n : Nat} (h : n < 32) : bitsOf .or .u8 192 (IntKind.u8.wrap (n : Int)) = ((192 + n : Nat) : Int) := by
  rw [u8w, Nat.mod_eq_of_lt (by omega)]
  have := or8.1 ⟨n, h⟩
  simp only at this
  rw [this]; omega
theorem hi4 {n : Nat} (h : n < 16) : bitsOf .or .u8 224 (IntKind.u8.wrap (n : Int)) = ((224 + n : Nat) : Int) := by
  rw [u8w, Nat.mod_eq_of_lt (by omega)]
  have := or8.2.1 ⟨n, h⟩
  simp only at this
  rw [this]; omega
theorem hi3 {n : Nat} (h : n < 8) : bitsOf .or .u8 240 (IntKind.u8.wrap (n : Int)) = ((240 + n : Nat) : Int) := by
  rw [u8w, Nat.mod_eq_of_lt (by omega)]
  have := or8.2.2.1 ⟨n, h⟩
  simp only at this
  rw [this]; omega
def isRune (r : Int) : Prop := 0 ≤ r ∧ r ≤ 1114111 ∧ (r < 55296 ∨ 57343 < r)
theorem decode_rune (l : List UInt8) : isRune ((decodeL l).1 : Int) := by
  rw [decodeL_N]
  have h := decodeN_shape l.length (l.getD 0 0).toNat (l.getD 1 0).toNat (l.getD 2 0).toNat (l.getD 3 0).toNat
  have k0 := (l.getD 0 0).toNat_lt
  unfold isRune
  rcases h with ⟨c, e⟩ | ⟨c1, c2, c3, cv, e⟩ | ⟨c1, c2, c3, c4, cv, cs, e⟩ | ⟨c1, c2, c3, c4, c5, cv, cw, e⟩ | e
  all_goals rw [e]; simp only; omega
theorem rs_runes : ∀ (n : Nat) (l : List UInt8), l.length ≤ n → ∀ r ∈ rs l, isRune r
  | _, [], _, r, h => by simp [rs_nil] at h
  | 0, c :: l, h, _, _ => by simp at h
  | n + 1, c :: l, hl, r, h => by
    have hw := decodeL_width (c :: l)
    rw [rs_cons (by simp)] at h
    rcases List.mem_cons.1 h with rfl | h
    · exact decode_rune _
    · exact rs_runes n _ (by rw [List.length_drop]; simp only [List.length_cons] at *; omega) r h
theorem u32in {r : Int} (h : isRune r) : IntKind.u32.wrap r = r := by
  unfold isRune at h
  have : IntKind.u32.wrap r = r % 4294967296 := by simp [IntKind.wrap, IntKind.bits, IntKind.signed]
  rw [this]; omega
theorem encZ (r : Nat) (h : isRune r) : Lib.encodeRune (r : Int) = if r < 128 then [UInt8.ofNat r] else if r < 2048 then [UInt8.ofNat (192 + r / 64), UInt8.ofNat (128 + r % 64)] else if r < 65536 then [UInt8.ofNat (224 + r / 4096), UInt8.ofNat (128 + r / 64 % 64), UInt8.ofNat (128 + r % 64)] else
    [UInt8.ofNat (240 + r / 262144), UInt8.ofNat (128 + r / 4096 % 64), UInt8.ofNat (128 + r / 64 % 64), UInt8.ofNat (128 + r % 64)] := by
  unfold isRune at h
  unfold Lib.encodeRune
  have b : ∀ z : Int, ∀ n : Nat, z = (n : Int) → z.toNat.toUInt8 = UInt8.ofNat n := fun z n e => by subst e; rfl
  by_cases h1 : r < 128
  · rw [if_pos h1, encodeRuneZ_one (by omega) (by omega)]; simp only [List.map_cons, List.map_nil]; rw [b _ r rfl]
  rw [if_neg h1]
  by_cases h2 : r < 2048
  · rw [if_pos h2, encodeRuneZ_two (by omega) (by omega)]; simp only [List.map_cons, List.map_nil]; rw [b _ (192 + r / 64) (by omega), b _ (128 + r % 64) (by omega)]
  rw [if_neg h2]
  by_cases h3 : r < 65536
  · rw [if_pos h3, encodeRuneZ_three (by omega)]; simp only [List.map_cons, List.map_nil]; rw [b _ (224 + r / 4096) (by omega), b _ (128 + r / 64 % 64) (by omega), b _ (128 + r % 64) (by omega)]
  rw [if_neg h3, encodeRuneZ_four (by omega) (by omega)]; simp only [List.map_cons, List.map_nil]; rw [b _ (240 + r / 262144) (by omega), b _ (128 + r / 4096 % 64) (by omega), b _ (128 + r / 64 % 64) (by omega), b _ (128 + r % 64) (by omega)]
end Go.Proofs.YtdgpkbnnljblmaaGreatDoor
