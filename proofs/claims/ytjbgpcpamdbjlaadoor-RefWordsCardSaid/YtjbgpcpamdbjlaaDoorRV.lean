/- The laws on areas, on rounds, on an area's cells: they tell true. -/
import Derived.Test.YtjbgpcpamdbjlaaDoorRB
namespace Go.Proofs.YtjbgpcpamdbjlaaDoor
open Go Go.Ev

theorem ofArea_val (a : Area) : ofAreaF a = some a := by simp [ofAreaF, ofF]
theorem checkA_val (a : Area) : checkAF a = some (if checkV a.A < checkV a.B then checkV a.B else checkV a.A) := by
  unfold checkAF
  simp only [check_val, obnd_some, Option.some.injEq]
  by_cases h : checkV a.A < checkV a.B <;> simp [h]
theorem checkV_or (r : Ref) : checkV r = 0 ∨ checkV r = 12 := by unfold checkV; split <;> simp
theorem icheckA_val (a : Area) : icheckAF a = checkAF a := by
  rw [checkA_val]
  unfold icheckAF
  simp only [icheck_val, obnd_some]
  rcases checkV_or a.A with h | h <;> rcases checkV_or a.B with h' | h' <;> simp [h, h']

/-! ## an area's corners -/
def loV (a : Area) (b : Cell) : Cell := ⟨min (atV a.A b).Row (atV a.B b).Row, min (atV a.A b).Col (atV a.B b).Col⟩
def hiV (a : Area) (b : Cell) : Cell := ⟨max (atV a.A b).Row (atV a.B b).Row, max (atV a.A b).Col (atV a.B b).Col⟩
theorem bif_min (x y : Int) : (bif decide (y < x) then y else x) = min x y := by
  by_cases h : y < x <;> simp [h] <;> omega
theorem bif_max (x y : Int) : (bif decide (x < y) then y else x) = max x y := by
  by_cases h : x < y <;> simp [h] <;> omega
theorem bounds_val (a : Area) (b : Cell) : boundsF (a, b) = some (loV a b, hiV a b) := by
  unfold boundsF
  simp only [at_val, obnd_some, bif_min, bif_max]
  rfl
theorem ibounds_val (a : Area) (b : Cell) : iboundsF (a, b) = some (loV a b, hiV a b) := by
  unfold iboundsF loV hiV
  simp only [iat_val, obnd_some]
  generalize atV a.A b = x
  generalize atV a.B b = y
  obtain ⟨x1, x2⟩ := x
  obtain ⟨y1, y2⟩ := y
  simp only
  by_cases h1 : y1 < x1 <;> by_cases h2 : y2 < x2 <;> simp only [h1, h2, decide_true, decide_false, brn_true, brn_false, Option.some.injEq, Prod.mk.injEq, Cell.mk.injEq] <;> omega
theorem atV_ok (r : Ref) (b : Cell) : goodV (atV r b) = true := by
  rw [goodV_iff]
  unfold atV
  cases r.RelRow <;> cases r.RelCol <;> simp <;> omega
theorem box_ok (a : Area) (b : Cell) : 0 ≤ (loV a b).Row ∧ (loV a b).Row ≤ (hiV a b).Row ∧ (hiV a b).Row < 65536 ∧ 0 ≤ (loV a b).Col ∧ (loV a b).Col ≤ (hiV a b).Col ∧ (hiV a b).Col < 256 := by
  have h1 := goodV_iff.1 (atV_ok a.A b)
  have h2 := goodV_iff.1 (atV_ok a.B b)
  simp only [loV, hiV]
  omega

/-! ## its cells -/
def sizeV (x y : Cell) : Int := (y.Row - x.Row + 1) * (y.Col - x.Col + 1)
def areaV (x y : Cell) : List Cell := if 4096 < sizeV x y then [] else rowsOf x.Col (y.Col + 1 - x.Col).toNat x.Row (y.Row + 1 - x.Row).toNat
theorem size_wrap {x y : Cell} (h : 0 ≤ x.Row ∧ x.Row ≤ y.Row ∧ y.Row < 65536 ∧ 0 ≤ x.Col ∧ x.Col ≤ y.Col ∧ y.Col < 256) :
    IntKind.i64.wrap (IntKind.i64.wrap (y.Row - x.Row) + 1) = y.Row - x.Row + 1 ∧ IntKind.i64.wrap (IntKind.i64.wrap (y.Col - x.Col) + 1) = y.Col - x.Col + 1 ∧ IntKind.i64.wrap ((y.Row - x.Row + 1) * (y.Col - x.Col + 1)) = sizeV x y := by
  have w1 : IntKind.i64.wrap (y.Row - x.Row) = y.Row - x.Row := wrapR (by omega)
  have w2 : IntKind.i64.wrap (y.Col - x.Col) = y.Col - x.Col := wrapR (by omega)
  rw [w1, w2]
  refine ⟨wrapR (by omega), wrapR (by omega), ?_⟩
  unfold sizeV
  have h1 : 0 ≤ y.Row - x.Row + 1 := by omega
  have h2 : y.Row - x.Row + 1 ≤ 65536 := by omega
  have h3 : 0 ≤ y.Col - x.Col + 1 := by omega
  have h4 : y.Col - x.Col + 1 ≤ 256 := by omega
  have h5 : (y.Row - x.Row + 1) * (y.Col - x.Col + 1) ≤ 65536 * 256 := Int.mul_le_mul h2 h4 h3 (by omega)
  have h6 : 0 ≤ (y.Row - x.Row + 1) * (y.Col - x.Col + 1) := Int.mul_nonneg h1 h3
  exact wrapR (by omega)
theorem cellsO_val {x y : Cell} (h : 0 ≤ x.Row ∧ x.Row ≤ y.Row ∧ y.Row < 65536 ∧ 0 ≤ x.Col ∧ x.Col ≤ y.Col ∧ y.Col < 256) (hs : sizeV x y ≤ 4096) :
    cellsOJ (x, y, [], x.Row) = some (rowsOf x.Col (y.Col + 1 - x.Col).toNat x.Row (y.Row + 1 - x.Row).toNat) := by
  unfold cellsOJ
  have e : (((y.Row + 1 - x.Row).toNat * (y.Col + 1 - x.Col).toNat : Nat) : Int) = sizeV x y := by
    unfold sizeV
    rw [Int.natCast_mul, Int.toNat_of_nonneg (by omega), Int.toNat_of_nonneg (by omega)]
    congr 1 <;> omega
  have hc : (decide (-1000000 ≤ x.Row) && decide (x.Row ≤ 1000000) && decide (y.Row ≤ 999999) && decide (-1000000 ≤ x.Col) && decide (x.Col ≤ 1000000) && decide (y.Col ≤ 999999) &&
      decide (([] : List Cell).length + (y.Row + 1 - x.Row).toNat * (y.Col + 1 - x.Col).toNat ≤ 1000000)) = true := by
    simp only [Bool.and_eq_true, decide_eq_true_eq, List.length_nil]
    omega
  simp only
  rw [hc]
  simp
theorem cells_val (a : Area) (b : Cell) : cellsF (a, b) = some (areaV (loV a b) (hiV a b)) := by
  have hb := box_ok a b
  unfold cellsF areaV
  simp only [bounds_val, obnd_some, (size_wrap hb).1, (size_wrap hb).2.1, (size_wrap hb).2.2]
  by_cases hs : 4096 < sizeV (loV a b) (hiV a b)
  · simp [hs]
  · simp only [hs, decide_false, brn_false, if_false]
    rw [cellsO_val hb (by omega)]; rfl
theorem isize_val (a : Area) (b : Cell) : isizeF (a, b) = some (sizeV (loV a b) (hiV a b)) := by
  unfold isizeF
  simp only [ibounds_val, obnd_some, (size_wrap (box_ok a b)).1, (size_wrap (box_ok a b)).2.1, (size_wrap (box_ok a b)).2.2]
theorem icells_val (a : Area) (b : Cell) : icellsF (a, b) = some (areaV (loV a b) (hiV a b)) := by
  have hb := box_ok a b
  unfold icellsF areaV
  simp only [ibounds_val, isize_val, obnd_some]
  by_cases hs : 4096 < sizeV (loV a b) (hiV a b)
  · simp [hs]
  · simp only [hs, decide_false, brn_false, if_false]
    unfold icellsOJ
    rw [cellsO_val hb (by omega)]; rfl
theorem areaV_len {x y : Cell} : (areaV x y).length ≤ 4096 ∨ True := .inr trivial
theorem areaV_short {x y : Cell} (h : 0 ≤ x.Row ∧ x.Row ≤ y.Row ∧ y.Row < 65536 ∧ 0 ≤ x.Col ∧ x.Col ≤ y.Col ∧ y.Col < 256) : (areaV x y).length ≤ 4096 := by
  unfold areaV
  split
  · simp
  · rename_i hs
    rw [rowsOf_length]
    have e : (((y.Row + 1 - x.Row).toNat * (y.Col + 1 - x.Col).toNat : Nat) : Int) = sizeV x y := by
      unfold sizeV
      rw [Int.natCast_mul, Int.toNat_of_nonneg (by omega), Int.toNat_of_nonneg (by omega)]
      congr 1 <;> omega
    omega

theorem areasL_val (l : List Cell) (hl : l.length ≤ 4096) : areasLJ (l, l, 0) = some (.inl ()) := by
  refine iter_big (F := areasLF) (fun x => x.1.length - x.2.2.toNat) (fun x => x.1 = l ∧ x.2.1 = l ∧ 0 ≤ x.2.2 ∧ x.2.2 ≤ (l.length : Int)) (fun _ => .inl ()) ?_ (l, l, 0) ⟨rfl, rfl, by simp, by simp⟩ (by simp; omega)
  rintro back ⟨l1, l2, i⟩ ⟨e1, e2, h0, h1⟩ ih
  simp only at e1 e2 h0 h1 ih
  subst e1; subst e2
  obtain ⟨k, rfl⟩ := Int.eq_ofNat_of_zero_le h0
  unfold areasLF
  simp only
  by_cases hk : k < l2.length
  · have hk' : (k : Int) < (l2.length : Int) := by omega
    have hix : idx l2 (k : Int) = some l2[k] := idx_at' hk
    have hw : IntKind.i64.wrap ((k : Int) + 1) = (k : Int) + 1 := wrapR (by omega)
    simp only [hk', decide_true, brn_true, hix, obnd_some, ofCellF, hw, Bool.and_self, Bool.not_true, cond_true, brn_false]
    exact ih (l2, l2, (k : Int) + 1) ⟨rfl, rfl, by simp only; omega, by simp only; omega⟩ (by simp only; omega)
  · have hk' : ¬ (k : Int) < (l2.length : Int) := by omega
    simp only [hk', decide_false, brn_false]
where
  idx_at' {s : List Cell} {k : Nat} (h : k < s.length) : idx s (k : Int) = some s[k] := by simp [idx, h]
theorem areas_law (x : Area × Cell) : areasF x = some true := by
  obtain ⟨a, b⟩ := x
  unfold areasF
  simp only [obnd_some, bounds_val, ofArea_val, ofCellF, ibounds_val, icheckA_val, checkA_val, cells_val, icells_val, areasL_val _ (areaV_short (box_ok a b))]
  simp [osum]
theorem areas_true : TellsTrue Tryd.prog tb areasS := fun x _ => ⟨true, areas_law x, fun g w us cs v h hr => true_out g w us cs v h hr notAgg4⟩

/-! ## the k-th cell -/
theorem rowOf_get (row : Int) : ∀ (w : Nat) (col : Int) (j : Nat), j < w → (rowOf row col w)[j]? = some ⟨row, col + j⟩
  | 0, _, _, h => by omega
  | w + 1, col, 0, _ => by simp [rowOf]
  | w + 1, col, j + 1, h => by
    simp only [rowOf, List.getElem?_cons_succ]
    rw [rowOf_get row w (col + 1) j (by omega)]
    simp only [Option.some.injEq, Cell.mk.injEq, true_and]; omega
theorem rowsOf_get (c : Int) (w : Nat) (hw : 0 < w) : ∀ (k : Nat) (row : Int) (i : Nat), i < k * w → (rowsOf c w row k)[i]? = some ⟨row + ((i / w : Nat) : Int), c + ((i % w : Nat) : Int)⟩
  | 0, _, i, h => by simp at h
  | k + 1, row, i, h => by
    simp only [rowsOf]
    by_cases hi : i < w
    · rw [List.getElem?_append_left (by rw [rowOf_length]; exact hi), rowOf_get row w c i hi, Nat.div_eq_of_lt hi, Nat.mod_eq_of_lt hi]
      simp
    · rw [List.getElem?_append_right (by rw [rowOf_length]; omega), rowOf_length]
      rw [rowsOf_get c w hw k (row + 1) (i - w) (by rw [Nat.add_mul] at h; omega)]
      have e1 : i / w = (i - w) / w + 1 := by rw [Nat.div_eq_sub_div hw (by omega)]
      have e2 : i % w = (i - w) % w := by rw [Nat.mod_eq_sub_mod (by omega)]
      rw [e1, e2]
      simp only [Option.some.injEq, Cell.mk.injEq, and_true]; omega

theorem cellsQL_val {x y : Cell} (h : 0 ≤ x.Row ∧ x.Row ≤ y.Row ∧ y.Row < 65536 ∧ 0 ≤ x.Col ∧ x.Col ≤ y.Col ∧ y.Col < 256) (hs : ¬ 4096 < sizeV x y) :
    cellsQLJ (x, areaV x y, sizeV x y, y.Col - x.Col + 1, 0) = some (.inl ()) := by
  have e : (((y.Row + 1 - x.Row).toNat * (y.Col + 1 - x.Col).toNat : Nat) : Int) = sizeV x y := by
    unfold sizeV
    rw [Int.natCast_mul, Int.toNat_of_nonneg (by omega), Int.toNat_of_nonneg (by omega)]
    congr 1 <;> omega
  have hpos : 0 ≤ sizeV x y := by omega
  refine iter_big (F := cellsQLF) (fun z => (z.2.2.1 - z.2.2.2.2).toNat) (fun z => z.1 = x ∧ z.2.1 = areaV x y ∧ z.2.2.1 = sizeV x y ∧ z.2.2.2.1 = y.Col - x.Col + 1 ∧ 0 ≤ z.2.2.2.2 ∧ z.2.2.2.2 ≤ sizeV x y) (fun _ => .inl ()) ?_ _ ⟨rfl, rfl, rfl, rfl, by simp, hpos⟩ (by simp only; omega)
  rintro back ⟨x', l, n, w, i⟩ ⟨e1, e2, e3, e4, h0, h1⟩ ih
  simp only at e1 e2 e3 e4 h0 h1 ih
  subst e1; subst e2; subst e3; subst e4
  obtain ⟨k, rfl⟩ := Int.eq_ofNat_of_zero_le h0
  unfold cellsQLF
  simp only
  by_cases hk : (k : Int) < sizeV x' y
  · obtain ⟨w, hw⟩ : ∃ w : Nat, y.Col + 1 - x'.Col = (w : Int) := ⟨(y.Col + 1 - x'.Col).toNat, by omega⟩
    have hw0 : 0 < w := by omega
    have hw' : y.Col - x'.Col + 1 = (w : Int) := by omega
    have hix : idx (areaV x' y) (k : Int) = some ⟨x'.Row + ((k / w : Nat) : Int), x'.Col + ((k % w : Nat) : Int)⟩ := by
      unfold areaV
      rw [if_neg hs]
      simp only [idx, Int.natCast_nonneg, decide_true, cond_true, Int.toNat_natCast]
      rw [hw, Int.toNat_natCast]
      refine rowsOf_get _ _ hw0 _ _ _ ?_
      rw [hw, Int.toNat_natCast] at e
      omega
    have hne : ¬ ((w : Int) = 0) := by omega
    have t1 : (k : Int).tdiv (w : Int) = ((k / w : Nat) : Int) := by rw [Int.tdiv_eq_ediv_of_nonneg (by omega)]; omega
    have t2 : (k : Int).tmod (w : Int) = ((k % w : Nat) : Int) := by rw [Int.tmod_eq_emod_of_nonneg (by omega)]; omega
    have b1 : k / w ≤ k := Nat.div_le_self _ _
    have b2 : k % w < w := Nat.mod_lt _ hw0
    have b0 : (0 : Int) ≤ ((k / w : Nat) : Int) := Int.natCast_nonneg _
    have w1 : IntKind.i64.wrap ((k / w : Nat) : Int) = ((k / w : Nat) : Int) := wrapR (by omega)
    have w2 : IntKind.i64.wrap (x'.Row + ((k / w : Nat) : Int)) = x'.Row + ((k / w : Nat) : Int) := wrapR (by omega)
    have w3 : IntKind.i64.wrap (x'.Col + ((k % w : Nat) : Int)) = x'.Col + ((k % w : Nat) : Int) := wrapR (by omega)
    have w4 : IntKind.i64.wrap ((k : Int) + 1) = (k : Int) + 1 := wrapR (by omega)
    simp only [hk, hw', hne, hix, t1, t2, w1, w2, w3, w4, decide_true, decide_false, brn_true, brn_false, obnd_some, Bool.not_true]
    exact ih (x', areaV x' y, sizeV x' y, (w : Int), (k : Int) + 1) ⟨rfl, rfl, rfl, hw'.symm, by simp only; omega, by simp only; omega⟩ (by simp only; omega)
  · simp only [hk, decide_false, brn_false]
theorem loV_turn (r s : Ref) (c : Cell) : loV ⟨r, s⟩ c = loV ⟨s, r⟩ c := by simp only [loV, Cell.mk.injEq]; omega
theorem hiV_turn (r s : Ref) (c : Cell) : hiV ⟨r, s⟩ c = hiV ⟨s, r⟩ c := by simp only [hiV, Cell.mk.injEq]; omega
theorem areaV_size {x y : Cell} (h : 0 ≤ x.Row ∧ x.Row ≤ y.Row ∧ y.Row < 65536 ∧ 0 ≤ x.Col ∧ x.Col ≤ y.Col ∧ y.Col < 256) (hs : ¬ 4096 < sizeV x y) : ((areaV x y).length : Int) = sizeV x y := by
  have e : (((y.Row + 1 - x.Row).toNat * (y.Col + 1 - x.Col).toNat : Nat) : Int) = sizeV x y := by
    unfold sizeV
    rw [Int.natCast_mul, Int.toNat_of_nonneg (by omega), Int.toNat_of_nonneg (by omega)]
    congr 1 <;> omega
  unfold areaV
  rw [if_neg hs, rowsOf_length]
  exact e
theorem cellsQ_law (x : Ref × Ref × Cell) : cellsQF x = some true := by
  obtain ⟨r, s, c⟩ := x
  have hb := box_ok ⟨r, s⟩ c
  unfold cellsQF
  simp only [obnd_some, check_val, good_val, bounds_val, cells_val, (size_wrap hb).1, (size_wrap hb).2.1, (size_wrap hb).2.2]
  rw [loV_turn s r c, hiV_turn s r c]
  by_cases h1 : checkV r = 0 <;> by_cases h2 : checkV s = 0 <;> cases goodV c <;> simp [h1, h2]
  have n1 : ¬ (hiV ⟨r, s⟩ c).Row < (loV ⟨r, s⟩ c).Row := by omega
  have n2 : ¬ (hiV ⟨r, s⟩ c).Col < (loV ⟨r, s⟩ c).Col := by omega
  by_cases hs : 4096 < sizeV (loV ⟨r, s⟩ c) (hiV ⟨r, s⟩ c)
  · have : areaV (loV ⟨r, s⟩ c) (hiV ⟨r, s⟩ c) = [] := by unfold areaV; rw [if_pos hs]
    simp [n1, n2, hs, this]
  · have e1 := areaV_size hb hs
    have e2 := cellsQL_val hb hs
    simp [n1, n2, hs, e1, e2, osum]
theorem cellsQ_true : TellsTrue Tryd.prog tb cellsQS := fun x _ => ⟨true, cellsQ_law x, fun g w us cs v h hr => true_out g w us cs v h hr notAgg4⟩

/-! ## rounds -/
theorem wf_int {k : IntKind} {n : Int} (h : Wf Tryd.prog tb (.int k n)) : inR k n := by cases h; assumption
theorem round_law (r : Ref) (b : Cell) (rows : Int) (cols : UInt8) (hr : 0 ≤ rows ∧ rows ≤ 65535) : roundF (r, b, rows, cols) = some true := by
  have hc : cols.toNat ≤ 255 := by have := cols.toNat_lt; omega
  unfold roundF
  simp only [obnd_some, good_val, check_val, at_val, atV_ok]
  by_cases hg : goodV b = true
  · obtain ⟨h1, h2, h3, h4⟩ := goodV_iff.1 hg
    by_cases hk : checkV r = 0
    · have hrv : 0 ≤ r.Row ∧ r.Row < 65536 ∧ 0 ≤ r.Col ∧ r.Col < 256 := by
        unfold checkV at hk
        split at hk
        · rename_i hgr; exact goodV_iff.1 hgr
        · simp at hk
      have w1 : IntKind.i64.wrap rows = rows := wrapR (by omega)
      have w2 : IntKind.i64.wrap (cols.toNat : Int) = (cols.toNat : Int) := wrapR (by omega)
      have w3 : IntKind.i64.wrap (b.Row + rows) = b.Row + rows := wrapR (by omega)
      have w4 : IntKind.i64.wrap (b.Col + (cols.toNat : Int)) = b.Col + (cols.toNat : Int) := wrapR (by omega)
      have t1 : (b.Row + rows).tmod 65536 = (b.Row + rows) % 65536 := Int.tmod_eq_emod_of_nonneg (by omega)
      have t2 : (b.Col + (cols.toNat : Int)).tmod 256 = (b.Col + (cols.toNat : Int)) % 256 := Int.tmod_eq_emod_of_nonneg (by omega)
      have ha := goodV_iff.1 (atV_ok r b)
      have w5 : IntKind.i64.wrap ((atV r b).Row + rows) = (atV r b).Row + rows := wrapR (by omega)
      have w6 : IntKind.i64.wrap ((atV r b).Col + (cols.toNat : Int)) = (atV r b).Col + (cols.toNat : Int) := wrapR (by omega)
      have t3 : ((atV r b).Row + rows).tmod 65536 = ((atV r b).Row + rows) % 65536 := Int.tmod_eq_emod_of_nonneg (by omega)
      have t4 : ((atV r b).Col + (cols.toNat : Int)).tmod 256 = ((atV r b).Col + (cols.toNat : Int)) % 256 := Int.tmod_eq_emod_of_nonneg (by omega)
      simp only [hg, hk, w1, w2, w3, w4, t1, t2, w5, w6, t3, t4, decide_true, Bool.not_true, brn_false, cond_false]
      cases hrr : r.RelRow <;> cases hrc : r.RelCol <;> simp [atV, hrr, hrc, ← Int.add_assoc]
    · simp [hg, hk]
  · simp [hg]
theorem round_true : TellsTrue Tryd.prog tb roundS := fun x hx => by
  obtain ⟨r, b, rows, cols⟩ := x
  have h := wf_int (hx.2.2.1 _ (List.mem_singleton.2 rfl))
  simp only [Ev.inR, lo, hi] at h
  exact ⟨true, round_law r b rows cols h, fun g w us cs v h hr => true_out g w us cs v h hr notAgg4⟩
end Go.Proofs.YtjbgpcpamdbjlaaDoor
