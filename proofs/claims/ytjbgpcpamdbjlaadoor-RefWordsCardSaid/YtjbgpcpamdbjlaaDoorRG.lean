/- The functions of the places that loop. -/
import Derived.Test.YtjbgpcpamdbjlaaDoorRS
namespace Go.Proofs.YtjbgpcpamdbjlaaDoor
open Go Go.Ev


/-! ### letters -/
def lettersLF (back : List UInt8 × Int → Option (Int)) (x : List UInt8 × Int) : Option (Int) :=
  brn (decide (x.snd < (↑x.fst.length : Int))) (obnd (idx x.fst x.snd) fun y => brn (decide (65 ≤ (↑y.toNat : Int))) (back (x.fst, IntKind.i64.wrap (x.snd + 1))) (some x.2))
    (some x.2)
/-- how many bytes ahead are letters' or greater -/
def ahead (s : List UInt8) : Nat := (s.takeWhile fun b => decide (65 ≤ b.toNat)).length
def lettersLJ (x : List UInt8 × Int) : Option Int :=
  bif decide (0 ≤ x.2) && decide (x.2 ≤ (x.1.length : Int)) && decide (x.1.length ≤ 1000000) then some (x.2 + (ahead (x.1.drop x.2.toNat) : Int)) else none
def lettersLM (x : List UInt8 × Int) : Nat := x.1.length - x.2.toNat
theorem lettersL_step : ∀ x y, lettersLJ x = some y → lettersLF (fun x' => bif Nat.blt (lettersLM x') (lettersLM x) then lettersLJ x' else none) x = some y := by
  rintro ⟨s, n⟩ y h
  unfold lettersLJ at h
  simp only at h
  cases hc : (decide (0 ≤ n) && decide (n ≤ (s.length : Int)) && decide (s.length ≤ 1000000)) with
  | false => simp [hc] at h
  | true =>
    simp only [hc, cond_true, Option.some.injEq] at h
    simp only [Bool.and_eq_true, decide_eq_true_eq] at hc
    obtain ⟨⟨h0, h1⟩, h2⟩ := hc
    obtain ⟨k, rfl⟩ := Int.eq_ofNat_of_zero_le h0
    simp only [Int.toNat_natCast] at h
    unfold lettersLF
    simp only
    by_cases hk : k < s.length
    · have hk' : ((k : Int) < (s.length : Int)) := by omega
      have hd : s.drop k = s[k] :: s.drop (k + 1) := List.drop_eq_getElem_cons hk
      have hix : idx s (k : Int) = some s[k] := by simp [idx, hk]
      simp only [hk', decide_true, brn_true, hix, obnd_some]
      rw [hd] at h
      by_cases hb : 65 ≤ s[k].toNat
      · have hb' : (65 : Int) ≤ (s[k].toNat : Int) := by omega
        have hw : IntKind.i64.wrap ((k : Int) + 1) = ((k + 1 : Nat) : Int) := by
          rw [wrap_of_inR (by simp only [Ev.inR, lo, hi]; omega)]; omega
        have hm : Nat.blt (lettersLM (s, ((k + 1 : Nat) : Int))) (lettersLM (s, (k : Int))) = true := by
          simp only [lettersLM, Int.toNat_natCast]
          exact Nat.ble_eq_true_of_le (by omega)
        simp only [hb', decide_true, brn_true, hw, hm, cond_true]
        unfold lettersLJ
        have hc2 : (decide (0 ≤ (((k + 1 : Nat) : Int))) && decide ((((k + 1 : Nat) : Int)) ≤ (s.length : Int)) && decide (s.length ≤ 1000000)) = true := by
          simp only [Bool.and_eq_true, decide_eq_true_eq]; omega
        simp only [hc2, cond_true, Int.toNat_natCast]
        rw [← h]
        simp only [ahead, List.takeWhile_cons, hb, decide_true, if_true, List.length_cons]
        congr 1
        omega
      · have hb' : ¬ (65 : Int) ≤ (s[k].toNat : Int) := by omega
        simp only [hb', decide_false, brn_false]
        rw [← h]
        simp only [ahead, List.takeWhile_cons, hb, decide_false, Bool.false_eq_true, if_false, List.length_nil]
        simp
    · have hk' : ¬ ((k : Int) < (s.length : Int)) := by omega
      have hd : s.drop k = [] := List.drop_eq_nil_of_le (by omega)
      simp only [hk', decide_false, brn_false]
      rw [← h, hd]
      simp [ahead]
def lettersLC : CutSpec tb := ⟨28, [(0, .val 9), (3, .val 3)], [((.exit 0), [(3, .val 3)])], [4, 5, 6, 7, 8, 9, 10, 11, 12, 13, 14, 15, 3], lettersLJ⟩
theorem lettersL_eq : ∀ back x, evLoop Tryd.prog tb [] [] (loopAt 28 Tryd.f31) lettersLC.ins lettersLC.outs back x = lettersLF back x := fun back x => by kernel_rfl
theorem lettersL_k : cutB Tryd.f31.ntmps lettersLC (loopAt 28 Tryd.f31) = true := by kernel_rfl
theorem lettersL_in : cutsOf ([] : List (CutSpec tb)) (loopAt 28 Tryd.f31) = [] := by kernel_rfl
theorem lettersL_cut : CutSound Tryd.prog tb Tryd.f31.ntmps (.loop (loopAt 28 Tryd.f31)) lettersLC := loop_ev mixed lettersL_k .nil rfl lettersL_in .nil lettersLF lettersL_eq lettersLM lettersL_step
def lettersF (x : List UInt8) : Option (Int) :=
  obnd (lettersLJ (x, 0)) fun y => some y
def lettersS : FSpec tb := ⟨[(0, .val 9)], [(0, .val 3)], lettersF⟩
theorem letters_eq : ∀ x, evFn Tryd.prog tb [] [lettersLC] Tryd.f31 lettersS.ins lettersS.outs x = lettersS.f x := fun x => by kernel_rfl
theorem letters_k : fnK Tryd.f31 lettersS.ins lettersS.outs = true := by kernel_rfl
theorem letters_in : cutsOf ([lettersLC] : List (CutSpec tb)) (bodyOf Tryd.f31) = [(28, .loop (loopAt 28 Tryd.f31))] := by kernel_rfl
theorem letters_sound : FnSound Tryd.prog tb 31 lettersS := fn_cut mixed Tryd.func31 letters_k .nil rfl letters_in (.cons rfl lettersL_cut rfl .nil) letters_eq

/-! ### text -/
def textLF (back : List UInt8 × Int → Option (List UInt8)) (x : List UInt8 × Int) : Option (List UInt8) :=
  brn (decide (0 < x.snd))
    (obnd (cat (utf8 (IntKind.i32.wrap (IntKind.i64.wrap (65 + (IntKind.i64.wrap (x.snd - 1)).tmod 26)))) x.fst) fun z =>
      back (z, IntKind.i64.wrap ((IntKind.i64.wrap (x.snd - 1)).tdiv 26)))
    (some x.1)
/-- a column's name (columns from 1 on; f: at least as much) -/
def nameAux : Nat → Nat → List UInt8
  | 0, _ => []
  | f + 1, n => if n = 0 then [] else nameAux f ((n - 1) / 26) ++ [UInt8.ofNat (65 + (n - 1) % 26)]
def nameOf (n : Nat) : List UInt8 := nameAux n n
theorem nameAux_more : ∀ (f n : Nat), n ≤ f → nameAux f n = nameOf n := by
  have key : ∀ (f g n : Nat), n ≤ f → n ≤ g → nameAux f n = nameAux g n := by
    intro f
    induction f with
    | zero =>
      intro g n h1 h2
      have : n = 0 := by omega
      subst this
      cases g <;> simp [nameAux]
    | succ f ih =>
      intro g n h1 h2
      cases g with
      | zero =>
        have : n = 0 := by omega
        subst this
        simp [nameAux]
      | succ g =>
        simp only [nameAux]
        split
        · rfl
        · rw [ih g ((n - 1) / 26) (by omega) (by omega)]
  exact fun f n h => key f n n h (Nat.le_refl _)
theorem nameOf_step {n : Nat} (h : n ≠ 0) : nameOf n = nameOf ((n - 1) / 26) ++ [UInt8.ofNat (65 + (n - 1) % 26)] := by
  cases n with
  | zero => exact absurd rfl h
  | succ n =>
    show nameAux (n + 1) (n + 1) = _
    simp only [nameAux, Nat.succ_ne_zero, if_false]
    rw [nameAux_more n ((n + 1 - 1) / 26) (by omega)]
theorem utf8_letter_fin : ∀ k : Fin 26, utf8 (65 + (k.val : Int)) = [UInt8.ofNat (65 + k.val)] := by decide +kernel
theorem utf8_letter (k : Nat) (h : k < 26) : utf8 (65 + (k : Int)) = [UInt8.ofNat (65 + k)] := utf8_letter_fin ⟨k, h⟩
def textLJ (x : List UInt8 × Int) : Option (List UInt8) :=
  bif decide (0 ≤ x.2) && decide ((x.1.length : Int) + x.2 ≤ 100000) then some (nameOf x.2.toNat ++ x.1) else none
def textLM (x : List UInt8 × Int) : Nat := x.2.toNat
theorem textL_step : ∀ x y, textLJ x = some y → textLF (fun x' => bif Nat.blt (textLM x') (textLM x) then textLJ x' else none) x = some y := by
  rintro ⟨s, n⟩ y h
  unfold textLJ at h
  simp only at h
  cases hc : (decide (0 ≤ n) && decide ((s.length : Int) + n ≤ 100000)) with
  | false => simp [hc] at h
  | true =>
    simp only [hc, cond_true, Option.some.injEq] at h
    simp only [Bool.and_eq_true, decide_eq_true_eq] at hc
    obtain ⟨h0, h1⟩ := hc
    obtain ⟨k, rfl⟩ := Int.eq_ofNat_of_zero_le h0
    simp only [Int.toNat_natCast] at h
    unfold textLF
    simp only
    by_cases hk : k = 0
    · subst hk
      simp only [Int.natCast_zero, Int.lt_irrefl, decide_false, brn_false]
      rw [← h]; rfl
    · have hk' : (0 : Int) < (k : Int) := by omega
      have w1 : IntKind.i64.wrap ((k : Int) - 1) = ((k - 1 : Nat) : Int) := by
        rw [wrap_of_inR (by simp only [Ev.inR, lo, hi]; omega)]; omega
      have t1 : (((k - 1 : Nat) : Int)).tmod 26 = (((k - 1) % 26 : Nat) : Int) := by
        rw [Int.tmod_eq_emod_of_nonneg (by omega)]; omega
      have t2 : (((k - 1 : Nat) : Int)).tdiv 26 = (((k - 1) / 26 : Nat) : Int) := by
        rw [Int.tdiv_eq_ediv_of_nonneg (by omega)]; omega
      have hm : (k - 1) % 26 < 26 := Nat.mod_lt _ (by omega)
      have w2 : IntKind.i64.wrap (65 + (((k - 1) % 26 : Nat) : Int)) = 65 + (((k - 1) % 26 : Nat) : Int) := wrap_of_inR (by simp only [Ev.inR, lo, hi]; omega)
      have w3 : IntKind.i32.wrap (65 + (((k - 1) % 26 : Nat) : Int)) = 65 + (((k - 1) % 26 : Nat) : Int) := wrap_of_inR (by simp only [Ev.inR, lo, hi]; omega)
      have w4 : IntKind.i64.wrap ((((k - 1) / 26 : Nat) : Int)) = (((k - 1) / 26 : Nat) : Int) := wrap_of_inR (by simp only [Ev.inR, lo, hi]; omega)
      have hcat : cat [UInt8.ofNat (65 + (k - 1) % 26)] s = some (UInt8.ofNat (65 + (k - 1) % 26) :: s) := by
        have : fits ([UInt8.ofNat (65 + (k - 1) % 26)].length + s.length) = true := Nat.ble_eq_true_of_le (by simp only [List.length_cons, List.length_nil, mxLen]; omega)
        simp only [cat, this, cond_true, List.cons_append, List.nil_append]
      simp only [hk', decide_true, brn_true, w1, t1, t2, w2, w3, w4, utf8_letter _ hm, hcat, obnd_some]
      have hlt : Nat.blt (textLM (UInt8.ofNat (65 + (k - 1) % 26) :: s, (((k - 1) / 26 : Nat) : Int))) (textLM (s, (k : Int))) = true := by
        simp only [textLM, Int.toNat_natCast]
        exact Nat.ble_eq_true_of_le (by omega)
      simp only [hlt, cond_true]
      unfold textLJ
      have hc2 : (decide (0 ≤ ((((k - 1) / 26 : Nat) : Int))) && decide ((((UInt8.ofNat (65 + (k - 1) % 26) :: s).length : Int)) + ((((k - 1) / 26 : Nat) : Int)) ≤ 100000)) = true := by
        simp only [Bool.and_eq_true, decide_eq_true_eq, List.length_cons]; omega
      simp only [hc2, cond_true, Int.toNat_natCast]
      rw [← h, nameOf_step hk]
      simp
def textLC : CutSpec tb := ⟨36, [(3, .val 9), (4, .val 3)], [((.exit 0), [(3, .val 9)])], [8, 9, 13, 14, 15, 16, 17, 18, 19, 20, 3, 10, 11, 12, 4], textLJ⟩
theorem textL_eq : ∀ back x, evLoop Tryd.prog tb [(36, itoaS)] [] (loopAt 36 Tryd.f29) textLC.ins textLC.outs back x = textLF back x := fun back x => by kernel_rfl
theorem textL_k : cutB Tryd.f29.ntmps textLC (loopAt 36 Tryd.f29) = true := by kernel_rfl
theorem textL_in : cutsOf ([] : List (CutSpec tb)) (loopAt 36 Tryd.f29) = [] := by kernel_rfl
theorem textL_cut : CutSound Tryd.prog tb Tryd.f29.ntmps (.loop (loopAt 36 Tryd.f29)) textLC := loop_ev mixed textL_k (.cons itoa_sound .nil) rfl textL_in .nil textLF textL_eq textLM textL_step
def textF (x : Cell) : Option (List UInt8) :=
  obnd (textLJ ([], IntKind.i64.wrap (x.Col + 1))) fun y => obnd (itoaF (IntKind.i64.wrap (x.Row + 1))) fun y_1 => obnd (cat y y_1) fun z => some z
def textS : FSpec tb := ⟨[(0, .val 25)], [(0, .val 9)], textF⟩
theorem text_eq : ∀ x, evFn Tryd.prog tb [(36, itoaS)] [textLC] Tryd.f29 textS.ins textS.outs x = textS.f x := fun x => by kernel_rfl
theorem text_k : fnK Tryd.f29 textS.ins textS.outs = true := by kernel_rfl
theorem text_in : cutsOf ([textLC] : List (CutSpec tb)) (bodyOf Tryd.f29) = [(36, .loop (loopAt 36 Tryd.f29))] := by kernel_rfl
theorem text_sound : FnSound Tryd.prog tb 29 textS := fn_cut mixed Tryd.func29 text_k (.cons itoa_sound .nil) rfl text_in (.cons rfl textL_cut rfl .nil) text_eq

/-! ### cells -/
def cellsIF (back : Cell × Cell × List (Cell) × Int × Int → Option (List (Cell))) (x : Cell × Cell × List (Cell) × Int × Int) : Option (List (Cell)) :=
  brn (decide (x.2.2.2.snd ≤ x.2.fst.Col))
    (obnd (app 16 x.2.2.fst [{ Row := x.2.2.2.fst, Col := x.2.2.2.snd }]) fun zs => back (x.fst, x.2.fst, zs, x.2.2.2.fst, IntKind.i64.wrap (x.2.2.2.snd + 1))) (some x.2.2.1)
/-- k cells of a row, from a column on -/
def rowOf (row : Int) : Int → Nat → List Cell
  | _, 0 => []
  | col, k + 1 => ⟨row, col⟩ :: rowOf row (col + 1) k
theorem rowOf_length (row : Int) : ∀ (k : Nat) (col : Int), (rowOf row col k).length = k
  | 0, _ => rfl
  | k + 1, col => by simp [rowOf, rowOf_length row k]
def cellsIJ (x : Cell × Cell × List Cell × Int × Int) : Option (List Cell) :=
  bif decide (-1000000 ≤ x.2.2.2.2) && decide (x.2.2.2.2 ≤ 1000000) && decide (x.2.1.Col ≤ 999999) && decide (x.2.2.1.length + (x.2.1.Col + 1 - x.2.2.2.2).toNat ≤ 1000000) then
    some (x.2.2.1 ++ rowOf x.2.2.2.1 x.2.2.2.2 (x.2.1.Col + 1 - x.2.2.2.2).toNat) else none
def cellsIM (x : Cell × Cell × List Cell × Int × Int) : Nat := (x.2.1.Col + 1 - x.2.2.2.2).toNat
theorem cellsI_step : ∀ x y, cellsIJ x = some y → cellsIF (fun x' => bif Nat.blt (cellsIM x') (cellsIM x) then cellsIJ x' else none) x = some y := by
  rintro ⟨a, b, out, row, col⟩ y h
  unfold cellsIJ at h
  simp only at h
  cases hc : (decide (-1000000 ≤ col) && decide (col ≤ 1000000) && decide (b.Col ≤ 999999) && decide (out.length + (b.Col + 1 - col).toNat ≤ 1000000)) with
  | false => rw [hc] at h; cases h
  | true =>
    rw [hc] at h
    simp only [cond_true, Option.some.injEq] at h
    simp only [Bool.and_eq_true, decide_eq_true_eq] at hc
    obtain ⟨⟨⟨h0, h1⟩, h2⟩, h3⟩ := hc
    unfold cellsIF
    simp only
    by_cases hk : col ≤ b.Col
    · obtain ⟨k, hk2⟩ : ∃ k : Nat, (b.Col + 1 - col).toNat = k + 1 := ⟨(b.Col - col).toNat, by omega⟩
      have hw : IntKind.i64.wrap (col + 1) = col + 1 := wrap_of_inR (by simp only [Ev.inR, lo, hi]; omega)
      have happ : app 16 out [({ Row := row, Col := col } : Cell)] = some (out ++ [{ Row := row, Col := col }]) := by
        have : Nat.ble ((out.length + [({ Row := row, Col := col } : Cell)].length) * 16) 140737488355328 = true := Nat.ble_eq_true_of_le (by simp only [List.length_cons, List.length_nil]; omega)
        simp only [app, this, cond_true]
      have hk3 : (b.Col + 1 - (col + 1)).toNat = k := by omega
      have hlt : Nat.blt (cellsIM (a, b, out ++ [({ Row := row, Col := col } : Cell)], row, col + 1)) (cellsIM (a, b, out, row, col)) = true := by
        simp only [cellsIM, hk2, hk3]
        exact Nat.ble_eq_true_of_le (by omega)
      simp only [hk, decide_true, brn_true, happ, obnd_some, hw, hlt, cond_true]
      unfold cellsIJ
      have hc2 : (decide (-1000000 ≤ col + 1) && decide (col + 1 ≤ 1000000) && decide (b.Col ≤ 999999) && decide ((out ++ [({ Row := row, Col := col } : Cell)]).length + (b.Col + 1 - (col + 1)).toNat ≤ 1000000)) = true := by
        simp only [Bool.and_eq_true, decide_eq_true_eq, List.length_append, List.length_cons, List.length_nil]; omega
      simp only [hc2, cond_true]
      rw [← h, hk2, hk3]
      simp [rowOf]
    · have hk2 : (b.Col + 1 - col).toNat = 0 := by omega
      simp only [hk, decide_false, brn_false]
      rw [← h, hk2]
      simp [rowOf]
def cellsIC : CutSpec tb := ⟨84, [(5, .ro 25), (6, .ro 25), (7, .own 25), (8, .val 3), (9, .val 3)], [((.exit 2), [(7, .own 25)])], [40, 41, 42, 43, 46, 47, 48, 49, 50, 51, 7, 44, 45, 9], cellsIJ⟩
theorem cellsI_eq : ∀ back x, evLoop Tryd.prog tb [(20, boundsS)] [] (loopAt 84 Tryd.f25) cellsIC.ins cellsIC.outs back x = cellsIF back x := fun back x => by kernel_rfl
theorem cellsI_k : cutB Tryd.f25.ntmps cellsIC (loopAt 84 Tryd.f25) = true := by kernel_rfl
theorem cellsI_in : cutsOf ([] : List (CutSpec tb)) (loopAt 84 Tryd.f25) = [] := by kernel_rfl
theorem cellsI_cut : CutSound Tryd.prog tb Tryd.f25.ntmps (.loop (loopAt 84 Tryd.f25)) cellsIC := loop_ev mixed cellsI_k (.cons bounds_sound .nil) rfl cellsI_in .nil cellsIF cellsI_eq cellsIM cellsI_step
def cellsOF (back : Cell × Cell × List (Cell) × Int → Option (List (Cell))) (x : Cell × Cell × List (Cell) × Int) : Option (List (Cell)) :=
  brn (decide (x.2.2.snd ≤ x.2.fst.Row)) (obnd (cellsIJ (x.fst, x.2.fst, x.2.2.fst, x.2.2.snd, x.fst.Col)) fun y => back (x.fst, x.2.fst, y, IntKind.i64.wrap (x.2.2.snd + 1)))
    (some x.2.2.1)
/-- k rows, from one on, each from a column on, w wide -/
def rowsOf (c : Int) (w : Nat) : Int → Nat → List Cell
  | _, 0 => []
  | row, k + 1 => rowOf row c w ++ rowsOf c w (row + 1) k
theorem rowsOf_length (c : Int) (w : Nat) : ∀ (k : Nat) (row : Int), (rowsOf c w row k).length = k * w
  | 0, _ => by simp [rowsOf]
  | k + 1, row => by simp [rowsOf, rowsOf_length c w k, rowOf_length, Nat.add_mul]; omega
def cellsOJ (x : Cell × Cell × List Cell × Int) : Option (List Cell) :=
  bif decide (-1000000 ≤ x.2.2.2) && decide (x.2.2.2 ≤ 1000000) && decide (x.2.1.Row ≤ 999999) && decide (-1000000 ≤ x.1.Col) && decide (x.1.Col ≤ 1000000) && decide (x.2.1.Col ≤ 999999) &&
      decide (x.2.2.1.length + (x.2.1.Row + 1 - x.2.2.2).toNat * (x.2.1.Col + 1 - x.1.Col).toNat ≤ 1000000) then
    some (x.2.2.1 ++ rowsOf x.1.Col (x.2.1.Col + 1 - x.1.Col).toNat x.2.2.2 (x.2.1.Row + 1 - x.2.2.2).toNat) else none
def cellsOM (x : Cell × Cell × List Cell × Int) : Nat := (x.2.1.Row + 1 - x.2.2.2).toNat
theorem cellsO_step : ∀ x y, cellsOJ x = some y → cellsOF (fun x' => bif Nat.blt (cellsOM x') (cellsOM x) then cellsOJ x' else none) x = some y := by
  rintro ⟨a, b, out, row⟩ y h
  unfold cellsOJ at h
  simp only at h
  cases hc : (decide (-1000000 ≤ row) && decide (row ≤ 1000000) && decide (b.Row ≤ 999999) && decide (-1000000 ≤ a.Col) && decide (a.Col ≤ 1000000) && decide (b.Col ≤ 999999) &&
      decide (out.length + (b.Row + 1 - row).toNat * (b.Col + 1 - a.Col).toNat ≤ 1000000)) with
  | false => rw [hc] at h; cases h
  | true =>
    rw [hc] at h
    simp only [cond_true, Option.some.injEq] at h
    simp only [Bool.and_eq_true, decide_eq_true_eq] at hc
    obtain ⟨⟨⟨⟨⟨⟨h0, h1⟩, h2⟩, h3⟩, h4⟩, h5⟩, h6⟩ := hc
    unfold cellsOF
    simp only
    by_cases hk : row ≤ b.Row
    · obtain ⟨k, hk2⟩ : ∃ k : Nat, (b.Row + 1 - row).toNat = k + 1 := ⟨(b.Row - row).toNat, by omega⟩
      have hw : IntKind.i64.wrap (row + 1) = row + 1 := wrap_of_inR (by simp only [Ev.inR, lo, hi]; omega)
      have hk3 : (b.Row + 1 - (row + 1)).toNat = k := by omega
      rw [hk2, Nat.add_mul, Nat.one_mul] at h6
      have hin : cellsIJ (a, b, out, row, a.Col) = some (out ++ rowOf row a.Col (b.Col + 1 - a.Col).toNat) := by
        unfold cellsIJ
        have : (decide (-1000000 ≤ a.Col) && decide (a.Col ≤ 1000000) && decide (b.Col ≤ 999999) && decide (out.length + (b.Col + 1 - a.Col).toNat ≤ 1000000)) = true := by
          simp only [Bool.and_eq_true, decide_eq_true_eq]; omega
        simp only [this, cond_true]
      have hlt : Nat.blt (cellsOM (a, b, out ++ rowOf row a.Col (b.Col + 1 - a.Col).toNat, row + 1)) (cellsOM (a, b, out, row)) = true := by
        simp only [cellsOM, hk2, hk3]
        exact Nat.ble_eq_true_of_le (by omega)
      simp only [hk, decide_true, brn_true, hin, obnd_some, hw, hlt, cond_true]
      unfold cellsOJ
      have hc2 : (decide (-1000000 ≤ row + 1) && decide (row + 1 ≤ 1000000) && decide (b.Row ≤ 999999) && decide (-1000000 ≤ a.Col) && decide (a.Col ≤ 1000000) && decide (b.Col ≤ 999999) &&
          decide ((out ++ rowOf row a.Col (b.Col + 1 - a.Col).toNat).length + (b.Row + 1 - (row + 1)).toNat * (b.Col + 1 - a.Col).toNat ≤ 1000000)) = true := by
        simp only [Bool.and_eq_true, decide_eq_true_eq, List.length_append, rowOf_length, hk3]; omega
      simp only [hc2, cond_true]
      rw [← h, hk2, hk3]
      simp [rowsOf]
    · have hk2 : (b.Row + 1 - row).toNat = 0 := by omega
      simp only [hk, decide_false, brn_false]
      rw [← h, hk2]
      simp [rowsOf]
def cellsOC : CutSpec tb := ⟨60, [(5, .ro 25), (6, .ro 25), (7, .own 25), (8, .val 3)], [((.exit 0), [(7, .own 25)])], [32, 33, 34, 35, 38, 39, 9, 40, 41, 42, 43, 46, 47, 48, 49, 50, 51, 7, 44, 45, 36, 37, 8], cellsOJ⟩
theorem cellsO_eq : ∀ back x, evLoop Tryd.prog tb [(20, boundsS)] [cellsIC] (loopAt 60 Tryd.f25) cellsOC.ins cellsOC.outs back x = cellsOF back x := fun back x => by kernel_rfl
theorem cellsO_k : cutB Tryd.f25.ntmps cellsOC (loopAt 60 Tryd.f25) = true := by kernel_rfl
theorem cellsO_in : cutsOf ([cellsIC] : List (CutSpec tb)) (loopAt 60 Tryd.f25) = [(84, .loop (loopAt 84 Tryd.f25))] := by kernel_rfl
theorem cellsO_cut : CutSound Tryd.prog tb Tryd.f25.ntmps (.loop (loopAt 60 Tryd.f25)) cellsOC := loop_ev mixed cellsO_k (.cons bounds_sound .nil) rfl cellsO_in (.cons rfl cellsI_cut rfl .nil) cellsOF cellsO_eq cellsOM cellsO_step
def cellsF (x : Area × Cell) : Option (List Cell) :=
  obnd (boundsF x) fun y =>
    brn (decide (4096 < IntKind.i64.wrap (IntKind.i64.wrap (IntKind.i64.wrap (y.snd.Row - y.fst.Row) + 1) * IntKind.i64.wrap (IntKind.i64.wrap (y.snd.Col - y.fst.Col) + 1))))
      (some []) (obnd (cellsOJ (y.fst, y.snd, [], y.fst.Row)) fun y => some y)
def cellsS : FSpec tb := ⟨[(0, .val 42), (1, .val 25)], [(0, .val 52)], cellsF⟩
theorem cells_eq : ∀ x, evFn Tryd.prog tb [(20, boundsS)] [cellsOC] Tryd.f25 cellsS.ins cellsS.outs x = cellsS.f x := fun x => by kernel_rfl
theorem cells_k : fnK Tryd.f25 cellsS.ins cellsS.outs = true := by kernel_rfl
theorem cells_in : cutsOf ([cellsOC] : List (CutSpec tb)) (bodyOf Tryd.f25) = [(60, .loop (loopAt 60 Tryd.f25))] := by kernel_rfl
theorem cells_sound : FnSound Tryd.prog tb 25 cellsS := fn_cut mixed Tryd.func25 cells_k (.cons bounds_sound .nil) rfl cells_in (.cons rfl cellsO_cut rfl .nil) cells_eq

/-! ### icells -/
def icellsIF (back : Cell × Cell × List (Cell) × Int × Int → Option (List (Cell))) (x : Cell × Cell × List (Cell) × Int × Int) : Option (List (Cell)) :=
  brn (decide (x.2.2.2.snd ≤ x.2.fst.Col))
    (obnd (app 16 x.2.2.fst [{ Row := x.2.2.2.fst, Col := x.2.2.2.snd }]) fun zs => back (x.fst, x.2.fst, zs, x.2.2.2.fst, IntKind.i64.wrap (x.2.2.2.snd + 1))) (some x.2.2.1)
def icellsIJ (x : Cell × Cell × List Cell × Int × Int) : Option (List Cell) := cellsIJ x
def icellsIM (x : Cell × Cell × List Cell × Int × Int) : Nat := cellsIM x
theorem icellsI_step : ∀ x y, icellsIJ x = some y → icellsIF (fun x' => bif Nat.blt (icellsIM x') (icellsIM x) then icellsIJ x' else none) x = some y := cellsI_step
def icellsIC : CutSpec tb := ⟨84, [(5, .ro 34), (6, .ro 34), (7, .own 34), (8, .val 3), (9, .val 3)], [((.exit 2), [(7, .own 34)])], [30, 31, 32, 33, 36, 37, 38, 39, 40, 41, 7, 34, 35, 9], icellsIJ⟩
theorem icellsI_eq : ∀ back x, evLoop Tryd.prog tb [(21, iboundsS), (35, isizeS)] [] (loopAt 84 Tryd.f26) icellsIC.ins icellsIC.outs back x = icellsIF back x := fun back x => by kernel_rfl
theorem icellsI_k : cutB Tryd.f26.ntmps icellsIC (loopAt 84 Tryd.f26) = true := by kernel_rfl
theorem icellsI_in : cutsOf ([] : List (CutSpec tb)) (loopAt 84 Tryd.f26) = [] := by kernel_rfl
theorem icellsI_cut : CutSound Tryd.prog tb Tryd.f26.ntmps (.loop (loopAt 84 Tryd.f26)) icellsIC := loop_ev mixed icellsI_k (.cons ibounds_sound (.cons isize_sound .nil)) rfl icellsI_in .nil icellsIF icellsI_eq icellsIM icellsI_step
def icellsOF (back : Cell × Cell × List (Cell) × Int → Option (List (Cell))) (x : Cell × Cell × List (Cell) × Int) : Option (List (Cell)) :=
  brn (decide (x.2.2.snd ≤ x.2.fst.Row)) (obnd (icellsIJ (x.fst, x.2.fst, x.2.2.fst, x.2.2.snd, x.fst.Col)) fun y => back (x.fst, x.2.fst, y, IntKind.i64.wrap (x.2.2.snd + 1)))
    (some x.2.2.1)
def icellsOJ (x : Cell × Cell × List Cell × Int) : Option (List Cell) := cellsOJ x
def icellsOM (x : Cell × Cell × List Cell × Int) : Nat := cellsOM x
theorem icellsO_step : ∀ x y, icellsOJ x = some y → icellsOF (fun x' => bif Nat.blt (icellsOM x') (icellsOM x) then icellsOJ x' else none) x = some y := cellsO_step
def icellsOC : CutSpec tb := ⟨60, [(5, .ro 34), (6, .ro 34), (7, .own 34), (8, .val 3)], [((.exit 0), [(7, .own 34)])], [22, 23, 24, 25, 28, 29, 9, 30, 31, 32, 33, 36, 37, 38, 39, 40, 41, 7, 34, 35, 26, 27, 8], icellsOJ⟩
theorem icellsO_eq : ∀ back x, evLoop Tryd.prog tb [(21, iboundsS), (35, isizeS)] [icellsIC] (loopAt 60 Tryd.f26) icellsOC.ins icellsOC.outs back x = icellsOF back x := fun back x => by kernel_rfl
theorem icellsO_k : cutB Tryd.f26.ntmps icellsOC (loopAt 60 Tryd.f26) = true := by kernel_rfl
theorem icellsO_in : cutsOf ([icellsIC] : List (CutSpec tb)) (loopAt 60 Tryd.f26) = [(84, .loop (loopAt 84 Tryd.f26))] := by kernel_rfl
theorem icellsO_cut : CutSound Tryd.prog tb Tryd.f26.ntmps (.loop (loopAt 60 Tryd.f26)) icellsOC := loop_ev mixed icellsO_k (.cons ibounds_sound (.cons isize_sound .nil)) rfl icellsO_in (.cons rfl icellsI_cut rfl .nil) icellsOF icellsO_eq icellsOM icellsO_step
def icellsF (x : Area × Cell) : Option (List Cell) :=
  obnd (iboundsF x) fun y => obnd (isizeF x) fun y_1 => brn (decide (4096 < y_1)) (some []) (obnd (icellsOJ (y.fst, y.snd, [], y.fst.Row)) fun y => some y)
def icellsS : FSpec tb := ⟨[(0, .val 48), (1, .val 34)], [(0, .val 54)], icellsF⟩
theorem icells_eq : ∀ x, evFn Tryd.prog tb [(21, iboundsS), (35, isizeS)] [icellsOC] Tryd.f26 icellsS.ins icellsS.outs x = icellsS.f x := fun x => by kernel_rfl
theorem icells_k : fnK Tryd.f26 icellsS.ins icellsS.outs = true := by kernel_rfl
theorem icells_in : cutsOf ([icellsOC] : List (CutSpec tb)) (bodyOf Tryd.f26) = [(60, .loop (loopAt 60 Tryd.f26))] := by kernel_rfl
theorem icells_sound : FnSound Tryd.prog tb 26 icellsS := fn_cut mixed Tryd.func26 icells_k (.cons ibounds_sound (.cons isize_sound .nil)) rfl icells_in (.cons rfl icellsO_cut rfl .nil) icells_eq

/-! ### idec -/
def idecLF (back : Int × List UInt8 → Option (List UInt8)) (x : Int × List UInt8) : Option (List UInt8) :=
  brn (decide (10 ≤ x.fst))
    (obnd (cat [UInt8.ofNat (IntKind.u8.wrap (IntKind.i64.wrap (48 + (IntKind.i64.wrap (x.fst.tdiv 10)).tmod 10))).toNat] x.snd) fun z => back (IntKind.i64.wrap (x.fst.tdiv 10), z))
    (some x.2)
/-- the digits ahead of the last one -/
def aheadDigits (n : Nat) : List UInt8 := if n < 10 then [] else Lib.decDigits (n / 10)
theorem digits_last (n : Nat) : Lib.decDigits n = aheadDigits n ++ [UInt8.ofNat (48 + n % 10)] := by
  unfold aheadDigits
  by_cases h : n < 10
  · rw [Lib.decDigits_one h, if_pos h, Nat.mod_eq_of_lt h]; rfl
  · rw [if_neg h]
    conv => lhs; rw [Lib.decDigits]
    rw [dif_neg h]
def idecLJ (x : Int × List UInt8) : Option (List UInt8) :=
  bif decide (0 ≤ x.1) && decide ((x.2.length : Int) + x.1 ≤ 10000000) then some (aheadDigits x.1.toNat ++ x.2) else none
def idecLM (x : Int × List UInt8) : Nat := x.1.toNat
theorem byte_digit (k : Nat) (h : k < 10) : UInt8.ofNat (IntKind.u8.wrap (IntKind.i64.wrap (48 + (k : Int)))).toNat = UInt8.ofNat (48 + k) := by
  rw [wrap_of_inR (k := .i64) (by simp only [Ev.inR, lo, hi]; omega), wrap_of_inR (by simp only [Ev.inR, lo, hi]; omega)]
  congr 1
theorem idecL_step : ∀ x y, idecLJ x = some y → idecLF (fun x' => bif Nat.blt (idecLM x') (idecLM x) then idecLJ x' else none) x = some y := by
  rintro ⟨n, s⟩ y h
  unfold idecLJ at h
  simp only at h
  cases hc : (decide (0 ≤ n) && decide ((s.length : Int) + n ≤ 10000000)) with
  | false => simp [hc] at h
  | true =>
    simp only [hc, cond_true, Option.some.injEq] at h
    simp only [Bool.and_eq_true, decide_eq_true_eq] at hc
    obtain ⟨h0, h1⟩ := hc
    obtain ⟨k, rfl⟩ := Int.eq_ofNat_of_zero_le h0
    simp only [Int.toNat_natCast] at h
    unfold idecLF
    simp only
    by_cases hk : 10 ≤ k
    · have hk' : (10 : Int) ≤ (k : Int) := by omega
      have t2 : ((k : Int)).tdiv 10 = ((k / 10 : Nat) : Int) := by
        rw [Int.tdiv_eq_ediv_of_nonneg (by omega)]; omega
      have w4 : IntKind.i64.wrap ((k / 10 : Nat) : Int) = ((k / 10 : Nat) : Int) := wrap_of_inR (by simp only [Ev.inR, lo, hi]; omega)
      have t1 : (((k / 10 : Nat) : Int)).tmod 10 = ((k / 10 % 10 : Nat) : Int) := by
        rw [Int.tmod_eq_emod_of_nonneg (by omega)]; omega
      have hcat : cat [UInt8.ofNat (48 + k / 10 % 10)] s = some (UInt8.ofNat (48 + k / 10 % 10) :: s) := by
        have : fits ([UInt8.ofNat (48 + k / 10 % 10)].length + s.length) = true := Nat.ble_eq_true_of_le (by simp only [List.length_cons, List.length_nil, mxLen]; omega)
        simp only [cat, this, cond_true, List.cons_append, List.nil_append]
      simp only [hk', decide_true, brn_true, t2, w4, t1, byte_digit _ (Nat.mod_lt _ (by omega : 10 > 0)), hcat, obnd_some]
      have hlt : Nat.blt (idecLM (((k / 10 : Nat) : Int), UInt8.ofNat (48 + k / 10 % 10) :: s)) (idecLM ((k : Int), s)) = true := by
        simp only [idecLM, Int.toNat_natCast]
        exact Nat.ble_eq_true_of_le (by omega)
      simp only [hlt, cond_true]
      unfold idecLJ
      have hc2 : (decide (0 ≤ ((k / 10 : Nat) : Int)) && decide ((((UInt8.ofNat (48 + k / 10 % 10) :: s).length : Int)) + ((k / 10 : Nat) : Int) ≤ 10000000)) = true := by
        simp only [Bool.and_eq_true, decide_eq_true_eq, List.length_cons]; omega
      simp only [hc2, cond_true, Int.toNat_natCast]
      rw [← h]
      have : aheadDigits k = Lib.decDigits (k / 10) := by unfold aheadDigits; rw [if_neg (by omega)]
      rw [this, digits_last (k / 10)]
      simp
    · have hk' : ¬ (10 : Int) ≤ (k : Int) := by omega
      simp only [hk', decide_false, brn_false]
      rw [← h]
      have : aheadDigits k = [] := by unfold aheadDigits; rw [if_pos (by omega)]
      rw [this]; rfl
def idecLC : CutSpec tb := ⟨60, [(0, .val 3), (3, .val 9)], [((.exit 0), [(3, .val 9)])], [26, 27, 28, 29, 0, 30, 31, 32, 33, 34, 35, 36, 37, 3], idecLJ⟩
theorem idecL_eq : ∀ back x, evLoop Tryd.prog tb [] [] (loopAt 60 Tryd.f38) idecLC.ins idecLC.outs back x = idecLF back x := fun back x => by kernel_rfl
theorem idecL_k : cutB Tryd.f38.ntmps idecLC (loopAt 60 Tryd.f38) = true := by kernel_rfl
theorem idecL_in : cutsOf ([] : List (CutSpec tb)) (loopAt 60 Tryd.f38) = [] := by kernel_rfl
theorem idecL_cut : CutSound Tryd.prog tb Tryd.f38.ntmps (.loop (loopAt 60 Tryd.f38)) idecLC := loop_ev mixed idecL_k .nil rfl idecL_in .nil idecLF idecL_eq idecLM idecL_step
def idecF (x : Int) : Option (List UInt8) :=
  brn (decide (x < 0)) (brn (decide (-10 < x)) none none) (obnd (idecLJ (x, [UInt8.ofNat (IntKind.u8.wrap (IntKind.i64.wrap (48 + x.tmod 10))).toNat])) fun y => some y)
def idecS : FSpec tb := ⟨[(0, .val 3)], [(0, .val 9)], idecF⟩
theorem idec_eq : ∀ x, evFn Tryd.prog tb [] [idecLC] Tryd.f38 idecS.ins idecS.outs x = idecS.f x := fun x => by kernel_rfl
theorem idec_k : fnK Tryd.f38 idecS.ins idecS.outs = true := by kernel_rfl
theorem idec_in : cutsOf ([idecLC] : List (CutSpec tb)) (bodyOf Tryd.f38) = [(60, .loop (loopAt 60 Tryd.f38))] := by kernel_rfl
theorem idec_sound : FnSound Tryd.prog tb 38 idecS := fn_cut mixed Tryd.func38 idec_k .nil rfl idec_in (.cons rfl idecL_cut rfl .nil) idec_eq

/-! ### itext -/
def itextF (x : Cell) : Option (List UInt8) :=
  obnd (ilettersF x.Col) fun y => obnd (idecF (IntKind.i64.wrap (x.Row + 1))) fun y_1 => obnd (cat y y_1) fun z => some z
def itextS : FSpec tb := ⟨[(0, .val 34)], [(0, .val 9)], itextF⟩
theorem itext_eq : ∀ x, evFn Tryd.prog tb [(37, ilettersS), (38, idecS)] [] Tryd.f30 itextS.ins itextS.outs x = itextS.f x := fun x => by kernel_rfl
theorem itext_k : fnK Tryd.f30 itextS.ins itextS.outs = true := by kernel_rfl
theorem itext_sound : FnSound Tryd.prog tb 30 itextS := fn_ev mixed Tryd.func30 itext_k (.cons iletters_sound (.cons idec_sound .nil)) rfl itext_eq
end Go.Proofs.YtjbgpcpamdbjlaaDoor
