/- A cell's name read, by the document. -/
import Derived.Test.YtjbgpcpamdbjlaaDoorRS
namespace Go.Proofs.YtjbgpcpamdbjlaaDoor
open Go Go.Ev


/-! ### iparse -/
def iparseAF (back : List UInt8 × Int × Int → Option (Int × Int)) (x : List UInt8 × Int × Int) : Option (Int × Int) :=
  brn (decide (x.2.fst < (↑x.fst.length : Int)))
    (obnd (idx x.fst x.2.fst) fun y =>
      brn (decide (65 ≤ (↑y.toNat : Int)))
        (obnd (idx x.fst x.2.fst) fun y =>
          brn (decide ((↑y.toNat : Int) ≤ 90))
            (brn (decide (x.2.snd < 100000))
              (obnd (idx x.fst x.2.fst) fun y =>
                back
                  (x.fst, IntKind.i64.wrap (x.2.fst + 1),
                    IntKind.i64.wrap (IntKind.i64.wrap (IntKind.i64.wrap (26 * x.2.snd) + IntKind.i64.wrap (IntKind.u8.wrap ((↑y.toNat : Int) - 65))) + 1)))
              (back (x.fst, IntKind.i64.wrap (x.2.fst + 1), x.2.snd)))
            (some x.2))
        (some x.2))
    (some x.2)
/-- the letters ahead: how many, and their column -/
def upA : List UInt8 → Int → Nat × Int
  | [], c => (0, c)
  | b :: l, c => if 65 ≤ b.toNat ∧ b.toNat ≤ 90 then ((upA l (if c < 100000 then 26 * c + ((b.toNat : Int) - 65) + 1 else c)).1 + 1, (upA l (if c < 100000 then 26 * c + ((b.toNat : Int) - 65) + 1 else c)).2) else (0, c)
def iparseAJ (x : List UInt8 × Int × Int) : Option (Int × Int) :=
  bif decide (0 ≤ x.2.1) && decide (x.2.1 ≤ (x.1.length : Int)) && decide (x.1.length ≤ 1000000) && decide (0 ≤ x.2.2) && decide (x.2.2 ≤ 10000000) then
    some (x.2.1 + ((upA (x.1.drop x.2.1.toNat) x.2.2).1 : Int), (upA (x.1.drop x.2.1.toNat) x.2.2).2) else none
def iparseAM (x : List UInt8 × Int × Int) : Nat := x.1.length - x.2.1.toNat
theorem idx_at {s : List UInt8} {k : Nat} (h : k < s.length) : idx s (k : Int) = some s[k] := by simp [idx, h]
theorem u8_sub {b : UInt8} {n : Nat} (h : n ≤ b.toNat) (h2 : b.toNat ≤ 255) : IntKind.i64.wrap (IntKind.u8.wrap ((b.toNat : Int) - (n : Int))) = (b.toNat : Int) - (n : Int) := by
  rw [wrap_of_inR (k := .u8) (by simp only [Ev.inR, lo, hi]; omega), wrap_of_inR (by simp only [Ev.inR, lo, hi]; omega)]
theorem byte_le (b : UInt8) : b.toNat ≤ 255 := by have := b.toNat_lt; omega
theorem iparseA_step : ∀ x y, iparseAJ x = some y → iparseAF (fun x' => bif Nat.blt (iparseAM x') (iparseAM x) then iparseAJ x' else none) x = some y := by
  rintro ⟨s, n, c⟩ y h
  unfold iparseAJ at h
  simp only at h
  cases hc : (decide (0 ≤ n) && decide (n ≤ (s.length : Int)) && decide (s.length ≤ 1000000) && decide (0 ≤ c) && decide (c ≤ 10000000)) with
  | false => rw [hc] at h; cases h
  | true =>
    rw [hc] at h
    simp only [cond_true, Option.some.injEq] at h
    simp only [Bool.and_eq_true, decide_eq_true_eq] at hc
    obtain ⟨⟨⟨⟨h0, h1⟩, h2⟩, h3⟩, h4⟩ := hc
    obtain ⟨k, rfl⟩ := Int.eq_ofNat_of_zero_le h0
    simp only [Int.toNat_natCast] at h
    unfold iparseAF
    simp only
    by_cases hk : k < s.length
    · have hk' : ((k : Int) < (s.length : Int)) := by omega
      have hd : s.drop k = s[k] :: s.drop (k + 1) := List.drop_eq_getElem_cons hk
      have hw : IntKind.i64.wrap ((k : Int) + 1) = ((k + 1 : Nat) : Int) := by
        rw [wrap_of_inR (by simp only [Ev.inR, lo, hi]; omega)]; omega
      rw [hd] at h
      simp only [hk', decide_true, brn_true, idx_at hk, obnd_some, hw]
      have hb := byte_le s[k]
      generalize s[k] = b at *
      by_cases hb1 : 65 ≤ b.toNat
      · by_cases hb2 : b.toNat ≤ 90
        · have e1 : (65 : Int) ≤ (b.toNat : Int) := by omega
          have e2 : (b.toNat : Int) ≤ 90 := by omega
          have hm : ∀ c', Nat.blt (iparseAM (s, ((k + 1 : Nat) : Int), c')) (iparseAM (s, (k : Int), c)) = true := fun c' => by
            simp only [iparseAM, Int.toNat_natCast]
            exact Nat.ble_eq_true_of_le (by omega)
          have hj : ∀ c', 0 ≤ c' → c' ≤ 10000000 → iparseAJ (s, ((k + 1 : Nat) : Int), c') = some (((k + 1 : Nat) : Int) + ((upA (s.drop (k + 1)) c').1 : Int), (upA (s.drop (k + 1)) c').2) := fun c' g1 g2 => by
            unfold iparseAJ
            have : (decide (0 ≤ (((k + 1 : Nat) : Int))) && decide ((((k + 1 : Nat) : Int)) ≤ (s.length : Int)) && decide (s.length ≤ 1000000) && decide (0 ≤ c') && decide (c' ≤ 10000000)) = true := by
              simp only [Bool.and_eq_true, decide_eq_true_eq]; omega
            simp only [this, cond_true, Int.toNat_natCast]
          simp only [upA, hb1, hb2, and_self, if_true] at h
          by_cases hcc : c < 100000
          · have e3 := u8_sub (b := b) (n := 65) hb1 hb
            have w1 : IntKind.i64.wrap (26 * c) = 26 * c := wrap_of_inR (by simp only [Ev.inR, lo, hi]; omega)
            have e3' : IntKind.i64.wrap (IntKind.u8.wrap ((b.toNat : Int) - 65)) = (b.toNat : Int) - 65 := e3
            have w2 : IntKind.i64.wrap (26 * c + ((b.toNat : Int) - 65)) = 26 * c + ((b.toNat : Int) - 65) := wrap_of_inR (by simp only [Ev.inR, lo, hi]; omega)
            have w3 : IntKind.i64.wrap (26 * c + ((b.toNat : Int) - 65) + 1) = 26 * c + ((b.toNat : Int) - 65) + 1 := wrap_of_inR (by simp only [Ev.inR, lo, hi]; omega)
            simp only [e1, e2, hcc, decide_true, brn_true, w1, e3', w2, w3, hm, cond_true]
            rw [hj _ (by omega) (by omega), ← h]
            simp only [hcc, if_true]
            congr 2
            omega
          · simp only [e1, e2, hcc, decide_true, decide_false, brn_true, brn_false, hm, cond_true]
            rw [hj _ (by omega) (by omega), ← h]
            simp only [hcc, if_false]
            congr 2
            omega
        · have e1 : (65 : Int) ≤ (b.toNat : Int) := by omega
          have e2 : ¬ (b.toNat : Int) ≤ 90 := by omega
          simp only [e1, e2, decide_true, decide_false, brn_true, brn_false]
          rw [← h]
          simp [upA, hb2]
      · have e1 : ¬ (65 : Int) ≤ (b.toNat : Int) := by omega
        simp only [e1, decide_false, brn_false]
        rw [← h]
        simp [upA, hb1]
    · have hk' : ¬ ((k : Int) < (s.length : Int)) := by omega
      have hd : s.drop k = [] := List.drop_eq_nil_of_le (by omega)
      simp only [hk', decide_false, brn_false]
      rw [← h, hd]
      simp [upA]
def iparseAC : CutSpec tb := ⟨36, [(0, .val 9), (4, .val 3), (5, .val 3)], [((.exit 0), [(4, .val 3), (5, .val 3)])], [9, 10, 11, 12, 13, 14, 15, 16, 17, 18, 19, 20, 21, 22, 23, 24, 25, 26, 27, 28, 29, 30, 31, 32, 33, 34, 35, 5, 36, 37, 4], iparseAJ⟩
theorem iparseA_eq : ∀ back x, evLoop Tryd.prog tb [(14, igoodS)] [] (loopAt 36 Tryd.f28) iparseAC.ins iparseAC.outs back x = iparseAF back x := fun back x => by kernel_rfl
theorem iparseA_k : cutB Tryd.f28.ntmps iparseAC (loopAt 36 Tryd.f28) = true := by kernel_rfl
theorem iparseA_in : cutsOf ([] : List (CutSpec tb)) (loopAt 36 Tryd.f28) = [] := by kernel_rfl
theorem iparseA_cut : CutSound Tryd.prog tb Tryd.f28.ntmps (.loop (loopAt 36 Tryd.f28)) iparseAC := loop_ev mixed iparseA_k (.cons igood_sound .nil) rfl iparseA_in .nil iparseAF iparseA_eq iparseAM iparseA_step
def iparseBF (back : List UInt8 × Cell × Int × Int → Option (((Int) × Cell) ⊕ ((Int) × Cell))) (x : List UInt8 × Cell × Int × Int) : Option (((Int) × Cell) ⊕ ((Int) × Cell)) :=
  brn (decide (x.2.2.snd < (↑x.fst.length : Int)))
    (obnd (idx x.fst x.2.2.snd) fun y =>
      brn (decide ((↑y.toNat : Int) < 48)) (some (Sum.inr (2, { Row := 0, Col := 0 })))
        (obnd (idx x.fst x.2.2.snd) fun y =>
          brn (decide (57 < (↑y.toNat : Int))) (some (Sum.inr (2, { Row := 0, Col := 0 })))
            (brn (decide (x.2.2.fst < 1000000))
              (obnd (idx x.fst x.2.2.snd) fun y =>
                back
                  (x.fst, x.2.fst, IntKind.i64.wrap (IntKind.i64.wrap (10 * x.2.2.fst) + IntKind.i64.wrap (IntKind.u8.wrap ((↑y.toNat : Int) - 48))),
                    IntKind.i64.wrap (x.2.2.snd + 1)))
              (back (x.fst, x.2.fst, x.2.2.fst, IntKind.i64.wrap (x.2.2.snd + 1))))))
    (some (Sum.inl (x.2.2.fst, x.2.fst)))
/-- a number's digits, or that there is another byte among them -/
def digB : List UInt8 → Int → Option Int
  | [], r => some r
  | b :: l, r => if b.toNat < 48 ∨ 57 < b.toNat then none else digB l (if r < 1000000 then 10 * r + ((b.toNat : Int) - 48) else r)
def iparseBJ (x : List UInt8 × Cell × Int × Int) : Option ((Int × Cell) ⊕ (Int × Cell)) :=
  bif decide (0 ≤ x.2.2.2) && decide (x.2.2.2 ≤ (x.1.length : Int)) && decide (x.1.length ≤ 1000000) && decide (0 ≤ x.2.2.1) && decide (x.2.2.1 ≤ 20000000) then
    some (match digB (x.1.drop x.2.2.2.toNat) x.2.2.1 with | some r => .inl (r, x.2.1) | none => .inr (2, ⟨0, 0⟩)) else none
def iparseBM (x : List UInt8 × Cell × Int × Int) : Nat := x.1.length - x.2.2.2.toNat
theorem iparseB_step : ∀ x y, iparseBJ x = some y → iparseBF (fun x' => bif Nat.blt (iparseBM x') (iparseBM x) then iparseBJ x' else none) x = some y := by
  rintro ⟨s, a, c, n⟩ y h
  unfold iparseBJ at h
  simp only at h
  cases hc : (decide (0 ≤ n) && decide (n ≤ (s.length : Int)) && decide (s.length ≤ 1000000) && decide (0 ≤ c) && decide (c ≤ 20000000)) with
  | false => rw [hc] at h; cases h
  | true =>
    rw [hc] at h
    simp only [cond_true, Option.some.injEq] at h
    simp only [Bool.and_eq_true, decide_eq_true_eq] at hc
    obtain ⟨⟨⟨⟨h0, h1⟩, h2⟩, h3⟩, h4⟩ := hc
    obtain ⟨k, rfl⟩ := Int.eq_ofNat_of_zero_le h0
    simp only [Int.toNat_natCast] at h
    unfold iparseBF
    simp only
    by_cases hk : k < s.length
    · have hk' : ((k : Int) < (s.length : Int)) := by omega
      have hd : s.drop k = s[k] :: s.drop (k + 1) := List.drop_eq_getElem_cons hk
      have hw : IntKind.i64.wrap ((k : Int) + 1) = ((k + 1 : Nat) : Int) := by
        rw [wrap_of_inR (by simp only [Ev.inR, lo, hi]; omega)]; omega
      rw [hd] at h
      simp only [hk', decide_true, brn_true, idx_at hk, obnd_some, hw]
      have hb := byte_le s[k]
      generalize s[k] = b at *
      by_cases hb1 : b.toNat < 48
      · have e1 : (b.toNat : Int) < 48 := by omega
        simp only [e1, decide_true, brn_true]
        rw [← h]
        simp [digB, hb1]
      · have e1 : ¬ (b.toNat : Int) < 48 := by omega
        by_cases hb2 : 57 < b.toNat
        · have e2 : (57 : Int) < (b.toNat : Int) := by omega
          simp only [e1, e2, decide_true, decide_false, brn_true, brn_false]
          rw [← h]
          simp [digB, hb2]
        · have e2 : ¬ (57 : Int) < (b.toNat : Int) := by omega
          have hm : ∀ c', Nat.blt (iparseBM (s, a, c', ((k + 1 : Nat) : Int))) (iparseBM (s, a, c, (k : Int))) = true := fun c' => by
            simp only [iparseBM, Int.toNat_natCast]
            exact Nat.ble_eq_true_of_le (by omega)
          have hj : ∀ c', 0 ≤ c' → c' ≤ 20000000 → iparseBJ (s, a, c', ((k + 1 : Nat) : Int)) = some (match digB (s.drop (k + 1)) c' with | some r => .inl (r, a) | none => .inr (2, ⟨0, 0⟩)) := fun c' g1 g2 => by
            unfold iparseBJ
            have : (decide (0 ≤ (((k + 1 : Nat) : Int))) && decide ((((k + 1 : Nat) : Int)) ≤ (s.length : Int)) && decide (s.length ≤ 1000000) && decide (0 ≤ c') && decide (c' ≤ 20000000)) = true := by
              simp only [Bool.and_eq_true, decide_eq_true_eq]; omega
            simp only [this, cond_true, Int.toNat_natCast]
          simp only [digB, hb1, hb2, or_self, if_false] at h
          by_cases hcc : c < 1000000
          · have e3' : IntKind.i64.wrap (IntKind.u8.wrap ((b.toNat : Int) - 48)) = (b.toNat : Int) - 48 := u8_sub (b := b) (n := 48) (by omega) hb
            have w1 : IntKind.i64.wrap (10 * c) = 10 * c := wrap_of_inR (by simp only [Ev.inR, lo, hi]; omega)
            have w2 : IntKind.i64.wrap (10 * c + ((b.toNat : Int) - 48)) = 10 * c + ((b.toNat : Int) - 48) := wrap_of_inR (by simp only [Ev.inR, lo, hi]; omega)
            simp only [e1, e2, hcc, decide_true, decide_false, brn_true, brn_false, w1, e3', w2, hm, cond_true]
            rw [hj _ (by omega) (by omega), ← h]
            simp only [hcc, if_true]
          · simp only [e1, e2, hcc, decide_false, brn_false, hm, cond_true]
            rw [hj _ (by omega) (by omega), ← h]
            simp only [hcc, if_false]
    · have hk' : ¬ ((k : Int) < (s.length : Int)) := by omega
      have hd : s.drop k = [] := List.drop_eq_nil_of_le (by omega)
      simp only [hk', decide_false, brn_false]
      rw [← h, hd]
      simp [digB]
def iparseBC : CutSpec tb := ⟨100, [(0, .val 9), (2, .ref 34), (6, .val 3), (7, .val 3)], [((.exit 2), [(6, .val 3)]), (.ret, [(3, .val 3)])], [54, 55, 56, 57, 60, 61, 62, 63, 64, 65, 66, 67, 68, 69, 70, 3, 71, 72, 73, 74, 75, 76, 77, 78, 79, 80, 6, 58, 59, 7], iparseBJ⟩
theorem iparseB_eq : ∀ back x, evLoop Tryd.prog tb [(14, igoodS)] [] (loopAt 100 Tryd.f28) iparseBC.ins iparseBC.outs back x = iparseBF back x := fun back x => by kernel_rfl
theorem iparseB_k : cutB Tryd.f28.ntmps iparseBC (loopAt 100 Tryd.f28) = true := by kernel_rfl
theorem iparseB_in : cutsOf ([] : List (CutSpec tb)) (loopAt 100 Tryd.f28) = [] := by kernel_rfl
theorem iparseB_cut : CutSound Tryd.prog tb Tryd.f28.ntmps (.loop (loopAt 100 Tryd.f28)) iparseBC := loop_ev mixed iparseB_k (.cons igood_sound .nil) rfl iparseB_in .nil iparseBF iparseB_eq iparseBM iparseB_step
def iparseF (x : List UInt8) : Option (Cell × Int) :=
  obnd (iparseAJ (x, 0, 0)) fun y =>
    brn (decide (y.fst = 0)) (some ({ Row := 0, Col := 0 }, 2))
      (brn (decide (y.fst = (↑x.length : Int))) (some ({ Row := 0, Col := 0 }, 2))
        (obnd (idx x y.fst) fun y_1 =>
          brn (decide ((↑y_1.toNat : Int) = 48)) (some ({ Row := 0, Col := 0 }, 2))
            (obnd (iparseBJ (x, { Row := 0, Col := 0 }, 0, y.fst)) fun y_2 =>
              osum y_2
                (fun y_3 =>
                  obnd (igoodF { Row := IntKind.i64.wrap (y_3.1 - 1), Col := IntKind.i64.wrap (y.snd - 1) }) fun y_4 =>
                    brn (!y_4) (some ({ Row := 0, Col := 0 }, 12)) (some ({ Row := IntKind.i64.wrap (y_3.1 - 1), Col := IntKind.i64.wrap (y.snd - 1) }, 0)))
                fun y => some (y.2, y.1))))
def iparseS : FSpec tb := ⟨[(0, .val 9)], [(0, .val 34), (1, .val 3)], iparseF⟩
theorem iparse_eq : ∀ x, evFn Tryd.prog tb [(14, igoodS)] [iparseAC, iparseBC] Tryd.f28 iparseS.ins iparseS.outs x = iparseS.f x := fun x => by kernel_rfl
theorem iparse_k : fnK Tryd.f28 iparseS.ins iparseS.outs = true := by kernel_rfl
theorem iparse_in : cutsOf ([iparseAC, iparseBC] : List (CutSpec tb)) (bodyOf Tryd.f28) = [(36, .loop (loopAt 36 Tryd.f28)), (100, .loop (loopAt 100 Tryd.f28))] := by kernel_rfl
theorem iparse_sound : FnSound Tryd.prog tb 28 iparseS := fn_cut mixed Tryd.func28 iparse_k (.cons igood_sound .nil) rfl iparse_in (.cons rfl iparseA_cut rfl (.cons rfl iparseB_cut rfl .nil)) iparse_eq
end Go.Proofs.YtjbgpcpamdbjlaaDoor
