/- A cell's name read, by the program. -/
import Derived.Test.YtjbgpcpamdbjlaaDoorRS
import Derived.Test.YtjbgpcpamdbjlaaDoorEvU
namespace Go.Proofs.YtjbgpcpamdbjlaaDoor
open Go Go.Ev


/-! ### parse -/
def parseLF (back : Cell × ((List UInt8 × Nat)) × Int × Int × Int → Option (((Int × Int × Int) × (Cell × ((List UInt8 × Nat)))) ⊕ ((Int) × (Cell × ((List UInt8 × Nat)))))) (x : Cell × ((List UInt8 × Nat)) × Int × Int × Int) : Option (((Int × Int × Int) × (Cell × ((List UInt8 × Nat)))) ⊕ ((Int) × (Cell × ((List UInt8 × Nat))))) :=
  brn (decide (x.2.1.snd < x.2.1.fst.length))
    (brn (decide (65 ≤ (↑(rune x.2.1.fst x.2.1.snd).fst : Int)))
      (brn (decide ((↑(rune x.2.1.fst x.2.1.snd).fst : Int) ≤ 90))
        (brn (decide (x.2.2.2.snd = 0))
          (back
            (x.fst, (x.2.1.fst, x.2.1.snd + (rune x.2.1.fst x.2.1.snd).snd),
              bif
                  decide
                    (257 <
                      IntKind.i64.wrap
                        (IntKind.i64.wrap (IntKind.i64.wrap (x.2.2.fst * 26) + IntKind.i64.wrap (IntKind.i32.wrap ((↑(rune x.2.1.fst x.2.1.snd).fst : Int) - 65))) + 1)) then
                257
              else IntKind.i64.wrap (IntKind.i64.wrap (IntKind.i64.wrap (x.2.2.fst * 26) + IntKind.i64.wrap (IntKind.i32.wrap ((↑(rune x.2.1.fst x.2.1.snd).fst : Int) - 65))) + 1),
              x.2.2.2))
          (brn (decide (48 ≤ (↑(rune x.2.1.fst x.2.1.snd).fst : Int)))
            (brn (decide ((↑(rune x.2.1.fst x.2.1.snd).fst : Int) ≤ 57))
              (brn (decide (0 < (↑x.2.1.snd : Int)))
                (brn (!decide ((↑(rune x.2.1.fst x.2.1.snd).fst : Int) = 48))
                  (back
                    (x.fst, (x.2.1.fst, x.2.1.snd + (rune x.2.1.fst x.2.1.snd).snd), x.2.2.fst,
                      bif
                          decide
                            (65537 < IntKind.i64.wrap (IntKind.i64.wrap (x.2.2.2.fst * 10) + IntKind.i64.wrap (IntKind.i32.wrap ((↑(rune x.2.1.fst x.2.1.snd).fst : Int) - 48)))) then
                        65537
                      else IntKind.i64.wrap (IntKind.i64.wrap (x.2.2.2.fst * 10) + IntKind.i64.wrap (IntKind.i32.wrap ((↑(rune x.2.1.fst x.2.1.snd).fst : Int) - 48))),
                      IntKind.i64.wrap (x.2.2.2.snd + 1)))
                  (brn (decide (0 < x.2.2.2.snd))
                    (back
                      (x.fst, (x.2.1.fst, x.2.1.snd + (rune x.2.1.fst x.2.1.snd).snd), x.2.2.fst,
                        bif
                            decide
                              (65537 <
                                IntKind.i64.wrap (IntKind.i64.wrap (x.2.2.2.fst * 10) + IntKind.i64.wrap (IntKind.i32.wrap ((↑(rune x.2.1.fst x.2.1.snd).fst : Int) - 48)))) then
                          65537
                        else IntKind.i64.wrap (IntKind.i64.wrap (x.2.2.2.fst * 10) + IntKind.i64.wrap (IntKind.i32.wrap ((↑(rune x.2.1.fst x.2.1.snd).fst : Int) - 48))),
                        IntKind.i64.wrap (x.2.2.2.snd + 1)))
                    (some (Sum.inr (2, { Row := 0, Col := 0 }, x.2.1.fst, x.2.1.snd + (rune x.2.1.fst x.2.1.snd).snd)))))
                (some (Sum.inr (2, { Row := 0, Col := 0 }, x.2.1.fst, x.2.1.snd + (rune x.2.1.fst x.2.1.snd).snd))))
              (some (Sum.inr (2, { Row := 0, Col := 0 }, x.2.1.fst, x.2.1.snd + (rune x.2.1.fst x.2.1.snd).snd))))
            (some (Sum.inr (2, { Row := 0, Col := 0 }, x.2.1.fst, x.2.1.snd + (rune x.2.1.fst x.2.1.snd).snd)))))
        (brn (decide (48 ≤ (↑(rune x.2.1.fst x.2.1.snd).fst : Int)))
          (brn (decide ((↑(rune x.2.1.fst x.2.1.snd).fst : Int) ≤ 57))
            (brn (decide (0 < (↑x.2.1.snd : Int)))
              (brn (!decide ((↑(rune x.2.1.fst x.2.1.snd).fst : Int) = 48))
                (back
                  (x.fst, (x.2.1.fst, x.2.1.snd + (rune x.2.1.fst x.2.1.snd).snd), x.2.2.fst,
                    bif
                        decide
                          (65537 < IntKind.i64.wrap (IntKind.i64.wrap (x.2.2.2.fst * 10) + IntKind.i64.wrap (IntKind.i32.wrap ((↑(rune x.2.1.fst x.2.1.snd).fst : Int) - 48)))) then
                      65537
                    else IntKind.i64.wrap (IntKind.i64.wrap (x.2.2.2.fst * 10) + IntKind.i64.wrap (IntKind.i32.wrap ((↑(rune x.2.1.fst x.2.1.snd).fst : Int) - 48))),
                    IntKind.i64.wrap (x.2.2.2.snd + 1)))
                (brn (decide (0 < x.2.2.2.snd))
                  (back
                    (x.fst, (x.2.1.fst, x.2.1.snd + (rune x.2.1.fst x.2.1.snd).snd), x.2.2.fst,
                      bif
                          decide
                            (65537 < IntKind.i64.wrap (IntKind.i64.wrap (x.2.2.2.fst * 10) + IntKind.i64.wrap (IntKind.i32.wrap ((↑(rune x.2.1.fst x.2.1.snd).fst : Int) - 48)))) then
                        65537
                      else IntKind.i64.wrap (IntKind.i64.wrap (x.2.2.2.fst * 10) + IntKind.i64.wrap (IntKind.i32.wrap ((↑(rune x.2.1.fst x.2.1.snd).fst : Int) - 48))),
                      IntKind.i64.wrap (x.2.2.2.snd + 1)))
                  (some (Sum.inr (2, { Row := 0, Col := 0 }, x.2.1.fst, x.2.1.snd + (rune x.2.1.fst x.2.1.snd).snd)))))
              (some (Sum.inr (2, { Row := 0, Col := 0 }, x.2.1.fst, x.2.1.snd + (rune x.2.1.fst x.2.1.snd).snd))))
            (some (Sum.inr (2, { Row := 0, Col := 0 }, x.2.1.fst, x.2.1.snd + (rune x.2.1.fst x.2.1.snd).snd))))
          (some (Sum.inr (2, { Row := 0, Col := 0 }, x.2.1.fst, x.2.1.snd + (rune x.2.1.fst x.2.1.snd).snd)))))
      (brn (decide (48 ≤ (↑(rune x.2.1.fst x.2.1.snd).fst : Int)))
        (brn (decide ((↑(rune x.2.1.fst x.2.1.snd).fst : Int) ≤ 57))
          (brn (decide (0 < (↑x.2.1.snd : Int)))
            (brn (!decide ((↑(rune x.2.1.fst x.2.1.snd).fst : Int) = 48))
              (back
                (x.fst, (x.2.1.fst, x.2.1.snd + (rune x.2.1.fst x.2.1.snd).snd), x.2.2.fst,
                  bif
                      decide
                        (65537 < IntKind.i64.wrap (IntKind.i64.wrap (x.2.2.2.fst * 10) + IntKind.i64.wrap (IntKind.i32.wrap ((↑(rune x.2.1.fst x.2.1.snd).fst : Int) - 48)))) then
                    65537
                  else IntKind.i64.wrap (IntKind.i64.wrap (x.2.2.2.fst * 10) + IntKind.i64.wrap (IntKind.i32.wrap ((↑(rune x.2.1.fst x.2.1.snd).fst : Int) - 48))),
                  IntKind.i64.wrap (x.2.2.2.snd + 1)))
              (brn (decide (0 < x.2.2.2.snd))
                (back
                  (x.fst, (x.2.1.fst, x.2.1.snd + (rune x.2.1.fst x.2.1.snd).snd), x.2.2.fst,
                    bif
                        decide
                          (65537 < IntKind.i64.wrap (IntKind.i64.wrap (x.2.2.2.fst * 10) + IntKind.i64.wrap (IntKind.i32.wrap ((↑(rune x.2.1.fst x.2.1.snd).fst : Int) - 48)))) then
                      65537
                    else IntKind.i64.wrap (IntKind.i64.wrap (x.2.2.2.fst * 10) + IntKind.i64.wrap (IntKind.i32.wrap ((↑(rune x.2.1.fst x.2.1.snd).fst : Int) - 48))),
                    IntKind.i64.wrap (x.2.2.2.snd + 1)))
                (some (Sum.inr (2, { Row := 0, Col := 0 }, x.2.1.fst, x.2.1.snd + (rune x.2.1.fst x.2.1.snd).snd)))))
            (some (Sum.inr (2, { Row := 0, Col := 0 }, x.2.1.fst, x.2.1.snd + (rune x.2.1.fst x.2.1.snd).snd))))
          (some (Sum.inr (2, { Row := 0, Col := 0 }, x.2.1.fst, x.2.1.snd + (rune x.2.1.fst x.2.1.snd).snd))))
        (some (Sum.inr (2, { Row := 0, Col := 0 }, x.2.1.fst, x.2.1.snd + (rune x.2.1.fst x.2.1.snd).snd)))))
    (some (Sum.inl ((x.2.2.fst, x.2.2.2), x.fst, x.2.fst)))
/-- one rune of a cell's name: how far the column, the row, the digits are, or that it may not stand there -/
def pStep (u : Int) (p : Nat) (c r d : Int) : Option (Int × Int × Int) :=
  if 65 ≤ u ∧ u ≤ 90 ∧ d = 0 then some (bif decide (257 < c * 26 + (u - 65) + 1) then 257 else c * 26 + (u - 65) + 1, r, d)
  else if 48 ≤ u ∧ u ≤ 57 ∧ 0 < p ∧ (u ≠ 48 ∨ 0 < d) then some (c, bif decide (65537 < r * 10 + (u - 48)) then 65537 else r * 10 + (u - 48), d + 1)
  else none
def pGo (s : List UInt8) : Nat → Nat → Int → Int → Int → ((Int × Int × Int) × Nat) ⊕ Nat
  | 0, p, c, r, d => .inl ((c, r, d), p)
  | f + 1, p, c, r, d => match pStep ((rune s p).1 : Int) p c r d with
    | some (c', r', d') => pGo s f (p + 1) c' r' d'
    | none => .inr (p + (rune s p).2)
def parseLJ (x : Cell × (List UInt8 × Nat) × Int × Int × Int) : Option (((Int × Int × Int) × (Cell × (List UInt8 × Nat))) ⊕ (Int × (Cell × (List UInt8 × Nat)))) :=
  bif Nat.ble x.2.1.2 x.2.1.1.length && Nat.ble x.2.1.1.length 1000000 && decide (0 ≤ x.2.2.1) && decide (x.2.2.1 ≤ 257) && decide (0 ≤ x.2.2.2.1) && decide (x.2.2.2.1 ≤ 65537) && decide (0 ≤ x.2.2.2.2) && decide (x.2.2.2.2 ≤ 1000000 + (x.2.1.2 : Int)) then
    some (match pGo x.2.1.1 (x.2.1.1.length - x.2.1.2) x.2.1.2 x.2.2.1 x.2.2.2.1 x.2.2.2.2 with
      | .inl (st, p) => .inl (st, (x.1, (x.2.1.1, p)))
      | .inr p => .inr (2, (⟨0, 0⟩, (x.2.1.1, p)))) else none
def parseLM (x : Cell × (List UInt8 × Nat) × Int × Int × Int) : Nat := x.2.1.1.length - x.2.1.2
theorem parseL_one (back : Cell × (List UInt8 × Nat) × Int × Int × Int → Option (((Int × Int × Int) × (Cell × (List UInt8 × Nat))) ⊕ (Int × (Cell × (List UInt8 × Nat))))) (a : Cell) (s : List UInt8) (p : Nat) (c r d : Int) (hp : p < s.length) (u v : Nat) (hu : rune s p = (u, v))
    (hc : 0 ≤ c ∧ c ≤ 257) (hr : 0 ≤ r ∧ r ≤ 65537) (hd : 0 ≤ d ∧ d ≤ 3000000) :
    parseLF back (a, (s, p), c, r, d) = match pStep (u : Int) p c r d with
      | some (c', r', d') => back (a, (s, p + v), c', r', d')
      | none => some (.inr (2, (⟨0, 0⟩, (s, p + v)))) := by
  unfold parseLF pStep
  simp only [hp, decide_true, brn_true, hu]
  have hpi : (0 < (p : Int)) ↔ 0 < p := by omega
  have w5 : IntKind.i64.wrap 1 = 1 := wrap_of_inR (by simp only [Ev.inR, lo, hi]; omega)
  have w6 : IntKind.i64.wrap 0 = 0 := wrap_of_inR (by simp only [Ev.inR, lo, hi]; omega)
  have w7 : IntKind.i32.wrap 0 = 0 := wrap_of_inR (by simp only [Ev.inR, lo, hi]; omega)
  by_cases c1 : 65 ≤ (u : Int) <;> by_cases c2 : (u : Int) ≤ 90 <;> by_cases c3 : d = 0 <;> by_cases c4 : 48 ≤ (u : Int) <;> by_cases c5 : (u : Int) ≤ 57 <;> by_cases c6 : 0 < p <;> by_cases c7 : (u : Int) = 48 <;> by_cases c8 : 0 < d <;>
    first
    | (exfalso; omega)
    | (have w1 : IntKind.i64.wrap (c * 26) = c * 26 := wrap_of_inR (by simp only [Ev.inR, lo, hi]; omega)
       have w2 : IntKind.i64.wrap (IntKind.i32.wrap ((u : Int) - 65)) = (u : Int) - 65 := by
         rw [wrap_of_inR (k := .i32) (by simp only [Ev.inR, lo, hi]; omega), wrap_of_inR (by simp only [Ev.inR, lo, hi]; omega)]
       have w3 : IntKind.i64.wrap (c * 26 + ((u : Int) - 65)) = c * 26 + ((u : Int) - 65) := wrap_of_inR (by simp only [Ev.inR, lo, hi]; omega)
       have w4 : IntKind.i64.wrap (c * 26 + ((u : Int) - 65) + 1) = c * 26 + ((u : Int) - 65) + 1 := wrap_of_inR (by simp only [Ev.inR, lo, hi]; omega)
       simp only [c1, c2, c3, hpi, w1, w2, w3, w4, decide_true, brn_true, and_self, if_true]; done)
    | (have w1 : IntKind.i64.wrap (r * 10) = r * 10 := wrap_of_inR (by simp only [Ev.inR, lo, hi]; omega)
       have w2 : IntKind.i64.wrap (IntKind.i32.wrap ((u : Int) - 48)) = (u : Int) - 48 := by
         rw [wrap_of_inR (k := .i32) (by simp only [Ev.inR, lo, hi]; omega), wrap_of_inR (by simp only [Ev.inR, lo, hi]; omega)]
       have w3 : IntKind.i64.wrap (r * 10 + ((u : Int) - 48)) = r * 10 + ((u : Int) - 48) := wrap_of_inR (by simp only [Ev.inR, lo, hi]; omega)
       have w4 : IntKind.i64.wrap (d + 1) = d + 1 := wrap_of_inR (by simp only [Ev.inR, lo, hi]; omega)
       simp [c1, c2, c3, c4, c5, c6, c7, c8, hpi, w1, w2, w3, w4, w5, w6, w7]; done)
    | (simp [c1, c2, c3, c4, c5, c6, c7, c8, hpi]; done)
    | skip
theorem pStep_some {u : Int} {p : Nat} {c r d : Int} {x : Int × Int × Int} (h : pStep u p c r d = some x) (h0 : 0 ≤ c) (h1 : 0 ≤ r) (h1' : r ≤ 65537) (h1'' : c ≤ 257) (h2 : 0 ≤ d) :
    u ≤ 90 ∧ 0 ≤ x.1 ∧ x.1 ≤ 257 ∧ 0 ≤ x.2.1 ∧ x.2.1 ≤ 65537 ∧ 0 ≤ x.2.2 ∧ x.2.2 ≤ d + 1 := by
  unfold pStep at h
  split at h
  · simp only [Option.some.injEq] at h; subst h
    simp only
    by_cases hb : 257 < c * 26 + (u - 65) + 1
    · simp only [hb, decide_true, cond_true]; omega
    · simp only [hb, decide_false, cond_false]; omega
  · split at h
    · simp only [Option.some.injEq] at h; subst h
      simp only
      by_cases hb : 65537 < r * 10 + (u - 48)
      · simp only [hb, decide_true, cond_true]; omega
      · simp only [hb, decide_false, cond_false]; omega
    · cases h
theorem parseL_step : ∀ x y, parseLJ x = some y → parseLF (fun x' => bif Nat.blt (parseLM x') (parseLM x) then parseLJ x' else none) x = some y := by
  rintro ⟨a, ⟨s, p⟩, c, r, d⟩ y h
  unfold parseLJ at h
  simp only at h
  cases hc : (Nat.ble p s.length && Nat.ble s.length 1000000 && decide (0 ≤ c) && decide (c ≤ 257) && decide (0 ≤ r) && decide (r ≤ 65537) && decide (0 ≤ d) && decide (d ≤ 1000000 + (p : Int))) with
  | false => rw [hc] at h; cases h
  | true =>
    rw [hc] at h
    simp only [cond_true, Option.some.injEq] at h
    simp only [Bool.and_eq_true, decide_eq_true_eq, Nat.ble_eq] at hc
    obtain ⟨⟨⟨⟨⟨⟨⟨k1, k2⟩, k3⟩, k4⟩, k5⟩, k6⟩, k7⟩, k8⟩ := hc
    by_cases hk : p < s.length
    · obtain ⟨f, hf⟩ : ∃ f, s.length - p = f + 1 := ⟨s.length - p - 1, by omega⟩
      rw [parseL_one _ a s p c r d hk (rune s p).1 (rune s p).2 rfl ⟨k3, k4⟩ ⟨k5, k6⟩ ⟨k7, by omega⟩]
      rw [hf] at h
      simp only [pGo] at h
      cases hs : pStep ((rune s p).1 : Int) p c r d with
      | none => rw [hs] at h; simp only at h ⊢; rw [h]
      | some x =>
        obtain ⟨c', r', d'⟩ := x
        obtain ⟨g1, g2, g3, g4, g5, g6, g7⟩ := pStep_some hs k3 k5 k6 k4 k7
        simp only at g2 g3 g4 g5 g6 g7
        have hb : (s[p]).toNat < 128 := by
          apply Classical.byContradiction
          intro hb
          have := (rune_high s p hk (by omega)).1
          omega
        have hv : (rune s p).2 = 1 := by rw [rune_ascii s p hk hb]
        rw [hs] at h
        simp only [hv] at h ⊢
        have hm : Nat.blt (parseLM (a, (s, p + 1), c', r', d')) (parseLM (a, (s, p), c, r, d)) = true := by
          simp only [parseLM]
          exact Nat.ble_eq_true_of_le (by omega)
        simp only [hm, cond_true]
        unfold parseLJ
        have hc2 : (Nat.ble (p + 1) s.length && Nat.ble s.length 1000000 && decide (0 ≤ c') && decide (c' ≤ 257) && decide (0 ≤ r') && decide (r' ≤ 65537) && decide (0 ≤ d') && decide (d' ≤ 1000000 + ((p + 1 : Nat) : Int))) = true := by
          simp only [Bool.and_eq_true, decide_eq_true_eq, Nat.ble_eq]; omega
        have hf2 : s.length - (p + 1) = f := by omega
        simp only [hc2, cond_true, hf2]
        rw [← h]
    · have hf : s.length - p = 0 := by omega
      rw [hf] at h
      simp only [pGo] at h
      unfold parseLF
      simp only [hk, decide_false, brn_false]
      rw [← h]
def parseLC : CutSpec tb := ⟨36, [(2, .ref 25), (11, .iter), (4, .val 3), (5, .val 3), (6, .val 3)], [((.exit 0), [(4, .val 3), (5, .val 3), (6, .val 3)]), (.ret, [(3, .val 27)])], [12, 13, 14, 15, 7, 8, 18, 19, 20, 21, 22, 23, 24, 25, 26, 27, 17, 28, 29, 30, 31, 32, 33, 34, 35, 4, 37, 38, 39, 40, 41, 42, 43, 44, 45, 46, 47, 48, 49, 50, 51, 52, 53, 54, 36, 55, 56, 57, 58, 59, 60, 61, 5, 62, 63, 6, 16, 3], parseLJ⟩
theorem parseL_eq : ∀ back x, evLoop Tryd.prog tb [(13, goodS)] [] (loopAt 36 Tryd.f27) parseLC.ins parseLC.outs back x = parseLF back x := fun back x => by kernel_rfl
theorem parseL_k : cutB Tryd.f27.ntmps parseLC (loopAt 36 Tryd.f27) = true := by kernel_rfl
theorem parseL_in : cutsOf ([] : List (CutSpec tb)) (loopAt 36 Tryd.f27) = [] := by kernel_rfl
theorem parseL_cut : CutSound Tryd.prog tb Tryd.f27.ntmps (.loop (loopAt 36 Tryd.f27)) parseLC := loop_ev mixed parseL_k (.cons good_sound .nil) rfl parseL_in .nil parseLF parseL_eq parseLM parseL_step
def parseF (x : List UInt8) : Option (Cell × Int) :=
  obnd (parseLJ ({ Row := 0, Col := 0 }, (x, 0), 0, 0, 0)) fun y =>
    osum y
      (fun y =>
        brn (decide (y.1.2.snd = 0)) (some ({ Row := 0, Col := 0 }, 2))
          (obnd (goodF { Row := IntKind.i64.wrap (y.1.2.fst - 1), Col := IntKind.i64.wrap (y.1.fst - 1) }) fun y_1 =>
            brn (!y_1) (some ({ Row := 0, Col := 0 }, 12)) (some ({ Row := IntKind.i64.wrap (y.1.2.fst - 1), Col := IntKind.i64.wrap (y.1.fst - 1) }, 0))))
      fun y => some (y.2.fst, y.1)
def parseS : FSpec tb := ⟨[(0, .val 9)], [(0, .val 25), (1, .val 27)], parseF⟩
theorem parse_eq : ∀ x, evFn Tryd.prog tb [(13, goodS)] [parseLC] Tryd.f27 parseS.ins parseS.outs x = parseS.f x := fun x => by kernel_rfl
theorem parse_k : fnK Tryd.f27 parseS.ins parseS.outs = true := by kernel_rfl
theorem parse_in : cutsOf ([parseLC] : List (CutSpec tb)) (bodyOf Tryd.f27) = [(36, .loop (loopAt 36 Tryd.f27))] := by kernel_rfl
theorem parse_sound : FnSound Tryd.prog tb 27 parseS := fn_cut mixed Tryd.func27 parse_k (.cons good_sound .nil) rfl parse_in (.cons rfl parseL_cut rfl .nil) parse_eq
end Go.Proofs.YtjbgpcpamdbjlaaDoor
