/- Names of cells: told and read. -/
import Derived.Test.YtjbgpcpamdbjlaaDoorRV
namespace Go.Proofs.YtjbgpcpamdbjlaaDoor
open Go Go.Ev

/-! ## reading: byte by byte -/
def isUp (b : UInt8) : Prop := 65 ≤ b.toNat ∧ b.toNat ≤ 90
def isDig (b : UInt8) : Prop := 48 ≤ b.toNat ∧ b.toNat ≤ 57
instance (b : UInt8) : Decidable (isUp b) := inferInstanceAs (Decidable (_ ∧ _))
instance (b : UInt8) : Decidable (isDig b) := inferInstanceAs (Decidable (_ ∧ _))
def pL : List UInt8 → Nat → Int → Int → Int → Option (Int × Int × Int)
  | [], _, c, r, d => some (c, r, d)
  | b :: l, p, c, r, d => match pStep (b.toNat : Int) p c r d with
    | some (c', r', d') => pL l (p + 1) c' r' d'
    | none => none
theorem pGo_pL (s : List UInt8) : ∀ (f p : Nat) (c r d : Int), p + f = s.length →
    (∀ st, pL (s.drop p) p c r d = some st → ∃ q, pGo s f p c r d = .inl (st, q)) ∧ (pL (s.drop p) p c r d = none → ∃ q, pGo s f p c r d = .inr q)
  | 0, p, c, r, d, h => by
    have : s.drop p = [] := List.drop_eq_nil_of_le (by omega)
    rw [this]
    refine ⟨fun st hst => ?_, fun hn => ?_⟩
    · simp only [pL, Option.some.injEq] at hst
      subst hst
      exact ⟨p, rfl⟩
    · simp [pL] at hn
  | f + 1, p, c, r, d, h => by
    have hp : p < s.length := by omega
    have hd : s.drop p = s[p] :: s.drop (p + 1) := List.drop_eq_getElem_cons hp
    rw [hd]
    simp only [pL, pGo]
    by_cases ha : (s[p]).toNat < 128
    · rw [rune_ascii s p hp ha]
      simp only
      cases hs : pStep ((s[p]).toNat : Int) p c r d with
      | none => exact ⟨fun st h => by simp at h, fun _ => ⟨_, rfl⟩⟩
      | some st =>
        obtain ⟨c', r', d'⟩ := st
        exact pGo_pL s f (p + 1) c' r' d' (by omega)
    · have hr := (rune_high s p hp (by omega)).1
      have h1 : pStep ((rune s p).1 : Int) p c r d = none := by
        unfold pStep
        rw [if_neg (by omega), if_neg (by omega)]
      have h2 : pStep ((s[p]).toNat : Int) p c r d = none := by
        unfold pStep
        rw [if_neg (by omega), if_neg (by omega)]
      rw [h1, h2]
      exact ⟨fun st h => by simp at h, fun _ => ⟨_, rfl⟩⟩

theorem digB_some (b : UInt8) (l : List UInt8) (r : Int) (h : isDig b) : digB (b :: l) r = digB l (if r < 1000000 then 10 * r + ((b.toNat : Int) - 48) else r) := by
  unfold isDig at h
  simp only [digB]
  rw [if_neg (by omega)]
theorem digB_none (b : UInt8) (l : List UInt8) (r : Int) (h : ¬ isDig b) : digB (b :: l) r = none := by
  unfold isDig at h
  simp only [digB]
  rw [if_pos (by omega)]
theorem step_dig {b : UInt8} {p : Nat} {c rr d : Int} (h : isDig b) (hp : 0 < p) (h0 : b.toNat ≠ 48 ∨ 0 < d) (hr : 0 ≤ rr) :
    pStep (b.toNat : Int) p c (min rr 65537) d = some (c, min (if rr < 1000000 then 10 * rr + ((b.toNat : Int) - 48) else rr) 65537, d + 1) := by
  unfold isDig at h
  unfold pStep
  rw [if_neg (by omega), if_pos (by omega)]
  simp only [Option.some.injEq, Prod.mk.injEq, true_and, and_true]
  by_cases h1 : 65537 < min rr 65537 * 10 + ((b.toNat : Int) - 48)
  · simp only [h1, decide_true, cond_true]
    split <;> omega
  · simp only [h1, decide_false, cond_false]
    split <;> omega
/-- the digits behind the first one -/
theorem pL_digits : ∀ (l : List UInt8) (p : Nat) (c rr d : Int), 0 < p → 0 < d → 0 ≤ rr → pL l p c (min rr 65537) d = (digB l rr).map fun r' => (c, min r' 65537, d + (l.length : Int))
  | [], p, c, rr, d, _, _, _ => by simp [pL, digB]
  | b :: l, p, c, rr, d, hp, hd, hr => by
    by_cases h : isDig b
    · rw [digB_some b l rr h]
      simp only [pL]
      rw [step_dig h hp (.inr hd) hr]
      simp only
      rw [pL_digits l (p + 1) c _ (d + 1) (by omega) (by omega) (by unfold isDig at h; split <;> omega)]
      congr 1
      funext r'
      simp only [Prod.mk.injEq, true_and, List.length_cons]; omega
    · rw [digB_none b l rr h]
      simp only [pL]
      have : pStep (b.toNat : Int) p c (min rr 65537) d = none := by
        unfold isDig at h
        unfold pStep
        rw [if_neg (by omega), if_neg (by omega)]
      rw [this]; rfl
theorem upA_up {b : UInt8} {l : List UInt8} {c : Int} (h : isUp b) : upA (b :: l) c = ((upA l (if c < 100000 then 26 * c + ((b.toNat : Int) - 65) + 1 else c)).1 + 1, (upA l (if c < 100000 then 26 * c + ((b.toNat : Int) - 65) + 1 else c)).2) := by
  simp only [upA]; exact if_pos h
theorem upA_no {b : UInt8} {l : List UInt8} {c : Int} (h : ¬ isUp b) : upA (b :: l) c = (0, c) := by
  simp only [upA]; exact if_neg h
/-- the letters ahead -/
theorem pL_letters : ∀ (s : List UInt8) (p : Nat) (cr : Int), 0 ≤ cr →
    pL s p (min cr 257) 0 0 = pL (s.drop (upA s cr).1) (p + (upA s cr).1) (min (upA s cr).2 257) 0 0 ∧ (upA s cr).1 ≤ s.length ∧ 0 ≤ (upA s cr).2 ∧ (0 < (upA s cr).1 → 1 ≤ (upA s cr).2) ∧ (∀ b, (s.drop (upA s cr).1).head? = some b → ¬ isUp b)
  | [], p, cr, h => by simp [upA, h]
  | b :: l, p, cr, h => by
    by_cases hb : isUp b
    · have hb' := hb
      unfold isUp at hb'
      rw [upA_up hb]
      generalize hc : (if cr < 100000 then 26 * cr + ((b.toNat : Int) - 65) + 1 else cr) = c'
      have hc0 : 1 ≤ c' := by rw [← hc]; split <;> omega
      obtain ⟨h1, h2, h3, h4, h5⟩ := pL_letters l (p + 1) c' (by omega)
      refine ⟨?_, ?_, h3, fun _ => ?_, ?_⟩
      · simp only [pL]
        have : pStep (b.toNat : Int) p (min cr 257) 0 0 = some (min c' 257, 0, 0) := by
          unfold pStep
          rw [if_pos (by omega)]
          simp only [Option.some.injEq, Prod.mk.injEq, and_true]
          by_cases hx : 257 < min cr 257 * 26 + ((b.toNat : Int) - 65) + 1
          · simp only [hx, decide_true, cond_true]; rw [← hc]; split <;> omega
          · simp only [hx, decide_false, cond_false]; rw [← hc]; split <;> omega
        rw [this]
        simp only
        rw [h1, List.drop_succ_cons]
        congr 1
        omega
      · simp only [List.length_cons]; omega
      · rcases Nat.eq_zero_or_pos (upA l c').1 with z | z
        · cases l with
          | nil => simpa [upA] using hc0
          | cons b2 l2 =>
            by_cases hb2 : isUp b2
            · rw [upA_up hb2] at z; simp at z
            · rw [upA_no hb2]; exact hc0
        · exact h4 z
      · rw [List.drop_succ_cons]; exact h5
    · rw [upA_no hb]
      refine ⟨rfl, Nat.zero_le _, h, fun h => by simp at h, fun b' hb' => ?_⟩
      simp only [List.drop_zero, List.head?_cons, Option.some.injEq] at hb'
      subst hb'; exact hb

/-- what a text is read as: a cell, or why not -/
def readV (s : List UInt8) : Cell × Int :=
  let u := upA s 0
  if u.1 = 0 then (⟨0, 0⟩, 2) else
  match s.drop u.1 with
  | [] => (⟨0, 0⟩, 2)
  | b :: l => if b.toNat = 48 then (⟨0, 0⟩, 2) else match digB (b :: l) 0 with
    | none => (⟨0, 0⟩, 2)
    | some r => if goodV ⟨r - 1, u.2 - 1⟩ then (⟨r - 1, u.2 - 1⟩, 0) else (⟨0, 0⟩, 12)

theorem digB_big : ∀ (l : List UInt8) (r x : Int), digB l r = some x → 0 ≤ r → r ≤ 20000000 → r ≤ x ∧ x ≤ 20000000
  | [], r, x, h, _, h2 => by simp only [digB, Option.some.injEq] at h; omega
  | b :: l, r, x, h, h1, h2 => by
    by_cases hb : isDig b
    · rw [digB_some b l r hb] at h
      unfold isDig at hb
      have := digB_big l _ x h (by split <;> omega) (by split <;> omega)
      revert this
      split <;> omega
    · rw [digB_none b l r hb] at h; cases h
theorem upA_big : ∀ (l : List UInt8) (c : Int), 0 ≤ c → c ≤ 10000000 → (upA l c).2 ≤ 10000000 ∧ c ≤ (upA l c).2
  | [], c, _, h => by simp [upA, h]
  | b :: l, c, h1, h2 => by
    by_cases hb : isUp b
    · rw [upA_up hb]
      unfold isUp at hb
      have := upA_big l (if c < 100000 then 26 * c + ((b.toNat : Int) - 65) + 1 else c) (by split <;> omega) (by split <;> omega)
      refine ⟨this.1, ?_⟩
      have := this.2
      revert this
      simp only
      split <;> omega
    · rw [upA_no hb]; exact ⟨h2, Int.le_refl _⟩

theorem iparse_val (s : List UInt8) (hs : s.length ≤ 100) : iparseF s = some (readV s) := by
  obtain ⟨_, hn, h0, h1, _⟩ := pL_letters s 0 0 (Int.le_refl _)
  have hb := (upA_big s 0 (by omega) (by omega)).1
  unfold iparseF readV
  generalize hu : upA s 0 = u at *
  obtain ⟨n, c⟩ := u
  simp only at hn h0 h1 hb ⊢
  have hA : iparseAJ (s, 0, 0) = some ((n : Int), c) := by
    unfold iparseAJ
    have : (decide ((0 : Int) ≤ 0) && decide ((0 : Int) ≤ (s.length : Int)) && decide (s.length ≤ 1000000) && decide ((0 : Int) ≤ 0) && decide ((0 : Int) ≤ 10000000)) = true := by
      simp only [Bool.and_eq_true, decide_eq_true_eq]; omega
    simp only [this, cond_true, Int.toNat_zero, List.drop_zero, hu]
    simp
  rw [hA]
  simp only [obnd_some]
  by_cases hn0 : n = 0
  · simp [hn0]
  · have hn0' : ¬ ((n : Int) = 0) := by omega
    simp only [hn0, hn0', decide_false, brn_false, if_false]
    by_cases hl : n = s.length
    · have : s.drop n = [] := List.drop_eq_nil_of_le (by omega)
      rw [this]
      have e : (n : Int) = (s.length : Int) := by omega
      simp [e]
    · have hlt : n < s.length := by omega
      have e : ¬ (n : Int) = (s.length : Int) := by omega
      have hd : s.drop n = s[n] :: s.drop (n + 1) := List.drop_eq_getElem_cons hlt
      have hix : idx s (n : Int) = some s[n] := by simp [idx, hlt]
      have hB : iparseBJ (s, ⟨0, 0⟩, 0, (n : Int)) = some (match digB (s.drop n) 0 with | some r => .inl (r, ⟨0, 0⟩) | none => .inr (2, ⟨0, 0⟩)) := by
        unfold iparseBJ
        have : (decide ((0 : Int) ≤ (n : Int)) && decide ((n : Int) ≤ (s.length : Int)) && decide (s.length ≤ 1000000) && decide ((0 : Int) ≤ 0) && decide ((0 : Int) ≤ 20000000)) = true := by
          simp only [Bool.and_eq_true, decide_eq_true_eq]; omega
        simp only [this, cond_true, Int.toNat_natCast]
        cases digB (s.drop n) 0 <;> rfl
      simp only [e, hix, hB, hd, decide_false, brn_false, obnd_some]
      by_cases h48 : (s[n]).toNat = 48
      · have : (((s[n]).toNat : Nat) : Int) = 48 := by omega
        simp [h48]
      · have : ¬ (((s[n]).toNat : Nat) : Int) = 48 := by omega
        simp only [h48, this, decide_false, brn_false, if_false]
        cases hdg : digB (s[n] :: s.drop (n + 1)) 0 with
        | none => simp [osum]
        | some r =>
          obtain ⟨r1, r2⟩ := digB_big _ _ _ hdg (by omega) (by omega)
          have w1 : IntKind.i64.wrap (r - 1) = r - 1 := wrapR (by omega)
          have w2 : IntKind.i64.wrap (c - 1) = c - 1 := wrapR (by omega)
          simp only [osum, w1, w2, igood_val, obnd_some]
          cases goodV ⟨r - 1, c - 1⟩ <;> simp

theorem parse_val (s : List UInt8) (hs : s.length ≤ 100) : parseF s = some (readV s) := by
  obtain ⟨hp, hn, h0, h1, hno⟩ := pL_letters s 0 0 (Int.le_refl _)
  have hb := (upA_big s 0 (by omega) (by omega)).1
  have hg := pGo_pL s s.length 0 0 0 0 (by omega)
  have hJ : ∀ a, parseLJ (a, (s, 0), 0, 0, 0) = some (match pGo s s.length 0 0 0 0 with | .inl (st, p) => .inl (st, (a, (s, p))) | .inr p => .inr (2, (⟨0, 0⟩, (s, p)))) := fun a => by
    unfold parseLJ
    have : (Nat.ble 0 s.length && Nat.ble s.length 1000000 && decide ((0 : Int) ≤ 0) && decide ((0 : Int) ≤ 257) && decide ((0 : Int) ≤ 0) && decide ((0 : Int) ≤ 65537) && decide ((0 : Int) ≤ 0) && decide ((0 : Int) ≤ 1000000 + ((0 : Nat) : Int))) = true := by
      have e1 : Nat.ble 0 s.length = true := Nat.ble_eq_true_of_le (Nat.zero_le _)
      have e2 : Nat.ble s.length 1000000 = true := Nat.ble_eq_true_of_le (by omega)
      rw [e1, e2]; decide
    simp only [this, cond_true, Nat.sub_zero]
    cases pGo s s.length 0 0 0 0 <;> rfl
  have hmin : min (0 : Int) 257 = 0 := by decide
  simp only [List.drop_zero, hmin, Nat.zero_add] at hp hg
  unfold parseF readV
  rw [hJ]
  generalize hu : upA s 0 = u at *
  obtain ⟨n, c⟩ := u
  simp only at hn h0 h1 hb hno hp ⊢
  rw [hp] at hg
  simp only [obnd_some]
  have err : (∃ q, pGo s s.length 0 0 0 0 = .inr q) → osum (match pGo s s.length 0 0 0 0 with | .inl (st, p) => (.inl (st, ((⟨0, 0⟩ : Cell), (s, p))) : ((Int × Int × Int) × (Cell × (List UInt8 × Nat))) ⊕ (Int × (Cell × (List UInt8 × Nat)))) | .inr p => .inr (2, (⟨0, 0⟩, (s, p))))
      (fun y => brn (decide (y.1.2.snd = 0)) (some ((⟨0, 0⟩ : Cell), (2 : Int)))
          (obnd (goodF { Row := IntKind.i64.wrap (y.1.2.fst - 1), Col := IntKind.i64.wrap (y.1.fst - 1) }) fun y_1 =>
            brn (!y_1) (some ({ Row := 0, Col := 0 }, 12)) (some ({ Row := IntKind.i64.wrap (y.1.2.fst - 1), Col := IntKind.i64.wrap (y.1.fst - 1) }, 0))))
      (fun y => some (y.2.fst, y.1)) = some (⟨0, 0⟩, 2) := fun ⟨q, hq⟩ => by rw [hq]; rfl
  cases hdr : s.drop n with
  | nil =>
    rw [hdr] at hg
    obtain ⟨q, hq⟩ := hg.1 _ rfl
    rw [hq]
    simp [osum]
  | cons b l =>
    rw [hdr] at hg hno
    have hbu := hno b rfl
    by_cases hn0 : n = 0
    · subst hn0
      have : pL (b :: l) 0 (min c 257) 0 0 = none := by
        simp only [pL]
        have : pStep (b.toNat : Int) 0 (min c 257) 0 0 = none := by
          unfold isUp at hbu
          unfold pStep
          rw [if_neg (by omega), if_neg (by omega)]
        rw [this]
      rw [err (hg.2 this)]
      simp
    · simp only [hn0, if_false]
      have key : pL (b :: l) n (min c 257) 0 0 = if b.toNat = 48 then none else (digB (b :: l) 0).map fun r => (min c 257, min r 65537, 1 + (l.length : Int)) := by
        simp only [pL]
        by_cases hbd : isDig b
        · by_cases h48 : b.toNat = 48
          · have : pStep (b.toNat : Int) n (min c 257) 0 0 = none := by
              unfold pStep
              rw [if_neg (by omega), if_neg (by omega)]
            rw [this, if_pos h48]
          · have := step_dig (b := b) (p := n) (c := min c 257) (rr := 0) (d := 0) hbd (by omega) (.inl h48) (Int.le_refl _)
            rw [show min (0 : Int) 65537 = 0 by decide] at this
            rw [this, if_neg h48, digB_some b l 0 hbd]
            simp only
            rw [pL_digits l (n + 1) _ _ _ (by omega) (by omega) (by unfold isDig at hbd; split <;> omega)]
            simp
        · have : pStep (b.toNat : Int) n (min c 257) 0 0 = none := by
            unfold isUp at hbu; unfold isDig at hbd
            unfold pStep
            rw [if_neg (by omega), if_neg (by omega)]
          rw [this, digB_none b l 0 hbd]
          simp
      rw [key] at hg
      by_cases h48 : b.toNat = 48
      · simp only [h48, if_true] at hg ⊢
        exact err (hg.2 trivial)
      · simp only [h48, if_false] at hg ⊢
        cases hdg : digB (b :: l) 0 with
        | none =>
          rw [hdg] at hg
          exact err (hg.2 rfl)
        | some r =>
          rw [hdg] at hg
          obtain ⟨r1, r2⟩ := digB_big _ _ _ hdg (by omega) (by omega)
          obtain ⟨q, hq⟩ := hg.1 _ rfl
          rw [hq]
          have hc1 := h1 (by omega)
          have hne : ¬ (1 + (l.length : Int) = 0) := by omega
          have w1 : IntKind.i64.wrap (min r 65537 - 1) = min r 65537 - 1 := wrapR (by omega)
          have w2 : IntKind.i64.wrap (min c 257 - 1) = min c 257 - 1 := wrapR (by omega)
          simp only [osum, hne, decide_false, brn_false, w1, w2, good_val, obnd_some]
          by_cases hgd : goodV ⟨r - 1, c - 1⟩ = true
          · obtain ⟨g1, g2, g3, g4⟩ := goodV_iff.1 hgd
            simp only at g1 g2 g3 g4
            have e1 : min r 65537 = r := by omega
            have e2 : min c 257 = c := by omega
            rw [e1, e2, hgd]; rfl
          · have : ¬ goodV ⟨min r 65537 - 1, min c 257 - 1⟩ = true := fun h => hgd (by
              rw [goodV_iff] at h ⊢
              simp only at h ⊢
              omega)
            rw [Bool.not_eq_true] at hgd this
            rw [hgd, this]; rfl

/-! ## telling -/
def textV (c : Cell) : List UInt8 := nameOf (c.Col + 1).toNat ++ Lib.decDigits (c.Row + 1).toNat
theorem name_len : ∀ k : Fin 256, (nameOf (k.val + 1)).length = if k.val < 26 then 1 else 2 := by decide +kernel
theorem name_up : ∀ k : Fin 256, (nameOf (k.val + 1)).all (fun b => decide (isUp b)) = true := by decide +kernel
/-- what letters mean -/
def valL : List UInt8 → Int → Int
  | [], c => c
  | b :: l, c => valL l (if c < 100000 then 26 * c + ((b.toNat : Int) - 65) + 1 else c)
theorem name_val : ∀ k : Fin 256, valL (nameOf (k.val + 1)) 0 = (k.val : Int) + 1 := by decide +kernel
theorem iletters_fin : ∀ k : Fin 256, ilettersF (k.val : Int) = some (nameOf (k.val + 1)) := by decide +kernel
theorem upA_val : ∀ (L rest : List UInt8) (c : Int), (∀ b ∈ L, isUp b) → (∀ b, rest.head? = some b → ¬ isUp b) → upA (L ++ rest) c = (L.length, valL L c)
  | [], rest, c, _, h => by
    cases rest with
    | nil => rfl
    | cons b l => simp only [List.nil_append]; rw [upA_no (h b rfl)]; rfl
  | b :: L, rest, c, hL, h => by
    rw [List.cons_append, upA_up (hL b (by simp)), upA_val L rest _ (fun b hb => hL b (by simp [hb])) h]
    simp [valL]
theorem digB_append : ∀ (l1 l2 : List UInt8) (r : Int), digB (l1 ++ l2) r = (digB l1 r).bind (digB l2)
  | [], l2, r => rfl
  | b :: l1, l2, r => by
    by_cases h : isDig b
    · rw [List.cons_append, digB_some _ _ _ h, digB_some _ _ _ h, digB_append l1 l2]
    · rw [List.cons_append, digB_none _ _ _ h, digB_none _ _ _ h]; rfl
theorem digit_is (k : Nat) (h : k < 10) : isDig (UInt8.ofNat (48 + k)) ∧ (UInt8.ofNat (48 + k)).toNat = 48 + k := by
  have : (UInt8.ofNat (48 + k)).toNat = 48 + k := by simp only [UInt8.toNat_ofNat']; omega
  unfold isDig
  omega
theorem digB_dec : ∀ (m : Nat), m ≤ 999999 → digB (Lib.decDigits m) 0 = some (m : Int) := by
  intro m
  induction m using Nat.strongRecOn with
  | _ m ih =>
    intro hm
    by_cases h : m < 10
    · rw [Lib.decDigits_one h, digB_some _ _ _ (digit_is m h).1, (digit_is m h).2]
      simp only [digB, Option.some.injEq]
      rw [if_pos (by omega)]
      omega
    · rw [digits_last]
      unfold aheadDigits
      rw [if_neg h, digB_append, ih (m / 10) (by omega) (by omega)]
      have hd := digit_is (m % 10) (Nat.mod_lt _ (by omega))
      simp only [Option.bind_some]
      rw [digB_some _ _ _ hd.1, hd.2, if_pos (by omega)]
      simp only [digB, Option.some.injEq]
      omega
theorem dec_head : ∀ (m : Nat), 1 ≤ m → ∃ b l, Lib.decDigits m = b :: l ∧ isDig b ∧ b.toNat ≠ 48 := by
  intro m
  induction m using Nat.strongRecOn with
  | _ m ih =>
    intro hm
    by_cases h : m < 10
    · have := digit_is m h
      exact ⟨_, [], Lib.decDigits_one h, this.1, by rw [this.2]; omega⟩
    · obtain ⟨b, l, e, h1, h2⟩ := ih (m / 10) (by omega) (by omega)
      rw [digits_last]
      unfold aheadDigits
      rw [if_neg h, e]
      exact ⟨b, l ++ [UInt8.ofNat (48 + m % 10)], rfl, h1, h2⟩
theorem dec_digits : ∀ (m : Nat), ∀ b ∈ Lib.decDigits m, isDig b := by
  intro m
  induction m using Nat.strongRecOn with
  | _ m ih =>
    intro b hb
    by_cases h : m < 10
    · rw [Lib.decDigits_one h] at hb
      simp only [List.mem_singleton] at hb
      subst hb
      exact (digit_is m h).1
    · rw [digits_last] at hb
      unfold aheadDigits at hb
      rw [if_neg h] at hb
      rcases List.mem_append.1 hb with hb | hb
      · exact ih (m / 10) (by omega) b hb
      · simp only [List.mem_singleton] at hb
        subst hb
        exact (digit_is _ (Nat.mod_lt _ (by omega))).1
theorem name_props {n : Nat} (h1 : 1 ≤ n) (h2 : n ≤ 256) : (∀ b ∈ nameOf n, isUp b) ∧ valL (nameOf n) 0 = (n : Int) ∧ (nameOf n).length = if n ≤ 26 then 1 else 2 := by
  have a := name_up ⟨n - 1, by omega⟩
  have b := name_val ⟨n - 1, by omega⟩
  have c := name_len ⟨n - 1, by omega⟩
  simp only at a b c
  rw [show n - 1 + 1 = n by omega] at a b c
  refine ⟨fun x hx => by simpa using List.all_eq_true.1 a x hx, by rw [b]; omega, by rw [c]; congr 1; simp; omega⟩

theorem read_text {c : Cell} (h : goodV c = true) : readV (textV c) = (c, 0) := by
  obtain ⟨h1, h2, h3, h4⟩ := goodV_iff.1 h
  obtain ⟨p1, p2, p3⟩ := name_props (n := (c.Col + 1).toNat) (by omega) (by omega)
  obtain ⟨b, l, e, hb1, hb2⟩ := dec_head (c.Row + 1).toNat (by omega)
  have hu : upA (textV c) 0 = ((nameOf (c.Col + 1).toNat).length, valL (nameOf (c.Col + 1).toNat) 0) := by
    refine upA_val _ _ _ p1 fun b' hb' => ?_
    rw [e] at hb'
    simp only [List.head?_cons, Option.some.injEq] at hb'
    subst hb'
    unfold isDig at hb1; unfold isUp; omega
  unfold readV
  rw [hu]
  simp only [p2]
  rw [if_neg (by rw [p3]; split <;> omega)]
  have hd : (textV c).drop (nameOf (c.Col + 1).toNat).length = b :: l := by
    unfold textV; rw [List.drop_left, e]
  rw [hd]
  simp only
  rw [if_neg hb2, ← e, digB_dec _ (by omega)]
  simp only
  have e1 : (((c.Row + 1).toNat : Nat) : Int) - 1 = c.Row := by omega
  have e2 : (((c.Col + 1).toNat : Nat) : Int) - 1 = c.Col := by omega
  rw [e1, e2]
  simp [h]

theorem text_val {c : Cell} (h : goodV c = true) : textF c = some (textV c) := by
  obtain ⟨h1, h2, h3, h4⟩ := goodV_iff.1 h
  have w1 : IntKind.i64.wrap (c.Col + 1) = c.Col + 1 := wrapR (by omega)
  have w2 : IntKind.i64.wrap (c.Row + 1) = c.Row + 1 := wrapR (by omega)
  have hT : textLJ ([], c.Col + 1) = some (nameOf (c.Col + 1).toNat) := by
    unfold textLJ
    have : (decide (0 ≤ c.Col + 1) && decide ((([] : List UInt8).length : Int) + (c.Col + 1) ≤ 100000)) = true := by
      simp only [Bool.and_eq_true, decide_eq_true_eq, List.length_nil]; omega
    simp only [this, cond_true, List.append_nil]
  have hI : itoaF (c.Row + 1) = some (Lib.decDigits (c.Row + 1).toNat) := by
    unfold itoaF
    have : inRB .i64 (c.Row + 1) = true := inRB_iff.2 (by simp only [Ev.inR, lo, hi]; omega)
    rw [this]
    simp only [cond_true, itoaD_eq, Option.some.injEq]
    unfold Lib.itoa
    rw [if_neg (by omega)]
  have hl : (nameOf (c.Col + 1).toNat).length ≤ 2 := by
    rw [(name_props (n := (c.Col + 1).toNat) (by omega) (by omega)).2.2]; split <;> omega
  have hl2 : (Lib.decDigits (c.Row + 1).toNat).length ≤ 20 := by
    have := itoa_len (n := c.Row + 1) (by simp only [Ev.inR, lo, hi]; omega)
    unfold Lib.itoa at this
    rwa [if_neg (by omega)] at this
  unfold textF
  rw [w1, w2, hT, hI]
  simp only [obnd_some]
  have : fits ((nameOf (c.Col + 1).toNat).length + (Lib.decDigits (c.Row + 1).toNat).length) = true := Nat.ble_eq_true_of_le (by simp only [mxLen]; omega)
  simp [cat, this, textV]

theorem idec_val (n : Nat) (h : 1 ≤ n) (hn : n ≤ 65536) : idecF (n : Int) = some (Lib.decDigits n) := by
  unfold idecF
  have h0 : ¬ ((n : Int) < 0) := by omega
  simp only [h0, decide_false, brn_false]
  have t1 : ((n : Int)).tmod 10 = ((n % 10 : Nat) : Int) := by
    rw [Int.tmod_eq_emod_of_nonneg (by omega)]; omega
  rw [t1, byte_digit _ (Nat.mod_lt _ (by omega))]
  unfold idecLJ
  have hc : (decide (0 ≤ (n : Int)) && decide ((([UInt8.ofNat (48 + n % 10)] : List UInt8).length : Int) + (n : Int) ≤ 10000000)) = true := by
    simp only [Bool.and_eq_true, decide_eq_true_eq, List.length_cons, List.length_nil]; omega
  simp only [hc, cond_true, Int.toNat_natCast, obnd_some]
  rw [← digits_last]
theorem iletters_val (C : Int) (h3 : 0 ≤ C) (h4 : C < 256) : ilettersF C = some (nameOf (C + 1).toNat) := by
  obtain ⟨k, rfl⟩ := Int.eq_ofNat_of_zero_le h3
  have hL := iletters_fin ⟨k, by omega⟩
  rw [show ((k : Int) + 1).toNat = k + 1 by omega]
  exact hL
theorem itext_val {c : Cell} (h : goodV c = true) : itextF c = some (textV c) := by
  obtain ⟨h1, h2, h3, h4⟩ := goodV_iff.1 h
  have w2 : IntKind.i64.wrap (c.Row + 1) = (((c.Row + 1).toNat : Nat) : Int) := by rw [wrapR (by omega)]; omega
  have hL := iletters_val c.Col h3 h4
  have hD := idec_val (c.Row + 1).toNat (by omega) (by omega)
  have hl : (nameOf (c.Col + 1).toNat).length ≤ 2 := by
    rw [(name_props (n := (c.Col + 1).toNat) (by omega) (by omega)).2.2]; split <;> omega
  have hl2 : (Lib.decDigits (c.Row + 1).toNat).length ≤ 20 := by
    have := itoa_len (n := c.Row + 1) (by simp only [Ev.inR, lo, hi]; omega)
    unfold Lib.itoa at this
    rwa [if_neg (by omega)] at this
  unfold itextF
  rw [w2, hL, hD]
  simp only [obnd_some]
  have hf : fits ((nameOf (c.Col + 1).toNat).length + (Lib.decDigits (c.Row + 1).toNat).length) = true := Nat.ble_eq_true_of_le (by simp only [mxLen]; omega)
  simp [cat, hf, textV]

/-! ## read, and told again -/
theorem upA_name : ∀ (s : List UInt8) (c0 : Nat), (upA s (c0 : Int)).2 ≤ 256 → nameOf (upA s (c0 : Int)).2.toNat = nameOf c0 ++ s.take (upA s (c0 : Int)).1
  | [], c0, _ => by simp [upA]
  | b :: l, c0, h => by
    by_cases hb : isUp b
    · rw [upA_up hb] at h ⊢
      simp only at h ⊢
      by_cases hc : (c0 : Int) < 100000
      · rw [if_pos hc] at h ⊢
        unfold isUp at hb
        have e : (26 * (c0 : Int) + ((b.toNat : Int) - 65) + 1) = ((26 * c0 + (b.toNat - 65) + 1 : Nat) : Int) := by omega
        rw [e] at h ⊢
        rw [upA_name l _ h, nameOf_step (n := 26 * c0 + (b.toNat - 65) + 1) (by omega), List.take_succ_cons]
        have e1 : (26 * c0 + (b.toNat - 65) + 1 - 1) / 26 = c0 := by omega
        have e2 : (26 * c0 + (b.toNat - 65) + 1 - 1) % 26 = b.toNat - 65 := by omega
        rw [e1, e2]
        have e3 : UInt8.ofNat (65 + (b.toNat - 65)) = b := by
          rw [show 65 + (b.toNat - 65) = b.toNat by omega]; simp
        rw [e3]; simp
      · rw [if_neg hc] at h
        have : ∀ (l : List UInt8) (c : Int), 100000 ≤ c → c ≤ (upA l c).2 := by
          intro l
          induction l with
          | nil => intro c _; simp [upA]
          | cons b l ih =>
            intro c hc
            by_cases hb : isUp b
            · rw [upA_up hb]; simp only; rw [if_neg (by omega)]; exact ih c hc
            · rw [upA_no hb]; exact Int.le_refl _
        have := this l c0 (by omega)
        omega
    · rw [upA_no hb]; simp
theorem digB_digits : ∀ (l : List UInt8) (r0 : Nat) (r : Int), 1 ≤ r0 → digB l (r0 : Int) = some r → r ≤ 65536 → Lib.decDigits r.toNat = Lib.decDigits r0 ++ l
  | [], r0, r, _, h, _ => by
    simp only [digB, Option.some.injEq] at h
    subst h
    simp
  | b :: l, r0, r, h0, h, hr => by
    by_cases hb : isDig b
    · rw [digB_some _ _ _ hb] at h
      unfold isDig at hb
      by_cases hc : (r0 : Int) < 1000000
      · rw [if_pos hc] at h
        have e : 10 * (r0 : Int) + ((b.toNat : Int) - 48) = ((10 * r0 + (b.toNat - 48) : Nat) : Int) := by omega
        rw [e] at h
        rw [digB_digits l _ r (by omega) h hr, digits_last (10 * r0 + (b.toNat - 48))]
        unfold aheadDigits
        rw [if_neg (by omega)]
        have e1 : (10 * r0 + (b.toNat - 48)) / 10 = r0 := by omega
        have e2 : (10 * r0 + (b.toNat - 48)) % 10 = b.toNat - 48 := by omega
        rw [e1, e2]
        have e3 : UInt8.ofNat (48 + (b.toNat - 48)) = b := by
          rw [show 48 + (b.toNat - 48) = b.toNat by omega]; simp
        rw [e3]; simp
      · rw [if_neg hc] at h
        have : ∀ (l : List UInt8) (c r : Int), 1000000 ≤ c → digB l c = some r → c ≤ r := by
          intro l
          induction l with
          | nil => intro c r _ h; simp only [digB, Option.some.injEq] at h; omega
          | cons b l ih =>
            intro c r hc h
            by_cases hb : isDig b
            · rw [digB_some _ _ _ hb, if_neg (by omega)] at h; exact ih c r hc h
            · rw [digB_none _ _ _ hb] at h; cases h
        have := this l r0 r (by omega) h
        omega
    · rw [digB_none _ _ _ hb] at h; cases h
theorem read_ok {s : List UInt8} {x : Cell} (h : readV s = (x, 0)) : goodV x = true ∧ textV x = s := by
  obtain ⟨_, hn, h0, h1, _⟩ := pL_letters s 0 0 (Int.le_refl _)
  have hnm := upA_name s 0
  unfold readV at h
  simp only at h
  split at h
  · simp at h
  · rename_i hn0
    split at h
    · simp at h
    · rename_i b l hd
      split at h
      · simp at h
      · rename_i h48
        split at h
        · simp at h
        · rename_i r hr
          split at h
          · rename_i hg
            simp only [Prod.mk.injEq, and_true] at h
            subst h
            refine ⟨hg, ?_⟩
            obtain ⟨g1, g2, g3, g4⟩ := goodV_iff.1 hg
            simp only at g1 g2 g3 g4
            have hname := hnm (by simp only [Int.natCast_zero]; omega)
            simp only [Int.natCast_zero] at hname
            unfold textV
            simp only
            have e1 : ((upA s 0).2 - 1 + 1).toNat = (upA s 0).2.toNat := by omega
            have e2 : (r - 1 + 1).toNat = r.toNat := by omega
            rw [e1, e2, hname]
            have hbd : isDig b := by
              apply Classical.byContradiction; intro hb
              rw [digB_none _ _ _ hb] at hr; cases hr
            rw [digB_some _ _ _ hbd, if_pos (by omega)] at hr
            unfold isDig at hbd
            have e3 : 10 * (0 : Int) + ((b.toNat : Int) - 48) = ((b.toNat - 48 : Nat) : Int) := by omega
            rw [e3] at hr
            rw [digB_digits l _ r (by omega) hr (by omega), Lib.decDigits_one (by omega)]
            have e4 : UInt8.ofNat (48 + (b.toNat - 48)) = b := by
              rw [show 48 + (b.toNat - 48) = b.toNat by omega]; simp
            rw [e4]
            have : nameOf 0 = [] := rfl
            rw [this, List.nil_append, List.singleton_append, ← hd, List.take_append_drop]
          · simp at h

theorem words_law (c : Cell) (s : List UInt8) : wordsF (c, s) = some true := by
  unfold wordsF
  simp only [obnd_some, Bool.not_true, brn_false]
  by_cases hl : 100 < (s.length : Int)
  · simp [hl]
  · have hp := parse_val s (by omega)
    have hip := iparse_val s (by omega)
    have tail : (obnd (goodF c) fun y => brn (!y) (some true) (obnd (textF c) fun y => obnd (parseF y) fun y => obnd (textF c) fun y_3 => obnd (ofCellF c) fun y_4 => obnd (itextF y_4) fun y_5 =>
        brn (decide (y_3 = y_5)) (brn (decide (y.snd = 0)) (some (match decide (y.fst.Row = c.Row) with | false => false | true => decide (y.fst.Col = c.Col))) (some false)) (some false))) = some true := by
      rw [good_val]
      cases hg : goodV c with
      | false => rfl
      | true =>
        have hlen : (textV c).length ≤ 100 := by
          obtain ⟨h1, h2, h3, h4⟩ := goodV_iff.1 hg
          unfold textV
          have a := (name_props (n := (c.Col + 1).toNat) (by omega) (by omega)).2.2
          have b := itoa_len (n := c.Row + 1) (by simp only [Ev.inR, lo, hi]; omega)
          unfold Lib.itoa at b
          rw [if_neg (by omega)] at b
          rw [List.length_append, a]
          split <;> omega
        simp [text_val hg, itext_val hg, ofCellF, parse_val _ hlen, read_text hg]
    rw [hp, hip]
    simp only [hl, decide_false, brn_false, obnd_some, ofCellF, decide_true, Bool.not_true, Bool.and_self, cond_true]
    by_cases h0 : (readV s).2 = 0
    · have hr : readV s = ((readV s).1, 0) := by rw [← h0]
      obtain ⟨g, e⟩ := read_ok hr
      simp only [h0, decide_true, brn_true, text_val g, e, obnd_some, Bool.not_true, brn_false]
      exact tail
    · simp only [h0, decide_false, brn_false]
      exact tail
theorem words_true : TellsTrue Tryd.prog tb wordsS := fun x _ => ⟨true, words_law x.1 x.2, fun g w us cs v h hr => true_out g w us cs v h hr notAgg4⟩

theorem letters_val {c : Cell} (hg : goodV c = true) : lettersF (textV c) = some ((nameOf (c.Col + 1).toNat).length : Int) := by
  obtain ⟨h1, h2, h3, h4⟩ := goodV_iff.1 hg
  obtain ⟨p1, _, p3⟩ := name_props (n := (c.Col + 1).toNat) (by omega) (by omega)
  have hlen : (textV c).length ≤ 100 := by
    unfold textV
    have b := itoa_len (n := c.Row + 1) (by simp only [Ev.inR, lo, hi]; omega)
    unfold Lib.itoa at b
    rw [if_neg (by omega)] at b
    rw [List.length_append, p3]
    split <;> omega
  have ha : ahead (textV c) = (nameOf (c.Col + 1).toNat).length := by
    unfold ahead textV
    rw [List.takeWhile_append_of_pos (fun b hb => by have := p1 b hb; unfold isUp at this; simp; omega)]
    obtain ⟨b, l, e, hb1, _⟩ := dec_head (c.Row + 1).toNat (by omega)
    rw [e, List.takeWhile_cons]
    unfold isDig at hb1
    rw [if_neg (by simp; omega)]
    simp
  unfold lettersF lettersLJ
  have : (decide ((0 : Int) ≤ 0) && decide ((0 : Int) ≤ ((textV c).length : Int)) && decide ((textV c).length ≤ 1000000)) = true := by
    simp only [Bool.and_eq_true, decide_eq_true_eq]; omega
  simp only [this, cond_true, Int.toNat_zero, List.drop_zero, ha, obnd_some]
  simp
theorem names_law (a b : Cell) : namesF (a, b) = some true := by
  unfold namesF
  simp only [obnd_some, good_val]
  cases ha : goodV a with
  | false => rfl
  | true =>
    cases hb : goodV b with
    | false => rfl
    | true =>
      simp only [Bool.not_true, brn_false, text_val ha, text_val hb, obnd_some, letters_val ha, letters_val hb, cond_false]
      have e : decide (textV a = textV b) = (decide (a.Row = b.Row) && decide (a.Col = b.Col)) := by
        by_cases h : textV a = textV b
        · have h1 := read_text ha
          rw [h, read_text hb] at h1
          simp only [Prod.mk.injEq, and_true] at h1
          subst h1
          simp
        · have : ¬ (a.Row = b.Row ∧ a.Col = b.Col) := fun ⟨e1, e2⟩ => h (by unfold textV; rw [e1, e2])
          simp only [h, decide_false]
          by_cases e1 : a.Row = b.Row <;> by_cases e2 : a.Col = b.Col <;> simp_all
      rw [e]
      obtain ⟨a1, a2, a3, a4⟩ := goodV_iff.1 ha
      obtain ⟨b1, b2, b3, b4⟩ := goodV_iff.1 hb
      have pa := (name_props (n := (a.Col + 1).toNat) (by omega) (by omega)).2.2
      have pb := (name_props (n := (b.Col + 1).toNat) (by omega) (by omega)).2.2
      rw [pa, pb]
      simp only [decide_true, Bool.not_true, brn_false]
      by_cases hx : (a.Col + 1).toNat ≤ 26 <;> by_cases hy : (b.Col + 1).toNat ≤ 26 <;> simp [hx, hy]
      omega
theorem names_true : TellsTrue Tryd.prog tb namesS := fun x _ => ⟨true, names_law x.1 x.2, fun g w us cs v h hr => true_out g w us cs v h hr notAgg4⟩
end Go.Proofs.YtjbgpcpamdbjlaaDoor
