/- X6 -/
import Derived.Test.YtdgpkbnnljblmaaGreatDoorX5
namespace Go.Proofs.YtdgpkbnnljblmaaGreatDoor
open Go Go.Ev
theorem decV_big {v : Int} (h : ¬ I64 v) : decV v 0 = (⟨0, 0⟩, 8) := by
  unfold decV
  rw [show strip v 0 = (v, 0) from rfl, if_neg h]
theorem valB_vd (l : List UInt8) : vd (rd9 l) = valB l 0 := by rw [vd_rd9]; simp
theorem valB_zero : ∀ {l : List UInt8}, l.all isD = true → valB l 0 = 0 → ∀ c ∈ l, c = 48
  | [], _, _, c, hc => by simp at hc
  | d :: l, h, h0, c, hc => by
    rw [List.all_cons, Bool.and_eq_true] at h
    rw [valB] at h0
    have hge := valB_ge l (0 * 10 + (d.toNat - 48))
    have hd : d = 48 := by
      have := h.1
      unfold isD at this
      simp only [Bool.and_eq_true, decide_eq_true_eq] at this
      exact UInt8.toNat_inj.1 (show d.toNat = (48 : UInt8).toNat by simp; omega)
    rcases List.mem_cons.1 hc with rfl | hc'
    · exact hd
    · subst hd
      exact valB_zero h.2 (by simpa using h0) c hc'
theorem numP_is {m : Bool} {D : List Int} {N : Nat} (hD : isDig D) (hl : D.length ≤ 5000) (hv : vd D = N) : ref7_trimF ⟨m, D⟩ = some ⟨m && !decide (N = 0), digs N⟩ ∧
    ref7_smallF (⟨m && !decide (N = 0), digs N⟩, 0) = some (if (if m then 9223372036854775808 < N else 9223372036854775808 ≤ N) then (⟨0, 0⟩, 8) else (⟨if m then -(N : Int) else (N : Int), 0⟩, 0)) := by
  have hln : (digs N).length ≤ 5000 := by rw [← hv, ← rtrim_eq hD]; have := rtrim_len D; omega
  refine ⟨by rw [trim_is hD (by omega), hv], ?_⟩
  rw [show (0 : Int) = ((0 : Nat) : Int) from rfl, small_is hln (by omega), sw_and]
  congr 1
  cases m with
  | true =>
    by_cases h : 9223372036854775808 < N
    · rw [if_pos (by simpa using h), decV_big (by unfold I64; simp only [sw, cond_true]; omega)]; rfl
    · rw [if_neg (by simpa using h), decV_zero (by unfold I64; simp only [sw, cond_true]; omega)]; rfl
  | false =>
    by_cases h : 9223372036854775808 ≤ N
    · rw [if_pos (by simpa using h), decV_big (by unfold I64; simp only [sw, cond_false]; omega)]; rfl
    · rw [if_neg (by simpa using h), decV_zero (by unfold I64; simp only [sw, cond_false]; omega)]; rfl
theorem refParse_is {x : List UInt8} (hl : x.length ≤ 4000) : ref7_ParseDecF x = some (parseSpec x) := by
  unfold ref7_ParseDecF
  have b1 : ref7_ParseDec_b1J x = some (minusOf x) := by
    unfold ref7_ParseDec_b1J minusOf
    cases x with
    | nil => simp
    | cons c t =>
      rw [decide_eq_true (by simp), brn_true, show idx (c :: t) 0 = some c from rfl, obnd_some]
      by_cases h : c = 45
      · subst h; simp
      · have : ¬ ((c.toNat : Int) = 45) := fun e => h (UInt8.toNat_inj.1 (show c.toNat = (45 : UInt8).toNat by simp; omega))
        rw [decide_eq_false this]; simp [h]
  rw [b1, obnd_some]
  obtain ⟨g, hg, b2⟩ : ∃ g : Nat, (x.length = (textOf x).length + g ∧ (∀ j, x[j + g]? = (textOf x)[j]?) ∧ g ≤ 1 ∧ (minusOf x = true → x = 45 :: textOf x) ∧ (minusOf x = false → x = textOf x)) ∧ ref7_ParseDec_b2J (⟨false, []⟩, 0, minusOf x) = some ((g : Int), ⟨minusOf x, []⟩) := by
    unfold ref7_ParseDec_b2J minusOf textOf
    by_cases h : x.head? = some 45
    · cases x with
      | nil => simp at h
      | cons c t =>
        simp only [List.head?_cons, Option.some.injEq] at h
        subst h
        exact ⟨1, ⟨by simp, fun j => by simp, by omega, by simp, by simp⟩, by simp [i64_in]⟩
    · exact ⟨0, ⟨by rw [if_neg h]; rfl, fun j => by rw [if_neg h]; rfl, by omega, by simp [h], by simp [h]⟩, by simp [h]⟩
  obtain ⟨hg1, hg2, hg3, hgm, hgn⟩ := hg
  rw [b2, obnd_some]
  simp only
  obtain ⟨y, h1, h2⟩ := scan_is (m := minusOf x) hg1 hg2 (by omega)
  rw [h1, obnd_some]
  unfold parseSpec
  generalize htt : textOf x = t at *
  generalize hmm : minusOf x = m at *
  obtain ⟨k1, k2, k3⟩ := cutW_eq t
  unfold scanned at h2
  have hlen : (cutW t).1.length + (cutW t).2.1.length ≤ 4000 ∧ (t.length : Nat) = (cutW t).1.length + (if (cutW t).2.2 = true then 1 + (cutW t).2.1.length else 0) := by
    have := congrArg List.length k1
    simp only [List.length_append] at this
    cases hp : (cutW t).2.2 with
    | true => rw [hp] at this; simp at this; simp; omega
    | false => rw [hp] at this; rw [k2 hp]; simp at this; simp; omega
  generalize hw : (cutW t).1 = w at *
  generalize hbb : (cutW t).2.1 = b at *
  generalize hp : (cutW t).2.2 = p at *
  by_cases hsc : (w ++ b).all isD = true ∧ (p = true → w ≠ [])
  · rw [if_pos hsc] at h2
    simp only at h2
    subst h2
    obtain ⟨hall, hpw⟩ := hsc
    simp only [osum]
    have hN := numP_is (m := m) (isDig_rd9 hall) (by unfold rd9; simp; omega) (valB_vd (w ++ b))
    obtain ⟨hN1, hN2⟩ := hN
    have hwx : w ≠ [] → x[g]? = w.head? := fun hne => by
      have := hg2 0
      rw [Nat.zero_add] at this
      rw [this, k1]
      cases w with
      | nil => exact absurd rfl hne
      | cons c w => simp
    cases p with
    | true =>
      simp only [if_true] at k1 hlen ⊢
      have b4 : ref7_ParseDec_b4J ((g : Int), ((w.length + g : Nat) : Int), IntKind.i64.wrap ((x.length : Int) - (g : Int)), decide ((0 : Int) ≤ ((w.length + g : Nat) : Int))) = some (w.length : Int) := by
        unfold ref7_ParseDec_b4J
        simp only
        rw [decide_eq_true (by omega), brn_true, i64_in (by omega) (by omega)]; congr 1; omega
      have hne := hpw rfl
      have hwl : w.length ≠ 0 := fun h => hne (List.eq_nil_of_length_eq_zero h)
      rw [b4, obnd_some]
      have b5 : ref7_ParseDec_b5J (x, (g : Int), ((w.length + g : Nat) : Int), (w.length : Int)) = some (decide (b = []) || (decide (1 < w.length) && decide (w.head? = some 48))) := by
        unfold ref7_ParseDec_b5J
        simp only
        rw [decide_eq_false (by omega), brn_false, i64_in (by omega) (by omega)]
        by_cases hb0 : b = []
        · subst hb0
          rw [decide_eq_true (by simp at hlen; omega), brn_true]; simp
        · have : b.length ≠ 0 := fun h => hb0 (List.eq_nil_of_length_eq_zero h)
          rw [decide_eq_false (by omega), brn_false]
          cases w with
          | nil => exact absurd rfl hne
          | cons c w' =>
            have hx := hwx (by simp)
            simp only [List.head?_cons] at hx ⊢
            rw [idxB hx, obnd_some]
            by_cases h48 : c = 48
            · subst h48; rw [decide_eq_true (by rfl), brn_true]; simp [hb0]; omega
            · have : ¬ ((c.toNat : Int) = 48) := fun e => h48 (UInt8.toNat_inj.1 (show c.toNat = (48 : UInt8).toNat by simp; omega))
              rw [decide_eq_false this, brn_false]; simp [hb0, h48]
      rw [b5, obnd_some]
      have hx48 : decide (x = [45, 48]) = false := by
        rw [decide_eq_false]
        intro e
        have hm2 : minusOf x = true := by rw [e]; rfl
        rw [hmm] at hm2
        have := hgm hm2
        rw [e] at this
        simp only [List.cons.injEq, true_and] at this
        rw [← this] at k1
        have : (46 : UInt8) ∈ [(48 : UInt8)] := by rw [k1]; simp
        revert this; decide
      unfold headW
      rw [decide_eq_false hne, hall, hx48]
      simp only [Bool.false_or, Bool.true_and, Bool.or_false, Bool.not_true]
      by_cases hbad : (decide (b = []) || (decide (1 < w.length) && decide (w.head? = some 48))) = true
      · rw [hbad, brn_true, if_pos rfl]
      · rw [Bool.not_eq_true] at hbad
        rw [hbad, brn_false, if_neg (by simp), decide_eq_true (by omega), brn_true, hN1, obnd_some]
        have hb0 : b ≠ [] := fun e => by rw [e] at hbad; simp at hbad
        have hbl : b.length ≠ 0 := fun h => hb0 (List.eq_nil_of_length_eq_zero h)
        have hpl : IntKind.i64.wrap (IntKind.i64.wrap ((x.length : Int) - ((w.length + g : Nat) : Int)) - 1) = (b.length : Int) := by
          rw [i64_in (n := (x.length : Int) - ((w.length + g : Nat) : Int)) (by omega) (by omega), i64_in (by omega) (by omega)]; omega
        have b6 : ∀ B, ref7_ParseDec_b6J ((b.length : Int), m, B) = some false := fun B => by
          unfold ref7_ParseDec_b6J
          simp only
          cases decide ((B.D.length : Int) = 0) <;> cases m <;> simp [hbl] <;> omega
        rw [hpl, b6, obnd_some, brn_false, hN2, obnd_some]
        unfold judged
        by_cases hbig : (if m = true then 9223372036854775808 < valB (w ++ b) 0 else 9223372036854775808 ≤ valB (w ++ b) 0)
        · rw [if_pos hbig, if_pos hbig]; simp
        · rw [if_neg hbig, if_neg hbig]
          simp only [decide_true, Bool.not_true, brn_false]
          by_cases h9 : 9 < b.length
          · rw [decide_eq_true (by omega), brn_true, if_pos (.inl h9)]
          · rw [decide_eq_false (by omega), brn_false, decide_eq_true (by omega), brn_true, i64_in (by omega) (by omega)]
            have hlast : x[x.length - 1]? = b.getLast? := by
              have e1 : x.length - 1 = (t.length - 1) + g := by omega
              have e2 : t.length - 1 = w.length + (b.length - 1 + 1) := by omega
              rw [e1, hg2, e2, k1, List.getLast?_eq_getElem?, List.getElem?_append_right (by omega), Nat.add_sub_cancel_left, List.getElem?_cons_succ]
            have hbs : b.getLast? = some (b.getLast hb0) := List.getLast?_eq_some_getLast hb0
            rw [hbs] at hlast
            rw [show (x.length : Int) - 1 = ((x.length - 1 : Nat) : Int) by omega, idxB hlast, obnd_some, hbs]
            generalize b.getLast hb0 = c
            by_cases h48 : c = 48
            · subst h48; rw [decide_eq_true (by rfl), brn_true, if_pos (.inr rfl)]
            · have : ¬ ((c.toNat : Int) = 48) := fun e => h48 (UInt8.toNat_inj.1 (show c.toNat = (48 : UInt8).toNat by simp; omega))
              have hno : ¬ (9 < b.length ∨ some c = some 48) := by simp [h9, h48]
              rw [decide_eq_false this, brn_false, if_neg hno]
    | false =>
      simp only [Bool.false_eq_true, if_false, List.append_nil] at k1 hlen ⊢
      have hbn : b = [] := k2 rfl
      subst hbn
      rw [List.append_nil] at *
      have b4 : ref7_ParseDec_b4J ((g : Int), -1, IntKind.i64.wrap ((x.length : Int) - (g : Int)), decide ((0 : Int) ≤ -1)) = some (w.length : Int) := by
        unfold ref7_ParseDec_b4J
        simp only
        rw [decide_eq_false (by omega), brn_false, i64_in (by omega) (by omega)]; congr 1; omega
      rw [b4, obnd_some]
      have b5 : ref7_ParseDec_b5J (x, (g : Int), -1, (w.length : Int)) = some (decide (w = []) || (decide (1 < w.length) && decide (w.head? = some 48))) := by
        unfold ref7_ParseDec_b5J
        simp only
        cases w with
        | nil => simp
        | cons c w' =>
          have hx := hwx (by simp)
          simp only [List.length_cons] at hlen
          rw [decide_eq_false (by simp; omega), brn_false, i64_in (by omega) (by omega), decide_eq_false (by omega), brn_false]
          simp only [List.head?_cons] at hx ⊢
          rw [idxB hx, obnd_some]
          by_cases h48 : c = 48
          · subst h48; rw [decide_eq_true (by rfl), brn_true]; simp; omega
          · have : ¬ ((c.toNat : Int) = 48) := fun e => h48 (UInt8.toNat_inj.1 (show c.toNat = (48 : UInt8).toNat by simp; omega))
            rw [decide_eq_false this, brn_false]; simp [h48]
      rw [b5, obnd_some]
      unfold headW
      rw [hall]
      simp only [Bool.false_and, Bool.or_false, Bool.not_true]
      by_cases hbad : (decide (w = []) || (decide (1 < w.length) && decide (w.head? = some 48))) = true
      · rw [hbad, brn_true, if_pos (by simp)]
      · rw [Bool.not_eq_true] at hbad
        rw [hbad, brn_false, decide_eq_false (by omega), brn_false, hN1, obnd_some, Bool.false_or]
        have hne : w ≠ [] := fun e => by rw [e] at hbad; simp at hbad
        have hx48 : decide (x = [45, 48]) = (m && decide (valB w 0 = 0)) := by
          cases m with
          | true =>
            have hx := hgm rfl
            rw [Bool.true_and, decide_eq_decide, hx, k1]
            constructor
            · intro e
              simp only [List.cons.injEq, true_and] at e
              rw [e]; rfl
            · intro e
              have h8 := valB_zero hall e
              cases w with
              | nil => exact absurd rfl hne
              | cons c w' =>
                have hc := h8 c (by simp)
                subst hc
                cases w' with
                | nil => rfl
                | cons d w'' => simp at hbad
          | false =>
            rw [Bool.false_and, decide_eq_false]
            intro e
            rw [e] at hmm
            exact absurd hmm (by decide)
        have b6 : ref7_ParseDec_b6J (0, m, ⟨m && !decide (valB w 0 = 0), digs (valB w 0)⟩) = some (m && decide (valB w 0 = 0)) := by
          unfold ref7_ParseDec_b6J
          simp only
          have hz := digs_nil (n := valB w 0)
          by_cases h0 : valB w 0 = 0
          · rw [decide_eq_true (by omega), brn_true, decide_eq_true h0]; cases m <;> simp
          · rw [decide_eq_false (by omega), brn_false, decide_eq_false h0]; simp
        rw [b6, obnd_some, hx48]
        by_cases hz : (m && decide (valB w 0 = 0)) = true
        · rw [hz, brn_true, if_pos rfl]
        · rw [Bool.not_eq_true] at hz
          rw [hz, brn_false, if_neg (by simp), hN2, obnd_some]
          unfold judged
          rw [List.append_nil]
          by_cases hbig : (if m = true then 9223372036854775808 < valB w 0 else 9223372036854775808 ≤ valB w 0)
          · rw [if_pos hbig, if_pos hbig]; simp
          · rw [if_neg hbig, if_neg hbig]; simp
  · rw [if_neg hsc] at h2
    simp only at h2
    obtain ⟨B, rfl⟩ := h2
    simp only [osum]
    rw [if_pos]
    unfold headW
    by_cases hall : (w ++ b).all isD = true
    · have : ¬ (p = true → w ≠ []) := fun h => hsc ⟨hall, h⟩
      have hw0 : w = [] := by
        apply Classical.byContradiction; intro hn; exact this (fun _ => hn)
      rw [decide_eq_true hw0]; simp
    · rw [Bool.not_eq_true] at hall; rw [hall]; simp
end Go.Proofs.YtdgpkbnnljblmaaGreatDoor
