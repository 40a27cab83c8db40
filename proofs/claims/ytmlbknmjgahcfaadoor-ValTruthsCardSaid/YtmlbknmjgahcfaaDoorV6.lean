/- The law on truths: what it computes is true. -/
import Derived.Test.YtmlbknmjgahcfaaDoorV5
namespace Go.Proofs.YtmlbknmjgahcfaaDoor
open Go Go.Ev

/-- signs of a number's text -/
def low (l : List UInt8) : Prop := ∀ b ∈ l, b.toNat < 60
theorem low_app {x y : List UInt8} (hx : low x) (hy : low y) : low (x ++ y) := fun b hb => (List.mem_append.1 hb).elim (hx b) (hy b)
theorem low_digits (m : Nat) : low (Lib.decDigits m) := by
  induction m using Nat.strongRecOn with
  | _ m ih =>
    have d : ∀ k, k < 10 → (UInt8.ofNat (48 + k)).toNat < 60 := fun k hk => by
      have : (UInt8.ofNat (48 + k)).toNat = (48 + k) % 256 := by simp
      omega
    rw [Lib.decDigits]
    split
    · rename_i h
      intro b hb
      simp only [List.mem_singleton] at hb
      subst hb; exact d m h
    · refine low_app (ih _ (by omega)) ?_
      intro b hb
      simp only [List.mem_singleton] at hb
      subst hb; exact d _ (by omega)
theorem low_repeat : ∀ n, low (Lib.repeatL [48] n)
  | 0 => fun b hb => by simp [Lib.repeatL] at hb
  | n + 1 => by
    unfold Lib.repeatL
    exact low_app (fun b hb => by simp only [List.mem_singleton] at hb; subst hb; decide) (low_repeat n)
theorem cat_is {x y : List UInt8} (h : x.length + y.length ≤ 1000) : cat x y = some (x ++ y) := by
  unfold cat
  have : fits (x.length + y.length) = true := Nat.ble_eq_true_of_le (by simp only [mxLen]; omega)
  rw [this]; rfl
theorem sub_is {α : Type} {xs : List α} {l h : Int} (h0 : 0 ≤ l) (h1 : l ≤ h) (h2 : h ≤ xs.length) : sub xs l h = some ((xs.take h.toNat).drop l.toNat) := by
  unfold sub
  rw [decide_eq_true h0, decide_eq_true h1, decide_eq_true h2]; rfl
theorem low_sub {x : List UInt8} (hx : low x) (a b : Nat) : low ((x.take a).drop b) := fun c hc => hx c (List.mem_of_mem_take (List.mem_of_mem_drop hc))
theorem low_one {n : UInt8} (h : n.toNat < 60) : low [n] := fun b hb => by simp only [List.mem_singleton] at hb; subst hb; exact h
theorem Text_is {d : Dec} (hm : I64 d.M) (h0 : 0 ≤ d.S) (h9 : d.S ≤ 9) : ∃ r, dec_TextF d = some r ∧ low r := by
  unfold dec_TextF strconv_FormatUintF istrconv_FormatUintF
  rw [of_is hm, obnd_some]
  simp only [decide_true, cond_true, obnd_some]
  have hl := digits_le (u := (W (d.M.natAbs : Int) (decide (d.M < 0))).lo.toNat) (by
    show ((d.M.natAbs : Int) % 18446744073709551616).toNat < _
    omega)
  have hd := low_digits (W (d.M.natAbs : Int) (decide (d.M < 0))).lo.toNat
  generalize Lib.decDigits (W (d.M.natAbs : Int) (decide (d.M < 0))).lo.toNat = t at *
  have hneg : ∀ z : List UInt8, low z → z.length ≤ 500 → ∃ r, brn (W (d.M.natAbs : Int) (decide (d.M < 0))).minus (obnd (cat [45] z) fun z => some z) (some z) = some r ∧ low r := fun z hz hlz => by
    cases (W (d.M.natAbs : Int) (decide (d.M < 0))).minus with
    | false => exact ⟨z, rfl, hz⟩
    | true =>
      rw [brn_true, cat_is (by simp only [List.length_cons, List.length_nil]; omega), obnd_some]
      exact ⟨_, rfl, low_app (low_one (by decide)) hz⟩
  by_cases hs : 0 < d.S
  · rw [decide_eq_true hs, brn_true, i64_in (n := d.S + 1) (by omega) (by omega), i64_in (n := d.S + 1 - (t.length : Int)) (by omega) (by omega)]
    obtain ⟨n, hn⟩ : ∃ n : Nat, (bif decide (d.S + 1 - (t.length : Int) < 0) then (0 : Int) else d.S + 1 - (t.length : Int)) = n ∧ n ≤ 10 ∧ d.S + 1 ≤ n + t.length := by
      by_cases h : d.S + 1 - (t.length : Int) < 0
      · exact ⟨0, by rw [decide_eq_true h]; rfl, by omega, by omega⟩
      · exact ⟨(d.S + 1 - (t.length : Int)).toNat, by rw [decide_eq_false h, cond_false]; omega, by omega, by omega⟩
    obtain ⟨hn, hn10, hlen⟩ := hn
    rw [hn]
    have hrep : strings_RepeatF ([48], (n : Int)) = some (Lib.repeatL [48] n) := by
      unfold strings_RepeatF
      simp only [Int.toNat_natCast]
      rw [decide_eq_true (by omega), decide_eq_true (by simp only [List.length_cons, List.length_nil]; omega)]; rfl
    have hrl : (Lib.repeatL [48] n).length = n := by rw [Lib.repeatL_length]; simp
    have hz := low_app (low_repeat n) hd
    rw [hrep, obnd_some, cat_is (by omega), obnd_some]
    have hzl : (Lib.repeatL [48] n ++ t).length = n + t.length := by rw [List.length_append, hrl]
    generalize Lib.repeatL [48] n ++ t = z at *
    rw [i64_in (by omega) (by omega), sub_is (by omega) (by omega) (by omega), obnd_some, cat_is (by simp; omega), obnd_some, sub_is (by omega) (by omega) (by omega), obnd_some, cat_is (by simp; omega), obnd_some]
    refine hneg _ (low_app (low_app (low_sub hz _ _) (low_one (by decide))) (low_sub hz _ _)) ?_
    simp; omega
  · rw [decide_eq_false hs, brn_false]
    exact hneg t hd (by omega)
theorem low_ne {r : List UInt8} (h : low r) : r ≠ [84, 82, 85, 69] ∧ r ≠ U8s [70, 65, 76, 83, 69] :=
  ⟨fun e => by subst e; have := h 84 (by simp); revert this; decide, fun e => by subst e; have := h 70 (by decide); revert this; decide⟩
theorem Truth_low {r : List UInt8} (h : low r) : ∃ w, val_TruthF (vS r) = some (false, w, false) := by
  obtain ⟨h1, h2⟩ := low_ne h
  refine ⟨vE 15, ?_⟩
  unfold val_TruthF vS val_FaultF
  simp only [decide_eq_false h1, decide_eq_false h2]
  rfl
theorem ValTruths_true {v : Val} (h : I64 v.N.M) : law9_ValTruthsF v = some true := by
  unfold law9_ValTruthsF law9_knownF law9_ValTruths_b1J
  simp only [obnd_some, Bool.not_true, brn_false]
  by_cases lv : 1000 < (v.S.length : Int)
  · rw [decide_eq_true lv]; rfl
  obtain ⟨e, ce, oe⟩ := vCheck_is (x := v) (by omega)
  rw [decide_eq_false lv, brn_false, ce, obnd_some, obnd_some]
  by_cases ze : e = 0
  · rw [decide_eq_true ze, cond_true, brn_false]
    rcases oe ze with rfl | ⟨d, rfl, hd⟩ | ⟨s, rfl, hs⟩ | ⟨t, rfl⟩ | ⟨e, rfl⟩
    · rfl
    · obtain ⟨r, hr, hlow⟩ := Text_is (d := d) h hd.1 hd.2.1
      obtain ⟨w, hw⟩ := Truth_low hlow
      have h1 : val_TruthF (vN d) = some (!decide (d.M = 0), vB, true) := rfl
      have h2 : val_WordsF (vN d) = some (r, vB, true) := by
        show obnd (obnd (dec_TextF d) fun y => some y) _ = _
        rw [hr]; rfl
      have h3 : law9_SF r = some (vS r) := rfl
      rw [h1, h2, obnd_some, obnd_some]
      have hb2 : law9_ValTruths_b2J (vB, true, true) = some false := rfl
      rw [show decide ((vN d).Kind = 4) = false from rfl, brn_false, show decide ((vN d).Kind = 2) = false from rfl, brn_false]
      show obnd (law9_ValTruths_b2J (vB, true, true)) _ = _
      rw [hb2, obnd_some, brn_false]
      show obnd (law9_SF r) _ = _
      rw [h3, obnd_some, hw, obnd_some, show decide ((vN d).Kind = 3) = false from rfl, brn_false, show decide ((vN d).Kind = 1) = true from rfl, brn_true]
      show brn (decide ((!decide (d.M = 0)) = (!decide (d.M = 0)))) _ _ = _
      rw [decide_eq_true rfl]; rfl
    · by_cases h1 : s = [84, 82, 85, 69]
      · subst h1; rfl
      · by_cases h2 : s = U8s [70, 65, 76, 83, 69]
        · subst h2; rfl
        · have e1 : val_TruthF (vS s) = some (false, vE 15, false) := by
            unfold val_TruthF vS val_FaultF
            simp only [decide_eq_false h1, decide_eq_false h2]
            rfl
          have e2 : val_WordsF (vS s) = some (s, vB, true) := rfl
          rw [e1, e2, obnd_some, obnd_some]
          show brn (decide (s = s)) _ _ = _
          rw [decide_eq_true rfl, brn_true, decide_eq_false h1, decide_eq_false h2]
          rfl
    · cases t <;> rfl
    · have e1 : val_TruthF (vE e) = some (false, vE e, false) := rfl
      have e2 : val_WordsF (vE e) = some ([], vE e, false) := rfl
      rw [e1, e2, obnd_some, obnd_some]
      simp [vE]
  · rw [decide_eq_false ze]; rfl
theorem valTruths_true : TellsTrue Tryd.prog tb law9_ValTruthsS := fun _ hx =>
  ⟨true, ValTruths_true (wf_val hx), fun g w us cs v h hr => true_out g w us cs v h hr notAgg4⟩
end Go.Proofs.YtmlbknmjgahcfaaDoor
