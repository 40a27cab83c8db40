/- X5 -/
import Derived.Test.YtdgpkbnnljblmaaGreatDoorX4
namespace Go.Proofs.YtdgpkbnnljblmaaGreatDoor
open Go Go.Ev
theorem u8_in {n : Int} (h0 : 0 ≤ n) (h1 : n ≤ 255) : IntKind.u8.wrap n = n := by
  unfold IntKind.wrap; simp [IntKind.bits, IntKind.signed]; omega
theorem idxB {D : List UInt8} {k : Nat} {v : UInt8} (h : D[k]? = some v) : idx D (k : Int) = some v := by
  simp [idx, h]
theorem cutW_noDot : ∀ {l : List UInt8}, 46 ∉ l → cutW l = (l, [], false)
  | [], _ => rfl
  | c :: l, h => by
    simp only [List.mem_cons, not_or] at h
    unfold cutW
    rw [if_neg (fun e => h.1 e.symm), cutW_noDot h.2]
theorem cutW_dot : ∀ {w b : List UInt8}, 46 ∉ w → cutW (w ++ 46 :: b) = (w, b, true)
  | [], b, _ => by simp [cutW]
  | c :: w, b, h => by
    simp only [List.mem_cons, not_or] at h
    simp only [List.cons_append]
    unfold cutW
    rw [if_neg (fun e => h.1 e.symm), cutW_dot h.2]
theorem isD_noDot {l : List UInt8} (h : l.all isD = true) : 46 ∉ l := fun hm => by
  have := List.all_eq_true.1 h 46 hm
  revert this; decide
def scanned (t : List UInt8) (g : Nat) : Option (Int × List Int) :=
  if ((cutW t).1 ++ (cutW t).2.1).all isD = true ∧ ((cutW t).2.2 = true → (cutW t).1 ≠ []) then
    some (if (cutW t).2.2 then (((cutW t).1.length + g : Nat) : Int) else -1, rd9 ((cutW t).1 ++ (cutW t).2.1)) else none
inductive At' (t : List UInt8) (g : Nat) : Nat → Int → List Int → Prop
  | front (j : Nat) (h : j ≤ t.length) (hd : (t.take j).all isD = true) : At' t g j (-1) (rd9 (t.take j))
  | behind (w b : List UInt8) (j : Nat) (ht : t = w ++ 46 :: b) (hw : w ≠ []) (hd : w.all isD = true) (hj : j ≤ b.length) (hb : (b.take j).all isD = true) : At' t g (w.length + 1 + j) ((w.length + g : Nat) : Int) (rd9 (w ++ b.take j))
theorem scan_is {s t : List UInt8} {g : Nat} {m : Bool} (hs : s.length = t.length + g) (hg : ∀ j, s[j + g]? = t[j]?) (hl : s.length ≤ 5000) :
    ∃ y, ref7_ParseDec_l3J (s, ⟨0, 0⟩, ⟨m, []⟩, (g : Int), -1, (g : Int)) = some y ∧
      (match scanned t g with | some (dot, D) => y = .inl (dot, ⟨0, 0⟩, ⟨m, D⟩) | none => ∃ B, y = .inr (2, ⟨0, 0⟩, B)) := by
  refine iter_ex (F := ref7_ParseDec_l3F) (fun x => 10000 - x.2.2.2.2.2.toNat) (fun x => ∃ (j : Nat) (dot : Int) (D : List Int), x = (s, ⟨0, 0⟩, ⟨m, D⟩, (g : Int), dot, ((j + g : Nat) : Int)) ∧ At' t g j dot D) _ ?_ _ ⟨0, -1, [], by simp, by have := At'.front (t := t) (g := g) 0 (by omega) (by simp); simpa [rd9] using this⟩ (by simp only; omega)
  rintro back x ⟨j, dot, D, rfl, hat⟩ hb
  unfold ref7_ParseDec_l3F
  simp only at hb ⊢
  have hDl : D.length ≤ j := by
    cases hat with
    | front j h hd => unfold rd9; simp; omega
    | behind w b j ht hw hd hj hb => unfold rd9; simp; omega
  have hjl : j ≤ t.length := by
    cases hat with
    | front j h hd => exact h
    | behind w b j ht hw hd hj hb => subst ht; simp; omega
  rcases Nat.lt_or_ge j t.length with hlt | hge
  · have hc : t[j]? = some t[j] := List.getElem?_eq_getElem hlt
    generalize t[j] = c at hc
    have hsc : s[j + g]? = some c := by rw [hg]; exact hc
    rw [decide_eq_true (by omega), brn_true, idxB hsc]
    simp only [obnd_some]
    have next : ∀ dot' D', At' t g (j + 1) dot' D' → ∃ y, back (s, ⟨0, 0⟩, ⟨m, D'⟩, (g : Int), dot', IntKind.i64.wrap (((j + g : Nat) : Int) + 1)) = some y ∧
        (match scanned t g with | some (dot, D) => y = .inl (dot, ⟨0, 0⟩, ⟨m, D⟩) | none => ∃ B, y = .inr (2, ⟨0, 0⟩, B)) := fun dot' D' h => by
      rw [i64_in (by omega) (by omega)]
      exact hb _ ⟨j + 1, dot', D', by simp; omega, h⟩ (by simp only; omega)
    have digit : (isD c = false → scanned t g = none) → (isD c = true → At' t g (j + 1) dot (dv c :: D)) → ∃ y, (brn (decide (48 ≤ (c.toNat : Int)))
          (brn (decide ((c.toNat : Int) ≤ 57))
            (obnd (app 8 [IntKind.i64.wrap (IntKind.u8.wrap ((c.toNat : Int) - 48))] D) fun zs => back (s, ⟨0, 0⟩, ⟨m, zs⟩, (g : Int), dot, IntKind.i64.wrap (((j + g : Nat) : Int) + 1)))
            (some (Sum.inr (2, ⟨0, 0⟩, ⟨m, D⟩))))
          (some (Sum.inr (2, ⟨0, 0⟩, ⟨m, D⟩)))) = some y ∧
        (match scanned t g with | some (dot, D) => y = .inl (dot, ⟨0, 0⟩, ⟨m, D⟩) | none => ∃ B, y = .inr (2, ⟨0, 0⟩, B)) := fun hno hyes => by
      have hcl := c.toNat_lt
      by_cases c1 : (48 : Int) ≤ (c.toNat : Int)
      · rw [decide_eq_true c1, brn_true]
        by_cases c2 : (c.toNat : Int) ≤ 57
        · have e : IntKind.i64.wrap (IntKind.u8.wrap ((c.toNat : Int) - 48)) = dv c := by
            rw [u8_in (by omega) (by omega), i64_in (by omega) (by omega)]; unfold dv; omega
          rw [decide_eq_true c2, brn_true, e, appS (by simp; omega), obnd_some]
          exact next _ _ (hyes (by unfold isD; simp; omega))
        · rw [decide_eq_false c2, brn_false, hno (by unfold isD; simp; omega)]
          exact ⟨_, rfl, _, rfl⟩
      · rw [decide_eq_false c1, brn_false, hno (by unfold isD; simp; omega)]
        exact ⟨_, rfl, _, rfl⟩
    cases hat with
    | front j h hd =>
      have ht : t.take (j + 1) = t.take j ++ [c] := by rw [List.take_add_one, hc]; rfl
      have htt : t = t.take j ++ c :: t.drop (j + 1) := by
        conv => lhs; rw [← List.take_append_drop (j + 1) t, ht]
        simp
      have hyes : isD c = true → At' t g (j + 1) (-1) (dv c :: rd9 (t.take j)) := fun h1 => by
        rw [← rd9_snoc, ← ht]
        exact .front (j + 1) (by omega) (by rw [ht, List.all_append, hd, Bool.true_and, List.all_cons, h1]; rfl)
      have hno : c ≠ 46 → isD c = false → scanned t g = none := fun h46 h1 => by
        unfold scanned
        rw [if_neg]
        rintro ⟨h2, _⟩
        have hm : c ∈ (cutW t).1 := by
          have : cutW t = (t.take j ++ c :: (cutW (t.drop (j + 1))).1, (cutW (t.drop (j + 1))).2.1, (cutW (t.drop (j + 1))).2.2) := by
            conv => lhs; rw [htt]
            clear hb next digit
            generalize t.drop (j + 1) = r
            have hnd := isD_noDot hd
            generalize t.take j = q at hnd
            induction q with
            | nil => simp only [List.nil_append]; conv => lhs; unfold cutW
                     rw [if_neg h46]
            | cons d q ih =>
              simp only [List.mem_cons, not_or] at hnd
              simp only [List.cons_append]
              conv => lhs; unfold cutW
              rw [if_neg (fun e => hnd.1 e.symm), ih hnd.2]
          rw [this]; simp
        have := List.all_eq_true.1 h2 c (List.mem_append_left _ hm)
        rw [h1] at this; cases this
      by_cases h46 : c = 46
      · subst h46
        rw [decide_eq_true (by rfl), brn_true, decide_eq_true (by omega), brn_true]
        by_cases hj0 : 0 < j
        · rw [decide_eq_true (by omega), brn_true]
          have := At'.behind (g := g) (t.take j) (t.drop (j + 1)) 0 htt (by
            intro e
            have h9 := congrArg List.length e
            rw [List.length_take, List.length_nil] at h9
            omega) hd (by omega) (by simp)
          rw [List.length_take, Nat.min_eq_left (by omega), List.take_zero, List.append_nil] at this
          exact next _ _ this
        · rw [decide_eq_false (by omega), brn_false]
          have hj0 : j = 0 := by omega
          subst hj0
          refine digit (fun _ => ?_) (fun h => absurd h (by decide))
          unfold scanned
          rw [if_neg]
          rintro ⟨_, h3⟩
          have : cutW t = ([], t.drop 1, true) := by
            conv => lhs; rw [htt]
            simp [cutW]
          rw [this] at h3
          exact h3 rfl rfl
      · have : ¬ ((c.toNat : Int) = 46) := fun e => h46 (UInt8.toNat_inj.1 (show c.toNat = (46 : UInt8).toNat by simp; omega))
        rw [decide_eq_false this, brn_false]
        exact digit (hno h46) hyes
    | behind w b i ht hw hd hj hbd =>
      have hcb : b[i]? = some c := by
        rw [ht, show w.length + 1 + i = w.length + (i + 1) by omega, List.getElem?_append_right (by omega)] at hc
        simpa using hc
      have hib : i < b.length := (List.getElem?_eq_some_iff.1 hcb).1
      have htk : b.take (i + 1) = b.take i ++ [c] := by rw [List.take_add_one, hcb]; rfl
      have hyes : isD c = true → At' t g (w.length + 1 + i + 1) ((w.length + g : Nat) : Int) (dv c :: rd9 (w ++ b.take i)) := fun h1 => by
        rw [← rd9_snoc, List.append_assoc, ← htk]
        exact .behind w b (i + 1) ht hw hd (by omega) (by rw [htk, List.all_append, hbd, Bool.true_and, List.all_cons, h1]; rfl)
      have hno : isD c = false → scanned t g = none := fun h1 => by
        unfold scanned
        rw [if_neg]
        rintro ⟨h2, _⟩
        rw [ht, cutW_dot (isD_noDot hd)] at h2
        have := List.all_eq_true.1 h2 c (List.mem_append_right _ (List.mem_of_getElem? hcb))
        rw [h1] at this; cases this
      by_cases h46 : (c.toNat : Int) = 46
      · rw [decide_eq_true h46, brn_true, decide_eq_false (by omega), brn_false]
        exact digit hno hyes
      · rw [decide_eq_false h46, brn_false]
        exact digit hno hyes
  · rw [decide_eq_false (by omega), brn_false]
    cases hat with
    | front j h hd =>
      have : j = t.length := by omega
      subst this
      rw [List.take_of_length_le (Nat.le_refl _)] at hd ⊢
      refine ⟨_, rfl, ?_⟩
      unfold scanned
      rw [cutW_noDot (isD_noDot hd)]
      simp [hd]
    | behind w b i ht hw hd hj hbd =>
      have : i = b.length := by rw [ht] at hge; simp at hge; omega
      subst this
      rw [List.take_of_length_le (Nat.le_refl _)] at hbd ⊢
      refine ⟨_, rfl, ?_⟩
      unfold scanned
      rw [ht, cutW_dot (isD_noDot hd)]
      simp only
      rw [if_pos ⟨by rw [List.all_append, hd, hbd]; rfl, fun _ => hw⟩]
      simp
end Go.Proofs.YtdgpkbnnljblmaaGreatDoor
