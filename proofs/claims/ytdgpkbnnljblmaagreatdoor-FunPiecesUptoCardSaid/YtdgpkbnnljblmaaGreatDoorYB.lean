/- YB -/
import Derived.Test.YtdgpkbnnljblmaaGreatDoorYA
namespace Go.Proofs.YtdgpkbnnljblmaaGreatDoor
open Go Go.Ev Go.Lib
theorem bifI2 {α : Type} (p : Prop) [Decidable p] (x y : α) : (bif decide p then x else y) = if p then x else y := by by_cases h : p <;> simp [h]
theorem subG {A : Type} {D : List A} {i k : Nat} (h : i ≤ k) (h2 : k ≤ D.length) : sub D (i : Int) (k : Int) = some ((D.take k).drop i) := by
  have hd : (decide ((0 : Int) ≤ (i : Int)) && decide ((i : Int) ≤ (k : Int)) && decide ((k : Int) ≤ (D.length : Int))) = true := by
    simp; omega
  simp only [sub, hd, cond_true, Int.toNat_natCast]
  try rfl
def amt (v : Val) (lo : Int) : Int ⊕ Val := if (numR v).2.2 = true then (if (numR v).1.S = 0 ∧ lo ≤ (numR v).1.M then .inl (numR v).1.M else .inr (vE 15)) else .inr (numR v).2.1
theorem amount_is {v : Val} {lo : Int} (h : okW v) : fun_amountF (v, lo) = some (match amt v lo with | .inl m => (m, v0, true) | .inr f => (0, f, false)) := by
  unfold fun_amountF amt
  simp only [fault_is, obnd_some]
  rw [(num_eq h).1, obnd_some]
  rcases numR v with ⟨⟨M, S⟩, f, b⟩
  cases b with
  | false => rfl
  | true =>
    simp only [Bool.not_true, brn_false, if_true]
    by_cases c1 : S = 0
    · rw [decide_eq_true c1]
      by_cases c2 : M < lo
      · rw [decide_eq_true c2, if_neg (by omega)]; rfl
      · rw [decide_eq_false c2, if_pos ⟨c1, by omega⟩]; rfl
    · rw [decide_eq_false c1, if_neg (fun c => c1 c.1)]; rfl
def lowOf (k : Int) (i : Nat) : Int := if k = 17 ∧ i = 0 then 1 else 0
def amtS (k : Int) (x : List Int × Nat) (v : Val) : (List Int × Nat) ⊕ (List Int ⊕ Val) := match amt v (lowOf k x.2) with
  | .inl m => .inl (x.1.set x.2 m, x.2 + 1)
  | .inr f => .inr (.inr f)
def amtsOf (k : Int) (vs : List Val) : List Int ⊕ Val := foldX (amtS k) (fun x => .inl x.1) ([1, 1], 0) vs
def amtG : List Int ⊕ Val → (List Int × Val) ⊕ (Unit × Val)
  | .inl ns => .inl (ns, v0)
  | .inr f => .inr ((), f)
theorem inb_is {n i : Nat} (h : i < n) : inb n (i : Int) = some i := by
  simp [inb, h]
theorem nth_is {A : Type} {l : List A} {i : Nat} (h : i < l.length) : nth l i = some l[i] := by
  simp [nth, h]
theorem worded_l2 {k : Int} {vs : List Val} (hv : ∀ v ∈ vs, okW v) (hl : vs.length ≤ 2) : fun_worded_l2J (k, v0, [1, 1], vs, (vs.length : Int), 0) = some (amtG (amtsOf k vs)) :=
  fold_loop (F := fun_worded_l2F) (fun (x : List Int × Nat) (i : Nat) => (k, v0, x.1, vs, (vs.length : Int), (i : Int))) amtG vs (amtS k) (fun x => .inl x.1) (fun x i => x.2 = i ∧ x.1.length = 2) (by omega)
    (fun back x i hi hp => by
      obtain ⟨ns, j⟩ := x
      simp only at hp
      obtain ⟨rfl, h2⟩ := hp
      unfold fun_worded_l2F amtS
      simp only
      have ha := fun lo => amount_is (lo := lo) (hv _ (List.getElem_mem hi))
      have hb := inb_is (show j < ns.length by omega)
      have hn := nth_is (show j < ns.length by omega)
      rw [ltT hi, brn_true, idxG hi, obnd_some, wr1 (by omega)]
      simp only [ha, hb, hn, obnd_some]
      by_cases c1 : k = 17
      · rw [decide_eq_true c1, brn_true]
        by_cases c2 : (j : Int) = 0
        · rw [decide_eq_true c2, brn_true, show lowOf k j = 1 from if_pos ⟨c1, by omega⟩]
          cases amt vs[j] 1 <;> rfl
        · rw [decide_eq_false c2, brn_false, show lowOf k j = 0 from if_neg (by omega)]
          cases amt vs[j] 0 <;> rfl
      · rw [decide_eq_false c1, brn_false, show lowOf k j = 0 from if_neg (fun c => c1 c.1)]
        cases amt vs[j] 0 <;> rfl)
    (fun x i hi x' hp h => by
      obtain ⟨ns, j⟩ := x
      simp only at hp
      obtain ⟨rfl, h2⟩ := hp
      unfold amtS at h
      simp only at h
      revert h
      cases amt vs[j] (lowOf k j) <;> intro h <;> cases h
      simp [h2])
    (fun back x hp => by
      unfold fun_worded_l2F
      simp only
      rw [ltF, brn_false]; rfl) ([1, 1], 0) ⟨rfl, rfl⟩
def pieceV (k : Int) (s : List UInt8) (ns : List Int) : Val :=
  let l := rs s
  if k = 15 then textV (encs (l.take (ns.getD 0 0).toNat))
  else if k = 16 then textV (encs ((l.drop (l.length - (ns.getD 0 0).toNat)).take (ns.getD 0 0).toNat))
  else textV (encs ((l.drop (ns.getD 0 0 - 1).toNat).take (ns.getD 1 0).toNat))
theorem pieceV_15 (s : List UInt8) (a b : Int) : pieceV 15 s [a, b] = textV (encs (((rs s).drop 0).take a.toNat)) := by simp [pieceV]
theorem pieceV_16 (s : List UInt8) (a b : Int) : pieceV 16 s [a, b] = textV (encs (((rs s).drop ((rs s).length - a.toNat)).take a.toNat)) := by simp [pieceV]
theorem pieceV_17 (s : List UInt8) (a b : Int) : pieceV 17 s [a, b] = textV (encs (((rs s).drop (a - 1).toNat).take b.toNat)) := by simp [pieceV]
theorem worR_ok {v : Val} (h : okW v) : (v.Kind = 4 → worR v = ([], v, false)) ∧ (v.Kind ≠ 4 → worR v = (texR v, v0, true)) := by
  unfold worR val_WordsF
  rw [(tex_eq h).1]
  constructor
  · intro h4; rw [decide_eq_true h4]; rfl
  · intro h4; rw [decide_eq_false h4]; rfl
theorem amt_ok {v : Val} {lo m : Int} (h : okW v) (e : amt v lo = .inl m) : lo ≤ m ∧ m ≤ 9223372036854775807 := by
  have := (num_ok h).2
  unfold I64 at this
  unfold amt at e
  split at e
  · split at e
    · rename_i hc; cases e; exact ⟨hc.2, this.2⟩
    · cases e
  · cases e
theorem encs_take_len {s : List UInt8} (hv : validD s = true) {i k : Nat} : (encs (((rs s).drop i).take k)).length ≤ s.length := by
  by_cases h : i ≤ (rs s).length
  · have := (slice_rs hv (i := i) (k := min k ((rs s).length - i)) (by omega)).2.2
    rw [show ((rs s).drop i).take k = ((rs s).drop i).take (min k ((rs s).length - i)) from by
      rw [List.take_eq_take_iff, List.length_drop]; omega]
    exact this
  · rw [List.drop_eq_nil_of_le (by omega)]; simp [encs]
theorem amts_ok {k : Int} : ∀ {vs : List Val} {ns : List Int}, vs.length ≤ 2 → (∀ v ∈ vs, okW v) → amtsOf k vs = .inl ns → ∃ a b : Int, ns = [a, b] ∧ 0 ≤ a ∧ a ≤ 9223372036854775807 ∧ 0 ≤ b ∧ b ≤ 9223372036854775807 ∧ (k = 17 → 1 ≤ a)
  | [], ns, _, _, e => by
    cases e
    exact ⟨1, 1, rfl, by omega, by omega, by omega, by omega, fun _ => by omega⟩
  | [v], ns, _, hv, e => by
    unfold amtsOf at e
    simp only [foldX, amtS] at e
    cases h : amt v (lowOf k 0) with
    | inr f => rw [h] at e; cases e
    | inl m =>
      rw [h] at e
      cases e
      have := amt_ok (hv v (by simp)) h
      unfold lowOf at this
      refine ⟨m, 1, rfl, ?_, this.2, by omega, by omega, fun hk => ?_⟩
      · have := this.1; split at this <;> omega
      · rw [if_pos ⟨hk, rfl⟩] at this; exact this.1
  | [v, w], ns, _, hv, e => by
    unfold amtsOf at e
    simp only [foldX, amtS] at e
    cases h : amt v (lowOf k 0) with
    | inr f => rw [h] at e; cases e
    | inl m =>
      rw [h] at e
      simp only at e
      have h1 := amt_ok (hv v (by simp)) h
      unfold lowOf at h1
      cases h' : amt w (lowOf k (0 + 1)) with
      | inr f => rw [h'] at e; cases e
      | inl m' =>
        rw [h'] at e
        cases e
        have h2 := amt_ok (hv w (by simp)) h'
        unfold lowOf at h2
        rw [if_neg (by omega)] at h2
        refine ⟨m, m', rfl, ?_, h1.2, h2.1, h2.2, fun hk => ?_⟩
        · have := h1.1; split at this <;> omega
        · rw [if_pos ⟨hk, rfl⟩] at h1; exact h1.1
  | _ :: _ :: _ :: _, _, h, _, _ => by simp only [List.length_cons] at h; omega
theorem wor_eq2 {v : Val} (h : okW v) : val_WordsF v = some (worR v) := (wor_eq h).1
theorem worded_piece {k : Int} (hk : k = 15 ∨ k = 16 ∨ k = 17) {v : Val} {vs : List Val} (h : okW v) (hv : ∀ w ∈ vs, okW w) (hl : vs.length ≤ 2) :
    fun_wordedF (k, v :: vs) = some (if v.Kind = 4 then v else match amtsOf k vs with | .inl ns => pieceV k (texR v) ns | .inr f => f) := by
  unfold fun_wordedF
  simp only
  rw [idxZ, obnd_some, wor_eq2 h, obnd_some]
  by_cases h4 : v.Kind = 4
  · rw [(worR_ok h).1 h4, if_pos h4]; rfl
  rw [(worR_ok h).2 h4, if_neg h4]
  simp only [Bool.not_true, brn_false]
  have hb : fun_worded_b1J (k, v :: vs, v0, texR v, k) = some (.inl ((), v0)) := by
    unfold fun_worded_b1J
    rcases hk with rfl | rfl | rfl <;> rfl
  rw [show (⟨0, ⟨0, 0⟩, [], false, 0⟩ : Val) = v0 from rfl, hb]
  simp only [obnd_some, osum]
  have hs : sub (v :: vs) 1 (((v :: vs).length : Nat) : Int) = some vs := by
    have := subG (D := v :: vs) (i := 1) (k := (v :: vs).length) (by simp) (by simp)
    rw [List.take_length] at this
    simpa using this
  rw [hs, obnd_some, worded_l2 hv hl, obnd_some]
  cases e : amtsOf k vs with
  | inr f => rfl
  | inl ns =>
    obtain ⟨a, b, rfl, a0, a1, b0, b1, ha⟩ := amts_ok hl hv e
    obtain ⟨tl, tv⟩ := tex_ok h h4
    rw [show amtG (.inl [a, b]) = .inl ([a, b], v0) from rfl]
    simp only
    have i1 : idx [a, b] 1 = some b := rfl
    have hrl := rs_length (texR v)
    have ht : ∀ x : List UInt8, x.length ≤ 3000 → (obnd (fun_textF x) fun y => some y) = some (textV x) := fun x hx => by rw [text_is (by omega), obnd_some]
    rcases hk with rfl | rfl | rfl
    · have hp := part_take (s := texR v) (f := 0) (n := a) (by omega) (by omega)
      rw [show decide ((15 : Int) = 15) = true from rfl, brn_true, idxZ, obnd_some, show (0 : Int) = ((0 : Nat) : Int) from rfl, hp, obnd_some, ht _ (by have := encs_take_len tv (i := 0) (k := a.toNat); omega), pieceV_15]
    · rw [show decide ((16 : Int) = 15) = false from rfl, brn_false, show decide ((16 : Int) = 16) = true from rfl, brn_true]
      rw [idxZ]
      have hr := runes_is (s := texR v) (by omega)
      unfold runes at hr
      rw [hr, obnd_some, obnd_some, obnd_some, i64_in (by omega) (by omega), bifI2, show (if ((rs (texR v)).length : Int) - a < 0 then 0 else ((rs (texR v)).length : Int) - a) = (((rs (texR v)).length - a.toNat : Nat) : Int) from by split <;> omega]
      rw [part_take (by omega) (by omega), obnd_some, ht _ (by have := encs_take_len tv (i := (rs (texR v)).length - a.toNat) (k := a.toNat); omega), pieceV_16]
    · rw [show decide ((17 : Int) = 15) = false from rfl, brn_false, show decide ((17 : Int) = 16) = false from rfl, brn_false, show decide ((17 : Int) = 17) = true from rfl, brn_true]
      have := ha rfl
      rw [idxZ, obnd_some, i1, obnd_some, i64_in (by omega) (by omega), show a - 1 = (((a - 1).toNat : Nat) : Int) by omega, part_take (by omega) (by omega), obnd_some, ht _ (by have := encs_take_len tv (i := (a - 1).toNat) (k := b.toNat); omega), pieceV_17]
end Go.Proofs.YtdgpkbnnljblmaaGreatDoor
