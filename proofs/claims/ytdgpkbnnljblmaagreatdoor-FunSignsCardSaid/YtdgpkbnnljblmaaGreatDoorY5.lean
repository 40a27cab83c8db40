/- Y5 -/
import Derived.Test.YtdgpkbnnljblmaaGreatDoorY4
namespace Go.Proofs.YtdgpkbnnljblmaaGreatDoor
open Go Go.Ev Go.Lib
theorem ascii_ok : ∀ {l : List UInt8}, (∀ c ∈ l, c.toNat < 128) → validD l = true
  | [], _ => rfl
  | c :: l, h => by
    have hc := h c (by simp)
    have hd : decodeL (c :: l) = (c.toNat, 1) := by
      rw [decodeL_N]
      unfold decodeN
      rw [if_pos (by simpa using hc)]; rfl
    rw [validD_step _ (by simp), hd, if_neg (by simp only; omega)]
    exact ascii_ok (l := l) (fun d hd => h d (List.mem_cons_of_mem _ hd))
theorem words_ascii {D : List Int} (h : isDig D) : ∀ c ∈ wordsOf D, c.toNat < 128 := by
  intro c hc
  unfold wordsOf at hc
  simp only [List.mem_reverse, List.mem_map] at hc
  obtain ⟨d, hd, rfl⟩ := hc
  have := h d hd
  unfold chr
  rw [show (UInt8.ofNat (48 + d.toNat)).toNat = (48 + d.toNat) % 256 from rfl]
  omega
theorem decWords_ok {M : Int} {s : Nat} (hM : I64 M) (hs : s ≤ 9) : (decWords M s).length ≤ 45 ∧ ∀ c ∈ decWords M s, c.toNat < 128 := by
  have l1 := len19 hM
  have hp := padded_len M.natAbs s
  have hd := padded_dig M.natAbs s
  have w : ∀ D : List Int, (wordsOf D).length = D.length := fun D => by unfold wordsOf; simp
  unfold decWords dotted
  constructor
  · have hs1 : (if M < 0 then [(45 : UInt8)] else []).length ≤ 1 := by split <;> simp
    have hp30 : (padded M.natAbs s).length ≤ 20 := by rw [hp]; omega
    rw [List.length_append]
    by_cases h0 : s = 0
    · rw [if_pos h0, w]; omega
    · rw [if_neg h0]
      simp only [List.length_append, List.length_cons, w, List.length_drop, List.length_take]
      omega
  · intro c hc
    rcases List.mem_append.1 hc with hc | hc
    · split at hc
      · simp only [List.mem_singleton] at hc; subst hc; decide
      · simp at hc
    · split at hc
      · exact words_ascii hd c hc
      · rcases List.mem_append.1 hc with hc | hc
        · exact words_ascii (isDig_drop hd _) c hc
        · rcases List.mem_cons.1 hc with rfl | hc
          · decide
          · exact words_ascii (isDig_take hd _) c hc
def texR (v : Val) : List UInt8 := (val_TextF v).getD []
theorem tex_eq {v : Val} (h : okW v) : val_TextF v = some (texR v) ∧ ref13_ValTextF v = some (texR v) := by
  obtain ⟨r, h1, h2⟩ := text_eq h.1 h.2.2
  unfold texR
  rw [h1]; exact ⟨rfl, h2⟩
theorem tex_ok {v : Val} (h : okW v) (h4 : v.Kind ≠ 4) : (texR v).length ≤ 3000 ∧ validD (texR v) = true := by
  obtain ⟨h, hl, hm⟩ := h
  rcases h with rfl | ⟨d, rfl, hd⟩ | ⟨s, rfl, hs⟩ | ⟨t, rfl⟩ | ⟨e, rfl⟩
  · exact ⟨by decide, rfl⟩
  · obtain ⟨M, S⟩ := d
    have hm' : I64 M := hm
    obtain ⟨s, rfl⟩ := Int.eq_ofNat_of_zero_le hd.1
    have hs : s ≤ 9 := by have := hd.2.1; simp only at this; omega
    have e : texR (vN ⟨M, (s : Int)⟩) = decWords M s := by
      unfold texR val_TextF vN
      simp [decText_is hm' hs]
    have := decWords_ok hm' hs
    rw [e]; exact ⟨by omega, ascii_ok this.2⟩
  · exact ⟨hl, hs⟩
  · cases t <;> exact ⟨by decide, by decide +kernel⟩
  · exact absurd rfl h4
def textV (x : List UInt8) : Val := if (unitsV x).2 = 0 then vS x else vE 15
theorem text_is {x : List UInt8} (hl : x.length ≤ 100000000) : fun_textF x = some (textV x) := by
  unfold fun_textF textV
  rw [Units_is hl, obnd_some]
  by_cases h : (unitsV x).2 = 0
  · rw [if_pos h, h]; rfl
  · rw [if_neg h, decide_eq_false h]; rfl
theorem ofStr_is {x : List UInt8} (hl : x.length ≤ 7000) : ref13_OfStrF x = some (textV x) := by
  unfold ref13_OfStrF textV
  rw [refUnits_is hl, obnd_some]
  by_cases h : (unitsV x).2 = 0
  · rw [if_pos h, h]; rfl
  · rw [if_neg h, decide_eq_false h]; rfl
def mulR (a b : Dec) : Dec × Int := (dec_MulF (a, b)).getD (⟨0, 0⟩, 0)
theorem mulR_eq {a b : Dec} (ha : okd a) (hb : okd b) : dec_MulF (a, b) = some (mulR a b) ∧ ref7_MulDecF (a, b) = some (mulR a b) ∧ okR (mulR a b) := by
  obtain ⟨r, h1, h2, h3⟩ := mul_eq ha hb
  unfold mulR
  rw [h1]; exact ⟨rfl, h2, h3⟩
def powS (a : Dec) (s : Dec) (_ : Unit) : Dec ⊕ (Dec ⊕ ((Dec × Int) × Dec)) := let r := mulR s a; bif decide (r.2 = 0) then .inl r.1 else .inr (.inr (r, s))
theorem powS_ok {a s s' : Dec} {u : Unit} (ha : okd a) (hs : okd s) (h : powS a s u = .inl s') : okd s' := by
  unfold powS at h
  simp only at h
  by_cases h0 : (mulR s a).2 = 0
  · rw [decide_eq_true h0, cond_true] at h
    cases h
    exact (mulR_eq hs ha).2.2.1 h0
  · rw [decide_eq_false h0, cond_false] at h; cases h
def powX (a : Dec) (n : Nat) : Dec ⊕ ((Dec × Int) × Dec) := foldX (powS a) .inl ⟨1, 0⟩ (List.replicate n ())
theorem pow_l1 {a : Dec} (v : Val) {n : Nat} (ha : okd a) (hn : n ≤ 1000) : fun_power_l1J (a, v, ⟨1, 0⟩, (n : Int), 0) = some ((fun (r : Dec ⊕ ((Dec × Int) × Dec)) => match r with | .inl d => .inl ((), v, d) | .inr (r, _) => .inr ((), numV r, r.1)) (powX a n)) :=
  fold_loop (F := fun_power_l1F) (fun (s : Dec) (i : Nat) => (a, v, s, (n : Int), (i : Int))) (fun (r : Dec ⊕ ((Dec × Int) × Dec)) => match r with | .inl d => .inl ((), v, d) | .inr (r, _) => .inr ((), numV r, r.1)) (List.replicate n ()) (powS a) .inl (fun s _ => okd s) (by rw [List.length_replicate]; omega)
    (fun back s i hi hs => by
      rw [List.length_replicate] at hi
      unfold fun_power_l1F powS
      simp only
      rw [ltT hi, brn_true, (mulR_eq hs ha).1, obnd_some, wr1 (by omega), num_is2, obnd_some]
      cases decide ((mulR s a).2 = 0) <;> rfl)
    (fun s i hi s' hs h => powS_ok ha hs h)
    (fun back s hs => by
      rw [List.length_replicate]
      unfold fun_power_l1F
      simp only
      rw [ltF, brn_false]) _ (okdI (by unfold I64; omega))
theorem refPow_l1 {a : Dec} (v : Val) {n : Nat} (ha : okd a) (hn : n ≤ 1000) : ref13_power_l1J (a, v, (n : Int), ⟨1, 0⟩, 0) = some ((fun (r : Dec ⊕ ((Dec × Int) × Dec)) => match r with | .inl d => .inl ((), v, d) | .inr (r, s) => .inr ((), numV r, s)) (powX a n)) :=
  fold_loop (F := ref13_power_l1F) (fun (s : Dec) (i : Nat) => (a, v, (n : Int), s, (i : Int))) (fun (r : Dec ⊕ ((Dec × Int) × Dec)) => match r with | .inl d => .inl ((), v, d) | .inr (r, s) => .inr ((), numV r, s)) (List.replicate n ()) (powS a) .inl (fun s _ => okd s) (by rw [List.length_replicate]; omega)
    (fun back s i hi hs => by
      rw [List.length_replicate] at hi
      unfold ref13_power_l1F powS
      simp only
      rw [ltT hi, brn_true, (mulR_eq hs ha).2.1, obnd_some, wr1 (by omega), ofDec_is, obnd_some]
      cases decide ((mulR s a).2 = 0) <;> rfl)
    (fun s i hi s' hs h => powS_ok ha hs h)
    (fun back s hs => by
      rw [List.length_replicate]
      unfold ref13_power_l1F
      simp only
      rw [ltF, brn_false]) _ (okdI (by unfold I64; omega))
theorem fold_ok {a : Dec} (ha : okd a) : ∀ (l : List Unit) (s d : Dec), okd s → foldX (powS a) (.inl : Dec → Dec ⊕ ((Dec × Int) × Dec)) s l = .inl d → okd d
  | [], s, d, hs, h => by simp only [foldX] at h; cases h; exact hs
  | u :: l, s, d, hs, h => by
    simp only [foldX] at h
    cases hst : powS a s u with
    | inl s' => rw [hst] at h; exact fold_ok ha l s' d (powS_ok ha hs hst) h
    | inr y =>
      rw [hst] at h
      unfold powS at hst
      simp only at hst
      by_cases h0 : (mulR s a).2 = 0
      · rw [decide_eq_true h0, cond_true] at hst; cases hst
      · rw [decide_eq_false h0, cond_false] at hst; cases hst; cases h
theorem pow_eq {a b : Dec} (ha : okd a) : ∃ v, fun_powerF (a, b) = some v ∧ ref13_powerF (a, b) = some v := by
  unfold fun_powerF ref13_powerF ref13_WholeF
  simp only [fault_is, refFault_is, obnd_some]
  by_cases h0 : b.S = 0
  · rw [decide_eq_true h0]
    simp only [Bool.not_true, brn_false, brn_true]
    by_cases h1 : b.M < -64
    · rw [decide_eq_true h1, decide_eq_false (show ¬ -64 ≤ b.M by omega)]; exact ⟨_, rfl, rfl⟩
    rw [decide_eq_false h1, decide_eq_true (show -64 ≤ b.M by omega)]
    simp only [brn_true, brn_false, obnd_some]
    by_cases h2 : 64 < b.M
    · rw [decide_eq_true h2, decide_eq_false (show ¬ b.M ≤ 64 by omega)]; exact ⟨_, rfl, rfl⟩
    rw [decide_eq_false h2, decide_eq_true (show b.M ≤ 64 by omega)]
    simp only [Bool.not_true, brn_false]
    rw [show dec_IntF 1 = some ⟨1, 0⟩ from rfl, obnd_some, i64_in (n := 0 - b.M) (by omega) (by omega)]
    have hd := fold_ok ha (List.replicate b.M.natAbs ()) ⟨1, 0⟩
    have i1 : I64 1 := by unfold I64; omega
    by_cases h3 : b.M < 0
    · rw [decide_eq_true (show b.M < 0 - b.M by omega), decide_eq_true h3]
      simp only [cond_true, brn_true]
      rw [show 0 - b.M = ((b.M.natAbs : Nat) : Int) by omega, pow_l1 _ ha (by omega), refPow_l1 _ ha (by omega)]
      unfold powX
      cases hx : foldX (powS a) .inl ⟨1, 0⟩ (List.replicate b.M.natAbs ()) with
      | inl d =>
        obtain ⟨r, e1, e2, _⟩ := div_eq (okdI i1) (hd d (okdI i1) hx)
        simp only [obnd_some, osum]
        rw [e1, e2]
        simp only [obnd_some]
        rw [num_is2, ofDec_is]
        exact ⟨_, rfl, rfl⟩
      | inr y => exact ⟨_, rfl, rfl⟩
    · rw [decide_eq_false (show ¬ b.M < 0 - b.M by omega), decide_eq_false h3]
      simp only [cond_false, brn_false]
      rw [show b.M = ((b.M.natAbs : Nat) : Int) by omega, pow_l1 _ ha (by omega), refPow_l1 _ ha (by omega)]
      unfold powX
      cases hx : foldX (powS a) .inl ⟨1, 0⟩ (List.replicate b.M.natAbs ()) with
      | inl d =>
        simp only [obnd_some, osum]
        rw [num_is2, ofNum_is]
        exact ⟨_, rfl, rfl⟩
      | inr y => exact ⟨_, rfl, rfl⟩
  · rw [decide_eq_false h0]; exact ⟨_, rfl, rfl⟩
theorem bin_eq {op : Int} {a b : Val} (ha : okW a) (hb : okW b) : ∃ v, fun_BinaryF (op, a, b) = some v ∧ ref13_BinaryF (op, a, b) = some v := by
  unfold fun_BinaryF ref13_BinaryF fun_Binary_b1J ref13_Binary_b1J
  simp only [fault_is, refFault_is, obnd_some]
  by_cases h1 : a.Kind = 4
  · rw [decide_eq_true h1]; exact ⟨_, rfl, rfl⟩
  by_cases h2 : b.Kind = 4
  · rw [decide_eq_false h1, decide_eq_true h2]; exact ⟨_, rfl, rfl⟩
  rw [decide_eq_false h1, decide_eq_false h2]
  by_cases h3 : op < 1
  · rw [decide_eq_true h3]; exact ⟨_, rfl, rfl⟩
  by_cases h4 : 12 < op
  · rw [decide_eq_false h3, decide_eq_true h4]; exact ⟨_, rfl, rfl⟩
  rw [decide_eq_false h3, decide_eq_false h4]
  simp only [brn_false, obnd_some]
  by_cases h5 : op = 6
  · subst h5
    obtain ⟨x1, x2⟩ := tex_eq ha
    obtain ⟨y1, y2⟩ := tex_eq hb
    have l1 := (tex_ok ha h1).1
    have l2 := (tex_ok hb h2).1
    rw [x1, x2, y1, y2]
    simp only [obnd_some]
    rw [catS (by omega)]
    simp only [obnd_some]
    rw [text_is (by rw [List.length_append]; omega), ofStr_is (by rw [List.length_append]; omega)]
    exact ⟨_, rfl, rfl⟩
  rw [decide_eq_false h5, brn_false]
  by_cases h6 : 6 < op
  · obtain ⟨r, e1, e2⟩ := compare_eq ha.1 hb.1 ha.2.1 hb.2.1 ha.2.2 hb.2.2
    rw [decide_eq_true h6, decide_eq_true (show 7 ≤ op by omega), brn_true, brn_true, e1, e2]
    simp only [obnd_some]
    rcases (show op = 7 ∨ op = 8 ∨ op = 9 ∨ op = 10 ∨ op = 11 ∨ op = 12 by omega) with rfl | rfl | rfl | rfl | rfl | rfl <;> exact ⟨_, rfl, rfl⟩
  rw [decide_eq_false h6, decide_eq_false (show ¬ 7 ≤ op by omega), brn_false, brn_false]
  simp only [osum, brn_false, obnd_some]
  obtain ⟨x1, x2⟩ := num_eq ha
  obtain ⟨y1, y2⟩ := num_eq hb
  have o1 := num_ok ha
  have o2 := num_ok hb
  rw [x1, x2, y1, y2]
  simp only [obnd_some]
  cases (numR a).2.2 with
  | false => exact ⟨_, rfl, rfl⟩
  | true =>
    cases (numR b).2.2 with
    | false => exact ⟨_, rfl, rfl⟩
    | true =>
      simp only [Bool.not_true, brn_false]
      rcases (show op = 1 ∨ op = 2 ∨ op = 3 ∨ op = 4 ∨ op = 5 by omega) with rfl | rfl | rfl | rfl | rfl
      · obtain ⟨r, e1, e2, _⟩ := add_eq o1 o2
        rw [e1, e2]; simp only [obnd_some]; rw [num_is2, ofDec_is]; exact ⟨_, rfl, rfl⟩
      · obtain ⟨r, e1, e2, _⟩ := sub_eq o1 o2
        rw [e1, e2]; simp only [obnd_some]; rw [num_is2, ofDec_is]; exact ⟨_, rfl, rfl⟩
      · obtain ⟨r, e1, e2, _⟩ := mul_eq o1 o2
        rw [e1, e2]; simp only [obnd_some]; rw [num_is2, ofDec_is]; exact ⟨_, rfl, rfl⟩
      · obtain ⟨r, e1, e2, _⟩ := div_eq o1 o2
        rw [e1, e2]; simp only [obnd_some]; rw [num_is2, ofDec_is]; exact ⟨_, rfl, rfl⟩
      · obtain ⟨r, e1, e2⟩ := pow_eq (b := (numR b).1) o1
        rw [e1, e2]; exact ⟨_, rfl, rfl⟩
theorem un_eq {op : Int} {a : Val} (ha : okW a) : ∃ v, fun_UnaryF (op, a) = some v ∧ ref13_UnaryF (op, a) = some v := by
  unfold fun_UnaryF ref13_UnaryF
  simp only [fault_is, refFault_is, obnd_some]
  by_cases h1 : op = 2
  · rw [decide_eq_true h1]; exact ⟨_, rfl, rfl⟩
  rw [decide_eq_false h1, brn_false, brn_false]
  obtain ⟨x1, x2⟩ := num_eq ha
  have o1 := num_ok ha
  rw [x1, x2]
  simp only [obnd_some]
  by_cases h2 : op = 1
  · subst h2
    simp only [decide_true, Bool.not_true, brn_false, brn_true]
    cases (numR a).2.2 with
    | false => exact ⟨_, rfl, rfl⟩
    | true =>
      obtain ⟨r, e1, e2, _⟩ := sub_eq okd0 o1
      rw [show dec_IntF 0 = some ⟨0, 0⟩ from rfl]
      simp only [obnd_some]
      rw [e1, e2]; simp only [obnd_some]; rw [num_is2, ofDec_is]; exact ⟨_, rfl, rfl⟩
  rw [decide_eq_false h2]
  simp only [Bool.not_false, brn_true]
  by_cases h3 : op = 3
  · subst h3
    simp only [decide_true, Bool.not_true, brn_false]
    cases (numR a).2.2 with
    | false => exact ⟨_, rfl, rfl⟩
    | true =>
      obtain ⟨r, e1, e2, _⟩ := div_eq o1 (okdI (show I64 100 by unfold I64; omega))
      rw [show dec_IntF 100 = some ⟨100, 0⟩ from rfl]
      simp only [Bool.not_true, brn_false, obnd_some]
      rw [e1, e2]; simp only [obnd_some]; rw [num_is2, ofDec_is]; exact ⟨_, rfl, rfl⟩
  rw [decide_eq_false h3]
  exact ⟨_, rfl, rfl⟩
theorem of_is2 (v : Val) : law9_OfF v = some v := rfl
theorem okW_of {v : Val} (hl : v.S.length ≤ 3000) (hm : I64 v.N.M) (h : val_CheckF v = some 0) : okW v := by
  obtain ⟨e, h1, _, h3⟩ := check_eq hl
  rw [h1] at h
  exact ⟨h3 (Option.some.inj h), hl, hm⟩
end Go.Proofs.YtdgpkbnnljblmaaGreatDoor
