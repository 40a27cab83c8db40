/- Y5 -/
import Derived.Test.YtdgpkbnnljblmaaGreatDoorY4
namespace Go.Proofs.YtdgpkbnnljblmaaGreatDoor
open Go Go.Ev Go.Lib
theorem ascii_ok : ∀ {l : List UInt8}, (∀ c ∈ l, c.toNat < 128) → validD l = true
  | [], _ => rfl
  | c :: l, h => by
    have hc := h c (by simp)
    have hd : decodeL (c :: l) = (c.toNat, 1) := by
      rw [decodeL_N]
      unfold decodeN
      rw [if_pos (by simpa using hc)]; rfl
    rw [validD_step _ (by simp), hd, if_neg (by simp only; omega)]
    exact ascii_ok (l := l) (fun d hd => h d (List.mem_cons_of_mem _ hd))
theorem words_ascii {D : List Int} (h : isDig D) : ∀ c ∈ wordsOf D, c.toNat < 128 := by
  intro c hc
  unfold wordsOf at hc
  simp only [List.mem_reverse, List.mem_map] at hc
  obtain ⟨d, hd, rfl⟩ := hc
  have := h d hd
  unfold chr
  rw [show (UInt8.ofNat (48 + d.toNat)).toNat = (48 + d.toNat) % 256 from rfl]
  omega
theorem decWords_ok {M : Int} {s : Nat} (hM : I64 M) (hs : s ≤ 9) : (decWords M s).length ≤ 45 ∧ ∀ c ∈ decWords M s, c.toNat < 128 := by
  have l1 := len19 hM
  have hp := padded_len M.natAbs s
  have hd := padded_dig M.natAbs s
  have w : ∀ D : List Int, (wordsOf D).length = D.length := fun D => by unfold wordsOf; simp
  unfold decWords dotted
  constructor
  · have hs1 : (if M < 0 then [(45 : UInt8)] else []).length ≤ 1 := by split <;> simp
    have hp30 : (padded M.natAbs s).length ≤ 20 := by rw [hp]; omega
    rw [List.length_append]
    by_cases h0 : s = 0
    · rw [if_pos h0, w]; omega
    · rw [if_neg h0]
      simp only [List.length_append, List.length_cons, w, List.length_drop, List.length_take]
      omega
  · intro c hc
    rcases List.mem_append.1 hc with hc | hc
    · split at hc
      · simp only [List.mem_singleton] at hc; subst hc; decide
      · simp at hc
    · split at hc
      · exact words_ascii hd c hc
      · rcases List.mem_append.1 hc with hc | hc
        · exact words_ascii (isDig_drop hd _) c hc
        · rcases List.mem_cons.1 hc with rfl | hc
          · decide
          · exact words_ascii (isDig_take hd _) c hc
def texR (v : Val) : List UInt8 := (val_TextF v).getD []
theorem tex_eq {v : Val} (h : okW v) : val_TextF v = some (texR v) ∧ ref13_ValTextF v = some (texR v) := by
  obtain ⟨r, h1, h2⟩ := text_eq h.1 h.2.2
  unfold texR
  rw [h1]; exact ⟨rfl, h2⟩
theorem tex_ok {v : Val} (h : okW v) (h4 : v.Kind ≠ 4) : (texR v).length ≤ 3000 ∧ validD (texR v) = true := by
  obtain ⟨h, hl, hm⟩ := h
  rcases h with rfl | ⟨d, rfl, hd⟩ | ⟨s, rfl, hs⟩ | ⟨t, rfl⟩ | ⟨e, rfl⟩
  · exact ⟨by decide, rfl⟩
  · obtain ⟨M, S⟩ := d
    have hm' : I64 M := hm
    obtain ⟨s, rfl⟩ := Int.eq_ofNat_of_zero_le hd.1
    have hs : s ≤ 9 := by have := hd.2.1; simp only at this; omega
    have e : texR (vN ⟨M, (s : Int)⟩) = decWords M s := by
      unfold texR val_TextF vN
      simp [decText_is hm' hs]
    have := decWords_ok hm' hs
    rw [e]; exact ⟨by omega, ascii_ok this.2⟩
  · exact ⟨hl, hs⟩
  · cases t <;> exact ⟨by decide, by decide +kernel⟩
  · exact absurd rfl h4
def textV (x : List UInt8) : Val := if (unitsV x).2 = 0 then vS x else vE 15
theorem text_is {x : List UInt8} (hl : x.length ≤ 100000000) : fun_textF x = some (textV x) := by
  unfold fun_textF textV
  rw [Units_is hl, obnd_some]
  by_cases h : (unitsV x).2 = 0
  · rw [if_pos h, h]; rfl
  · rw [if_neg h, decide_eq_false h]; rfl
end Go.Proofs.YtdgpkbnnljblmaaGreatDoor
