/- Y2 -/
import Derived.Test.YtdgpkbnnljblmaaGreatDoorY1
namespace Go.Proofs.YtdgpkbnnljblmaaGreatDoor
open Go Go.Ev Go.Lib
def numR (v : Val) : Dec × Val × Bool := (val_NumberF v).getD (⟨0, 0⟩, v0, false)
theorem num_eq {v : Val} (h : okW v) : val_NumberF v = some (numR v) ∧ ref13_NumberF v = some (numR v) := by
  obtain ⟨r, h1, h2⟩ := number_eq h.1 h.2.1
  unfold numR
  rw [h1]; exact ⟨rfl, h2⟩
theorem parse_ok (x : List UInt8) : okD (parseSpec x).1 ∧ I64 (parseSpec x).1.M := by
  have z : okD ⟨0, 0⟩ ∧ I64 (⟨0, 0⟩ : Dec).M := ⟨ok0, I0⟩
  unfold parseSpec
  generalize (cutW (textOf x)).1 = w
  generalize (cutW (textOf x)).2.1 = b
  generalize (cutW (textOf x)).2.2 = p
  generalize minusOf x = m
  split
  · exact z
  · rename_i hc
    have hd : (w ++ b).all isD = true := by
      cases h : (w ++ b).all isD with
      | true => rfl
      | false => rw [h] at hc; simp at hc
    unfold judged
    by_cases h1 : (if m then 9223372036854775808 < valB (w ++ b) 0 else 9223372036854775808 ≤ valB (w ++ b) 0)
    · rw [if_pos h1]; exact z
    rw [if_neg h1]
    by_cases h2 : 9 < b.length ∨ b.getLast? = some 48
    · rw [if_pos h2]; exact z
    rw [if_neg h2]
    simp only [not_or] at h2
    refine ⟨⟨by simp, by simp only; omega, fun h3 hm => ?_⟩, ?_⟩
    · simp only at h3 hm
      rcases List.eq_nil_or_concat b with rfl | ⟨l, c, rfl⟩
      · simp at h3
      · simp only [List.concat_eq_append] at hd h2 hm
        have hc : isD c = true := by
          rw [List.all_eq_true] at hd
          exact hd c (by simp)
        have hne : c ≠ 48 := fun e => h2.2 (by simp [e])
        have hv : valB (w ++ (l ++ [c])) 0 % 10 = c.toNat - 48 := by
          rw [← List.append_assoc, valB_append]
          unfold isD at hc
          simp only [Bool.and_eq_true, decide_eq_true_eq] at hc
          simp only [valB]; omega
        have hc48 : c.toNat ≠ 48 := fun e => hne (UInt8.toNat_inj.1 (by simpa using e))
        unfold isD at hc
        simp only [Bool.and_eq_true, decide_eq_true_eq] at hc
        generalize valB (w ++ (l ++ [c])) 0 = n at hv hm
        cases m
        · simp at hm; omega
        · simp at hm; omega
    · unfold I64
      generalize valB (w ++ b) 0 = n at h1
      cases m
      · simp at h1 ⊢; omega
      · simp at h1 ⊢; omega
theorem num_ok {v : Val} (h : okW v) : okD (numR v).1 ∧ I64 (numR v).1.M := by
  have z : okD ⟨0, 0⟩ ∧ I64 (⟨0, 0⟩ : Dec).M := ⟨ok0, I0⟩
  obtain ⟨h, hl, hm⟩ := h
  rcases h with rfl | ⟨d, rfl, hd⟩ | ⟨s, rfl, hs⟩ | ⟨t, rfl⟩ | ⟨e, rfl⟩
  · exact z
  · exact ⟨hd, hm⟩
  · have hl : s.length ≤ 3000 := hl
    unfold numR val_NumberF vS val_FaultF
    simp [parse_is (x := s) (by omega)]
    by_cases h : (parseSpec s).2 = 0 <;> simp [h]
    · exact parse_ok s
    · exact z
  · cases t
    · exact z
    · exact ⟨okInt 1, by unfold I64; decide⟩
  · exact z
def skipN (area : Bool) (v : Val) : Bool := area && (!decide (v.Kind = 1) && !decide (v.Kind = 4))
def numStep (area : Bool) (acc : List Dec) (v : Val) : List Dec ⊕ (List Dec ⊕ Val) :=
  bif skipN area v then .inl acc else bif (numR v).2.2 then .inl (acc ++ [(numR v).1]) else .inr (.inr (numR v).2.1)
def numL (area : Bool) (acc : List Dec) (l : List Val) : List Dec ⊕ Val := foldX (numStep area) .inl acc l
def numOut : List Dec ⊕ Val → ((List Dec) × Val) ⊕ ((List Dec × Bool) × Val)
  | .inl acc => .inl (acc, v0)
  | .inr v => .inr (([], false), v)
theorem numStep_len {area : Bool} {acc acc' : List Dec} {v : Val} (h : numStep area acc v = .inl acc') : acc'.length ≤ acc.length + 1 := by
  unfold numStep at h
  cases hk : skipN area v with
  | true => rw [hk, cond_true] at h; injection h with h; subst h; omega
  | false =>
    rw [hk, cond_false] at h
    cases hn : (numR v).2.2 with
    | true => rw [hn, cond_true] at h; injection h with h; subst h; simp
    | false => rw [hn, cond_false] at h; cases h
theorem numL_len {area : Bool} : ∀ {l : List Val} {acc acc' : List Dec}, numL area acc l = .inl acc' → acc'.length ≤ acc.length + l.length
  | [], acc, acc', h => by simp only [numL, foldX] at h; injection h with h; subst h; simp
  | v :: l, acc, acc', h => by
    simp only [numL, foldX] at h
    cases hs : numStep area acc v with
    | inl a =>
      rw [hs] at h
      have := numL_len (l := l) h
      have := numStep_len hs
      simp only [List.length_cons]; omega
    | inr y =>
      rw [hs] at h
      have h : y = .inl acc' := h
      subst h
      unfold numStep at hs
      cases h1 : skipN area v <;> cases h2 : (numR v).2.2 <;> simp [h1, h2] at hs
theorem numbers_l2 {a : Arg} {acc : List Dec} (hL : a.L.length ≤ 40) (hv : ∀ v ∈ a.L, okW v) (ha : acc.length ≤ 100000) :
    fun_numbers_l2J (v0, acc, a, a.L, (a.L.length : Int), 0) = some (numOut (numL a.Area acc a.L)) := by
  refine fold_loop (F := fun_numbers_l2F) (fun s i => (v0, s, a, a.L, (a.L.length : Int), (i : Int))) numOut a.L (numStep a.Area) .inl (fun s i => s.length ≤ acc.length + i) (by omega) ?_ ?_ ?_ acc (by simp)
  · intro back s i hi hs
    unfold fun_numbers_l2F
    simp only
    have hn := (num_eq (hv a.L[i] (List.getElem_mem hi))).1
    rw [ltT hi, brn_true, idxG hi, obnd_some, wr1 (by omega)]
    unfold numStep skipN
    have e : obnd (val_NumberF a.L[i]) (fun y => brn (!y.2.snd) (some (Sum.inr (([], false), y.2.fst))) (obnd (app 16 s [y.fst]) fun zs => back (v0, zs, a, a.L, (a.L.length : Int), ((i + 1 : Nat) : Int)))) =
        contX (fun s' => back (v0, s', a, a.L, (a.L.length : Int), ((i + 1 : Nat) : Int))) numOut (bif (numR a.L[i]).2.2 then (.inl (s ++ [(numR a.L[i]).1]) : List Dec ⊕ (List Dec ⊕ Val)) else .inr (.inr (numR a.L[i]).2.1)) := by
      rw [hn, obnd_some, appN (by simp; omega)]
      cases (numR a.L[i]).2.2 <;> rfl
    cases a.Area with
    | false => simp only [brn_false, Bool.false_and, cond_false]; exact e
    | true =>
      simp only [brn_true, Bool.true_and]
      by_cases h1 : (a.L[i]).Kind = 1
      · rw [decide_eq_true h1]; simp only [Bool.not_true, brn_false, Bool.false_and, cond_false]; exact e
      · rw [decide_eq_false h1]; simp only [Bool.not_false, brn_true, Bool.true_and]
        by_cases h4 : (a.L[i]).Kind = 4
        · rw [decide_eq_true h4]; simp only [Bool.not_true, brn_false, cond_false]; exact e
        · rw [decide_eq_false h4]; rfl
  · intro s i hi s' hs hst
    have := numStep_len hst
    omega
  · intro back s hs
    unfold fun_numbers_l2F
    simp only
    rw [ltF, brn_false]; rfl
def numA (acc : List Dec) (l : List Arg) : List Dec ⊕ Val := foldX (fun acc a => match numL a.Area acc a.L with | .inl x => .inl x | .inr v => .inr (.inr v)) .inl acc l
theorem numbers_is {l : List Arg} (h : okA l) : fun_numbersF l = some (match numA [] l with | .inl x => (x, v0, true) | .inr v => ([], v, false)) := by
  unfold fun_numbersF
  have := fold_loop (F := fun_numbers_l1F) (fun s i => (v0, s, l, (l.length : Int), (i : Int))) numOut l (fun acc a => match numL a.Area acc a.L with | .inl x => .inl x | .inr v => .inr (.inr v)) .inl (fun s i => s.length ≤ 40 * i) (by have := h.1; omega)
    (fun back s i hi hs => by
      have hai := h.2 l[i] (List.getElem_mem hi)
      have hl := h.1
      unfold fun_numbers_l1F
      simp only
      rw [ltT hi, brn_true, idxG hi, obnd_some, wr1 (by omega), numbers_l2 hai.1 hai.2 (by omega), obnd_some]
      cases numL (l[i]).Area s (l[i]).L <;> rfl)
    (fun s i hi s' hs hst => by
      have hai := h.2 l[i] (List.getElem_mem hi)
      cases hn : numL (l[i]).Area s (l[i]).L with
      | inl x =>
        rw [hn] at hst
        simp only at hst
        injection hst with hst; subst hst
        have := numL_len hn
        omega
      | inr v => rw [hn] at hst; cases hst)
    (fun back s hs => by
      unfold fun_numbers_l1F
      simp only
      rw [ltF, brn_false]; rfl) [] (by simp)
  have this : fun_numbers_l1J (v0, [], l, (l.length : Int), 0) = some (numOut (numA [] l)) := this
  show (obnd (fun_numbers_l1J (v0, [], l, (l.length : Int), 0)) _) = _
  rw [this, obnd_some]
  cases numA [] l <;> rfl
end Go.Proofs.YtdgpkbnnljblmaaGreatDoor
