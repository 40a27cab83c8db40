/- YD -/
import Derived.Test.YtdgpkbnnljblmaaGreatDoorYB
namespace Go.Proofs.YtdgpkbnnljblmaaGreatDoor
open Go Go.Ev Go.Lib
theorem writeString_is {out w : List UInt8} (h : out.length + w.length ≤ 100000000) : ∃ k, strings_Builder_WriteStringF (out, (), w) = some ((out ++ w, k, ()), ()) := by
  unfold strings_Builder_WriteStringF
  simp only
  rw [show bld_copyCheckF (out, ()) = some (out, ()) from rfl, obnd_some]
  simp only
  rw [appN (by omega), obnd_some]
  exact ⟨_, rfl⟩
theorem worR_len {v : Val} (h : okW v) : (worR v).1.length ≤ 3000 ∧ validD (worR v).1 = true := by
  by_cases h4 : v.Kind = 4
  · rw [(worR_ok h).1 h4]; exact ⟨by simp, rfl⟩
  · rw [(worR_ok h).2 h4]; exact tex_ok h h4
def conS (s : List UInt8) (v : Val) : List UInt8 ⊕ (List UInt8 ⊕ (List UInt8 × Val)) := bif (worR v).2.2 then .inl (s ++ (worR v).1) else .inr (.inr (s, (worR v).2.1))
def conL (s : List UInt8) (l : List Val) : List UInt8 ⊕ (List UInt8 × Val) := foldX conS .inl s l
def conG : List UInt8 ⊕ (List UInt8 × Val) → (List UInt8 × (Val × Unit)) ⊕ (List UInt8 × (Val × Unit))
  | .inl s => .inl (s, v0, ())
  | .inr (s, f) => .inr (s, f, ())
theorem conS_len {s s' : List UInt8} {v : Val} (h : okW v) (e : conS s v = .inl s') : s'.length ≤ s.length + 3000 := by
  have := (worR_len h).1
  unfold conS at e
  revert e
  cases (worR v).2.2 <;> intro e <;> cases e
  rw [List.length_append]; omega
theorem conL_len : ∀ {l : List Val} {s s' : List UInt8}, (∀ v ∈ l, okW v) → conL s l = .inl s' → s'.length ≤ s.length + 3000 * l.length
  | [], s, s', _, e => by simp only [conL, foldX] at e; cases e; simp
  | v :: l, s, s', h, e => by
    simp only [conL, foldX] at e
    cases hs : conS s v with
    | inr y =>
      rw [hs] at e
      unfold conS at hs
      revert hs
      cases (worR v).2.2 <;> intro hs <;> cases hs
      cases e
    | inl s1 =>
      rw [hs] at e
      have h1 := conS_len (h v (by simp)) hs
      have h2 := conL_len (l := l) (fun w hw => h w (by simp [hw])) e
      simp only [List.length_cons]; omega
theorem step3 {x y z i : Nat} (h1 : y ≤ z + 3000 * i) (h2 : x ≤ y + 3000) : x ≤ z + 3000 * (i + 1) := by
  rw [Nat.mul_add, Nat.mul_one, ← Nat.add_assoc]
  exact Nat.le_trans h2 (Nat.add_le_add_right h1 _)
theorem many_l3 {l : List Val} {s : List UInt8} (hl : l.length ≤ 40) (h : ∀ v ∈ l, okW v) (hs : s.length ≤ 10000000) : fun_many_l3J (s, v0, (), l, (l.length : Int), 0) = some (conG (conL s l)) :=
  fold_loop (F := fun_many_l3F) (fun (s : List UInt8) (i : Nat) => (s, v0, (), l, (l.length : Int), (i : Int))) conG l conS .inl (fun s' i => s'.length ≤ s.length + 3000 * i) (by omega)
    (fun back s' i hi hp => by
      have ho := h _ (List.getElem_mem hi)
      have hw := (worR_len ho).1
      obtain ⟨k, hk⟩ := writeString_is (out := s') (w := (worR l[i]).1) (by omega)
      unfold fun_many_l3F conS
      simp only
      rw [ltT hi, brn_true, idxG hi, obnd_some, wor_eq2 ho, obnd_some, hk, obnd_some, wr1 (by omega)]
      cases (worR l[i]).2.2 <;> rfl)
    (fun s' i hi s'' hp e => by
      exact step3 hp (conS_len (h _ (List.getElem_mem hi)) e))
    (fun back s' hp => by
      unfold fun_many_l3F
      simp only
      rw [ltF, brn_false]; rfl) s (by simp)
def conA (s : List UInt8) (l : List Arg) : List UInt8 ⊕ (List UInt8 × Val) := foldX (fun s a => match conL s a.L with | .inl x => .inl x | .inr y => .inr (.inr y)) .inl s l
theorem many_l2 {l : List Arg} (h : okA l) : fun_many_l2J ([], v0, (), l, (l.length : Int), 0) = some (conG (conA [] l)) :=
  fold_loop (F := fun_many_l2F) (fun (s : List UInt8) (i : Nat) => (s, v0, (), l, (l.length : Int), (i : Int))) conG l (fun s a => match conL s a.L with | .inl x => .inl x | .inr y => .inr (.inr y)) .inl (fun s i => s.length ≤ 120000 * i) (by have := h.1; omega)
    (fun back s i hi hp => by
      have h40 := h.1
      obtain ⟨h1, h2⟩ := h.2 _ (List.getElem_mem hi)
      unfold fun_many_l2F
      simp only
      rw [ltT hi, brn_true, idxG hi, obnd_some, many_l3 h1 h2 (by omega), obnd_some, wr1 (by omega)]
      cases conL s (l[i]).L with
      | inl x => rfl
      | inr y => rfl)
    (fun s i hi s' hp e => by
      obtain ⟨h1, h2⟩ := h.2 _ (List.getElem_mem hi)
      cases hc : conL s (l[i]).L with
      | inl x =>
        rw [hc] at e
        cases e
        have := conL_len h2 hc
        omega
      | inr y => rw [hc] at e; cases e)
    (fun back s hp => by
      unfold fun_many_l2F
      simp only
      rw [ltF, brn_false]; rfl) [] (by simp)
theorem conA_len : ∀ {l : List Arg} {s s' : List UInt8}, (∀ a ∈ l, a.L.length ≤ 40 ∧ ∀ v ∈ a.L, okW v) → conA s l = .inl s' → s'.length ≤ s.length + 120000 * l.length
  | [], s, s', _, e => by simp only [conA, foldX] at e; cases e; simp
  | a :: l, s, s', h, e => by
    simp only [conA, foldX] at e
    cases hc : conL s a.L with
    | inr y => rw [hc] at e; cases e
    | inl s1 =>
      rw [hc] at e
      obtain ⟨h1, h2⟩ := h a (by simp)
      have h3 := conL_len h2 hc
      have h4 := conA_len (l := l) (fun b hb => h b (by simp [hb])) e
      simp only [List.length_cons]; omega
theorem many_concat {l : List Arg} (h : okA l) (hb : l.any badA = false) : fun_manyF (18, l) = some (match conA [] l with | .inl s => textV s | .inr y => y.2) := by
  have hl := h.1
  have hb1 : fun_many_b1J (18, l, v0, 18) = some (.inr ((), match conA [] l with | .inl s => textV s | .inr y => y.2)) := by
    unfold fun_many_b1J
    simp only
    rw [show decide ((18 : Int) = 3) = false from rfl, show decide ((18 : Int) = 11) = false from rfl, show decide ((18 : Int) = 12) = false from rfl, brn_false, brn_false, brn_false]
    simp only [decide_true, brn_true]
    rw [many_l2 h, obnd_some]
    cases hc : conA [] l with
    | inr y => rfl
    | inl s =>
      have := conA_len h.2 hc
      rw [show conG (.inl s) = .inl (s, v0, ()) from rfl]
      simp only [osum]
      rw [show bld_StringF (s, ()) = some (s, ()) from rfl, obnd_some]
      simp only
      rw [text_is (by simp only [List.length_nil] at this; omega), obnd_some]
  unfold fun_manyF
  simp only
  rw [contains_many (by omega), hb, obnd_some, brn_false, show (⟨0, ⟨0, 0⟩, [], false, 0⟩ : Val) = v0 from rfl, hb1]
  rfl
end Go.Proofs.YtdgpkbnnljblmaaGreatDoor
