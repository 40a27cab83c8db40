/- A chain written; the law ChainBytes, in plain Lean. -/
import Derived.Test.YtankcgcnkoialaaPC
import Derived.Test.YtankcgcnkoialaaKA
namespace Go.Proofs.Ytankcgcnkoialaa
open Go Go.Ev Go.Lib

def goodP (p : Place) : Bool := decide (0 ≤ p.Sheet) && (decide (p.Sheet < 8) && (decide (0 ≤ p.At.Row) && (decide (p.At.Row < 65536) && (decide (0 ≤ p.At.Col) && decide (p.At.Col < 256)))))
def byteI (n : Int) : UInt8 := UInt8.ofNat n.toNat
def bytes4 (p : Place) : List UInt8 := [byteI p.Sheet, byteI (p.At.Row % 256), byteI (p.At.Row / 256), byteI p.At.Col]
theorem u8w {n : Int} : IntKind.u8.wrap n = n % 256 := by simp [IntKind.wrap, IntKind.bits, IntKind.signed]
theorem good_iff {p : Place} : goodP p = true ↔ 0 ≤ p.Sheet ∧ p.Sheet < 8 ∧ 0 ≤ p.At.Row ∧ p.At.Row < 65536 ∧ 0 ≤ p.At.Col ∧ p.At.Col < 256 := by
  unfold goodP; simp
theorem refGood_is (c : Cell) : ref_GoodF c = some (decide (0 ≤ c.Row) && (decide (c.Row < 65536) && (decide (0 ≤ c.Col) && decide (c.Col < 256)))) := by
  unfold ref_GoodF
  cases decide (0 ≤ c.Row) <;> cases decide (c.Row < 65536) <;> cases decide (0 ≤ c.Col) <;> rfl
theorem docGood_is (c : Cell) : ref13_GoodF c = some (decide (0 ≤ c.Row) && (decide (c.Row < 65536) && (decide (0 ≤ c.Col) && decide (c.Col < 256)))) := by
  unfold ref13_GoodF
  cases decide (0 ≤ c.Row) <;> cases decide (c.Row < 65536) <;> cases decide (0 ≤ c.Col) <;> rfl
theorem goodPlace_is (p : Place) : ref18_GoodPlaceF (p, 8) = some (goodP p) := by
  unfold ref18_GoodPlaceF goodP
  simp only
  rw [docGood_is]
  cases decide (0 ≤ p.Sheet) <;> cases decide (p.Sheet < 8) <;> rfl
/-- a number of two bytes behind others -/
def b16 (n : Int) : List UInt8 := [byteI (n % 256), byteI (n / 256)]
theorem fdiv256 {n : Int} (_h : 0 ≤ n) : n.fdiv 256 = n / 256 := Int.fdiv_eq_ediv_of_nonneg _ (by decide)
theorem put2 {l : List UInt8} {n : Int} (hl : l.length ≤ 100000000) (h0 : 0 ≤ n) (h1 : n < 65536) : le_put_l1J (l, n, 2, 0) = some (l ++ b16 n) := by
  unfold le_put_l1J
  rw [big2, iter_succ]
  generalize hm : (9223372036854775805 : Nat) + 1 + 1 = m
  unfold le_put_l1F
  simp only
  rw [show decide ((0 : Int) < 2) = true from rfl, brn_true, show decide (IntKind.i64.wrap (8 * 0) < 0) = false from rfl, brn_false, show (2 : Int) ^ min (IntKind.i64.wrap (8 * 0)).toNat 64 = 1 from rfl, Int.fdiv_one, u8w, appN (by simp only [List.length_singleton]; omega), obnd_some, ← hm, iter_succ]
  generalize hm : (9223372036854775805 : Nat) + 1 = m
  simp only
  rw [show decide (IntKind.i64.wrap (0 + 1) < 2) = true from rfl, brn_true, show decide (IntKind.i64.wrap (8 * IntKind.i64.wrap (0 + 1)) < 0) = false from rfl, brn_false, show (2 : Int) ^ min (IntKind.i64.wrap (8 * IntKind.i64.wrap (0 + 1))).toNat 64 = 256 from rfl, fdiv256 h0, u8w, appN (by simp only [List.length_append, List.length_singleton]; omega), obnd_some, ← hm, iter_succ]
  simp only
  rw [show decide (IntKind.i64.wrap (IntKind.i64.wrap (0 + 1) + 1) < 2) = false from rfl, brn_false, List.append_assoc, show n / 256 % 256 = n / 256 by omega]
  rfl
theorem putLow2 {l : List UInt8} {n : Int} (hl : l.length ≤ 100000000) (h0 : 0 ≤ n) (h1 : n < 65536) : ref7_PutLowF (l, n, 2) = some (l ++ b16 n) := by
  unfold ref7_PutLowF
  simp only
  rw [appN (by simp only [List.length_nil]; omega), obnd_some, List.nil_append]
  have : ref7_PutLow_l1J (n, 2, l, 0) = some (l ++ b16 n) := by
    unfold ref7_PutLow_l1J
    rw [big2, iter_succ]
    generalize hm : (9223372036854775805 : Nat) + 1 + 1 = m
    unfold ref7_PutLow_l1F
    simp only
    rw [show decide ((0 : Int) < 2) = true from rfl, brn_true, show decide (IntKind.u64.wrap (IntKind.i64.wrap (8 * 0)) < 0) = false from rfl, brn_false, show (2 : Int) ^ min (IntKind.u64.wrap (IntKind.i64.wrap (8 * 0))).toNat 64 = 1 from rfl, Int.fdiv_one, u8w, appN (by simp only [List.length_singleton]; omega), obnd_some, ← hm, iter_succ]
    generalize hm : (9223372036854775805 : Nat) + 1 = m
    simp only
    rw [show decide (IntKind.i64.wrap (0 + 1) < 2) = true from rfl, brn_true, show decide (IntKind.u64.wrap (IntKind.i64.wrap (8 * IntKind.i64.wrap (0 + 1))) < 0) = false from rfl, brn_false, show (2 : Int) ^ min (IntKind.u64.wrap (IntKind.i64.wrap (8 * IntKind.i64.wrap (0 + 1)))).toNat 64 = 256 from rfl, fdiv256 h0, u8w, appN (by simp only [List.length_append, List.length_singleton]; omega), obnd_some, ← hm, iter_succ]
    simp only
    rw [show decide (IntKind.i64.wrap (IntKind.i64.wrap (0 + 1) + 1) < 2) = false from rfl, brn_false, List.append_assoc, show n / 256 % 256 = n / 256 by omega]
    rfl
  rw [this, obnd_some]
theorem clone8 {l : List UInt8} (hl : l.length ≤ 100000000) : slices_Clone_byte_byteF l = some l := by
  unfold slices_Clone_byte_byteF
  rw [appN (by simp only [List.length_nil]; omega), obnd_some]
  cases l with
  | nil => simp [Ev.agree]
  | cons a l => rfl
theorem put16_is {n : Int} (h0 : 0 ≤ n) (h1 : n < 65536) : le_Put16F ([], n) = some (b16 n, 0) := by
  unfold le_Put16F le_putF
  simp only
  rw [decide_eq_false (by omega), brn_false, decide_eq_false (by omega), brn_false, clone8 (by simp), obnd_some, u64_in (by omega) (by omega), put2 (by simp) h0 h1]; rfl

/-! ## parts of a record -/
def cutsN (m : Nat) : List Int := (List.range m).map fun (i : Nat) => 224 * ((i : Int) + 1)
def cutS (t : Int) (B : List UInt8) (at_ : Int) : Rec := ⟨t, B, cutsN ((B.length - 1) / 224), at_⟩
theorem cuts_succ (m : Nat) : cutsN (m + 1) = cutsN m ++ [224 * ((m : Int) + 1)] := by unfold cutsN; rw [List.range_succ, List.map_append]; rfl
theorem cutsN_len (m : Nat) : (cutsN m).length = m := by unfold cutsN; simp
theorem cut_is {r : Rec} (hl : r.Data.length ≤ 100000000) : rec_CutF r = some (cutS r.Type_ r.Data r.At) := by
  unfold rec_CutF
  rw [clone8 hl, obnd_some]
  have hm : ∀ i, i < (r.Data.length - 1) / 224 ↔ 224 * (i + 1) < r.Data.length := fun i => by omega
  have this : rec_Cut_l1J (cutsN 0, r, ⟨r.Type_, r.Data, cutsN 0, r.At⟩, 224 * (((0 : Nat) : Int) + 1)) = some ((fun (k : Nat) => (cutsN k, (⟨r.Type_, r.Data, cutsN k, r.At⟩ : Rec))) (foldX (fun (k : Nat) (_ : Nat) => (.inl (k + 1) : Nat ⊕ Nat)) id 0 (List.range ((r.Data.length - 1) / 224)))) :=
    fold_loop (F := rec_Cut_l1F) (fun (k i : Nat) => (cutsN k, r, (⟨r.Type_, r.Data, cutsN k, r.At⟩ : Rec), 224 * ((i : Int) + 1))) (fun (k : Nat) => (cutsN k, (⟨r.Type_, r.Data, cutsN k, r.At⟩ : Rec))) (List.range ((r.Data.length - 1) / 224)) (fun k _ => .inl (k + 1)) id (fun k i => k = i) (by rw [List.length_range]; omega)
    (fun back k i hi hk => by
      subst hk
      rw [List.length_range, hm] at hi
      unfold rec_Cut_l1F
      simp only
      rw [decide_eq_true (by omega), brn_true, appN (by rw [cutsN_len]; simp only [List.length_singleton]; omega), obnd_some, ← cuts_succ, i64_in (by omega) (by omega)]
      simp only [contX]
      rw [show 224 * ((k : Int) + 1) + 224 = 224 * (((k + 1 : Nat) : Int) + 1) by omega])
    (fun k i hi k' hk e => by cases e; rw [hk])
    (fun back k hk => by
      subst hk
      rw [List.length_range] at *
      unfold rec_Cut_l1F
      simp only
      rw [decide_eq_false (by omega), brn_false]; rfl) 0 rfl
  rw [foldX_inl] at this
  have hf : ∀ (m : List Nat) (k : Nat), m.foldl (fun k _ => k + 1) k = k + m.length := by
    intro m
    induction m with
    | nil => intro k; rfl
    | cons v m ih => intro k; rw [List.foldl_cons, ih, List.length_cons]; omega
  rw [hf, Nat.zero_add, List.length_range] at this
  rw [show (224 : Int) = 224 * (((0 : Nat) : Int) + 1) from rfl, show ([] : List Int) = cutsN 0 from rfl, this, obnd_some]
  rfl
theorem refCut_is {r : Rec} (hl : r.Data.length ≤ 100000000) : ref7_CutRecF r = some (cutS r.Type_ r.Data r.At) := by
  unfold ref7_CutRecF
  have hm : ∀ i, i < (r.Data.length - 1) / 224 ↔ 224 * (i + 1) < r.Data.length := fun i => by omega
  have this : ref7_CutRec_l1J (cutsN 0, ⟨r.Type_, r.Data, cutsN 0, r.At⟩, 224 * (((0 : Nat) : Int) + 1)) = some ((fun (k : Nat) => (cutsN k, (⟨r.Type_, r.Data, cutsN k, r.At⟩ : Rec))) (foldX (fun (k : Nat) (_ : Nat) => (.inl (k + 1) : Nat ⊕ Nat)) id 0 (List.range ((r.Data.length - 1) / 224)))) :=
    fold_loop (F := ref7_CutRec_l1F) (fun (k i : Nat) => (cutsN k, (⟨r.Type_, r.Data, cutsN k, r.At⟩ : Rec), 224 * ((i : Int) + 1))) (fun (k : Nat) => (cutsN k, (⟨r.Type_, r.Data, cutsN k, r.At⟩ : Rec))) (List.range ((r.Data.length - 1) / 224)) (fun k _ => .inl (k + 1)) id (fun k i => k = i) (by rw [List.length_range]; omega)
    (fun back k i hi hk => by
      subst hk
      rw [List.length_range, hm] at hi
      unfold ref7_CutRec_l1F
      simp only
      rw [decide_eq_true (by omega), brn_true, appN (by rw [cutsN_len]; simp only [List.length_singleton]; omega), obnd_some, ← cuts_succ, i64_in (by omega) (by omega)]
      simp only [contX]
      rw [show 224 * ((k : Int) + 1) + 224 = 224 * (((k + 1 : Nat) : Int) + 1) by omega])
    (fun k i hi k' hk e => by cases e; rw [hk])
    (fun back k hk => by
      subst hk
      rw [List.length_range] at *
      unfold ref7_CutRec_l1F
      simp only
      rw [decide_eq_false (by omega), brn_false]; rfl) 0 rfl
  rw [foldX_inl] at this
  have hf : ∀ (m : List Nat) (k : Nat), m.foldl (fun k _ => k + 1) k = k + m.length := by
    intro m
    induction m with
    | nil => intro k; rfl
    | cons v m ih => intro k; rw [List.foldl_cons, ih, List.length_cons]; omega
  rw [hf, Nat.zero_add, List.length_range] at this
  rw [show (224 : Int) = 224 * (((0 : Nat) : Int) + 1) from rfl, show ([] : List Int) = cutsN 0 from rfl, this, obnd_some]
  rfl

/-! ## a chain written -/
def r0 : Rec := ⟨0, [], [], 0⟩
def encStep (s : List UInt8) (p : Place) : List UInt8 ⊕ (List UInt8 ⊕ Int) := if goodP p = true then .inl (s ++ bytes4 p) else .inr (.inr 12)
def encL (s : List UInt8) (l : List Place) : List UInt8 ⊕ Int := foldX encStep .inl s l
def encG : List UInt8 ⊕ Int → ((List UInt8) × Rec) ⊕ ((Int) × Rec)
  | .inl s => .inl (s, r0)
  | .inr e => .inr (e, r0)
def encS (l : List Place) : Rec × Int := if 4096 < l.length then (r0, 4) else match encL (b16 l.length) l with | .inl s => (cutS 6247 s 0, 0) | .inr e => (r0, e)
theorem b16_len (n : Int) : (b16 n).length = 2 := rfl
theorem enc_len : ∀ {l : List Place} {s s' : List UInt8}, encL s l = .inl s' → s'.length = s.length + 4 * l.length
  | [], s, s', h => by simp only [encL, foldX] at h; cases h; simp
  | p :: l, s, s', h => by
    unfold encL at h
    simp only [foldX, encStep] at h
    by_cases hg : goodP p = true
    · rw [if_pos hg] at h
      have := enc_len (l := l) h
      rw [this, List.length_append, List.length_cons]
      show s.length + 4 + _ = _
      omega
    · rw [if_neg hg] at h; cases h
theorem enc_l1 {l : List Place} {s : List UInt8} (hl : l.length ≤ 4096) (hs : s.length = 2) : chain_Encode_l1J (r0, s, l, (l.length : Int), 0) = some (encG (encL s l)) := by
  have this : chain_Encode_l1J (r0, s, l, (l.length : Int), ((0 : Nat) : Int)) = some (encG (foldX encStep .inl s l)) :=
    fold_loop (F := chain_Encode_l1F) (fun (s : List UInt8) (i : Nat) => (r0, s, l, (l.length : Int), (i : Int))) encG l encStep .inl (fun s i => s.length = 2 + 4 * i) (by omega)
    (fun back s i hi hk => by
      unfold chain_Encode_l1F encStep
      simp only
      rw [ltT hi, brn_true, idxG hi, obnd_some, refGood_is, wr1 (by omega)]
      generalize l[i] = p
      by_cases hg : goodP p = true
      · rw [if_pos hg]
        obtain ⟨g1, g2, g3, g4, g5, g6⟩ := good_iff.1 hg
        rw [decide_eq_false (by omega), brn_false, decide_eq_false (by omega), brn_false, obnd_some, decide_eq_true g3, decide_eq_true g4, decide_eq_true g5, decide_eq_true g6]
        simp only [Bool.and_self, Bool.not_true, brn_false]
        rw [u8w, u8w, u8w, u8w, fdiv256 g3, appN (by simp only [List.length_cons, List.length_nil]; omega), obnd_some]
        simp only [contX]
        unfold bytes4 byteI
        rw [show p.Sheet % 256 = p.Sheet by omega, show p.At.Row / 256 % 256 = p.At.Row / 256 by omega, show p.At.Col % 256 = p.At.Col by omega]
      · rw [if_neg hg]
        by_cases h1 : p.Sheet < 0
        · rw [decide_eq_true h1, brn_true]; rfl
        rw [decide_eq_false h1, brn_false]
        by_cases h2 : 8 ≤ p.Sheet
        · rw [decide_eq_true h2, brn_true]; rfl
        rw [decide_eq_false h2, brn_false, obnd_some]
        have h3 : (decide (0 ≤ p.At.Row) && (decide (p.At.Row < 65536) && (decide (0 ≤ p.At.Col) && decide (p.At.Col < 256)))) = false := by
          cases hq : (decide (0 ≤ p.At.Row) && (decide (p.At.Row < 65536) && (decide (0 ≤ p.At.Col) && decide (p.At.Col < 256)))) with
          | false => rfl
          | true =>
            exfalso; apply hg
            unfold goodP
            rw [hq, decide_eq_true (show 0 ≤ p.Sheet by omega), decide_eq_true (show p.Sheet < 8 by omega)]; rfl
        rw [h3]; rfl)
    (fun s i hi s' hk e => by
      unfold encStep at e
      split at e
      · cases e
        rw [List.length_append, hk]
        show 2 + 4 * i + 4 = _
        omega
      · cases e)
    (fun back s hk => by
      unfold chain_Encode_l1F
      simp only
      rw [ltF, brn_false]; rfl) s (by rw [hs])
  exact this
theorem encode_is {l : List Place} : chain_EncodeF l = some (encS l) := by
  unfold chain_EncodeF encS
  by_cases h : 4096 < l.length
  · rw [decide_eq_true (by omega), brn_true, if_pos h]; rfl
  rw [decide_eq_false (by omega), brn_false, if_neg h, put16_is (by omega) (by omega), obnd_some]
  simp only
  rw [show (⟨0, [], [], 0⟩ : Rec) = r0 from rfl, enc_l1 (by omega) rfl, obnd_some]
  cases he : encL (b16 l.length) l with
  | inr e => rfl
  | inl s =>
    have := enc_len he
    rw [b16_len] at this
    simp only [encG, osum]
    rw [cut_is (by simp only; omega), obnd_some]
theorem refEnc_l1 {l : List Place} {s : List UInt8} (hl : l.length ≤ 4096) (hs : s.length = 2) : ref18_EncodeChain_l1J (l, r0, s, 0) = some (encG (encL s l)) := by
  have this : ref18_EncodeChain_l1J (l, r0, s, ((0 : Nat) : Int)) = some (encG (foldX encStep .inl s l)) :=
    fold_loop (F := ref18_EncodeChain_l1F) (fun (s : List UInt8) (i : Nat) => (l, r0, s, (i : Int))) encG l encStep .inl (fun s i => s.length = 2 + 4 * i) (by omega)
    (fun back s i hi hk => by
      unfold ref18_EncodeChain_l1F encStep
      simp only
      rw [ltT hi, brn_true, idxG hi, obnd_some, goodPlace_is, obnd_some, wr1 (by omega)]
      generalize l[i] = p
      by_cases hg : goodP p = true
      · rw [if_pos hg, hg]
        obtain ⟨g1, g2, g3, g4, g5, g6⟩ := good_iff.1 hg
        simp only [Bool.not_true, brn_false, obnd_some]
        rw [u8w, u8w, appN (by simp only [List.length_singleton]; omega), obnd_some, u64_in (by omega) (by omega), putLow2 (by simp only [List.length_append, List.length_singleton]; omega) g3 g4, obnd_some, appN (by simp only [List.length_append, List.length_singleton, b16_len]; omega), obnd_some]
        simp only [contX]
        unfold bytes4 b16 byteI
        rw [show p.Sheet % 256 = p.Sheet by omega, show p.At.Col % 256 = p.At.Col by omega]
        simp
      · rw [if_neg hg]
        have : goodP p = false := by simpa using hg
        rw [this]; rfl)
    (fun s i hi s' hk e => by
      unfold encStep at e
      split at e
      · cases e
        rw [List.length_append, hk]
        show 2 + 4 * i + 4 = _
        omega
      · cases e)
    (fun back s hk => by
      unfold ref18_EncodeChain_l1F
      simp only
      rw [ltF, brn_false]; rfl) s (by rw [hs])
  exact this
theorem refEncode_is {l : List Place} : ref18_EncodeChainF l = some (encS l) := by
  unfold ref18_EncodeChainF encS
  by_cases h : 4096 < l.length
  · rw [decide_eq_true (by omega), brn_true, if_pos h]; rfl
  rw [decide_eq_false (by omega), brn_false, if_neg h, u64_in (by omega) (by omega), putLow2 (by simp) (by omega) (by omega), obnd_some, List.nil_append,
    show (⟨0, [], [], 0⟩ : Rec) = r0 from rfl, refEnc_l1 (by omega) rfl, obnd_some]
  cases he : encL (b16 l.length) l with
  | inr e => rfl
  | inl s =>
    have := enc_len he
    rw [b16_len] at this
    simp only [encG, osum]
    rw [refCut_is (by simp only; omega), obnd_some]
end Go.Proofs.Ytankcgcnkoialaa
