/- The law ChainSizes, in plain Lean. -/
import Derived.Test.YtankcgcnkoialaaPE
import Derived.Test.YtankcgcnkoialaaKB
namespace Go.Proofs.Ytankcgcnkoialaa
open Go Go.Ev Go.Lib

def pl (i : Nat) : Place := ⟨((i % 8 : Nat) : Int), ⟨(i : Int), ((i % 256 : Nat) : Int)⟩⟩
def pls (k : Nat) : List Place := (List.range k).map pl
theorem pls_len (k : Nat) : (pls k).length = k := by unfold pls; simp
theorem mixed_len (k i : Nat) (h : i ≤ k) : (pls i ++ List.replicate (k - i) (⟨0, ⟨0, 0⟩⟩ : Place)).length = k := by rw [List.length_append, pls_len, List.length_replicate]; omega
theorem mixed_set {k i : Nat} (h : i < k) : (pls i ++ List.replicate (k - i) (⟨0, ⟨0, 0⟩⟩ : Place)).set i (pl i) = pls (i + 1) ++ List.replicate (k - (i + 1)) (⟨0, ⟨0, 0⟩⟩ : Place) := by
  rw [List.set_append_right i (pl i) (by rw [pls_len]; omega), pls_len, Nat.sub_self, show k - i = (k - (i + 1)) + 1 by omega, List.replicate_succ, List.set_cons_zero]
  unfold pls
  rw [List.range_succ, List.map_append]
  simp
theorem sizes_l1 {k : Nat} (hk : k ≤ 5000) : law17_ChainSizes_l1J ((k : Int), List.replicate k (⟨0, ⟨0, 0⟩⟩ : Place), 0) = some (pls k) := by
  have this : law17_ChainSizes_l1J ((k : Int), pls 0 ++ List.replicate (k - 0) (⟨0, ⟨0, 0⟩⟩ : Place), ((0 : Nat) : Int)) = some (id (foldX (fun (i : Nat) (_ : Nat) => (.inl (i + 1) : Nat ⊕ List Place)) (fun i => pls i ++ List.replicate (k - i) (⟨0, ⟨0, 0⟩⟩ : Place)) 0 (List.range k))) :=
    fold_loop (F := law17_ChainSizes_l1F) (fun (s i : Nat) => ((k : Int), pls s ++ List.replicate (k - s) (⟨0, ⟨0, 0⟩⟩ : Place), (i : Int))) id (List.range k) (fun i _ => .inl (i + 1)) (fun i => pls i ++ List.replicate (k - i) (⟨0, ⟨0, 0⟩⟩ : Place)) (fun s i => s = i) (by rw [List.length_range]; omega)
    (fun back s i hi hs => by
      subst hs
      rw [List.length_range] at hi
      have h1 : (s : Int).tmod 8 = ((s % 8 : Nat) : Int) := rfl
      have h2 : (s : Int).tmod 256 = ((s % 256 : Nat) : Int) := rfl
      have hin : inb (pls s ++ List.replicate (k - s) (⟨0, ⟨0, 0⟩⟩ : Place)).length (s : Int) = some s := by
        unfold inb
        rw [mixed_len _ _ (by omega), decide_eq_true (by omega), decide_eq_true (by omega)]; rfl
      have hnth : ∃ y, nth (pls s ++ List.replicate (k - s) (⟨0, ⟨0, 0⟩⟩ : Place)) s = some y := ⟨_, List.getElem?_eq_getElem (by rw [mixed_len _ _ (by omega)]; omega)⟩
      obtain ⟨y, hy⟩ := hnth
      unfold law17_ChainSizes_l1F
      simp only
      rw [ltT hi, brn_true, h1, h2, show law14_PF (((s % 8 : Nat) : Int), (s : Int), ((s % 256 : Nat) : Int)) = some (pl s) from rfl, obnd_some, hin, obnd_some, hy, obnd_some, mixed_set hi, wr1 (by omega)]
      rfl)
    (fun s i hi s' hs e => by cases e; rw [hs])
    (fun back s hs => by
      subst hs
      rw [List.length_range]
      unfold law17_ChainSizes_l1F
      simp only
      rw [ltF, brn_false]; rfl) 0 rfl
  rw [foldX_inl] at this
  have hf : ∀ (m : List Nat) (k : Nat), m.foldl (fun k _ => k + 1) k = k + m.length := by
    intro m
    induction m with
    | nil => intro k; rfl
    | cons v m ih => intro k; rw [List.foldl_cons, ih, List.length_cons]; omega
  rw [hf, Nat.zero_add, List.length_range, Nat.sub_self, List.replicate_zero, List.append_nil] at this
  exact this
theorem pls_good {k : Nat} (hk : k ≤ 5000) : ∀ p ∈ pls k, goodP p = true := by
  intro p hp
  obtain ⟨i, hi, rfl⟩ := List.mem_map.1 hp
  have := List.mem_range.1 hi
  rw [good_iff]
  unfold pl
  simp only
  omega
theorem enc_good : ∀ {l : List Place} {s : List UInt8}, (∀ p ∈ l, goodP p = true) → encL s l = .inl (s ++ l.flatMap bytes4)
  | [], s, _ => by simp [encL, foldX]
  | p :: l, s, h => by
    have ih := enc_good (l := l) (s := s ++ bytes4 p) fun q hq => h q (List.mem_cons_of_mem _ hq)
    unfold encL at ih ⊢
    simp only [foldX, encStep]
    rw [if_pos (h p (by simp))]
    simp only
    rw [ih]; simp

/-! ## a record's parts are as they may be -/
theorem cutsN_get {m i : Nat} (h : i < (cutsN m).length) : (cutsN m)[i] = 224 * ((i : Int) + 1) := by
  have h' : i < m := by rw [cutsN_len] at h; exact h
  have : (cutsN m)[i]? = some (224 * ((i : Int) + 1)) := by
    unfold cutsN
    rw [List.getElem?_map, List.getElem?_range h']; rfl
  rw [List.getElem?_eq_getElem h] at this
  exact Option.some.inj this
theorem check_l2 {r : Rec} {m : Nat} (hm : ∀ i, i < m → 224 * (i + 1) < r.Data.length) (hm2 : m ≤ 100000) : rec_Check_l2J (r, 0, cutsN m, ((cutsN m).length : Int), 0) = some (.inl ()) := by
  have this : rec_Check_l2J (r, 224 * ((0 : Nat) : Int), cutsN m, ((cutsN m).length : Int), ((0 : Nat) : Int)) = some ((fun (_ : Nat) => .inl ()) (foldX (fun (i : Nat) (_ : Int) => (.inl (i + 1) : Nat ⊕ Nat)) id 0 (cutsN m))) :=
    fold_loop (F := rec_Check_l2F) (fun (s i : Nat) => (r, 224 * (s : Int), cutsN m, ((cutsN m).length : Int), (i : Int))) (fun (_ : Nat) => .inl ()) (cutsN m) (fun i _ => .inl (i + 1)) id (fun s i => s = i) (by rw [cutsN_len]; omega)
    (fun back s i hi hs => by
      subst hs
      have hg := cutsN_get hi
      have := hm s (by rw [cutsN_len] at hi; exact hi)
      unfold rec_Check_l2F
      simp only
      rw [ltT hi, brn_true, idxG hi, obnd_some, hg, decide_eq_false (by omega), brn_false, decide_eq_false (by omega), brn_false, wr1 (by rw [cutsN_len] at hi; omega)]
      simp only [contX]
      rw [show 224 * ((s : Int) + 1) = 224 * ((s + 1 : Nat) : Int) by omega])
    (fun s i hi s' hs e => by cases e; rw [hs])
    (fun back s hs => by
      subst hs
      unfold rec_Check_l2F
      simp only
      rw [ltF, brn_false]) 0 rfl
  exact this
theorem check_l3 {m : Nat} (hm2 : m ≤ 100000) : rec_Check_l3J (0, cutsN m, ((cutsN m).length : Int), 0) = some (.inl (224 * (m : Int))) := by
  have this : rec_Check_l3J (224 * ((0 : Nat) : Int), cutsN m, ((cutsN m).length : Int), ((0 : Nat) : Int)) = some ((fun (k : Nat) => .inl (224 * (k : Int))) (foldX (fun (i : Nat) (_ : Int) => (.inl (i + 1) : Nat ⊕ Nat)) id 0 (cutsN m))) :=
    fold_loop (F := rec_Check_l3F) (fun (s i : Nat) => (224 * (s : Int), cutsN m, ((cutsN m).length : Int), (i : Int))) (fun (k : Nat) => .inl (224 * (k : Int))) (cutsN m) (fun i _ => .inl (i + 1)) id (fun s i => s = i) (by rw [cutsN_len]; omega)
    (fun back s i hi hs => by
      subst hs
      have hg := cutsN_get hi
      rw [cutsN_len] at hi
      unfold rec_Check_l3F
      simp only
      rw [ltT (by rw [cutsN_len]; exact hi), brn_true, idxG (by rw [cutsN_len]; exact hi), obnd_some, hg, i64_in (by omega) (by omega), decide_eq_false (by omega), brn_false, wr1 (by omega)]
      simp only [contX]
      rw [show 224 * ((s : Int) + 1) = 224 * ((s + 1 : Nat) : Int) by omega])
    (fun s i hi s' hs e => by cases e; rw [hs])
    (fun back s hs => by
      subst hs
      unfold rec_Check_l3F
      simp only
      rw [ltF, brn_false]; rfl) 0 rfl
  rw [foldX_inl] at this
  have hf : ∀ (m : List Int) (k : Nat), m.foldl (fun k _ => k + 1) k = k + m.length := by
    intro m
    induction m with
    | nil => intro k; rfl
    | cons v m ih => intro k; rw [List.foldl_cons, ih, List.length_cons]; omega
  rw [hf, Nat.zero_add, cutsN_len] at this
  rw [cutsN_len]
  exact this
theorem check_cut {B : List UInt8} (hl : B.length ≤ 60000) : rec_CheckF (cutS 6247 B 0) = some 0 := by
  unfold rec_CheckF rec_Check_s1J cutS
  simp only
  rw [show decide ((6247 : Int) < 0) = false from rfl, brn_false, show decide ((65535 : Int) < 6247) = false from rfl, brn_false, show decide ((6247 : Int) = 60) = false from rfl, brn_false, decide_eq_false (by omega), brn_false,
    check_l2 (m := (B.length - 1) / 224) (fun i hi => by simp only; omega) (by omega), obnd_some]
  simp only [osum]
  rw [check_l3 (by omega), obnd_some]
  simp only
  rw [i64_in (by omega) (by omega), decide_eq_true (by omega), brn_true]
  rfl
theorem ChainSizes_true {n : Int} (h0 : 0 ≤ n) (h1 : n ≤ 65535) : law17_ChainSizesF n = some true := by
  unfold law17_ChainSizesF
  rw [known_true, obnd_some]
  simp only [Bool.not_true, brn_false]
  obtain ⟨N, rfl⟩ := Int.eq_ofNat_of_zero_le h0
  have hk : (N : Int).tmod 4200 = ((N % 4200 : Nat) : Int) := rfl
  have hlt := Nat.mod_lt N (show 0 < 4200 by decide)
  rw [hk]
  generalize N % 4200 = k at hlt
  rw [i64_in (n := (k : Int)) (by omega) (by omega)]
  have hmk : mkList 24 (⟨0, ⟨0, 0⟩⟩ : Place) (k : Int) (k : Int) = some (List.replicate k ⟨0, ⟨0, 0⟩⟩) := by
    unfold mkList
    rw [decide_eq_true (by omega), decide_eq_true (by omega), decide_eq_true (by omega), Int.toNat_natCast]; rfl
  rw [hmk, obnd_some, sizes_l1 (by omega), obnd_some, encode_is, obnd_some]
  have hE : encS (pls k) = if 4096 < k then (r0, 4) else (cutS 6247 (b16 k ++ (pls k).flatMap bytes4) 0, 0) := by
    unfold encS
    rw [enc_good (pls_good (by omega)), pls_len]
  rw [hE]
  by_cases hb : 4096 < k
  · rw [if_pos hb, decide_eq_true (by omega), brn_true]; rfl
  rw [if_neg hb, decide_eq_false (by omega), brn_false]
  have hB : (b16 k ++ (pls k).flatMap bytes4).length = 2 + 4 * k := by
    have := enc_len (enc_good (s := b16 k) (pls_good (k := k) (by omega)))
    rw [pls_len, b16_len] at this
    exact this
  have hd : decS 6247 (b16 k ++ (pls k).flatMap bytes4) = (pls k, 0, 0) := dec_of_enc (l := pls k) (by rw [pls_len]; omega) (by rw [pls_len]; exact enc_good (pls_good (by omega)))
  generalize hBe : b16 k ++ (pls k).flatMap bytes4 = B at hB hd
  have hb2 : law17_ChainSizes_b2J ((k : Int), cutS 6247 B 0, 0) = some false := by
    unfold law17_ChainSizes_b2J
    simp only
    have e1 : ((cutS 6247 B 0).Data.length : Int) = 2 + 4 * (k : Int) := by
      show (B.length : Int) = _
      omega
    have e2 : ((cutS 6247 B 0).Cuts.length : Int) = ((1 + 4 * k : Nat) : Int).tdiv 224 := by
      show ((cutsN ((B.length - 1) / 224)).length : Int) = (((1 + 4 * k) / 224 : Nat) : Int)
      rw [cutsN_len, hB]
      omega
    rw [decide_true, Bool.not_true, brn_false, i64_in (n := 4 * (k : Int)) (by omega) (by omega), i64_in (n := 2 + 4 * (k : Int)) (by omega) (by omega), i64_in (n := 1 + 4 * (k : Int)) (by omega) (by omega), e1, decide_eq_true rfl, Bool.not_true, brn_false, e2,
      show (1 : Int) + 4 * (k : Int) = ((1 + 4 * k : Nat) : Int) by omega]
    have e3 : IntKind.i64.wrap (((1 + 4 * k : Nat) : Int).tdiv 224) = ((1 + 4 * k : Nat) : Int).tdiv 224 := by
      rw [show ((1 + 4 * k : Nat) : Int).tdiv 224 = (((1 + 4 * k) / 224 : Nat) : Int) from rfl]
      exact i64_in (by omega) (by omega)
    rw [e3, decide_eq_true rfl, Bool.not_true, brn_false, check_cut (by omega), obnd_some]
    rfl
  rw [hb2, obnd_some, brn_false, decode_is (by show B.length ≤ _; omega), obnd_some, show (cutS 6247 B 0).Type_ = 6247 from rfl, show (cutS 6247 B 0).Data = B from rfl, hd]
  simp only [decide_true, brn_true, pls_len]
  by_cases hz : (k : Int) = 0
  · rw [decide_eq_true hz, brn_true]
  rw [decide_eq_false hz, brn_false, i64_in (by omega) (by omega), show (k : Int) - 1 = ((k - 1 : Nat) : Int) by omega, idxG (by rw [pls_len]; omega), obnd_some, obnd_some]
  simp only [decide_true, Bool.and_self, cond_false, brn_true]
  rw [show (0 : Int) = ((0 : Nat) : Int) from rfl, idxG (by rw [pls_len]; omega), obnd_some, obnd_some]
  simp
end Go.Proofs.Ytankcgcnkoialaa
