/- YF -/
import Derived.Test.YtdgpkbnnljblmaaGreatDoorY9
import Derived.Test.YtdgpkbnnljblmaaGreatDoorKE
namespace Go.Proofs.YtdgpkbnnljblmaaGreatDoor
open Go Go.Ev Go.Lib
def dI (n : Int) : Dec := ⟨n, 0⟩
def aI (n : Int) : Arg := one (vN (dI n))
def i32 (n : Int) : Prop := -2147483648 ≤ n ∧ n ≤ 2147483647
theorem okd_I {n : Int} (h : i32 n) : okd (dI n) := okdI (by unfold I64; unfold i32 at h; omega)
theorem V_I (n : Int) : V (dI n) = n * 1000000000 := by unfold V dI; simp
def leastL (m : Int) (l : List Int) : Int := l.foldl (fun m y => if y < m then y else m) m
def mostL (m : Int) (l : List Int) : Int := l.foldl (fun m y => if m < y then y else m) m
structure FS where
  a : List Arg
  b : List Arg
  s : Int
  lo : Int
  hi : Int
def fsStep (l : List Int) (x : FS × Nat) (n : Int) : (FS × Nat) ⊕ FS :=
  .inl (⟨x.1.a ++ [aI n], x.1.b ++ [aI (l.getD (l.length - 1 - x.2) 0)], x.1.s + n, if n < x.1.lo then n else x.1.lo, if x.1.hi < n then n else x.1.hi⟩, x.2 + 1)
def fsPre (x : FS × Nat) (i : Nat) : Prop := x.2 = i ∧ x.1.a.length = i ∧ x.1.b.length = i ∧ -(i : Int) * 2147483648 ≤ x.1.s ∧ x.1.s ≤ (i : Int) * 2147483648
theorem bifI {α : Type} (p : Prop) [Decidable p] (x y : α) : (bif decide p then x else y) = if p then x else y := by by_cases h : p <;> simp [h]
theorem folds_l1 {l : List Int} {m : Int} (hl : l.length ≤ 28) (h : ∀ n ∈ l, i32 n) : law11_FunFolds_l1J (l, [], [], 0, m, m, 0) = some ((fun (x : FS) => (x.a, x.b, x.s, x.lo, x.hi)) (foldX (fsStep l) (fun x => x.1) (⟨[], [], 0, m, m⟩, 0) l)) :=
  fold_loop (F := law11_FunFolds_l1F) (fun (x : FS × Nat) (i : Nat) => (l, x.1.a, x.1.b, x.1.s, x.1.lo, x.1.hi, (i : Int))) (fun (x : FS) => (x.a, x.b, x.s, x.lo, x.hi)) l (fsStep l) (fun x => x.1) fsPre (by omega)
    (fun back x i hi hp => by
      obtain ⟨⟨a, b, s, lo, hi'⟩, k⟩ := x
      unfold fsPre at hp
      simp only at hp
      obtain ⟨rfl, ha, hb, h1, h2⟩ := hp
      have hn := h _ (List.getElem_mem hi)
      unfold i32 at hn
      have hw : IntKind.i64.wrap l[k] = l[k] := i64_in (by omega) (by omega)
      have hk : l.length - 1 - k < l.length := by omega
      have hm := h _ (List.getElem_mem hk)
      unfold i32 at hm
      have hw2 : IntKind.i64.wrap l[l.length - 1 - k] = l[l.length - 1 - k] := i64_in (by omega) (by omega)
      have hi2 : IntKind.i64.wrap (IntKind.i64.wrap ((l.length : Int) - 1) - (k : Int)) = ((l.length - 1 - k : Nat) : Int) := by
        rw [i64_in (n := (l.length : Int) - 1) (by omega) (by omega), i64_in (by omega) (by omega)]; omega
      have hg : l.getD (l.length - 1 - k) 0 = l[l.length - 1 - k] := by rw [List.getD_eq_getElem?_getD, List.getElem?_eq_getElem hk]; rfl
      unfold law11_FunFolds_l1F fsStep
      simp only
      rw [ltT hi, brn_true, idxG hi]
      simp only [obnd_some, hw, hi2]
      rw [show law9_NF l[k] = some (vN (dI l[k])) from rfl]
      simp only [obnd_some]
      rw [one_is2, obnd_some, appN (by simp only [List.length_singleton]; omega), obnd_some, idxG hk]
      simp only [obnd_some, hw2]
      rw [show law9_NF l[l.length - 1 - k] = some (vN (dI l[l.length - 1 - k])) from rfl]
      simp only [obnd_some]
      rw [one_is2, obnd_some, appN (by simp only [List.length_singleton]; omega), obnd_some, wr1 (by omega), i64_in (n := s + l[k]) (by omega) (by omega), hg]
      simp only [contX, bifI]; rfl)
    (fun x i hi x' hp e => by
      obtain ⟨⟨a, b, s, lo, hi'⟩, k⟩ := x
      unfold fsPre at hp ⊢
      simp only at hp
      obtain ⟨rfl, ha, hb, h1, h2⟩ := hp
      have hn := h _ (List.getElem_mem hi)
      unfold i32 at hn
      unfold fsStep at e
      cases e
      refine ⟨rfl, by simp [ha], by simp [hb], ?_, ?_⟩
      · simp only; omega
      · simp only; omega)
    (fun back x hp => by
      unfold law11_FunFolds_l1F
      simp only
      rw [ltF, brn_false]) ((⟨[], [], 0, m, m⟩ : FS), 0) ⟨rfl, rfl, rfl, by simp, by simp⟩
theorem fs_fold (l : List Int) : ∀ (suf : List Int) (k : Nat) (x : FS), k + suf.length = l.length → foldX (fsStep l) (fun x => x.1) (x, k) suf =
    ⟨x.a ++ suf.map aI, x.b ++ ((l.take suf.length).reverse).map aI, x.s + suf.sum, leastL x.lo suf, mostL x.hi suf⟩
  | [], k, x, _ => by simp [foldX, leastL, mostL]
  | n :: suf, k, x, h => by
    simp only [List.length_cons] at h
    simp only [foldX, fsStep]
    rw [fs_fold l suf (k + 1) _ (by omega)]
    have hs : suf.length < l.length := by omega
    have e1 : l.length - 1 - k = suf.length := by omega
    have e2 : l.getD suf.length 0 = l[suf.length] := by rw [List.getD_eq_getElem?_getD, List.getElem?_eq_getElem hs]; rfl
    have e3 : ((l.take (suf.length + 1)).reverse).map aI = aI l[suf.length] :: ((l.take suf.length).reverse).map aI := by
      rw [List.take_succ_eq_append_getElem hs, List.reverse_append]; rfl
    rw [e1, e2, List.length_cons, e3]
    simp only [List.map_cons, List.append_assoc, List.cons_append, List.nil_append, List.sum_cons, Int.add_assoc]
    rfl
theorem folds_l2 {l : List Int} (hl : l.length ≤ 28) : law11_FunFolds_l2J ([], l.map aI, ⟨true, []⟩, 0) = some (l.map (fun n => vN (dI n)), ⟨true, l.map (fun n => vN (dI n))⟩) := by
  have this : law11_FunFolds_l2J ([], l.map aI, ⟨true, []⟩, 0) = some ((fun (s : List Val) => (s, (⟨true, s⟩ : Arg))) _) := fold_loop (F := law11_FunFolds_l2F) (fun (s : List Val) (i : Nat) => (s, l.map aI, (⟨true, s⟩ : Arg), (i : Int))) (fun (s : List Val) => (s, (⟨true, s⟩ : Arg))) (l.map aI) (fun s a => .inl (s ++ a.L)) id (fun s i => s.length = i) (by rw [List.length_map]; omega)
    (fun back s i hi hs => by
      have hi' := hi
      rw [List.length_map] at hi'
      have ha : ((l.map aI)[i]).L = [vN (dI l[i])] := by rw [List.getElem_map]; rfl
      unfold law11_FunFolds_l2F
      simp only
      rw [ltT hi, brn_true, idxG hi, obnd_some, ha, appN (by simp only [List.length_singleton]; omega), obnd_some, wr1 (by omega)]; rfl)
    (fun s i hi s' hs e => by
      have ha : ((l.map aI)[i]).L = [vN (dI (l[i]'(by rw [List.length_map] at hi; exact hi)))] := by rw [List.getElem_map]; rfl
      rw [ha] at e
      cases e
      simp [hs])
    (fun back s hs => by
      unfold law11_FunFolds_l2F
      simp only
      rw [ltF, brn_false]; rfl) [] rfl
  rw [this, foldX_inl]
  have : ∀ (l : List Int) (s : List Val), (l.map aI).foldl (fun s a => s ++ a.L) s = s ++ l.map (fun n => vN (dI n)) := by
    intro l
    induction l with
    | nil => intro s; simp
    | cons n l ih => intro s; simp only [List.map_cons, List.foldl_cons]; rw [ih]; simp [aI, one]
  rw [id, this]; rfl
theorem numL_one (area : Bool) (acc : List Dec) (l : List Int) : numL area acc (l.map (fun n => vN (dI n))) = .inl (acc ++ l.map dI) := by
  induction l generalizing acc with
  | nil => simp [numL, foldX]
  | cons n l ih =>
    have e : numStep area acc (vN (dI n)) = .inl (acc ++ [dI n]) := by
      unfold numStep skipN
      rw [num_vN]
      cases area <;> rfl
    have ih := ih (acc ++ [dI n])
    unfold numL at ih ⊢
    simp only [List.map_cons, foldX]
    rw [e]
    simp only
    rw [ih]; simp
theorem numA_I (l : List Int) (acc : List Dec) : numA acc (l.map aI) = .inl (acc ++ l.map dI) := by
  induction l generalizing acc with
  | nil => simp [numA, foldX]
  | cons n l ih =>
    have e := numL_one false acc [n]
    have ih := ih (acc ++ [dI n])
    unfold numA at ih ⊢
    simp only [List.map_cons, foldX]
    rw [show numL (aI n).Area acc (aI n).L = .inl (acc ++ [dI n]) from e]
    simp only
    rw [ih]; simp
theorem cntA_I (l : List Int) (k : Nat) : cntA k (l.map aI) = k + l.length := by
  induction l generalizing k with
  | nil => rfl
  | cons n l ih =>
    have e : cntL (aI n).Area k (aI n).L = k + 1 := rfl
    unfold cntA at ih ⊢
    simp only [List.map_cons, List.foldl_cons]
    rw [e, ih, List.length_cons]; omega
theorem sum_I : ∀ (l : List Int) (t : Int), t.natAbs + l.length * 2147483648 ≤ 1000000000000 → (∀ n ∈ l, i32 n) → sumD (dI t) (l.map dI) = (dI (t + l.sum), 0)
  | [], t, _, _ => by simp [sumD, foldX]
  | n :: l, t, h, hn => by
    have h1 := hn n (by simp)
    unfold i32 at h1
    simp only [List.length_cons] at h
    have e : addR (dI t) (dI n) = (dI (t + n), 0) := by
      unfold addR
      rw [V_I, V_I, ← Int.add_mul, ← V_I]
      exact decV_V (okInt _) (by unfold I64 dI; simp only; omega)
    have ih := sum_I l (t + n) (by omega) (fun m hm => hn m (by simp [hm]))
    unfold sumD at ih ⊢
    simp only [List.map_cons, foldX, sumStep]
    rw [e]
    simp only [if_true]
    rw [ih, List.sum_cons, Int.add_assoc]
theorem minD_I (m y : Int) : minD (dI m) (dI y) = dI (if y < m then y else m) := by
  unfold minD
  rw [V_I, V_I]
  by_cases h : y < m
  · rw [if_pos h, if_pos (by omega)]
  · rw [if_neg h, if_neg (by omega)]
theorem maxD_I (m y : Int) : maxD (dI m) (dI y) = dI (if m < y then y else m) := by
  unfold maxD
  rw [V_I, V_I]
  by_cases h : m < y
  · rw [if_pos h, if_pos (by omega)]
  · rw [if_neg h, if_neg (by omega)]
theorem min_I : ∀ (l : List Int) (m : Int), (l.map dI).foldl minD (dI m) = dI (leastL m l)
  | [], _ => rfl
  | n :: l, m => by simp only [List.map_cons, List.foldl_cons, leastL]; rw [minD_I]; exact min_I l _
theorem max_I : ∀ (l : List Int) (m : Int), (l.map dI).foldl maxD (dI m) = dI (mostL m l)
  | [], _ => rfl
  | n :: l, m => by simp only [List.map_cons, List.foldl_cons, mostL]; rw [maxD_I]; exact max_I l _
theorem least_ok : ∀ (l : List Int) (m : Int), leastL m l ≤ m ∧ ∀ n ∈ l, leastL m l ≤ n
  | [], m => by simp [leastL]
  | n :: l, m => by
    have ih := least_ok l (if n < m then n else m)
    have e : leastL m (n :: l) = leastL (if n < m then n else m) l := rfl
    rw [e]
    refine ⟨?_, fun k hk => ?_⟩
    · have := ih.1; split at this <;> omega
    · rcases List.mem_cons.1 hk with rfl | hk
      · have := ih.1; split at this <;> omega
      · exact ih.2 k hk
theorem least_mem : ∀ (l : List Int) (m : Int), leastL m l = m ∨ leastL m l ∈ l
  | [], m => .inl rfl
  | n :: l, m => by
    have ih := least_mem l (if n < m then n else m)
    have e : leastL m (n :: l) = leastL (if n < m then n else m) l := rfl
    rw [e]
    rcases ih with h | h
    · rw [h]; split
      · exact .inr (by simp)
      · exact .inl rfl
    · exact .inr (by simp [h])
theorem most_ok : ∀ (l : List Int) (m : Int), m ≤ mostL m l ∧ ∀ n ∈ l, n ≤ mostL m l
  | [], m => by simp [mostL]
  | n :: l, m => by
    have ih := most_ok l (if m < n then n else m)
    have e : mostL m (n :: l) = mostL (if m < n then n else m) l := rfl
    rw [e]
    refine ⟨?_, fun k hk => ?_⟩
    · have := ih.1; split at this <;> omega
    · rcases List.mem_cons.1 hk with rfl | hk
      · have := ih.1; split at this <;> omega
      · exact ih.2 k hk
theorem most_mem : ∀ (l : List Int) (m : Int), mostL m l = m ∨ mostL m l ∈ l
  | [], m => .inl rfl
  | n :: l, m => by
    have ih := most_mem l (if m < n then n else m)
    have e : mostL m (n :: l) = mostL (if m < n then n else m) l := rfl
    rw [e]
    rcases ih with h | h
    · rw [h]; split
      · exact .inr (by simp)
      · exact .inl rfl
    · exact .inr (by simp [h])
theorem sum_ge : ∀ (l : List Int) (m : Int), (∀ n ∈ l, m ≤ n) → (l.length : Int) * m ≤ l.sum
  | [], m, _ => by simp
  | n :: l, m, h => by
    have ih := sum_ge l m (fun k hk => h k (by simp [hk]))
    have := h n (by simp)
    rw [List.sum_cons, List.length_cons, Int.natCast_add, Int.add_mul]; omega
theorem sum_le : ∀ (l : List Int) (m : Int), (∀ n ∈ l, n ≤ m) → l.sum ≤ (l.length : Int) * m
  | [], m, _ => by simp
  | n :: l, m, h => by
    have ih := sum_le l m (fun k hk => h k (by simp [hk]))
    have := h n (by simp)
    rw [List.sum_cons, List.length_cons, Int.natCast_add, Int.add_mul]; omega
theorem rdN_lo {a n b : Nat} (hn : 0 < n) (h : n * b ≤ a) : b ≤ rdN a n := by
  have : b ≤ a / n := (Nat.le_div_iff_mul_le hn).2 (by rw [Nat.mul_comm]; exact h)
  unfold rdN
  split <;> omega
theorem rdN_hi {a n b : Nat} (hn : 0 < n) (h : a ≤ n * b) : rdN a n ≤ b := by
  have h1 : a / n ≤ b := Nat.div_le_of_le_mul h
  unfold rdN
  split
  · rename_i hc
    rcases Nat.lt_or_eq_of_le h1 with h2 | h2
    · exact h2
    · have e := Nat.div_add_mod a n
      rw [h2] at e
      omega
  · exact h1
theorem avg_is {S : Int} {n : Nat} {lo hi : Int} (hn : 0 < n) (hn2 : n ≤ 28) (hS : S.natAbs ≤ 100000000000) (hlo : i32 lo) (hhi : i32 hi) (h1 : (n : Int) * lo ≤ S) (h2 : S ≤ (n : Int) * hi) :
    ∃ d, divR (dI S) ⟨n, 0⟩ = (d, 0) ∧ okd d ∧ lo * 1000000000 ≤ V d ∧ V d ≤ hi * 1000000000 := by
  have hd := prodDiv_is (M := S) (N := (n : Int)) (s := 0) (t := 0) (by unfold I64; omega) (by unfold I64; omega) (by omega) (by omega) (by omega)
  have hr := (divR_eq (a := dI S) (b := ⟨n, 0⟩) (okdI (by unfold I64; omega)) (okdI (by unfold I64; omega))).1
  rw [show (dI S, (⟨(n : Int), 0⟩ : Dec)) = ((⟨S, ((0 : Nat) : Int)⟩ : Dec), (⟨(n : Int), ((0 : Nat) : Int)⟩ : Dec)) from rfl] at hr
  have hr := Option.some.inj (hr.symm.trans hd)
  rw [hr, Int.natAbs_natCast]
  unfold i32 at hlo hhi
  have b1 : lo * 1000000000 ≤ sw (rdN (S.natAbs * 10 ^ (9 - 0 + 0)) n) (sgnP S n) ∧ sw (rdN (S.natAbs * 10 ^ (9 - 0 + 0)) n) (sgnP S n) ≤ hi * 1000000000 := by
    have hp : (10 : Nat) ^ (9 - 0 + 0) = 1000000000 := rfl
    rw [hp]
    unfold sgnP
    rw [decide_eq_false (show ¬ (n : Int) < 0 by omega)]
    by_cases hs : S < 0
    · rw [decide_eq_true hs]
      simp only [Bool.true_eq_false, decide_false, Bool.not_false, sw, cond_true]
      have l0 : lo < 0 := by
        rcases Int.lt_or_le lo 0 with h | h
        · exact h
        · have := Int.mul_nonneg (Int.natCast_nonneg n) h; omega
      have c1 : rdN (S.natAbs * 1000000000) n ≤ lo.natAbs * 1000000000 := rdN_hi hn (by
        have : S.natAbs ≤ n * lo.natAbs := by
          have e : ((n * lo.natAbs : Nat) : Int) = -((n : Int) * lo) := by rw [Int.natCast_mul, show ((lo.natAbs : Nat) : Int) = -lo by omega, Int.mul_neg]
          omega
        rw [← Nat.mul_assoc]
        exact Nat.mul_le_mul_right _ this)
      refine ⟨by omega, ?_⟩
      rcases Int.lt_or_le hi 0 with h | h
      · have c2 : hi.natAbs * 1000000000 ≤ rdN (S.natAbs * 1000000000) n := rdN_lo hn (by
          have : n * hi.natAbs ≤ S.natAbs := by
            have e : ((n * hi.natAbs : Nat) : Int) = -((n : Int) * hi) := by rw [Int.natCast_mul, show ((hi.natAbs : Nat) : Int) = -hi by omega, Int.mul_neg]
            omega
          rw [← Nat.mul_assoc]
          exact Nat.mul_le_mul_right _ this)
        omega
      · omega
    · rw [decide_eq_false hs]
      simp only [decide_true, Bool.not_true, sw, cond_false]
      have h0 : 0 ≤ hi := by
        rcases Int.lt_or_le hi 0 with h | h
        · have := Int.mul_neg_of_pos_of_neg (show (0 : Int) < n by omega) h; omega
        · exact h
      have c1 : rdN (S.natAbs * 1000000000) n ≤ hi.natAbs * 1000000000 := rdN_hi hn (by
        have : S.natAbs ≤ n * hi.natAbs := by
          have e : ((n * hi.natAbs : Nat) : Int) = (n : Int) * hi := by rw [Int.natCast_mul, show ((hi.natAbs : Nat) : Int) = hi by omega]
          omega
        rw [← Nat.mul_assoc]
        exact Nat.mul_le_mul_right _ this)
      refine ⟨?_, by omega⟩
      rcases Int.lt_or_le lo 0 with h | h
      · omega
      · have c2 : lo.natAbs * 1000000000 ≤ rdN (S.natAbs * 1000000000) n := rdN_lo hn (by
          have : n * lo.natAbs ≤ S.natAbs := by
            have e : ((n * lo.natAbs : Nat) : Int) = (n : Int) * lo := by rw [Int.natCast_mul, show ((lo.natAbs : Nat) : Int) = lo by omega]
            omega
          rw [← Nat.mul_assoc]
          exact Nat.mul_le_mul_right _ this)
        omega
  generalize sw (rdN (S.natAbs * 10 ^ (9 - 0 + 0)) n) (sgnP S n) = q at b1
  have ho : okd ⟨(strip q 9).1, ((strip q 9).2 : Int)⟩ := by
    refine ⟨ok_strip q 9 (by omega), ?_⟩
    have := strip_abs 9 q
    unfold I64
    simp only; omega
  have hV := V_strip q 9 (by omega)
  simp only [Nat.sub_self, Int.pow_zero, Int.mul_one] at hV
  refine ⟨_, ?_, ho, by rw [hV]; exact b1.1, by rw [hV]; exact b1.2⟩
  unfold decV
  rw [if_pos ho.2]
theorem veq (v : Val) : (decide (v.Kind = v.Kind) && (decide (v.N.M = v.N.M) && (decide (v.N.S = v.N.S) && (decide (v.S = v.S) && (decide (v.B = v.B) && decide (v.E = v.E)))))) = true := by simp
theorem okA_I {l : List Int} (hl : l.length ≤ 28) (h : ∀ n ∈ l, i32 n) : okA (l.map aI) ∧ (l.map aI).any badA = false := by
  refine ⟨⟨by rw [List.length_map]; omega, fun a ha => ?_⟩, ?_⟩
  · obtain ⟨n, hn, rfl⟩ := List.mem_map.1 ha
    refine ⟨by simp [aI, one], fun v hv => ?_⟩
    simp only [aI, one, List.mem_singleton] at hv
    subst hv
    exact okW_N (okd_I (h n hn))
  · rw [List.any_eq_false]
    intro a ha
    obtain ⟨n, _, rfl⟩ := List.mem_map.1 ha
    simp [badA, aI, one]
theorem okA_area {l : List Int} (hl : l.length ≤ 28) (h : ∀ n ∈ l, i32 n) : okA [⟨true, l.map (fun n => vN (dI n))⟩] := by
  refine ⟨by simp, fun a ha => ?_⟩
  simp only [List.mem_singleton] at ha
  subst ha
  refine ⟨by simp only [List.length_map]; omega, fun v hv => ?_⟩
  obtain ⟨n, hn, rfl⟩ := List.mem_map.1 hv
  exact okW_N (okd_I (h n hn))
theorem ask_I {k : Nat} {l : List Int} (hk : k = 0 ∨ k = 1 ∨ k = 2 ∨ k = 4) (hl : l.length ≤ 28) (h : ∀ n ∈ l, i32 n) : fun_ApplyF ((k : Int), l.map aI) = some (foldV k (l.map dI)) := by
  obtain ⟨h1, h2⟩ := okA_I hl h
  rw [apply_many (by rw [List.length_map]; omega) (by omega), many_num (by omega) h1 h2, numA_I]; rfl
theorem sum_V {l : List Int} (hl : l.length ≤ 28) (h : ∀ n ∈ l, i32 n) : foldV 0 (l.map dI) = vN (dI l.sum) := by
  have := sum_I l 0 (by simp only [Int.natAbs_zero]; omega) h
  rw [Int.zero_add] at this
  unfold foldV
  rw [if_neg (by decide), if_neg (by decide), show (⟨0, 0⟩ : Dec) = dI 0 from rfl, this]; rfl
theorem FunFolds_true {l : List Int} (h : ∀ n ∈ l, i32 n) : law11_FunFoldsF l = some true := by
  unfold law11_FunFoldsF
  rw [show law11_knownF () = some true from rfl, obnd_some]
  simp only [Bool.not_true, brn_false]
  by_cases h0 : (l.length : Int) = 0
  · rw [decide_eq_true h0, brn_true]
  rw [decide_eq_false h0, brn_false]
  by_cases h1 : 28 < (l.length : Int)
  · rw [decide_eq_true h1, brn_true]
  rw [decide_eq_false h1, brn_false]
  have hl : l.length ≤ 28 := by omega
  obtain ⟨x, xs, rfl⟩ : ∃ x xs, l = x :: xs := by
    cases l with
    | nil => exact absurd rfl h0
    | cons x xs => exact ⟨x, xs, rfl⟩
  have hx := h x (by simp)
  have hi := hx
  unfold i32 at hi
  rw [idxZ, obnd_some, obnd_some, i64_in (by omega) (by omega), folds_l1 hl h, fs_fold (x :: xs) (x :: xs) 0 _ (by omega), List.take_length]
  simp only [List.nil_append, Int.zero_add, obnd_some]
  have hrev : ∀ n ∈ (x :: xs).reverse, i32 n := fun n hn => h n (List.mem_reverse.1 hn)
  have hlr : ((x :: xs).reverse).length ≤ 28 := by rw [List.length_reverse]; exact hl
  have a0 := ask_I (k := 0) (by omega) hl h
  have a1 := ask_I (k := 1) (by omega) hl h
  have a4 := ask_I (k := 4) (by omega) hl h
  have r0 := ask_I (k := 0) (by omega) hlr hrev
  have r2 := ask_I (k := 2) (by omega) hlr hrev
  simp only [Int.cast_ofNat_Int] at a0 a1 a4 r0 r2
  have ar : fun_ApplyF (0, [⟨true, (x :: xs).map (fun n => vN (dI n))⟩]) = some (vN (dI (x :: xs).sum)) := by
    rw [show (0 : Int) = ((0 : Nat) : Int) from rfl, apply_many (by simp) (by omega), many_num (by omega) (okA_area hl h) (by simp [badA])]
    have e : numA [] [⟨true, (x :: xs).map (fun n => vN (dI n))⟩] = .inl ((x :: xs).map dI) := by
      have := numL_one true [] (x :: xs)
      rw [List.nil_append] at this
      unfold numA
      simp only [foldX]
      rw [this]
    rw [e]
    simp only
    rw [show (((0 : Nat)) : Int) = 0 from rfl, sum_V hl h]
  have ct : fun_ApplyF (3, (x :: xs).map aI) = some (vN (dI (x :: xs).length)) := by
    rw [show (3 : Int) = ((3 : Nat) : Int) from rfl, apply_many (by rw [List.length_map]; omega) (by omega), show (((3 : Nat)) : Int) = 3 from rfl, many_count (okA_I hl h).1 (okA_I hl h).2, cntA_I, Nat.zero_add]; rfl
  have lx : leastL x (x :: xs) = leastL x xs := by unfold leastL; simp
  have m1 : foldV 1 ((x :: xs).map dI) = vN (dI (leastL x xs)) := by
    unfold foldV
    rw [if_pos rfl]
    simp only [List.map_cons]
    rw [min_I]
  have mx : ∀ n ∈ x :: xs, n ≤ mostL x (x :: xs) := (most_ok (x :: xs) x).2
  have mm : mostL x (x :: xs) ∈ x :: xs := by
    rcases most_mem (x :: xs) x with h | h
    · rw [h]; simp
    · exact h
  have m2 : foldV 2 ((x :: xs).reverse.map dI) = vN (dI (mostL x (x :: xs))) := by
    unfold foldV
    rw [if_neg (by decide), if_pos rfl]
    obtain ⟨y, ys, e⟩ : ∃ y ys, (x :: xs).reverse = y :: ys := by
      cases hr : (x :: xs).reverse with
      | nil => simp at hr
      | cons y ys => exact ⟨y, ys, rfl⟩
    rw [e]
    simp only [List.map_cons]
    rw [max_I]
    have memr : ∀ n, n ∈ y :: ys ↔ n ∈ x :: xs := fun n => by rw [← e, List.mem_reverse]
    have k1 : mostL y ys ∈ x :: xs := by
      rw [← memr]
      rcases most_mem ys y with h | h
      · rw [h]; simp
      · simp [h]
    have k2 : ∀ n ∈ x :: xs, n ≤ mostL y ys := fun n hn => by
      rw [← memr] at hn
      rcases List.mem_cons.1 hn with rfl | hn
      · exact (most_ok ys _).1
      · exact (most_ok ys y).2 n hn
    have := mx _ k1
    have := k2 _ mm
    rw [show mostL y ys = mostL x (x :: xs) by omega]
  have sm := sum_I (x :: xs) 0 (by simp only [Int.natAbs_zero]; omega) h
  rw [Int.zero_add] at sm
  have lo_i : i32 (leastL x (x :: xs)) := by
    rcases least_mem (x :: xs) x with e | e
    · rw [e]; exact hx
    · exact h _ e
  have hi_i : i32 (mostL x (x :: xs)) := h _ mm
  have s1 := sum_ge (x :: xs) _ (least_ok (x :: xs) x).2
  have s2 := sum_le (x :: xs) _ mx
  have sS : (x :: xs).sum.natAbs ≤ 100000000000 := by
    have t1 := sum_ge (x :: xs) (-2147483648) (fun n hn => (h n hn).1)
    have t2 := sum_le (x :: xs) 2147483647 (fun n hn => (h n hn).2)
    omega
  obtain ⟨d, d1, d2, d3, d4⟩ := avg_is (n := (x :: xs).length) (by simp) hl sS lo_i hi_i s1 s2
  have m4 : foldV 4 ((x :: xs).map dI) = vN d := by
    unfold foldV
    rw [if_neg (by decide), if_neg (by decide), show (⟨0, 0⟩ : Dec) = dI 0 from rfl, sm]
    simp only [if_true]
    rw [if_neg (by decide), List.length_map, d1]; rfl
  rw [a4, m4, obnd_some, folds_l2 hl, obnd_some, a0, sum_V hl h, obnd_some, show law9_NF (x :: xs).sum = some (vN (dI (x :: xs).sum)) from rfl, obnd_some, veq]
  simp only [cond_false, brn_true]
  rw [r0, sum_V hlr hrev, List.sum_reverse]
  simp only [obnd_some, decide_true, Bool.and_self, brn_true]
  rw [ar]
  simp only [obnd_some, decide_true, Bool.and_self, brn_true]
  rw [a1, m1, lx, show law9_NF (leastL x xs) = some (vN (dI (leastL x xs))) from rfl]
  simp only [obnd_some, decide_true, Bool.and_self, brn_true]
  rw [r2, m2, show law9_NF (mostL x (x :: xs)) = some (vN (dI (mostL x (x :: xs)))) from rfl]
  simp only [obnd_some, decide_true, Bool.and_self, brn_true]
  rw [ct, show law9_NF ((x :: xs).length : Int) = some (vN (dI (x :: xs).length)) from rfl]
  simp only [obnd_some, decide_true, Bool.and_self, brn_true]
  rw [show decide ((vN d).Kind = 1) = true from rfl, brn_true]
  rw [lx] at d3
  rw [cmp_vN d2 (okd_I (by rw [← lx]; exact lo_i)), V_I, obnd_some]
  have c1 : 0 ≤ cmpV (V d) (leastL x xs * 1000000000) := by unfold cmpV; rw [if_neg (by omega)]; split <;> omega
  rw [decide_eq_true c1, brn_true, cmp_vN d2 (okd_I hi_i), V_I, obnd_some]
  have c2 : cmpV (V d) (mostL x (x :: xs) * 1000000000) ≤ 0 := by
    unfold cmpV
    split
    · omega
    · rw [if_neg (by omega)]; omega
  rw [decide_eq_true c2]
end Go.Proofs.YtdgpkbnnljblmaaGreatDoor
