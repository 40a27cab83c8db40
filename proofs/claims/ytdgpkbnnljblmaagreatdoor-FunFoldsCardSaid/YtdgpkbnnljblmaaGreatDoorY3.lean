/- Y3 -/
import Derived.Test.YtdgpkbnnljblmaaGreatDoorY2
namespace Go.Proofs.YtdgpkbnnljblmaaGreatDoor
open Go Go.Ev Go.Lib
def okd (d : Dec) : Prop := okD d ∧ I64 d.M
theorem okd0 : okd ⟨0, 0⟩ := ⟨ok0, I0⟩
theorem okdI {n : Int} (h : I64 n) : okd ⟨n, 0⟩ := ⟨okInt n, h⟩
def okR (r : Dec × Int) : Prop := (r.2 = 0 → okd r.1) ∧ (r.2 ≠ 0 → r.1 = ⟨0, 0⟩)
theorem decV_okR (v : Int) {p : Nat} (hp : p ≤ 9) : okR (decV v p) := by
  have h := @decV_ok v p
  unfold decV at h ⊢
  by_cases hc : I64 (strip v p).1
  · rw [if_pos hc] at h ⊢
    exact ⟨fun _ => (by obtain ⟨h1, h2, _⟩ := h hp rfl; exact ⟨h1, h2⟩), fun e => absurd rfl e⟩
  · rw [if_neg hc]; exact ⟨fun e => by simp at e, fun _ => rfl⟩
theorem natS {d : Dec} (h : okD d) : ∃ s : Nat, d = ⟨d.M, (s : Int)⟩ ∧ s ≤ 9 := by
  obtain ⟨M, S⟩ := d
  obtain ⟨s, rfl⟩ := Int.eq_ofNat_of_zero_le h.1
  have := h.2.1
  exact ⟨s, rfl, by simp only at this; omega⟩
theorem add_eq {a b : Dec} (ha : okd a) (hb : okd b) : ∃ r, dec_AddF (a, b) = some r ∧ ref7_AddDecF (a, b) = some r ∧ okR r ∧ r = decV (V a + V b) 9 := by
  refine ⟨_, Add_is ha.2 hb.2 ha.1 hb.1, ?_, decV_okR _ (by omega), rfl⟩
  obtain ⟨s, es, hs⟩ := natS ha.1
  obtain ⟨t, et, ht⟩ := natS hb.1
  have hm := ha.2; have hn := hb.2
  generalize a.M = M at *; generalize b.M = N at *
  subst es; subst et
  exact refAdd_is hm hn hs ht
theorem div_eq {a b : Dec} (ha : okd a) (hb : okd b) : ∃ r, dec_DivF (a, b) = some r ∧ ref7_DivDecF (a, b) = some r ∧ okR r := by
  by_cases h0 : b.M = 0
  · refine ⟨(⟨0, 0⟩, 9), ?_, ?_, fun e => by simp at e, fun _ => rfl⟩
    · unfold dec_DivF; simp only; rw [decide_eq_true h0, brn_true]
    · unfold ref7_DivDecF; simp only; rw [decide_eq_true h0, brn_true]
  obtain ⟨s, es, hs⟩ := natS ha.1
  obtain ⟨t, et, ht⟩ := natS hb.1
  have hm := ha.2; have hn := hb.2
  generalize a.M = M at *; generalize b.M = N at *
  subst es; subst et
  exact ⟨_, prodDiv_is hm hn hs ht h0, refDiv_is hm hn hs ht h0, decV_okR _ (by omega)⟩
theorem cmp_eq {a b : Dec} (ha : okd a) (hb : okd b) : dec_CompareF (a, b) = some (cmpV (V a) (V b)) ∧ ref7_CompareDecF (a, b) = some (cmpV (V a) (V b)) := cmp_num ha.1 hb.1 ha.2 hb.2
def numV (r : Dec × Int) : Val := if r.2 = 0 then vN r.1 else if r.2 = 9 then vE 7 else vE 36
theorem num_is2 (r : Dec × Int) : fun_numF r = some (numV r) := by
  unfold fun_numF numV
  by_cases h : r.2 = 0
  · simp [h, vN]
  · by_cases h9 : r.2 = 9 <;> simp [h, h9, fault_is]
theorem int_is (n : Int) : fun_integerF n = some (vN ⟨n, 0⟩) := by
  unfold fun_integerF
  rw [show dec_IntF n = some ⟨n, 0⟩ from rfl, obnd_some, num_is2]; rfl
def cnt1 (area : Bool) (n : Nat) (v : Val) : Nat := bif (numR v).2.2 && (!area || decide (v.Kind = 1)) then n + 1 else n
theorem foldX_inl {A S Y : Type} (f : S → A → S) (fin : S → Y) : ∀ (l : List A) (s : S), foldX (fun s a => .inl (f s a)) fin s l = fin (l.foldl f s)
  | [], _ => rfl
  | a :: l, s => by simp only [foldX, List.foldl_cons]; exact foldX_inl f fin l _
def cntL (area : Bool) (n : Nat) (l : List Val) : Nat := l.foldl (cnt1 area) n
theorem cnt1_le (area : Bool) (n : Nat) (v : Val) : cnt1 area n v ≤ n + 1 := by unfold cnt1; cases (numR v).2.2 && (!area || decide (v.Kind = 1)) <;> simp
theorem cntL_le (area : Bool) : ∀ (l : List Val) (n : Nat), cntL area n l ≤ n + l.length
  | [], n => by simp [cntL]
  | v :: l, n => by
    have := cntL_le area l (cnt1 area n v)
    have := cnt1_le area n v
    simp only [cntL, List.foldl_cons, List.length_cons] at *
    omega
theorem counted_l2 {a : Arg} {n : Nat} (hL : a.L.length ≤ 40) (hv : ∀ v ∈ a.L, okW v) (hn : n ≤ 100000) :
    fun_counted_l2J ((n : Int), a, a.L, (a.L.length : Int), 0) = some ((cntL a.Area n a.L : Nat) : Int) := by
  have := fold_loop (F := fun_counted_l2F) (fun s i => (((s : Nat) : Int), a, a.L, (a.L.length : Int), (i : Int))) (fun s : Nat => (s : Int)) a.L (fun s v => .inl (cnt1 a.Area s v)) id (fun s i => s ≤ n + i) (by omega)
    (fun back s i hi hs => by
      unfold fun_counted_l2F
      simp only
      rw [ltT hi, brn_true, idxG hi, obnd_some, (num_eq (hv _ (List.getElem_mem hi))).1, obnd_some, wr1 (i := i) (by omega)]
      have w : IntKind.i64.wrap ((s : Int) + 1) = ((s + 1 : Nat) : Int) := wr1 (by omega)
      unfold cnt1
      simp only [contX]
      rw [w]
      cases (numR a.L[i]).2.2 with
      | false => rfl
      | true =>
        cases a.Area with
        | false => rfl
        | true =>
          by_cases h1 : (a.L[i]).Kind = 1
          · rw [decide_eq_true h1]; rfl
          · rw [decide_eq_false h1]; rfl)
    (fun s i hi s' hs hst => by
      injection hst with hst
      have := cnt1_le a.Area s a.L[i]
      omega)
    (fun back s hs => by
      unfold fun_counted_l2F
      simp only
      rw [ltF, brn_false]; rfl) n (by simp)
  rw [foldX_inl] at this
  exact this
def cntA (n : Nat) (l : List Arg) : Nat := l.foldl (fun n a => cntL a.Area n a.L) n
theorem counted_is {l : List Arg} (h : okA l) : fun_countedF l = some ((cntA 0 l : Nat) : Int) := by
  have := fold_loop (F := fun_counted_l1F) (fun s i => (((s : Nat) : Int), l, (l.length : Int), (i : Int))) (fun s : Nat => (s : Int)) l (fun s a => .inl (cntL a.Area s a.L)) id (fun s i => s ≤ 40 * i) (by have := h.1; omega)
    (fun back s i hi hs => by
      have hai := h.2 l[i] (List.getElem_mem hi)
      have hl := h.1
      unfold fun_counted_l1F
      simp only
      rw [ltT hi, brn_true, idxG hi, obnd_some, wr1 (by omega), counted_l2 hai.1 hai.2 (by omega), obnd_some]
      rfl)
    (fun s i hi s' hs hst => by
      have hai := h.2 l[i] (List.getElem_mem hi)
      injection hst with hst
      have := cntL_le (l[i]).Area (l[i]).L s
      omega)
    (fun back s hs => by
      unfold fun_counted_l1F
      simp only
      rw [ltF, brn_false]; rfl) 0 (by simp)
  rw [foldX_inl] at this
  have this : fun_counted_l1J (0, l, (l.length : Int), 0) = some ((cntA 0 l : Nat) : Int) := this
  unfold fun_countedF
  rw [this]; rfl
theorem numStep_ok {area : Bool} {acc acc' : List Dec} {v : Val} (hv : okW v) (ha : ∀ d ∈ acc, okd d) (h : numStep area acc v = .inl acc') : ∀ d ∈ acc', okd d := by
  unfold numStep at h
  cases hk : skipN area v with
  | true => rw [hk, cond_true] at h; injection h with h; subst h; exact ha
  | false =>
    rw [hk, cond_false] at h
    cases hn : (numR v).2.2 with
    | true =>
      rw [hn, cond_true] at h; injection h with h; subst h
      intro d hd
      rcases List.mem_append.1 hd with hd | hd
      · exact ha d hd
      · rw [List.mem_singleton.1 hd]; exact num_ok hv
    | false => rw [hn, cond_false] at h; cases h
theorem numL_ok {area : Bool} : ∀ {l : List Val} {acc acc' : List Dec}, (∀ v ∈ l, okW v) → (∀ d ∈ acc, okd d) → numL area acc l = .inl acc' → ∀ d ∈ acc', okd d
  | [], acc, acc', _, ha, h => by simp only [numL, foldX] at h; injection h with h; subst h; exact ha
  | v :: l, acc, acc', hv, ha, h => by
    simp only [numL, foldX] at h
    cases hs : numStep area acc v with
    | inl a =>
      rw [hs] at h
      exact numL_ok (l := l) (fun v hv' => hv v (List.mem_cons_of_mem _ hv')) (numStep_ok (hv v (List.mem_cons_self ..)) ha hs) h
    | inr y =>
      rw [hs] at h
      have h : y = .inl acc' := h
      subst h
      unfold numStep at hs
      cases h1 : skipN area v <;> cases h2 : (numR v).2.2 <;> simp [h1, h2] at hs
theorem numA_ok : ∀ {l : List Arg} {acc acc' : List Dec}, (∀ a ∈ l, ∀ v ∈ a.L, okW v) → (∀ d ∈ acc, okd d) → numA acc l = .inl acc' → ∀ d ∈ acc', okd d
  | [], acc, acc', _, ha, h => by simp only [numA, foldX] at h; injection h with h; subst h; exact ha
  | a :: l, acc, acc', hv, ha, h => by
    simp only [numA, foldX] at h
    cases hs : numL a.Area acc a.L with
    | inl x =>
      rw [hs] at h
      exact numA_ok (l := l) (fun b hb => hv b (List.mem_cons_of_mem _ hb)) (numL_ok (hv a (List.mem_cons_self ..)) ha hs) h
    | inr y => rw [hs] at h; cases h
theorem numA_len : ∀ {l : List Arg} {acc acc' : List Dec}, (∀ a ∈ l, a.L.length ≤ 40) → numA acc l = .inl acc' → acc'.length ≤ acc.length + 40 * l.length
  | [], acc, acc', _, h => by simp only [numA, foldX] at h; injection h with h; subst h; simp
  | a :: l, acc, acc', hv, h => by
    simp only [numA, foldX] at h
    cases hs : numL a.Area acc a.L with
    | inl x =>
      rw [hs] at h
      have := numA_len (l := l) (fun b hb => hv b (List.mem_cons_of_mem _ hb)) h
      have := numL_len hs
      have := hv a (List.mem_cons_self ..)
      simp only [List.length_cons]; omega
    | inr y => rw [hs] at h; cases h
def minD (m y : Dec) : Dec := if V y < V m then y else m
def maxD (m y : Dec) : Dec := if V m < V y then y else m
theorem cmpV_lt0 (a b : Int) : decide (cmpV a b < 0) = decide (a < b) := by
  unfold cmpV
  by_cases h : a < b
  · simp [h]
  · by_cases h' : b < a <;> simp [h, h']
theorem cmpV_gt0 (a b : Int) : decide (0 < cmpV a b) = decide (b < a) := by
  unfold cmpV
  by_cases h : a < b
  · have : ¬ b < a := by omega
    simp [h, this]
  · by_cases h' : b < a <;> simp [h, h']
theorem minD_ok {m y : Dec} (hm : okd m) (hy : okd y) : okd (minD m y) := by unfold minD; split <;> assumption
theorem maxD_ok {m y : Dec} (hm : okd m) (hy : okd y) : okd (maxD m y) := by unfold maxD; split <;> assumption
theorem min_is {x : Dec} {xs : List Dec} (hx : okd x) (hl : xs.length ≤ 100000) (h : ∀ d ∈ xs, okd d) : slices_MinFunc_dec_Dec_dec_Dec_dec_CompareF (x :: xs, ()) = some (xs.foldl minD x) := by
  have := fold_loop (F := slices_MinFunc_dec_Dec_dec_Dec_dec_Compare_l1F) (fun s i => (x :: xs, (), s, ((i + 1 : Nat) : Int))) (fun s : Dec => ((), s)) xs (fun s y => .inl (minD s y)) id (fun s _ => okd s) (by omega)
    (fun back s i hi hs => by
      have hy := h _ (List.getElem_mem hi)
      have hi' : i + 1 < (x :: xs).length := by simpa using hi
      unfold slices_MinFunc_dec_Dec_dec_Dec_dec_Compare_l1F
      simp only
      rw [ltT hi', brn_true, idxG hi', obnd_some, List.getElem_cons_succ, (cmp_eq hy hs).1, obnd_some, obnd_some, wr1 (by omega), cmpV_lt0]
      simp only [contX, minD]
      by_cases c : V xs[i] < V s
      · rw [decide_eq_true c, if_pos c]; rfl
      · rw [decide_eq_false c, if_neg c]; rfl)
    (fun s i hi s' hs hst => by
      injection hst with hst; subst hst
      exact minD_ok hs (h _ (List.getElem_mem hi)))
    (fun back s hs => by
      unfold slices_MinFunc_dec_Dec_dec_Dec_dec_Compare_l1F
      simp only
      rw [show ((xs.length + 1 : Nat) : Int) = ((x :: xs).length : Int) by simp, ltF, brn_false]; rfl) x hx
  rw [foldX_inl] at this
  have this : slices_MinFunc_dec_Dec_dec_Dec_dec_Compare_l1J (x :: xs, (), x, 1) = some ((), xs.foldl minD x) := this
  unfold slices_MinFunc_dec_Dec_dec_Dec_dec_CompareF
  simp only
  rw [decide_eq_false (by simp; omega), brn_false, idxZ, obnd_some, this]; rfl
theorem max_is {x : Dec} {xs : List Dec} (hx : okd x) (hl : xs.length ≤ 100000) (h : ∀ d ∈ xs, okd d) : slices_MaxFunc_dec_Dec_dec_Dec_dec_CompareF (x :: xs, ()) = some (xs.foldl maxD x) := by
  have := fold_loop (F := slices_MaxFunc_dec_Dec_dec_Dec_dec_Compare_l1F) (fun s i => (x :: xs, (), s, ((i + 1 : Nat) : Int))) (fun s : Dec => ((), s)) xs (fun s y => .inl (maxD s y)) id (fun s _ => okd s) (by omega)
    (fun back s i hi hs => by
      have hy := h _ (List.getElem_mem hi)
      have hi' : i + 1 < (x :: xs).length := by simpa using hi
      unfold slices_MaxFunc_dec_Dec_dec_Dec_dec_Compare_l1F
      simp only
      rw [ltT hi', brn_true, idxG hi', obnd_some, List.getElem_cons_succ, (cmp_eq hy hs).1, obnd_some, obnd_some, wr1 (by omega), cmpV_gt0]
      simp only [contX, maxD]
      by_cases c : V s < V xs[i]
      · rw [decide_eq_true c, if_pos c]; rfl
      · rw [decide_eq_false c, if_neg c]; rfl)
    (fun s i hi s' hs hst => by
      injection hst with hst; subst hst
      exact maxD_ok hs (h _ (List.getElem_mem hi)))
    (fun back s hs => by
      unfold slices_MaxFunc_dec_Dec_dec_Dec_dec_Compare_l1F
      simp only
      rw [show ((xs.length + 1 : Nat) : Int) = ((x :: xs).length : Int) by simp, ltF, brn_false]; rfl) x hx
  rw [foldX_inl] at this
  have this : slices_MaxFunc_dec_Dec_dec_Dec_dec_Compare_l1J (x :: xs, (), x, 1) = some ((), xs.foldl maxD x) := this
  unfold slices_MaxFunc_dec_Dec_dec_Dec_dec_CompareF
  simp only
  rw [decide_eq_false (by simp; omega), brn_false, idxZ, obnd_some, this]; rfl
def addR (t d : Dec) : Dec × Int := decV (V t + V d) 9
def sumStep (t d : Dec) : Dec ⊕ (Dec × Int) := if (addR t d).2 = 0 then .inl (addR t d).1 else .inr (⟨0, 0⟩, (addR t d).2)
def sumD (t : Dec) (l : List Dec) : Dec × Int := foldX sumStep (fun t => (t, 0)) t l
theorem addR_ok (t d : Dec) : okR (addR t d) := decV_okR _ (by omega)
theorem sumStep_ok {t d t' : Dec} (h : sumStep t d = .inl t') : okd t' := by
  unfold sumStep at h
  by_cases c : (addR t d).2 = 0
  · rw [if_pos c] at h; injection h with h; subst h; exact (addR_ok t d).1 c
  · rw [if_neg c] at h; cases h
theorem sumD_ok : ∀ {l : List Dec} {t : Dec}, okd t → okR (sumD t l)
  | [], t, h => ⟨fun _ => h, fun e => absurd rfl e⟩
  | d :: l, t, h => by
    unfold sumD
    simp only [foldX]
    cases hs : sumStep t d with
    | inl t' => exact sumD_ok (l := l) (sumStep_ok hs)
    | inr y =>
      unfold sumStep at hs
      by_cases c : (addR t d).2 = 0
      · rw [if_pos c] at hs; cases hs
      · rw [if_neg c] at hs; injection hs with hs; subst hs
        exact ⟨fun e => absurd e c, fun _ => rfl⟩
def sumOut (r : Dec × Int) : ((Unit) × (Val × Dec)) ⊕ ((Unit) × (Val × Dec)) := if r.2 = 0 then .inl ((), v0, r.1) else .inr ((), numV r, r.1)
theorem many_l5 {l : List Dec} (hl : l.length ≤ 100000) (h : ∀ d ∈ l, okd d) : fun_many_l5J (v0, ⟨0, 0⟩, l, (l.length : Int), 0) = some (sumOut (sumD ⟨0, 0⟩ l)) := by
  refine fold_loop (F := fun_many_l5F) (fun s i => (v0, s, l, (l.length : Int), (i : Int))) sumOut l sumStep (fun t => (t, 0)) (fun s _ => okd s) (by omega) ?_ ?_ ?_ ⟨0, 0⟩ okd0
  · intro back s i hi hs
    have hy := h _ (List.getElem_mem hi)
    obtain ⟨r, h1, _, hr, h3⟩ := add_eq hs hy
    unfold fun_many_l5F
    simp only
    rw [ltT hi, brn_true, idxG hi, obnd_some, h1, obnd_some, wr1 (by omega), num_is2, obnd_some]
    unfold sumStep addR
    rw [← h3]
    by_cases c : r.2 = 0
    · rw [decide_eq_true c, if_pos c]; rfl
    · rw [decide_eq_false c, if_neg c]
      obtain ⟨d, e⟩ := r
      have := hr.2 c
      simp only at this c
      subst this
      simp only [contX, sumOut, if_neg c]
      rfl
  · intro s i hi s' hs hst
    exact sumStep_ok hst
  · intro back s hs
    unfold fun_many_l5F
    simp only
    rw [ltF, brn_false]; rfl
end Go.Proofs.YtdgpkbnnljblmaaGreatDoor
