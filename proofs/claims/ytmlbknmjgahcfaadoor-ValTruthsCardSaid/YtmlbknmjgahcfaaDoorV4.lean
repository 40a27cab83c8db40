/- Laws on values: what each computes is true. -/
import Derived.Test.YtmlbknmjgahcfaaDoorV3
import Derived.Test.YtmlbknmjgahcfaaDoorVO
import Derived.Test.YtmlbknmjgahcfaaDoorPP
namespace Go.Proofs.YtmlbknmjgahcfaaDoor
open Go Go.Ev

/-- a loop's rounds, by what holds of what they tell -/
theorem iter_rel {X Y : Type} {F : (X → Option Y) → X → Option Y} (m : X → Nat) (Pre : X → Prop) (R : X → Y → Prop)
    (h : ∀ back x, Pre x → (∀ x', Pre x' → m x' < m x → ∃ y, back x' = some y ∧ R x' y) → ∃ y, F back x = some y ∧ R x y) (x : X) (hp : Pre x) (hm : m x < 9223372036854775808) : ∃ y, iter F big x = some y ∧ R x y := by
  have key : ∀ n x, Pre x → m x < n → ∃ y, iter F n x = some y ∧ R x y := by
    intro n
    induction n with
    | zero => intro x _ h0; omega
    | succ n ih =>
      intro x hp hn
      rw [iter_succ]
      exact h _ x hp fun x' hp' hm => ih x' hp' (by omega)
  exact key _ x hp (by rw [big_pos]; omega)

theorem cmpV_N (a b : Int) : cmpV a b = cmpN a b := rfl
theorem cmpr_is (x y : Int) : cmp_Compare_runeF (x, y) = some (cmpN x y) := by
  unfold cmp_Compare_runeF cmp_isNaN_runeF cmpN
  simp only [decide_true, cond_true, obnd_some, brn_false]
  by_cases h : x < y
  · simp [h]
  · by_cases h2 : y < x <;> simp [h, h2]
theorem rs_at {s : List UInt8} {p : Nat} (h : p < s.length) : rs (s.drop p) = ((rune s p).1 : Int) :: rs (s.drop (p + (rune s p).2)) ∧ 1 ≤ (rune s p).2 := by
  have hne : s.drop p ≠ [] := fun h0 => by have := congrArg List.length h0; simp at this; omega
  rw [rs_cons hne, rune_drop, List.drop_drop]
  exact ⟨rfl, Lib.decodeL_width _⟩
theorem texts_l1 {s : List UInt8} {bs : List Int} (hs : s.length ≤ 1000000) (hb : bs.length ≤ 1000000) :
    ∃ y, val_texts_l1J (bs, 0, s, 0) = some y ∧ (match y with | .inl k => walk (rs s) bs 0 = .inl k.1 | .inr r => walk (rs s) bs 0 = .inr r.1) := by
  have h := iter_rel (F := val_texts_l1F) (fun x => x.2.2.1.length - x.2.2.2) (fun x => x.1 = bs ∧ 0 ≤ x.2.1 ∧ x.2.1 ≤ bs.length)
    (fun x y => match y with | .inl k => walk (rs (x.2.2.1.drop x.2.2.2)) (bs.drop x.2.1.toNat) x.2.1 = .inl k.1 | .inr r => walk (rs (x.2.2.1.drop x.2.2.2)) (bs.drop x.2.1.toNat) x.2.1 = .inr r.1) ?_ (bs, 0, s, 0) ⟨rfl, by simp, by simp⟩ (by simp only; omega)
  · unfold val_texts_l1J
    simpa using h
  · intro back x hx hback
    obtain ⟨b, i, s, p⟩ := x
    obtain ⟨h1, h2, h3⟩ := hx
    simp only at h1 h2 h3 hback
    subst h1
    obtain ⟨i, rfl⟩ := Int.eq_ofNat_of_zero_le h2
    unfold val_texts_l1F
    simp only [Int.toNat_natCast]
    by_cases hp : p < s.length
    · obtain ⟨e1, e2⟩ := rs_at hp
      rw [decide_eq_true hp, brn_true, e1]
      by_cases hi : (i : Int) = b.length
      · rw [decide_eq_true hi, brn_true]
        refine ⟨_, rfl, ?_⟩
        simp only
        rw [show b.drop i = [] from List.drop_eq_nil_of_le (by omega)]; rfl
      · have hlt : i < b.length := by omega
        have hix : idx b (i : Int) = some b[i] := by simp [idx, hlt]
        rw [decide_eq_false hi, brn_false, hix, obnd_some, List.drop_eq_getElem_cons hlt]
        by_cases hr : ((rune s p).1 : Int) = b[i]
        · rw [decide_eq_true hr, Bool.not_true, brn_false, i64_in (by omega) (by omega)]
          obtain ⟨y, hy, hR⟩ := hback (b, (i : Int) + 1, s, p + (rune s p).2) ⟨rfl, by simp only; omega, by simp only; omega⟩ (by simp only; omega)
          refine ⟨y, hy, ?_⟩
          simp only at hR ⊢
          rw [show ((i : Int) + 1).toNat = i + 1 by omega] at hR
          unfold walk
          rw [if_pos hr]
          exact hR
        · rw [decide_eq_false hr, Bool.not_false, brn_true, obnd_some, cmpr_is, obnd_some]
          refine ⟨_, rfl, ?_⟩
          simp only
          unfold walk
          rw [if_neg hr]
    · rw [decide_eq_false hp, brn_false]
      refine ⟨_, rfl, ?_⟩
      simp only
      rw [List.drop_eq_nil_of_le (by omega), rs_nil]
      cases b.drop i <;> rfl
theorem texts_is {a b : List UInt8} (ha : a.length ≤ 1000) (hb : b.length ≤ 1000) : val_textsF (a, b) = some (cmpL (rs a) (rs b)) := by
  unfold val_textsF
  have hr : (bif b.length.ble 70368744177664 then some (runesL b b.length 0) else none) = some (rs b) := runes_is (by omega)
  simp only
  rw [hr, obnd_some]
  have hl := rs_length b
  obtain ⟨y, hy, hR⟩ := texts_l1 (s := a) (bs := rs b) (by omega) (by omega)
  rw [hy, obnd_some]
  have hw := walk_is (rs a) (rs b) 0
  cases y with
  | inl k =>
    simp only at hR
    rw [hR] at hw
    simp only at hw
    simp only [osum, cmpi_is, obnd_some]
    rw [← hw, Int.zero_add, cmpV_N]
  | inr r =>
    simp only at hR
    rw [hR] at hw
    simp only at hw
    simp only [osum]
    rw [hw]
theorem units_is {s : List UInt8} (hs : s.length ≤ 1000) : ∃ us, str_unitsF s = some us := by
  have h := iter_rel (F := str_units_l1F) (fun x => x.2.1.length - x.2.2) (fun x => x.1.length + 2 * (x.2.1.length - x.2.2) ≤ 2000) (fun _ _ => True) ?_ ([], s, 0) (by simp only [List.length_nil]; omega) (by simp only; omega)
  · obtain ⟨y, hy, _⟩ := h
    refine ⟨y.1, ?_⟩
    unfold str_unitsF str_units_l1J
    rw [hy]; rfl
  · intro back x hx hback
    obtain ⟨o, s, p⟩ := x
    simp only at hx hback
    unfold str_units_l1F
    simp only
    by_cases hp : p < s.length
    · have e2 := (rs_at hp).2
      rw [decide_eq_true hp, brn_true]
      have happ : ∀ l : List Int, l.length ≤ 2 → app 8 o l = some (o ++ l) := fun l hl => by
        unfold app
        rw [Nat.ble_eq_true_of_le (by omega), cond_true]
      by_cases hr : ((rune s p).1 : Int) < 65536
      · rw [decide_eq_true hr, brn_true, happ _ (by simp), obnd_some]
        obtain ⟨y, hy, _⟩ := hback (o ++ [IntKind.i64.wrap ((rune s p).1 : Int)], s, p + (rune s p).2) (by simp only [List.length_append, List.length_cons, List.length_nil]; omega) (by simp only; omega)
        exact ⟨y, hy, trivial⟩
      · rw [decide_eq_false hr, brn_false, happ _ (by simp), obnd_some]
        obtain ⟨y, hy, _⟩ := hback (o ++ [_, _], s, p + (rune s p).2) (by simp only [List.length_append, List.length_cons, List.length_nil]; omega) (by simp only; omega)
        exact ⟨y, hy, trivial⟩
    · rw [decide_eq_false hp, brn_false]
      exact ⟨_, rfl, trivial⟩

/-! ## values that may be -/
def vB : Val := ⟨0, ⟨0, 0⟩, [], false, 0⟩
def vN (d : Dec) : Val := ⟨1, d, [], false, 0⟩
def vS (s : List UInt8) : Val := ⟨2, ⟨0, 0⟩, s, false, 0⟩
def vT (b : Bool) : Val := ⟨3, ⟨0, 0⟩, [], b, 0⟩
def vE (e : Int) : Val := ⟨4, ⟨0, 0⟩, [], false, e⟩
def okV (v : Val) : Prop := v = vB ∨ (∃ d, v = vN d ∧ okD d) ∨ (∃ s, v = vS s ∧ Lib.validD s = true) ∨ (∃ b, v = vT b) ∨ ∃ e, v = vE e
theorem Check_is (d : Dec) : ∃ e, dec_CheckF d = some e ∧ (e = 0 → okD d) := by
  rcases CheckDec_is d with ⟨h, o⟩ | ⟨e, h, hn⟩
  · exact ⟨0, h, fun _ => o⟩
  · exact ⟨e, h, fun h0 => absurd h0 hn⟩
theorem Units_is {s : List UInt8} (hs : s.length ≤ 1000) : ∃ r, str_UnitsF s = some r ∧ (r.2 = 0 → Lib.validD s = true) := by
  unfold str_UnitsF utf8_ValidStringF
  rw [obnd_some]
  cases hv : Lib.validD s with
  | false => exact ⟨(0, 2), rfl, fun h => by cases h⟩
  | true =>
    obtain ⟨us, hu⟩ := units_is hs
    rw [Bool.not_true, brn_false, hu, obnd_some]
    by_cases h : 1000 < (us.length : Int)
    · rw [decide_eq_true h]; exact ⟨_, rfl, fun _ => rfl⟩
    · rw [decide_eq_false h]; exact ⟨_, rfl, fun _ => rfl⟩
theorem brn_total {α : Type} {b : Bool} {x y : Option α} (hx : ∃ n, x = some n) (hy : ∃ n, y = some n) : ∃ n, brn b x y = some n := by cases b <;> assumption
theorem name_is (e : Int) : ∃ n, val_nameF e = some n :=
  brn_total ⟨_, rfl⟩ (brn_total ⟨_, rfl⟩ (brn_total ⟨_, rfl⟩ (brn_total ⟨_, rfl⟩ (brn_total ⟨_, rfl⟩ (brn_total ⟨_, rfl⟩ (brn_total ⟨_, rfl⟩ ⟨_, rfl⟩))))))
theorem vCheck_is {x : Val} (hs : x.S.length ≤ 1000) : ∃ e, val_CheckF x = some e ∧ (e = 0 → okV x) := by
  obtain ⟨k, n, s, b, e⟩ := x
  simp only at hs
  unfold val_CheckF val_ownF
  simp only [cond_true]
  by_cases h0 : k < 0
  · rw [decide_eq_true h0, brn_true]; exact ⟨1, rfl, fun h => by cases h⟩
  by_cases h4 : 4 < k
  · rw [decide_eq_false h0, brn_false, decide_eq_true h4, brn_true]; exact ⟨1, rfl, fun h => by cases h⟩
  rw [decide_eq_false h0, brn_false, decide_eq_false h4, brn_false]
  have hk : k = 0 ∨ k = 1 ∨ k = 2 ∨ k = 3 ∨ k = 4 := by omega
  obtain ⟨m, t⟩ := n
  rcases hk with rfl | rfl | rfl | rfl | rfl
  · simp only [show ¬ (0 : Int) = 1 by omega, show ¬ (0 : Int) = 2 by omega, show ¬ (0 : Int) = 3 by omega, show ¬ (0 : Int) = 4 by omega, decide_false, decide_true, brn_false, obnd_some, Bool.true_and]
    by_cases h : (decide (m = 0) && (decide (t = 0) && (decide (s = []) && (decide (b = false) && decide (e = 0))))) = true
    · rw [h]
      simp only [Bool.and_eq_true, decide_eq_true_eq] at h
      obtain ⟨rfl, rfl, rfl, rfl, rfl⟩ := h
      exact ⟨0, rfl, fun _ => .inl rfl⟩
    · rw [Bool.eq_false_iff.2 h]; exact ⟨1, rfl, fun h => by cases h⟩
  · simp only [decide_true, brn_true, obnd_some, Bool.true_and]
    by_cases h : (decide (s = []) && (decide (b = false) && decide (e = 0))) = true
    · rw [h]
      simp only [Bool.and_eq_true, decide_eq_true_eq] at h
      obtain ⟨rfl, rfl, rfl⟩ := h
      obtain ⟨r, hr, hok⟩ := Check_is ⟨m, t⟩
      rw [hr]
      exact ⟨r, rfl, fun h => .inr (.inl ⟨_, rfl, hok h⟩)⟩
    · rw [Bool.eq_false_iff.2 h]; exact ⟨1, rfl, fun h => by cases h⟩
  · simp only [show ¬ (2 : Int) = 1 by omega, decide_false, decide_true, brn_false, brn_true, obnd_some, Bool.true_and]
    by_cases h : (decide (m = 0) && (decide (t = 0) && (decide (b = false) && decide (e = 0)))) = true
    · rw [h]
      simp only [Bool.and_eq_true, decide_eq_true_eq] at h
      obtain ⟨rfl, rfl, rfl, rfl⟩ := h
      obtain ⟨r, hr, hok⟩ := Units_is hs
      rw [hr]
      exact ⟨r.2, rfl, fun h => .inr (.inr (.inl ⟨_, rfl, hok h⟩))⟩
    · rw [Bool.eq_false_iff.2 h]; exact ⟨1, rfl, fun h => by cases h⟩
  · simp only [show ¬ (3 : Int) = 1 by omega, show ¬ (3 : Int) = 2 by omega, show ¬ (3 : Int) = 4 by omega, decide_false, decide_true, brn_false, brn_true, obnd_some, Bool.true_and]
    by_cases h : (decide (m = 0) && (decide (t = 0) && (decide (s = []) && decide (e = 0)))) = true
    · rw [h]
      simp only [Bool.and_eq_true, decide_eq_true_eq] at h
      obtain ⟨rfl, rfl, rfl, rfl⟩ := h
      exact ⟨0, rfl, fun _ => .inr (.inr (.inr (.inl ⟨_, rfl⟩)))⟩
    · rw [Bool.eq_false_iff.2 h]; exact ⟨1, rfl, fun h => by cases h⟩
  · simp only [show ¬ (4 : Int) = 1 by omega, show ¬ (4 : Int) = 2 by omega, show ¬ (4 : Int) = 3 by omega, decide_false, decide_true, brn_false, brn_true, obnd_some, Bool.true_and, val_FaultF, Bool.and_true]
    by_cases h : (decide (m = 0) && (decide (t = 0) && (decide (s = []) && decide (b = false)))) = true
    · rw [h]
      simp only [Bool.and_eq_true, decide_eq_true_eq] at h
      obtain ⟨rfl, rfl, rfl, rfl⟩ := h
      obtain ⟨n, hn⟩ := name_is e
      rw [hn, Bool.not_true, brn_false, obnd_some]
      by_cases hn0 : n = []
      · rw [decide_eq_true hn0]; exact ⟨1, rfl, fun h => by cases h⟩
      · rw [decide_eq_false hn0]; exact ⟨0, rfl, fun _ => .inr (.inr (.inr (.inr ⟨_, rfl⟩)))⟩
    · rw [Bool.eq_false_iff.2 h]; exact ⟨1, rfl, fun h => by cases h⟩

/-! ## which is the less -/
/-- a value that is no Blank, by numbers -/
def key (v : Val) : List Int := v.Kind :: (if v.Kind = 1 then [V v.N] else if v.Kind = 2 then rs v.S else if v.Kind = 3 then [if v.B then 1 else 0] else [v.E])
def okW (v : Val) : Prop := okV v ∧ v.S.length ≤ 1000 ∧ I64 v.N.M
theorem key_inj {a b : Val} (ha : okV a) (hb : okV b) (a0 : a.Kind ≠ 0) (b0 : b.Kind ≠ 0) (h : key a = key b) : a = b := by
  rcases ha with rfl | ⟨d, rfl, hd⟩ | ⟨s, rfl, hs⟩ | ⟨t, rfl⟩ | ⟨e, rfl⟩
  · exact absurd rfl a0
  all_goals rcases hb with rfl | ⟨d', rfl, hd'⟩ | ⟨s', rfl, hs'⟩ | ⟨t', rfl⟩ | ⟨e', rfl⟩
  all_goals first
    | exact absurd rfl b0
    | (exfalso; simp [key, vN, vS, vT, vE] at h; done)
    | skip
  · simp [key, vN] at h
    rw [V_inj hd hd' h]
  · simp [key, vS] at h
    rw [rs_inj _ s s' (Nat.le_refl _) hs hs' h]
  · cases t <;> cases t' <;> simp [key, vT] at h ⊢
  · simp [key, vE] at h
    rw [h]
theorem num_is {a b : Bool} : obnd (val_numberF a) (fun y => obnd (val_numberF b) fun z => cmp_Compare_intF (y, z)) = some (cmpN (if a then 1 else 0) (if b then 1 else 0)) := by
  cases a <;> cases b <;> rfl
theorem cmpL_one (a b : Int) : cmpL [a] [b] = cmpN a b := by
  unfold cmpL
  split
  · rename_i h; rw [(ordN.same a b).2 h]; rfl
  · rfl
theorem cmpL_head {r : Int} (xs ys : List Int) : cmpL (r :: xs) (r :: ys) = cmpL xs ys := by
  show (if r = r then _ else _) = _
  rw [if_pos rfl]
theorem Cmp_is {a b : Val} (ha : okW a) (hb : okW b) (a0 : a.Kind ≠ 0) (b0 : b.Kind ≠ 0) : val_CompareF (a, b) = some (cmpL (key a) (key b)) := by
  unfold val_CompareF val_Compare_b1J
  simp only
  rw [decide_eq_false a0, brn_false, obnd_some, brn_false, decide_eq_false b0, brn_false]
  by_cases hk : a.Kind = b.Kind
  · rw [decide_eq_true hk, Bool.not_true, brn_false]
    obtain ⟨ha, la, ia⟩ := ha
    obtain ⟨hb, lb, ib⟩ := hb
    rcases ha with rfl | ⟨d, rfl, hd⟩ | ⟨s, rfl, hs⟩ | ⟨t, rfl⟩ | ⟨e, rfl⟩
    · exact absurd rfl a0
    all_goals rcases hb with rfl | ⟨d', rfl, hd'⟩ | ⟨s', rfl, hs'⟩ | ⟨t', rfl⟩ | ⟨e', rfl⟩
    all_goals first
      | exact absurd rfl b0
      | (exfalso; simp [vN, vS, vT, vE] at hk; done)
      | skip
    · show (obnd (obnd (dec_CompareF (d, d')) fun y => some (Sum.inr y : Unit ⊕ Int)) fun y => osum y (fun _ => some 0) fun y => some y) = some (cmpL (1 :: [V d]) (1 :: [V d']))
      have ia : I64 d.M := ia
      have ib : I64 d'.M := ib
      rw [Compare_is ia ib hd.1 hd.2.1 hd'.1 hd'.2.1, cmpL_head, cmpL_one]; rfl
    · show (obnd (obnd (val_textsF (s, s')) fun y => some (Sum.inr y : Unit ⊕ Int)) fun y => osum y (fun _ => some 0) fun y => some y) = some (cmpL (2 :: rs s) (2 :: rs s'))
      have la : s.length ≤ 1000 := la
      have lb : s'.length ≤ 1000 := lb
      rw [texts_is la lb, cmpL_head]; rfl
    · show _ = some (cmpL (3 :: [if t = true then 1 else 0]) (3 :: [if t' = true then 1 else 0]))
      rw [cmpL_head, cmpL_one]
      cases t <;> cases t' <;> rfl
    · show (obnd (obnd (cmp_Compare_intF (e, e')) fun y => some (Sum.inr y : Unit ⊕ Int)) fun y => osum y (fun _ => some 0) fun y => some y) = some (cmpL (4 :: [e]) (4 :: [e']))
      rw [cmpi_is, cmpL_head, cmpL_one]; rfl
  · rw [decide_eq_false hk, Bool.not_false, brn_true, cmpi_is, obnd_some]
    unfold key
    show _ = some (if a.Kind = b.Kind then _ else _)
    rw [if_neg hk, cmpV_N]
theorem Same_is (a b : Val) : val_SameF (a, b) = some (decide (a = b)) := by
  obtain ⟨k, ⟨m, t⟩, s, c, e⟩ := a
  obtain ⟨k', ⟨m', t'⟩, s', c', e'⟩ := b
  unfold val_SameF
  simp only [Val.mk.injEq, Dec.mk.injEq, Option.some.injEq]
  by_cases h1 : k = k' <;> by_cases h2 : m = m' <;> by_cases h3 : t = t' <;> by_cases h4 : s = s' <;> by_cases h5 : c = c' <;> by_cases h6 : e = e' <;> simp [h1, h2, h3, h4, h5, h6]
theorem wrap_ord {α : Type} {c : α → α → Int} (h : Ord α c) (a b : α) : IntKind.i64.wrap (0 - c a b) = c b a := by
  rw [h.swap a b]
  rcases h.vals a b with e | e | e <;> (rw [e]; rfl)
theorem ValOrder_true {x : Val × Val × Val} (h1 : I64 x.1.N.M) (h2 : I64 x.2.1.N.M) (h3 : I64 x.2.2.N.M) : law9_ValOrderF x = some true := by
  obtain ⟨a, b, c⟩ := x
  simp only at h1 h2 h3
  unfold law9_ValOrderF law9_knownF law9_ValOrder_b1J
  simp only [obnd_some, Bool.not_true, brn_false]
  by_cases la : 1000 < (a.S.length : Int)
  · rw [decide_eq_true la]; rfl
  by_cases lb : 1000 < (b.S.length : Int)
  · rw [decide_eq_false la, decide_eq_true lb]; rfl
  by_cases lc : 1000 < (c.S.length : Int)
  · rw [decide_eq_false la, decide_eq_false lb, decide_eq_true lc]; rfl
  rw [decide_eq_false la, decide_eq_false lb, decide_eq_false lc, brn_false, brn_false, obnd_some, brn_false]
  unfold law9_ValOrder_b2J
  obtain ⟨ea, ca, oa⟩ := vCheck_is (x := a) (by omega)
  obtain ⟨eb, cb, ob⟩ := vCheck_is (x := b) (by omega)
  obtain ⟨ec, cc, oc⟩ := vCheck_is (x := c) (by omega)
  simp only
  rw [ca, cb, cc, obnd_some, obnd_some, obnd_some]
  by_cases za : ea = 0
  · by_cases zb : eb = 0
    · by_cases zc : ec = 0
      · rw [decide_eq_true za, decide_eq_true zb, decide_eq_true zc]
        simp only [Bool.not_true, brn_false]
        by_cases ka : a.Kind = 0
        · rw [decide_eq_true ka]; rfl
        by_cases kb : b.Kind = 0
        · rw [decide_eq_false ka, decide_eq_true kb]; rfl
        by_cases kc : c.Kind = 0
        · rw [decide_eq_false ka, decide_eq_false kb, decide_eq_true kc]; rfl
        rw [decide_eq_false ka, decide_eq_false kb, decide_eq_false kc, brn_false, brn_false, obnd_some, brn_false]
        have wa : okW a := ⟨oa za, by omega, h1⟩
        have wb : okW b := ⟨ob zb, by omega, h2⟩
        have wc : okW c := ⟨oc zc, by omega, h3⟩
        rw [Cmp_is wa wb ka kb, Cmp_is wb wc kb kc, Cmp_is wa wc ka kc, Cmp_is wb wa kb ka, obnd_some, obnd_some, obnd_some, obnd_some, wrap_ord ordL, Same_is, obnd_some]
        have hs : decide (cmpL (key a) (key b) = 0) = decide (a = b) := by
          rw [decide_eq_decide, ordL.same]
          exact ⟨key_inj wa.1 wb.1 ka kb, fun h => by rw [h]⟩
        rw [hs]
        simp only [decide_true, Bool.not_true, brn_false]
        have l1 := ordL.less (key a) (key b) (key c)
        have s1 := ordL.same (key a) (key b)
        have s2 := ordL.same (key b) (key c)
        have s3 := ordL.same (key a) (key c)
        rcases ordL.vals (key a) (key b) with e1 | e1 | e1 <;> rcases ordL.vals (key b) (key c) with e2 | e2 | e2
        · rw [e1, e2, l1 e1 e2]; rfl
        · have := s2.1 e2
          rw [← this, e1, (ordL.same _ _).2 rfl]; rfl
        · rw [e1, e2]; rfl
        · have := s1.1 e1
          rw [this, e2, (ordL.same _ _).2 rfl]; rfl
        · have h1 := s1.1 e1
          have h2 := s2.1 e2
          have h3 := key_inj wa.1 wb.1 ka kb h1
          rw [h1, h2, (ordL.same _ _).2 rfl, decide_eq_true h3]; rfl
        · rw [e1, e2]; rfl
        · rw [e1]; rfl
        · rw [e1]; rfl
        · rw [e1]; rfl
      · rw [decide_eq_true za, decide_eq_true zb, decide_eq_false zc]; rfl
    · rw [decide_eq_true za, decide_eq_false zb]; rfl
  · rw [decide_eq_false za]; rfl
theorem ValBlank_true {v : Val} (h : I64 v.N.M) : law9_ValBlankF v = some true := by
  unfold law9_ValBlankF law9_knownF
  simp only [obnd_some, Bool.not_true, brn_false]
  by_cases lv : 1000 < (v.S.length : Int)
  · rw [decide_eq_true lv]; rfl
  obtain ⟨e, ce, oe⟩ := vCheck_is (x := v) (by omega)
  rw [decide_eq_false lv, brn_false, ce, obnd_some]
  by_cases ze : e = 0
  · rw [decide_eq_true ze, Bool.not_true, brn_false]
    have i0 : I64 (0 : Int) := by unfold I64; omega
    rcases oe ze with rfl | ⟨d, rfl, hd⟩ | ⟨s, rfl, hs⟩ | ⟨t, rfl⟩ | ⟨e, rfl⟩
    · rfl
    · have h : I64 d.M := h
      have c1 : val_CompareF (vB, vN d) = some (cmpV 0 (V d)) := by
        show (obnd (obnd (dec_CompareF (⟨0, 0⟩, d)) fun y => some (Sum.inr y : Unit ⊕ Int)) fun y => osum y (fun _ => some 0) fun y => some y) = _
        rw [Compare_is (a := ⟨0, 0⟩) i0 h (by simp) (by simp) hd.1 hd.2.1]; rfl
      have c2 : val_CompareF (vN d, vB) = some (cmpV (V d) 0) := by
        show (obnd (obnd (dec_CompareF (d, ⟨0, 0⟩)) fun y => some (Sum.inr y : Unit ⊕ Int)) fun y => osum y (fun _ => some 0) fun y => some y) = _
        rw [Compare_is (b := ⟨0, 0⟩) h i0 hd.1 hd.2.1 (by simp) (by simp)]; rfl
      show obnd (val_CompareF (vB, vN d)) _ = _
      rw [c1, obnd_some]
      show obnd (val_CompareF (vN d, vB)) _ = _
      rw [c2, obnd_some]
      have c3 : dec_CompareF (⟨0, 0⟩, d) = some (cmpV 0 (V d)) := by rw [Compare_is (a := ⟨0, 0⟩) i0 h (by simp) (by simp) hd.1 hd.2.1]; rfl
      have hw : IntKind.i64.wrap (0 - cmpV 0 (V d)) = cmpV (V d) 0 := wrap_ord ordN 0 (V d)
      rw [hw, decide_eq_true (rfl : cmpV (V d) 0 = cmpV (V d) 0), Bool.not_true, brn_false]
      show obnd (dec_CompareF (⟨0, 0⟩, d)) _ = _
      rw [c3, obnd_some]
      simp
    · have ls : s.length ≤ 1000 := by simp only [vS] at lv; omega
      have c1 : val_CompareF (vB, vS s) = some (cmpL [] (rs s)) := by
        show (obnd (obnd (val_textsF ([], s)) fun y => some (Sum.inr y : Unit ⊕ Int)) fun y => osum y (fun _ => some 0) fun y => some y) = _
        rw [texts_is (by simp) ls]; rfl
      have c2 : val_CompareF (vS s, vB) = some (cmpL (rs s) []) := by
        show (obnd (obnd (val_textsF (s, [])) fun y => some (Sum.inr y : Unit ⊕ Int)) fun y => osum y (fun _ => some 0) fun y => some y) = _
        rw [texts_is ls (by simp)]; rfl
      show obnd (val_CompareF (vB, vS s)) _ = _
      rw [c1, obnd_some]
      show obnd (val_CompareF (vS s, vB)) _ = _
      rw [c2, obnd_some, wrap_ord ordL, decide_eq_true (rfl : cmpL (rs s) [] = cmpL (rs s) []), Bool.not_true, brn_false]
      by_cases hs0 : s = []
      · subst hs0; rfl
      · have e1 : cmpL [] (rs s) = -1 := by rw [rs_cons hs0]; rfl
        rw [e1]
        show brn (decide (decide ((-1 : Int) = 0) = decide (s = []))) _ _ = _
        rw [decide_eq_false hs0]; rfl
    · cases t <;> rfl
    · rfl
  · rw [decide_eq_false ze]; rfl
end Go.Proofs.YtmlbknmjgahcfaaDoor
