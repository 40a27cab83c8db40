/- X7 -/
import Derived.Test.YtdgpkbnnljblmaaGreatDoorX6
namespace Go.Proofs.YtdgpkbnnljblmaaGreatDoor
open Go Go.Ev Go.Lib
theorem iter_rel {X Y : Type} {F : (X → Option Y) → X → Option Y} (m : X → Nat) (Pre : X → Prop) (R : X → Y → Prop)
    (h : ∀ back x, Pre x → (∀ x', Pre x' → m x' < m x → ∃ y, back x' = some y ∧ R x' y) → ∃ y, F back x = some y ∧ R x y) (x : X) (hp : Pre x) (hm : m x < 9223372036854775808) : ∃ y, iter F big x = some y ∧ R x y := by
  have key : ∀ n x, Pre x → m x < n → ∃ y, iter F n x = some y ∧ R x y := by
    intro n
    induction n with
    | zero => intro x _ h0; omega
    | succ n ih =>
      intro x hp hn
      rw [iter_succ]
      exact h _ x hp fun x' hp' hm => ih x' hp' (by omega)
  exact key _ x hp (by rw [big_pos]; omega)
theorem cmpV_N (a b : Int) : cmpV a b = cmpN a b := rfl
theorem cmpr_is (x y : Int) : cmp_Compare_runeF (x, y) = some (cmpN x y) := by
  unfold cmp_Compare_runeF cmp_isNaN_runeF cmpN
  simp only [decide_true, cond_true, obnd_some, brn_false]
  by_cases h : x < y
  · simp [h]
  · by_cases h2 : y < x <;> simp [h, h2]
theorem rs_at {s : List UInt8} {p : Nat} (h : p < s.length) : rs (s.drop p) = ((rune s p).1 : Int) :: rs (s.drop (p + (rune s p).2)) ∧ 1 ≤ (rune s p).2 := by
  have hne : s.drop p ≠ [] := fun h0 => by have := congrArg List.length h0; simp at this; omega
  rw [rs_cons hne, rune_drop, List.drop_drop]
  exact ⟨rfl, Lib.decodeL_width _⟩
theorem texts_l1 {s : List UInt8} {bs : List Int} (hs : s.length ≤ 1000000) (hb : bs.length ≤ 1000000) :
    ∃ y, val_texts_l1J (bs, 0, s, 0) = some y ∧ (match y with | .inl k => walk (rs s) bs 0 = .inl k.1 | .inr r => walk (rs s) bs 0 = .inr r.1) := by
  have h := iter_rel (F := val_texts_l1F) (fun x => x.2.2.1.length - x.2.2.2) (fun x => x.1 = bs ∧ 0 ≤ x.2.1 ∧ x.2.1 ≤ bs.length)
    (fun x y => match y with | .inl k => walk (rs (x.2.2.1.drop x.2.2.2)) (bs.drop x.2.1.toNat) x.2.1 = .inl k.1 | .inr r => walk (rs (x.2.2.1.drop x.2.2.2)) (bs.drop x.2.1.toNat) x.2.1 = .inr r.1) ?_ (bs, 0, s, 0) ⟨rfl, by simp, by simp⟩ (by simp only; omega)
  · unfold val_texts_l1J
    simpa using h
  · intro back x hx hback
    obtain ⟨b, i, s, p⟩ := x
    obtain ⟨h1, h2, h3⟩ := hx
    simp only at h1 h2 h3 hback
    subst h1
    obtain ⟨i, rfl⟩ := Int.eq_ofNat_of_zero_le h2
    unfold val_texts_l1F
    simp only [Int.toNat_natCast]
    by_cases hp : p < s.length
    · obtain ⟨e1, e2⟩ := rs_at hp
      rw [decide_eq_true hp, brn_true, e1]
      by_cases hi : (i : Int) = b.length
      · rw [decide_eq_true hi, brn_true]
        refine ⟨_, rfl, ?_⟩
        simp only
        rw [show b.drop i = [] from List.drop_eq_nil_of_le (by omega)]; rfl
      · have hlt : i < b.length := by omega
        have hix : idx b (i : Int) = some b[i] := by simp [idx, hlt]
        rw [decide_eq_false hi, brn_false, hix, obnd_some, List.drop_eq_getElem_cons hlt]
        by_cases hr : ((rune s p).1 : Int) = b[i]
        · rw [decide_eq_true hr, Bool.not_true, brn_false, i64_in (by omega) (by omega)]
          obtain ⟨y, hy, hR⟩ := hback (b, (i : Int) + 1, s, p + (rune s p).2) ⟨rfl, by simp only; omega, by simp only; omega⟩ (by simp only; omega)
          refine ⟨y, hy, ?_⟩
          simp only at hR ⊢
          rw [show ((i : Int) + 1).toNat = i + 1 by omega] at hR
          unfold walk
          rw [if_pos hr]
          exact hR
        · rw [decide_eq_false hr, Bool.not_false, brn_true, obnd_some, cmpr_is, obnd_some]
          refine ⟨_, rfl, ?_⟩
          simp only
          unfold walk
          rw [if_neg hr]
    · rw [decide_eq_false hp, brn_false]
      refine ⟨_, rfl, ?_⟩
      simp only
      rw [List.drop_eq_nil_of_le (by omega), rs_nil]
      cases b.drop i <;> rfl
theorem texts_is {a b : List UInt8} (ha : a.length ≤ 3000) (hb : b.length ≤ 3000) : val_textsF (a, b) = some (cmpL (rs a) (rs b)) := by
  unfold val_textsF
  have hr : (bif b.length.ble 70368744177664 then some (runesL b b.length 0) else none) = some (rs b) := runes_is (by omega)
  simp only
  rw [hr, obnd_some]
  have hl := rs_length b
  obtain ⟨y, hy, hR⟩ := texts_l1 (s := a) (bs := rs b) (by omega) (by omega)
  rw [hy, obnd_some]
  have hw := walk_is (rs a) (rs b) 0
  cases y with
  | inl k =>
    simp only at hR
    rw [hR] at hw
    simp only at hw
    simp only [osum, cmpi_is, obnd_some]
    rw [← hw, Int.zero_add, cmpV_N]
  | inr r =>
    simp only at hR
    rw [hR] at hw
    simp only at hw
    simp only [osum]
    rw [hw]
def vB : Val := ⟨0, ⟨0, 0⟩, [], false, 0⟩
def vN (d : Dec) : Val := ⟨1, d, [], false, 0⟩
def vS (s : List UInt8) : Val := ⟨2, ⟨0, 0⟩, s, false, 0⟩
def vT (b : Bool) : Val := ⟨3, ⟨0, 0⟩, [], b, 0⟩
def vE (e : Int) : Val := ⟨4, ⟨0, 0⟩, [], false, e⟩
def okV (v : Val) : Prop := v = vB ∨ (∃ d, v = vN d ∧ okD d) ∨ (∃ s, v = vS s ∧ Lib.validD s = true) ∨ (∃ b, v = vT b) ∨ ∃ e, v = vE e
def key (v : Val) : List Int := v.Kind :: (if v.Kind = 1 then [V v.N] else if v.Kind = 2 then rs v.S else if v.Kind = 3 then [if v.B then 1 else 0] else [v.E])
def okW (v : Val) : Prop := okV v ∧ v.S.length ≤ 3000 ∧ I64 v.N.M
theorem cmpL_one (a b : Int) : cmpL [a] [b] = cmpN a b := by
  unfold cmpL
  split
  · rename_i h; rw [(ordN.same a b).2 h]; rfl
  · rfl
theorem cmpL_head {r : Int} (xs ys : List Int) : cmpL (r :: xs) (r :: ys) = cmpL xs ys := by
  show (if r = r then _ else _) = _
  rw [if_pos rfl]
theorem Cmp_is {a b : Val} (ha : okW a) (hb : okW b) (a0 : a.Kind ≠ 0) (b0 : b.Kind ≠ 0) : val_CompareF (a, b) = some (cmpL (key a) (key b)) := by
  unfold val_CompareF val_Compare_b1J
  simp only
  rw [decide_eq_false a0, brn_false, obnd_some, brn_false, decide_eq_false b0, brn_false]
  by_cases hk : a.Kind = b.Kind
  · rw [decide_eq_true hk, Bool.not_true, brn_false]
    obtain ⟨ha, la, ia⟩ := ha
    obtain ⟨hb, lb, ib⟩ := hb
    rcases ha with rfl | ⟨d, rfl, hd⟩ | ⟨s, rfl, hs⟩ | ⟨t, rfl⟩ | ⟨e, rfl⟩
    · exact absurd rfl a0
    all_goals rcases hb with rfl | ⟨d', rfl, hd'⟩ | ⟨s', rfl, hs'⟩ | ⟨t', rfl⟩ | ⟨e', rfl⟩
    all_goals first
      | exact absurd rfl b0
      | (exfalso; simp [vN, vS, vT, vE] at hk; done)
      | skip
    · show (obnd (obnd (dec_CompareF (d, d')) fun y => some (Sum.inr y : Unit ⊕ Int)) fun y => osum y (fun _ => some 0) fun y => some y) = some (cmpL (1 :: [V d]) (1 :: [V d']))
      have ia : I64 d.M := ia
      have ib : I64 d'.M := ib
      rw [Compare_is ia ib hd.1 hd.2.1 hd'.1 hd'.2.1, cmpL_head, cmpL_one]; rfl
    · show (obnd (obnd (val_textsF (s, s')) fun y => some (Sum.inr y : Unit ⊕ Int)) fun y => osum y (fun _ => some 0) fun y => some y) = some (cmpL (2 :: rs s) (2 :: rs s'))
      have la : s.length ≤ 3000 := la
      have lb : s'.length ≤ 3000 := lb
      rw [texts_is la lb, cmpL_head]; rfl
    · show _ = some (cmpL (3 :: [if t = true then 1 else 0]) (3 :: [if t' = true then 1 else 0]))
      rw [cmpL_head, cmpL_one]
      cases t <;> cases t' <;> rfl
    · show (obnd (obnd (cmp_Compare_intF (e, e')) fun y => some (Sum.inr y : Unit ⊕ Int)) fun y => osum y (fun _ => some 0) fun y => some y) = some (cmpL (4 :: [e]) (4 :: [e']))
      rw [cmpi_is, cmpL_head, cmpL_one]; rfl
  · rw [decide_eq_false hk, Bool.not_false, brn_true, cmpi_is, obnd_some]
    unfold key
    show _ = some (if a.Kind = b.Kind then _ else _)
    rw [if_neg hk, cmpV_N]
end Go.Proofs.YtdgpkbnnljblmaaGreatDoor
