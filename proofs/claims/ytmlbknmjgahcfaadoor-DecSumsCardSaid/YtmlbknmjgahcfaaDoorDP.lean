/- Four laws on decimals: what each computes is true. -/
import Derived.Test.YtmlbknmjgahcfaaDoorDO
import Derived.Test.YtmlbknmjgahcfaaDoorDG
namespace Go.Proofs.YtmlbknmjgahcfaaDoor
open Go Go.Ev

theorem u8mod (u : UInt8) : IntKind.i64.wrap ((↑u.toNat : Int).tmod 10) = ((u.toNat % 10 : Nat) : Int) := by
  rw [Int.tmod_eq_emod_of_nonneg (by omega), i64_in (by omega) (by omega)]; omega
theorem norm_get {m : Int} {s : Nat} (hm : m.natAbs ≤ 9223372036854775807) (hs : s ≤ 9) : ∃ d, dec_NormF ⟨m, (s : Int)⟩ = some d ∧ okD d ∧ I64 d.M ∧ V d = m * 10 ^ (9 - s) ∧ d.M.natAbs ≤ m.natAbs := by
  have h := strip_abs s m
  refine ⟨_, Norm_is (by unfold I64; omega) hs, ok_strip m s hs, ?_, V_strip m s hs, ?_⟩
  · unfold I64; simp only; omega
  · simp only; omega
theorem decV_get {v : Int} (h : v.natAbs ≤ 9223372036854775807) : ∃ e, decV v 9 = (e, 0) ∧ okD e ∧ I64 e.M ∧ V e = v ∧ e.M.natAbs ≤ v.natAbs := by
  have ha := strip_abs 9 v
  refine ⟨⟨(strip v 9).1, ((strip v 9).2 : Int)⟩, ?_, ok_strip v 9 (by omega), ?_, ?_, ?_⟩
  · unfold decV
    rw [if_pos (by unfold I64; omega)]
  · unfold I64; simp only; omega
  · rw [V_strip v 9 (by omega)]; omega
  · simp only; omega
theorem cmpV_cases (a b : Int) : (cmpV a b = -1 ∧ a < b) ∨ (cmpV a b = 0 ∧ a = b) ∨ (cmpV a b = 1 ∧ b < a) := by
  unfold cmpV
  split
  · exact .inl ⟨rfl, by omega⟩
  · split
    · exact .inr (.inr ⟨rfl, by omega⟩)
    · exact .inr (.inl ⟨rfl, by omega⟩)
theorem cmpV_swap (a b : Int) : cmpV b a = - cmpV a b := by
  rcases cmpV_cases a b with h | h | h <;> rcases cmpV_cases b a with k | k | k <;> omega
theorem cmpV_sub (a b : Int) : cmpV (a - b) 0 = cmpV a b := by
  rcases cmpV_cases a b with h | h | h <;> rcases cmpV_cases (a - b) 0 with k | k | k <;> omega
theorem cmpV_le {a b : Int} : cmpV a b ≤ 0 ↔ a ≤ b := by
  rcases cmpV_cases a b with h | h | h <;> omega
theorem wrap_cmp (a b : Int) : IntKind.i64.wrap (0 - cmpV a b) = -cmpV a b := by
  rcases cmpV_cases a b with h | h | h <;> (rw [h.1]; rfl)
theorem eqD_iff {a b : Dec} (ha : okD a) (hb : okD b) : (decide (a.M = b.M) && decide (a.S = b.S)) = decide (V a = V b) := by
  by_cases h : V a = V b
  · have := V_inj ha hb h; subst this; simp
  · have : ¬ (a.M = b.M ∧ a.S = b.S) := fun hh => h (by obtain ⟨a1, a2⟩ := a; obtain ⟨b1, b2⟩ := b; simp only at hh; rw [hh.1, hh.2])
    rw [decide_eq_false h]
    by_cases h1 : a.M = b.M
    · simp [h1, show ¬ a.S = b.S from fun h2 => this ⟨h1, h2⟩]
    · simp [h1]
theorem okInt (n : Int) : okD ⟨n, 0⟩ := ⟨by simp, by simp, fun h => by simp at h⟩
theorem V_int (n : Int) : V ⟨n, 0⟩ = n * 1000000000 := rfl
/-- as a round's places -/
theorem pow9 {s : Nat} (h : s ≤ 9) : (1 : Int) ≤ 10 ^ (9 - s) ∧ (10 : Int) ^ (9 - s) ≤ 1000000000 := by
  have h1 := (pow10_le (show 9 - s ≤ 19 by omega)).1
  have := Nat.pow_le_pow_right (show 0 < 10 by omega) (show 9 - s ≤ 9 by omega)
  have h := Int.ofNat_le.2 this
  refine ⟨h1, by simpa using h⟩
theorem natAbs_mul_le {m p : Int} {a b : Nat} (h1 : m.natAbs ≤ a) (h2 : p.natAbs ≤ b) : (m * p).natAbs ≤ a * b := by
  rw [Int.natAbs_mul]; exact Nat.mul_le_mul h1 h2

theorem DecLaws_true {x : Int × Int × Int × UInt8 × UInt8} (h1 : x.1.natAbs ≤ 2147483648) (h2 : x.2.1.natAbs ≤ 2147483648) (h3 : x.2.2.1.natAbs ≤ 2147483648) : law4_DecLawsF x = some true := by
  obtain ⟨m, n, z, s, t⟩ := x
  simp only at h1 h2 h3
  unfold law4_DecLawsF law4_knownF
  simp only [obnd_some, Bool.not_true, brn_false]
  rw [u8mod, u8mod, i64_in (n := m) (by omega) (by omega), i64_in (n := n) (by omega) (by omega), i64_in (n := z) (by omega) (by omega)]
  obtain ⟨a, ea, oa, ia, va, la⟩ := norm_get (m := m) (s := s.toNat % 10) (by omega) (by omega)
  obtain ⟨b, eb, ob, ib, vb, lb⟩ := norm_get (m := n) (s := t.toNat % 10) (by omega) (by omega)
  have p1 := pow9 (show s.toNat % 10 ≤ 9 by omega)
  have p2 := pow9 (show t.toNat % 10 ≤ 9 by omega)
  have ba : (V a).natAbs ≤ 2147483648 * 1000000000 := by rw [va]; exact natAbs_mul_le h1 (by omega)
  have bb : (V b).natAbs ≤ 2147483648 * 1000000000 := by rw [vb]; exact natAbs_mul_le h2 (by omega)
  rw [ea, eb, obnd_some, obnd_some]
  show obnd (dec_IntF z) _ = _
  have iz : I64 z := by unfold I64; omega
  rw [show dec_IntF z = some ⟨z, 0⟩ from rfl, obnd_some, Add_is ia ib oa ob, Add_is ib ia ob oa, Int.add_comm (V b) (V a), obnd_some, obnd_some]
  obtain ⟨e, ee, oe, ie, ve, le⟩ := decV_get (v := V a + V b) (by omega)
  rw [ee]
  have hb1 : law4_DecLaws_b1J (e, 0, e, 0) = some false := by
    unfold law4_DecLaws_b1J
    simp only [i64, Int.add_zero, decide_true, Bool.and_true]
    rfl
  simp only
  rw [hb1, obnd_some, brn_false, Sub_is ie ib oe ob, Sub_is ia ib oa ob, ve, Int.add_sub_cancel, decV_V oa ia, obnd_some, obnd_some]
  obtain ⟨d, ed, od, id, vd, ld⟩ := decV_get (v := V a - V b) (by omega)
  rw [ed]
  have hb2 : law4_DecLaws_b2J (a, b, a, 0, d, 0) = some false := by
    unfold law4_DecLaws_b2J
    simp only
    rw [Compare_is ia ib oa.1 oa.2.1 ob.1 ob.2.1, Compare_is ib ia ob.1 ob.2.1 oa.1 oa.2.1, show dec_IntF 0 = some ⟨0, 0⟩ from rfl, obnd_some, obnd_some, obnd_some,
      Compare_is id (by unfold I64; simp) od.1 od.2.1 (by simp) (by simp), obnd_some, obnd_some, vd, V_int, Int.zero_mul, cmpV_sub, cmpV_swap (V a) (V b)]
    simp only [decide_true, Bool.and_true, Bool.not_true, cond_true, brn_false, Int.add_zero]
    rw [show IntKind.i64.wrap (0 - -cmpV (V a) (V b)) = cmpV (V a) (V b) by rcases cmpV_cases (V a) (V b) with h | h | h <;> (rw [h.1]; rfl)]
    simp only [decide_true, cond_true]
    rfl
  simp only
  rw [hb2, obnd_some, brn_false, Mul_is (a := a) (b := ⟨z, 0⟩) ia iz (by have := oa.1; simp only; omega) (by have := oa.2.1; simp only; omega),
    Mul_is (a := ⟨z, 0⟩) (b := a) iz ia (by have := oa.1; simp only; omega) (by have := oa.2.1; simp only; omega), obnd_some, obnd_some]
  simp only [Int.add_zero, Int.zero_add, Int.mul_comm z a.M, decide_true, Bool.not_true, brn_false, Bool.and_true, cond_true]
  obtain ⟨r, er⟩ : ∃ r, decV (a.M * z) a.S.toNat = r := ⟨_, rfl⟩
  rw [er]
  by_cases hr : r.2 = 0
  · rw [decide_eq_true hr, Bool.not_true, brn_false]
    by_cases hz : z = 0
    · rw [decide_eq_true hz, brn_true]
    · rw [decide_eq_false hz, brn_false]
      obtain ⟨v, r2⟩ := r
      simp only at hr
      subst hr
      obtain ⟨ov, iv, vv⟩ := decV_ok (by have := oa.2.1; omega) er
      rw [Div_is (a := v) (b := ⟨z, 0⟩) (q := V a) iv iz ov hz rfl (by rw [vv]; unfold V; simp only; rw [Int.mul_right_comm]), decV_V oa ia, obnd_some]
      simp
  · rw [decide_eq_false hr, Bool.not_false, brn_true]

theorem DecFloors_true {x : Dec} (hx : I64 x.M) : law4_DecFloorsF x = some true := by
  unfold law4_DecFloorsF law4_knownF law4_OfF
  simp only [obnd_some, Bool.not_true, brn_false]
  rcases CheckDec_is x with ⟨hc, ox⟩ | ⟨c, hc, hn⟩
  · rw [hc, obnd_some]
    simp only [decide_true, Bool.not_true, brn_false]
    rw [Floor_is hx ox.1 ox.2.1, obnd_some]
    simp only [decide_true, Bool.not_true, brn_false]
    have ox' := ox
    obtain ⟨h0, h9, -⟩ := ox'
    have p1 := pow9 (show x.S.toNat ≤ 9 by omega)
    have p2 := pow10_le (show x.S.toNat ≤ 19 by omega)
    have ep : (10 : Int) ^ x.S.toNat * 10 ^ (9 - x.S.toNat) = 1000000000 := by
      rw [← Int.pow_add, show x.S.toNat + (9 - x.S.toNat) = 9 by omega]; rfl
    have hf : I64 (x.M / 10 ^ x.S.toNat) := by
      unfold I64 at *
      have a1 := Int.mul_ediv_add_emod x.M (10 ^ x.S.toNat)
      have a2 := Int.emod_nonneg x.M (show (10 : Int) ^ x.S.toNat ≠ 0 by omega)
      have a3 := Int.emod_lt_of_pos x.M (show (0 : Int) < 10 ^ x.S.toNat by omega)
      constructor
      · refine (Int.le_ediv_iff_mul_le (by omega)).2 ?_
        have := Int.mul_le_mul_of_nonneg_left p2.1 (show (0 : Int) ≤ 9223372036854775808 by omega)
        omega
      · have : x.M / 10 ^ x.S.toNat < 9223372036854775808 := (Int.ediv_lt_iff_lt_mul (by omega)).2 (by
          have := Int.mul_le_mul_of_nonneg_left p2.1 (show (0 : Int) ≤ 9223372036854775808 by omega)
          omega)
        omega
    have hV : V x - V ⟨x.M / 10 ^ x.S.toNat, 0⟩ = x.M % 10 ^ x.S.toNat * 10 ^ (9 - x.S.toNat) := by
      rw [V_int]
      unfold V
      have a1 := Int.mul_ediv_add_emod x.M (10 ^ x.S.toNat)
      have a2 : x.M * 10 ^ (9 - x.S.toNat) = (10 ^ x.S.toNat * (x.M / 10 ^ x.S.toNat) + x.M % 10 ^ x.S.toNat) * 10 ^ (9 - x.S.toNat) := by rw [a1]
      rw [a2, Int.add_mul, Int.mul_comm (10 ^ x.S.toNat) (x.M / 10 ^ x.S.toNat), Int.mul_assoc, ep]
      omega
    have r0 : 0 ≤ x.M % 10 ^ x.S.toNat * 10 ^ (9 - x.S.toNat) := mul_nn (Int.emod_nonneg x.M (by omega)) (by omega)
    have r1 : x.M % 10 ^ x.S.toNat * 10 ^ (9 - x.S.toNat) < 1000000000 := by
      have := Int.mul_lt_mul_of_pos_right (Int.emod_lt_of_pos x.M (show (0 : Int) < 10 ^ x.S.toNat by omega)) (show (0 : Int) < 10 ^ (9 - x.S.toNat) by omega)
      rwa [ep] at this
    rw [Sub_is hx hf ox (okInt _), obnd_some, hV]
    obtain ⟨r, er, or, ir, vr, -⟩ := decV_get (v := x.M % 10 ^ x.S.toNat * 10 ^ (9 - x.S.toNat)) (by omega)
    rw [er]
    simp only [decide_true, Bool.not_true, brn_false]
    rw [show dec_IntF 0 = some ⟨0, 0⟩ from rfl, show dec_IntF 1 = some ⟨1, 0⟩ from rfl, obnd_some, obnd_some, Compare_is ir (by unfold I64; simp) or.1 or.2.1 (by simp) (by simp), obnd_some,
      Compare_is ir (by unfold I64; simp) or.1 or.2.1 (by simp) (by simp), obnd_some, V_int, V_int, vr]
    have c0 : ¬ cmpV (x.M % 10 ^ x.S.toNat * 10 ^ (9 - x.S.toNat)) (0 * 1000000000) < 0 := by
      rcases cmpV_cases (x.M % 10 ^ x.S.toNat * 10 ^ (9 - x.S.toNat)) (0 * 1000000000) with h | h | h <;> omega
    have c1 : ¬ 0 ≤ cmpV (x.M % 10 ^ x.S.toNat * 10 ^ (9 - x.S.toNat)) (1 * 1000000000) := by
      rcases cmpV_cases (x.M % 10 ^ x.S.toNat * 10 ^ (9 - x.S.toNat)) (1 * 1000000000) with h | h | h <;> omega
    rw [decide_eq_false c0, brn_false, decide_eq_false c1, brn_false, Add_is hf ir (okInt _) or, obnd_some, vr,
      show V ⟨x.M / 10 ^ x.S.toNat, 0⟩ + x.M % 10 ^ x.S.toNat * 10 ^ (9 - x.S.toNat) = V x by omega, decV_V ox hx]
    simp
  · rw [hc, obnd_some, decide_eq_false hn, Bool.not_false, brn_true]

theorem good_is (a b : Dec) : law4_goodF (a, b) = some true ∧ okD a ∧ okD b ∨ law4_goodF (a, b) = some false := by
  unfold law4_goodF law4_OfF
  simp only [obnd_some]
  rcases CheckDec_is a with ⟨ha, oa⟩ | ⟨c, ha, hn⟩
  · rcases CheckDec_is b with ⟨hb, ob⟩ | ⟨c, hb, hn⟩
    · refine .inl ⟨?_, oa, ob⟩
      rw [ha, hb]; rfl
    · refine .inr ?_
      rw [ha, hb, obnd_some, obnd_some, decide_eq_false hn]; rfl
  · refine .inr ?_
    rw [ha, obnd_some, decide_eq_false hn, brn_false]
theorem DecOrder_true {x : Dec × Dec × Dec} (h1 : I64 x.1.M) (h2 : I64 x.2.1.M) (h3 : I64 x.2.2.M) : law4_DecOrderF x = some true := by
  obtain ⟨a, b, c⟩ := x
  simp only at h1 h2 h3
  unfold law4_DecOrderF law4_knownF
  simp only [obnd_some, Bool.not_true, brn_false]
  rcases good_is a b with ⟨g1, oa, ob⟩ | g1
  · rw [g1, obnd_some, Bool.not_true, brn_false]
    rcases good_is b c with ⟨g2, _, oc⟩ | g2
    · rw [g2, obnd_some, Bool.not_true, brn_false, Compare_is h1 h2 oa.1 oa.2.1 ob.1 ob.2.1, obnd_some, Compare_is h2 h3 ob.1 ob.2.1 oc.1 oc.2.1, obnd_some, Compare_is h1 h3 oa.1 oa.2.1 oc.1 oc.2.1, obnd_some]
      have hb1 : law4_DecOrder_b1J (a, b, cmpV (V a) (V b), cmpV (V b) (V c), cmpV (V a) (V c)) = some false := by
        unfold law4_DecOrder_b1J
        simp only [cond_false]
        rw [Compare_is h2 h1 ob.1 ob.2.1 oa.1 oa.2.1, obnd_some, eqD_iff oa ob, cmpV_swap (V a) (V b), wrap_cmp]
        rcases cmpV_cases (V a) (V b) with h | h | h <;> rcases cmpV_cases (V b) (V c) with k | k | k <;> rcases cmpV_cases (V a) (V c) with l | l | l <;>
          first
          | (exfalso; omega)
          | (rw [h.1, k.1, l.1]; simp only [show ¬ V a = V b by omega]; rfl)
          | (rw [h.1, k.1, l.1, h.2]; simp only [decide_true]; rfl)
      rw [hb1, obnd_some, brn_false, Add_is h1 h3 oa oc, Add_is h2 h3 ob oc, obnd_some, obnd_some]
      obtain ⟨r, er⟩ : ∃ r, decV (V a + V c) 9 = r := ⟨_, rfl⟩
      obtain ⟨q, eq⟩ : ∃ q, decV (V b + V c) 9 = q := ⟨_, rfl⟩
      rw [er, eq]
      by_cases hr : r.2 = 0
      · by_cases hq : q.2 = 0
        · obtain ⟨r, r2⟩ := r
          obtain ⟨q, q2⟩ := q
          simp only at hr hq
          subst hr hq
          obtain ⟨or, ir, vr⟩ := decV_ok (by omega) er
          obtain ⟨oq, iq, vq⟩ := decV_ok (by omega) eq
          simp only [decide_true, Bool.not_true, brn_false]
          rw [Compare_is ir iq or.1 or.2.1 oq.1 oq.2.1, obnd_some, vr, vq]
          have : cmpV ((V a + V c) * 10 ^ (9 - 9)) ((V b + V c) * 10 ^ (9 - 9)) = cmpV (V a) (V b) := by
            have e0 : (10 : Int) ^ (9 - 9) = 1 := rfl
            rw [e0, Int.mul_one, Int.mul_one]
            rcases cmpV_cases (V a) (V b) with h | h | h <;> rcases cmpV_cases (V a + V c) (V b + V c) with k | k | k <;> omega
          rw [this]; simp
        · rw [decide_eq_true hr, decide_eq_false hq]; rfl
      · rw [decide_eq_false hr]; rfl
    · rw [g2]; rfl
  · rw [g1]; rfl

theorem rdiv_near {v n : Int} (hn : 0 < n) : -n ≤ 2 * (rdiv v n * n - v) ∧ 2 * (rdiv v n * n - v) ≤ n := by
  have a1 := Int.mul_ediv_add_emod v n
  have a2 := Int.emod_nonneg v (show n ≠ 0 by omega)
  have a3 := Int.emod_lt_of_pos v hn
  have a4 := Int.mul_comm n (v / n)
  unfold rdiv
  split
  · rw [Int.add_mul]; omega
  · omega
theorem rnd_near {v n : Int} (hn : 0 < n) : -n ≤ 2 * (rnd v n * n - v) ∧ 2 * (rnd v n * n - v) ≤ n := by
  unfold rnd
  split
  · have := rdiv_near (v := -v) hn
    rw [Int.neg_mul]; omega
  · exact rdiv_near hn
theorem rnd_abs {v n : Int} (hn : 0 < n) : (rnd v n).natAbs ≤ v.natAbs + 1 := by
  unfold rnd
  split
  · have := rdiv_le (v := -v) (n := n) (by omega) hn; omega
  · have := rdiv_le (v := v) (n := n) (by omega) hn; omega
theorem decV_places (v : Int) (p : Nat) : (decV v p).1.S ≤ p := by
  have := strip_le p v
  unfold decV
  split
  · simp only; omega
  · simp only; omega
theorem DecNear_true {x : Int × UInt8 × UInt8} (h : I64 x.1) : law4_DecNearF x = some true := by
  obtain ⟨m, s, p⟩ := x
  simp only at h
  unfold law4_DecNearF law4_knownF
  simp only [obnd_some, Bool.not_true, brn_false]
  rw [u8mod, u8mod]
  have hm : (m.tdiv 1000).natAbs ≤ 9223372036854775 := by
    rw [Int.natAbs_tdiv]
    have : m.natAbs ≤ 9223372036854775808 := by unfold I64 at h; omega
    show m.natAbs / 1000 ≤ _
    omega
  rw [i64_in (n := m.tdiv 1000) (by omega) (by omega)]
  obtain ⟨d, ed, od, id, vd, ld⟩ := norm_get (m := m.tdiv 1000) (s := s.toNat % 10) (by omega) (by omega)
  rw [ed, obnd_some]
  have hp : p.toNat % 10 ≤ 9 := by omega
  generalize p.toNat % 10 = p at *
  have od' := od
  obtain ⟨d0, d9, -⟩ := od'
  rw [i64_in (n := (p : Int) + 1) (by omega) (by omega)]
  obtain ⟨r, er, or, ir, hr, near⟩ : ∃ r, dec_RoundF (d, (p : Int)) = some (r, 0) ∧ okD r ∧ I64 r.M ∧ r.S ≤ p ∧ (p = 9 → V r = V d) ∧ (p < 9 → 2 * (V r - V d).natAbs ≤ 10 ^ (9 - p)) := by
    rw [Round_is id d0 d9 hp]
    by_cases hs : d.S ≤ p
    · rw [if_pos hs]
      exact ⟨d, rfl, od, id, hs, fun _ => rfl, fun _ => by rw [Int.sub_self]; exact Nat.zero_le _⟩
    · rw [if_neg hs]
      have pn := pow10_le (show d.S.toNat - p ≤ 19 by omega)
      have hab := rnd_abs (v := d.M) (n := 10 ^ (d.S.toNat - p)) (by omega)
      have hne := rnd_near (v := d.M) (n := 10 ^ (d.S.toNat - p)) (by omega)
      have h0 := decV_small (v := rnd d.M (10 ^ (d.S.toNat - p))) (p := p) (by unfold I64; omega) (by omega)
      have hpl := decV_places (rnd d.M (10 ^ (d.S.toNat - p))) p
      obtain ⟨q, eq⟩ : ∃ q, decV (rnd d.M (10 ^ (d.S.toNat - p))) p = q := ⟨_, rfl⟩
      rw [eq] at h0 hpl ⊢
      obtain ⟨r, r2⟩ := q
      simp only at h0 hpl
      subst h0
      obtain ⟨or, ir, vr⟩ := decV_ok (by omega) eq
      refine ⟨r, rfl, or, ir, hpl, fun h => by omega, fun _ => ?_⟩
      have ep : (10 : Int) ^ (9 - p) = 10 ^ (d.S.toNat - p) * 10 ^ (9 - d.S.toNat) := by
        rw [← Int.pow_add, show d.S.toNat - p + (9 - d.S.toNat) = 9 - p by omega]
      have p9 := pow9 (show d.S.toNat ≤ 9 by omega)
      have e1 : V r - V d = (rnd d.M (10 ^ (d.S.toNat - p)) * 10 ^ (d.S.toNat - p) - d.M) * 10 ^ (9 - d.S.toNat) := by
        rw [vr, ep, Int.sub_mul, ← Int.mul_assoc]; rfl
      have e2 : ((10 ^ (9 - p) : Nat) : Int) = 10 ^ (d.S.toNat - p) * 10 ^ (9 - d.S.toNat) := by rw [← ep]; simp
      have u1 := Int.mul_le_mul_of_nonneg_right hne.1 (show (0 : Int) ≤ 10 ^ (9 - d.S.toNat) by omega)
      have u2 := Int.mul_le_mul_of_nonneg_right hne.2 (show (0 : Int) ≤ 10 ^ (9 - d.S.toNat) by omega)
      rw [Int.mul_assoc, ← e1, ← e2] at u2
      rw [Int.mul_assoc, ← e1, Int.neg_mul, ← e2] at u1
      omega
  have er2 : dec_RoundF (r, (p : Int)) = some (r, 0) := by rw [Round_is ir or.1 or.2.1 hp, if_pos hr]
  have p9 : 10 ^ (9 - p) ≤ 1000000000 := by
    have := pow9 hp
    have e2 : ((10 ^ (9 - p) : Nat) : Int) = (10 : Int) ^ (9 - p) := by simp
    omega
  have hsm : (V r - V d).natAbs ≤ 1000000000 := by
    by_cases hp9 : p = 9
    · rw [near.1 hp9, Int.sub_self]; omega
    · have := near.2 (by omega); omega
  obtain ⟨t, et, ot, it, vt, lt⟩ := decV_get (v := V r - V d) (by omega)
  rw [er, obnd_some]
  simp only [decide_true, Bool.not_true, brn_false]
  rw [er2, obnd_some]
  simp only [decide_true, Bool.not_true, Bool.and_true, cond_true, brn_false]
  rw [decide_eq_false (by omega), brn_false, Sub_is ir id or od, obnd_some, et]
  simp only [decide_true, Bool.not_true, brn_false]
  have hneg := V_neg t
  simp only [decide_eq_decide] at hneg
  by_cases hp9 : p = 9
  · have hV0 : V t = 0 := by rw [vt, near.1 hp9, Int.sub_self]
    have ht : t = ⟨0, 0⟩ := V_inj ot (okInt 0) (by rw [hV0]; rfl)
    subst ht hp9
    rfl
  · have hc : ((10 ^ (9 - p) : Nat) : Int) = 10 * 10 ^ (9 - (p + 1)) := by
      rw [show 9 - p = (9 - (p + 1)) + 1 by omega, Nat.pow_succ, Int.natCast_mul, Int.mul_comm, Int.natCast_pow]; rfl
    have hn := near.2 (by omega)
    have h5 : V ⟨5, (p : Int) + 1⟩ = 5 * 10 ^ (9 - (p + 1)) := by
      unfold V
      simp only
      rw [show ((p : Int) + 1).toNat = p + 1 by omega]
    have ht1 : 2 * (V t).natAbs ≤ 10 ^ (9 - p) := by rw [vt]; exact hn
    by_cases hn0 : t.M < 0
    · rw [decide_eq_true hn0, brn_true, decide_eq_false (by omega), brn_false, i64_in (n := 0 - t.M) (by omega) (by omega),
        Compare_is (a := ⟨0 - t.M, t.S⟩) (by unfold I64; simp only; omega) (by unfold I64; simp) ot.1 ot.2.1 (by simp only; omega) (by simp only; omega), obnd_some, h5]
      have hv : V ⟨0 - t.M, t.S⟩ = - V t := by unfold V; simp only; rw [Int.sub_mul, Int.zero_mul, Int.zero_sub]
      rw [hv]
      simp only [Option.some.injEq, decide_eq_true_eq]
      rw [cmpV_le]; omega
    · rw [decide_eq_false hn0, brn_false, decide_eq_false (by omega), brn_false,
        Compare_is it (by unfold I64; simp) ot.1 ot.2.1 (by simp only; omega) (by simp only; omega), obnd_some, h5]
      simp only [Option.some.injEq, decide_eq_true_eq]
      rw [cmpV_le]; omega
end Go.Proofs.YtmlbknmjgahcfaaDoor
