/- Y3 -/
import Derived.Test.YtdgpkbnnljblmaaGreatDoorY2
namespace Go.Proofs.YtdgpkbnnljblmaaGreatDoor
open Go Go.Ev Go.Lib
def okd (d : Dec) : Prop := okD d ∧ I64 d.M
theorem okd0 : okd ⟨0, 0⟩ := ⟨ok0, I0⟩
theorem okdI {n : Int} (h : I64 n) : okd ⟨n, 0⟩ := ⟨okInt n, h⟩
def okR (r : Dec × Int) : Prop := (r.2 = 0 → okd r.1) ∧ (r.2 ≠ 0 → r.1 = ⟨0, 0⟩)
theorem decV_okR (v : Int) {p : Nat} (hp : p ≤ 9) : okR (decV v p) := by
  have h := @decV_ok v p
  unfold decV at h ⊢
  by_cases hc : I64 (strip v p).1
  · rw [if_pos hc] at h ⊢
    exact ⟨fun _ => (by obtain ⟨h1, h2, _⟩ := h hp rfl; exact ⟨h1, h2⟩), fun e => absurd rfl e⟩
  · rw [if_neg hc]; exact ⟨fun e => by simp at e, fun _ => rfl⟩
theorem natS {d : Dec} (h : okD d) : ∃ s : Nat, d = ⟨d.M, (s : Int)⟩ ∧ s ≤ 9 := by
  obtain ⟨M, S⟩ := d
  obtain ⟨s, rfl⟩ := Int.eq_ofNat_of_zero_le h.1
  have := h.2.1
  exact ⟨s, rfl, by simp only at this; omega⟩
theorem add_eq {a b : Dec} (ha : okd a) (hb : okd b) : ∃ r, dec_AddF (a, b) = some r ∧ ref7_AddDecF (a, b) = some r ∧ okR r ∧ r = decV (V a + V b) 9 := by
  refine ⟨_, Add_is ha.2 hb.2 ha.1 hb.1, ?_, decV_okR _ (by omega), rfl⟩
  obtain ⟨s, es, hs⟩ := natS ha.1
  obtain ⟨t, et, ht⟩ := natS hb.1
  have hm := ha.2; have hn := hb.2
  generalize a.M = M at *; generalize b.M = N at *
  subst es; subst et
  exact refAdd_is hm hn hs ht
theorem sub_eq {a b : Dec} (ha : okd a) (hb : okd b) : ∃ r, dec_SubF (a, b) = some r ∧ ref7_SubDecF (a, b) = some r ∧ okR r ∧ r = decV (V a - V b) 9 := by
  refine ⟨_, Sub_is ha.2 hb.2 ha.1 hb.1, ?_, decV_okR _ (by omega), rfl⟩
  obtain ⟨s, es, hs⟩ := natS ha.1
  obtain ⟨t, et, ht⟩ := natS hb.1
  have hm := ha.2; have hn := hb.2
  generalize a.M = M at *; generalize b.M = N at *
  subst es; subst et
  exact refSub_is hm hn hs ht
theorem mul_eq {a b : Dec} (ha : okd a) (hb : okd b) : ∃ r, dec_MulF (a, b) = some r ∧ ref7_MulDecF (a, b) = some r ∧ okR r := by
  obtain ⟨s, es, hs⟩ := natS ha.1
  obtain ⟨t, et, ht⟩ := natS hb.1
  have hm := ha.2; have hn := hb.2
  generalize a.M = M at *; generalize b.M = N at *
  subst es; subst et
  refine ⟨_, prodMul_is hm hn hs ht, refMul_is hm hn hs ht, ?_⟩
  unfold prodV
  split
  · exact decV_okR _ (by omega)
  · exact decV_okR _ (by omega)
theorem div_eq {a b : Dec} (ha : okd a) (hb : okd b) : ∃ r, dec_DivF (a, b) = some r ∧ ref7_DivDecF (a, b) = some r ∧ okR r := by
  by_cases h0 : b.M = 0
  · refine ⟨(⟨0, 0⟩, 9), ?_, ?_, fun e => by simp at e, fun _ => rfl⟩
    · unfold dec_DivF; simp only; rw [decide_eq_true h0, brn_true]
    · unfold ref7_DivDecF; simp only; rw [decide_eq_true h0, brn_true]
  obtain ⟨s, es, hs⟩ := natS ha.1
  obtain ⟨t, et, ht⟩ := natS hb.1
  have hm := ha.2; have hn := hb.2
  generalize a.M = M at *; generalize b.M = N at *
  subst es; subst et
  exact ⟨_, prodDiv_is hm hn hs ht h0, refDiv_is hm hn hs ht h0, decV_okR _ (by omega)⟩
def numV (r : Dec × Int) : Val := if r.2 = 0 then vN r.1 else if r.2 = 9 then vE 7 else vE 36
theorem num_is2 (r : Dec × Int) : fun_numF r = some (numV r) := by
  unfold fun_numF numV
  by_cases h : r.2 = 0
  · simp [h, vN]
  · by_cases h9 : r.2 = 9 <;> simp [h, h9, fault_is]
theorem ofDec_is (r : Dec × Int) : ref13_OfDecF r = some (numV r) := by
  unfold ref13_OfDecF numV
  by_cases h : r.2 = 0
  · simp [h, vN, ref13_OfNumF]
  · by_cases h9 : r.2 = 9 <;> simp [h, h9, refFault_is]
theorem ofNum_is (d : Dec) : ref13_OfNumF d = some (vN d) := rfl
end Go.Proofs.YtdgpkbnnljblmaaGreatDoor
