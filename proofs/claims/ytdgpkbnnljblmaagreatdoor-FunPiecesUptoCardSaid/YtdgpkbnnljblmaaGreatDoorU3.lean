/- U3 -/
import Derived.Test.YtdgpkbnnljblmaaGreatDoorR1
import Derived.Test.YtdgpkbnnljblmaaGreatDoorU2
namespace Go.Proofs.YtdgpkbnnljblmaaGreatDoor
open Go Go.Ev
def istrconv_FormatUintF (x : Int × Int) : Option (List UInt8) := bif decide (x.2 = 10) then some (Lib.decDigits x.1.toNat) else none
def istrconv_FormatUintS : FSpec tb := ⟨[(0, .val 152), (1, .val 3)], [(0, .val 9)], istrconv_FormatUintF⟩
theorem digits_le {u : Nat} (h : u < 18446744073709551616) : (Lib.decDigits u).length ≤ 20 := by
  rw [Lib.decDigits_length]
  by_cases h0 : u = 0
  · subst h0
    rw [Lib.nDigits_small (by omega)]; omega
  · have := Lib.numDigits_eq u (by omega) h
    split at this <;> omega
set_option maxRecDepth 100000 in
theorem istrconv_FormatUint_sound : FnSound Tryz.prog tb 256 istrconv_FormatUintS := by
  refine fn_libN (enters_of (c := bodyOf Tryz.f256) Tryz.func256 (by kernel_rfl) (by kernel_rfl)) rfl fun g w (x : Int × Int) vs bs (y : List UInt8) hy hinv hh => ?_
  obtain ⟨n, c⟩ := x
  obtain ⟨v0, vs, b0, bs, rfl, rfl⟩ := holds_cons_inv hh
  obtain ⟨v1, vs, b1, bs, rfl, rfl⟩ := holds_cons_inv hh.2
  obtain ⟨h0, h1⟩ := hh
  obtain ⟨rfl, rfl⟩ : vs = [] ∧ bs = [] := by
    cases vs <;> cases bs <;> first | exact ⟨rfl, rfl⟩ | exact h1.elim
  obtain ⟨e0, r0⟩ := holdsV_int notAgg152 (enc152_eq _) h0.1
  obtain ⟨e1, r1⟩ := holdsV_int notAgg3 (enc3_eq _) h1.1
  subst e0; subst e1
  simp only [Ev.inR, lo, hi] at r0
  have hy : istrconv_FormatUintF (n, c) = some y := hy
  unfold istrconv_FormatUintF at hy
  simp only at hy
  cases hc : decide (c = 10) with
  | false => rw [hc] at hy; cases hy
  | true =>
    rw [hc] at hy
    have hy := Option.some.inj hy
    subst hy
    have hc := of_decide_eq_true hc
    subst hc
    obtain ⟨u, rfl⟩ := Int.eq_ofNat_of_zero_le (show 0 ≤ n by omega)
    have hu : u < 18446744073709551616 := by omega
    have hl := digits_le hu
    rw [Int.toNat_natCast]
    refine ⟨_, [.string ⟨(Lib.decDigits u).toArray⟩], rfl, fun g w => ⟨holdsV_str_mk notAgg9 (enc9_eq _) (by unfold mxLen; omega), rfl⟩, ?_⟩
    have htab := hinv.2.2.2
    obtain ⟨b, hb1, hb2, hb3⟩ := htab
    refine (FormatUint_10 u hu w hb3).mono ?_
    rintro e w' ⟨rfl, hb⟩
    exact ⟨rfl, grows_below hb⟩
end Go.Proofs.YtdgpkbnnljblmaaGreatDoor
