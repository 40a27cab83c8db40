/- strconv.Itoa, as the shelf has it, as a contract. -/
import Derived.Test.YtjbgpcpamdbjlaaDoorRF
import Derived.Shelf.Lay
import Derived.Shelf.LaysM
import Derived.Shelf.Strconv.Itoa3
namespace Go.Proofs
open Go.Shelf
shelf_lay LaysM.n171 Nm 171 at Tryd as Tryd.laysM171
end Go.Proofs
namespace Go.Proofs.YtjbgpcpamdbjlaaDoor
open Go Go.Ev Go.RowKit Go.Sort Go.Lib

theorem grows_of (w : World) (k : Nat) (os : Array Obj) : Grows w (grow (w.drewN k) os) := by
  refine ⟨rfl, rfl, rfl, by simp [grow], fun b hb => ?_⟩
  show (w.heap ++ os)[b]? = w.heap[b]?
  rw [Array.getElem?_append_left hb]

theorem nDigits_le : ∀ (k u : Nat), u < 10 ^ (k + 1) → nDigits u ≤ k + 1
  | 0, u, h => by rw [nDigits_small (by simpa using h)]; omega
  | k + 1, u, h => by
    by_cases hu : u < 10
    · rw [nDigits_small hu]; omega
    · rw [nDigits_big hu]
      have := nDigits_le k (u / 10) (by rw [Nat.pow_succ] at h; omega)
      omega
theorem itoa_len {n : Int} (h : Ev.inR .i64 n) : (Lib.itoa n).length ≤ 20 := by
  obtain ⟨h1, h2⟩ := h
  simp only [lo, hi] at h1 h2
  unfold Lib.itoa
  split
  · have := nDigits_le 18 n.natAbs (by have e : (10 : Nat) ^ (18 + 1) = 10000000000000000000 := by decide
                                       rw [e]; omega)
    simp only [List.length_cons, decDigits_length]; omega
  · have := nDigits_le 18 n.toNat (by have e : (10 : Nat) ^ (18 + 1) = 10000000000000000000 := by decide
                                      rw [e]; omega)
    simp only [decDigits_length]; omega

/-- the digits, by steps that are counted (so that they can be worked out) -/
def digs : Nat → Nat → List UInt8
  | 0, _ => []
  | f + 1, u => bif Nat.blt u 10 then [UInt8.ofNat (48 + u)] else digs f (u / 10) ++ [UInt8.ofNat (48 + u % 10)]
theorem digs_eq : ∀ (f u : Nat), u < f → digs f u = Lib.decDigits u
  | 0, u, h => absurd h (by omega)
  | f + 1, u, h => by
    simp only [digs]
    cases hb : Nat.blt u 10 with
    | true =>
      have : u < 10 := Nat.le_of_ble_eq_true hb
      simp only [cond_true]
      rw [Lib.decDigits_one this]
    | false =>
      have : ¬ u < 10 := fun hu => by rw [show Nat.blt u 10 = true from Nat.ble_eq_true_of_le hu] at hb; cases hb
      simp only [cond_false]
      rw [digs_eq f (u / 10) (by omega)]
      conv => rhs; rw [Lib.decDigits]
      rw [dif_neg this]
def itoaD (n : Int) : List UInt8 := bif decide (n < 0) then 45 :: digs (n.natAbs + 1) n.natAbs else digs (n.toNat + 1) n.toNat
theorem itoaD_eq (n : Int) : itoaD n = Lib.itoa n := by
  unfold itoaD Lib.itoa
  rw [digs_eq _ _ (Nat.lt_succ_self _), digs_eq _ _ (Nat.lt_succ_self _)]
  by_cases h : n < 0 <;> simp [h]
def itoaF (n : Int) : Option (List UInt8) := bif inRB .i64 n then some (itoaD n) else none
def itoaS : FSpec tb := ⟨[(0, .val 3)], [(0, .val 9)], itoaF⟩
theorem itoa_sound : FnSound Tryd.prog tb 36 itoaS := by
  refine fn_lib1 9 (enters_of (c := bodyOf Tryd.f36) Tryd.func36 (by kernel_rfl) (by kernel_rfl)) rfl rfl ?_
  intro g w x vs bs y hy hinv hh
  obtain ⟨v, vs, b, bs, rfl, rfl⟩ := holds_cons_inv hh
  obtain ⟨_, ys, hys⟩ := holds_cons hh
  obtain ⟨rfl, rfl⟩ := holds_nil hys
  have hx : HoldsV Tryd.prog tb g w 3 x v := hh.1
  unfold HoldsV at hx
  have ha : isAggB Tryd.prog 3 = false := by kernel_rfl
  have hb : isAggB Tryd.prog 9 = false := by kernel_rfl
  simp only [ha, Bool.false_eq_true, if_false] at hx
  obtain ⟨c, hc, hd⟩ := hx
  have hc' : [CV.int .i64 x] = [c] := hc
  injection hc' with hc' _
  subst hc'
  have hin : Ev.inR .i64 x := by cases hd; assumption
  have hv : v = .int .i64 x := by cases hd; rfl
  subst hv
  have hy' : itoaF x = some y := hy
  unfold itoaF at hy'
  rw [inRB_iff.2 hin] at hy'
  simp only [cond_true] at hy'
  have hy2 := (itoaD_eq x).symm.trans (Option.some.inj hy')
  refine ⟨.string ⟨(Lib.itoa x).toArray⟩, fun g w => ⟨?_, rfl⟩, ?_⟩
  · unfold HoldsV
    simp only [hb, Bool.false_eq_true, if_false]
    refine ⟨.str (Lib.itoa x), ?_, .str _ (Nat.le_trans (itoa_len hin) (by decide))⟩
    rw [hy2]; rfl
  · obtain ⟨b0, hb1, hb2, hb3⟩ := hinv
    refine Calls.mono (Any.strconv_Itoa Tryd.laysM171 x hin.1 hin.2 w hb3) ?_
    rintro r w' ⟨rfl, k, os, rfl⟩
    exact ⟨rfl, grows_of w k os⟩
end Go.Proofs.YtjbgpcpamdbjlaaDoor
