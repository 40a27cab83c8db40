/- strconv.Itoa, as the shelf has it, as a contract. -/
import Derived.Test.YtjbgpcpamdbjlaaDoorRF
import Derived.Shelf.LaysM
import Derived.Shelf.Strconv.Itoa3
namespace Go.Proofs
open Go.Shelf
def Tryd.laysM171_ren : Go.Shelf.Ren := ⟨fun | 171 => 36 | 243 => 39 | 246 => 40 | 283 => 41 | 284 => 42 | 285 => 43 | 286 => 44 | 129 => 46 | 317 => 45 | 318 => 47 | 319 => 48 | 320 => 49 | 337 => 50 | 338 => 51 | n => n, fun | 3 => 3 | 9 => 9 | 2 => 2 | 4 => 4 | 171 => 75 | 0 => 0 | 53 => 76 | 37 => 73 | 5 => 5 | 173 => 79 | 212 => 83 | 51 => 84 | 20 => 20 | 213 => 85 | 46 => 87 | 232 => 90 | 233 => 91 | n => n, fun | 17 => 0 | 18 => 1 | 19 => 2 | n => n⟩
theorem Tryd.laysM171 : Go.Proofs.LaysM.n171 Tryd.prog Tryd.laysM171_ren where
  mixed := by kernel_rfl
  f129 := Tryd.func46.trans (congrArg some (by kernel_rfl))
  f171 := Tryd.func36.trans (congrArg some (by kernel_rfl))
  f243 := Tryd.func39.trans (congrArg some (by kernel_rfl))
  f246 := Tryd.func40.trans (congrArg some (by kernel_rfl))
  f283 := Tryd.func41.trans (congrArg some (by kernel_rfl))
  f284 := Tryd.func42.trans (congrArg some (by kernel_rfl))
  f285 := Tryd.func43.trans (congrArg some (by kernel_rfl))
  f286 := Tryd.func44.trans (congrArg some (by kernel_rfl))
  f317 := Tryd.func45.trans (congrArg some (by kernel_rfl))
  f318 := Tryd.func47.trans (congrArg some (by kernel_rfl))
  f319 := Tryd.func48.trans (congrArg some (by kernel_rfl))
  f320 := Tryd.func49.trans (congrArg some (by kernel_rfl))
  f337 := Tryd.func50.trans (congrArg some (by kernel_rfl))
  f338 := Tryd.func51.trans (congrArg some (by kernel_rfl))
  t0 := Tryd.underlying0
  a0 := Tryd.isAgg0
  z0 := Tryd.sizeOf0
  v0 := Tryd.zeroValue0
  t2 := Tryd.underlying2
  a2 := Tryd.isAgg2
  z2 := Tryd.sizeOf2
  v2 := Tryd.zeroValue2
  t3 := Tryd.underlying3
  a3 := Tryd.isAgg3
  z3 := Tryd.sizeOf3
  v3 := Tryd.zeroValue3
  t4 := Tryd.underlying4
  a4 := Tryd.isAgg4
  z4 := Tryd.sizeOf4
  v4 := Tryd.zeroValue4
  t5 := Tryd.underlying5
  a5 := Tryd.isAgg5
  z5 := Tryd.sizeOf5
  v5 := Tryd.zeroValue5
  t9 := Tryd.underlying9
  a9 := Tryd.isAgg9
  z9 := Tryd.sizeOf9
  v9 := Tryd.zeroValue9
  t20 := Tryd.underlying20
  a20 := Tryd.isAgg20
  z20 := Tryd.sizeOf20
  v20 := Tryd.zeroValue20
  t37 := Tryd.underlying73
  a37 := Tryd.isAgg73
  z37 := Tryd.sizeOf73
  v37 := Tryd.zeroValue73
  t46 := Tryd.underlying87
  a46 := Tryd.isAgg87
  z46 := Tryd.sizeOf87
  v46 := Tryd.zeroValue87
  t51 := Tryd.underlying84
  a51 := Tryd.isAgg84
  z51 := Tryd.sizeOf84
  v51 := Tryd.zeroValue84
  t53 := Tryd.underlying76
  a53 := Tryd.isAgg76
  z53 := Tryd.sizeOf76
  v53 := Tryd.zeroValue76
  t171 := Tryd.underlying75
  a171 := Tryd.isAgg75
  z171 := Tryd.sizeOf75
  v171 := Tryd.zeroValue75
  t173 := Tryd.underlying79
  a173 := Tryd.isAgg79
  z173 := Tryd.sizeOf79
  v173 := Tryd.zeroValue79
  t212 := Tryd.underlying83
  a212 := Tryd.isAgg83
  z212 := Tryd.sizeOf83
  v212 := Tryd.zeroValue83
  t213 := Tryd.underlying85
  a213 := Tryd.isAgg85
  z213 := Tryd.sizeOf85
  t232 := Tryd.underlying90
  a232 := Tryd.isAgg90
  z232 := Tryd.sizeOf90
  v232 := Tryd.zeroValue90
  t233 := Tryd.underlying91
  a233 := Tryd.isAgg91
  z233 := Tryd.sizeOf91
  v233 := Tryd.zeroValue91
  g17 := by kernel_rfl
  g18 := by kernel_rfl
  g19 := by kernel_rfl
  i0 := by kernel_rfl
  i2 := by kernel_rfl
  i3 := by kernel_rfl
  i4 := by kernel_rfl
  i5 := by kernel_rfl
  i9 := by kernel_rfl
  i20 := by kernel_rfl
  i37 := by kernel_rfl
  i46 := by kernel_rfl
  i51 := by kernel_rfl
  i53 := by kernel_rfl
  i171 := by kernel_rfl
  i173 := by kernel_rfl
  i212 := by kernel_rfl
  i232 := by kernel_rfl
  i233 := by kernel_rfl
  m17 := by kernel_rfl
  m18 := by kernel_rfl
  m19 := by kernel_rfl
end Go.Proofs
namespace Go.Proofs.YtjbgpcpamdbjlaaDoor
open Go Go.Ev Go.RowKit Go.Sort Go.Lib

theorem grows_of (w : World) (k : Nat) (os : Array Obj) : Grows w (grow (w.drewN k) os) := by
  refine ⟨rfl, rfl, rfl, by simp [grow], fun b hb => ?_⟩
  show (w.heap ++ os)[b]? = w.heap[b]?
  rw [Array.getElem?_append_left hb]

theorem nDigits_le : ∀ (k u : Nat), u < 10 ^ (k + 1) → nDigits u ≤ k + 1
  | 0, u, h => by rw [nDigits_small (by simpa using h)]; omega
  | k + 1, u, h => by
    by_cases hu : u < 10
    · rw [nDigits_small hu]; omega
    · rw [nDigits_big hu]
      have := nDigits_le k (u / 10) (by rw [Nat.pow_succ] at h; omega)
      omega
theorem itoa_len {n : Int} (h : Ev.inR .i64 n) : (Lib.itoa n).length ≤ 20 := by
  obtain ⟨h1, h2⟩ := h
  simp only [lo, hi] at h1 h2
  unfold Lib.itoa
  split
  · have := nDigits_le 18 n.natAbs (by have e : (10 : Nat) ^ (18 + 1) = 10000000000000000000 := by decide
                                       rw [e]; omega)
    simp only [List.length_cons, decDigits_length]; omega
  · have := nDigits_le 18 n.toNat (by have e : (10 : Nat) ^ (18 + 1) = 10000000000000000000 := by decide
                                      rw [e]; omega)
    simp only [decDigits_length]; omega

/-- the digits, by steps that are counted (so that they can be worked out) -/
def digs : Nat → Nat → List UInt8
  | 0, _ => []
  | f + 1, u => bif Nat.blt u 10 then [UInt8.ofNat (48 + u)] else digs f (u / 10) ++ [UInt8.ofNat (48 + u % 10)]
theorem digs_eq : ∀ (f u : Nat), u < f → digs f u = Lib.decDigits u
  | 0, u, h => absurd h (by omega)
  | f + 1, u, h => by
    simp only [digs]
    cases hb : Nat.blt u 10 with
    | true =>
      have : u < 10 := Nat.le_of_ble_eq_true hb
      simp only [cond_true]
      rw [Lib.decDigits_one this]
    | false =>
      have : ¬ u < 10 := fun hu => by rw [show Nat.blt u 10 = true from Nat.ble_eq_true_of_le hu] at hb; cases hb
      simp only [cond_false]
      rw [digs_eq f (u / 10) (by omega)]
      conv => rhs; rw [Lib.decDigits]
      rw [dif_neg this]
def itoaD (n : Int) : List UInt8 := bif decide (n < 0) then 45 :: digs (n.natAbs + 1) n.natAbs else digs (n.toNat + 1) n.toNat
theorem itoaD_eq (n : Int) : itoaD n = Lib.itoa n := by
  unfold itoaD Lib.itoa
  rw [digs_eq _ _ (Nat.lt_succ_self _), digs_eq _ _ (Nat.lt_succ_self _)]
  by_cases h : n < 0 <;> simp [h]
def itoaF (n : Int) : Option (List UInt8) := bif inRB .i64 n then some (itoaD n) else none
def itoaS : FSpec tb := ⟨[(0, .val 3)], [(0, .val 9)], itoaF⟩
theorem itoa_sound : FnSound Tryd.prog tb 36 itoaS := by
  refine fn_lib1 9 (enters_of (c := bodyOf Tryd.f36) Tryd.func36 (by kernel_rfl) (by kernel_rfl)) rfl rfl ?_
  intro g w x vs bs y hy hinv hh
  obtain ⟨v, vs, b, bs, rfl, rfl⟩ := holds_cons_inv hh
  obtain ⟨_, ys, hys⟩ := holds_cons hh
  obtain ⟨rfl, rfl⟩ := holds_nil hys
  have hx : HoldsV Tryd.prog tb g w 3 x v := hh.1
  unfold HoldsV at hx
  have ha : isAggB Tryd.prog 3 = false := by kernel_rfl
  have hb : isAggB Tryd.prog 9 = false := by kernel_rfl
  simp only [ha, Bool.false_eq_true, if_false] at hx
  obtain ⟨c, hc, hd⟩ := hx
  have hc' : [CV.int .i64 x] = [c] := hc
  injection hc' with hc' _
  subst hc'
  have hin : Ev.inR .i64 x := by cases hd; assumption
  have hv : v = .int .i64 x := by cases hd; rfl
  subst hv
  have hy' : itoaF x = some y := hy
  unfold itoaF at hy'
  rw [inRB_iff.2 hin] at hy'
  simp only [cond_true] at hy'
  have hy2 := (itoaD_eq x).symm.trans (Option.some.inj hy')
  refine ⟨.string ⟨(Lib.itoa x).toArray⟩, fun g w => ⟨?_, rfl⟩, ?_⟩
  · unfold HoldsV
    simp only [hb, Bool.false_eq_true, if_false]
    refine ⟨.str (Lib.itoa x), ?_, .str _ (Nat.le_trans (itoa_len hin) (by decide))⟩
    rw [hy2]; rfl
  · obtain ⟨b0, hb1, hb2, hb3⟩ := hinv
    refine Calls.mono (Any.strconv_Itoa Tryd.laysM171 x hin.1 hin.2 w hb3) ?_
    rintro r w' ⟨rfl, k, os, rfl⟩
    exact ⟨rfl, grows_of w k os⟩
end Go.Proofs.YtjbgpcpamdbjlaaDoor
