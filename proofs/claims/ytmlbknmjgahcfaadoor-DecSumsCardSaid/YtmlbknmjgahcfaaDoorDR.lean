/- strings.Repeat, as the shelf has it, as a contract. -/
import Derived.Test.YtmlbknmjgahcfaaDoorDL
import Derived.Shelf.Strings.Repeat
namespace Go.Proofs
open Go.Shelf
def Tryd.lays105_ren : Go.Shelf.Ren := ⟨fun | 105 => 77 | 212 => 93 | 99 => 94 | 165 => 95 | 166 => 96 | 170 => 97 | 169 => 98 | 263 => 108 | 264 => 51 | 206 => 102 | 240 => 109 | 241 => 110 | 276 => 121 | 277 => 122 | n => n, fun | 9 => 9 | 3 => 3 | 4 => 4 | 20 => 20 | 0 => 0 | 46 => 114 | 109 => 122 | 5 => 5 | 72 => 127 | 76 => 131 | 51 => 146 | 146 => 147 | 53 => 64 | 148 => 78 | 70 => 124 | 37 => 125 | 75 => 130 | 127 => 149 | 164 => 155 | 80 => 134 | n => n, fun | n => n⟩
theorem Tryd.lays105 : Go.Proofs.Lays.n105 Tryd.prog Tryd.lays105_ren where
  mixed := by kernel_rfl
  f99 := Tryd.func94.trans (congrArg some (by kernel_rfl))
  f105 := Tryd.func77.trans (congrArg some (by kernel_rfl))
  f165 := Tryd.func95.trans (congrArg some (by kernel_rfl))
  f166 := Tryd.func96.trans (congrArg some (by kernel_rfl))
  f169 := Tryd.func98.trans (congrArg some (by kernel_rfl))
  f170 := Tryd.func97.trans (congrArg some (by kernel_rfl))
  f206 := Tryd.func102.trans (congrArg some (by kernel_rfl))
  f212 := Tryd.func93.trans (congrArg some (by kernel_rfl))
  f240 := Tryd.func109.trans (congrArg some (by kernel_rfl))
  f241 := Tryd.func110.trans (congrArg some (by kernel_rfl))
  f263 := Tryd.func108.trans (congrArg some (by kernel_rfl))
  f264 := Tryd.func51.trans (congrArg some (by kernel_rfl))
  f276 := Tryd.func121.trans (congrArg some (by kernel_rfl))
  f277 := Tryd.func122.trans (congrArg some (by kernel_rfl))
  t0 := Tryd.underlying0
  a0 := Tryd.isAgg0
  z0 := Tryd.sizeOf0
  v0 := Tryd.zeroValue0
  t3 := Tryd.underlying3
  a3 := Tryd.isAgg3
  z3 := Tryd.sizeOf3
  v3 := Tryd.zeroValue3
  t4 := Tryd.underlying4
  a4 := Tryd.isAgg4
  z4 := Tryd.sizeOf4
  v4 := Tryd.zeroValue4
  t5 := Tryd.underlying5
  a5 := Tryd.isAgg5
  z5 := Tryd.sizeOf5
  v5 := Tryd.zeroValue5
  t9 := Tryd.underlying9
  a9 := Tryd.isAgg9
  z9 := Tryd.sizeOf9
  v9 := Tryd.zeroValue9
  t20 := Tryd.underlying20
  a20 := Tryd.isAgg20
  z20 := Tryd.sizeOf20
  v20 := Tryd.zeroValue20
  t37 := Tryd.underlying125
  a37 := Tryd.isAgg125
  z37 := Tryd.sizeOf125
  v37 := Tryd.zeroValue125
  t46 := Tryd.underlying114
  a46 := Tryd.isAgg114
  z46 := Tryd.sizeOf114
  v46 := Tryd.zeroValue114
  t51 := Tryd.underlying146
  a51 := Tryd.isAgg146
  z51 := Tryd.sizeOf146
  v51 := Tryd.zeroValue146
  t53 := Tryd.underlying64
  a53 := Tryd.isAgg64
  z53 := Tryd.sizeOf64
  v53 := Tryd.zeroValue64
  t70 := Tryd.underlying124
  a70 := Tryd.isAgg124
  z70 := Tryd.sizeOf124
  v70 := Tryd.zeroValue124
  t72 := Tryd.underlying127
  a72 := Tryd.isAgg127
  z72 := Tryd.sizeOf127
  v72 := Tryd.zeroValue127
  t75 := Tryd.underlying130
  a75 := Tryd.isAgg130
  z75 := Tryd.sizeOf130
  v75 := Tryd.zeroValue130
  t76 := Tryd.underlying131
  a76 := Tryd.isAgg131
  z76 := Tryd.sizeOf131
  v76 := Tryd.zeroValue131
  t109 := Tryd.underlying122
  a109 := Tryd.isAgg122
  z109 := Tryd.sizeOf122
  v109 := Tryd.zeroValue122
  t127 := Tryd.underlying149
  a127 := Tryd.isAgg149
  z127 := Tryd.sizeOf149
  v127 := Tryd.zeroValue149
  t146 := Tryd.underlying147
  a146 := Tryd.isAgg147
  z146 := Tryd.sizeOf147
  v146 := Tryd.zeroValue147
  t148 := Tryd.underlying78
  a148 := Tryd.isAgg78
  z148 := Tryd.sizeOf78
  v148 := Tryd.zeroValue78
  t164 := Tryd.underlying155
  a164 := Tryd.isAgg155
  z164 := Tryd.sizeOf155
  v164 := Tryd.zeroValue155
theorem Tryd.builder105 : Builder.Extra Tryd.prog Tryd.lays105_ren where
  sizeBuilder := by kernel_rfl
  liesBuilder := by kernel_rfl
  t5 := Tryd.underlying5
  a5 := Tryd.isAgg5
  z5 := Tryd.sizeOf5
  v5 := Tryd.zeroValue5
  infoByte := by kernel_rfl
  cellsByte := by kernel_rfl
  sizeByte := by kernel_rfl
  neB5 := by decide
end Go.Proofs
namespace Go.Proofs.YtmlbknmjgahcfaaDoor
open Go Go.Ev Go.RowKit

theorem grows_below {w w' : World} (h : Below w.heap.size w w') : Grows w w' := ⟨h.os, h.tape, h.output, h.size, h.block⟩
def strings_RepeatF (x : List UInt8 × Int) : Option (List UInt8) :=
  bif decide (0 ≤ x.2) && decide ((x.1.length : Int) * x.2 ≤ 140737488355328) then some (Lib.repeatL x.1 x.2.toNat) else none
def strings_RepeatS : FSpec tb := ⟨[(0, .val 9), (1, .val 3)], [(0, .val 9)], strings_RepeatF⟩
set_option maxRecDepth 100000 in
theorem strings_Repeat_sound : FnSound Tryd.prog tb 77 strings_RepeatS := by
  refine fn_libN (enters_of (c := bodyOf Tryd.f77) Tryd.func77 (by kernel_rfl) (by kernel_rfl)) rfl fun g w (x : List UInt8 × Int) vs bs (y : List UInt8) hy hinv hh => ?_
  obtain ⟨s, c⟩ := x
  obtain ⟨v0, vs, b0, bs, rfl, rfl⟩ := holds_cons_inv hh
  obtain ⟨v1, vs, b1, bs, rfl, rfl⟩ := holds_cons_inv hh.2
  obtain ⟨h0, h1⟩ := hh
  obtain ⟨rfl, rfl⟩ : vs = [] ∧ bs = [] := by
    cases vs <;> cases bs <;> first | exact ⟨rfl, rfl⟩ | exact h1.elim
  obtain ⟨e0, r0⟩ := holdsV_str notAgg9 (enc9_eq _) h0.1
  obtain ⟨e1, r1⟩ := holdsV_int notAgg3 (enc3_eq _) h1.1
  subst e0; subst e1
  simp only [Ev.inR, lo, hi] at r1
  have hy : strings_RepeatF (s, c) = some y := hy
  unfold strings_RepeatF at hy
  simp only at hy
  cases hc : (decide (0 ≤ c) && decide ((s.length : Int) * c ≤ 140737488355328)) with
  | false => rw [hc] at hy; cases hy
  | true =>
    rw [hc] at hy
    have hy := Option.some.inj hy
    subst hy
    simp only [Bool.and_eq_true, decide_eq_true_eq] at hc
    obtain ⟨c, rfl⟩ := Int.eq_ofNat_of_zero_le hc.1
    have hlen : s.length * c ≤ 140737488355328 := by
      have := hc.2
      rw [← Int.natCast_mul] at this
      omega
    refine ⟨_, [.string ⟨(Lib.repeatL s (c : Int).toNat).toArray⟩], rfl, fun g w => ⟨holdsV_str_mk notAgg9 (enc9_eq _) (by rw [Lib.repeatL_length, Int.toNat_natCast, Nat.mul_comm]; unfold mxLen; omega), rfl⟩, ?_⟩
    have := Any.strings_Repeat Tryd.lays105 Tryd.builder105 ⟨s.toArray⟩ c w (by omega) (by simpa [ByteArray.size] using hlen)
    refine this.mono ?_
    rintro e w' ⟨rfl, hb⟩
    exact ⟨by simp, grows_below hb⟩
end Go.Proofs.YtmlbknmjgahcfaaDoor
