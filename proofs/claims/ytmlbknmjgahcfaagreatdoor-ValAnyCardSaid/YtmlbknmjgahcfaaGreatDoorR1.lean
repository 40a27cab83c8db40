/- strings.Repeat, as the shelf has it, as a contract. -/
import Derived.Test.YtmlbknmjgahcfaaGreatDoorL1
import Derived.Shelf.Strings.Repeat
namespace Go.Proofs
open Go.Shelf
def Tryz.lays105_ren : Go.Shelf.Ren := ⟨fun | 105 => 53 | 212 => 67 | 99 => 68 | 165 => 69 | 166 => 70 | 170 => 71 | 169 => 72 | 263 => 87 | 264 => 88 | 206 => 81 | 240 => 89 | 241 => 90 | 276 => 100 | 277 => 101 | n => n, fun | 9 => 9 | 3 => 3 | 4 => 4 | 20 => 20 | 0 => 0 | 46 => 114 | 109 => 115 | 5 => 5 | 72 => 119 | 76 => 123 | 51 => 139 | 146 => 140 | 53 => 87 | 148 => 142 | 70 => 117 | 37 => 99 | 75 => 122 | 127 => 144 | 164 => 150 | 80 => 126 | n => n, fun | n => n⟩
theorem Tryz.lays105 : Go.Proofs.Lays.n105 Tryz.prog Tryz.lays105_ren where
  mixed := by kernel_rfl
  f99 := Tryz.func68.trans (congrArg some (by kernel_rfl))
  f105 := Tryz.func53.trans (congrArg some (by kernel_rfl))
  f165 := Tryz.func69.trans (congrArg some (by kernel_rfl))
  f166 := Tryz.func70.trans (congrArg some (by kernel_rfl))
  f169 := Tryz.func72.trans (congrArg some (by kernel_rfl))
  f170 := Tryz.func71.trans (congrArg some (by kernel_rfl))
  f206 := Tryz.func81.trans (congrArg some (by kernel_rfl))
  f212 := Tryz.func67.trans (congrArg some (by kernel_rfl))
  f240 := Tryz.func89.trans (congrArg some (by kernel_rfl))
  f241 := Tryz.func90.trans (congrArg some (by kernel_rfl))
  f263 := Tryz.func87.trans (congrArg some (by kernel_rfl))
  f264 := Tryz.func88.trans (congrArg some (by kernel_rfl))
  f276 := Tryz.func100.trans (congrArg some (by kernel_rfl))
  f277 := Tryz.func101.trans (congrArg some (by kernel_rfl))
  t0 := Tryz.underlying0
  a0 := Tryz.isAgg0
  z0 := Tryz.sizeOf0
  v0 := Tryz.zeroValue0
  t3 := Tryz.underlying3
  a3 := Tryz.isAgg3
  z3 := Tryz.sizeOf3
  v3 := Tryz.zeroValue3
  t4 := Tryz.underlying4
  a4 := Tryz.isAgg4
  z4 := Tryz.sizeOf4
  v4 := Tryz.zeroValue4
  t5 := Tryz.underlying5
  a5 := Tryz.isAgg5
  z5 := Tryz.sizeOf5
  v5 := Tryz.zeroValue5
  t9 := Tryz.underlying9
  a9 := Tryz.isAgg9
  z9 := Tryz.sizeOf9
  v9 := Tryz.zeroValue9
  t20 := Tryz.underlying20
  a20 := Tryz.isAgg20
  z20 := Tryz.sizeOf20
  v20 := Tryz.zeroValue20
  t37 := Tryz.underlying99
  a37 := Tryz.isAgg99
  z37 := Tryz.sizeOf99
  v37 := Tryz.zeroValue99
  t46 := Tryz.underlying114
  a46 := Tryz.isAgg114
  z46 := Tryz.sizeOf114
  v46 := Tryz.zeroValue114
  t51 := Tryz.underlying139
  a51 := Tryz.isAgg139
  z51 := Tryz.sizeOf139
  v51 := Tryz.zeroValue139
  t53 := Tryz.underlying87
  a53 := Tryz.isAgg87
  z53 := Tryz.sizeOf87
  v53 := Tryz.zeroValue87
  t70 := Tryz.underlying117
  a70 := Tryz.isAgg117
  z70 := Tryz.sizeOf117
  v70 := Tryz.zeroValue117
  t72 := Tryz.underlying119
  a72 := Tryz.isAgg119
  z72 := Tryz.sizeOf119
  v72 := Tryz.zeroValue119
  t75 := Tryz.underlying122
  a75 := Tryz.isAgg122
  z75 := Tryz.sizeOf122
  v75 := Tryz.zeroValue122
  t76 := Tryz.underlying123
  a76 := Tryz.isAgg123
  z76 := Tryz.sizeOf123
  v76 := Tryz.zeroValue123
  t109 := Tryz.underlying115
  a109 := Tryz.isAgg115
  z109 := Tryz.sizeOf115
  v109 := Tryz.zeroValue115
  t127 := Tryz.underlying144
  a127 := Tryz.isAgg144
  z127 := Tryz.sizeOf144
  v127 := Tryz.zeroValue144
  t146 := Tryz.underlying140
  a146 := Tryz.isAgg140
  z146 := Tryz.sizeOf140
  v146 := Tryz.zeroValue140
  t148 := Tryz.underlying142
  a148 := Tryz.isAgg142
  z148 := Tryz.sizeOf142
  v148 := Tryz.zeroValue142
  t164 := Tryz.underlying150
  a164 := Tryz.isAgg150
  z164 := Tryz.sizeOf150
  v164 := Tryz.zeroValue150
theorem Tryz.builder105 : Builder.Extra Tryz.prog Tryz.lays105_ren where
  sizeBuilder := by kernel_rfl
  liesBuilder := by kernel_rfl
  t5 := Tryz.underlying5
  a5 := Tryz.isAgg5
  z5 := Tryz.sizeOf5
  v5 := Tryz.zeroValue5
  infoByte := by kernel_rfl
  cellsByte := by kernel_rfl
  sizeByte := by kernel_rfl
  neB5 := by decide
end Go.Proofs
namespace Go.Proofs.YtmlbknmjgahcfaaGreatDoor
open Go Go.Ev Go.RowKit

theorem grows_below {w w' : World} (h : Below w.heap.size w w') : Grows w w' := ⟨h.os, h.tape, h.output, h.size, h.block⟩
def strings_RepeatF (x : List UInt8 × Int) : Option (List UInt8) :=
  bif decide (0 ≤ x.2) && decide ((x.1.length : Int) * x.2 ≤ 140737488355328) then some (Lib.repeatL x.1 x.2.toNat) else none
def strings_RepeatS : FSpec tb := ⟨[(0, .val 9), (1, .val 3)], [(0, .val 9)], strings_RepeatF⟩
set_option maxRecDepth 100000 in
theorem strings_Repeat_sound : FnSound Tryz.prog tb 53 strings_RepeatS := by
  refine fn_libN (enters_of (c := bodyOf Tryz.f53) Tryz.func53 (by kernel_rfl) (by kernel_rfl)) rfl fun g w (x : List UInt8 × Int) vs bs (y : List UInt8) hy hinv hh => ?_
  obtain ⟨s, c⟩ := x
  obtain ⟨v0, vs, b0, bs, rfl, rfl⟩ := holds_cons_inv hh
  obtain ⟨v1, vs, b1, bs, rfl, rfl⟩ := holds_cons_inv hh.2
  obtain ⟨h0, h1⟩ := hh
  obtain ⟨rfl, rfl⟩ : vs = [] ∧ bs = [] := by
    cases vs <;> cases bs <;> first | exact ⟨rfl, rfl⟩ | exact h1.elim
  obtain ⟨e0, r0⟩ := holdsV_str notAgg9 (enc9_eq _) h0.1
  obtain ⟨e1, r1⟩ := holdsV_int notAgg3 (enc3_eq _) h1.1
  subst e0; subst e1
  simp only [Ev.inR, lo, hi] at r1
  have hy : strings_RepeatF (s, c) = some y := hy
  unfold strings_RepeatF at hy
  simp only at hy
  cases hc : (decide (0 ≤ c) && decide ((s.length : Int) * c ≤ 140737488355328)) with
  | false => rw [hc] at hy; cases hy
  | true =>
    rw [hc] at hy
    have hy := Option.some.inj hy
    subst hy
    simp only [Bool.and_eq_true, decide_eq_true_eq] at hc
    obtain ⟨c, rfl⟩ := Int.eq_ofNat_of_zero_le hc.1
    have hlen : s.length * c ≤ 140737488355328 := by
      have := hc.2
      rw [← Int.natCast_mul] at this
      omega
    refine ⟨_, [.string ⟨(Lib.repeatL s (c : Int).toNat).toArray⟩], rfl, fun g w => ⟨holdsV_str_mk notAgg9 (enc9_eq _) (by rw [Lib.repeatL_length, Int.toNat_natCast, Nat.mul_comm]; unfold mxLen; omega), rfl⟩, ?_⟩
    have := Any.strings_Repeat Tryz.lays105 Tryz.builder105 ⟨s.toArray⟩ c w (by omega) (by simpa [ByteArray.size] using hlen)
    refine this.mono ?_
    rintro e w' ⟨rfl, hb⟩
    exact ⟨by simp, grows_below hb⟩
end Go.Proofs.YtmlbknmjgahcfaaGreatDoor
