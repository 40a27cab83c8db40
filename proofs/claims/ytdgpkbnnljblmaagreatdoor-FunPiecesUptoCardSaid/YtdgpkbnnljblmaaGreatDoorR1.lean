/- R1 -/
import Derived.Test.YtdgpkbnnljblmaaGreatDoorL1
import Derived.Shelf.Strings.Repeat
namespace Go.Proofs
open Go.Shelf
def Tryz.lays105_ren : Go.Shelf.Ren := ⟨fun | 105 => 157 | 212 => 221 | 99 => 222 | 165 => 223 | 166 => 143 | 170 => 224 | 169 => 144 | 263 => 253 | 264 => 98 | 206 => 254 | 240 => 218 | 241 => 255 | 276 => 251 | 277 => 271 | n => n, fun | 9 => 9 | 3 => 3 | 4 => 4 | 20 => 20 | 0 => 0 | 46 => 145 | 109 => 305 | 5 => 5 | 72 => 218 | 76 => 223 | 51 => 340 | 146 => 341 | 53 => 152 | 148 => 163 | 70 => 215 | 37 => 216 | 75 => 222 | 127 => 301 | 164 => 337 | 80 => 225 | n => n, fun | n => n⟩
theorem Tryz.lays105 : Go.Proofs.Lays.n105 Tryz.prog Tryz.lays105_ren where
  mixed := by kernel_rfl
  f99 := Tryz.func222.trans (congrArg some (by kernel_rfl))
  f105 := Tryz.func157.trans (congrArg some (by kernel_rfl))
  f165 := Tryz.func223.trans (congrArg some (by kernel_rfl))
  f166 := Tryz.func143.trans (congrArg some (by kernel_rfl))
  f169 := Tryz.func144.trans (congrArg some (by kernel_rfl))
  f170 := Tryz.func224.trans (congrArg some (by kernel_rfl))
  f206 := Tryz.func254.trans (congrArg some (by kernel_rfl))
  f212 := Tryz.func221.trans (congrArg some (by kernel_rfl))
  f240 := Tryz.func218.trans (congrArg some (by kernel_rfl))
  f241 := Tryz.func255.trans (congrArg some (by kernel_rfl))
  f263 := Tryz.func253.trans (congrArg some (by kernel_rfl))
  f264 := Tryz.func98.trans (congrArg some (by kernel_rfl))
  f276 := Tryz.func251.trans (congrArg some (by kernel_rfl))
  f277 := Tryz.func271.trans (congrArg some (by kernel_rfl))
  t0 := Tryz.underlying0
  a0 := Tryz.isAgg0
  z0 := Tryz.sizeOf0
  v0 := Tryz.zeroValue0
  t3 := Tryz.underlying3
  a3 := Tryz.isAgg3
  z3 := Tryz.sizeOf3
  v3 := Tryz.zeroValue3
  t4 := Tryz.underlying4
  a4 := Tryz.isAgg4
  z4 := Tryz.sizeOf4
  v4 := Tryz.zeroValue4
  t5 := Tryz.underlying5
  a5 := Tryz.isAgg5
  z5 := Tryz.sizeOf5
  v5 := Tryz.zeroValue5
  t9 := Tryz.underlying9
  a9 := Tryz.isAgg9
  z9 := Tryz.sizeOf9
  v9 := Tryz.zeroValue9
  t20 := Tryz.underlying20
  a20 := Tryz.isAgg20
  z20 := Tryz.sizeOf20
  v20 := Tryz.zeroValue20
  t37 := Tryz.underlying216
  a37 := Tryz.isAgg216
  z37 := Tryz.sizeOf216
  v37 := Tryz.zeroValue216
  t46 := Tryz.underlying145
  a46 := Tryz.isAgg145
  z46 := Tryz.sizeOf145
  v46 := Tryz.zeroValue145
  t51 := Tryz.underlying340
  a51 := Tryz.isAgg340
  z51 := Tryz.sizeOf340
  v51 := Tryz.zeroValue340
  t53 := Tryz.underlying152
  a53 := Tryz.isAgg152
  z53 := Tryz.sizeOf152
  v53 := Tryz.zeroValue152
  t70 := Tryz.underlying215
  a70 := Tryz.isAgg215
  z70 := Tryz.sizeOf215
  v70 := Tryz.zeroValue215
  t72 := Tryz.underlying218
  a72 := Tryz.isAgg218
  z72 := Tryz.sizeOf218
  v72 := Tryz.zeroValue218
  t75 := Tryz.underlying222
  a75 := Tryz.isAgg222
  z75 := Tryz.sizeOf222
  v75 := Tryz.zeroValue222
  t76 := Tryz.underlying223
  a76 := Tryz.isAgg223
  z76 := Tryz.sizeOf223
  v76 := Tryz.zeroValue223
  t109 := Tryz.underlying305
  a109 := Tryz.isAgg305
  z109 := Tryz.sizeOf305
  v109 := Tryz.zeroValue305
  t127 := Tryz.underlying301
  a127 := Tryz.isAgg301
  z127 := Tryz.sizeOf301
  v127 := Tryz.zeroValue301
  t146 := Tryz.underlying341
  a146 := Tryz.isAgg341
  z146 := Tryz.sizeOf341
  v146 := Tryz.zeroValue341
  t148 := Tryz.underlying163
  a148 := Tryz.isAgg163
  z148 := Tryz.sizeOf163
  v148 := Tryz.zeroValue163
  t164 := Tryz.underlying337
  a164 := Tryz.isAgg337
  z164 := Tryz.sizeOf337
  v164 := Tryz.zeroValue337
theorem Tryz.builder105 : Builder.Extra Tryz.prog Tryz.lays105_ren where
  sizeBuilder := by kernel_rfl
  liesBuilder := by kernel_rfl
  t5 := Tryz.underlying5
  a5 := Tryz.isAgg5
  z5 := Tryz.sizeOf5
  v5 := Tryz.zeroValue5
  infoByte := by kernel_rfl
  cellsByte := by kernel_rfl
  sizeByte := by kernel_rfl
  neB5 := by decide
end Go.Proofs
namespace Go.Proofs.YtdgpkbnnljblmaaGreatDoor
open Go Go.Ev Go.RowKit
theorem grows_below {w w' : World} (h : Below w.heap.size w w') : Grows w w' := ⟨h.os, h.tape, h.output, h.size, h.block⟩
def strings_RepeatF (x : List UInt8 × Int) : Option (List UInt8) :=
  bif decide (0 ≤ x.2) && decide ((x.1.length : Int) * x.2 ≤ 140737488355328) then some (Lib.repeatL x.1 x.2.toNat) else none
def strings_RepeatS : FSpec tb := ⟨[(0, .val 9), (1, .val 3)], [(0, .val 9)], strings_RepeatF⟩
set_option maxRecDepth 100000 in
theorem strings_Repeat_sound : FnSound Tryz.prog tb 157 strings_RepeatS := by
  refine fn_libN (enters_of (c := bodyOf Tryz.f157) Tryz.func157 (by kernel_rfl) (by kernel_rfl)) rfl fun g w (x : List UInt8 × Int) vs bs (y : List UInt8) hy hinv hh => ?_
  obtain ⟨s, c⟩ := x
  obtain ⟨v0, vs, b0, bs, rfl, rfl⟩ := holds_cons_inv hh
  obtain ⟨v1, vs, b1, bs, rfl, rfl⟩ := holds_cons_inv hh.2
  obtain ⟨h0, h1⟩ := hh
  obtain ⟨rfl, rfl⟩ : vs = [] ∧ bs = [] := by
    cases vs <;> cases bs <;> first | exact ⟨rfl, rfl⟩ | exact h1.elim
  obtain ⟨e0, r0⟩ := holdsV_str notAgg9 (enc9_eq _) h0.1
  obtain ⟨e1, r1⟩ := holdsV_int notAgg3 (enc3_eq _) h1.1
  subst e0; subst e1
  simp only [Ev.inR, lo, hi] at r1
  have hy : strings_RepeatF (s, c) = some y := hy
  unfold strings_RepeatF at hy
  simp only at hy
  cases hc : (decide (0 ≤ c) && decide ((s.length : Int) * c ≤ 140737488355328)) with
  | false => rw [hc] at hy; cases hy
  | true =>
    rw [hc] at hy
    have hy := Option.some.inj hy
    subst hy
    simp only [Bool.and_eq_true, decide_eq_true_eq] at hc
    obtain ⟨c, rfl⟩ := Int.eq_ofNat_of_zero_le hc.1
    have hlen : s.length * c ≤ 140737488355328 := by
      have := hc.2
      rw [← Int.natCast_mul] at this
      omega
    refine ⟨_, [.string ⟨(Lib.repeatL s (c : Int).toNat).toArray⟩], rfl, fun g w => ⟨holdsV_str_mk notAgg9 (enc9_eq _) (by rw [Lib.repeatL_length, Int.toNat_natCast, Nat.mul_comm]; unfold mxLen; omega), rfl⟩, ?_⟩
    have := Any.strings_Repeat Tryz.lays105 Tryz.builder105 ⟨s.toArray⟩ c w (by omega) (by simpa [ByteArray.size] using hlen)
    refine this.mono ?_
    rintro e w' ⟨rfl, hb⟩
    exact ⟨by simp, grows_below hb⟩
end Go.Proofs.YtdgpkbnnljblmaaGreatDoor
