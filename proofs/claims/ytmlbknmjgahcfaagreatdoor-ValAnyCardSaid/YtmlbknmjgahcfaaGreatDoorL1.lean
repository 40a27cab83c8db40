/- A function of Go's library that the model answers at once, as a contract. -/
import Derived.Test.YtmlbknmjgahcfaaGreatDoorT1
import Derived.Lib.Bytealg
namespace Go.Proofs.YtmlbknmjgahcfaaGreatDoor
open Go Go.Ev

theorem notAgg87 : isAggB Tryz.prog 87 = false := by kernel_rfl
theorem notAgg9 : isAggB Tryz.prog 9 = false := by kernel_rfl
theorem notAgg5 : isAggB Tryz.prog 5 = false := by kernel_rfl
theorem notAgg3 : isAggB Tryz.prog 3 = false := by kernel_rfl
theorem notAgg4 : isAggB Tryz.prog 4 = false := by kernel_rfl

def bytealg_IndexByteStringF (x : List UInt8 × UInt8) : Option Int := some (Lib.indexByte x.1 x.2)
def bytealg_IndexByteStringS : FSpec tb := ⟨[(0, .val 9), (1, .val 5)], [(0, .val 3)], bytealg_IndexByteStringF⟩
theorem indexByte_len : ∀ (s : List UInt8) (c : UInt8), -1 ≤ Lib.indexByte s c ∧ Lib.indexByte s c < (s.length : Int) + 1 := by
  intro s c
  induction s with
  | nil => simp [Lib.indexByte]
  | cons b l ih =>
    unfold Lib.indexByte
    simp only [List.length_cons]
    split
    · omega
    · split <;> omega
set_option maxRecDepth 100000 in
theorem bytealg_IndexByteString_sound : FnKeeps Tryz.prog tb 102 bytealg_IndexByteStringS := by
  refine fn_at_once rfl fun g w (x : List UInt8 × UInt8) vs bs (y : Int) hy hinv hh => ?_
  obtain ⟨s, c⟩ := x
  obtain ⟨v0, vs, b0, bs, rfl, rfl⟩ := holds_cons_inv hh
  obtain ⟨v1, vs, b1, bs, rfl, rfl⟩ := holds_cons_inv hh.2
  obtain ⟨h0, h1⟩ := hh
  obtain ⟨rfl, rfl⟩ : vs = [] ∧ bs = [] := by
    cases vs <;> cases bs <;> first | exact ⟨rfl, rfl⟩ | exact h1.elim
  obtain ⟨e0, r0⟩ := holdsV_str notAgg9 (enc9_eq _) h0.1
  obtain ⟨e1, r1⟩ := holdsV_int notAgg5 (enc5_eq _) h1.1
  subst e0; subst e1
  have hy := Option.some.inj (show some (Lib.indexByte s c) = some y from hy)
  subst hy
  have hl := indexByte_len s c
  unfold mxLen at r0
  refine ⟨_, [.int .i64 (Lib.indexByte s c)], rfl, fun g w => ⟨holdsV_int_mk notAgg3 (enc3_eq _) (by simp only [Ev.inR, lo, hi]; omega), rfl⟩, ?_⟩
  show (callFunc 102 #[.string ⟨s.toArray⟩, .int .u8 (c.toNat : Int)]).run Tryz.prog w = _
  rw [run_callFunc_extern Tryz.func102 (by kernel_rfl) (by kernel_rfl) (by kernel_rfl) (e := Extern.BytealgIndexByte.indexByte) (by kernel_rfl), Lib.run_indexByteString]
  simp only [Result.andThen]
  congr 3
  simp

end Go.Proofs.YtmlbknmjgahcfaaGreatDoor
