/- PP -/
import Derived.Test.YtdgpkbnnljblmaaGreatDoorV1
import Derived.Lib.ItoaNum
namespace Go.Proofs.YtdgpkbnnljblmaaGreatDoor
open Go Go.Ev
def strip : Int → Nat → Int × Nat
  | v, 0 => (v, 0)
  | v, p + 1 => if v % 10 = 0 then strip (v / 10) p else (v, p + 1)
def okD (d : Dec) : Prop := 0 ≤ d.S ∧ d.S ≤ 9 ∧ (0 < d.S → ¬ d.M % 10 = 0)
def V (d : Dec) : Int := d.M * 10 ^ (9 - d.S.toNat)
def I64 (n : Int) : Prop := -9223372036854775808 ≤ n ∧ n ≤ 9223372036854775807
instance (n : Int) : Decidable (I64 n) := inferInstanceAs (Decidable (_ ∧ _))
def decV (v : Int) (p : Nat) : Dec × Int := if I64 (strip v p).1 then (⟨(strip v p).1, ((strip v p).2 : Int)⟩, 0) else (⟨0, 0⟩, 8)
theorem u64 (n : Int) : IntKind.u64.wrap n = n % 18446744073709551616 := by simp [IntKind.wrap, IntKind.bits, IntKind.signed]
theorem i64 (n : Int) : IntKind.i64.wrap n = (n + 9223372036854775808) % 18446744073709551616 - 9223372036854775808 := IntKind.wrap_i64 n
theorem u64_in {n : Int} (h0 : 0 ≤ n) (h1 : n < 18446744073709551616) : IntKind.u64.wrap n = n := by rw [u64]; omega
theorem i64_in {n : Int} (h0 : -9223372036854775808 ≤ n) (h1 : n ≤ 9223372036854775807) : IntKind.i64.wrap n = n := by rw [i64]; omega
def W (v : Int) (m : Bool) : Wide := ⟨v / 18446744073709551616, v % 18446744073709551616, m⟩
def sw (v : Int) (m : Bool) : Int := bif m then -v else v
theorem of_is {n : Int} (h : I64 n) : dec_ofF n = some (W n.natAbs (decide (n < 0))) := by
  unfold I64 at h
  unfold dec_ofF W
  by_cases h0 : n < 0
  · simp only [h0, decide_true, brn_true, u64, Option.some.injEq, Wide.mk.injEq, and_true]
    omega
  · simp only [h0, decide_false, brn_false, u64, Option.some.injEq, Wide.mk.injEq, and_true]
    omega
theorem strip_nn : ∀ (p : Nat) {v : Int}, 0 ≤ v → 0 ≤ (strip v p).1
  | 0, _, h => h
  | p + 1, v, h => by
    unfold strip
    split
    · exact strip_nn p (by omega)
    · exact h
theorem strip_neg : ∀ (p : Nat) (v : Int), strip (-v) p = (-(strip v p).1, (strip v p).2)
  | 0, _ => rfl
  | p + 1, v => by
    unfold strip
    by_cases h : v % 10 = 0
    · rw [if_pos (by omega), if_pos h, show -v / 10 = -(v / 10) by omega, strip_neg p]
    · rw [if_neg (by omega), if_neg h]
end Go.Proofs.YtdgpkbnnljblmaaGreatDoor
