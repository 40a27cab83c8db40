/- The rows: what all laws of this seat share. -/
import Derived.Test.YtjbgpcpamdbjlaaDoorRU
import Derived.Test.YtjbgpcpamdbjlaaDoorTie
import Derived.Stop.Joined
namespace Go.Proofs.YtjbgpcpamdbjlaaDoor
open Go Go.Ev

theorem own : ownKnob Tryd.prog.godebug = none := by kernel_rfl
theorem laidOut : laidOutB Tryd.prog = true := by kernel_rfl

/-- the types that the laws' arguments have -/
def rd : RdTab Tryd.prog tb := ⟨[23, 25, 42, 9, 64, 5], 20, fun t ht => by
  simp only [List.mem_cons, List.not_mem_nil, or_false] at ht
  rcases ht with rfl | rfl | rfl | rfl | rfl | rfl
  · exact rd_type (ks := [.int .i64, .int .i64, .bool, .bool]) (by kernel_rfl) rfl (fun _ _ _ _ => rfl)
  · exact rd_type (ks := [.int .i64, .int .i64]) (by kernel_rfl) rfl (fun _ _ => rfl)
  · exact rd_type (ks := [.int .i64, .int .i64, .bool, .bool, .int .i64, .int .i64, .bool, .bool]) (by kernel_rfl) rfl (fun _ _ _ _ _ _ _ _ => rfl)
  · exact rd_type (ks := [.str]) (by kernel_rfl) rfl (fun _ => rfl)
  · exact rd_type (ks := [.int .u16]) (by kernel_rfl) rfl (fun _ => rfl)
  · exact rd_type (ks := [.int .u8]) (by kernel_rfl) rfl (fun _ => rfl)⟩
theorem readable : ∀ t ∈ [23, 25, 42, 9, 64, 5], Tryd.prog.readableRec t = true ∧ t < Tryd.prog.types.size := by
  intro t ht
  simp only [List.mem_cons, List.not_mem_nil, or_false] at ht
  rcases ht with rfl | rfl | rfl | rfl | rfl | rfl <;> exact ⟨by kernel_rfl, of_decide_eq_true (by kernel_rfl)⟩

/-- what the listed variables hold -/
abbrev laidL : List (String × DataW Unit) := [("math/bits.deBruijn32tab", Rows.laid_math_bits_deBruijn32tab), ("math/bits.deBruijn64tab", Rows.laid_math_bits_deBruijn64tab), ("internal/strconv.uint64pow10", Rows.laid_internal_strconv_uint64pow10)]
theorem door_met (os : Os) (args : Array Value) : laidMetH Tryd.prog laidL ((World.doorLaid Tryd.prog 65 os).forCall (fun _ _ => 0) ⟨#[], args, []⟩).memory :=
  laidMetH_of_parts3 (fuel := 8) (laidMet_of_run' 8 (by kernel_rfl) (by kernel_rfl)) (by kernel_rfl) (by kernel_rfl)
theorem inv_of {W : World} (h : laidMetH Tryd.prog laidL W) : tb.inv (fun _ => .con) W := by
  rw [MakeChecks.laidMetH_plain _ _ _ (by kernel_rfl)] at h
  obtain ⟨ps, ⟨g0, t0, cs0, f0, p0, q0, hg0, ht0, hv0, hd0, ⟨g1, t1, cs1, f1, p1, q1, hg1, ht1, hv1, hd1, ⟨g2, t2, cs2, f2, p2, q2, hg2, ht2, hv2, hd2, _, _⟩, _⟩, _⟩, _, _⟩ := h
  obtain rfl := Option.some.inj ((show Tryd.prog.globalNamed "internal/strconv.uint64pow10" = some 0 by kernel_rfl).symm.trans hg2)
  obtain rfl := Option.some.inj ((show (Tryd.prog.globals[0]?).map (·.type) = some 83 by kernel_rfl).symm.trans ht2)
  refine ⟨0, by kernel_rfl, rfl, ?_⟩
  have := Lib.cells_of_tab (k := .u64) (zs := Lib.pow10Tab) (n := 20) Tryd.underlying83 Tryd.underlying76 (by kernel_rfl) (by kernel_rfl) (show DataW.trod _ _ _ _ _ _ _ _ _ = some (Lib.tabData .u64 Lib.pow10Tab, _) from hd2)
  unfold Lib.TabIs
  rw [hv2, ← this]
end Go.Proofs.YtjbgpcpamdbjlaaDoor
