/- RW -/
import Derived.Test.YtdgpkbnnljblmaaGreatDoorU1
import Derived.Test.YtdgpkbnnljblmaaGreatDoorEvC
import Derived.Test.YtdgpkbnnljblmaaGreatDoorTie
import Derived.Stop.Joined
import Derived.Lib.LaidU8T
import Derived.Lay
namespace Go.Proofs.YtdgpkbnnljblmaaGreatDoor
open Go Go.Ev
theorem own : ownKnob Tryz.prog.godebug = none := by kernel_rfl
theorem laidOut : laidOutB Tryz.prog = true := by kernel_rfl
theorem and2 {a b : Bool} (h : a = true) (k : b = true) : (a && b) = true := by rw [h, k]; rfl
theorem main_is : Tryz.pinned.checked.prog.mainIs = some (true, "77b88d5647d88579fe249790164f29ba538a169e38f55a49c9c0a729a43cbb40".toList) := by kernel_rfl
theorem looks_is : false = Tryz.pinned.checked.prog.looks [] := by kernel_rfl
theorem maps_rowed : mapsRowed Tryz.prog = true := by kernel_rfl
theorem plain_keys : (Rows.funNamesRow.plainKeys == Tryz.prog.plainKeys) = true := by kernel_rfl
theorem stops_heard : Tryz.prog.stopsHeard = true := by kernel_rfl
theorem may_enter : Tryz.prog.mayEnter = true := by kernel_rfl
theorem lifts_is : (Rows.funNamesRow.lifted == Tryz.prog.liftsFinal) = true := by kernel_rfl
theorem make_is : (Tryz.prog.make == some Rows.funNamesRow.make) = true := by kernel_rfl
def rd : RdTab Tryz.prog tb := ⟨[3, 9, 5, 21, 32, 28, 45, 46, 124, 22], 20, fun t ht => by
  simp only [List.mem_cons, List.not_mem_nil, or_false] at ht
  rcases ht with rfl | rfl | rfl | rfl | rfl | rfl | rfl | rfl | rfl | rfl
  · exact rd_type (ks := [.int .i64]) (by kernel_rfl) rfl (fun _ => rfl)
  · exact rd_type (ks := [.str]) (by kernel_rfl) rfl (fun _ => rfl)
  · exact rd_type (ks := [.int .u8]) (by kernel_rfl) rfl (fun _ => rfl)
  · exact rd_type (ks := [.int .i32]) (by kernel_rfl) rfl (fun _ => rfl)
  · exact rd_type (ks := [.int .i64, .int .i64, .int .i64, .str, .bool, .int .i64]) (by kernel_rfl) rfl (fun _ _ _ _ _ _ => rfl)
  · exact rd_type (ks := [.int .i64, .int .i64, .int .i64, .str, .bool, .int .i64]) (by kernel_rfl) rfl (fun _ _ _ _ _ _ => rfl)
  · exact rd_type (ks := [.sl 21]) (by kernel_rfl) (by kernel_rfl) (fun _ => rfl)
  · exact rd_type (ks := [.sl 32]) (by kernel_rfl) (by kernel_rfl) (fun _ => rfl)
  · exact rd_type (ks := [.bool, .sl 28]) (by kernel_rfl) (by kernel_rfl) (fun _ _ => rfl)
  · exact rd_type (ks := [.sl 124]) (by kernel_rfl) (by kernel_rfl) (fun _ => rfl)⟩
theorem readable : ∀ t ∈ [3, 9, 5, 21, 32, 45, 46, 22], Tryz.prog.readableRec t = true ∧ t < Tryz.prog.types.size := by
  intro t ht
  simp only [List.mem_cons, List.not_mem_nil, or_false] at ht
  rcases ht with rfl | rfl | rfl | rfl | rfl | rfl | rfl | rfl <;> exact ⟨by kernel_rfl, of_decide_eq_true (by kernel_rfl)⟩
abbrev laidL : List (String × DataW Unit) := [("math/bits.deBruijn32tab", Rows.laid_math_bits_deBruijn32tab), ("math/bits.deBruijn64tab", Rows.laid_math_bits_deBruijn64tab), ("internal/strconv.uint64pow10", Rows.laid_internal_strconv_uint64pow10), ("unicode/utf8.acceptRanges", Rows.laid_unicode_utf8_acceptRanges), ("unicode/utf8.first", Rows.laid_unicode_utf8_first)]
theorem extra : Go.Proofs.U8Extra Tryz.prog Tryz.lays196_ren := ⟨by kernel_rfl, by kernel_rfl, by kernel_rfl, by kernel_rfl, by kernel_rfl, by kernel_rfl, by kernel_rfl⟩
theorem first_is : (Rows.laid_unicode_utf8_first : DataW Unit) = Lib.firstData := by kernel_rfl
theorem accept_is : (Rows.laid_unicode_utf8_acceptRanges : DataW Unit) = Lib.acceptData := by kernel_rfl
theorem inv_of {W : World} (h : laidMetH Tryz.prog laidL W) : tb.inv (fun _ => .con) W := by
  rw [MakeChecks.laidMetH_plain _ _ _ (by kernel_rfl)] at h
  have h3 := Lib.laidMet.reads h (n := "unicode/utf8.first") (d := Rows.laid_unicode_utf8_first) (by simp)
  have h4 := Lib.laidMet.reads h (n := "unicode/utf8.acceptRanges") (d := Rows.laid_unicode_utf8_acceptRanges) (by simp)
  rw [first_is] at h3
  rw [accept_is] at h4
  obtain ⟨g2, t2, cs2, f2, p2, hg2, ht2, hv2, hd2⟩ := Lib.laidMet.reads h (n := "internal/strconv.uint64pow10") (d := Rows.laid_internal_strconv_uint64pow10) (by simp)
  obtain rfl := Option.some.inj ((show Tryz.prog.globalNamed "internal/strconv.uint64pow10" = some 5 by kernel_rfl).symm.trans hg2)
  obtain rfl := Option.some.inj ((show (Tryz.prog.globals[5]?).map (·.type) = some 362 by kernel_rfl).symm.trans ht2)
  refine ⟨rfl, rfl, Go.Proofs.utf8Tabs_of_readsT (.of196 Tryz.lays196) extra h3 h4, 5, by kernel_rfl, rfl, ?_⟩
  have := Lib.cells_of_tab (k := .u64) (zs := Lib.pow10Tab) (n := 20) Tryz.underlying362 Tryz.underlying152 (by kernel_rfl) (by kernel_rfl) (show DataW.trod _ _ _ _ _ _ _ _ _ = some (Lib.tabData .u64 Lib.pow10Tab, _) from hd2)
  unfold Lib.TabIs
  rw [hv2, ← this]
theorem true_out {P : Program} : ∀ g w us cs v, HoldsL P tb g w [(0, .val 4)] true us cs → RetV [(0, .val 4)] us v → isAggB P 4 = false → v = .bool true := by
  intro g w us cs v h hr ha
  cases us with
  | nil => cases cs <;> exact h.elim
  | cons u us =>
    cases us with
    | cons _ _ => cases cs <;> exact h.elim
    | nil =>
      cases cs with
      | nil => exact h.elim
      | cons c cs =>
        cases cs with
        | cons _ _ => exact h.elim
        | nil =>
          have hr : v = u := hr
          subst hr
          obtain ⟨h1, _⟩ := h
          unfold HoldsV at h1
          simp only [ha, Bool.false_eq_true, if_false] at h1
          obtain ⟨c, hc, hrep⟩ := h1
          have hc : [CV.bool true] = [c] := hc
          simp only [List.cons.injEq, and_true] at hc
          subst hc
          cases hrep
          rfl
end Go.Proofs.YtdgpkbnnljblmaaGreatDoor
