/- The rows: what the laws on values share. -/
import Derived.Test.YtmlbknmjgahcfaaGreatDoorXD
import Derived.Test.YtmlbknmjgahcfaaGreatDoorEvC
import Derived.Test.YtmlbknmjgahcfaaGreatDoorTie
import Derived.Stop.Joined
import Derived.Lib.LaidU8T
import Derived.Lay
namespace Go.Proofs.YtmlbknmjgahcfaaGreatDoor
open Go Go.Ev

theorem own : ownKnob Tryz.prog.godebug = none := by kernel_rfl
theorem laidOut : laidOutB Tryz.prog = true := by kernel_rfl

/-- the types that the laws' arguments have -/
def rd : RdTab Tryz.prog tb := ⟨[25], 20, fun t ht => by
  simp only [List.mem_cons, List.not_mem_nil, or_false] at ht
  subst ht
  exact rd_type (ks := [.int .i64, .int .i64, .int .i64, .str, .bool, .int .i64]) (by kernel_rfl) rfl (fun _ _ _ _ _ _ => rfl)⟩
theorem readable : ∀ t ∈ [25], Tryz.prog.readableRec t = true ∧ t < Tryz.prog.types.size := by
  intro t ht
  simp only [List.mem_cons, List.not_mem_nil, or_false] at ht
  subst ht
  exact ⟨by kernel_rfl, of_decide_eq_true (by kernel_rfl)⟩

/-- what the listed variables hold -/
abbrev laidL : List (String × DataW Unit) := [("math/bits.deBruijn32tab", Rows.laid_math_bits_deBruijn32tab), ("math/bits.deBruijn64tab", Rows.laid_math_bits_deBruijn64tab), ("internal/strconv.uint64pow10", Rows.laid_internal_strconv_uint64pow10), ("unicode/utf8.acceptRanges", Rows.laid_unicode_utf8_acceptRanges), ("unicode/utf8.first", Rows.laid_unicode_utf8_first)]
theorem extra : Go.Proofs.U8Extra Tryz.prog Tryz.lays196_ren := ⟨by kernel_rfl, by kernel_rfl, by kernel_rfl, by kernel_rfl, by kernel_rfl, by kernel_rfl, by kernel_rfl⟩
theorem first_is : (Rows.laid_unicode_utf8_first : DataW Unit) = Lib.firstData := by kernel_rfl
theorem accept_is : (Rows.laid_unicode_utf8_acceptRanges : DataW Unit) = Lib.acceptData := by kernel_rfl
theorem inv_of {W : World} (h : laidMetH Tryz.prog laidL W) : tb.inv (fun _ => .con) W := by
  rw [MakeChecks.laidMetH_plain _ _ _ (by kernel_rfl)] at h
  have h3 := Lib.laidMet.reads h (n := "unicode/utf8.first") (d := Rows.laid_unicode_utf8_first) (by simp)
  have h4 := Lib.laidMet.reads h (n := "unicode/utf8.acceptRanges") (d := Rows.laid_unicode_utf8_acceptRanges) (by simp)
  rw [first_is] at h3
  rw [accept_is] at h4
  obtain ⟨g2, t2, cs2, f2, p2, hg2, ht2, hv2, hd2⟩ := Lib.laidMet.reads h (n := "internal/strconv.uint64pow10") (d := Rows.laid_internal_strconv_uint64pow10) (by simp)
  obtain rfl := Option.some.inj ((show Tryz.prog.globalNamed "internal/strconv.uint64pow10" = some 3 by kernel_rfl).symm.trans hg2)
  obtain rfl := Option.some.inj ((show (Tryz.prog.globals[3]?).map (·.type) = some 147 by kernel_rfl).symm.trans ht2)
  refine ⟨rfl, rfl, Go.Proofs.utf8Tabs_of_readsT (.of196 Tryz.lays196) extra h3 h4, 3, by kernel_rfl, rfl, ?_⟩
  have := Lib.cells_of_tab (k := .u64) (zs := Lib.pow10Tab) (n := 20) Tryz.underlying147 Tryz.underlying87 (by kernel_rfl) (by kernel_rfl) (show DataW.trod _ _ _ _ _ _ _ _ _ = some (Lib.tabData .u64 Lib.pow10Tab, _) from hd2)
  unfold Lib.TabIs
  rw [hv2, ← this]

theorem true_out {P : Program} : ∀ g w us cs v, HoldsL P tb g w [(0, .val 4)] true us cs → RetV [(0, .val 4)] us v → isAggB P 4 = false → v = .bool true := by
  intro g w us cs v h hr ha
  cases us with
  | nil => cases cs <;> exact h.elim
  | cons u us =>
    cases us with
    | cons _ _ => cases cs <;> exact h.elim
    | nil =>
      cases cs with
      | nil => exact h.elim
      | cons c cs =>
        cases cs with
        | cons _ _ => exact h.elim
        | nil =>
          have hr : v = u := hr
          subst hr
          obtain ⟨h1, _⟩ := h
          unfold HoldsV at h1
          simp only [ha, Bool.false_eq_true, if_false] at h1
          obtain ⟨c, hc, hrep⟩ := h1
          have hc : [CV.bool true] = [c] := hc
          simp only [List.cons.injEq, and_true] at hc
          subst hc
          cases hrep
          rfl
theorem wf_int {k : IntKind} {n : Int} (h : Wf Tryz.prog tb (.int k n)) : inR k n := by cases h; assumption
theorem wf_val {v : Val} (h : ∀ c ∈ tb.enc 25 v, Wf Tryz.prog tb c) : I64 v.N.M := by
  rw [enc25_eq] at h
  have := wf_int (h (.int .i64 v.N.M) (by simp))
  simp only [Ev.inR, lo, hi] at this
  exact this
theorem valAny_true : TellsTrue Tryz.prog tb law9_ValAnyS := fun x hx => by
  obtain ⟨a, b⟩ := x
  exact ⟨true, ValAny_true (wf_val hx.1) (wf_val hx.2), fun g w us cs v h hr => true_out g w us cs v h hr notAgg4⟩
end Go.Proofs.YtmlbknmjgahcfaaGreatDoor
