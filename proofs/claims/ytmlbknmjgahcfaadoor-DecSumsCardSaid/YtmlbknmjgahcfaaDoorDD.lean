/- The row of the law on sums: its words. -/
import Derived.Test.YtmlbknmjgahcfaaDoorDE
import Derived.Test.YtmlbknmjgahcfaaDoorEvC
import Derived.Test.YtmlbknmjgahcfaaDoorTie
import Derived.Stop.Joined
namespace Go.Proofs.YtmlbknmjgahcfaaDoor
open Go Go.Ev

theorem own : ownKnob Tryd.prog.godebug = none := by kernel_rfl
theorem laidOut : laidOutB Tryd.prog = true := by kernel_rfl

/-- the types that the laws' arguments have -/
def rd : RdTab Tryd.prog tb := ⟨[23], 20, fun t ht => by
  simp only [List.mem_cons, List.not_mem_nil, or_false] at ht
  subst ht
  exact rd_type (ks := [.int .i64, .int .i64]) (by kernel_rfl) rfl (fun _ _ => rfl)⟩
theorem readable : ∀ t ∈ [23], Tryd.prog.readableRec t = true ∧ t < Tryd.prog.types.size := by
  intro t ht
  simp only [List.mem_cons, List.not_mem_nil, or_false] at ht
  subst ht
  exact ⟨by kernel_rfl, of_decide_eq_true (by kernel_rfl)⟩

/-- what the listed variables hold -/
abbrev laidL : List (String × DataW Unit) := [("math/bits.deBruijn32tab", Rows.laid_math_bits_deBruijn32tab), ("math/bits.deBruijn64tab", Rows.laid_math_bits_deBruijn64tab), ("internal/strconv.uint64pow10", Rows.laid_internal_strconv_uint64pow10)]
theorem door_met (os : Os) (args : Array Value) : laidMetH Tryd.prog laidL ((World.doorLaid Tryd.prog 65 os).forCall (fun _ _ => 0) ⟨#[], args, []⟩).memory :=
  laidMetH_of_parts3 (fuel := 8) (laidMet_of_run' 8 (by kernel_rfl) (by kernel_rfl)) (by kernel_rfl) (by kernel_rfl)
theorem inv_of {W : World} (_ : laidMetH Tryd.prog laidL W) : tb.inv (fun _ => .con) W := trivial

theorem true_out {P : Program} : ∀ g w us cs v, HoldsL P tb g w [(0, .val 4)] true us cs → RetV [(0, .val 4)] us v → isAggB P 4 = false → v = .bool true := by
  intro g w us cs v h hr ha
  cases us with
  | nil => cases cs <;> exact h.elim
  | cons u us =>
    cases us with
    | cons _ _ => cases cs <;> exact h.elim
    | nil =>
      cases cs with
      | nil => exact h.elim
      | cons c cs =>
        cases cs with
        | cons _ _ => exact h.elim
        | nil =>
          have hr : v = u := hr
          subst hr
          obtain ⟨h1, _⟩ := h
          unfold HoldsV at h1
          simp only [ha, Bool.false_eq_true, if_false] at h1
          obtain ⟨c, hc, hrep⟩ := h1
          have hc : [CV.bool true] = [c] := hc
          simp only [List.cons.injEq, and_true] at hc
          subst hc
          cases hrep
          rfl
theorem wf_int {k : IntKind} {n : Int} (h : Wf Tryd.prog tb (.int k n)) : inR k n := by cases h; assumption
theorem decSums_true : TellsTrue Tryd.prog tb law4_DecSumsS := fun x hx => by
  obtain ⟨a, b⟩ := x
  have h1 := wf_int (hx.1 _ (List.mem_cons_self ..))
  have h2 := wf_int (hx.2 _ (List.mem_cons_self ..))
  simp only [Ev.inR, lo, hi] at h1 h2
  exact ⟨true, DecSums_true h1 h2, fun g w us cs v h hr => true_out g w us cs v h hr notAgg4⟩
end Go.Proofs.YtmlbknmjgahcfaaDoor
