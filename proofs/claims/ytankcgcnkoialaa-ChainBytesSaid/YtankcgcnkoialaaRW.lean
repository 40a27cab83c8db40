/- The rows: what the laws on chains share. -/
import Derived.Test.YtankcgcnkoialaaF2
import Derived.Test.YtankcgcnkoialaaEvC
import Derived.Test.YtankcgcnkoialaaRows
import Derived.Stop.Joined
import Derived.Lay
namespace Go.Proofs.Ytankcgcnkoialaa
open Go Go.Ev Go.ChangeShapes Go.WideShapes Go.RowKit

theorem own : ownKnob Try.prog.godebug = none := by kernel_rfl
theorem laidOut : laidOutB Try.prog = true := by kernel_rfl
theorem notAgg4 : isAggB Try.prog 4 = false := by kernel_rfl
/-- the types that the laws' arguments have, and what is in them -/
def rd : RdTab Try.prog tb := ⟨[3, 5, 42, 37, 61, 79], 20, fun t ht => by
  simp only [List.mem_cons, List.not_mem_nil, or_false] at ht
  rcases ht with rfl | rfl | rfl | rfl | rfl | rfl
  · exact rd_type (ks := [.int .i64]) (by kernel_rfl) rfl (fun _ => rfl)
  · exact rd_type (ks := [.int .u8]) (by kernel_rfl) rfl (fun _ => rfl)
  · exact rd_type (ks := [.int .i64, .int .i64, .int .i64]) (by kernel_rfl) rfl (fun _ _ _ => rfl)
  · exact rd_type (ks := [.sl 42]) (by kernel_rfl) (by kernel_rfl) (fun _ => rfl)
  · exact rd_type (ks := [.int .i64, .sl 5, .sl 3, .int .i64]) (by kernel_rfl) (by kernel_rfl) (fun _ _ _ _ => rfl)
  · exact rd_type (ks := [.int .u16]) (by kernel_rfl) rfl (fun _ => rfl)⟩
theorem readable : ∀ t ∈ [37, 61, 79], Try.prog.readableRec t = true ∧ t < Try.prog.types.size := by
  intro t ht
  simp only [List.mem_cons, List.not_mem_nil, or_false] at ht
  rcases ht with rfl | rfl | rfl <;> exact ⟨by kernel_rfl, of_decide_eq_true (by kernel_rfl)⟩
theorem true_out {P : Program} : ∀ g w us cs v, HoldsL P tb g w [(0, .val 4)] true us cs → RetV [(0, .val 4)] us v → isAggB P 4 = false → v = .bool true := by
  intro g w us cs v h hr ha
  cases us with
  | nil => cases cs <;> exact h.elim
  | cons u us =>
    cases us with
    | cons _ _ => cases cs <;> exact h.elim
    | nil =>
      cases cs with
      | nil => exact h.elim
      | cons c cs =>
        cases cs with
        | cons _ _ => exact h.elim
        | nil =>
          have hr : v = u := hr
          subst hr
          obtain ⟨h1, _⟩ := h
          unfold HoldsV at h1
          simp only [ha, Bool.false_eq_true, if_false] at h1
          obtain ⟨c, hc, hrep⟩ := h1
          have hc : [CV.bool true] = [c] := hc
          simp only [List.cons.injEq, and_true] at hc
          subst hc
          cases hrep
          rfl
theorem wf_u16 {n : Int} (h : ∀ c ∈ tb.enc 79 n, Wf Try.prog tb c) : 0 ≤ n ∧ n ≤ 65535 := by
  rw [enc79_eq] at h
  have h := h (.int .u16 n) (by simp)
  have : inR .u16 n := by cases h; assumption
  simp only [Ev.inR, lo, hi] at this
  exact this
/-- a call's first world, of a law without listed variables -/
theorem witness6 {H : Type} {enc : TypeId × Value → H} {os : Os} {f : FuncId} {fn : Func} {s : ChangeSpec} (args : Array Value) 
    (hok : Input.okWideB Try.prog ((World.laidAll Try.prog os []).forCall (fun _ _ => 0) ⟨#[], args, []⟩) f ⟨#[], args, []⟩ = true)
    (hpre : s.preB enc Try.prog fn [] false ((World.laidAll Try.prog os []).forCall (fun _ _ => 0) ⟨#[], args, []⟩).memory args 8 = true)
    (hsz : s.sizedB enc Try.prog fn false ((World.laidAll Try.prog os []).forCall (fun _ _ => 0) ⟨#[], args, []⟩).memory args 8 = true)
    (hsh : ((World.laidAll Try.prog os []).forCall (fun _ _ => 0) ⟨#[], args, []⟩).Shaped Try.prog) :
    ∃ (w : World) (tape : Tape) (i : Input), w.os = os ∧ (w.forCall tape i).Shaped Try.checked.prog ∧ i.vars = [] ∧ Input.okWide Try.checked.prog (w.forCall tape i) .any w.heap.size f i ∧
      s.pre6 enc Try.checked.prog fn [] false (w.forCall tape i).memory i.args ∧ ({} : Assume).holds Try.checked.prog (lone (Frame.enter Try.checked.prog f i.args .normal) [] (w.forCall tape i)) := by
  obtain ⟨w, tape, i, h1, h2, h3, h4, ⟨⟨h5, _⟩, h6⟩, h7⟩ := ChangeSpec.witness_shaped (enc := enc) (C := Try.checked) (os := os) (f := f) (fn := fn) (s := s) (X := fun _ _ => True) false (World.laidAll Try.prog os []) args 8 (World.laidAll_os _ _ _) hsh hok hpre hsz trivial
  exact ⟨w, tape, i, h1, h2, h3, h4, ⟨h5, h6⟩, h7⟩
end Go.Proofs.Ytankcgcnkoialaa
