/- The law DecSums: for every input it tells true. -/
import Derived.Test.YtmlbknmjgahcfaaDoorDD
import Derived.Test.YtmlbknmjgahcfaaDoorCards
namespace Go.Proofs.YtmlbknmjgahcfaaDoor
open Go Go.Ev Go.ChangeShapes Go.WideShapes Go.RowKit
set_option maxRecDepth 100000 in
theorem decSums_lifted (os : Os) (started : os.Started) (H : Type) (enc : TypeId × Value → H) :
    ReturnsInHanded {} Tryd.checked os 3 .any (fun w args => (Rows.decSumsSpec.pre enc Tryd.prog Tryd.f3 [] false w args ∧ laidMetH Tryd.prog laidL w) ∧ sizedMet enc Tryd.prog Tryd.f3 (OpenSpec.ofChange Rows.decSumsSpec) false w args)
      (Rows.decSumsSpec.post enc Tryd.prog Tryd.f3 false true false false) := by
  refine returnsInHanded_of_change_and (C := Tryd.checked) (X := fun w _ => laidMetH Tryd.prog laidL w) (fun _ _ _ hh h => h.of_heap hh) own started (by kernel_rfl) Tryd.func3
    (ChangeSpec.witness_shaped (enc := enc) (C := Tryd.checked) (os := os) (X := fun w _ => laidMetH Tryd.prog laidL w) false (World.doorLaid Tryd.prog 65 os) #[.agg #[.int .i64 0, .int .i64 0], .agg #[.int .i64 0, .int .i64 0]] 8 rfl (World.shaped_of_RefB (by kernel_rfl) (by kernel_rfl)) (by kernel_rfl) (by kernel_rfl) (by kernel_rfl) (door_met os _)) ?_
  intro W base args ds gs before hval hW _ hz hL _
  exact law_calls (P := Tryd.prog) (tb := tb) rd (ts := [23, 23]) (rb := 4) law4_DecSums_sound decSums_true (by rw [Tryd.params3]) rfl (fun t ht => by revert t; decide) rfl Tryd.underlying4 rfl (fun ds h => by
    match ds, h with
    | [d0, d1], _ => rfl) laidOut (fun t ht => readable t (by revert t; decide)) hval hW hz (inv_of hL)
theorem decSums_holds : Rows.DecSumsSaid :=
  OpenClaim.holds_of_wide 3 Tryd.f3 rfl rfl rfl rfl rfl rfl rfl ⟨rfl, rfl, rfl, rfl, rfl⟩ rfl rfl rfl rfl rfl (by kernel_rfl) Tryd.func3 (by kernel_rfl)
    (of_decide_eq_true (by kernel_rfl)) (by unfold Func.isWrapper; first | (rw [if_pos (by decide +kernel)]; kernel_rfl) | (rw [if_neg (by decide +kernel)]; exact ⟨rfl, rfl⟩))
    (fun os started H enc _ => decSums_lifted os started H enc)
theorem decSums_card : Rows.DecSumsCardSaid :=
  Claim7.holds_tied_plain_at .later [] [.data, .data, .data] true (true, "3040425195c02a086e2b268355e88232b7ee9f980af2eb75597ffc2406adc7ee") false
    decSums_holds (fun _ h => by cases h) (by kernel_rfl) (fun _ h => by cases h) decSums_row_tie rfl ⟨rfl, rfl⟩ (by kernel_rfl) rfl
    (fun f fn hf hfn => by
      obtain rfl : f = 3 := Option.some.inj ((show Tryd.prog.funcNamed "cashbook/cashbooklaw4.DecSums" = some 3 by kernel_rfl).symm.trans hf) |>.symm
      obtain rfl : fn = Tryd.f3 := (Option.some.inj (Tryd.func3.symm.trans hfn)).symm
      exact ⟨by kernel_rfl, fun j t ht => by
        rw [Tryd.params3] at ht
        have hm : t ∈ [23, 23] := by simpa using Array.mem_of_getElem? ht
        have hall : ([23, 23].all fun u => !Tryd.prog.wantsStandIn u) = true := by kernel_rfl
        exact (show Tryd.prog.wantsStandIn t = false by simpa using List.all_eq_true.1 hall t hm)⟩)
    (by kernel_rfl)
end Go.Proofs.YtmlbknmjgahcfaaDoor
