/- The law RefCells: for every input it tells true. -/
import Derived.Test.YtjbgpcpamdbjlaaDoorRV
import Derived.Test.YtjbgpcpamdbjlaaDoorRW
import Derived.Test.YtjbgpcpamdbjlaaDoorCards
namespace Go.Proofs.YtjbgpcpamdbjlaaDoor
open Go Go.Ev Go.ChangeShapes Go.WideShapes Go.RowKit
set_option maxRecDepth 100000 in
theorem cellsQ_lifted (os : Os) (started : os.Started) (H : Type) (enc : TypeId × Value → H) :
    ReturnsInHanded {} Tryd.checked os 7 .any (fun w args => (Rows.refCellsSpec.pre enc Tryd.prog Tryd.f7 [] false w args ∧ laidMetH Tryd.prog laidL w) ∧ sizedMet enc Tryd.prog Tryd.f7 (OpenSpec.ofChange Rows.refCellsSpec) false w args)
      (Rows.refCellsSpec.post enc Tryd.prog Tryd.f7 false true false false) := by
  refine returnsInHanded_of_change_and (C := Tryd.checked) (X := fun w _ => laidMetH Tryd.prog laidL w) (fun _ _ _ hh h => h.of_heap hh) own started (by kernel_rfl) Tryd.func7
    (ChangeSpec.witness_shaped (enc := enc) (C := Tryd.checked) (os := os) (X := fun w _ => laidMetH Tryd.prog laidL w) false (World.doorLaid Tryd.prog 65 os) #[.agg #[.int .i64 0, .int .i64 0, .bool false, .bool false], .agg #[.int .i64 0, .int .i64 0, .bool false, .bool false], .agg #[.int .i64 0, .int .i64 0]] 8 rfl (World.shaped_of_RefB (by kernel_rfl) (by kernel_rfl)) (by kernel_rfl) (by kernel_rfl) (by kernel_rfl) (door_met os _)) ?_
  intro W base args ds gs before hval hW _ hz hL _
  exact law_calls (P := Tryd.prog) (tb := tb) rd (ts := [23, 23, 25]) (rb := 4) cellsQ_sound cellsQ_true (by rw [Tryd.params7]) rfl (fun t ht => by revert t; decide) rfl Tryd.underlying4 rfl (fun ds h => by
    match ds, h with
    | [d0, d1, d2], _ => rfl) laidOut (fun t ht => readable t (by revert t; decide)) hval hW hz (inv_of hL)
theorem cellsQ_holds : Rows.RefCellsSaid :=
  OpenClaim.holds_of_wide 7 Tryd.f7 rfl rfl rfl rfl rfl rfl rfl ⟨rfl, rfl, rfl, rfl, rfl⟩ rfl rfl rfl rfl rfl (by kernel_rfl) Tryd.func7 (by kernel_rfl)
    (of_decide_eq_true (by kernel_rfl)) (by unfold Func.isWrapper; first | (rw [if_pos (by decide +kernel)]; kernel_rfl) | (rw [if_neg (by decide +kernel)]; exact ⟨rfl, rfl⟩))
    (fun os started H enc _ => cellsQ_lifted os started H enc)
theorem cellsQ_card : Rows.RefCellsCardSaid :=
  Claim7.holds_tied_plain_at .later [] [.data, .data, .data] true (true, "1b7c520643e9ec7542dbc3b9dfca912cecc4c0222ce1723846ea724a5d785090") false
    cellsQ_holds (fun _ h => by cases h) (by kernel_rfl) (fun _ h => by cases h) refCells_row_tie rfl ⟨rfl, rfl⟩ (by kernel_rfl) rfl
    (fun f fn hf hfn => by
      obtain rfl : f = 7 := Option.some.inj ((show Tryd.prog.funcNamed "cashbook/cashbooklaw8.RefCells" = some 7 by kernel_rfl).symm.trans hf) |>.symm
      obtain rfl : fn = Tryd.f7 := (Option.some.inj (Tryd.func7.symm.trans hfn)).symm
      exact ⟨by kernel_rfl, fun j t ht => by
        rw [Tryd.params7] at ht
        have hm : t ∈ [23, 23, 25] := by simpa using Array.mem_of_getElem? ht
        have hall : ([23, 23, 25].all fun u => !Tryd.prog.wantsStandIn u) = true := by kernel_rfl
        exact (show Tryd.prog.wantsStandIn t = false by simpa using List.all_eq_true.1 hall t hm)⟩)
    (by kernel_rfl)
end Go.Proofs.YtjbgpcpamdbjlaaDoor
