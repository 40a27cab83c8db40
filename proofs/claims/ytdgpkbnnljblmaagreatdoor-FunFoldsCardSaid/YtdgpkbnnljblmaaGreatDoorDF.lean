/- DF -/
import Derived.Test.YtdgpkbnnljblmaaGreatDoorYF
import Derived.Test.YtdgpkbnnljblmaaGreatDoorRW
import Derived.Test.YtdgpkbnnljblmaaGreatDoorCards
namespace Go.Proofs.YtdgpkbnnljblmaaGreatDoor
open Go Go.Ev Go.ChangeShapes Go.WideShapes Go.RowKit
theorem law11_FunFolds_true : TellsTrue Tryz.prog tb law11_FunFoldsS := fun x hx => by
  obtain _ := x
  exact ⟨true, FunFolds_true (l := x) (wf_i32s hx), fun g w us cs v h hr => true_out g w us cs v h hr notAgg4⟩
set_option maxRecDepth 100000 in
theorem law11_FunFolds_lifted (os : Os) (started : os.Started) (H : Type) (enc : TypeId × Value → H) :
    ReturnsInHanded {} Tryz.checked os 5 .any (fun w args => (Rows.funFoldsSpec.pre enc Tryz.prog Tryz.f5 [] false w args ∧ laidMetH Tryz.prog laidL w) ∧ sizedMet enc Tryz.prog Tryz.f5 (OpenSpec.ofChange Rows.funFoldsSpec) false w args)
      (Rows.funFoldsSpec.post enc Tryz.prog Tryz.f5 false true false false) := by
  refine returnsInHanded_of_change_and (C := Tryz.checked) (X := fun w _ => laidMetH Tryz.prog laidL w) (fun _ _ _ hh h => h.of_heap hh) own started (by kernel_rfl) Tryz.func5
    (ChangeSpec.witness_shaped (enc := enc) (C := Tryz.checked) (os := os) (X := fun w _ => laidMetH Tryz.prog laidL w) false (World.laidAll Tryz.prog os laidL) #[.slice none 0 0] 8 (World.laidAll_os _ _ _) (World.shaped_of_ZipB (by kernel_rfl) (by kernel_rfl)) (by kernel_rfl) (by kernel_rfl) (by kernel_rfl) (by rw [MakeChecks.laidMetH_plain _ _ _ (by kernel_rfl)]; exact laidMet_laidAll _ (by kernel_rfl) (by kernel_rfl))) ?_
  intro W base args ds gs before hval hW _ hz hL _
  exact law_calls (P := Tryz.prog) (tb := tb) rd (ts := [45]) (rb := 4) law11_FunFolds_sound law11_FunFolds_true (by rw [Tryz.params5]) rfl (fun t ht => by revert t; decide) rfl Tryz.underlying4 rfl (fun ds h => by
    match ds, h with
    | [d0], _ => rfl) laidOut (fun t ht => readable t (by revert t; decide)) hval hW hz (inv_of hL)
theorem law11_FunFolds_j9 : (Rows.funFoldsRow.inPlace == Tryz.prog.inPlace 5) = true := by kernel_rfl
theorem law11_FunFolds_j10 : (Rows.funFoldsRow.unfollowed == Tryz.prog.unfollowed 5) = true := by kernel_rfl
theorem law11_FunFolds_j11 : (Rows.funFoldsRow.recurses == Tryz.prog.recurses 5) = true := by kernel_rfl
theorem law11_FunFolds_j12 : (Rows.funFoldsRow.named == Tryz.prog.varsNamed 5) = true := by kernel_rfl
theorem law11_FunFolds_closed : joinedFacts Tryz.pinned.checked.prog 5 Tryz.f5 Rows.funFoldsSpec Rows.funFoldsRow = true :=
  and2 (and2 (and2 (and2 (and2 (and2 (and2 (and2 (and2 (and2 (and2 (and2 (and2 (and2 (and2 (and2 (and2 (and2 (and2 (and2 (and2 (and2 (and2 (and2 (and2 (and2 (and2 (and2 (and2 (and2 (and2 (by kernel_rfl) laidOut) maps_rowed) (by kernel_rfl)) (by kernel_rfl)) (by kernel_rfl)) (by kernel_rfl)) (by kernel_rfl)) (by kernel_rfl)) law11_FunFolds_j9) law11_FunFolds_j10) law11_FunFolds_j11) law11_FunFolds_j12) (by kernel_rfl)) (by kernel_rfl)) (by kernel_rfl)) (by kernel_rfl)) (by kernel_rfl)) (by kernel_rfl)) (by kernel_rfl)) (by kernel_rfl)) (by kernel_rfl)) plain_keys) (by kernel_rfl)) stops_heard) may_enter) lifts_is) make_is) (by kernel_rfl)) (by kernel_rfl)) (by kernel_rfl)) (by kernel_rfl)
theorem law11_FunFolds_holds : Rows.FunFoldsSaid :=
  OpenClaim.holds_of_wide 5 Tryz.f5 rfl rfl rfl rfl rfl rfl rfl ⟨rfl, rfl, rfl, rfl, rfl⟩ rfl rfl rfl rfl rfl (by kernel_rfl) Tryz.func5 law11_FunFolds_closed
    (of_decide_eq_true (by kernel_rfl)) (by unfold Func.isWrapper; first | (rw [if_pos (by decide +kernel)]; kernel_rfl) | (rw [if_neg (by decide +kernel)]; exact ⟨rfl, rfl⟩))
    (fun os started H enc _ => law11_FunFolds_lifted os started H enc)
theorem law11_FunFolds_goes : false = Rows.funFoldsRow.goesBy Tryz.pinned.checked.prog := by kernel_rfl
theorem law11_FunFolds_card : Rows.FunFoldsCardSaid :=
  Claim7.holds_tied_plain_at .later [] [.data, .data, .data, .data, .pinned] true (true, "77b88d5647d88579fe249790164f29ba538a169e38f55a49c9c0a729a43cbb40") false
    law11_FunFolds_holds (fun _ h => by cases h) (by kernel_rfl) (fun _ h => by cases h) funFolds_row_tie rfl ⟨rfl, rfl⟩ main_is rfl
    (fun f fn hf hfn => by
      obtain rfl : f = 5 := Option.some.inj ((show Tryz.prog.funcNamed "cashbook/cashbooklaw11.FunFolds" = some 5 by kernel_rfl).symm.trans hf) |>.symm
      obtain rfl : fn = Tryz.f5 := (Option.some.inj (Tryz.func5.symm.trans hfn)).symm
      exact ⟨looks_is, fun j t ht => by
        rw [Tryz.params5] at ht
        have hm : t ∈ [45] := by simpa using Array.mem_of_getElem? ht
        have hall : ([45].all fun u => !Tryz.prog.wantsStandIn u) = true := by kernel_rfl
        exact (show Tryz.prog.wantsStandIn t = false by simpa using List.all_eq_true.1 hall t hm)⟩)
    law11_FunFolds_goes
end Go.Proofs.YtdgpkbnnljblmaaGreatDoor
