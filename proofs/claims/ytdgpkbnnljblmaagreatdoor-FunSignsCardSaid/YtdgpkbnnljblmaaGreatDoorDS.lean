/- DS -/
import Derived.Test.YtdgpkbnnljblmaaGreatDoorYS
import Derived.Test.YtdgpkbnnljblmaaGreatDoorRW
import Derived.Test.YtdgpkbnnljblmaaGreatDoorCards
namespace Go.Proofs.YtdgpkbnnljblmaaGreatDoor
open Go Go.Ev Go.ChangeShapes Go.WideShapes Go.RowKit
theorem law11_FunSigns_true : TellsTrue Tryz.prog tb law11_FunSignsS := fun x hx => by
  obtain ⟨op, a, b⟩ := x
  exact ⟨true, FunSigns_true (wf_val hx.2.1) (wf_val hx.2.2), fun g w us cs v h hr => true_out g w us cs v h hr notAgg4⟩
set_option maxRecDepth 100000 in
theorem law11_FunSigns_lifted (os : Os) (started : os.Started) (H : Type) (enc : TypeId × Value → H) :
    ReturnsInHanded {} Tryz.checked os 8 .any (fun w args => (Rows.funSignsSpec.pre enc Tryz.prog Tryz.f8 [] false w args ∧ laidMetH Tryz.prog laidL w) ∧ sizedMet enc Tryz.prog Tryz.f8 (OpenSpec.ofChange Rows.funSignsSpec) false w args)
      (Rows.funSignsSpec.post enc Tryz.prog Tryz.f8 false true false false) := by
  refine returnsInHanded_of_change_and (C := Tryz.checked) (X := fun w _ => laidMetH Tryz.prog laidL w) (fun _ _ _ hh h => h.of_heap hh) own started (by kernel_rfl) Tryz.func8
    (ChangeSpec.witness_shaped (enc := enc) (C := Tryz.checked) (os := os) (X := fun w _ => laidMetH Tryz.prog laidL w) false (World.laidAll Tryz.prog os laidL) #[.int .i64 0, .agg #[.int .i64 0, .int .i64 0, .int .i64 0, .string ByteArray.empty, .bool false, .int .i64 0], .agg #[.int .i64 0, .int .i64 0, .int .i64 0, .string ByteArray.empty, .bool false, .int .i64 0]] 8 (World.laidAll_os _ _ _) (World.shaped_of_ZipB (by kernel_rfl) (by kernel_rfl)) (by kernel_rfl) (by kernel_rfl) (by kernel_rfl) (by rw [MakeChecks.laidMetH_plain _ _ _ (by kernel_rfl)]; exact laidMet_laidAll _ (by kernel_rfl) (by kernel_rfl))) ?_
  intro W base args ds gs before hval hW _ hz hL _
  exact law_calls (P := Tryz.prog) (tb := tb) rd (ts := [3, 32, 32]) (rb := 4) law11_FunSigns_sound law11_FunSigns_true (by rw [Tryz.params8]) rfl (fun t ht => by revert t; decide) rfl Tryz.underlying4 rfl (fun ds h => by
    match ds, h with
    | [d0, d1, d2], _ => rfl) laidOut (fun t ht => readable t (by revert t; decide)) hval hW hz (inv_of hL)
theorem law11_FunSigns_j9 : (Rows.funSignsRow.inPlace == Tryz.prog.inPlace 8) = true := by kernel_rfl
theorem law11_FunSigns_j10 : (Rows.funSignsRow.unfollowed == Tryz.prog.unfollowed 8) = true := by kernel_rfl
theorem law11_FunSigns_j11 : (Rows.funSignsRow.recurses == Tryz.prog.recurses 8) = true := by kernel_rfl
theorem law11_FunSigns_j12 : (Rows.funSignsRow.named == Tryz.prog.varsNamed 8) = true := by kernel_rfl
theorem law11_FunSigns_closed : joinedFacts Tryz.pinned.checked.prog 8 Tryz.f8 Rows.funSignsSpec Rows.funSignsRow = true :=
  and2 (and2 (and2 (and2 (and2 (and2 (and2 (and2 (and2 (and2 (and2 (and2 (and2 (and2 (and2 (and2 (and2 (and2 (and2 (and2 (and2 (and2 (and2 (and2 (and2 (and2 (and2 (and2 (and2 (and2 (and2 (by kernel_rfl) laidOut) maps_rowed) (by kernel_rfl)) (by kernel_rfl)) (by kernel_rfl)) (by kernel_rfl)) (by kernel_rfl)) (by kernel_rfl)) law11_FunSigns_j9) law11_FunSigns_j10) law11_FunSigns_j11) law11_FunSigns_j12) (by kernel_rfl)) (by kernel_rfl)) (by kernel_rfl)) (by kernel_rfl)) (by kernel_rfl)) (by kernel_rfl)) (by kernel_rfl)) (by kernel_rfl)) (by kernel_rfl)) plain_keys) (by kernel_rfl)) stops_heard) may_enter) lifts_is) make_is) (by kernel_rfl)) (by kernel_rfl)) (by kernel_rfl)) (by kernel_rfl)
theorem law11_FunSigns_holds : Rows.FunSignsSaid :=
  OpenClaim.holds_of_wide 8 Tryz.f8 rfl rfl rfl rfl rfl rfl rfl ⟨rfl, rfl, rfl, rfl, rfl⟩ rfl rfl rfl rfl rfl (by kernel_rfl) Tryz.func8 law11_FunSigns_closed
    (of_decide_eq_true (by kernel_rfl)) (by unfold Func.isWrapper; first | (rw [if_pos (by decide +kernel)]; kernel_rfl) | (rw [if_neg (by decide +kernel)]; exact ⟨rfl, rfl⟩))
    (fun os started H enc _ => law11_FunSigns_lifted os started H enc)
theorem law11_FunSigns_goes : false = Rows.funSignsRow.goesBy Tryz.pinned.checked.prog := by kernel_rfl
theorem law11_FunSigns_card : Rows.FunSignsCardSaid :=
  Claim7.holds_tied_plain_at .later [] [.data, .data, .data, .data, .pinned] true (true, "77b88d5647d88579fe249790164f29ba538a169e38f55a49c9c0a729a43cbb40") false
    law11_FunSigns_holds (fun _ h => by cases h) (by kernel_rfl) (fun _ h => by cases h) funSigns_row_tie rfl ⟨rfl, rfl⟩ main_is rfl
    (fun f fn hf hfn => by
      obtain rfl : f = 8 := Option.some.inj ((show Tryz.prog.funcNamed "cashbook/cashbooklaw11.FunSigns" = some 8 by kernel_rfl).symm.trans hf) |>.symm
      obtain rfl : fn = Tryz.f8 := (Option.some.inj (Tryz.func8.symm.trans hfn)).symm
      exact ⟨looks_is, fun j t ht => by
        rw [Tryz.params8] at ht
        have hm : t ∈ [3, 32, 32] := by simpa using Array.mem_of_getElem? ht
        have hall : ([3, 32, 32].all fun u => !Tryz.prog.wantsStandIn u) = true := by kernel_rfl
        exact (show Tryz.prog.wantsStandIn t = false by simpa using List.all_eq_true.1 hall t hm)⟩)
    law11_FunSigns_goes
end Go.Proofs.YtdgpkbnnljblmaaGreatDoor
