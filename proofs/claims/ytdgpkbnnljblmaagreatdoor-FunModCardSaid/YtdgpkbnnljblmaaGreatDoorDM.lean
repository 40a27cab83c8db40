/- DM -/
import Derived.Test.YtdgpkbnnljblmaaGreatDoorYM
import Derived.Test.YtdgpkbnnljblmaaGreatDoorRW
import Derived.Test.YtdgpkbnnljblmaaGreatDoorCards
namespace Go.Proofs.YtdgpkbnnljblmaaGreatDoor
open Go Go.Ev Go.ChangeShapes Go.WideShapes Go.RowKit
theorem law11_FunMod_true : TellsTrue Tryz.prog tb law11_FunModS := fun x hx => by
  obtain ⟨a, b, s⟩ := x
  exact ⟨true, FunMod_true (wf_i32 hx.1) (wf_i32 hx.2.1), fun g w us cs v h hr => true_out g w us cs v h hr notAgg4⟩
set_option maxRecDepth 100000 in
theorem law11_FunMod_lifted (os : Os) (started : os.Started) (H : Type) (enc : TypeId × Value → H) :
    ReturnsInHanded {} Tryz.checked os 7 .any (fun w args => (Rows.funModSpec.pre enc Tryz.prog Tryz.f7 [] false w args ∧ laidMetH Tryz.prog laidL w) ∧ sizedMet enc Tryz.prog Tryz.f7 (OpenSpec.ofChange Rows.funModSpec) false w args)
      (Rows.funModSpec.post enc Tryz.prog Tryz.f7 false true false false) := by
  refine returnsInHanded_of_change_and (C := Tryz.checked) (X := fun w _ => laidMetH Tryz.prog laidL w) (fun _ _ _ hh h => h.of_heap hh) own started (by kernel_rfl) Tryz.func7
    (ChangeSpec.witness_shaped (enc := enc) (C := Tryz.checked) (os := os) (X := fun w _ => laidMetH Tryz.prog laidL w) false (World.laidAll Tryz.prog os laidL) #[.int .i32 0, .int .i32 0, .int .u8 0] 8 (World.laidAll_os _ _ _) (World.shaped_of_ZipB (by kernel_rfl) (by kernel_rfl)) (by kernel_rfl) (by kernel_rfl) (by kernel_rfl) (by rw [MakeChecks.laidMetH_plain _ _ _ (by kernel_rfl)]; exact laidMet_laidAll _ (by kernel_rfl) (by kernel_rfl))) ?_
  intro W base args ds gs before hval hW _ hz hL _
  exact law_calls (P := Tryz.prog) (tb := tb) rd (ts := [21, 21, 5]) (rb := 4) law11_FunMod_sound law11_FunMod_true (by rw [Tryz.params7]) rfl (fun t ht => by revert t; decide) rfl Tryz.underlying4 rfl (fun ds h => by
    match ds, h with
    | [d0, d1, d2], _ => rfl) laidOut (fun t ht => readable t (by revert t; decide)) hval hW hz (inv_of hL)
theorem law11_FunMod_j9 : (Rows.funModRow.inPlace == Tryz.prog.inPlace 7) = true := by kernel_rfl
theorem law11_FunMod_j10 : (Rows.funModRow.unfollowed == Tryz.prog.unfollowed 7) = true := by kernel_rfl
theorem law11_FunMod_j11 : (Rows.funModRow.recurses == Tryz.prog.recurses 7) = true := by kernel_rfl
theorem law11_FunMod_j12 : (Rows.funModRow.named == Tryz.prog.varsNamed 7) = true := by kernel_rfl
theorem law11_FunMod_closed : joinedFacts Tryz.pinned.checked.prog 7 Tryz.f7 Rows.funModSpec Rows.funModRow = true :=
  and2 (and2 (and2 (and2 (and2 (and2 (and2 (and2 (and2 (and2 (and2 (and2 (and2 (and2 (and2 (and2 (and2 (and2 (and2 (and2 (and2 (and2 (and2 (and2 (and2 (and2 (and2 (and2 (and2 (and2 (and2 (by kernel_rfl) laidOut) maps_rowed) (by kernel_rfl)) (by kernel_rfl)) (by kernel_rfl)) (by kernel_rfl)) (by kernel_rfl)) (by kernel_rfl)) law11_FunMod_j9) law11_FunMod_j10) law11_FunMod_j11) law11_FunMod_j12) (by kernel_rfl)) (by kernel_rfl)) (by kernel_rfl)) (by kernel_rfl)) (by kernel_rfl)) (by kernel_rfl)) (by kernel_rfl)) (by kernel_rfl)) (by kernel_rfl)) plain_keys) (by kernel_rfl)) stops_heard) may_enter) lifts_is) make_is) (by kernel_rfl)) (by kernel_rfl)) (by kernel_rfl)) (by kernel_rfl)
theorem law11_FunMod_holds : Rows.FunModSaid :=
  OpenClaim.holds_of_wide 7 Tryz.f7 rfl rfl rfl rfl rfl rfl rfl ⟨rfl, rfl, rfl, rfl, rfl⟩ rfl rfl rfl rfl rfl (by kernel_rfl) Tryz.func7 law11_FunMod_closed
    (of_decide_eq_true (by kernel_rfl)) (by unfold Func.isWrapper; first | (rw [if_pos (by decide +kernel)]; kernel_rfl) | (rw [if_neg (by decide +kernel)]; exact ⟨rfl, rfl⟩))
    (fun os started H enc _ => law11_FunMod_lifted os started H enc)
theorem law11_FunMod_goes : false = Rows.funModRow.goesBy Tryz.pinned.checked.prog := by kernel_rfl
theorem law11_FunMod_card : Rows.FunModCardSaid :=
  Claim7.holds_tied_plain_at .later [] [.data, .data, .data, .data, .pinned] true (true, "77b88d5647d88579fe249790164f29ba538a169e38f55a49c9c0a729a43cbb40") false
    law11_FunMod_holds (fun _ h => by cases h) (by kernel_rfl) (fun _ h => by cases h) funMod_row_tie rfl ⟨rfl, rfl⟩ main_is rfl
    (fun f fn hf hfn => by
      obtain rfl : f = 7 := Option.some.inj ((show Tryz.prog.funcNamed "cashbook/cashbooklaw11.FunMod" = some 7 by kernel_rfl).symm.trans hf) |>.symm
      obtain rfl : fn = Tryz.f7 := (Option.some.inj (Tryz.func7.symm.trans hfn)).symm
      exact ⟨looks_is, fun j t ht => by
        rw [Tryz.params7] at ht
        have hm : t ∈ [21, 21, 5] := by simpa using Array.mem_of_getElem? ht
        have hall : ([21, 21, 5].all fun u => !Tryz.prog.wantsStandIn u) = true := by kernel_rfl
        exact (show Tryz.prog.wantsStandIn t = false by simpa using List.all_eq_true.1 hall t hm)⟩)
    law11_FunMod_goes
end Go.Proofs.YtdgpkbnnljblmaaGreatDoor
