/- DP -/
import Derived.Test.YtdgpkbnnljblmaaGreatDoorYP
import Derived.Test.YtdgpkbnnljblmaaGreatDoorRW
import Derived.Test.YtdgpkbnnljblmaaGreatDoorCards
import Derived.Deep.DeepHandedRow
import Derived.ChangeMaps5
namespace Go.Proofs.YtdgpkbnnljblmaaGreatDoor
open Go Go.Ev Go.ChangeShapes Go.WideShapes Go.RowKit
variable {H : Type} {enc : TypeId × Value → H}
theorem law_calls_if {P : Program} {tb : Tab} (R : RdTab P tb) {f : Nat} {fn : Func} {sp : FSpec tb} {s : ChangeSpec} {ts : List Nat} {rb : Nat} (hsound : FnSound P tb f sp)
    (hp : fn.params.toList = ts) (hins : sp.ins = insOf 0 ts) (hS : ∀ t ∈ ts, t ∈ R.S) (hr : fn.resultTypes = #[rb]) (hrb : P.underlying rb = some .bool)
    (hvars : s.vars = []) (hfn : ∀ ds : List (DataW H), ds.length = ts.length → s.fn H ds = { results := [.lit (.bool true)], args := ds })
    (hl : laidOutB P = true) (hread : ∀ t ∈ ts, P.readableRec t = true ∧ t < P.types.size)
    {W : World} {base : Nat} {args : Array Value} {ds gs : List (DataW H)} {before : List MemPlace}
    (hlaw : ∀ x bs, HoldsL P tb (fun _ => .con) W sp.ins x args.toList bs → ∃ y, sp.f x = some y ∧ ∀ g w us cs v, HoldsL P tb g w sp.outs y.outs us cs → RetV sp.outs us v → v = .bool true)
    (hval : ∀ (j : Nat) t v, fn.params[j]? = some t → args[j]? = some v → Value.okWide P W .any base t v)
    (hW : DataW.Whole enc P fn.params.toList s.vars false W args.toList ds gs before)
    (hz : (DataW.weightsEach P (fn.params.toList ++ s.plain.varTypes P) (ds ++ gs)).all (· ≤ reachBytes) = true)
    (hinv : tb.inv (fun _ => .con) W) (hpl : plainB sp.ins sp.outs = true := by rfl) :
    Calls P f args W fun e W' => ∃ v, e = .returned v ∧ s.post enc P fn false true false false W args v W' := by
  obtain ⟨ins, outs, F⟩ := sp
  simp only at hins
  subst hins
  have hW' := hW
  obtain ⟨p, q, hA, hV, rfl, _, _⟩ := hW
  rw [hvars] at hV
  obtain ⟨rfl, rfl⟩ := trodVars_none hV
  rw [hp] at hA
  obtain ⟨hdl, hvl⟩ := trodAll_length (ts := ts) hA
  have hwt : ∀ m ∈ DataW.weightsEach P ts ds, m ≤ 140737488351232 := by
    have e0 : s.plain.varTypes P = [] := by
      have : s.plain.vars = [] := hvars
      simp [DataSpec.varTypes, this]
    rw [hp, e0, List.append_nil, List.append_nil] at hz
    intro m hm
    have := List.all_eq_true.1 hz m hm
    have : m ≤ reachBytes := by simpa using this
    unfold reachBytes at this
    omega
  obtain ⟨x, hx, _⟩ := read_args R (g := fun _ => .con) (fun _ => rfl) ts 0 args.toList ds p hS (fun j t v ht hv => hval j t v (by rw [← hp] at ht; simpa using ht) (by simpa using hv)) hA hwt
  obtain ⟨y, hy, hout⟩ := hlaw x _ hx
  have hc := hsound.2 (fun _ => .con) W x args.toList _ y hy hinv (plain_at hpl hx.length.1) hx (by rw [blocks_none]; exact List.nodup_nil)
  rw [plain_ins hpl hx.length.1] at hc
  have ea : args.toList.toArray = args := by simp
  rw [ea] at hc
  refine hc.mono ?_
  rintro e W1 ⟨v, us, cs, g', rfl, hret, _, hext, hho, _⟩
  rw [(plain_outs hpl hho.length.1).1, (plain_outs hpl hho.length.1).2] at hret
  have hv := hout g' W1 us cs v hho hret
  subst hv
  refine ⟨_, rfl, ds, [], p ++ [], [], p, [], hW', ?_, ?_, ?_, ?_, fun h => by cases h⟩
  · rw [List.append_nil, hfn ds hdl, hr]
    exact trodAll_mk1 (shut_bool hrb true)
  · rw [List.append_nil, hfn ds hdl, hp]
    refine trodAll_stays hl ⟨hext.os, hext.tape, hext.output, hext.size, fun k hk => (hext.con k hk rfl).1⟩ hread hA
  · rw [List.append_nil, hfn ds hdl, hvars]
    rfl
  · exact Below.frame ⟨hext.os, hext.tape, hext.output, hext.size, fun k hk => (hext.con k hk rfl).1⟩ _
theorem first_str {P : Program} {tb : Tab} {g : Gh} {w : World} {t : Nat} {x : tb.T t} {s : List UInt8} (he : tb.enc t x = [.str s]) (ha : isAggB P t = false) {b : ByteArray} (h : HoldsV P tb g w t x (.string b)) : s.length = b.size := by
  unfold HoldsV at h
  rw [ha, he] at h
  simp only [Bool.false_eq_true, if_false] at h
  obtain ⟨c, hc, hr⟩ := h
  simp only [List.cons.injEq, and_true] at hc
  subst hc
  cases hr
  rfl
theorem bytes_size (b : ByteArray) : b.data.toList.length = b.size := Array.length_toList
theorem bulk_head {H : Type} (bs : List UInt8) (r : List (DataW H)) : bs.length ≤ Rows.uptoBulkAll (.lit (.string bs) :: r) := by
  simp only [Rows.uptoBulkAll, Rows.uptoBulk]
  omega
theorem funPieces_reads (os : Os) : ∃ places, DataW.whole enc Tryz.prog ((World.laidAll Tryz.prog os laidL).forCall (fun _ _ => 0) ⟨#[], #[.string ByteArray.empty, .int .u8 0, .int .u8 0], []⟩).memory Tryz.f6.params.toList Rows.funPiecesSpec.vars false
    #[Value.string ByteArray.empty, .int .u8 0, .int .u8 0].toList 8 = some ([.lit (.string []), .lit (.int .u8 0), .lit (.int .u8 0)], [], places) := ⟨[], by kernel_rfl⟩
set_option maxRecDepth 100000 in
theorem law11_FunPieces_lifted (os : Os) (started : os.Started) (H : Type) (enc : TypeId × Value → H) (F : Stop.Interp) :
    ReturnsInHanded {} Tryz.checked os 6 .any ((Rows.OpenSpec.upto Rows.funPiecesSpec).preRow enc Tryz.prog Tryz.f6 Rows.funPiecesUptoRow.domain false Rows.funPiecesUptoRow.laid) (((Rows.OpenSpec.upto Rows.funPiecesSpec).at F).post enc Tryz.prog Tryz.f6 false true false false) := by
  obtain ⟨places, hx⟩ := funPieces_reads (enc := enc) os
  have hok : Input.okWideB Tryz.prog ((World.laidAll Tryz.prog os laidL).forCall (fun _ _ => 0) ⟨#[], #[.string ByteArray.empty, .int .u8 0, .int .u8 0], []⟩) 6 ⟨#[], #[.string ByteArray.empty, .int .u8 0, .int .u8 0], []⟩ = true := by kernel_rfl
  refine returnsInHanded_of_row (C := Tryz.checked) (s := Rows.OpenSpec.upto Rows.funPiecesSpec) own started (by kernel_rfl) Tryz.func6
    ⟨World.laidAll Tryz.prog os laidL, fun _ _ => 0, ⟨#[], #[.string ByteArray.empty, .int .u8 0, .int .u8 0], []⟩, World.laidAll_os _ _ _, World.shaped_of_ZipB (by kernel_rfl) (by kernel_rfl),
      (Input.okWide_of_okWideB (base := 0) hok).1, (Input.okWide_of_okWideB hok).2,
      OpenSpec.preRow_of_cond 8 hx (by kernel_rfl) (fun k hk => by cases hk; kernel_rfl) (by kernel_rfl) (by
        show laidMetH Tryz.prog laidL _
        rw [MakeChecks.laidMetH_plain _ _ _ (by kernel_rfl)]; exact laidMet_laidAll _ (by kernel_rfl) (by kernel_rfl)), by
      simp only [Assume.holds]
      exact ⟨by simp, by simp, fun _ => Modest.zero, by simp, by simp⟩⟩ ?_
  intro W base args ds gs before hval hW _ hcond hz hL _ _
  have hb : ∃ b vs0, args.toList = .string b :: vs0 ∧ b.size ≤ 1048576 := by
    have hk := of_decide_eq_true (hcond _ rfl)
    have hA := hW
    obtain ⟨p, q, hA0, hV, rfl, _, _⟩ := hA
    have hA : DataW.TrodAll enc Tryz.prog W 0 (fun _ => true) true Tryz.f6.params.toList args.toList ds p := hA0
    have hval' := hval
    rw [Tryz.params6] at hA hval'
    obtain ⟨v1, vs0, d0, ds0, p0, q0, hargs, rfl, rfl, h0, r0⟩ := trodAll_cons hA
    have hv1 : args[0]? = some v1 := by
      have : args.toList[0]? = some v1 := by rw [hargs]; rfl
      simpa using this
    obtain ⟨b, rfl, rfl, _, _⟩ := Go.ChangeMaps.open_string Tryz.underlying9 (hval' 0 9 v1 rfl hv1) h0
    refine ⟨b, vs0, hargs, ?_⟩
    rw [← bytes_size b]
    exact Nat.le_trans (bulk_head _ _) hk
  obtain ⟨b, vs0, hargs, hbs⟩ := hb
  exact law_calls_if (P := Tryz.prog) (tb := tb) rd (ts := [9, 5, 5]) (rb := 4) (s := Rows.funPiecesSpec) law11_FunPieces_sound (by rw [Tryz.params6]) rfl (fun t ht => by revert t; decide) rfl Tryz.underlying4 rfl (fun ds h => by
    match ds, h with
    | [d0, d1, d2], _ => rfl) laidOut (fun t ht => readable t (by revert t; decide)) (fun x bs hh => by
      obtain ⟨s, p, n⟩ := x
      rw [hargs] at hh
      have hs : s.length ≤ 2000000 := by
        cases bs with
        | nil => exact hh.elim
        | cons b0 bs =>
          have := first_str (t := 9) (enc9_eq s) (by kernel_rfl) hh.1.1
          omega
      exact ⟨true, FunPieces_true hs, fun g w us cs v h hr => true_out g w us cs v h hr notAgg4⟩) hval hW hz (inv_of hL)
theorem law11_FunPieces_j9 : (Rows.funPiecesUptoRow.inPlace == Tryz.prog.inPlace 6) = true := by kernel_rfl
theorem law11_FunPieces_j10 : (Rows.funPiecesUptoRow.unfollowed == Tryz.prog.unfollowed 6) = true := by kernel_rfl
theorem law11_FunPieces_j11 : (Rows.funPiecesUptoRow.recurses == Tryz.prog.recurses 6) = true := by kernel_rfl
theorem law11_FunPieces_j12 : (Rows.funPiecesUptoRow.named == Tryz.prog.varsNamed 6) = true := by kernel_rfl
theorem law11_FunPieces_closed : joinedFacts Tryz.pinned.checked.prog 6 Tryz.f6 (Rows.OpenSpec.upto Rows.funPiecesSpec).bare Rows.funPiecesUptoRow = true :=
  and2 (and2 (and2 (and2 (and2 (and2 (and2 (and2 (and2 (and2 (and2 (and2 (and2 (and2 (and2 (and2 (and2 (and2 (and2 (and2 (and2 (and2 (and2 (and2 (and2 (and2 (and2 (and2 (and2 (and2 (and2 (by kernel_rfl) laidOut) maps_rowed) (by kernel_rfl)) (by kernel_rfl)) (by kernel_rfl)) (by kernel_rfl)) (by kernel_rfl)) (by kernel_rfl)) law11_FunPieces_j9) law11_FunPieces_j10) law11_FunPieces_j11) law11_FunPieces_j12) (by kernel_rfl)) (by kernel_rfl)) (by kernel_rfl)) (by kernel_rfl)) (by kernel_rfl)) (by kernel_rfl)) (by kernel_rfl)) (by kernel_rfl)) (by kernel_rfl)) plain_keys) (by kernel_rfl)) stops_heard) may_enter) lifts_is) make_is) (by kernel_rfl)) (by kernel_rfl)) (by kernel_rfl)) (by kernel_rfl)
theorem law11_FunPieces_holds : Rows.FunPiecesUptoSaid :=
  OpenClaim.holds_of_cond 6 Tryz.f6 rfl rfl rfl rfl rfl rfl rfl ⟨rfl, rfl, rfl, rfl, rfl⟩ rfl rfl rfl rfl rfl (by kernel_rfl) Tryz.func6 law11_FunPieces_closed
    (of_decide_eq_true (by kernel_rfl)) (by unfold Func.isWrapper; first | (rw [if_pos (by decide +kernel)]; kernel_rfl) | (rw [if_neg (by decide +kernel)]; exact ⟨rfl, rfl⟩))
    (fun os started H enc _ F => by rw [OpenClaim.pre_eq_preRow]; exact law11_FunPieces_lifted os started H enc F)
theorem law11_FunPieces_goes : false = Rows.funPiecesUptoRow.goesBy Tryz.pinned.checked.prog := by kernel_rfl
theorem law11_FunPieces_card : Rows.FunPiecesUptoCardSaid :=
  Claim7.holds_tied_plain_at .later [] [.data, .data, .data, .data, .pinned] true (true, "77b88d5647d88579fe249790164f29ba538a169e38f55a49c9c0a729a43cbb40") false
    law11_FunPieces_holds (fun _ h => by cases h) (by kernel_rfl) (fun _ h => by cases h) funPiecesUpto_row_tie rfl ⟨rfl, rfl⟩ main_is rfl
    (fun f fn hf hfn => by
      obtain rfl : f = 6 := Option.some.inj ((show Tryz.prog.funcNamed "cashbook/cashbooklaw11.FunPieces" = some 6 by kernel_rfl).symm.trans hf) |>.symm
      obtain rfl : fn = Tryz.f6 := (Option.some.inj (Tryz.func6.symm.trans hfn)).symm
      exact ⟨looks_is, fun j t ht => by
        rw [Tryz.params6] at ht
        have hm : t ∈ [9, 5, 5] := by simpa using Array.mem_of_getElem? ht
        have hall : ([9, 5, 5].all fun u => !Tryz.prog.wantsStandIn u) = true := by kernel_rfl
        exact (show Tryz.prog.wantsStandIn t = false by simpa using List.all_eq_true.1 hall t hm)⟩)
    law11_FunPieces_goes
end Go.Proofs.YtdgpkbnnljblmaaGreatDoor
