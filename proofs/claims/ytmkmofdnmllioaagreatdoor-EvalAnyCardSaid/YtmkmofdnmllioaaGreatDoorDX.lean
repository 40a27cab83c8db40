import Derived.Test.YtmkmofdnmllioaaGreatDoorRX
import Derived.Test.YtmkmofdnmllioaaGreatDoorCards
/- DX -/
namespace Go.Proofs.YtmkmofdnmllioaaGreatDoor
open Go Go.Ev Go.ChangeShapes Go.WideShapes Go.RowKit
open Go.IntKind (i64 u64 u8 i32 u32 i16 u16)
theorem xzm:Gzk Tryz.prog tb tzI:=fun x hx=>by
 obtain⟨e,v,p⟩:=x;exact⟨true,Izf (W:=wfE) hx.1 wfE_step (wf_slots hx.2.1) (wf_names hx.2.1),fun g w us cs v h hr=>true_out g w us cs v h hr notAgg4⟩
set_option maxRecDepth 100000 in
theorem uzK (os:Os)(started:os.Started)(H:Type)(enc:TypeId×Value->H):
 ReturnsInHanded {} Tryz.checked os 3 .any (fun w args=>(Rows.evalAnySpec.pre enc Tryz.prog Tryz.f3 [] false w args/\laidMetH Tryz.prog laidL w)/\sizedMet enc Tryz.prog Tryz.f3 (OpenSpec.ofChange Rows.evalAnySpec) false w args)
  (Rows.evalAnySpec.post enc Tryz.prog Tryz.f3 false true false false):=by
 refine returnsInHanded_of_change_and (C:=Tryz.checked) (X:=fun w _=>laidMetH Tryz.prog laidL w) (fun _ _ _ hh h=>h.of_heap hh) own started (by kernel_rfl) Tryz.func3
  (ChangeSpec.witness_shaped (enc:=enc) (C:=Tryz.checked) (os:=os) (X:=fun w _=>laidMetH Tryz.prog laidL w) false (World.laidAll Tryz.prog os laidL) #[.agg #[.int .i64 0,.int .i64 0,.int .i64 0,.int .i64 0,.string ByteArray.empty,.bool false,.int .i64 0,.int .i64 0,.int .i64 0,.bool false,.bool false,.int .i64 0,.int .i64 0,.bool false,.bool false,.int .i64 0,.int .i64 0,.slice none 0 0],.agg #[.int .i64 0,.slice none 0 0,.slice none 0 0],.agg #[.int .i64 0,.int .i64 0,.int .i64 0]] 8 (World.laidAll_os _ _ _) (World.shaped_of_ZipB (by kernel_rfl) (by kernel_rfl)) (by kernel_rfl) (by kernel_rfl) (by kernel_rfl) (by rw[MakeChecks.laidMetH_plain _ _ _ (by kernel_rfl)];exact laidMet_laidAll _ (by kernel_rfl) (by kernel_rfl))) ?_
 intro W base args ds gs before hval hW _ hz hL _;exact law_calls (P:=Tryz.prog) (tb:=tb) rd2 (ts:=[32,35,39]) (rb:=4) wzc xzm (by rw[Tryz.params3]) rfl (fun t ht=>by revert t;decide) rfl Tryz.underlying4 rfl (fun ds h=>by
  match ds,h with
  | [d0,d1,d2],_=>rfl) laidOut (fun t ht=>readable2 t (by revert t;decide)) hval hW hz (inv_of hL)
theorem Bzu:(Rows.evalAnyRow.inPlace == Tryz.prog.inPlace 3)=true:=by kernel_rfl
theorem yz9:(Rows.evalAnyRow.unfollowed == Tryz.prog.unfollowed 3)=true:=by kernel_rfl
theorem zza:(Rows.evalAnyRow.recurses == Tryz.prog.recurses 3)=true:=by kernel_rfl
theorem zzb:(Rows.evalAnyRow.named == Tryz.prog.varsNamed 3)=true:=by kernel_rfl
theorem uzJ:joinedFacts Tryz.pinned.checked.prog 3 Tryz.f3 Rows.evalAnySpec Rows.evalAnyRow=true :=
 and2 (and2 (and2 (and2 (and2 (and2 (and2 (and2 (and2 (and2 (and2 (and2 (and2 (and2 (and2 (and2 (and2 (and2 (and2 (and2 (and2 (and2 (and2 (and2 (and2 (and2 (and2 (and2 (and2 (and2 (and2 (by kernel_rfl) laidOut) Mzg) (by kernel_rfl)) (by kernel_rfl)) (by kernel_rfl)) (by kernel_rfl)) (by kernel_rfl)) (by kernel_rfl)) Bzu) yz9) zza) zzb) (by kernel_rfl)) (by kernel_rfl)) (by kernel_rfl)) (by kernel_rfl)) (by kernel_rfl)) (by kernel_rfl)) (by kernel_rfl)) (by kernel_rfl)) (by kernel_rfl)) Mzp) (by kernel_rfl)) Lzo) may_enter) lifts_is) make_is) (by kernel_rfl)) (by kernel_rfl)) (by kernel_rfl)) (by kernel_rfl)
theorem law15_EvalAny_holds:Rows.EvalAnySaid :=
 OpenClaim.holds_of_wide 3 Tryz.f3 rfl rfl rfl rfl rfl rfl rfl ⟨rfl,rfl,rfl,rfl,rfl⟩ rfl rfl rfl rfl rfl (by kernel_rfl) Tryz.func3 uzJ
  (of_decide_eq_true (by kernel_rfl)) (by unfold Func.isWrapper;first|(rw[if_pos (by decide +kernel)];kernel_rfl)|(rw[if_neg (by decide +kernel)];exact⟨rfl,rfl⟩))
  (fun os started H enc _=>uzK os started H enc)
theorem xzl:false=Rows.evalAnyRow.goesBy Tryz.pinned.checked.prog:=by kernel_rfl
theorem law15_EvalAny_card:Rows.EvalAnyCardSaid :=
 Claim7.holds_tied_plain_at .later [] [.data,.data,.data,.data,.pinned] true (true, "5d976fbb15dcba9327042b5fd6d1b39e2380c1b948ea8b70d1fdb3db1e596927") false
  law15_EvalAny_holds (fun _ h=>by cases h) (by kernel_rfl) (fun _ h=>by cases h) evalAny_row_tie rfl ⟨rfl,rfl⟩ main_is rfl
  (fun f fn hf hfn=>by
   obtain rfl:f=3:=Option.some.inj ((show Tryz.prog.funcNamed "cashbook/cashbooklaw15.EvalAny" = some 3 by kernel_rfl).symm.trans hf) |>.symm;obtain rfl:fn=Tryz.f3:=(Option.some.inj (Tryz.func3.symm.trans hfn)).symm;exact⟨looks_is,fun j t ht=>by
    rw[Tryz.params3]at ht;have hm:t∈[32,35,39]:=by simpa using Array.mem_of_getElem? ht
    have hall:([32,35,39].all fun u=>!Tryz.prog.wantsStandIn u)=true:=by kernel_rfl
    exact(show Tryz.prog.wantsStandIn t=false by simpa using List.all_eq_true.1 hall t hm)⟩)
  xzl
end Go.Proofs.YtmkmofdnmllioaaGreatDoor