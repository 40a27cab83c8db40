/- The law ChainSizes: for every input it tells true. -/
import Derived.Test.YtankcgcnkoialaaPF
import Derived.Test.YtankcgcnkoialaaRW
namespace Go.Proofs.Ytankcgcnkoialaa
open Go Go.Ev Go.ChangeShapes Go.WideShapes Go.RowKit
theorem law17_ChainSizes_true : TellsTrue Try.prog tb law17_ChainSizesS := fun x hx => by
  exact ⟨true, ChainSizes_true (wf_u16 (n := x) hx).1 (wf_u16 (n := x) hx).2, fun g w us cs v h hr => true_out g w us cs v h hr notAgg4⟩
set_option maxRecDepth 100000 in
theorem law17_ChainSizes_lifted (os : Os) (started : os.Started) (H : Type) (enc : TypeId × Value → H) :
    ReturnsInHanded {} Try.checked os 6 .any (Rows.chainSizesSpec.pre6 enc Try.prog Try.f6 [] false)
      (Rows.chainSizesSpec.post enc Try.prog Try.f6 false true false false) := by
  refine returnsInHanded_of_change_sized (C := Try.checked) own started (by kernel_rfl) Try.func6 (witness6 #[.int .u16 0] (by kernel_rfl) (by kernel_rfl) (by kernel_rfl) (World.shaped_of_ZipB (by kernel_rfl) (by kernel_rfl))) ?_
  intro W base args ds gs before hval hW _ hz _
  exact law_calls (P := Try.prog) (tb := tb) rd (ts := [79]) (rb := 4) law17_ChainSizes_sound law17_ChainSizes_true (by rw [Try.params6]) rfl (fun t ht => by revert t; decide) rfl Try.underlying4 rfl (fun ds h => by
    match ds, h with
    | [d0], _ => rfl) laidOut (fun t ht => readable t (by revert t; decide)) hval hW hz trivial
theorem law17_ChainSizes_holds : Rows.ChainSizesSaid :=
  OpenClaim.holds_of_wide 6 Try.f6 rfl rfl rfl rfl rfl rfl rfl ⟨rfl, rfl, rfl, rfl, rfl⟩ rfl rfl rfl rfl rfl (by kernel_rfl) Try.func6 (by kernel_rfl)
    (of_decide_eq_true (by kernel_rfl)) (by unfold Func.isWrapper; first | (rw [if_pos (by decide +kernel)]; kernel_rfl) | (rw [if_neg (by decide +kernel)]; exact ⟨rfl, rfl⟩))
    (fun os started H enc _ => law17_ChainSizes_lifted os started H enc)
end Go.Proofs.Ytankcgcnkoialaa
