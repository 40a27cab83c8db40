/- The law ChainBytes: for every input it tells true. -/
import Derived.Test.YtankcgcnkoialaaPE
import Derived.Test.YtankcgcnkoialaaRW
namespace Go.Proofs.Ytankcgcnkoialaa
open Go Go.Ev Go.ChangeShapes Go.WideShapes Go.RowKit
theorem law17_ChainBytes_true : TellsTrue Try.prog tb law17_ChainBytesS := fun x hx => by
  obtain ⟨p, r⟩ := x
  exact ⟨true, ChainBytes_true p r, fun g w us cs v h hr => true_out g w us cs v h hr notAgg4⟩
set_option maxRecDepth 100000 in
theorem law17_ChainBytes_lifted (os : Os) (started : os.Started) (H : Type) (enc : TypeId × Value → H) :
    ReturnsInHanded {} Try.checked os 5 .any (Rows.chainBytesSpec.pre6 enc Try.prog Try.f5 [] false)
      (Rows.chainBytesSpec.post enc Try.prog Try.f5 false true false false) := by
  refine returnsInHanded_of_change_sized (C := Try.checked) own started (by kernel_rfl) Try.func5 (witness6 #[.slice none 0 0, .agg #[.int .i64 0, .slice none 0 0, .slice none 0 0, .int .i64 0]] (by kernel_rfl) (by kernel_rfl) (by kernel_rfl) (World.shaped_of_ZipB (by kernel_rfl) (by kernel_rfl))) ?_
  intro W base args ds gs before hval hW _ hz _
  exact law_calls (P := Try.prog) (tb := tb) rd (ts := [37, 61]) (rb := 4) law17_ChainBytes_sound law17_ChainBytes_true (by rw [Try.params5]) rfl (fun t ht => by revert t; decide) rfl Try.underlying4 rfl (fun ds h => by
    match ds, h with
    | [d0, d1], _ => rfl) laidOut (fun t ht => readable t (by revert t; decide)) hval hW hz trivial
theorem law17_ChainBytes_holds : Rows.ChainBytesSaid :=
  OpenClaim.holds_of_wide 5 Try.f5 rfl rfl rfl rfl rfl rfl rfl ⟨rfl, rfl, rfl, rfl, rfl⟩ rfl rfl rfl rfl rfl (by kernel_rfl) Try.func5 (by kernel_rfl)
    (of_decide_eq_true (by kernel_rfl)) (by unfold Func.isWrapper; first | (rw [if_pos (by decide +kernel)]; kernel_rfl) | (rw [if_neg (by decide +kernel)]; exact ⟨rfl, rfl⟩))
    (fun os started H enc _ => law17_ChainBytes_lifted os started H enc)
end Go.Proofs.Ytankcgcnkoialaa
