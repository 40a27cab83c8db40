/- The law ChainBytes: what it computes, and that it does. (by gen.py) -/
import Derived.Test.YtankcgcnkoialaaF2
namespace Go.Proofs.Ytankcgcnkoialaa
open Go Go.Ev
set_option linter.unusedVariables false


noncomputable section

/-! ### law17_ChainBytes -/
abbrev law17_ChainBytesG : List (Nat × FSpec tb) := [(20, law17_knownS), (21, chain_EncodeS), (23, law14_OfPlacesS), (22, ref18_EncodeChainS), (25, law1_OfS), (24, ref7_SameRecS), (26, chain_DecodeS), (27, law14_SamePlacesS), (28, law1_ToS), (29, ref18_DecodeChainS)]
theorem law17_ChainBytesG_ok : AllSound Try.prog tb (law17_ChainBytesG) := (.cons law17_known_sound (.cons chain_Encode_sound (.cons law14_OfPlaces_sound (.cons ref18_EncodeChain_sound (.cons law1_Of_sound (.cons ref7_SameRec_sound (.cons chain_Decode_sound (.cons law14_SamePlaces_sound (.cons law1_To_sound (.cons ref18_DecodeChain_sound .nil))))))))))
def law17_ChainBytes_b1J (x : List Place × Rec) : Option (Bool) :=
  brn (decide (200 < (↑x.fst.length : Int))) (some true) (brn (decide (3000 < (↑x.snd.Data.length : Int))) (some true) (some (decide (60 < (↑x.snd.Cuts.length : Int)))))
def law17_ChainBytes_b1C : CutSpec tb := ⟨32, [(0, .val 37), (3, .ro 61)], [(.normal, [(34, .val 4)])], [20, 21, 22, 23, 24, 25, 26, 27, 28, 29, 30, 31, 32, 33, 34], (law17_ChainBytes_b1J)⟩
theorem law17_ChainBytes_b1_eq : ∀ x, evBlk Try.prog tb law17_ChainBytesG [] (codeAt 32 Try.f5) (law17_ChainBytes_b1C).ins (law17_ChainBytes_b1C).outs x = (law17_ChainBytes_b1C).J x := fun x => by kernel_rfl
theorem law17_ChainBytes_b1_k : cutB Try.f5.ntmps (law17_ChainBytes_b1C) (codeAt 32 Try.f5) = true := by kernel_rfl
theorem law17_ChainBytes_b1_in : cutsOf ([] : List (CutSpec tb)) (codeAt 32 Try.f5) = [] := by kernel_rfl
theorem law17_ChainBytes_b1_cut : CutSound Try.prog tb Try.f5.ntmps (codeAt 32 Try.f5) (law17_ChainBytes_b1C) := blk_ev mixed law17_ChainBytes_b1_k law17_ChainBytesG_ok rfl law17_ChainBytes_b1_in .nil law17_ChainBytes_b1_eq
def law17_ChainBytes_b2J (x : List Place × Rec × Bool) : Option ((Unit) ⊕ (Bool)) :=
  brn x.2.snd
    (obnd (chain_DecodeF x.2.fst) fun y =>
      brn (!decide (y.2.snd = 0)) (some (Sum.inr false))
        (brn (!decide (y.2.fst = 0)) (some (Sum.inr false))
          (obnd (law14_OfPlacesF x.fst) fun y_1 => obnd (law14_SamePlacesF (y.fst, y_1)) fun y => brn (!y) (some (Sum.inr false)) (some (Sum.inl PUnit.unit)))))
    (some (Sum.inl PUnit.unit))
def law17_ChainBytes_b2C : CutSpec tb := ⟨90, [(0, .val 37), (5, .ro 62), (57, .val 4)], [(.normal, []), (.ret, [(4, .val 4)])], [59, 60, 58, 61, 62, 63, 9, 10, 11, 64, 65, 66, 67, 68, 69, 70, 71, 72, 73, 74, 75, 76, 4], (law17_ChainBytes_b2J)⟩
theorem law17_ChainBytes_b2_eq : ∀ x, evBlk Try.prog tb law17_ChainBytesG [] (codeAt 90 Try.f5) (law17_ChainBytes_b2C).ins (law17_ChainBytes_b2C).outs x = (law17_ChainBytes_b2C).J x := fun x => by kernel_rfl
theorem law17_ChainBytes_b2_k : cutB Try.f5.ntmps (law17_ChainBytes_b2C) (codeAt 90 Try.f5) = true := by kernel_rfl
theorem law17_ChainBytes_b2_in : cutsOf ([] : List (CutSpec tb)) (codeAt 90 Try.f5) = [] := by kernel_rfl
theorem law17_ChainBytes_b2_cut : CutSound Try.prog tb Try.f5.ntmps (codeAt 90 Try.f5) (law17_ChainBytes_b2C) := blk_ev mixed law17_ChainBytes_b2_k law17_ChainBytesG_ok rfl law17_ChainBytes_b2_in .nil law17_ChainBytes_b2_eq
def law17_ChainBytesF (x : List Place × Rec) : Option (Bool) :=
  obnd (law17_knownF ()) fun y =>
    brn (!y) (some false)
      (obnd (law17_ChainBytes_b1J x) fun y =>
        brn y (some true)
          (obnd (chain_EncodeF x.fst) fun y =>
            obnd (law14_OfPlacesF x.fst) fun y_1 =>
              obnd (ref18_EncodeChainF y_1) fun y_2 =>
                brn (!decide (y.snd = y_2.snd)) (some false)
                  (obnd (law1_OfF y.fst) fun y_3 =>
                    obnd (ref7_SameRecF (y_3, y_2.fst)) fun y_4 =>
                      brn (!y_4) (some false)
                        (obnd (law17_ChainBytes_b2J (x.fst, y.fst, decide (y_2.snd = 0))) fun y =>
                          osum y
                            (fun y =>
                              obnd (law1_ToF x.snd) fun y =>
                                obnd (chain_DecodeF y) fun y =>
                                  obnd (ref18_DecodeChainF x.snd) fun y_5 =>
                                    brn (decide (y.2.snd = y_5.2.snd)) (brn (decide (y.2.fst = y_5.2.fst)) (obnd (law14_SamePlacesF (y.fst, y_5.fst)) fun y => some y) (some false))
                                      (some false))
                            fun y => some y))))
def law17_ChainBytesS : FSpec tb := ⟨[(0, .val 37), (1, .val 61)], [(0, .val 4)], law17_ChainBytesF⟩
theorem law17_ChainBytes_eq : ∀ x, evFn Try.prog tb law17_ChainBytesG [law17_ChainBytes_b1C, law17_ChainBytes_b2C] Try.f5 law17_ChainBytesS.ins law17_ChainBytesS.outs x = law17_ChainBytesS.f x := fun x => by kernel_rfl
theorem law17_ChainBytes_k : fnK Try.f5 law17_ChainBytesS.ins law17_ChainBytesS.outs = true := by kernel_rfl
theorem law17_ChainBytes_in : cutsOf ([law17_ChainBytes_b1C, law17_ChainBytes_b2C] : List (CutSpec tb)) (bodyOf Try.f5) = [(32, codeAt 32 Try.f5), (90, codeAt 90 Try.f5)] := by kernel_rfl
theorem law17_ChainBytes_sound : FnSound Try.prog tb 5 law17_ChainBytesS := fn_cut mixed Try.func5 law17_ChainBytes_k law17_ChainBytesG_ok rfl law17_ChainBytes_in (.cons rfl law17_ChainBytes_b1_cut rfl (.cons rfl law17_ChainBytes_b2_cut rfl .nil)) law17_ChainBytes_eq
end
end Go.Proofs.Ytankcgcnkoialaa
