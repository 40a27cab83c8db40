/- The law ChainSizes: what it computes, and that it does. (by gen.py) -/
import Derived.Test.YtankcgcnkoialaaF2
namespace Go.Proofs.Ytankcgcnkoialaa
open Go Go.Ev
set_option linter.unusedVariables false


noncomputable section

/-! ### law17_ChainSizes -/
abbrev law17_ChainSizesG : List (Nat × FSpec tb) := [(20, law17_knownS), (14, law14_PS), (21, chain_EncodeS), (30, rec_CheckS), (26, chain_DecodeS), (1099511627793, mutS)]
theorem law17_ChainSizesG_ok : AllSound Try.prog tb (law17_ChainSizesG) := (.cons law17_known_sound (.cons law14_P_sound (.cons chain_Encode_sound (.cons rec_Check_sound (.cons chain_Decode_sound (.consK mut_sound .nil))))))
def law17_ChainSizes_l1F (back : Int × List (Place) × Int → Option (List (Place))) (x : Int × List (Place) × Int) : Option (List (Place)) :=
  brn (decide (x.2.snd < x.fst))
    (obnd (law14_PF (x.2.snd.tmod 8, x.2.snd, x.2.snd.tmod 256)) fun y =>
      obnd (inb x.2.fst.length x.2.snd) fun k => obnd (nth x.2.fst k) fun y_1 => back (x.fst, x.2.fst.set k y, IntKind.i64.wrap (x.2.snd + 1)))
    (some x.2.1)
def law17_ChainSizes_l1J : Int × List (Place) × Int → Option (List (Place)) := iter law17_ChainSizes_l1F big
def law17_ChainSizes_l1C : CutSpec tb := ⟨60, [(3, .val 3), (4, .wr 42), (5, .val 3)], [((.exit 0), [(4, .own 42)])], [18, 19, 20, 23, 24, 25, 26, 27, 28, 29, 30, 31, 21, 22, 5], law17_ChainSizes_l1J⟩
theorem law17_ChainSizes_l1_eq : ∀ back x, evLoop Try.prog tb law17_ChainSizesG [] (loopAt 60 Try.f6) (law17_ChainSizes_l1C).ins (law17_ChainSizes_l1C).outs back x = law17_ChainSizes_l1F back x := fun back x => by kernel_rfl
theorem law17_ChainSizes_l1_k : cutB Try.f6.ntmps (law17_ChainSizes_l1C) (loopAt 60 Try.f6) = true := by kernel_rfl
theorem law17_ChainSizes_l1_in : cutsOf ([] : List (CutSpec tb)) (loopAt 60 Try.f6) = [] := by kernel_rfl
theorem law17_ChainSizes_l1_cut : CutSound Try.prog tb Try.f6.ntmps (.loop (loopAt 60 Try.f6)) (law17_ChainSizes_l1C) := loop_it mixed law17_ChainSizes_l1_k law17_ChainSizesG_ok rfl law17_ChainSizes_l1_in .nil law17_ChainSizes_l1F law17_ChainSizes_l1_eq rfl
def law17_ChainSizes_b2J (x : Int × Rec × Int) : Option (Bool) :=
  brn (!decide (x.2.snd = 0)) (some true)
    (brn (!decide ((↑x.2.fst.Data.length : Int) = IntKind.i64.wrap (2 + IntKind.i64.wrap (4 * x.fst)))) (some true)
      (brn (!decide ((↑x.2.fst.Cuts.length : Int) = IntKind.i64.wrap ((IntKind.i64.wrap (1 + IntKind.i64.wrap (4 * x.fst))).tdiv 224))) (some true)
        (obnd (rec_CheckF x.2.fst) fun y => some (bif decide (y = 0) then false else true))))
def law17_ChainSizes_b2C : CutSpec tb := ⟨104, [(3, .val 3), (6, .ro 62), (7, .val 63)], [(.normal, [(72, .val 4)])], [47, 48, 49, 50, 51, 52, 53, 54, 55, 56, 57, 58, 59, 60, 61, 62, 63, 64, 65, 66, 67, 68, 69, 70, 71, 72], (law17_ChainSizes_b2J)⟩
theorem law17_ChainSizes_b2_eq : ∀ x, evBlk Try.prog tb law17_ChainSizesG [] (codeAt 104 Try.f6) (law17_ChainSizes_b2C).ins (law17_ChainSizes_b2C).outs x = (law17_ChainSizes_b2C).J x := fun x => by kernel_rfl
theorem law17_ChainSizes_b2_k : cutB Try.f6.ntmps (law17_ChainSizes_b2C) (codeAt 104 Try.f6) = true := by kernel_rfl
theorem law17_ChainSizes_b2_in : cutsOf ([] : List (CutSpec tb)) (codeAt 104 Try.f6) = [] := by kernel_rfl
theorem law17_ChainSizes_b2_cut : CutSound Try.prog tb Try.f6.ntmps (codeAt 104 Try.f6) (law17_ChainSizes_b2C) := blk_ev mixed law17_ChainSizes_b2_k law17_ChainSizesG_ok rfl law17_ChainSizes_b2_in .nil law17_ChainSizes_b2_eq
def law17_ChainSizesF (x : Int) : Option (Bool) :=
  obnd (law17_knownF ()) fun y =>
    brn (!y) (some false)
      (obnd (mkList 24 { Sheet := 0, At := { Row := 0, Col := 0 } } (IntKind.i64.wrap (x.tmod 4200)) (IntKind.i64.wrap (x.tmod 4200))) fun xs =>
        obnd (law17_ChainSizes_l1J (IntKind.i64.wrap (x.tmod 4200), xs, 0)) fun y =>
          obnd (chain_EncodeF y) fun y_1 =>
            brn (decide (4096 < IntKind.i64.wrap (x.tmod 4200))) (brn (decide (y_1.snd = 4)) (some (decide ((↑y_1.fst.Data.length : Int) = 0))) (some false))
              (obnd (law17_ChainSizes_b2J (IntKind.i64.wrap (x.tmod 4200), y_1)) fun y_2 =>
                brn y_2 (some false)
                  (obnd (chain_DecodeF y_1.fst) fun y_3 =>
                    brn (decide (y_3.2.snd = 0))
                      (brn (decide ((↑(List.length y_3.fst) : Int) = IntKind.i64.wrap (x.tmod 4200)))
                        (brn (decide (IntKind.i64.wrap (x.tmod 4200) = 0)) (some true)
                          (obnd (idx y_3.fst (IntKind.i64.wrap (IntKind.i64.wrap (x.tmod 4200) - 1))) fun y_4 =>
                            obnd (idx y (IntKind.i64.wrap (IntKind.i64.wrap (x.tmod 4200) - 1))) fun y_5 =>
                              brn
                                (bif false then !(decide (y_4.Sheet = y_5.Sheet) && (decide (y_4.At.Row = y_5.At.Row) && decide (y_4.At.Col = y_5.At.Col)))
                                else decide (y_4.Sheet = y_5.Sheet) && (decide (y_4.At.Row = y_5.At.Row) && decide (y_4.At.Col = y_5.At.Col)))
                                (obnd (idx y_3.fst 0) fun y_6 =>
                                  obnd (idx y 0) fun y =>
                                    some
                                      (match decide (y_6.Sheet = y.Sheet) with
                                      | false => false
                                      | true => decide (y_6.At.Row = y.At.Row) && decide (y_6.At.Col = y.At.Col)))
                                (some false)))
                        (some false))
                      (some false))))
def law17_ChainSizesS : FSpec tb := ⟨[(0, .val 79)], [(0, .val 4)], law17_ChainSizesF⟩
theorem law17_ChainSizes_eq : ∀ x, evFn Try.prog tb law17_ChainSizesG [law17_ChainSizes_l1C, law17_ChainSizes_b2C] Try.f6 law17_ChainSizesS.ins law17_ChainSizesS.outs x = law17_ChainSizesS.f x := fun x => by kernel_rfl
theorem law17_ChainSizes_k : fnK Try.f6 law17_ChainSizesS.ins law17_ChainSizesS.outs = true := by kernel_rfl
theorem law17_ChainSizes_in : cutsOf ([law17_ChainSizes_l1C, law17_ChainSizes_b2C] : List (CutSpec tb)) (bodyOf Try.f6) = [(60, .loop (loopAt 60 Try.f6)), (104, codeAt 104 Try.f6)] := by kernel_rfl
theorem law17_ChainSizes_sound : FnSound Try.prog tb 6 law17_ChainSizesS := fn_cut mixed Try.func6 law17_ChainSizes_k law17_ChainSizesG_ok rfl law17_ChainSizes_in (.cons rfl law17_ChainSizes_l1_cut rfl (.cons rfl law17_ChainSizes_b2_cut rfl .nil)) law17_ChainSizes_eq
end
end Go.Proofs.Ytankcgcnkoialaa
