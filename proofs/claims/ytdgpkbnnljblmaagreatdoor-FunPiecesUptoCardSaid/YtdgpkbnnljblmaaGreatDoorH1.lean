/- H1 -/
import Derived.Test.YtdgpkbnnljblmaaGreatDoorG1
namespace Go.Proofs.YtdgpkbnnljblmaaGreatDoor
open Go Go.Ev
set_option linter.unusedVariables false
abbrev law11_twoG : List (Nat × FSpec tb) := [(26, law9_NS), (25, fun_OneS)]
theorem law11_twoG_ok : AllSound Tryz.prog tb law11_twoG := (.cons law9_N_sound (.cons fun_One_sound .nil))
def law11_two_l1F (back : List Int × List (Arg) × Int → Option (List (Arg))) (x : List Int × List (Arg) × Int) : Option (List (Arg)) :=
  brn (decide (x.2.snd < (↑x.fst.length : Int)))
    (obnd (idx x.fst x.2.snd) fun y => obnd (law9_NF y) fun y => obnd (fun_OneF y) fun y => obnd (app 32 x.2.fst [y]) fun zs => back (x.fst, zs, IntKind.i64.wrap (x.2.snd + 1)))
    (some x.2.1)
def law11_two_l1J : List Int × List (Arg) × Int → Option (List (Arg)) := iter law11_two_l1F big
def law11_two_l1C : CutSpec tb := ⟨36, [(0, .val 73), (3, .own 48), (4, .val 3)], [((.exit 0), [(3, .own 48)])], [5, 6, 7, 8, 11, 12, 13, 14, 15, 16, 17, 18, 19, 3, 9, 10, 4], law11_two_l1J⟩
theorem law11_two_l1_eq : ∀ back x, evLoop Tryz.prog tb law11_twoG [] (loopAt 36 Tryz.f56) law11_two_l1C.ins law11_two_l1C.outs back x = law11_two_l1F back x := fun back x => by kernel_rfl
theorem law11_two_l1_k : cutB Tryz.f56.ntmps law11_two_l1C (loopAt 36 Tryz.f56) = true := by kernel_rfl
theorem law11_two_l1_in : cutsOf ([] : List (CutSpec tb)) (loopAt 36 Tryz.f56) = [] := by kernel_rfl
theorem law11_two_l1_cut : CutSound Tryz.prog tb Tryz.f56.ntmps (.loop (loopAt 36 Tryz.f56)) law11_two_l1C := loop_it mixed law11_two_l1_k law11_twoG_ok rfl law11_two_l1_in .nil law11_two_l1F law11_two_l1_eq rfl
def law11_twoF (x : List Int) : Option (List (Arg)) :=
  obnd (law11_two_l1J (x, [], 0)) fun y => some y
def law11_twoS : FSpec tb := ⟨[(0, .val 73)], [(0, .own 48)], law11_twoF⟩
theorem law11_two_eq : ∀ x, evFn Tryz.prog tb law11_twoG [law11_two_l1C] Tryz.f56 law11_twoS.ins law11_twoS.outs x = law11_twoS.f x := fun x => by kernel_rfl
theorem law11_two_k : fnK Tryz.f56 law11_twoS.ins law11_twoS.outs = true := by kernel_rfl
theorem law11_two_in : cutsOf ([law11_two_l1C] : List (CutSpec tb)) (bodyOf Tryz.f56) = [(36, .loop (loopAt 36 Tryz.f56))] := by kernel_rfl
theorem law11_two_sound : FnSound Tryz.prog tb 56 law11_twoS := fn_cut mixed Tryz.func56 law11_two_k law11_twoG_ok rfl law11_two_in (.cons rfl law11_two_l1_cut rfl .nil) law11_two_eq
end Go.Proofs.YtdgpkbnnljblmaaGreatDoor
