/- V2 -/
import Derived.Test.YtdgpkbnnljblmaaGreatDoorH1
namespace Go.Proofs.YtdgpkbnnljblmaaGreatDoor
open Go Go.Ev
def law11_knownF (_ : Unit) : Option Bool := some true
def law11_knownS : FSpec tb := ⟨[], [(0, .val 4)], law11_knownF⟩
def law11_knownG : List (Nat × FSpec tb) := [(26, law9_NS), (29, law9_SS), (24, fun_FindS), (23, fun_NameS), (25, fun_OneS), (19, fun_ApplyS), (32, val_FaultS), (56, law11_twoS), (30, fun_BinaryS), (40, fun_UnaryS)]
set_option maxRecDepth 100000 in
theorem law11_known_eq : ∀ x, evFn Tryz.prog tb law11_knownG [] Tryz.f16 law11_knownS.ins law11_knownS.outs x = law11_knownS.f x := fun _ => by kernel_rfl
theorem law11_known_k : fnK Tryz.f16 law11_knownS.ins law11_knownS.outs = true := by kernel_rfl
theorem law11_known_sound : FnSound Tryz.prog tb 16 law11_knownS := fn_ev mixed Tryz.func16 law11_known_k (.cons law9_N_sound (.cons law9_S_sound (.cons fun_Find_sound (.cons fun_Name_sound (.cons fun_One_sound (.cons fun_Apply_sound (.cons val_Fault_sound (.cons law11_two_sound (.cons fun_Binary_sound (.cons fun_Unary_sound .nil)))))))))) rfl law11_known_eq
end Go.Proofs.YtdgpkbnnljblmaaGreatDoor
