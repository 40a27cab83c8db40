/- known: what the laws look at first is so. -/
import Derived.Test.YtjbgpcpamdbjlaaDoorRK
namespace Go.Proofs.YtjbgpcpamdbjlaaDoor
open Go Go.Ev
def knownF (_ : Unit) : Option Bool := some true
def knownS : FSpec tb := ⟨[], [(0, .val 4)], knownF⟩
def knownG : List (Nat × FSpec tb) := [(16, atS), (18, relS), (20, boundsS), (25, cellsS), (27, parseS), (29, textS), (13, goodS), (10, checkS), (23, checkAS)]
theorem known_eq : ∀ x, evFn Tryd.prog tb knownG [] Tryd.f9 knownS.ins knownS.outs x = knownS.f x := fun _ => by kernel_rfl
theorem known_k : fnK Tryd.f9 knownS.ins knownS.outs = true := by kernel_rfl
theorem known_sound : FnSound Tryd.prog tb 9 knownS := fn_ev mixed Tryd.func9 known_k (.cons at_sound (.cons rel_sound (.cons bounds_sound (.cons cells_sound (.cons parse_sound (.cons text_sound (.cons good_sound (.cons check_sound (.cons checkA_sound .nil))))))))) rfl known_eq
end Go.Proofs.YtjbgpcpamdbjlaaDoor
