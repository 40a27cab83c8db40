/- Y6 -/
import Derived.Test.YtdgpkbnnljblmaaGreatDoorY5
namespace Go.Proofs.YtdgpkbnnljblmaaGreatDoor
open Go Go.Ev Go.Lib
def fnT : List Function := (fun_allF ()).getD []
theorem allT_is : fun_allF () = some fnT := rfl
theorem fnT_len : fnT.length = 30 := by decide +kernel
def core (k : Int) (l : List Arg) : Option Val :=
  obnd (fun_Apply_b1J (k, l, v0, k)) fun y =>
    osum y
      (fun y =>
        obnd (fun_shapedF l) fun y_2 =>
          brn (!y_2) (some (vE 15))
            (obnd (fun_Apply_l3J ([], l, (l.length : Int), 0)) fun y_3 =>
              obnd (fun_Apply_b4J (k, y.2, y_3, k)) fun y => osum y (fun _ => obnd (fun_wordedF (k, y_3)) fun y => some y) fun y => some y.2))
      fun y => some y.2
def arLo (k : Nat) : Int := ((fnT[k]?).map (·.lo)).getD 0
def arHi (k : Nat) : Int := ((fnT[k]?).map (·.hi)).getD 0
theorem apply_is {k : Nat} (hk : k < 30) (l : List Arg) : fun_ApplyF ((k : Int), l) =
    brn (decide ((l.length : Int) < arLo k)) (some (vE 15)) (brn (decide (arHi k < (l.length : Int))) (some (vE 15)) (core k l)) := by
  have h1 : k < fnT.length := by rw [fnT_len]; exact hk
  unfold fun_ApplyF arLo arHi
  rw [allT_is, obnd_some, decide_eq_false (show ¬ (k : Int) < 0 by omega), brn_false, decide_eq_false (show ¬ (fnT.length : Int) ≤ (k : Int) by rw [fnT_len]; omega), brn_false, idxG h1, List.getElem?_eq_getElem h1]
  simp only [fault_is, obnd_some]
  rfl
theorem apply_ok {k : Nat} (hk : k < 30) {l : List Arg} (h1 : arLo k ≤ l.length) (h2 : (l.length : Int) ≤ arHi k) : fun_ApplyF ((k : Int), l) = core k l := by
  rw [apply_is hk, decide_eq_false (by omega), brn_false, decide_eq_false (by omega), brn_false]
theorem core_many {k : Int} {l : List Arg} (h : k = 0 ∨ k = 1 ∨ k = 2 ∨ k = 3 ∨ k = 4 ∨ k = 11 ∨ k = 12 ∨ k = 18) : core k l = fun_manyF (k, l) := by
  unfold core fun_Apply_b1J fun_Apply_b2J
  rcases h with rfl | rfl | rfl | rfl | rfl | rfl | rfl | rfl
  · cases fun_manyF (0, l) <;> simp [osum]
  · cases fun_manyF (1, l) <;> simp [osum]
  · cases fun_manyF (2, l) <;> simp [osum]
  · cases fun_manyF (3, l) <;> simp [osum]
  · cases fun_manyF (4, l) <;> simp [osum]
  · cases fun_manyF (11, l) <;> simp [osum]
  · cases fun_manyF (12, l) <;> simp [osum]
  · cases fun_manyF (18, l) <;> simp [osum]
end Go.Proofs.YtdgpkbnnljblmaaGreatDoor
