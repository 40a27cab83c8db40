/- Y8 -/
import Derived.Test.YtdgpkbnnljblmaaGreatDoorY7
namespace Go.Proofs.YtdgpkbnnljblmaaGreatDoor
open Go Go.Ev Go.Lib
def one (v : Val) : Arg := ⟨false, [v]⟩
theorem one_is2 (v : Val) : fun_OneF v = some (one v) := rfl
def redS (s : List Dec) (v : Val) : List Dec ⊕ (List Dec ⊕ Val) := bif (numR v).2.2 then .inl (s ++ [(numR v).1]) else .inr (.inr (numR v).2.1)
def redG : List Dec ⊕ Val → (List Dec × Val) ⊕ (Unit × Val)
  | .inl ds => .inl (ds, v0)
  | .inr f => .inr ((), f)
theorem reck_l1 {vs : List Val} (hv : ∀ v ∈ vs, okW v) (hl : vs.length ≤ 1000) : fun_reckoned_l1J (v0, [], vs, (vs.length : Int), 0) = some (redG (foldX redS .inl [] vs)) :=
  fold_loop (F := fun_reckoned_l1F) (fun (s : List Dec) (i : Nat) => (v0, s, vs, (vs.length : Int), (i : Int))) redG vs redS .inl (fun s i => s.length = i) (by omega)
    (fun back s i hi hs => by
      unfold fun_reckoned_l1F redS
      simp only
      rw [ltT hi, brn_true, idxG hi, obnd_some, (num_eq (hv _ (List.getElem_mem hi))).1, obnd_some, appN (by simp only [List.length_singleton]; omega), obnd_some, wr1 (by omega)]
      cases (numR vs[i]).2.2 <;> rfl)
    (fun s i hi s' hs h => by
      unfold redS at h
      revert h
      cases (numR vs[i]).2.2 <;> intro h <;> cases h
      simp [hs])
    (fun back s hs => by
      unfold fun_reckoned_l1F
      simp only
      rw [ltF, brn_false]; rfl) [] rfl
theorem okW_N {d : Dec} (h : okd d) : okW (vN d) := ⟨.inr (.inl ⟨d, rfl, h.1⟩), by simp [vN], h.2⟩
theorem ar_8 : arLo 8 = 2 ∧ arHi 8 = 2 := by decide +kernel
theorem mod_apply {x y : Dec} (hx : okd x) (hy : okd y) : fun_ApplyF (8, [one (vN x), one (vN y)]) = some (numV (modV x y)) := by
  rw [show ((8 : Int)) = ((8 : Nat) : Int) from rfl, apply_ok (by omega) (by rw [ar_8.1]; simp) (by rw [ar_8.2]; simp), core_rest (by simp) (by omega)]
  rw [show ([one (vN x), one (vN y)].any badB) = false from rfl]
  simp only [Bool.false_eq_true, if_false]
  rw [single_reck _ (by omega), show [one (vN x), one (vN y)].map fst1 = [vN x, vN y] from rfl]
  unfold fun_reckonedF
  simp only
  rw [show (⟨0, ⟨0, 0⟩, [], false, 0⟩ : Val) = v0 from rfl, reck_l1 (by
    intro v hv
    simp only [List.mem_cons, List.not_mem_nil, or_false] at hv
    rcases hv with rfl | rfl
    · exact okW_N hx
    · exact okW_N hy) (by simp)]
  rw [show foldX redS .inl [] [vN x, vN y] = .inl [x, y] from rfl]
  simp only [redG, obnd_some, osum]
  rw [idxZ, obnd_some, show dec_IntF 0 = some ⟨0, 0⟩ from rfl, obnd_some, (cmp_eq hx okd0).1, obnd_some]
  rw [show decide (((8 : Nat) : Int) = 5) = false from rfl, show decide (((8 : Nat) : Int) = 6) = false from rfl, show decide (((8 : Nat) : Int) = 7) = false from rfl, show decide (((8 : Nat) : Int) = 8) = true from rfl]
  simp only [brn_false, brn_true]
  rw [show idx [x, y] 1 = some y from rfl, obnd_some, obnd_some, rest_is4 hx hy, obnd_some]
end Go.Proofs.YtdgpkbnnljblmaaGreatDoor
