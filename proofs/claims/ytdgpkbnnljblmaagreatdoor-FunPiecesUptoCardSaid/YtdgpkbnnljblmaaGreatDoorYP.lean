/- YP -/
import Derived.Test.YtdgpkbnnljblmaaGreatDoorYD
import Derived.Test.YtdgpkbnnljblmaaGreatDoorY9
import Derived.Test.YtdgpkbnnljblmaaGreatDoorKG
namespace Go.Proofs.YtdgpkbnnljblmaaGreatDoor
open Go Go.Ev Go.Lib
theorem okW_S {s : List UInt8} (hv : validD s = true) (hl : s.length ≤ 3000) : okW (vS s) := ⟨.inr (.inr (.inl ⟨s, rfl, hv⟩)), hl, I0⟩
theorem texR_S (s : List UInt8) : texR (vS s) = s := rfl
theorem valid_len {s : List UInt8} (hv : validD s = true) : s.length ≤ 4 * (rs s).length := by
  have h1 := encs_rs s.length s (Nat.le_refl _) hv
  have h2 := rs_runes s.length s (Nat.le_refl _)
  have key : ∀ l : List Int, (∀ r ∈ l, isRune r) → (encs l).length ≤ 4 * l.length := by
    intro l
    induction l with
    | nil => intro _; simp [encs]
    | cons r l ih =>
      intro h
      have := enc_len (h r (by simp))
      have ih := ih (fun x hx => h x (by simp [hx]))
      unfold encs at ih ⊢
      rw [List.flatMap_cons, List.length_append, List.length_cons]
      omega
  have := key _ h2
  rw [h1] at this
  exact this
theorem textV_ok {x : List UInt8} (hv : validD x = true) (hl : (rs x).length ≤ 300) : textV x = vS x := by
  have := ulen_le (rs x)
  unfold textV unitsV
  rw [if_pos hv, if_neg (show ¬ 1000 < ulen (rs x) by omega)]
  rfl
theorem ar_p : arLo 15 = 1 ∧ arHi 15 = 2 ∧ arLo 16 = 1 ∧ arHi 16 = 2 ∧ arLo 17 = 3 ∧ arHi 17 = 3 := by decide +kernel
theorem amt_N {m lo : Int} (h : lo ≤ m) : amt (vN ⟨m, 0⟩) lo = .inl m := by
  unfold amt
  rw [num_vN, if_pos rfl, if_pos ⟨rfl, h⟩]
theorem ask_lr {k : Nat} (hk : k = 15 ∨ k = 16) {v : Val} (h : okW v) (h4 : v.Kind ≠ 4) {m : Int} (hm : 0 ≤ m) (hm2 : m ≤ 1000000) : fun_ApplyF ((k : Int), [one v, one (vN ⟨m, 0⟩)]) = some (pieceV k (texR v) [m, 1]) := by
  obtain ⟨a1, a2, a3, a4, _, _⟩ := ar_p
  have hc : core (k : Int) [one v, one (vN ⟨m, 0⟩)] = some (pieceV k (texR v) [m, 1]) := by
    rw [core_rest (by simp) (by omega), show ([one v, one (vN ⟨m, 0⟩)].any badB) = false from rfl]
    simp only [Bool.false_eq_true, if_false]
    rw [single_word _ (by omega), show [one v, one (vN ⟨m, 0⟩)].map fst1 = [v, vN ⟨m, 0⟩] from rfl, worded_piece (by omega) h (by
      intro w hw
      simp only [List.mem_singleton] at hw
      subst hw
      exact okW_N (okdI (by unfold I64; omega))) (by simp), if_neg h4]
    have e : amtsOf (k : Int) [vN ⟨m, 0⟩] = .inl [m, 1] := by
      unfold amtsOf
      simp only [foldX, amtS]
      rw [show lowOf (k : Int) 0 = 0 from if_neg (by omega), amt_N hm]; rfl
    rw [e]
  rcases hk with rfl | rfl
  · rw [apply_ok (by omega) (by rw [a1]; simp) (by rw [a2]; simp), hc]
  · rw [apply_ok (by omega) (by rw [a3]; simp) (by rw [a4]; simp), hc]
theorem ask_mid {v : Val} (h : okW v) (h4 : v.Kind ≠ 4) {m n : Int} (hm : 1 ≤ m) (hm2 : m ≤ 1000000) (hn : 0 ≤ n) (hn2 : n ≤ 1000000) : fun_ApplyF (17, [one v, one (vN ⟨m, 0⟩), one (vN ⟨n, 0⟩)]) = some (pieceV 17 (texR v) [m, n]) := by
  obtain ⟨_, _, _, _, a1, a2⟩ := ar_p
  rw [show (17 : Int) = ((17 : Nat) : Int) from rfl, apply_ok (by omega) (by rw [a1]; simp) (by rw [a2]; simp), core_rest (by simp) (by omega), show ([one v, one (vN ⟨m, 0⟩), one (vN ⟨n, 0⟩)].any badB) = false from rfl]
  simp only [Bool.false_eq_true, if_false]
  rw [single_word _ (by omega), show [one v, one (vN ⟨m, 0⟩), one (vN ⟨n, 0⟩)].map fst1 = [v, vN ⟨m, 0⟩, vN ⟨n, 0⟩] from rfl, show ((17 : Nat) : Int) = 17 from rfl, worded_piece (by omega) h (by
    intro w hw
    simp only [List.mem_cons, List.not_mem_nil, or_false] at hw
    rcases hw with rfl | rfl <;> exact okW_N (okdI (by unfold I64; omega))) (by simp), if_neg h4]
  have e : amtsOf 17 [vN ⟨m, 0⟩, vN ⟨n, 0⟩] = .inl [m, n] := by
    unfold amtsOf
    simp only [foldX, amtS]
    rw [show lowOf 17 0 = 1 from if_pos ⟨rfl, rfl⟩, amt_N hm]
    simp only
    rw [show lowOf 17 (0 + 1) = 0 from if_neg (by omega), amt_N hn]; rfl
  rw [e]
theorem ask_join {x y : List UInt8} (hx : okW (vS x)) (hy : okW (vS y)) : fun_ApplyF (18, [one (vS x), one (vS y)]) = some (textV (x ++ y)) := by
  have hA : okA [one (vS x), one (vS y)] := ⟨by simp, fun a ha => by
    simp only [List.mem_cons, List.not_mem_nil, or_false] at ha
    rcases ha with rfl | rfl
    · exact ⟨by simp [one], fun v hv => by simp only [one, List.mem_singleton] at hv; subst hv; exact hx⟩
    · exact ⟨by simp [one], fun v hv => by simp only [one, List.mem_singleton] at hv; subst hv; exact hy⟩⟩
  rw [show (18 : Int) = ((18 : Nat) : Int) from rfl, apply_many (by simp) (by omega), show ((18 : Nat) : Int) = 18 from rfl, many_concat hA rfl]
  have w : ∀ z : List UInt8, worR (vS z) = (z, v0, true) := fun z => rfl
  have e : conA [] [one (vS x), one (vS y)] = .inl (x ++ y) := by
    unfold conA conL one
    simp only [foldX, conS, w, cond_true, List.nil_append]
  rw [e]
theorem bin_join {x y : List UInt8} (hl : x.length + y.length ≤ 6000) : fun_BinaryF (6, vS x, vS y) = some (textV (x ++ y)) := by
  unfold fun_BinaryF fun_Binary_b1J
  simp only
  rw [show decide ((vS x).Kind = 4) = false from rfl, show decide ((vS y).Kind = 4) = false from rfl, show decide ((6 : Int) < 1) = false from rfl, show decide ((12 : Int) < 6) = false from rfl]
  simp only [brn_false, decide_true, brn_true]
  rw [show val_TextF (vS x) = some x from rfl, obnd_some, show val_TextF (vS y) = some y from rfl, obnd_some, catS (by omega), obnd_some, text_is (by rw [List.length_append]; omega)]; rfl
theorem FunPieces_true {s : List UInt8} {p n : UInt8} (hs : s.length ≤ 2000000) : law11_FunPiecesF (s, p, n) = some true := by
  unfold law11_FunPiecesF
  rw [show law11_knownF () = some true from rfl, obnd_some]
  simp only [Bool.not_true, brn_false]
  rw [refRunes_is (by omega), obnd_some]
  cases hv : validD s with
  | false => rfl
  | true =>
    rw [if_pos rfl]
    simp only [Bool.not_true, brn_false]
    by_cases h1 : 300 < ((rs s).length : Int)
    · rw [decide_eq_true h1, brn_true]
    rw [decide_eq_false h1, brn_false]
    have hp : p.toNat < 256 := p.toNat_lt
    have hn : n.toNat < 256 := n.toNat_lt
    have hsl := valid_len hv
    have hL : (rs s).length ≤ 300 := by omega
    have hlt : p.toNat % ((rs s).length + 1) ≤ (rs s).length := by
      have := Nat.mod_lt p.toNat (show 0 < (rs s).length + 1 by omega); omega
    have hk : (IntKind.i64.wrap (p.toNat : Int)).tmod (IntKind.i64.wrap (((rs s).length : Int) + 1)) = ((p.toNat % ((rs s).length + 1) : Nat) : Int) := by
      rw [i64_in (by omega) (by omega), i64_in (by omega) (by omega), Int.tmod_eq_emod_of_nonneg (by omega)]; rfl
    rw [hk, decide_eq_false (by rw [i64_in (by omega) (by omega)]; omega), brn_false]
    generalize p.toNat % ((rs s).length + 1) = k at hlt hk
    have nn : IntKind.i64.wrap (n.toNat : Int) = (n.toNat : Int) := i64_in (by omega) (by omega)
    rw [nn, i64_in (n := ((rs s).length : Int) - (k : Int)) (by omega) (by omega), i64_in (n := (k : Int) + 1) (by omega) (by omega)]
    have oS := okW_S hv (show s.length ≤ 3000 by omega)
    have ts : ∀ i m, i + m ≤ (rs s).length → textV (encs (((rs s).drop i).take m)) = vS (encs (((rs s).drop i).take m)) := fun i m h => by
      obtain ⟨q1, q2, _⟩ := slice_rs hv h
      exact textV_ok q1 (by rw [q2, List.length_take]; omega)
    have e1 : fun_ApplyF (15, [one (vS s), one (vN ⟨(k : Int), 0⟩)]) = some (vS (encs ((rs s).take k))) := by
      have := ask_lr (k := 15) (by omega) oS (by simp [vS]) (m := (k : Int)) (by omega) (by omega)
      rw [show ((15 : Nat) : Int) = 15 from rfl] at this
      have t := ts 0 k (by omega)
      rw [List.drop_zero] at t
      rw [this, pieceV_15, texR_S, Int.toNat_natCast, List.drop_zero, t]
    have e2 : fun_ApplyF (16, [one (vS s), one (vN ⟨((rs s).length : Int) - (k : Int), 0⟩)]) = some (vS (encs ((rs s).drop k))) := by
      have := ask_lr (k := 16) (by omega) oS (by simp [vS]) (m := ((rs s).length : Int) - (k : Int)) (by omega) (by omega)
      rw [show ((16 : Nat) : Int) = 16 from rfl] at this
      have t := ts k ((rs s).length - k) (by omega)
      rw [List.take_of_length_le (by rw [List.length_drop]; exact Nat.le_refl _)] at t
      rw [this, pieceV_16, texR_S, show (((rs s).length : Int) - (k : Int)).toNat = (rs s).length - k by omega, show (rs s).length - ((rs s).length - k) = k by omega, List.take_of_length_le (by rw [List.length_drop]; exact Nat.le_refl _), t]
    have b1 := slice_rs hv (i := k) (k := (rs s).length - k) (by omega)
    rw [List.take_of_length_le (by rw [List.length_drop]; exact Nat.le_refl _)] at b1
    have a1 := slice_rs hv (i := 0) (k := k) (by omega)
    rw [List.drop_zero] at a1
    have oA := okW_S a1.1 (by omega)
    have oB := okW_S b1.1 (by omega)
    have tk : ∀ m : Nat, textV (encs (((rs s).drop k).take m)) = vS (encs (((rs s).drop k).take m)) := fun m => by
      have := ts k (min m ((rs s).length - k)) (by omega)
      rw [show ((rs s).drop k).take m = ((rs s).drop k).take (min m ((rs s).length - k)) from by rw [List.take_eq_take_iff, List.length_drop]; omega]
      exact this
    have e3 : fun_ApplyF (17, [one (vS s), one (vN ⟨(k : Int) + 1, 0⟩), one (vN ⟨(n.toNat : Int), 0⟩)]) = some (vS (encs (((rs s).drop k).take n.toNat))) := by
      rw [ask_mid oS (by simp [vS]) (by omega) (by omega) (by omega) (by omega), pieceV_17, texR_S, show ((k : Int) + 1 - 1).toNat = k by omega, Int.toNat_natCast, tk]
    have e4 : fun_ApplyF (15, [one (vS (encs ((rs s).drop k))), one (vN ⟨(n.toNat : Int), 0⟩)]) = some (vS (encs (((rs s).drop k).take n.toNat))) := by
      have := ask_lr (k := 15) (by omega) oB (by simp [vS]) (m := (n.toNat : Int)) (by omega) (by omega)
      rw [show ((15 : Nat) : Int) = 15 from rfl] at this
      rw [this, pieceV_15, texR_S, Int.toNat_natCast, List.drop_zero, b1.2.1, tk]
    have hj : encs ((rs s).take k) ++ encs ((rs s).drop k) = s := by
      unfold encs
      rw [← List.flatMap_append, List.take_append_drop]
      exact encs_rs s.length s (Nat.le_refl _) hv
    have tS := textV_ok hv hL
    have e5 := ask_join oA oB
    rw [hj, tS] at e5
    have e6 := bin_join (x := encs ((rs s).take k)) (y := encs ((rs s).drop k)) (by omega)
    rw [hj, tS] at e6
    have hc : cat (encs ((rs s).take k)) (encs ((rs s).drop k)) = some s := by rw [catS (by omega), hj]
    have nS : ∀ x, law9_SF x = some (vS x) := fun x => rfl
    have nN : ∀ m : Int, law9_NF m = some (vN ⟨m, 0⟩) := fun m => rfl
    rw [nS, nN, nN, nN, nN]
    simp only [obnd_some, one_is2]
    rw [e1, obnd_some, e2, obnd_some, e3, obnd_some, e4, obnd_some, e5, obnd_some]
    rw [show decide ((vS (encs ((rs s).take k))).Kind = 2) = true from rfl, show decide ((vS (encs ((rs s).drop k))).Kind = 2) = true from rfl, brn_true, brn_true, show (vS (encs ((rs s).take k))).S = encs ((rs s).take k) from rfl, show (vS (encs ((rs s).drop k))).S = encs ((rs s).drop k) from rfl, hc, obnd_some, e6]
    simp
end Go.Proofs.YtdgpkbnnljblmaaGreatDoor
