/- X3 -/
import Derived.Test.YtdgpkbnnljblmaaGreatDoorX2
import Derived.Test.YtdgpkbnnljblmaaGreatDoorXO
import Derived.Lib.IndexLaws
import Derived.Lib.TrimAscii
namespace Go.Proofs.YtdgpkbnnljblmaaGreatDoor
open Go Go.Ev
theorem i32_in {n : Int} (h0 : -2147483648 ≤ n) (h1 : n ≤ 2147483647) : IntKind.i32.wrap n = n := by
  rw [IntKind.wrap_i32]; omega
def isD (c : UInt8) : Bool := decide (48 ≤ c.toNat) && decide (c.toNat ≤ 57)
def valB : List UInt8 → Nat → Nat
  | [], a => a
  | c :: l, a => valB l (a * 10 + (c.toNat - 48))
theorem valB_ge : ∀ (l : List UInt8) (a : Nat), a ≤ valB l a
  | [], a => Nat.le_refl _
  | c :: l, a => Nat.le_trans (by omega) (valB_ge l _)
theorem valB_append : ∀ (l m : List UInt8) (a : Nat), valB (l ++ m) a = valB m (valB l a)
  | [], _, _ => rfl
  | _ :: l, m, _ => valB_append l m _
def dv (c : UInt8) : Int := ((c.toNat - 48 : Nat) : Int)
def rd9 (l : List UInt8) : List Int := (l.map dv).reverse
theorem rd9_snoc (l : List UInt8) (c : UInt8) : rd9 (l ++ [c]) = dv c :: rd9 l := by unfold rd9; simp
theorem vd_rd9 : ∀ (l : List UInt8) (a : Nat), valB l a = vd (rd9 l) + 10 ^ l.length * a
  | [], a => by simp [valB, rd9, vd]
  | c :: l, a => by
    rw [valB, vd_rd9 l]
    unfold rd9
    simp only [List.map_cons, List.reverse_cons, List.length_cons]
    rw [vd_append]
    simp only [vd, List.length_reverse, List.length_map, dv, Int.toNat_natCast, Nat.pow_succ, Nat.mul_zero, Nat.add_zero]
    rw [Nat.mul_add, Nat.mul_assoc, Nat.mul_comm a 10]
    omega
theorem isDig_rd9 {l : List UInt8} (h : l.all isD = true) : isDig (rd9 l) := fun d hd => by
  unfold rd9 at hd
  simp only [List.mem_reverse, List.mem_map] at hd
  obtain ⟨c, hc, rfl⟩ := hd
  have := List.all_eq_true.1 h c hc
  simp only [isD, Bool.and_eq_true, decide_eq_true_eq] at this
  unfold dv; omega
theorem decode_high {l : List UInt8} {c : UInt8} {t : List UInt8} (hl : l = c :: t) (h : 128 ≤ c.toNat) : 128 ≤ (Lib.decodeL l).1 := by
  subst hl
  rw [Lib.decodeL_N]
  simp only [List.getD_cons_zero]
  generalize (c :: t).length = n
  generalize ((c :: t).getD 1 0).toNat = b1
  generalize ((c :: t).getD 2 0).toNat = b2
  generalize ((c :: t).getD 3 0).toNat = b3
  unfold Lib.decodeN
  rw [if_neg (by omega)]
  repeat' split
  all_goals (simp only; omega)
def cutW : List UInt8 → List UInt8 × List UInt8 × Bool
  | [] => ([], [], false)
  | c :: l => if c = 46 then ([], l, true) else (c :: (cutW l).1, (cutW l).2.1, (cutW l).2.2)
theorem cutW_eq : ∀ l : List UInt8, l = (cutW l).1 ++ (if (cutW l).2.2 then 46 :: (cutW l).2.1 else []) ∧ ((cutW l).2.2 = false → (cutW l).2.1 = []) ∧ 46 ∉ (cutW l).1
  | [] => by simp [cutW]
  | c :: l => by
    obtain ⟨h1, h2, h3⟩ := cutW_eq l
    unfold cutW
    by_cases h : c = 46
    · subst h; simp
    · rw [if_neg h]
      refine ⟨?_, h2, ?_⟩
      · simp only [List.cons_append]; congr 1
      · simp only [List.mem_cons, not_or]; exact ⟨fun e => h e.symm, h3⟩
theorem cutW_index : ∀ l : List UInt8, Lib.indexByte l 46 = if (cutW l).2.2 then ((cutW l).1.length : Int) else -1
  | [] => rfl
  | c :: l => by
    have ih := cutW_index l
    unfold Lib.indexByte cutW
    by_cases h : c = 46
    · subst h; simp
    · have hb : (c == 46) = false := by simp [h]
      rw [hb, if_neg h, ih]
      simp only [Bool.false_eq_true, if_false]
      by_cases h2 : (cutW l).2.2 = true
      · simp only [h2, if_true]
        have : ((((cutW l).1.length : Nat) : Int) == -1) = false := by simp
        rw [this]; simp
      · simp only [h2]; simp
theorem cut_is {l : List UInt8} (hl : l.length ≤ 10000) : strings_CutF (l, [46]) = some (cutW l) := by
  obtain ⟨h1, h2, h3⟩ := cutW_eq l
  have hi := cutW_index l
  have hx : istringslite_IndexF (l, [46]) = some (Lib.indexByte l 46) := by
    unfold istringslite_IndexF istringslite_IndexByteF bytealg_IndexByteStringF
    simp only [List.length_singleton]
    rw [decide_eq_false (by omega), brn_false]
    by_cases he : [46] = l
    · rw [decide_eq_true he, brn_true, ← he]; rfl
    · rw [decide_eq_false he, brn_false, decide_eq_true (by rfl), brn_true, show idx ([46] : List UInt8) 0 = some 46 from rfl, obnd_some]; rfl
  unfold strings_CutF istringslite_CutF
  rw [hx, obnd_some, hi]
  generalize hw : (cutW l).1 = w at *
  generalize hb : (cutW l).2.1 = b at *
  generalize hp : (cutW l).2.2 = p at *
  have e : cutW l = (w, b, p) := by rw [← hw, ← hb, ← hp]
  rw [e]
  cases p with
  | true =>
    simp only [if_true] at h1 ⊢
    have hlen : l.length = w.length + 1 + b.length := by rw [h1]; simp; omega
    have s1 := subU (D := l) (i := 0) (k := w.length) (by omega) (by omega)
    have s2 := subU (D := l) (i := w.length + 1) (k := l.length) (by omega) (by omega)
    rw [List.take_of_length_le (Nat.le_refl _)] at s2
    have z0 : ((0 : Nat) : Int) = 0 := rfl
    rw [List.drop_zero, z0] at s1
    rw [decide_eq_true (by omega), brn_true, s1, obnd_some, List.length_singleton, i64_in (by omega) (by omega), show (w.length : Int) + ((1 : Nat) : Int) = ((w.length + 1 : Nat) : Int) by omega, s2, obnd_some, obnd_some]
    have t1 : l.take w.length = w := by rw [h1]; simp
    have t2 : l.drop (w.length + 1) = b := by rw [h1]; simp
    rw [t1, t2]
  | false =>
    simp only [Bool.false_eq_true, if_false, List.append_nil] at h1 ⊢
    rw [decide_eq_false (by omega), brn_false, obnd_some, h2 rfl, ← h1]
theorem parse_loop {m w0 : Bool} {z : List UInt8} (hl : z.length ≤ 10000) : ∃ wr lg lo pos, dec_Parse_l1J (⟨0, 0, m⟩, w0, false, z, 0) = some ((wr, lg), ⟨0, lo, m⟩, z, pos) ∧ wr = (w0 || !z.all isD) ∧
    (wr = false → lg = true ∧ 9223372036854775808 < valB z 0 ∨ lg = false ∧ lo = (valB z 0 : Int) ∧ valB z 0 < 18446744073709551616) := by
  have key : ∃ y, dec_Parse_l1J (⟨0, 0, m⟩, w0, false, z, 0) = some y ∧ (∃ wr lg lo pos, y = ((wr, lg), ⟨0, lo, m⟩, z, pos) ∧ wr = (w0 || !z.all isD) ∧
      (wr = false → lg = true ∧ 9223372036854775808 < valB z 0 ∨ lg = false ∧ lo = (valB z 0 : Int) ∧ valB z 0 < 18446744073709551616)) := by
    refine iter_ex (F := dec_Parse_l1F) (fun x => z.length - x.2.2.2.2) (fun x => ∃ (lo : Int) (wr lg : Bool) (i : Nat), x = (⟨0, lo, m⟩, wr, lg, z, i) ∧
      (wr = true ∧ (w0 || !z.all isD) = true ∨ wr = w0 ∧ i ≤ z.length ∧ (z.take i).all isD = true ∧ (lg = true ∧ 18446744073709551600 < valB (z.take i) 0 ∨ lg = false ∧ lo = (valB (z.take i) 0 : Int) ∧ valB (z.take i) 0 < 18446744073709551616))) _ ?_ _ ⟨0, w0, false, 0, rfl, .inr ⟨rfl, by omega, by simp, .inr ⟨rfl, by simp [valB], by simp [valB]⟩⟩⟩ (by simp only; omega)
    rintro back x ⟨lo, wr, lg, i, rfl, hst⟩ hb
    unfold dec_Parse_l1F
    simp only at hb ⊢
    rcases Nat.lt_or_ge i z.length with hlt | hge
    · rw [decide_eq_true hlt, brn_true]
      have hr := rune_drop z i
      have hw := Lib.decodeL_width (z.drop i)
      have hdr : z.drop i = z[i] :: z.drop (i + 1) := List.drop_eq_getElem_cons hlt
      have bad : ∀ lg' : Bool, ∀ lo' : Int, (w0 || !z.all isD) = true → ∃ y, back (⟨0, lo', m⟩, true, lg', z, i + (rune z i).2) = some y ∧ _ := fun lg' lo' h => hb _ ⟨lo', true, lg', _, rfl, .inl ⟨rfl, h⟩⟩ (by simp only; rw [hr]; omega)
      have good : ∀ lg' : Bool, ∀ lo' : Int, wr = true → ∃ y, back (⟨0, lo', m⟩, wr, lg', z, i + (rune z i).2) = some y ∧ _ := fun lg' lo' h => hb _ ⟨lo', wr, lg', _, rfl, .inl ⟨h, by rcases hst with ⟨_, h2⟩ | ⟨h1, _⟩; exact h2; rw [← h1, h]; rfl⟩⟩ (by simp only; rw [hr]; omega)
      have nd : isD z[i] = false → (w0 || !z.all isD) = true := fun h => by
        have : z.all isD = false := by
          rw [List.all_eq_false]
          exact ⟨z[i], List.getElem_mem hlt, by simp [h]⟩
        rw [this]; simp
      by_cases h128 : 128 ≤ z[i].toNat
      · have hh := decode_high hdr h128
        rw [← hr] at hh
        rw [decide_eq_false (by omega), brn_false, decide_eq_true (by omega), brn_true]
        exact bad _ _ (nd (by unfold isD; simp; omega))
      · have hd := Lib.decodeL_ascii z[i] (z.drop (i + 1)) (by omega)
        rw [← hdr, ← hr] at hd
        rw [hd] at bad good ⊢
        simp only at bad good ⊢
        by_cases c1 : ((z[i].toNat : Nat) : Int) < 48
        · rw [decide_eq_true c1, brn_true]
          exact bad _ _ (nd (by unfold isD; simp; omega))
        · rw [decide_eq_false c1, brn_false]
          by_cases c2 : (57 : Int) < ((z[i].toNat : Nat) : Int)
          · rw [decide_eq_true c2, brn_true]
            exact bad _ _ (nd (by unfold isD; simp; omega))
          · rw [decide_eq_false c2, brn_false]
            have i32 : IntKind.i32.wrap (((z[i].toNat : Nat) : Int) - 48) = ((z[i].toNat - 48 : Nat) : Int) := by
              rw [i32_in (by omega) (by omega)]; omega
            rcases hst with ⟨hwr, hbad⟩ | ⟨hwr, hi, hall, hval⟩
            · subst hwr
              cases lg
              · rw [brn_false]
                by_cases h3 : 1844674407370955160 < lo
                · rw [decide_eq_true h3, Bool.not_true, brn_false]; exact good _ _ rfl
                · rw [decide_eq_false h3, Bool.not_false, brn_true]; exact good _ _ rfl
              · rw [brn_true]; exact good _ _ rfl
            · have ht : z.take (i + 1) = z.take i ++ [z[i]] := by rw [List.take_add_one, List.getElem?_eq_getElem hlt]; rfl
              have hD : isD z[i] = true := by unfold isD; simp; omega
              have hall' : (z.take (i + 1)).all isD = true := by rw [ht, List.all_append, hall, Bool.true_and, List.all_cons, hD]; rfl
              have hv : valB (z.take (i + 1)) 0 = valB (z.take i) 0 * 10 + (z[i].toNat - 48) := by rw [ht, valB_append]; rfl
              rcases hval with ⟨rfl, hbig⟩ | ⟨rfl, rfl, hsm⟩
              · rw [brn_true]
                exact hb _ ⟨lo, wr, true, i + 1, rfl, .inr ⟨hwr, by omega, hall', .inl ⟨rfl, by omega⟩⟩⟩ (by simp only; omega)
              · rw [brn_false]
                by_cases h3 : (1844674407370955160 : Int) < (valB (z.take i) 0 : Int)
                · rw [decide_eq_true h3, Bool.not_true, brn_false]
                  exact hb _ ⟨_, wr, true, i + 1, rfl, .inr ⟨hwr, by omega, hall', .inl ⟨rfl, by omega⟩⟩⟩ (by simp only; omega)
                · rw [decide_eq_false h3, Bool.not_false, brn_true, i32, u64_in (n := (valB (z.take i) 0 : Int) * 10) (by omega) (by omega), u64_in (n := ((z[i].toNat - 48 : Nat) : Int)) (by omega) (by omega), u64_in (by omega) (by omega)]
                  exact hb _ ⟨_, wr, false, i + 1, rfl, .inr ⟨hwr, by omega, hall', .inr ⟨rfl, by omega, by omega⟩⟩⟩ (by simp only; omega)
    · rw [decide_eq_false (by omega), brn_false]
      refine ⟨_, rfl, wr, lg, lo, i, rfl, ?_⟩
      rcases hst with ⟨rfl, h2⟩ | ⟨h1, h2, h3, h4⟩
      · exact ⟨h2.symm, fun h => by cases h⟩
      · have : i = z.length := by omega
        subst this
        rw [List.take_of_length_le (Nat.le_refl _)] at h3 h4
        refine ⟨by rw [h1, h3]; simp, fun _ => ?_⟩
        rcases h4 with ⟨h5, h6⟩ | h5
        · exact .inl ⟨h5, by omega⟩
        · exact .inr h5
  obtain ⟨y, h1, wr, lg, lo, pos, rfl, h2, h3⟩ := key
  exact ⟨wr, lg, lo, pos, h1, h2, h3⟩
end Go.Proofs.YtdgpkbnnljblmaaGreatDoor
