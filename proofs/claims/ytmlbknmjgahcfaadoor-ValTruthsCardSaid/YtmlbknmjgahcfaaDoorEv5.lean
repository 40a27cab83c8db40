/- Operations that look at temporaries alone are told right. -/
import Derived.Test.YtmlbknmjgahcfaaDoorEv4
import Derived.Laws.Small
import Derived.Laws.Entries
import Derived.Laws.Strings
import Derived.Laws.StructEq
import Derived.Lib.Strings
namespace Go.Ev
open Go

theorem wrap_inR (k : IntKind) (n : Int) : inR k (k.wrap n) := by
  unfold inR lo hi IntKind.wrap IntKind.signed IntKind.bits
  cases k <;> simp only [] <;> (try split) <;> (simp_all; try omega)

theorem wrap_of_inR {k : IntKind} {n : Int} (h : inR k n) : k.wrap n = n := by
  unfold inR lo hi at h
  unfold IntKind.wrap IntKind.signed IntKind.bits
  cases k <;> simp only [] at h ⊢ <;> (try split) <;> (simp_all; try omega)

theorem mxLen_eq : (mxLen : Int) = 9223372036854775807 := rfl

variable {P : Program} {tb : Tab} {g : Gh} {w : World} {μ : Nat → Nat} {τ : Nat → Option Nat} {tok : Nat → Bool}

theorem toList_mk (s : List UInt8) : (⟨s.toArray⟩ : ByteArray).toList = s := ByteArray.toList_mk s
theorem size_mk (s : List UInt8) : (⟨s.toArray⟩ : ByteArray).size = s.length := by simp [ByteArray.size]
theorem fits_iff {n : Nat} : fits n = true ↔ n ≤ mxLen := by simp [fits]

theorem constV_sound {v : Value} {a : AC tb.T} (h : constV v = some a) : RepC P tb g w μ τ tok a v ∧ a.ids = [] := by
  cases v with
  | int k n =>
    simp only [constV] at h
    cases hb : inRB k n <;> simp [hb] at h
    subst h; exact ⟨.int k n (inRB_iff.1 hb), rfl⟩
  | bool b => simp only [constV, Option.some.injEq] at h; subst h; exact ⟨.bool b, rfl⟩
  | string s =>
    simp only [constV] at h
    cases hb : fits s.data.toList.length <;> simp only [hb, cond_true, cond_false, Option.some.injEq, reduceCtorEq] at h
    subst h
    refine ⟨?_, rfl⟩
    have := RepD.str (P := P) (tb := tb) (g := g) (w := w) s.data.toList (fits_iff.1 hb)
    rw [Lib.mk_data] at this; exact this
  | slice x l c =>
    cases x with
    | some x => simp [constV] at h
    | none =>
      cases l with
      | succ l => simp [constV] at h
      | zero => cases c with
        | succ c => simp [constV] at h
        | zero => simp only [constV, Option.some.injEq] at h; subst h; exact ⟨.nil, rfl⟩
  | _ => simp [constV] at h

theorem constCells_sound : ∀ {vs : List Value} {as : List (AC tb.T)}, constCells vs = some as → All2 (RepC P tb g w μ τ tok) as vs ∧ ∀ a ∈ as, a.ids = []
  | [], as, h => by simp only [constCells, Option.some.injEq] at h; subst h; exact ⟨trivial, by simp⟩
  | v :: vs, as, h => by
    simp only [constCells] at h
    cases h1 : (constV v : Option (AC tb.T)) with
    | none => simp [h1] at h
    | some a =>
      cases h2 : (constCells vs : Option (List (AC tb.T))) with
      | none => simp [h1, h2] at h
      | some as' =>
        simp only [h1, h2, Option.some.injEq] at h; subst h
        obtain ⟨k1, k2⟩ := constCells_sound h2
        refine ⟨⟨(constV_sound h1).1, k1⟩, fun a ha => ?_⟩
        rcases List.mem_cons.1 ha with e | e
        · subst e; exact (constV_sound (P := P) (g := g) (w := w) (μ := μ) (τ := τ) (tok := tok) h1).2
        · exact k2 a e

/-! ## numbers, texts, truths -/
theorem eqB_int (a b : Int) : (a == b) = decide (a = b) := rfl

theorem evInt_sound {op : BinOp} {k : IntKind} {a b : Int} {c : CV tb.T} {xt : Nat} (h : evInt op k a b some = some c) (ha : inR k a) (hb : inR k b)
    (hs : op ≠ .shl ∧ op ≠ .shr) : ∃ u, (binOp op xt (.int k a) (.int k b)).run P w = .ok u w ∧ RepD P tb g w c u := by
  have hw := wrap_inR k
  cases op <;> simp only [evInt, Option.some.injEq, reduceCtorEq, ne_eq] at h hs
  case add => subst h; exact ⟨_, by simp [binOp, Op.intArith], .int _ _ (hw _)⟩
  case sub => subst h; exact ⟨_, by simp [binOp, Op.intArith], .int _ _ (hw _)⟩
  case mul => subst h; exact ⟨_, by simp [binOp, Op.intArith], .int _ _ (hw _)⟩
  case quo =>
    by_cases h0 : b = 0
    · simp [h0] at h
    · simp only [h0, decide_false, brn_false, Option.some.injEq] at h; subst h
      exact ⟨_, by simp [binOp, Op.intDiv, h0], .int _ _ (hw _)⟩
  case rem =>
    by_cases h0 : b = 0
    · simp [h0] at h
    · simp only [h0, decide_false, brn_false, Option.some.injEq] at h; subst h
      refine ⟨_, by simp [binOp, Op.intDiv, h0], .int _ _ ?_⟩
      have h1 : a.tmod b = a - b * a.tdiv b := by have := Int.mul_tdiv_add_tmod a b; omega
      have h2 : (a.tmod b).natAbs ≤ a.natAbs := by
        rw [Int.natAbs_tmod]; exact Nat.mod_le _ _
      have h3 : 0 ≤ a → 0 ≤ a.tmod b := fun h => Int.tmod_nonneg b h
      have h4 : a ≤ 0 → a.tmod b ≤ 0 := fun h => by
        have := Int.tmod_nonneg b (show 0 ≤ -a by omega)
        rw [Int.neg_tmod] at this; omega
      clear h1
      generalize a.tmod b = r at *
      have hlo : lo k ≤ 0 := by unfold lo; cases k <;> simp
      have hhi : 0 ≤ hi k := by unfold hi; cases k <;> simp
      unfold inR at *
      rcases Int.le_total 0 a with h0 | h0
      · have := h3 h0; constructor <;> omega
      · have := h4 h0; constructor <;> omega
  case and => subst h; exact ⟨_, by simp [binOp, Op.intBits, bitsOf], .int _ _ (hw _)⟩
  case or => subst h; exact ⟨_, by simp [binOp, Op.intBits, bitsOf], .int _ _ (hw _)⟩
  case xor => subst h; exact ⟨_, by simp [binOp, Op.intBits, bitsOf], .int _ _ (hw _)⟩
  case andNot => subst h; exact ⟨_, by simp [binOp, Op.intBits, bitsOf], .int _ _ (hw _)⟩
  case eql => subst h; exact ⟨_, by simp [binOp, Op.intCmp]; rfl, .bool _⟩
  case neq => subst h; exact ⟨_, by simp [binOp, Op.intCmp]; rfl, .bool _⟩
  case lss => subst h; exact ⟨_, by simp [binOp, Op.intCmp], .bool _⟩
  case leq => subst h; exact ⟨_, by simp [binOp, Op.intCmp], .bool _⟩
  case gtr => subst h; exact ⟨_, by simp [binOp, Op.intCmp], .bool _⟩
  case geq => subst h; exact ⟨_, by simp [binOp, Op.intCmp], .bool _⟩

theorem evShift_sound {op : BinOp} {k k' : IntKind} {a b : Int} {c : CV tb.T} {xt : Nat} (h : evShift op k a b some = some c) (ha : inR k a)
    (hs : op = .shl ∨ op = .shr) : ∃ u, (binOp op xt (.int k a) (.int k' b)).run P w = .ok u w ∧ RepD P tb g w c u := by
  have hw := wrap_inR k
  unfold evShift at h
  by_cases hb : b < 0
  · simp [hb] at h
  · simp only [hb, decide_false, brn_false] at h
    rcases hs with rfl | rfl
    · simp only [Option.some.injEq] at h; subst h
      exact ⟨_, by simp [binOp, Op.shift, hb], .int _ _ (hw _)⟩
    · simp only [Option.some.injEq] at h; subst h
      refine ⟨_, by simp [binOp, Op.shift, hb], .int _ _ ?_⟩
      have hp : (0 : Int) < 2 ^ (min b.toNat k.bits) := Int.pow_pos (by decide)
      generalize (2 : Int) ^ (min b.toNat k.bits) = p at *
      rw [Int.fdiv_eq_ediv_of_nonneg _ (by omega)]
      have hlo : lo k ≤ 0 := by unfold lo; cases k <;> simp
      have hhi : 0 ≤ hi k := by unfold hi; cases k <;> simp
      unfold inR at *
      rcases Int.le_total 0 a with h0 | h0
      · have h1 := Int.ediv_nonneg h0 (show 0 ≤ p by omega)
        have h2 := Int.ediv_le_self p h0
        constructor <;> omega
      · have h1 : a ≤ a / p := by
          rw [Int.le_ediv_iff_mul_le hp]
          have := Int.mul_le_mul_of_nonpos_left h0 (show (1 : Int) ≤ p by omega)
          omega
        have h2 : a / p ≤ 0 := by have := Int.ediv_le_ediv hp h0; simpa using this
        constructor <;> omega

theorem evStr_sound {op : BinOp} {x y : List UInt8} {c : CV tb.T} {xt : Nat} (h : evStr op x y some = some c) :
    ∃ u, (binOp op xt (.string ⟨x.toArray⟩) (.string ⟨y.toArray⟩)).run P w = .ok u w ∧ RepD P tb g w c u := by
  have hd : ∀ a b : List UInt8, (a == b) = decide (a = b) := fun a b => by
    by_cases e : a = b
    · subst e; simp
    · simp [e]
  cases op <;> simp only [evStr, Option.some.injEq, reduceCtorEq] at h
  case add =>
    obtain ⟨z, hz, h⟩ := obnd_eq_some.1 h
    simp only [Option.some.injEq] at h; subst h
    unfold cat at hz
    cases hf : fits (x.length + y.length) <;> simp [hf] at hz
    subst hz
    have hl := fits_iff.1 hf
    refine ⟨.string ⟨(x ++ y).toArray⟩, ?_, .str _ (by simpa using hl)⟩
    have hn : ¬ (((x.length + y.length : Nat) : Int) > IntKind.i64.max) := by
      show ¬ (((x.length + y.length : Nat) : Int) > 9223372036854775807)
      unfold mxLen at hl; omega
    have ha : (⟨x.toArray⟩ : ByteArray) ++ (⟨y.toArray⟩ : ByteArray) = ⟨(x ++ y).toArray⟩ := by
      apply ByteArray.ext; simp
    simp only [binOp, Op.stringOp, size_mk, if_neg hn, ha, Sem.run_pure]
  case eql => subst h; exact ⟨_, by simp only [binOp, Op.stringOp, toList_mk, hd, Sem.run_pure], .bool _⟩
  case neq => subst h; exact ⟨_, by simp only [binOp, Op.stringOp, toList_mk, hd, Sem.run_pure], .bool _⟩
  case lss => subst h; exact ⟨_, by simp only [binOp, Op.stringOp, toList_mk, Sem.run_pure]; rfl, .bool _⟩
  case leq => subst h; exact ⟨_, by simp only [binOp, Op.stringOp, toList_mk, hd, Sem.run_pure]; rfl, .bool _⟩
  case gtr => subst h; exact ⟨_, by simp only [binOp, Op.stringOp, toList_mk, hd, Sem.run_pure]; rfl, .bool _⟩
  case geq => subst h; exact ⟨_, by simp only [binOp, Op.stringOp, toList_mk, Sem.run_pure]; rfl, .bool _⟩

end Go.Ev
