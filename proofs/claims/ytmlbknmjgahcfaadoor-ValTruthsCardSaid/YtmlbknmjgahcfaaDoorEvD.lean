/- Cells decoded, one by one: what the tables of types are made of. -/
import Derived.Test.YtmlbknmjgahcfaaDoorEvL
import Derived.Test.YtmlbknmjgahcfaaDoorEvF
namespace Go.Ev
open Go

variable {T : Nat → Type}

/-- bytes, written out -/
@[reducible] def U8s (l : List UInt8) : List UInt8 := l

def dbnd {α β : Type} (x : Option α) (f : α → Option β) : Option β := match x with | some a => f a | none => none
theorem dbnd_eq {α β : Type} {x : Option α} {f : α → Option β} {r : β} (h : dbnd x f = some r) : ∃ a, x = some a ∧ f a = some r := by
  cases x with
  | none => cases h
  | some a => exact ⟨a, rfl, h⟩
def dI (k : IntKind) : CV T → Option Int
  | .int k' x => bif decide (k' = k) then some x else none
  | _ => none
def dB : CV T → Option Bool
  | .bool x => some x
  | _ => none
def dU : CV T → Option UInt8
  | .int k x => bif decide (k = .u8) then some (UInt8.ofNat x.toNat) else none
  | _ => none
def dS : CV T → Option (List UInt8)
  | .str x => some x
  | _ => none
def asSl (e : Nat) (c : CV T) : Option (List (T e)) := match c with
  | .nil => some []
  | .sl e' xs => if h : e' = e then some (h ▸ xs) else none
  | _ => none
theorem dI_le {k : IntKind} {c : CV T} {x : Int} (h : dI k c = some x) : CV.le c (.int k x) := by
  cases c <;> simp only [dI, reduceCtorEq] at h
  rename_i k' y
  cases hk : decide (k' = k) with
  | false => simp [hk] at h
  | true => simp only [hk, cond_true, Option.some.injEq] at h; subst h; have := of_decide_eq_true hk; subst this; exact .inl rfl
theorem dB_le {c : CV T} {x : Bool} (h : dB c = some x) : CV.le c (.bool x) := by
  cases c <;> simp only [dB, reduceCtorEq, Option.some.injEq] at h
  subst h; exact .inl rfl
theorem dS_le {c : CV T} {x : List UInt8} (h : dS c = some x) : CV.le c (.str x) := by
  cases c <;> simp only [dS, reduceCtorEq, Option.some.injEq] at h
  subst h; exact .inl rfl
theorem u8_back {x : Int} (h : Ev.inR .u8 x) : ((UInt8.ofNat x.toNat).toNat : Int) = x := by
  obtain ⟨h1, h2⟩ := h
  simp only [lo, hi] at h1 h2
  simp only [UInt8.toNat_ofNat']
  omega
theorem dU_le {c : CV T} {x : UInt8} (h : dU c = some x) (hr : c.inR) : CV.le c (.int .u8 (x.toNat : Int)) := by
  cases c <;> simp only [dU, reduceCtorEq] at h
  rename_i k y
  cases hk : decide (k = IntKind.u8) with
  | false => simp [hk] at h
  | true =>
    simp only [hk, cond_true, Option.some.injEq] at h; subst h; have := of_decide_eq_true hk; subst this
    left
    rw [u8_back hr]
theorem asSl_le {e : Nat} {c : CV T} {x : List (T e)} (h : asSl e c = some x) : CV.le c (.sl e x) := by
  unfold asSl at h
  split at h
  · simp only [Option.some.injEq] at h; subst h; exact .inr ⟨rfl, e, rfl⟩
  · rename_i e' xs
    by_cases he : e' = e
    · subst he; simp only [dite_true, Option.some.injEq] at h; subst h; exact .inl rfl
    · simp [he] at h
  · cases h
end Go.Ev
