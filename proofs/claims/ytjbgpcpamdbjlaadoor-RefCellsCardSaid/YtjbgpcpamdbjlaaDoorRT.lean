/- The types of the places, as data. -/
import Derived.Test.YtjbgpcpamdbjlaaDoorEvL
import Derived.Lib.ItoaNum
import Derived.Test.YtjbgpcpamdbjlaaDoorChecked
namespace Go.Proofs.YtjbgpcpamdbjlaaDoor
open Go Go.Ev

structure Cell where
  Row : Int
  Col : Int
  deriving DecidableEq
structure Ref where
  Row : Int
  Col : Int
  RelRow : Bool
  RelCol : Bool
  deriving DecidableEq
structure Area where
  A : Ref
  B : Ref
  deriving DecidableEq

def T : Nat → Type
  | 2 => Int | 3 => Int | 4 => Bool | 5 => UInt8 | 9 => List UInt8 | 21 => Int | 23 => Ref | 25 => Cell | 27 => Int | 30 => Ref | 34 => Cell
  | 42 => Area | 48 => Area | 52 => List Cell | 54 => List Cell | 64 => Int | 73 => List UInt8
  | _ => Unit
def encRef (x : Ref) : List (CV T) := [.int .i64 x.Row, .int .i64 x.Col, .bool x.RelRow, .bool x.RelCol]
def encCell (x : Cell) : List (CV T) := [.int .i64 x.Row, .int .i64 x.Col]
def encArea (x : Area) : List (CV T) := [.int .i64 x.A.Row, .int .i64 x.A.Col, .bool x.A.RelRow, .bool x.A.RelCol, .int .i64 x.B.Row, .int .i64 x.B.Col, .bool x.B.RelRow, .bool x.B.RelCol]
def enc : (e : Nat) → T e → List (CV T)
  | 2, (x : Int) => [.int .i64 x]
  | 3, (x : Int) => [.int .i64 x]
  | 4, (x : Bool) => [.bool x]
  | 5, (x : UInt8) => [.int .u8 (x.toNat : Int)]
  | 9, (x : List UInt8) => [.str x]
  | 21, (x : Int) => [.int .i32 x]
  | 23, (x : Ref) => encRef x
  | 25, (x : Cell) => encCell x
  | 27, (x : Int) => [.int .i64 x]
  | 30, (x : Ref) => encRef x
  | 34, (x : Cell) => encCell x
  | 42, (x : Area) => encArea x
  | 48, (x : Area) => encArea x
  | 52, (x : List Cell) => [.sl 25 x]
  | 54, (x : List Cell) => [.sl 34 x]
  | 64, (x : Int) => [.int .u16 x]
  | 73, (x : List UInt8) => [.sl 5 x]
  | _, _ => []
def asSl (e : Nat) (c : CV T) : Option (List (T e)) := match c with
  | .nil => some []
  | .sl e' xs => if h : e' = e then some (h ▸ xs) else none
  | _ => none
def decRef : List (CV T) → Option Ref
  | [.int .i64 a, .int .i64 b, .bool c, .bool d] => some ⟨a, b, c, d⟩
  | _ => none
def decCell : List (CV T) → Option Cell
  | [.int .i64 a, .int .i64 b] => some ⟨a, b⟩
  | _ => none
def decArea : List (CV T) → Option Area
  | [.int .i64 a, .int .i64 b, .bool c, .bool d, .int .i64 a', .int .i64 b', .bool c', .bool d'] => some ⟨⟨a, b, c, d⟩, ⟨a', b', c', d'⟩⟩
  | _ => none
def decI (k : IntKind) : List (CV T) → Option Int
  | [.int k' x] => bif decide (k' = k) then some x else none
  | _ => none
def decB : List (CV T) → Option Bool
  | [.bool x] => some x
  | _ => none
def decU : List (CV T) → Option UInt8
  | [.int .u8 x] => some (UInt8.ofNat x.toNat)
  | _ => none
def decS : List (CV T) → Option (List UInt8)
  | [.str x] => some x
  | _ => none
def decL (e : Nat) : List (CV T) → Option (List (T e))
  | [c] => asSl e c
  | _ => none
def dec (e : Nat) : List (CV T) → Option (T e) :=
  if h : e = 2 then h ▸ (decI .i64 : List (CV T) → Option (T 2)) else
  if h : e = 3 then h ▸ (decI .i64 : List (CV T) → Option (T 3)) else
  if h : e = 4 then h ▸ (decB : List (CV T) → Option (T 4)) else
  if h : e = 5 then h ▸ (decU : List (CV T) → Option (T 5)) else
  if h : e = 9 then h ▸ (decS : List (CV T) → Option (T 9)) else
  if h : e = 21 then h ▸ (decI .i32 : List (CV T) → Option (T 21)) else
  if h : e = 23 then h ▸ (decRef : List (CV T) → Option (T 23)) else
  if h : e = 25 then h ▸ (decCell : List (CV T) → Option (T 25)) else
  if h : e = 27 then h ▸ (decI .i64 : List (CV T) → Option (T 27)) else
  if h : e = 30 then h ▸ (decRef : List (CV T) → Option (T 30)) else
  if h : e = 34 then h ▸ (decCell : List (CV T) → Option (T 34)) else
  if h : e = 42 then h ▸ (decArea : List (CV T) → Option (T 42)) else
  if h : e = 48 then h ▸ (decArea : List (CV T) → Option (T 48)) else
  if h : e = 52 then h ▸ (decL 25 : List (CV T) → Option (T 52)) else
  if h : e = 54 then h ▸ (decL 34 : List (CV T) → Option (T 54)) else
  if h : e = 64 then h ▸ (decI .u16 : List (CV T) → Option (T 64)) else
  if h : e = 73 then h ▸ (decL 5 : List (CV T) → Option (T 73)) else
  fun _ => none

theorem asSl_le {e : Nat} {c : CV T} {x : List (T e)} (h : asSl e c = some x) : CV.le c (.sl e x) := by
  unfold asSl at h
  split at h
  · simp only [Option.some.injEq] at h; subst h; exact .inr ⟨rfl, e, rfl⟩
  · rename_i e' xs
    by_cases he : e' = e
    · subst he; simp only [dite_true, Option.some.injEq] at h; subst h; exact .inl rfl
    · simp [he] at h
  · cases h
theorem all2_refl (cs : List (CV T)) : All2 CV.le cs cs := by
  induction cs with
  | nil => trivial
  | cons c cs ih => exact ⟨.inl rfl, ih⟩
theorem decRef_le {cs : List (CV T)} {x : Ref} (h : decRef cs = some x) : All2 CV.le cs (encRef x) := by
  unfold decRef at h
  split at h
  · simp only [Option.some.injEq] at h; subst h; exact all2_refl _
  · cases h
theorem decCell_le {cs : List (CV T)} {x : Cell} (h : decCell cs = some x) : All2 CV.le cs (encCell x) := by
  unfold decCell at h
  split at h
  · simp only [Option.some.injEq] at h; subst h; exact all2_refl _
  · cases h
theorem decArea_le {cs : List (CV T)} {x : Area} (h : decArea cs = some x) : All2 CV.le cs (encArea x) := by
  unfold decArea at h
  split at h
  · simp only [Option.some.injEq] at h; subst h; exact all2_refl _
  · cases h
theorem u8_back {x : Int} (h : Ev.inR .u8 x) : ((UInt8.ofNat x.toNat).toNat : Int) = x := by
  obtain ⟨h1, h2⟩ := h
  simp only [lo, hi] at h1 h2
  simp only [UInt8.toNat_ofNat']
  omega
theorem decI_le {k : IntKind} {cs : List (CV T)} {x : Int} (h : decI k cs = some x) : All2 CV.le cs [.int k x] := by
  unfold decI at h
  split at h
  · rename_i k' y
    cases hk : decide (k' = k) with
    | false => simp [hk] at h
    | true => simp only [hk, cond_true, Option.some.injEq] at h; subst h; have := of_decide_eq_true hk; subst this; exact all2_refl _
  · cases h
theorem decB_le {cs : List (CV T)} {x : Bool} (h : decB cs = some x) : All2 CV.le cs [.bool x] := by
  unfold decB at h
  split at h
  · simp only [Option.some.injEq] at h; subst h; exact all2_refl _
  · cases h
theorem decS_le {cs : List (CV T)} {x : List UInt8} (h : decS cs = some x) : All2 CV.le cs [.str x] := by
  unfold decS at h
  split at h
  · simp only [Option.some.injEq] at h; subst h; exact all2_refl _
  · cases h
theorem decL_le {e : Nat} {cs : List (CV T)} {x : List (T e)} (h : decL e cs = some x) : All2 CV.le cs [.sl e x] := by
  unfold decL at h
  split at h
  · exact ⟨asSl_le h, trivial⟩
  · cases h
theorem decU_le {cs : List (CV T)} {x : UInt8} (h : decU cs = some x) (hr : ∀ c ∈ cs, c.inR) : All2 CV.le cs [.int .u8 (x.toNat : Int)] := by
  unfold decU at h
  split at h
  · simp only [Option.some.injEq] at h; subst h
    have := hr _ (List.mem_singleton.2 rfl)
    rw [u8_back this]; exact all2_refl _
  · cases h
theorem dec_none {e : Nat} (h : ¬ e ∈ [2, 3, 4, 5, 9, 21, 23, 25, 27, 30, 34, 42, 48, 52, 54, 64, 73]) : dec e = fun _ => none := by
  simp only [List.mem_cons, List.not_mem_nil, or_false, not_or] at h
  simp [dec, h]
theorem dec_ok (e : Nat) (cs : List (CV T)) (x : T e) (h : dec e cs = some x) (hr : ∀ c ∈ cs, c.inR) : All2 CV.le cs (enc e x) := by
  by_cases hm : e ∈ [2, 3, 4, 5, 9, 21, 23, 25, 27, 30, 34, 42, 48, 52, 54, 64, 73]
  · simp only [List.mem_cons, List.not_mem_nil, or_false] at hm
    rcases hm with rfl | rfl | rfl | rfl | rfl | rfl | rfl | rfl | rfl | rfl | rfl | rfl | rfl | rfl | rfl | rfl | rfl
    · exact decI_le (x := x) h
    · exact decI_le (x := x) h
    · exact decB_le (x := x) h
    · exact decU_le (x := x) h hr
    · exact decS_le (x := x) h
    · exact decI_le (x := x) h
    · exact decRef_le (x := x) h
    · exact decCell_le (x := x) h
    · exact decI_le (x := x) h
    · exact decRef_le (x := x) h
    · exact decCell_le (x := x) h
    · exact decArea_le (x := x) h
    · exact decArea_le (x := x) h
    · exact decL_le (e := 25) (x := x) h
    · exact decL_le (e := 34) (x := x) h
    · exact decI_le (x := x) h
    · exact decL_le (e := 5) (x := x) h
  · rw [dec_none hm] at h; cases h

/-- the powers of ten of Go's library lie where they lay, for good -/
def Pows : Gh → World → Prop := TabAt Tryd.prog "internal/strconv.uint64pow10" .u64 Lib.pow10Tab
def tb : Tab := ⟨T, enc, dec, dec_ok, 5, rfl, fun _ => rfl, Pows, TabAt.ext⟩
end Go.Proofs.YtjbgpcpamdbjlaaDoor
