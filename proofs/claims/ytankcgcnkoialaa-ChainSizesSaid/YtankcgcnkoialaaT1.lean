/- The types of this seat, as data. (by tab.py) -/
import Derived.Test.YtankcgcnkoialaaEvC
import Derived.Test.YtankcgcnkoialaaChecked
namespace Go.Proofs.Ytankcgcnkoialaa
open Go Go.Ev

structure Dec where
  M : Int
  S : Int
  deriving DecidableEq
structure Val where
  Kind : Int
  N : Dec
  S : List UInt8
  B : Bool
  E : Int
  deriving DecidableEq
structure Ref where
  Row : Int
  Col : Int
  RelRow : Bool
  RelCol : Bool
  deriving DecidableEq
structure Area where
  A : Ref
  B : Ref
  deriving DecidableEq
structure Expr where
  Kind : Int
  V : Val
  A : Area
  Sheet : Int
  Op : Int
  Kids : List Expr
def eExpr (x : Expr) : Expr := ⟨x.Kind, x.V, x.A, x.Sheet, x.Op, x.Kids⟩
theorem eExpr_eq (x : Expr) : eExpr x = x := by cases x; rfl
structure Cell where
  Row : Int
  Col : Int
  deriving DecidableEq
structure Place where
  Sheet : Int
  At : Cell
  deriving DecidableEq
structure Node where
  P : Place
  Base : Cell
  E : Expr
structure Rec where
  Type_ : Int
  Data : List UInt8
  Cuts : List Int
  At : Int
  deriving DecidableEq
structure Cursor where
  B : List UInt8
  At : Int
  deriving DecidableEq

def T : Nat → Type
  | 2 => Int
  | 3 => Int
  | 4 => Bool
  | 5 => UInt8
  | 9 => List UInt8
  | 24 => Dec
  | 26 => Val
  | 28 => Ref
  | 30 => Area
  | 31 => List Expr
  | 33 => Expr
  | 37 => List Place
  | 40 => Cell
  | 42 => Place
  | 44 => Node
  | 49 => List UInt8
  | 51 => List Node
  | 55 => List Int
  | 61 => Rec
  | 62 => Rec
  | 63 => Int
  | 68 => List Place
  | 79 => Int
  | 103 => Int
  | 106 => Int
  | 108 => Cell
  | 110 => Place
  | 114 => Cursor
  | 118 => Cursor
  | 125 => List Cell
  | 157 => Int
  | 164 => Int
  | _ => Unit
def enc : (e : Nat) → T e → List (CV T)
  | 2, (x : Int) => [.int .i64 x]
  | 3, (x : Int) => [.int .i64 x]
  | 4, (x : Bool) => [.bool x]
  | 5, (x : UInt8) => [.int .u8 (x.toNat : Int)]
  | 9, (x : List UInt8) => [.str x]
  | 24, (x : Dec) => [.int .i64 x.M, .int .i64 x.S]
  | 26, (x : Val) => [.int .i64 x.Kind, .int .i64 x.N.M, .int .i64 x.N.S, .str x.S, .bool x.B, .int .i64 x.E]
  | 28, (x : Ref) => [.int .i64 x.Row, .int .i64 x.Col, .bool x.RelRow, .bool x.RelCol]
  | 30, (x : Area) => [.int .i64 x.A.Row, .int .i64 x.A.Col, .bool x.A.RelRow, .bool x.A.RelCol, .int .i64 x.B.Row, .int .i64 x.B.Col, .bool x.B.RelRow, .bool x.B.RelCol]
  | 31, (x : List Expr) => [.sl 33 x]
  | 33, (x : Expr) => [.int .i64 x.Kind, .int .i64 x.V.Kind, .int .i64 x.V.N.M, .int .i64 x.V.N.S, .str x.V.S, .bool x.V.B, .int .i64 x.V.E, .int .i64 x.A.A.Row, .int .i64 x.A.A.Col, .bool x.A.A.RelRow, .bool x.A.A.RelCol, .int .i64 x.A.B.Row, .int .i64 x.A.B.Col, .bool x.A.B.RelRow, .bool x.A.B.RelCol, .int .i64 x.Sheet, .int .i64 x.Op, .sl 33 x.Kids]
  | 37, (x : List Place) => [.sl 42 x]
  | 40, (x : Cell) => [.int .i64 x.Row, .int .i64 x.Col]
  | 42, (x : Place) => [.int .i64 x.Sheet, .int .i64 x.At.Row, .int .i64 x.At.Col]
  | 44, (x : Node) => [.int .i64 x.P.Sheet, .int .i64 x.P.At.Row, .int .i64 x.P.At.Col, .int .i64 x.Base.Row, .int .i64 x.Base.Col, .int .i64 x.E.Kind, .int .i64 x.E.V.Kind, .int .i64 x.E.V.N.M, .int .i64 x.E.V.N.S, .str x.E.V.S, .bool x.E.V.B, .int .i64 x.E.V.E, .int .i64 x.E.A.A.Row, .int .i64 x.E.A.A.Col, .bool x.E.A.A.RelRow, .bool x.E.A.A.RelCol, .int .i64 x.E.A.B.Row, .int .i64 x.E.A.B.Col, .bool x.E.A.B.RelRow, .bool x.E.A.B.RelCol, .int .i64 x.E.Sheet, .int .i64 x.E.Op, .sl 33 x.E.Kids]
  | 49, (x : List UInt8) => [.sl 5 x]
  | 51, (x : List Node) => [.sl 44 x]
  | 55, (x : List Int) => [.sl 3 x]
  | 61, (x : Rec) => [.int .i64 x.Type_, .sl 5 x.Data, .sl 3 x.Cuts, .int .i64 x.At]
  | 62, (x : Rec) => [.int .i64 x.Type_, .sl 5 x.Data, .sl 3 x.Cuts, .int .i64 x.At]
  | 63, (x : Int) => [.int .i64 x]
  | 68, (x : List Place) => [.sl 110 x]
  | 79, (x : Int) => [.int .u16 x]
  | 103, (x : Int) => [.int .u64 x]
  | 106, (x : Int) => [.int .u64 x]
  | 108, (x : Cell) => [.int .i64 x.Row, .int .i64 x.Col]
  | 110, (x : Place) => [.int .i64 x.Sheet, .int .i64 x.At.Row, .int .i64 x.At.Col]
  | 114, (x : Cursor) => [.sl 5 x.B, .int .i64 x.At]
  | 118, (x : Cursor) => [.sl 5 x.B, .int .i64 x.At]
  | 125, (x : List Cell) => [.sl 40 x]
  | 157, (x : Int) => [.int .i64 x]
  | 164, (x : Int) => [.int .u32 x]
  | _, _ => []
def dec2 : List (CV T) → Option Int
  | [c0] => dbnd (dI .i64 c0 : Option Int) fun x0 => some (x0 : Int)
  | _ => none
theorem dec2_le {cs : List (CV T)} {x : Int} (h : dec2 cs = some x) (hr : ∀ c ∈ cs, c.inR) : All2 CV.le cs (enc 2 x) := by
  unfold dec2 at h
  split at h
  · obtain ⟨x0, h0, h⟩ := dbnd_eq h
    have h := Option.some.inj h; subst h
    exact ⟨dI_le h0, trivial⟩
  · cases h
def dec3 : List (CV T) → Option Int
  | [c0] => dbnd (dI .i64 c0 : Option Int) fun x0 => some (x0 : Int)
  | _ => none
theorem dec3_le {cs : List (CV T)} {x : Int} (h : dec3 cs = some x) (hr : ∀ c ∈ cs, c.inR) : All2 CV.le cs (enc 3 x) := by
  unfold dec3 at h
  split at h
  · obtain ⟨x0, h0, h⟩ := dbnd_eq h
    have h := Option.some.inj h; subst h
    exact ⟨dI_le h0, trivial⟩
  · cases h
def dec4 : List (CV T) → Option Bool
  | [c0] => dbnd (dB c0 : Option Bool) fun x0 => some (x0 : Bool)
  | _ => none
theorem dec4_le {cs : List (CV T)} {x : Bool} (h : dec4 cs = some x) (hr : ∀ c ∈ cs, c.inR) : All2 CV.le cs (enc 4 x) := by
  unfold dec4 at h
  split at h
  · obtain ⟨x0, h0, h⟩ := dbnd_eq h
    have h := Option.some.inj h; subst h
    exact ⟨dB_le h0, trivial⟩
  · cases h
def dec5 : List (CV T) → Option UInt8
  | [c0] => dbnd (dU c0 : Option UInt8) fun x0 => some (x0 : UInt8)
  | _ => none
theorem dec5_le {cs : List (CV T)} {x : UInt8} (h : dec5 cs = some x) (hr : ∀ c ∈ cs, c.inR) : All2 CV.le cs (enc 5 x) := by
  unfold dec5 at h
  split at h
  · obtain ⟨x0, h0, h⟩ := dbnd_eq h
    have h := Option.some.inj h; subst h
    exact ⟨dU_le h0 (hr _ (by simp)), trivial⟩
  · cases h
def dec9 : List (CV T) → Option (List UInt8)
  | [c0] => dbnd (dS c0 : Option (List UInt8)) fun x0 => some (x0 : List UInt8)
  | _ => none
theorem dec9_le {cs : List (CV T)} {x : List UInt8} (h : dec9 cs = some x) (hr : ∀ c ∈ cs, c.inR) : All2 CV.le cs (enc 9 x) := by
  unfold dec9 at h
  split at h
  · obtain ⟨x0, h0, h⟩ := dbnd_eq h
    have h := Option.some.inj h; subst h
    exact ⟨dS_le h0, trivial⟩
  · cases h
def dec24 : List (CV T) → Option Dec
  | [c0, c1] => dbnd (dI .i64 c0 : Option Int) fun x0 => dbnd (dI .i64 c1 : Option Int) fun x1 => some (⟨x0, x1⟩ : Dec)
  | _ => none
theorem dec24_le {cs : List (CV T)} {x : Dec} (h : dec24 cs = some x) (hr : ∀ c ∈ cs, c.inR) : All2 CV.le cs (enc 24 x) := by
  unfold dec24 at h
  split at h
  · obtain ⟨x0, h0, h⟩ := dbnd_eq h
    obtain ⟨x1, h1, h⟩ := dbnd_eq h
    have h := Option.some.inj h; subst h
    exact ⟨dI_le h0, dI_le h1, trivial⟩
  · cases h
def dec26 : List (CV T) → Option Val
  | [c0, c1, c2, c3, c4, c5] => dbnd (dI .i64 c0 : Option Int) fun x0 => dbnd (dI .i64 c1 : Option Int) fun x1 => dbnd (dI .i64 c2 : Option Int) fun x2 => dbnd (dS c3 : Option (List UInt8)) fun x3 => dbnd (dB c4 : Option Bool) fun x4 => dbnd (dI .i64 c5 : Option Int) fun x5 => some (⟨x0, ⟨x1, x2⟩, x3, x4, x5⟩ : Val)
  | _ => none
theorem dec26_le {cs : List (CV T)} {x : Val} (h : dec26 cs = some x) (hr : ∀ c ∈ cs, c.inR) : All2 CV.le cs (enc 26 x) := by
  unfold dec26 at h
  split at h
  · obtain ⟨x0, h0, h⟩ := dbnd_eq h
    obtain ⟨x1, h1, h⟩ := dbnd_eq h
    obtain ⟨x2, h2, h⟩ := dbnd_eq h
    obtain ⟨x3, h3, h⟩ := dbnd_eq h
    obtain ⟨x4, h4, h⟩ := dbnd_eq h
    obtain ⟨x5, h5, h⟩ := dbnd_eq h
    have h := Option.some.inj h; subst h
    exact ⟨dI_le h0, dI_le h1, dI_le h2, dS_le h3, dB_le h4, dI_le h5, trivial⟩
  · cases h
def dec28 : List (CV T) → Option Ref
  | [c0, c1, c2, c3] => dbnd (dI .i64 c0 : Option Int) fun x0 => dbnd (dI .i64 c1 : Option Int) fun x1 => dbnd (dB c2 : Option Bool) fun x2 => dbnd (dB c3 : Option Bool) fun x3 => some (⟨x0, x1, x2, x3⟩ : Ref)
  | _ => none
theorem dec28_le {cs : List (CV T)} {x : Ref} (h : dec28 cs = some x) (hr : ∀ c ∈ cs, c.inR) : All2 CV.le cs (enc 28 x) := by
  unfold dec28 at h
  split at h
  · obtain ⟨x0, h0, h⟩ := dbnd_eq h
    obtain ⟨x1, h1, h⟩ := dbnd_eq h
    obtain ⟨x2, h2, h⟩ := dbnd_eq h
    obtain ⟨x3, h3, h⟩ := dbnd_eq h
    have h := Option.some.inj h; subst h
    exact ⟨dI_le h0, dI_le h1, dB_le h2, dB_le h3, trivial⟩
  · cases h
def dec30 : List (CV T) → Option Area
  | [c0, c1, c2, c3, c4, c5, c6, c7] => dbnd (dI .i64 c0 : Option Int) fun x0 => dbnd (dI .i64 c1 : Option Int) fun x1 => dbnd (dB c2 : Option Bool) fun x2 => dbnd (dB c3 : Option Bool) fun x3 => dbnd (dI .i64 c4 : Option Int) fun x4 => dbnd (dI .i64 c5 : Option Int) fun x5 => dbnd (dB c6 : Option Bool) fun x6 => dbnd (dB c7 : Option Bool) fun x7 => some (⟨⟨x0, x1, x2, x3⟩, ⟨x4, x5, x6, x7⟩⟩ : Area)
  | _ => none
theorem dec30_le {cs : List (CV T)} {x : Area} (h : dec30 cs = some x) (hr : ∀ c ∈ cs, c.inR) : All2 CV.le cs (enc 30 x) := by
  unfold dec30 at h
  split at h
  · obtain ⟨x0, h0, h⟩ := dbnd_eq h
    obtain ⟨x1, h1, h⟩ := dbnd_eq h
    obtain ⟨x2, h2, h⟩ := dbnd_eq h
    obtain ⟨x3, h3, h⟩ := dbnd_eq h
    obtain ⟨x4, h4, h⟩ := dbnd_eq h
    obtain ⟨x5, h5, h⟩ := dbnd_eq h
    obtain ⟨x6, h6, h⟩ := dbnd_eq h
    obtain ⟨x7, h7, h⟩ := dbnd_eq h
    have h := Option.some.inj h; subst h
    exact ⟨dI_le h0, dI_le h1, dB_le h2, dB_le h3, dI_le h4, dI_le h5, dB_le h6, dB_le h7, trivial⟩
  · cases h
def dec31 : List (CV T) → Option (List Expr)
  | [c0] => dbnd (asSl 33 c0 : Option (List (T 33))) fun x0 => some (x0 : List Expr)
  | _ => none
theorem dec31_le {cs : List (CV T)} {x : List Expr} (h : dec31 cs = some x) (hr : ∀ c ∈ cs, c.inR) : All2 CV.le cs (enc 31 x) := by
  unfold dec31 at h
  split at h
  · obtain ⟨x0, h0, h⟩ := dbnd_eq h
    have h := Option.some.inj h; subst h
    exact ⟨asSl_le h0, trivial⟩
  · cases h
def dec33 : List (CV T) → Option Expr
  | [c0, c1, c2, c3, c4, c5, c6, c7, c8, c9, c10, c11, c12, c13, c14, c15, c16, c17] => dbnd (dI .i64 c0 : Option Int) fun x0 => dbnd (dI .i64 c1 : Option Int) fun x1 => dbnd (dI .i64 c2 : Option Int) fun x2 => dbnd (dI .i64 c3 : Option Int) fun x3 => dbnd (dS c4 : Option (List UInt8)) fun x4 => dbnd (dB c5 : Option Bool) fun x5 => dbnd (dI .i64 c6 : Option Int) fun x6 => dbnd (dI .i64 c7 : Option Int) fun x7 => dbnd (dI .i64 c8 : Option Int) fun x8 => dbnd (dB c9 : Option Bool) fun x9 => dbnd (dB c10 : Option Bool) fun x10 => dbnd (dI .i64 c11 : Option Int) fun x11 => dbnd (dI .i64 c12 : Option Int) fun x12 => dbnd (dB c13 : Option Bool) fun x13 => dbnd (dB c14 : Option Bool) fun x14 => dbnd (dI .i64 c15 : Option Int) fun x15 => dbnd (dI .i64 c16 : Option Int) fun x16 => dbnd (asSl 33 c17 : Option (List (T 33))) fun x17 => some (⟨x0, ⟨x1, ⟨x2, x3⟩, x4, x5, x6⟩, ⟨⟨x7, x8, x9, x10⟩, ⟨x11, x12, x13, x14⟩⟩, x15, x16, x17⟩ : Expr)
  | _ => none
theorem dec33_le {cs : List (CV T)} {x : Expr} (h : dec33 cs = some x) (hr : ∀ c ∈ cs, c.inR) : All2 CV.le cs (enc 33 x) := by
  unfold dec33 at h
  split at h
  · obtain ⟨x0, h0, h⟩ := dbnd_eq h
    obtain ⟨x1, h1, h⟩ := dbnd_eq h
    obtain ⟨x2, h2, h⟩ := dbnd_eq h
    obtain ⟨x3, h3, h⟩ := dbnd_eq h
    obtain ⟨x4, h4, h⟩ := dbnd_eq h
    obtain ⟨x5, h5, h⟩ := dbnd_eq h
    obtain ⟨x6, h6, h⟩ := dbnd_eq h
    obtain ⟨x7, h7, h⟩ := dbnd_eq h
    obtain ⟨x8, h8, h⟩ := dbnd_eq h
    obtain ⟨x9, h9, h⟩ := dbnd_eq h
    obtain ⟨x10, h10, h⟩ := dbnd_eq h
    obtain ⟨x11, h11, h⟩ := dbnd_eq h
    obtain ⟨x12, h12, h⟩ := dbnd_eq h
    obtain ⟨x13, h13, h⟩ := dbnd_eq h
    obtain ⟨x14, h14, h⟩ := dbnd_eq h
    obtain ⟨x15, h15, h⟩ := dbnd_eq h
    obtain ⟨x16, h16, h⟩ := dbnd_eq h
    obtain ⟨x17, h17, h⟩ := dbnd_eq h
    have h := Option.some.inj h; subst h
    exact ⟨dI_le h0, dI_le h1, dI_le h2, dI_le h3, dS_le h4, dB_le h5, dI_le h6, dI_le h7, dI_le h8, dB_le h9, dB_le h10, dI_le h11, dI_le h12, dB_le h13, dB_le h14, dI_le h15, dI_le h16, asSl_le h17, trivial⟩
  · cases h
def dec37 : List (CV T) → Option (List Place)
  | [c0] => dbnd (asSl 42 c0 : Option (List (T 42))) fun x0 => some (x0 : List Place)
  | _ => none
theorem dec37_le {cs : List (CV T)} {x : List Place} (h : dec37 cs = some x) (hr : ∀ c ∈ cs, c.inR) : All2 CV.le cs (enc 37 x) := by
  unfold dec37 at h
  split at h
  · obtain ⟨x0, h0, h⟩ := dbnd_eq h
    have h := Option.some.inj h; subst h
    exact ⟨asSl_le h0, trivial⟩
  · cases h
def dec40 : List (CV T) → Option Cell
  | [c0, c1] => dbnd (dI .i64 c0 : Option Int) fun x0 => dbnd (dI .i64 c1 : Option Int) fun x1 => some (⟨x0, x1⟩ : Cell)
  | _ => none
theorem dec40_le {cs : List (CV T)} {x : Cell} (h : dec40 cs = some x) (hr : ∀ c ∈ cs, c.inR) : All2 CV.le cs (enc 40 x) := by
  unfold dec40 at h
  split at h
  · obtain ⟨x0, h0, h⟩ := dbnd_eq h
    obtain ⟨x1, h1, h⟩ := dbnd_eq h
    have h := Option.some.inj h; subst h
    exact ⟨dI_le h0, dI_le h1, trivial⟩
  · cases h
def dec42 : List (CV T) → Option Place
  | [c0, c1, c2] => dbnd (dI .i64 c0 : Option Int) fun x0 => dbnd (dI .i64 c1 : Option Int) fun x1 => dbnd (dI .i64 c2 : Option Int) fun x2 => some (⟨x0, ⟨x1, x2⟩⟩ : Place)
  | _ => none
theorem dec42_le {cs : List (CV T)} {x : Place} (h : dec42 cs = some x) (hr : ∀ c ∈ cs, c.inR) : All2 CV.le cs (enc 42 x) := by
  unfold dec42 at h
  split at h
  · obtain ⟨x0, h0, h⟩ := dbnd_eq h
    obtain ⟨x1, h1, h⟩ := dbnd_eq h
    obtain ⟨x2, h2, h⟩ := dbnd_eq h
    have h := Option.some.inj h; subst h
    exact ⟨dI_le h0, dI_le h1, dI_le h2, trivial⟩
  · cases h
def dec44 : List (CV T) → Option Node
  | [c0, c1, c2, c3, c4, c5, c6, c7, c8, c9, c10, c11, c12, c13, c14, c15, c16, c17, c18, c19, c20, c21, c22] => dbnd (dI .i64 c0 : Option Int) fun x0 => dbnd (dI .i64 c1 : Option Int) fun x1 => dbnd (dI .i64 c2 : Option Int) fun x2 => dbnd (dI .i64 c3 : Option Int) fun x3 => dbnd (dI .i64 c4 : Option Int) fun x4 => dbnd (dI .i64 c5 : Option Int) fun x5 => dbnd (dI .i64 c6 : Option Int) fun x6 => dbnd (dI .i64 c7 : Option Int) fun x7 => dbnd (dI .i64 c8 : Option Int) fun x8 => dbnd (dS c9 : Option (List UInt8)) fun x9 => dbnd (dB c10 : Option Bool) fun x10 => dbnd (dI .i64 c11 : Option Int) fun x11 => dbnd (dI .i64 c12 : Option Int) fun x12 => dbnd (dI .i64 c13 : Option Int) fun x13 => dbnd (dB c14 : Option Bool) fun x14 => dbnd (dB c15 : Option Bool) fun x15 => dbnd (dI .i64 c16 : Option Int) fun x16 => dbnd (dI .i64 c17 : Option Int) fun x17 => dbnd (dB c18 : Option Bool) fun x18 => dbnd (dB c19 : Option Bool) fun x19 => dbnd (dI .i64 c20 : Option Int) fun x20 => dbnd (dI .i64 c21 : Option Int) fun x21 => dbnd (asSl 33 c22 : Option (List (T 33))) fun x22 => some (⟨⟨x0, ⟨x1, x2⟩⟩, ⟨x3, x4⟩, ⟨x5, ⟨x6, ⟨x7, x8⟩, x9, x10, x11⟩, ⟨⟨x12, x13, x14, x15⟩, ⟨x16, x17, x18, x19⟩⟩, x20, x21, x22⟩⟩ : Node)
  | _ => none
theorem dec44_le {cs : List (CV T)} {x : Node} (h : dec44 cs = some x) (hr : ∀ c ∈ cs, c.inR) : All2 CV.le cs (enc 44 x) := by
  unfold dec44 at h
  split at h
  · obtain ⟨x0, h0, h⟩ := dbnd_eq h
    obtain ⟨x1, h1, h⟩ := dbnd_eq h
    obtain ⟨x2, h2, h⟩ := dbnd_eq h
    obtain ⟨x3, h3, h⟩ := dbnd_eq h
    obtain ⟨x4, h4, h⟩ := dbnd_eq h
    obtain ⟨x5, h5, h⟩ := dbnd_eq h
    obtain ⟨x6, h6, h⟩ := dbnd_eq h
    obtain ⟨x7, h7, h⟩ := dbnd_eq h
    obtain ⟨x8, h8, h⟩ := dbnd_eq h
    obtain ⟨x9, h9, h⟩ := dbnd_eq h
    obtain ⟨x10, h10, h⟩ := dbnd_eq h
    obtain ⟨x11, h11, h⟩ := dbnd_eq h
    obtain ⟨x12, h12, h⟩ := dbnd_eq h
    obtain ⟨x13, h13, h⟩ := dbnd_eq h
    obtain ⟨x14, h14, h⟩ := dbnd_eq h
    obtain ⟨x15, h15, h⟩ := dbnd_eq h
    obtain ⟨x16, h16, h⟩ := dbnd_eq h
    obtain ⟨x17, h17, h⟩ := dbnd_eq h
    obtain ⟨x18, h18, h⟩ := dbnd_eq h
    obtain ⟨x19, h19, h⟩ := dbnd_eq h
    obtain ⟨x20, h20, h⟩ := dbnd_eq h
    obtain ⟨x21, h21, h⟩ := dbnd_eq h
    obtain ⟨x22, h22, h⟩ := dbnd_eq h
    have h := Option.some.inj h; subst h
    exact ⟨dI_le h0, dI_le h1, dI_le h2, dI_le h3, dI_le h4, dI_le h5, dI_le h6, dI_le h7, dI_le h8, dS_le h9, dB_le h10, dI_le h11, dI_le h12, dI_le h13, dB_le h14, dB_le h15, dI_le h16, dI_le h17, dB_le h18, dB_le h19, dI_le h20, dI_le h21, asSl_le h22, trivial⟩
  · cases h
def dec49 : List (CV T) → Option (List UInt8)
  | [c0] => dbnd (asSl 5 c0 : Option (List (T 5))) fun x0 => some (x0 : List UInt8)
  | _ => none
theorem dec49_le {cs : List (CV T)} {x : List UInt8} (h : dec49 cs = some x) (hr : ∀ c ∈ cs, c.inR) : All2 CV.le cs (enc 49 x) := by
  unfold dec49 at h
  split at h
  · obtain ⟨x0, h0, h⟩ := dbnd_eq h
    have h := Option.some.inj h; subst h
    exact ⟨asSl_le h0, trivial⟩
  · cases h
def dec51 : List (CV T) → Option (List Node)
  | [c0] => dbnd (asSl 44 c0 : Option (List (T 44))) fun x0 => some (x0 : List Node)
  | _ => none
theorem dec51_le {cs : List (CV T)} {x : List Node} (h : dec51 cs = some x) (hr : ∀ c ∈ cs, c.inR) : All2 CV.le cs (enc 51 x) := by
  unfold dec51 at h
  split at h
  · obtain ⟨x0, h0, h⟩ := dbnd_eq h
    have h := Option.some.inj h; subst h
    exact ⟨asSl_le h0, trivial⟩
  · cases h
def dec55 : List (CV T) → Option (List Int)
  | [c0] => dbnd (asSl 3 c0 : Option (List (T 3))) fun x0 => some (x0 : List Int)
  | _ => none
theorem dec55_le {cs : List (CV T)} {x : List Int} (h : dec55 cs = some x) (hr : ∀ c ∈ cs, c.inR) : All2 CV.le cs (enc 55 x) := by
  unfold dec55 at h
  split at h
  · obtain ⟨x0, h0, h⟩ := dbnd_eq h
    have h := Option.some.inj h; subst h
    exact ⟨asSl_le h0, trivial⟩
  · cases h
def dec61 : List (CV T) → Option Rec
  | [c0, c1, c2, c3] => dbnd (dI .i64 c0 : Option Int) fun x0 => dbnd (asSl 5 c1 : Option (List (T 5))) fun x1 => dbnd (asSl 3 c2 : Option (List (T 3))) fun x2 => dbnd (dI .i64 c3 : Option Int) fun x3 => some (⟨x0, x1, x2, x3⟩ : Rec)
  | _ => none
theorem dec61_le {cs : List (CV T)} {x : Rec} (h : dec61 cs = some x) (hr : ∀ c ∈ cs, c.inR) : All2 CV.le cs (enc 61 x) := by
  unfold dec61 at h
  split at h
  · obtain ⟨x0, h0, h⟩ := dbnd_eq h
    obtain ⟨x1, h1, h⟩ := dbnd_eq h
    obtain ⟨x2, h2, h⟩ := dbnd_eq h
    obtain ⟨x3, h3, h⟩ := dbnd_eq h
    have h := Option.some.inj h; subst h
    exact ⟨dI_le h0, asSl_le h1, asSl_le h2, dI_le h3, trivial⟩
  · cases h
def dec62 : List (CV T) → Option Rec
  | [c0, c1, c2, c3] => dbnd (dI .i64 c0 : Option Int) fun x0 => dbnd (asSl 5 c1 : Option (List (T 5))) fun x1 => dbnd (asSl 3 c2 : Option (List (T 3))) fun x2 => dbnd (dI .i64 c3 : Option Int) fun x3 => some (⟨x0, x1, x2, x3⟩ : Rec)
  | _ => none
theorem dec62_le {cs : List (CV T)} {x : Rec} (h : dec62 cs = some x) (hr : ∀ c ∈ cs, c.inR) : All2 CV.le cs (enc 62 x) := by
  unfold dec62 at h
  split at h
  · obtain ⟨x0, h0, h⟩ := dbnd_eq h
    obtain ⟨x1, h1, h⟩ := dbnd_eq h
    obtain ⟨x2, h2, h⟩ := dbnd_eq h
    obtain ⟨x3, h3, h⟩ := dbnd_eq h
    have h := Option.some.inj h; subst h
    exact ⟨dI_le h0, asSl_le h1, asSl_le h2, dI_le h3, trivial⟩
  · cases h
def dec63 : List (CV T) → Option Int
  | [c0] => dbnd (dI .i64 c0 : Option Int) fun x0 => some (x0 : Int)
  | _ => none
theorem dec63_le {cs : List (CV T)} {x : Int} (h : dec63 cs = some x) (hr : ∀ c ∈ cs, c.inR) : All2 CV.le cs (enc 63 x) := by
  unfold dec63 at h
  split at h
  · obtain ⟨x0, h0, h⟩ := dbnd_eq h
    have h := Option.some.inj h; subst h
    exact ⟨dI_le h0, trivial⟩
  · cases h
def dec68 : List (CV T) → Option (List Place)
  | [c0] => dbnd (asSl 110 c0 : Option (List (T 110))) fun x0 => some (x0 : List Place)
  | _ => none
theorem dec68_le {cs : List (CV T)} {x : List Place} (h : dec68 cs = some x) (hr : ∀ c ∈ cs, c.inR) : All2 CV.le cs (enc 68 x) := by
  unfold dec68 at h
  split at h
  · obtain ⟨x0, h0, h⟩ := dbnd_eq h
    have h := Option.some.inj h; subst h
    exact ⟨asSl_le h0, trivial⟩
  · cases h
def dec79 : List (CV T) → Option Int
  | [c0] => dbnd (dI .u16 c0 : Option Int) fun x0 => some (x0 : Int)
  | _ => none
theorem dec79_le {cs : List (CV T)} {x : Int} (h : dec79 cs = some x) (hr : ∀ c ∈ cs, c.inR) : All2 CV.le cs (enc 79 x) := by
  unfold dec79 at h
  split at h
  · obtain ⟨x0, h0, h⟩ := dbnd_eq h
    have h := Option.some.inj h; subst h
    exact ⟨dI_le h0, trivial⟩
  · cases h
def dec103 : List (CV T) → Option Int
  | [c0] => dbnd (dI .u64 c0 : Option Int) fun x0 => some (x0 : Int)
  | _ => none
theorem dec103_le {cs : List (CV T)} {x : Int} (h : dec103 cs = some x) (hr : ∀ c ∈ cs, c.inR) : All2 CV.le cs (enc 103 x) := by
  unfold dec103 at h
  split at h
  · obtain ⟨x0, h0, h⟩ := dbnd_eq h
    have h := Option.some.inj h; subst h
    exact ⟨dI_le h0, trivial⟩
  · cases h
def dec106 : List (CV T) → Option Int
  | [c0] => dbnd (dI .u64 c0 : Option Int) fun x0 => some (x0 : Int)
  | _ => none
theorem dec106_le {cs : List (CV T)} {x : Int} (h : dec106 cs = some x) (hr : ∀ c ∈ cs, c.inR) : All2 CV.le cs (enc 106 x) := by
  unfold dec106 at h
  split at h
  · obtain ⟨x0, h0, h⟩ := dbnd_eq h
    have h := Option.some.inj h; subst h
    exact ⟨dI_le h0, trivial⟩
  · cases h
def dec108 : List (CV T) → Option Cell
  | [c0, c1] => dbnd (dI .i64 c0 : Option Int) fun x0 => dbnd (dI .i64 c1 : Option Int) fun x1 => some (⟨x0, x1⟩ : Cell)
  | _ => none
theorem dec108_le {cs : List (CV T)} {x : Cell} (h : dec108 cs = some x) (hr : ∀ c ∈ cs, c.inR) : All2 CV.le cs (enc 108 x) := by
  unfold dec108 at h
  split at h
  · obtain ⟨x0, h0, h⟩ := dbnd_eq h
    obtain ⟨x1, h1, h⟩ := dbnd_eq h
    have h := Option.some.inj h; subst h
    exact ⟨dI_le h0, dI_le h1, trivial⟩
  · cases h
def dec110 : List (CV T) → Option Place
  | [c0, c1, c2] => dbnd (dI .i64 c0 : Option Int) fun x0 => dbnd (dI .i64 c1 : Option Int) fun x1 => dbnd (dI .i64 c2 : Option Int) fun x2 => some (⟨x0, ⟨x1, x2⟩⟩ : Place)
  | _ => none
theorem dec110_le {cs : List (CV T)} {x : Place} (h : dec110 cs = some x) (hr : ∀ c ∈ cs, c.inR) : All2 CV.le cs (enc 110 x) := by
  unfold dec110 at h
  split at h
  · obtain ⟨x0, h0, h⟩ := dbnd_eq h
    obtain ⟨x1, h1, h⟩ := dbnd_eq h
    obtain ⟨x2, h2, h⟩ := dbnd_eq h
    have h := Option.some.inj h; subst h
    exact ⟨dI_le h0, dI_le h1, dI_le h2, trivial⟩
  · cases h
def dec114 : List (CV T) → Option Cursor
  | [c0, c1] => dbnd (asSl 5 c0 : Option (List (T 5))) fun x0 => dbnd (dI .i64 c1 : Option Int) fun x1 => some (⟨x0, x1⟩ : Cursor)
  | _ => none
theorem dec114_le {cs : List (CV T)} {x : Cursor} (h : dec114 cs = some x) (hr : ∀ c ∈ cs, c.inR) : All2 CV.le cs (enc 114 x) := by
  unfold dec114 at h
  split at h
  · obtain ⟨x0, h0, h⟩ := dbnd_eq h
    obtain ⟨x1, h1, h⟩ := dbnd_eq h
    have h := Option.some.inj h; subst h
    exact ⟨asSl_le h0, dI_le h1, trivial⟩
  · cases h
def dec118 : List (CV T) → Option Cursor
  | [c0, c1] => dbnd (asSl 5 c0 : Option (List (T 5))) fun x0 => dbnd (dI .i64 c1 : Option Int) fun x1 => some (⟨x0, x1⟩ : Cursor)
  | _ => none
theorem dec118_le {cs : List (CV T)} {x : Cursor} (h : dec118 cs = some x) (hr : ∀ c ∈ cs, c.inR) : All2 CV.le cs (enc 118 x) := by
  unfold dec118 at h
  split at h
  · obtain ⟨x0, h0, h⟩ := dbnd_eq h
    obtain ⟨x1, h1, h⟩ := dbnd_eq h
    have h := Option.some.inj h; subst h
    exact ⟨asSl_le h0, dI_le h1, trivial⟩
  · cases h
def dec125 : List (CV T) → Option (List Cell)
  | [c0] => dbnd (asSl 40 c0 : Option (List (T 40))) fun x0 => some (x0 : List Cell)
  | _ => none
theorem dec125_le {cs : List (CV T)} {x : List Cell} (h : dec125 cs = some x) (hr : ∀ c ∈ cs, c.inR) : All2 CV.le cs (enc 125 x) := by
  unfold dec125 at h
  split at h
  · obtain ⟨x0, h0, h⟩ := dbnd_eq h
    have h := Option.some.inj h; subst h
    exact ⟨asSl_le h0, trivial⟩
  · cases h
def dec157 : List (CV T) → Option Int
  | [c0] => dbnd (dI .i64 c0 : Option Int) fun x0 => some (x0 : Int)
  | _ => none
theorem dec157_le {cs : List (CV T)} {x : Int} (h : dec157 cs = some x) (hr : ∀ c ∈ cs, c.inR) : All2 CV.le cs (enc 157 x) := by
  unfold dec157 at h
  split at h
  · obtain ⟨x0, h0, h⟩ := dbnd_eq h
    have h := Option.some.inj h; subst h
    exact ⟨dI_le h0, trivial⟩
  · cases h
def dec164 : List (CV T) → Option Int
  | [c0] => dbnd (dI .u32 c0 : Option Int) fun x0 => some (x0 : Int)
  | _ => none
theorem dec164_le {cs : List (CV T)} {x : Int} (h : dec164 cs = some x) (hr : ∀ c ∈ cs, c.inR) : All2 CV.le cs (enc 164 x) := by
  unfold dec164 at h
  split at h
  · obtain ⟨x0, h0, h⟩ := dbnd_eq h
    have h := Option.some.inj h; subst h
    exact ⟨dI_le h0, trivial⟩
  · cases h
def dec (e : Nat) : List (CV T) → Option (T e) :=
  if h : e = 2 then h ▸ (dec2 : List (CV T) → Option (T 2)) else
  if h : e = 3 then h ▸ (dec3 : List (CV T) → Option (T 3)) else
  if h : e = 4 then h ▸ (dec4 : List (CV T) → Option (T 4)) else
  if h : e = 5 then h ▸ (dec5 : List (CV T) → Option (T 5)) else
  if h : e = 9 then h ▸ (dec9 : List (CV T) → Option (T 9)) else
  if h : e = 24 then h ▸ (dec24 : List (CV T) → Option (T 24)) else
  if h : e = 26 then h ▸ (dec26 : List (CV T) → Option (T 26)) else
  if h : e = 28 then h ▸ (dec28 : List (CV T) → Option (T 28)) else
  if h : e = 30 then h ▸ (dec30 : List (CV T) → Option (T 30)) else
  if h : e = 31 then h ▸ (dec31 : List (CV T) → Option (T 31)) else
  if h : e = 33 then h ▸ (dec33 : List (CV T) → Option (T 33)) else
  if h : e = 37 then h ▸ (dec37 : List (CV T) → Option (T 37)) else
  if h : e = 40 then h ▸ (dec40 : List (CV T) → Option (T 40)) else
  if h : e = 42 then h ▸ (dec42 : List (CV T) → Option (T 42)) else
  if h : e = 44 then h ▸ (dec44 : List (CV T) → Option (T 44)) else
  if h : e = 49 then h ▸ (dec49 : List (CV T) → Option (T 49)) else
  if h : e = 51 then h ▸ (dec51 : List (CV T) → Option (T 51)) else
  if h : e = 55 then h ▸ (dec55 : List (CV T) → Option (T 55)) else
  if h : e = 61 then h ▸ (dec61 : List (CV T) → Option (T 61)) else
  if h : e = 62 then h ▸ (dec62 : List (CV T) → Option (T 62)) else
  if h : e = 63 then h ▸ (dec63 : List (CV T) → Option (T 63)) else
  if h : e = 68 then h ▸ (dec68 : List (CV T) → Option (T 68)) else
  if h : e = 79 then h ▸ (dec79 : List (CV T) → Option (T 79)) else
  if h : e = 103 then h ▸ (dec103 : List (CV T) → Option (T 103)) else
  if h : e = 106 then h ▸ (dec106 : List (CV T) → Option (T 106)) else
  if h : e = 108 then h ▸ (dec108 : List (CV T) → Option (T 108)) else
  if h : e = 110 then h ▸ (dec110 : List (CV T) → Option (T 110)) else
  if h : e = 114 then h ▸ (dec114 : List (CV T) → Option (T 114)) else
  if h : e = 118 then h ▸ (dec118 : List (CV T) → Option (T 118)) else
  if h : e = 125 then h ▸ (dec125 : List (CV T) → Option (T 125)) else
  if h : e = 157 then h ▸ (dec157 : List (CV T) → Option (T 157)) else
  if h : e = 164 then h ▸ (dec164 : List (CV T) → Option (T 164)) else
  fun _ => none
theorem dec_none {e : Nat} (h : ¬ e ∈ ([2, 3, 4, 5, 9, 24, 26, 28, 30, 31, 33, 37, 40, 42, 44, 49, 51, 55, 61, 62, 63, 68, 79, 103, 106, 108, 110, 114, 118, 125, 157, 164] : List Nat)) : dec e = fun _ => none := by
  simp only [List.mem_cons, List.not_mem_nil, or_false, not_or] at h
  simp [dec, h]
theorem dec_ok (e : Nat) (cs : List (CV T)) (x : T e) (h : dec e cs = some x) (hr : ∀ c ∈ cs, c.inR) : All2 CV.le cs (enc e x) := by
  by_cases hm : e ∈ ([2, 3, 4, 5, 9, 24, 26, 28, 30, 31, 33, 37, 40, 42, 44, 49, 51, 55, 61, 62, 63, 68, 79, 103, 106, 108, 110, 114, 118, 125, 157, 164] : List Nat)
  · simp only [List.mem_cons, List.not_mem_nil, or_false] at hm
    rcases hm with rfl | rfl | rfl | rfl | rfl | rfl | rfl | rfl | rfl | rfl | rfl | rfl | rfl | rfl | rfl | rfl | rfl | rfl | rfl | rfl | rfl | rfl | rfl | rfl | rfl | rfl | rfl | rfl | rfl | rfl | rfl | rfl
    · exact dec2_le (x := x) h hr
    · exact dec3_le (x := x) h hr
    · exact dec4_le (x := x) h hr
    · exact dec5_le (x := x) h hr
    · exact dec9_le (x := x) h hr
    · exact dec24_le (x := x) h hr
    · exact dec26_le (x := x) h hr
    · exact dec28_le (x := x) h hr
    · exact dec30_le (x := x) h hr
    · exact dec31_le (x := x) h hr
    · exact dec33_le (x := x) h hr
    · exact dec37_le (x := x) h hr
    · exact dec40_le (x := x) h hr
    · exact dec42_le (x := x) h hr
    · exact dec44_le (x := x) h hr
    · exact dec49_le (x := x) h hr
    · exact dec51_le (x := x) h hr
    · exact dec55_le (x := x) h hr
    · exact dec61_le (x := x) h hr
    · exact dec62_le (x := x) h hr
    · exact dec63_le (x := x) h hr
    · exact dec68_le (x := x) h hr
    · exact dec79_le (x := x) h hr
    · exact dec103_le (x := x) h hr
    · exact dec106_le (x := x) h hr
    · exact dec108_le (x := x) h hr
    · exact dec110_le (x := x) h hr
    · exact dec114_le (x := x) h hr
    · exact dec118_le (x := x) h hr
    · exact dec125_le (x := x) h hr
    · exact dec157_le (x := x) h hr
    · exact dec164_le (x := x) h hr
  · rw [dec_none hm] at h; cases h
def keyKinds : Nat → Option (List Nat) := fun e =>
  if e = 42 then some [0, 0, 0] else
  none
theorem keyKinds_ok : ∀ e ls, keyKinds e = some ls → ∀ x y : T e, Kin ls (enc e x) (enc e y) := by
  intro e ls h
  unfold keyKinds at h
  split at h
  · rename_i he; subst he; injection h with h; subst h; intro x y; exact ⟨rfl, rfl, rfl, trivial⟩
  cases h
def tb : Tab := ⟨T, enc, dec, dec_ok, 5, rfl, fun _ => rfl, none, nofun, nofun, keyKinds, keyKinds_ok, fun _ _ => True, fun _ _ => trivial⟩
def keq42 : Place → Place → Bool := keq tb 42
theorem enc2_eq (x : Int) : tb.enc 2 x = [.int .i64 x] := by kernel_rfl
theorem enc3_eq (x : Int) : tb.enc 3 x = [.int .i64 x] := by kernel_rfl
theorem enc4_eq (x : Bool) : tb.enc 4 x = [.bool x] := by kernel_rfl
theorem enc5_eq (x : UInt8) : tb.enc 5 x = [.int .u8 (x.toNat : Int)] := by kernel_rfl
theorem enc9_eq (x : List UInt8) : tb.enc 9 x = [.str x] := by kernel_rfl
theorem enc24_eq (x : Dec) : tb.enc 24 x = [.int .i64 x.M, .int .i64 x.S] := by kernel_rfl
theorem enc26_eq (x : Val) : tb.enc 26 x = [.int .i64 x.Kind, .int .i64 x.N.M, .int .i64 x.N.S, .str x.S, .bool x.B, .int .i64 x.E] := by kernel_rfl
theorem enc28_eq (x : Ref) : tb.enc 28 x = [.int .i64 x.Row, .int .i64 x.Col, .bool x.RelRow, .bool x.RelCol] := by kernel_rfl
theorem enc30_eq (x : Area) : tb.enc 30 x = [.int .i64 x.A.Row, .int .i64 x.A.Col, .bool x.A.RelRow, .bool x.A.RelCol, .int .i64 x.B.Row, .int .i64 x.B.Col, .bool x.B.RelRow, .bool x.B.RelCol] := by kernel_rfl
theorem enc31_eq (x : List Expr) : tb.enc 31 x = [.sl 33 x] := by kernel_rfl
theorem enc33_eq (x : Expr) : tb.enc 33 x = [.int .i64 x.Kind, .int .i64 x.V.Kind, .int .i64 x.V.N.M, .int .i64 x.V.N.S, .str x.V.S, .bool x.V.B, .int .i64 x.V.E, .int .i64 x.A.A.Row, .int .i64 x.A.A.Col, .bool x.A.A.RelRow, .bool x.A.A.RelCol, .int .i64 x.A.B.Row, .int .i64 x.A.B.Col, .bool x.A.B.RelRow, .bool x.A.B.RelCol, .int .i64 x.Sheet, .int .i64 x.Op, .sl 33 x.Kids] := by kernel_rfl
theorem enc37_eq (x : List Place) : tb.enc 37 x = [.sl 42 x] := by kernel_rfl
theorem enc40_eq (x : Cell) : tb.enc 40 x = [.int .i64 x.Row, .int .i64 x.Col] := by kernel_rfl
theorem enc42_eq (x : Place) : tb.enc 42 x = [.int .i64 x.Sheet, .int .i64 x.At.Row, .int .i64 x.At.Col] := by kernel_rfl
theorem enc44_eq (x : Node) : tb.enc 44 x = [.int .i64 x.P.Sheet, .int .i64 x.P.At.Row, .int .i64 x.P.At.Col, .int .i64 x.Base.Row, .int .i64 x.Base.Col, .int .i64 x.E.Kind, .int .i64 x.E.V.Kind, .int .i64 x.E.V.N.M, .int .i64 x.E.V.N.S, .str x.E.V.S, .bool x.E.V.B, .int .i64 x.E.V.E, .int .i64 x.E.A.A.Row, .int .i64 x.E.A.A.Col, .bool x.E.A.A.RelRow, .bool x.E.A.A.RelCol, .int .i64 x.E.A.B.Row, .int .i64 x.E.A.B.Col, .bool x.E.A.B.RelRow, .bool x.E.A.B.RelCol, .int .i64 x.E.Sheet, .int .i64 x.E.Op, .sl 33 x.E.Kids] := by kernel_rfl
theorem enc49_eq (x : List UInt8) : tb.enc 49 x = [.sl 5 x] := by kernel_rfl
theorem enc51_eq (x : List Node) : tb.enc 51 x = [.sl 44 x] := by kernel_rfl
theorem enc55_eq (x : List Int) : tb.enc 55 x = [.sl 3 x] := by kernel_rfl
theorem enc61_eq (x : Rec) : tb.enc 61 x = [.int .i64 x.Type_, .sl 5 x.Data, .sl 3 x.Cuts, .int .i64 x.At] := by kernel_rfl
theorem enc62_eq (x : Rec) : tb.enc 62 x = [.int .i64 x.Type_, .sl 5 x.Data, .sl 3 x.Cuts, .int .i64 x.At] := by kernel_rfl
theorem enc63_eq (x : Int) : tb.enc 63 x = [.int .i64 x] := by kernel_rfl
theorem enc68_eq (x : List Place) : tb.enc 68 x = [.sl 110 x] := by kernel_rfl
theorem enc79_eq (x : Int) : tb.enc 79 x = [.int .u16 x] := by kernel_rfl
theorem enc103_eq (x : Int) : tb.enc 103 x = [.int .u64 x] := by kernel_rfl
theorem enc106_eq (x : Int) : tb.enc 106 x = [.int .u64 x] := by kernel_rfl
theorem enc108_eq (x : Cell) : tb.enc 108 x = [.int .i64 x.Row, .int .i64 x.Col] := by kernel_rfl
theorem enc110_eq (x : Place) : tb.enc 110 x = [.int .i64 x.Sheet, .int .i64 x.At.Row, .int .i64 x.At.Col] := by kernel_rfl
theorem enc114_eq (x : Cursor) : tb.enc 114 x = [.sl 5 x.B, .int .i64 x.At] := by kernel_rfl
theorem enc118_eq (x : Cursor) : tb.enc 118 x = [.sl 5 x.B, .int .i64 x.At] := by kernel_rfl
theorem enc125_eq (x : List Cell) : tb.enc 125 x = [.sl 40 x] := by kernel_rfl
theorem enc157_eq (x : Int) : tb.enc 157 x = [.int .i64 x] := by kernel_rfl
theorem enc164_eq (x : Int) : tb.enc 164 x = [.int .u32 x] := by kernel_rfl
end Go.Proofs.Ytankcgcnkoialaa
