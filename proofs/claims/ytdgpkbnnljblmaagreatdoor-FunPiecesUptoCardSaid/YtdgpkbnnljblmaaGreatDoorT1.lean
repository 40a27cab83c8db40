/- T1 -/
import Derived.Test.YtdgpkbnnljblmaaGreatDoorEvC
import Derived.Shelf.Unicode.DecodeSlow
import Derived.Lib.ItoaNum
import Derived.Test.YtdgpkbnnljblmaaGreatDoorChecked
namespace Go.Proofs.YtdgpkbnnljblmaaGreatDoor
open Go Go.Ev
structure Dec where
  M : Int
  S : Int
  deriving DecidableEq
structure Val where
  Kind : Int
  N : Dec
  S : List UInt8
  B : Bool
  E : Int
  deriving DecidableEq
structure Arg where
  Area : Bool
  L : List Val
  deriving DecidableEq
structure Function where
  name : List UInt8
  lo : Int
  hi : Int
  deriving DecidableEq
structure Wide where
  hi : Int
  lo : Int
  minus : Bool
  deriving DecidableEq
structure Big where
  Minus : Bool
  D : List Int
  deriving DecidableEq
def T : Nat → Type
  | 2 => Int
  | 3 => Int
  | 4 => Bool
  | 5 => UInt8
  | 9 => List UInt8
  | 21 => Int
  | 22 => List Arg
  | 26 => Dec
  | 28 => Val
  | 30 => Dec
  | 32 => Val
  | 34 => List Arg
  | 38 => List (List UInt8)
  | 45 => List Int
  | 46 => List Val
  | 48 => Arg
  | 53 => List Int
  | 63 => Int
  | 73 => List Int
  | 122 => List Val
  | 124 => Arg
  | 127 => List Function
  | 130 => Function
  | 147 => List Bool
  | 152 => Int
  | 154 => Wide
  | 222 => Unit
  | 226 => List Dec
  | 240 => List Dec
  | 271 => Big
  | 340 => Int
  | _ => Unit
def enc : (e : Nat) → T e → List (CV T)
  | 2, (x : Int) => [.int .i64 x]
  | 3, (x : Int) => [.int .i64 x]
  | 4, (x : Bool) => [.bool x]
  | 5, (x : UInt8) => [.int .u8 (x.toNat : Int)]
  | 9, (x : List UInt8) => [.str x]
  | 21, (x : Int) => [.int .i32 x]
  | 22, (x : List Arg) => [.sl 124 x]
  | 26, (x : Dec) => [.int .i64 x.M, .int .i64 x.S]
  | 28, (x : Val) => [.int .i64 x.Kind, .int .i64 x.N.M, .int .i64 x.N.S, .str x.S, .bool x.B, .int .i64 x.E]
  | 30, (x : Dec) => [.int .i64 x.M, .int .i64 x.S]
  | 32, (x : Val) => [.int .i64 x.Kind, .int .i64 x.N.M, .int .i64 x.N.S, .str x.S, .bool x.B, .int .i64 x.E]
  | 34, (x : List Arg) => [.sl 48 x]
  | 38, (x : List (List UInt8)) => [.sl 9 x]
  | 45, (x : List Int) => [.sl 21 x]
  | 46, (x : List Val) => [.sl 32 x]
  | 48, (x : Arg) => [.bool x.Area, .sl 32 x.L]
  | 53, (x : List Int) => [.sl 3 x]
  | 63, (x : Int) => [.int .i64 x]
  | 73, (x : List Int) => [.sl 2 x]
  | 122, (x : List Val) => [.sl 28 x]
  | 124, (x : Arg) => [.bool x.Area, .sl 28 x.L]
  | 127, (x : List Function) => [.sl 130 x]
  | 130, (x : Function) => [.str x.name, .int .i64 x.lo, .int .i64 x.hi]
  | 147, (x : List Bool) => [.sl 4 x]
  | 152, (x : Int) => [.int .u64 x]
  | 154, (x : Wide) => [.int .u64 x.hi, .int .u64 x.lo, .bool x.minus]
  | 222, (_ : Unit) => [.nli]
  | 226, (x : List Dec) => [.sl 30 x]
  | 240, (x : List Dec) => [.sl 26 x]
  | 271, (x : Big) => [.bool x.Minus, .sl 3 x.D]
  | 340, (x : Int) => [.int .u32 x]
  | _, _ => []
def dec2 : List (CV T) → Option Int
  | [c0] => dbnd (dI .i64 c0 : Option Int) fun x0 => some (x0 : Int)
  | _ => none
theorem dec2_le {cs : List (CV T)} {x : Int} (h : dec2 cs = some x) (hr : ∀ c ∈ cs, c.inR) : All2 CV.le cs (enc 2 x) := by
  unfold dec2 at h
  split at h
  · obtain ⟨x0, h0, h⟩ := dbnd_eq h
    have h := Option.some.inj h; subst h
    exact ⟨dI_le h0, trivial⟩
  · cases h
def dec3 : List (CV T) → Option Int
  | [c0] => dbnd (dI .i64 c0 : Option Int) fun x0 => some (x0 : Int)
  | _ => none
theorem dec3_le {cs : List (CV T)} {x : Int} (h : dec3 cs = some x) (hr : ∀ c ∈ cs, c.inR) : All2 CV.le cs (enc 3 x) := by
  unfold dec3 at h
  split at h
  · obtain ⟨x0, h0, h⟩ := dbnd_eq h
    have h := Option.some.inj h; subst h
    exact ⟨dI_le h0, trivial⟩
  · cases h
def dec4 : List (CV T) → Option Bool
  | [c0] => dbnd (dB c0 : Option Bool) fun x0 => some (x0 : Bool)
  | _ => none
theorem dec4_le {cs : List (CV T)} {x : Bool} (h : dec4 cs = some x) (hr : ∀ c ∈ cs, c.inR) : All2 CV.le cs (enc 4 x) := by
  unfold dec4 at h
  split at h
  · obtain ⟨x0, h0, h⟩ := dbnd_eq h
    have h := Option.some.inj h; subst h
    exact ⟨dB_le h0, trivial⟩
  · cases h
def dec5 : List (CV T) → Option UInt8
  | [c0] => dbnd (dU c0 : Option UInt8) fun x0 => some (x0 : UInt8)
  | _ => none
theorem dec5_le {cs : List (CV T)} {x : UInt8} (h : dec5 cs = some x) (hr : ∀ c ∈ cs, c.inR) : All2 CV.le cs (enc 5 x) := by
  unfold dec5 at h
  split at h
  · obtain ⟨x0, h0, h⟩ := dbnd_eq h
    have h := Option.some.inj h; subst h
    exact ⟨dU_le h0 (hr _ (by simp)), trivial⟩
  · cases h
def dec9 : List (CV T) → Option (List UInt8)
  | [c0] => dbnd (dS c0 : Option (List UInt8)) fun x0 => some (x0 : List UInt8)
  | _ => none
theorem dec9_le {cs : List (CV T)} {x : List UInt8} (h : dec9 cs = some x) (hr : ∀ c ∈ cs, c.inR) : All2 CV.le cs (enc 9 x) := by
  unfold dec9 at h
  split at h
  · obtain ⟨x0, h0, h⟩ := dbnd_eq h
    have h := Option.some.inj h; subst h
    exact ⟨dS_le h0, trivial⟩
  · cases h
def dec21 : List (CV T) → Option Int
  | [c0] => dbnd (dI .i32 c0 : Option Int) fun x0 => some (x0 : Int)
  | _ => none
theorem dec21_le {cs : List (CV T)} {x : Int} (h : dec21 cs = some x) (hr : ∀ c ∈ cs, c.inR) : All2 CV.le cs (enc 21 x) := by
  unfold dec21 at h
  split at h
  · obtain ⟨x0, h0, h⟩ := dbnd_eq h
    have h := Option.some.inj h; subst h
    exact ⟨dI_le h0, trivial⟩
  · cases h
def dec22 : List (CV T) → Option (List Arg)
  | [c0] => dbnd (asSl 124 c0 : Option (List (T 124))) fun x0 => some (x0 : List Arg)
  | _ => none
theorem dec22_le {cs : List (CV T)} {x : List Arg} (h : dec22 cs = some x) (hr : ∀ c ∈ cs, c.inR) : All2 CV.le cs (enc 22 x) := by
  unfold dec22 at h
  split at h
  · obtain ⟨x0, h0, h⟩ := dbnd_eq h
    have h := Option.some.inj h; subst h
    exact ⟨asSl_le h0, trivial⟩
  · cases h
def dec26 : List (CV T) → Option Dec
  | [c0, c1] => dbnd (dI .i64 c0 : Option Int) fun x0 => dbnd (dI .i64 c1 : Option Int) fun x1 => some (⟨x0, x1⟩ : Dec)
  | _ => none
theorem dec26_le {cs : List (CV T)} {x : Dec} (h : dec26 cs = some x) (hr : ∀ c ∈ cs, c.inR) : All2 CV.le cs (enc 26 x) := by
  unfold dec26 at h
  split at h
  · obtain ⟨x0, h0, h⟩ := dbnd_eq h
    obtain ⟨x1, h1, h⟩ := dbnd_eq h
    have h := Option.some.inj h; subst h
    exact ⟨dI_le h0, dI_le h1, trivial⟩
  · cases h
def dec28 : List (CV T) → Option Val
  | [c0, c1, c2, c3, c4, c5] => dbnd (dI .i64 c0 : Option Int) fun x0 => dbnd (dI .i64 c1 : Option Int) fun x1 => dbnd (dI .i64 c2 : Option Int) fun x2 => dbnd (dS c3 : Option (List UInt8)) fun x3 => dbnd (dB c4 : Option Bool) fun x4 => dbnd (dI .i64 c5 : Option Int) fun x5 => some (⟨x0, ⟨x1, x2⟩, x3, x4, x5⟩ : Val)
  | _ => none
theorem dec28_le {cs : List (CV T)} {x : Val} (h : dec28 cs = some x) (hr : ∀ c ∈ cs, c.inR) : All2 CV.le cs (enc 28 x) := by
  unfold dec28 at h
  split at h
  · obtain ⟨x0, h0, h⟩ := dbnd_eq h
    obtain ⟨x1, h1, h⟩ := dbnd_eq h
    obtain ⟨x2, h2, h⟩ := dbnd_eq h
    obtain ⟨x3, h3, h⟩ := dbnd_eq h
    obtain ⟨x4, h4, h⟩ := dbnd_eq h
    obtain ⟨x5, h5, h⟩ := dbnd_eq h
    have h := Option.some.inj h; subst h
    exact ⟨dI_le h0, dI_le h1, dI_le h2, dS_le h3, dB_le h4, dI_le h5, trivial⟩
  · cases h
def dec30 : List (CV T) → Option Dec
  | [c0, c1] => dbnd (dI .i64 c0 : Option Int) fun x0 => dbnd (dI .i64 c1 : Option Int) fun x1 => some (⟨x0, x1⟩ : Dec)
  | _ => none
theorem dec30_le {cs : List (CV T)} {x : Dec} (h : dec30 cs = some x) (hr : ∀ c ∈ cs, c.inR) : All2 CV.le cs (enc 30 x) := by
  unfold dec30 at h
  split at h
  · obtain ⟨x0, h0, h⟩ := dbnd_eq h
    obtain ⟨x1, h1, h⟩ := dbnd_eq h
    have h := Option.some.inj h; subst h
    exact ⟨dI_le h0, dI_le h1, trivial⟩
  · cases h
def dec32 : List (CV T) → Option Val
  | [c0, c1, c2, c3, c4, c5] => dbnd (dI .i64 c0 : Option Int) fun x0 => dbnd (dI .i64 c1 : Option Int) fun x1 => dbnd (dI .i64 c2 : Option Int) fun x2 => dbnd (dS c3 : Option (List UInt8)) fun x3 => dbnd (dB c4 : Option Bool) fun x4 => dbnd (dI .i64 c5 : Option Int) fun x5 => some (⟨x0, ⟨x1, x2⟩, x3, x4, x5⟩ : Val)
  | _ => none
theorem dec32_le {cs : List (CV T)} {x : Val} (h : dec32 cs = some x) (hr : ∀ c ∈ cs, c.inR) : All2 CV.le cs (enc 32 x) := by
  unfold dec32 at h
  split at h
  · obtain ⟨x0, h0, h⟩ := dbnd_eq h
    obtain ⟨x1, h1, h⟩ := dbnd_eq h
    obtain ⟨x2, h2, h⟩ := dbnd_eq h
    obtain ⟨x3, h3, h⟩ := dbnd_eq h
    obtain ⟨x4, h4, h⟩ := dbnd_eq h
    obtain ⟨x5, h5, h⟩ := dbnd_eq h
    have h := Option.some.inj h; subst h
    exact ⟨dI_le h0, dI_le h1, dI_le h2, dS_le h3, dB_le h4, dI_le h5, trivial⟩
  · cases h
def dec34 : List (CV T) → Option (List Arg)
  | [c0] => dbnd (asSl 48 c0 : Option (List (T 48))) fun x0 => some (x0 : List Arg)
  | _ => none
theorem dec34_le {cs : List (CV T)} {x : List Arg} (h : dec34 cs = some x) (hr : ∀ c ∈ cs, c.inR) : All2 CV.le cs (enc 34 x) := by
  unfold dec34 at h
  split at h
  · obtain ⟨x0, h0, h⟩ := dbnd_eq h
    have h := Option.some.inj h; subst h
    exact ⟨asSl_le h0, trivial⟩
  · cases h
def dec38 : List (CV T) → Option (List (List UInt8))
  | [c0] => dbnd (asSl 9 c0 : Option (List (T 9))) fun x0 => some (x0 : List (List UInt8))
  | _ => none
theorem dec38_le {cs : List (CV T)} {x : List (List UInt8)} (h : dec38 cs = some x) (hr : ∀ c ∈ cs, c.inR) : All2 CV.le cs (enc 38 x) := by
  unfold dec38 at h
  split at h
  · obtain ⟨x0, h0, h⟩ := dbnd_eq h
    have h := Option.some.inj h; subst h
    exact ⟨asSl_le h0, trivial⟩
  · cases h
def dec45 : List (CV T) → Option (List Int)
  | [c0] => dbnd (asSl 21 c0 : Option (List (T 21))) fun x0 => some (x0 : List Int)
  | _ => none
theorem dec45_le {cs : List (CV T)} {x : List Int} (h : dec45 cs = some x) (hr : ∀ c ∈ cs, c.inR) : All2 CV.le cs (enc 45 x) := by
  unfold dec45 at h
  split at h
  · obtain ⟨x0, h0, h⟩ := dbnd_eq h
    have h := Option.some.inj h; subst h
    exact ⟨asSl_le h0, trivial⟩
  · cases h
def dec46 : List (CV T) → Option (List Val)
  | [c0] => dbnd (asSl 32 c0 : Option (List (T 32))) fun x0 => some (x0 : List Val)
  | _ => none
theorem dec46_le {cs : List (CV T)} {x : List Val} (h : dec46 cs = some x) (hr : ∀ c ∈ cs, c.inR) : All2 CV.le cs (enc 46 x) := by
  unfold dec46 at h
  split at h
  · obtain ⟨x0, h0, h⟩ := dbnd_eq h
    have h := Option.some.inj h; subst h
    exact ⟨asSl_le h0, trivial⟩
  · cases h
def dec48 : List (CV T) → Option Arg
  | [c0, c1] => dbnd (dB c0 : Option Bool) fun x0 => dbnd (asSl 32 c1 : Option (List (T 32))) fun x1 => some (⟨x0, x1⟩ : Arg)
  | _ => none
theorem dec48_le {cs : List (CV T)} {x : Arg} (h : dec48 cs = some x) (hr : ∀ c ∈ cs, c.inR) : All2 CV.le cs (enc 48 x) := by
  unfold dec48 at h
  split at h
  · obtain ⟨x0, h0, h⟩ := dbnd_eq h
    obtain ⟨x1, h1, h⟩ := dbnd_eq h
    have h := Option.some.inj h; subst h
    exact ⟨dB_le h0, asSl_le h1, trivial⟩
  · cases h
def dec53 : List (CV T) → Option (List Int)
  | [c0] => dbnd (asSl 3 c0 : Option (List (T 3))) fun x0 => some (x0 : List Int)
  | _ => none
theorem dec53_le {cs : List (CV T)} {x : List Int} (h : dec53 cs = some x) (hr : ∀ c ∈ cs, c.inR) : All2 CV.le cs (enc 53 x) := by
  unfold dec53 at h
  split at h
  · obtain ⟨x0, h0, h⟩ := dbnd_eq h
    have h := Option.some.inj h; subst h
    exact ⟨asSl_le h0, trivial⟩
  · cases h
def dec63 : List (CV T) → Option Int
  | [c0] => dbnd (dI .i64 c0 : Option Int) fun x0 => some (x0 : Int)
  | _ => none
theorem dec63_le {cs : List (CV T)} {x : Int} (h : dec63 cs = some x) (hr : ∀ c ∈ cs, c.inR) : All2 CV.le cs (enc 63 x) := by
  unfold dec63 at h
  split at h
  · obtain ⟨x0, h0, h⟩ := dbnd_eq h
    have h := Option.some.inj h; subst h
    exact ⟨dI_le h0, trivial⟩
  · cases h
def dec73 : List (CV T) → Option (List Int)
  | [c0] => dbnd (asSl 2 c0 : Option (List (T 2))) fun x0 => some (x0 : List Int)
  | _ => none
theorem dec73_le {cs : List (CV T)} {x : List Int} (h : dec73 cs = some x) (hr : ∀ c ∈ cs, c.inR) : All2 CV.le cs (enc 73 x) := by
  unfold dec73 at h
  split at h
  · obtain ⟨x0, h0, h⟩ := dbnd_eq h
    have h := Option.some.inj h; subst h
    exact ⟨asSl_le h0, trivial⟩
  · cases h
def dec122 : List (CV T) → Option (List Val)
  | [c0] => dbnd (asSl 28 c0 : Option (List (T 28))) fun x0 => some (x0 : List Val)
  | _ => none
theorem dec122_le {cs : List (CV T)} {x : List Val} (h : dec122 cs = some x) (hr : ∀ c ∈ cs, c.inR) : All2 CV.le cs (enc 122 x) := by
  unfold dec122 at h
  split at h
  · obtain ⟨x0, h0, h⟩ := dbnd_eq h
    have h := Option.some.inj h; subst h
    exact ⟨asSl_le h0, trivial⟩
  · cases h
def dec124 : List (CV T) → Option Arg
  | [c0, c1] => dbnd (dB c0 : Option Bool) fun x0 => dbnd (asSl 28 c1 : Option (List (T 28))) fun x1 => some (⟨x0, x1⟩ : Arg)
  | _ => none
theorem dec124_le {cs : List (CV T)} {x : Arg} (h : dec124 cs = some x) (hr : ∀ c ∈ cs, c.inR) : All2 CV.le cs (enc 124 x) := by
  unfold dec124 at h
  split at h
  · obtain ⟨x0, h0, h⟩ := dbnd_eq h
    obtain ⟨x1, h1, h⟩ := dbnd_eq h
    have h := Option.some.inj h; subst h
    exact ⟨dB_le h0, asSl_le h1, trivial⟩
  · cases h
def dec127 : List (CV T) → Option (List Function)
  | [c0] => dbnd (asSl 130 c0 : Option (List (T 130))) fun x0 => some (x0 : List Function)
  | _ => none
theorem dec127_le {cs : List (CV T)} {x : List Function} (h : dec127 cs = some x) (hr : ∀ c ∈ cs, c.inR) : All2 CV.le cs (enc 127 x) := by
  unfold dec127 at h
  split at h
  · obtain ⟨x0, h0, h⟩ := dbnd_eq h
    have h := Option.some.inj h; subst h
    exact ⟨asSl_le h0, trivial⟩
  · cases h
def dec130 : List (CV T) → Option Function
  | [c0, c1, c2] => dbnd (dS c0 : Option (List UInt8)) fun x0 => dbnd (dI .i64 c1 : Option Int) fun x1 => dbnd (dI .i64 c2 : Option Int) fun x2 => some (⟨x0, x1, x2⟩ : Function)
  | _ => none
theorem dec130_le {cs : List (CV T)} {x : Function} (h : dec130 cs = some x) (hr : ∀ c ∈ cs, c.inR) : All2 CV.le cs (enc 130 x) := by
  unfold dec130 at h
  split at h
  · obtain ⟨x0, h0, h⟩ := dbnd_eq h
    obtain ⟨x1, h1, h⟩ := dbnd_eq h
    obtain ⟨x2, h2, h⟩ := dbnd_eq h
    have h := Option.some.inj h; subst h
    exact ⟨dS_le h0, dI_le h1, dI_le h2, trivial⟩
  · cases h
def dec147 : List (CV T) → Option (List Bool)
  | [c0] => dbnd (asSl 4 c0 : Option (List (T 4))) fun x0 => some (x0 : List Bool)
  | _ => none
theorem dec147_le {cs : List (CV T)} {x : List Bool} (h : dec147 cs = some x) (hr : ∀ c ∈ cs, c.inR) : All2 CV.le cs (enc 147 x) := by
  unfold dec147 at h
  split at h
  · obtain ⟨x0, h0, h⟩ := dbnd_eq h
    have h := Option.some.inj h; subst h
    exact ⟨asSl_le h0, trivial⟩
  · cases h
def dec152 : List (CV T) → Option Int
  | [c0] => dbnd (dI .u64 c0 : Option Int) fun x0 => some (x0 : Int)
  | _ => none
theorem dec152_le {cs : List (CV T)} {x : Int} (h : dec152 cs = some x) (hr : ∀ c ∈ cs, c.inR) : All2 CV.le cs (enc 152 x) := by
  unfold dec152 at h
  split at h
  · obtain ⟨x0, h0, h⟩ := dbnd_eq h
    have h := Option.some.inj h; subst h
    exact ⟨dI_le h0, trivial⟩
  · cases h
def dec154 : List (CV T) → Option Wide
  | [c0, c1, c2] => dbnd (dI .u64 c0 : Option Int) fun x0 => dbnd (dI .u64 c1 : Option Int) fun x1 => dbnd (dB c2 : Option Bool) fun x2 => some (⟨x0, x1, x2⟩ : Wide)
  | _ => none
theorem dec154_le {cs : List (CV T)} {x : Wide} (h : dec154 cs = some x) (hr : ∀ c ∈ cs, c.inR) : All2 CV.le cs (enc 154 x) := by
  unfold dec154 at h
  split at h
  · obtain ⟨x0, h0, h⟩ := dbnd_eq h
    obtain ⟨x1, h1, h⟩ := dbnd_eq h
    obtain ⟨x2, h2, h⟩ := dbnd_eq h
    have h := Option.some.inj h; subst h
    exact ⟨dI_le h0, dI_le h1, dB_le h2, trivial⟩
  · cases h
def dec222 : List (CV T) → Option Unit
  | [c0] => dbnd (dN c0 : Option Unit) fun x0 => some (x0 : Unit)
  | _ => none
theorem dec222_le {cs : List (CV T)} {x : Unit} (h : dec222 cs = some x) (hr : ∀ c ∈ cs, c.inR) : All2 CV.le cs (enc 222 x) := by
  unfold dec222 at h
  split at h
  · obtain ⟨x0, h0, h⟩ := dbnd_eq h
    have h := Option.some.inj h; subst h
    exact ⟨dN_le h0, trivial⟩
  · cases h
def dec226 : List (CV T) → Option (List Dec)
  | [c0] => dbnd (asSl 30 c0 : Option (List (T 30))) fun x0 => some (x0 : List Dec)
  | _ => none
theorem dec226_le {cs : List (CV T)} {x : List Dec} (h : dec226 cs = some x) (hr : ∀ c ∈ cs, c.inR) : All2 CV.le cs (enc 226 x) := by
  unfold dec226 at h
  split at h
  · obtain ⟨x0, h0, h⟩ := dbnd_eq h
    have h := Option.some.inj h; subst h
    exact ⟨asSl_le h0, trivial⟩
  · cases h
def dec240 : List (CV T) → Option (List Dec)
  | [c0] => dbnd (asSl 26 c0 : Option (List (T 26))) fun x0 => some (x0 : List Dec)
  | _ => none
theorem dec240_le {cs : List (CV T)} {x : List Dec} (h : dec240 cs = some x) (hr : ∀ c ∈ cs, c.inR) : All2 CV.le cs (enc 240 x) := by
  unfold dec240 at h
  split at h
  · obtain ⟨x0, h0, h⟩ := dbnd_eq h
    have h := Option.some.inj h; subst h
    exact ⟨asSl_le h0, trivial⟩
  · cases h
def dec271 : List (CV T) → Option Big
  | [c0, c1] => dbnd (dB c0 : Option Bool) fun x0 => dbnd (asSl 3 c1 : Option (List (T 3))) fun x1 => some (⟨x0, x1⟩ : Big)
  | _ => none
theorem dec271_le {cs : List (CV T)} {x : Big} (h : dec271 cs = some x) (hr : ∀ c ∈ cs, c.inR) : All2 CV.le cs (enc 271 x) := by
  unfold dec271 at h
  split at h
  · obtain ⟨x0, h0, h⟩ := dbnd_eq h
    obtain ⟨x1, h1, h⟩ := dbnd_eq h
    have h := Option.some.inj h; subst h
    exact ⟨dB_le h0, asSl_le h1, trivial⟩
  · cases h
def dec340 : List (CV T) → Option Int
  | [c0] => dbnd (dI .u32 c0 : Option Int) fun x0 => some (x0 : Int)
  | _ => none
theorem dec340_le {cs : List (CV T)} {x : Int} (h : dec340 cs = some x) (hr : ∀ c ∈ cs, c.inR) : All2 CV.le cs (enc 340 x) := by
  unfold dec340 at h
  split at h
  · obtain ⟨x0, h0, h⟩ := dbnd_eq h
    have h := Option.some.inj h; subst h
    exact ⟨dI_le h0, trivial⟩
  · cases h
def dec (e : Nat) : List (CV T) → Option (T e) :=
  if h : e = 2 then h ▸ (dec2 : List (CV T) → Option (T 2)) else
  if h : e = 3 then h ▸ (dec3 : List (CV T) → Option (T 3)) else
  if h : e = 4 then h ▸ (dec4 : List (CV T) → Option (T 4)) else
  if h : e = 5 then h ▸ (dec5 : List (CV T) → Option (T 5)) else
  if h : e = 9 then h ▸ (dec9 : List (CV T) → Option (T 9)) else
  if h : e = 21 then h ▸ (dec21 : List (CV T) → Option (T 21)) else
  if h : e = 22 then h ▸ (dec22 : List (CV T) → Option (T 22)) else
  if h : e = 26 then h ▸ (dec26 : List (CV T) → Option (T 26)) else
  if h : e = 28 then h ▸ (dec28 : List (CV T) → Option (T 28)) else
  if h : e = 30 then h ▸ (dec30 : List (CV T) → Option (T 30)) else
  if h : e = 32 then h ▸ (dec32 : List (CV T) → Option (T 32)) else
  if h : e = 34 then h ▸ (dec34 : List (CV T) → Option (T 34)) else
  if h : e = 38 then h ▸ (dec38 : List (CV T) → Option (T 38)) else
  if h : e = 45 then h ▸ (dec45 : List (CV T) → Option (T 45)) else
  if h : e = 46 then h ▸ (dec46 : List (CV T) → Option (T 46)) else
  if h : e = 48 then h ▸ (dec48 : List (CV T) → Option (T 48)) else
  if h : e = 53 then h ▸ (dec53 : List (CV T) → Option (T 53)) else
  if h : e = 63 then h ▸ (dec63 : List (CV T) → Option (T 63)) else
  if h : e = 73 then h ▸ (dec73 : List (CV T) → Option (T 73)) else
  if h : e = 122 then h ▸ (dec122 : List (CV T) → Option (T 122)) else
  if h : e = 124 then h ▸ (dec124 : List (CV T) → Option (T 124)) else
  if h : e = 127 then h ▸ (dec127 : List (CV T) → Option (T 127)) else
  if h : e = 130 then h ▸ (dec130 : List (CV T) → Option (T 130)) else
  if h : e = 147 then h ▸ (dec147 : List (CV T) → Option (T 147)) else
  if h : e = 152 then h ▸ (dec152 : List (CV T) → Option (T 152)) else
  if h : e = 154 then h ▸ (dec154 : List (CV T) → Option (T 154)) else
  if h : e = 222 then h ▸ (dec222 : List (CV T) → Option (T 222)) else
  if h : e = 226 then h ▸ (dec226 : List (CV T) → Option (T 226)) else
  if h : e = 240 then h ▸ (dec240 : List (CV T) → Option (T 240)) else
  if h : e = 271 then h ▸ (dec271 : List (CV T) → Option (T 271)) else
  if h : e = 340 then h ▸ (dec340 : List (CV T) → Option (T 340)) else
  fun _ => none
theorem dec_none {e : Nat} (h : ¬ e ∈ ([2, 3, 4, 5, 9, 21, 22, 26, 28, 30, 32, 34, 38, 45, 46, 48, 53, 63, 73, 122, 124, 127, 130, 147, 152, 154, 222, 226, 240, 271, 340] : List Nat)) : dec e = fun _ => none := by
  simp only [List.mem_cons, List.not_mem_nil, or_false, not_or] at h
  simp [dec, h]
theorem dec_ok (e : Nat) (cs : List (CV T)) (x : T e) (h : dec e cs = some x) (hr : ∀ c ∈ cs, c.inR) : All2 CV.le cs (enc e x) := by
  by_cases hm : e ∈ ([2, 3, 4, 5, 9, 21, 22, 26, 28, 30, 32, 34, 38, 45, 46, 48, 53, 63, 73, 122, 124, 127, 130, 147, 152, 154, 222, 226, 240, 271, 340] : List Nat)
  · simp only [List.mem_cons, List.not_mem_nil, or_false] at hm
    rcases hm with rfl | rfl | rfl | rfl | rfl | rfl | rfl | rfl | rfl | rfl | rfl | rfl | rfl | rfl | rfl | rfl | rfl | rfl | rfl | rfl | rfl | rfl | rfl | rfl | rfl | rfl | rfl | rfl | rfl | rfl | rfl
    · exact dec2_le (x := x) h hr
    · exact dec3_le (x := x) h hr
    · exact dec4_le (x := x) h hr
    · exact dec5_le (x := x) h hr
    · exact dec9_le (x := x) h hr
    · exact dec21_le (x := x) h hr
    · exact dec22_le (x := x) h hr
    · exact dec26_le (x := x) h hr
    · exact dec28_le (x := x) h hr
    · exact dec30_le (x := x) h hr
    · exact dec32_le (x := x) h hr
    · exact dec34_le (x := x) h hr
    · exact dec38_le (x := x) h hr
    · exact dec45_le (x := x) h hr
    · exact dec46_le (x := x) h hr
    · exact dec48_le (x := x) h hr
    · exact dec53_le (x := x) h hr
    · exact dec63_le (x := x) h hr
    · exact dec73_le (x := x) h hr
    · exact dec122_le (x := x) h hr
    · exact dec124_le (x := x) h hr
    · exact dec127_le (x := x) h hr
    · exact dec130_le (x := x) h hr
    · exact dec147_le (x := x) h hr
    · exact dec152_le (x := x) h hr
    · exact dec154_le (x := x) h hr
    · exact dec222_le (x := x) h hr
    · exact dec226_le (x := x) h hr
    · exact dec240_le (x := x) h hr
    · exact dec271_le (x := x) h hr
    · exact dec340_le (x := x) h hr
  · rw [dec_none hm] at h; cases h
def Inv (g : Gh) (w : World) : Prop := g 0 = .con ∧ g 1 = .con ∧ Lib.Utf8Tabs 0 1 w ∧ TabAt Tryz.prog "internal/strconv.uint64pow10" .u64 Lib.pow10Tab g w
theorem has_cell {w : World} {b i : Nat} {v : Value} (h : w.cell? ⟨b, i, none⟩ = some v) : b < w.heap.size := by
  unfold World.cell? at h
  simp only at h
  cases hw : w.heap[b]? with
  | none => rw [hw] at h; cases h
  | some o => exact (Array.getElem?_eq_some_iff.1 hw).1
theorem Inv_ext {g : Gh} {w : World} {g' : Gh} {w' : World} {D : Nat → Prop} (he : Ext g w g' w' D) (h : Inv g w) : Inv g' w' := by
  obtain ⟨h0, h1, ⟨h2, h3⟩, h4⟩ := h
  have b0 := has_cell (h2 0 (by omega))
  have b1 := has_cell (h3 0 (by omega)).1
  obtain ⟨e0, k0⟩ := he.con 0 b0 h0
  obtain ⟨e1, k1⟩ := he.con 1 b1 h1
  exact ⟨k0, k1, ⟨fun c hc => (cell_of_block e0).trans (h2 c hc), fun i hi => ⟨(cell_of_block e1).trans (h3 i hi).1, (cell_of_block e1).trans (h3 i hi).2⟩⟩, TabAt.ext he h4⟩
def keyKinds : Nat → Option (List Nat) := fun e =>
  if e = 3 then some [0] else
  none
theorem keyKinds_ok : ∀ e ls, keyKinds e = some ls → ∀ x y : T e, Kin ls (enc e x) (enc e y) := by
  intro e ls h
  unfold keyKinds at h
  split at h
  · rename_i he; subst he; injection h with h; subst h; intro x y; exact ⟨rfl, trivial⟩
  cases h
def tb : Tab := ⟨T, enc, dec, dec_ok, 5, rfl, fun _ => rfl, some 21, fun e h => by cases h; rfl, fun e h x => by cases h; rfl, keyKinds, keyKinds_ok, Inv, Inv_ext⟩
def keq3 : Int → Int → Bool := keq tb 3
theorem enc3_eq (x : Int) : tb.enc 3 x = [.int .i64 x] := by kernel_rfl
theorem enc4_eq (x : Bool) : tb.enc 4 x = [.bool x] := by kernel_rfl
theorem enc5_eq (x : UInt8) : tb.enc 5 x = [.int .u8 (x.toNat : Int)] := by kernel_rfl
theorem enc9_eq (x : List UInt8) : tb.enc 9 x = [.str x] := by kernel_rfl
theorem enc152_eq (x : Int) : tb.enc 152 x = [.int .u64 x] := by kernel_rfl
end Go.Proofs.YtdgpkbnnljblmaaGreatDoor
