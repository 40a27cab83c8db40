/- The types of this seat, as data. (by tab.py) -/
import Derived.Test.YtmlbknmjgahcfaaGreatDoorEvC
import Derived.Shelf.Unicode.DecodeSlow
import Derived.Lib.ItoaNum
import Derived.Test.YtmlbknmjgahcfaaGreatDoorChecked
namespace Go.Proofs.YtmlbknmjgahcfaaGreatDoor
open Go Go.Ev

structure Dec where
  M : Int
  S : Int
  deriving DecidableEq
structure Val where
  Kind : Int
  N : Dec
  S : List UInt8
  B : Bool
  E : Int
  deriving DecidableEq
structure Wide where
  hi : Int
  lo : Int
  minus : Bool
  deriving DecidableEq
structure Big where
  Minus : Bool
  D : List Int
  deriving DecidableEq

def T : Nat → Type
  | 2 => Int
  | 3 => Int
  | 4 => Bool
  | 5 => UInt8
  | 9 => List UInt8
  | 21 => Int
  | 23 => Dec
  | 25 => Val
  | 27 => Dec
  | 29 => Val
  | 31 => Int
  | 78 => List Int
  | 87 => Int
  | 89 => Wide
  | 92 => Big
  | 104 => List Int
  | _ => Unit
def enc : (e : Nat) → T e → List (CV T)
  | 2, (x : Int) => [.int .i64 x]
  | 3, (x : Int) => [.int .i64 x]
  | 4, (x : Bool) => [.bool x]
  | 5, (x : UInt8) => [.int .u8 (x.toNat : Int)]
  | 9, (x : List UInt8) => [.str x]
  | 21, (x : Int) => [.int .i32 x]
  | 23, (x : Dec) => [.int .i64 x.M, .int .i64 x.S]
  | 25, (x : Val) => [.int .i64 x.Kind, .int .i64 x.N.M, .int .i64 x.N.S, .str x.S, .bool x.B, .int .i64 x.E]
  | 27, (x : Dec) => [.int .i64 x.M, .int .i64 x.S]
  | 29, (x : Val) => [.int .i64 x.Kind, .int .i64 x.N.M, .int .i64 x.N.S, .str x.S, .bool x.B, .int .i64 x.E]
  | 31, (x : Int) => [.int .i64 x]
  | 78, (x : List Int) => [.sl 3 x]
  | 87, (x : Int) => [.int .u64 x]
  | 89, (x : Wide) => [.int .u64 x.hi, .int .u64 x.lo, .bool x.minus]
  | 92, (x : Big) => [.bool x.Minus, .sl 3 x.D]
  | 104, (x : List Int) => [.sl 21 x]
  | _, _ => []
def dec2 : List (CV T) → Option Int
  | [c0] => dbnd (dI .i64 c0 : Option Int) fun x0 => some (x0 : Int)
  | _ => none
theorem dec2_le {cs : List (CV T)} {x : Int} (h : dec2 cs = some x) (hr : ∀ c ∈ cs, c.inR) : All2 CV.le cs (enc 2 x) := by
  unfold dec2 at h
  split at h
  · obtain ⟨x0, h0, h⟩ := dbnd_eq h
    have h := Option.some.inj h; subst h
    exact ⟨dI_le h0, trivial⟩
  · cases h
def dec3 : List (CV T) → Option Int
  | [c0] => dbnd (dI .i64 c0 : Option Int) fun x0 => some (x0 : Int)
  | _ => none
theorem dec3_le {cs : List (CV T)} {x : Int} (h : dec3 cs = some x) (hr : ∀ c ∈ cs, c.inR) : All2 CV.le cs (enc 3 x) := by
  unfold dec3 at h
  split at h
  · obtain ⟨x0, h0, h⟩ := dbnd_eq h
    have h := Option.some.inj h; subst h
    exact ⟨dI_le h0, trivial⟩
  · cases h
def dec4 : List (CV T) → Option Bool
  | [c0] => dbnd (dB c0 : Option Bool) fun x0 => some (x0 : Bool)
  | _ => none
theorem dec4_le {cs : List (CV T)} {x : Bool} (h : dec4 cs = some x) (hr : ∀ c ∈ cs, c.inR) : All2 CV.le cs (enc 4 x) := by
  unfold dec4 at h
  split at h
  · obtain ⟨x0, h0, h⟩ := dbnd_eq h
    have h := Option.some.inj h; subst h
    exact ⟨dB_le h0, trivial⟩
  · cases h
def dec5 : List (CV T) → Option UInt8
  | [c0] => dbnd (dU c0 : Option UInt8) fun x0 => some (x0 : UInt8)
  | _ => none
theorem dec5_le {cs : List (CV T)} {x : UInt8} (h : dec5 cs = some x) (hr : ∀ c ∈ cs, c.inR) : All2 CV.le cs (enc 5 x) := by
  unfold dec5 at h
  split at h
  · obtain ⟨x0, h0, h⟩ := dbnd_eq h
    have h := Option.some.inj h; subst h
    exact ⟨dU_le h0 (hr _ (by simp)), trivial⟩
  · cases h
def dec9 : List (CV T) → Option (List UInt8)
  | [c0] => dbnd (dS c0 : Option (List UInt8)) fun x0 => some (x0 : List UInt8)
  | _ => none
theorem dec9_le {cs : List (CV T)} {x : List UInt8} (h : dec9 cs = some x) (hr : ∀ c ∈ cs, c.inR) : All2 CV.le cs (enc 9 x) := by
  unfold dec9 at h
  split at h
  · obtain ⟨x0, h0, h⟩ := dbnd_eq h
    have h := Option.some.inj h; subst h
    exact ⟨dS_le h0, trivial⟩
  · cases h
def dec21 : List (CV T) → Option Int
  | [c0] => dbnd (dI .i32 c0 : Option Int) fun x0 => some (x0 : Int)
  | _ => none
theorem dec21_le {cs : List (CV T)} {x : Int} (h : dec21 cs = some x) (hr : ∀ c ∈ cs, c.inR) : All2 CV.le cs (enc 21 x) := by
  unfold dec21 at h
  split at h
  · obtain ⟨x0, h0, h⟩ := dbnd_eq h
    have h := Option.some.inj h; subst h
    exact ⟨dI_le h0, trivial⟩
  · cases h
def dec23 : List (CV T) → Option Dec
  | [c0, c1] => dbnd (dI .i64 c0 : Option Int) fun x0 => dbnd (dI .i64 c1 : Option Int) fun x1 => some (⟨x0, x1⟩ : Dec)
  | _ => none
theorem dec23_le {cs : List (CV T)} {x : Dec} (h : dec23 cs = some x) (hr : ∀ c ∈ cs, c.inR) : All2 CV.le cs (enc 23 x) := by
  unfold dec23 at h
  split at h
  · obtain ⟨x0, h0, h⟩ := dbnd_eq h
    obtain ⟨x1, h1, h⟩ := dbnd_eq h
    have h := Option.some.inj h; subst h
    exact ⟨dI_le h0, dI_le h1, trivial⟩
  · cases h
def dec25 : List (CV T) → Option Val
  | [c0, c1, c2, c3, c4, c5] => dbnd (dI .i64 c0 : Option Int) fun x0 => dbnd (dI .i64 c1 : Option Int) fun x1 => dbnd (dI .i64 c2 : Option Int) fun x2 => dbnd (dS c3 : Option (List UInt8)) fun x3 => dbnd (dB c4 : Option Bool) fun x4 => dbnd (dI .i64 c5 : Option Int) fun x5 => some (⟨x0, ⟨x1, x2⟩, x3, x4, x5⟩ : Val)
  | _ => none
theorem dec25_le {cs : List (CV T)} {x : Val} (h : dec25 cs = some x) (hr : ∀ c ∈ cs, c.inR) : All2 CV.le cs (enc 25 x) := by
  unfold dec25 at h
  split at h
  · obtain ⟨x0, h0, h⟩ := dbnd_eq h
    obtain ⟨x1, h1, h⟩ := dbnd_eq h
    obtain ⟨x2, h2, h⟩ := dbnd_eq h
    obtain ⟨x3, h3, h⟩ := dbnd_eq h
    obtain ⟨x4, h4, h⟩ := dbnd_eq h
    obtain ⟨x5, h5, h⟩ := dbnd_eq h
    have h := Option.some.inj h; subst h
    exact ⟨dI_le h0, dI_le h1, dI_le h2, dS_le h3, dB_le h4, dI_le h5, trivial⟩
  · cases h
def dec27 : List (CV T) → Option Dec
  | [c0, c1] => dbnd (dI .i64 c0 : Option Int) fun x0 => dbnd (dI .i64 c1 : Option Int) fun x1 => some (⟨x0, x1⟩ : Dec)
  | _ => none
theorem dec27_le {cs : List (CV T)} {x : Dec} (h : dec27 cs = some x) (hr : ∀ c ∈ cs, c.inR) : All2 CV.le cs (enc 27 x) := by
  unfold dec27 at h
  split at h
  · obtain ⟨x0, h0, h⟩ := dbnd_eq h
    obtain ⟨x1, h1, h⟩ := dbnd_eq h
    have h := Option.some.inj h; subst h
    exact ⟨dI_le h0, dI_le h1, trivial⟩
  · cases h
def dec29 : List (CV T) → Option Val
  | [c0, c1, c2, c3, c4, c5] => dbnd (dI .i64 c0 : Option Int) fun x0 => dbnd (dI .i64 c1 : Option Int) fun x1 => dbnd (dI .i64 c2 : Option Int) fun x2 => dbnd (dS c3 : Option (List UInt8)) fun x3 => dbnd (dB c4 : Option Bool) fun x4 => dbnd (dI .i64 c5 : Option Int) fun x5 => some (⟨x0, ⟨x1, x2⟩, x3, x4, x5⟩ : Val)
  | _ => none
theorem dec29_le {cs : List (CV T)} {x : Val} (h : dec29 cs = some x) (hr : ∀ c ∈ cs, c.inR) : All2 CV.le cs (enc 29 x) := by
  unfold dec29 at h
  split at h
  · obtain ⟨x0, h0, h⟩ := dbnd_eq h
    obtain ⟨x1, h1, h⟩ := dbnd_eq h
    obtain ⟨x2, h2, h⟩ := dbnd_eq h
    obtain ⟨x3, h3, h⟩ := dbnd_eq h
    obtain ⟨x4, h4, h⟩ := dbnd_eq h
    obtain ⟨x5, h5, h⟩ := dbnd_eq h
    have h := Option.some.inj h; subst h
    exact ⟨dI_le h0, dI_le h1, dI_le h2, dS_le h3, dB_le h4, dI_le h5, trivial⟩
  · cases h
def dec31 : List (CV T) → Option Int
  | [c0] => dbnd (dI .i64 c0 : Option Int) fun x0 => some (x0 : Int)
  | _ => none
theorem dec31_le {cs : List (CV T)} {x : Int} (h : dec31 cs = some x) (hr : ∀ c ∈ cs, c.inR) : All2 CV.le cs (enc 31 x) := by
  unfold dec31 at h
  split at h
  · obtain ⟨x0, h0, h⟩ := dbnd_eq h
    have h := Option.some.inj h; subst h
    exact ⟨dI_le h0, trivial⟩
  · cases h
def dec78 : List (CV T) → Option (List Int)
  | [c0] => dbnd (asSl 3 c0 : Option (List (T 3))) fun x0 => some (x0 : List Int)
  | _ => none
theorem dec78_le {cs : List (CV T)} {x : List Int} (h : dec78 cs = some x) (hr : ∀ c ∈ cs, c.inR) : All2 CV.le cs (enc 78 x) := by
  unfold dec78 at h
  split at h
  · obtain ⟨x0, h0, h⟩ := dbnd_eq h
    have h := Option.some.inj h; subst h
    exact ⟨asSl_le h0, trivial⟩
  · cases h
def dec87 : List (CV T) → Option Int
  | [c0] => dbnd (dI .u64 c0 : Option Int) fun x0 => some (x0 : Int)
  | _ => none
theorem dec87_le {cs : List (CV T)} {x : Int} (h : dec87 cs = some x) (hr : ∀ c ∈ cs, c.inR) : All2 CV.le cs (enc 87 x) := by
  unfold dec87 at h
  split at h
  · obtain ⟨x0, h0, h⟩ := dbnd_eq h
    have h := Option.some.inj h; subst h
    exact ⟨dI_le h0, trivial⟩
  · cases h
def dec89 : List (CV T) → Option Wide
  | [c0, c1, c2] => dbnd (dI .u64 c0 : Option Int) fun x0 => dbnd (dI .u64 c1 : Option Int) fun x1 => dbnd (dB c2 : Option Bool) fun x2 => some (⟨x0, x1, x2⟩ : Wide)
  | _ => none
theorem dec89_le {cs : List (CV T)} {x : Wide} (h : dec89 cs = some x) (hr : ∀ c ∈ cs, c.inR) : All2 CV.le cs (enc 89 x) := by
  unfold dec89 at h
  split at h
  · obtain ⟨x0, h0, h⟩ := dbnd_eq h
    obtain ⟨x1, h1, h⟩ := dbnd_eq h
    obtain ⟨x2, h2, h⟩ := dbnd_eq h
    have h := Option.some.inj h; subst h
    exact ⟨dI_le h0, dI_le h1, dB_le h2, trivial⟩
  · cases h
def dec92 : List (CV T) → Option Big
  | [c0, c1] => dbnd (dB c0 : Option Bool) fun x0 => dbnd (asSl 3 c1 : Option (List (T 3))) fun x1 => some (⟨x0, x1⟩ : Big)
  | _ => none
theorem dec92_le {cs : List (CV T)} {x : Big} (h : dec92 cs = some x) (hr : ∀ c ∈ cs, c.inR) : All2 CV.le cs (enc 92 x) := by
  unfold dec92 at h
  split at h
  · obtain ⟨x0, h0, h⟩ := dbnd_eq h
    obtain ⟨x1, h1, h⟩ := dbnd_eq h
    have h := Option.some.inj h; subst h
    exact ⟨dB_le h0, asSl_le h1, trivial⟩
  · cases h
def dec104 : List (CV T) → Option (List Int)
  | [c0] => dbnd (asSl 21 c0 : Option (List (T 21))) fun x0 => some (x0 : List Int)
  | _ => none
theorem dec104_le {cs : List (CV T)} {x : List Int} (h : dec104 cs = some x) (hr : ∀ c ∈ cs, c.inR) : All2 CV.le cs (enc 104 x) := by
  unfold dec104 at h
  split at h
  · obtain ⟨x0, h0, h⟩ := dbnd_eq h
    have h := Option.some.inj h; subst h
    exact ⟨asSl_le h0, trivial⟩
  · cases h
def dec (e : Nat) : List (CV T) → Option (T e) :=
  if h : e = 2 then h ▸ (dec2 : List (CV T) → Option (T 2)) else
  if h : e = 3 then h ▸ (dec3 : List (CV T) → Option (T 3)) else
  if h : e = 4 then h ▸ (dec4 : List (CV T) → Option (T 4)) else
  if h : e = 5 then h ▸ (dec5 : List (CV T) → Option (T 5)) else
  if h : e = 9 then h ▸ (dec9 : List (CV T) → Option (T 9)) else
  if h : e = 21 then h ▸ (dec21 : List (CV T) → Option (T 21)) else
  if h : e = 23 then h ▸ (dec23 : List (CV T) → Option (T 23)) else
  if h : e = 25 then h ▸ (dec25 : List (CV T) → Option (T 25)) else
  if h : e = 27 then h ▸ (dec27 : List (CV T) → Option (T 27)) else
  if h : e = 29 then h ▸ (dec29 : List (CV T) → Option (T 29)) else
  if h : e = 31 then h ▸ (dec31 : List (CV T) → Option (T 31)) else
  if h : e = 78 then h ▸ (dec78 : List (CV T) → Option (T 78)) else
  if h : e = 87 then h ▸ (dec87 : List (CV T) → Option (T 87)) else
  if h : e = 89 then h ▸ (dec89 : List (CV T) → Option (T 89)) else
  if h : e = 92 then h ▸ (dec92 : List (CV T) → Option (T 92)) else
  if h : e = 104 then h ▸ (dec104 : List (CV T) → Option (T 104)) else
  fun _ => none
theorem dec_none {e : Nat} (h : ¬ e ∈ ([2, 3, 4, 5, 9, 21, 23, 25, 27, 29, 31, 78, 87, 89, 92, 104] : List Nat)) : dec e = fun _ => none := by
  simp only [List.mem_cons, List.not_mem_nil, or_false, not_or] at h
  simp [dec, h]
theorem dec_ok (e : Nat) (cs : List (CV T)) (x : T e) (h : dec e cs = some x) (hr : ∀ c ∈ cs, c.inR) : All2 CV.le cs (enc e x) := by
  by_cases hm : e ∈ ([2, 3, 4, 5, 9, 21, 23, 25, 27, 29, 31, 78, 87, 89, 92, 104] : List Nat)
  · simp only [List.mem_cons, List.not_mem_nil, or_false] at hm
    rcases hm with rfl | rfl | rfl | rfl | rfl | rfl | rfl | rfl | rfl | rfl | rfl | rfl | rfl | rfl | rfl | rfl
    · exact dec2_le (x := x) h hr
    · exact dec3_le (x := x) h hr
    · exact dec4_le (x := x) h hr
    · exact dec5_le (x := x) h hr
    · exact dec9_le (x := x) h hr
    · exact dec21_le (x := x) h hr
    · exact dec23_le (x := x) h hr
    · exact dec25_le (x := x) h hr
    · exact dec27_le (x := x) h hr
    · exact dec29_le (x := x) h hr
    · exact dec31_le (x := x) h hr
    · exact dec78_le (x := x) h hr
    · exact dec87_le (x := x) h hr
    · exact dec89_le (x := x) h hr
    · exact dec92_le (x := x) h hr
    · exact dec104_le (x := x) h hr
  · rw [dec_none hm] at h; cases h
/-- what lies in the memory for good: the two tables of unicode/utf8, the powers of ten -/
def Inv (g : Gh) (w : World) : Prop := g 0 = .con ∧ g 1 = .con ∧ Lib.Utf8Tabs 0 1 w ∧ TabAt Tryz.prog "internal/strconv.uint64pow10" .u64 Lib.pow10Tab g w
theorem has_cell {w : World} {b i : Nat} {v : Value} (h : w.cell? ⟨b, i, none⟩ = some v) : b < w.heap.size := by
  unfold World.cell? at h
  simp only at h
  cases hw : w.heap[b]? with
  | none => rw [hw] at h; cases h
  | some o => exact (Array.getElem?_eq_some_iff.1 hw).1
theorem Inv_ext {g : Gh} {w : World} {g' : Gh} {w' : World} {D : Nat → Prop} (he : Ext g w g' w' D) (h : Inv g w) : Inv g' w' := by
  obtain ⟨h0, h1, ⟨h2, h3⟩, h4⟩ := h
  have b0 := has_cell (h2 0 (by omega))
  have b1 := has_cell (h3 0 (by omega)).1
  obtain ⟨e0, k0⟩ := he.con 0 b0 h0
  obtain ⟨e1, k1⟩ := he.con 1 b1 h1
  exact ⟨k0, k1, ⟨fun c hc => (cell_of_block e0).trans (h2 c hc), fun i hi => ⟨(cell_of_block e1).trans (h3 i hi).1, (cell_of_block e1).trans (h3 i hi).2⟩⟩, TabAt.ext he h4⟩

def tb : Tab := ⟨T, enc, dec, dec_ok, 5, rfl, fun _ => rfl, some 21, fun e h => by cases h; rfl, fun e h x => by cases h; rfl, Inv, Inv_ext⟩
theorem enc2_eq (x : Int) : tb.enc 2 x = [.int .i64 x] := by kernel_rfl
theorem enc3_eq (x : Int) : tb.enc 3 x = [.int .i64 x] := by kernel_rfl
theorem enc4_eq (x : Bool) : tb.enc 4 x = [.bool x] := by kernel_rfl
theorem enc5_eq (x : UInt8) : tb.enc 5 x = [.int .u8 (x.toNat : Int)] := by kernel_rfl
theorem enc9_eq (x : List UInt8) : tb.enc 9 x = [.str x] := by kernel_rfl
theorem enc21_eq (x : Int) : tb.enc 21 x = [.int .i32 x] := by kernel_rfl
theorem enc23_eq (x : Dec) : tb.enc 23 x = [.int .i64 x.M, .int .i64 x.S] := by kernel_rfl
theorem enc25_eq (x : Val) : tb.enc 25 x = [.int .i64 x.Kind, .int .i64 x.N.M, .int .i64 x.N.S, .str x.S, .bool x.B, .int .i64 x.E] := by kernel_rfl
theorem enc27_eq (x : Dec) : tb.enc 27 x = [.int .i64 x.M, .int .i64 x.S] := by kernel_rfl
theorem enc29_eq (x : Val) : tb.enc 29 x = [.int .i64 x.Kind, .int .i64 x.N.M, .int .i64 x.N.S, .str x.S, .bool x.B, .int .i64 x.E] := by kernel_rfl
theorem enc31_eq (x : Int) : tb.enc 31 x = [.int .i64 x] := by kernel_rfl
theorem enc78_eq (x : List Int) : tb.enc 78 x = [.sl 3 x] := by kernel_rfl
theorem enc87_eq (x : Int) : tb.enc 87 x = [.int .u64 x] := by kernel_rfl
theorem enc89_eq (x : Wide) : tb.enc 89 x = [.int .u64 x.hi, .int .u64 x.lo, .bool x.minus] := by kernel_rfl
theorem enc92_eq (x : Big) : tb.enc 92 x = [.bool x.Minus, .sl 3 x.D] := by kernel_rfl
theorem enc104_eq (x : List Int) : tb.enc 104 x = [.sl 21 x] := by kernel_rfl
end Go.Proofs.YtmlbknmjgahcfaaGreatDoor
