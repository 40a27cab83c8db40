/- A reflective evaluator for Go code of the model: what stands for what, and the evaluator itself (its soundness: the next texts). -/
import Derived.Calls
import Derived.Orders
import Derived.Below
import Derived.KernelRfl
import Derived.Scope
import Derived.ScopeJumps
namespace Go.Ev
open Go

/-! ## numbers' ranges -/
def lo : IntKind → Int
  | .i8 => -128 | .i16 => -32768 | .i32 => -2147483648 | .i64 => -9223372036854775808
  | _ => 0
def hi : IntKind → Int
  | .i8 => 127 | .i16 => 32767 | .i32 => 2147483647 | .i64 => 9223372036854775807
  | .u8 => 255 | .u16 => 65535 | .u32 => 4294967295 | .u64 => 18446744073709551615
def inR (k : IntKind) (n : Int) : Prop := lo k ≤ n ∧ n ≤ hi k
def inRB (k : IntKind) (n : Int) : Bool := decide (lo k ≤ n) && decide (n ≤ hi k)
theorem inRB_iff {k : IntKind} {n : Int} : inRB k n = true ↔ inR k n := by simp [inRB, inR]
def mxLen : Nat := 9223372036854775807
/-- does a text of so many bytes fit? -/
def fits (n : Nat) : Bool := Nat.ble n mxLen

/-! ## data -/
inductive CV (T : Nat → Type) where
  | int (k : IntKind) (n : Int)
  | bool (b : Bool)
  | str (s : List UInt8)
  | nil
  | sl (e : Nat) (xs : List (T e))

def CV.inR {T : Nat → Type} : CV T → Prop
  | .int k n => Ev.inR k n
  | _ => True

/-- alike, or the nil slice told as an empty one of some type -/
def CV.le {T : Nat → Type} (c d : CV T) : Prop := c = d ∨ c = .nil ∧ ∃ e, d = .sl e []

def All2 {α β : Type} (R : α → β → Prop) : List α → List β → Prop
  | [], [] => True
  | a :: as, b :: bs => R a b ∧ All2 R as bs
  | _, _ => False

/-- blocks: constant for good; a variable's; an array whose first n cells stand for good -/
inductive BK where
  | con
  | var
  | ar (n : Nat)

abbrev Gh := Nat → BK

/-- the world has gone on: what is not in D is as it was -/
structure Ext (g : Gh) (w : World) (g' : Gh) (w' : World) (D : Nat → Prop) : Prop where
  os : w'.os = w.os
  tape : w'.tape = w.tape
  output : w'.output = w.output
  size : w.heap.size ≤ w'.heap.size
  keep : ∀ b, b < w.heap.size → ¬ D b → w'.heap[b]? = w.heap[b]? ∧ g' b = g b
  con : ∀ b, b < w.heap.size → g b = .con → w'.heap[b]? = w.heap[b]? ∧ g' b = .con
  var : ∀ b, b < w.heap.size → g b = .var → g' b = .var
  ar : ∀ b n, b < w.heap.size → g b = .ar n → ∃ n', n ≤ n' ∧ g' b = .ar n' ∧ ∀ i, i < n → w'.cell? ⟨b, i, none⟩ = w.cell? ⟨b, i, none⟩

structure Tab where
  T : Nat → Type
  enc : (e : Nat) → T e → List (CV T)
  dec : (e : Nat) → List (CV T) → Option (T e)
  ok : ∀ e cs x, dec e cs = some x → (∀ c ∈ cs, c.inR) → All2 CV.le cs (enc e x)
  b8 : Nat
  hb : T b8 = UInt8
  hbe : ∀ x : T b8, enc b8 x = [.int .u8 ((cast hb x).toNat : Int)]
  /-- the type of runes, if there is one -/
  r4 : Option Nat
  hr : ∀ e, r4 = some e → T e = Int
  hre : ∀ e (h : r4 = some e) (x : T e), enc e x = [.int .i32 (cast (hr e h) x)]
  /-- what is known of the memory for good -/
  inv : Gh → World → Prop
  invk : ∀ {g w g' w' D}, Ext g w g' w' D → inv g w → inv g' w'

variable {T : Nat → Type}

/-! ## what a cell holds -/
inductive AC (T : Nat → Type) where
  | d (c : CV T)
  | own (e : Nat) (xs : List (T e)) (t : Nat)
  | ptr (i o : Nat)
  | cptr (cs : List (CV T))
  | fn (f : Nat) (caps : List (Nat × Nat))

def AC.cv : AC T → Option (CV T)
  | .d c => some c
  | .own e xs _ => some (.sl e xs)
  | _ => none
def cvs : List (AC T) → Option (List (CV T))
  | [] => some []
  | a :: as => match a.cv with
    | some c => match cvs as with
      | some cs => some (c :: cs)
      | none => none
    | none => none

inductive SV (T : Nat → Type) where
  | c (a : AC T)
  | agg (as : List (AC T))
  | tup (vs : List (Bool × List (AC T)))

def SV.cells : SV T → Option (List (AC T))
  | .c a => some [a]
  | .agg as => some as
  | .tup _ => none

structure St (T : Nat → Type) where
  env : Nat → Option (SV T)
  blk : Nat → Option (List (AC T))
  itr : Nat → Option (List UInt8 × Nat)
  tok : Nat → Bool
  used : Nat → Bool
  ro : Nat → Bool

def St.empty : St T := ⟨fun _ => none, fun _ => none, fun _ => none, fun _ => false, fun _ => false, fun _ => false⟩
def upd {α : Type} (f : Nat → α) (i : Nat) (v : α) : Nat → α := fun j => bif Nat.beq j i then v else f j
def St.put (s : St T) (d : Nat) (v : SV T) : St T := { s with env := upd s.env d (some v) }
def St.putO (s : St T) (d : Option Nat) (v : SV T) : St T := match d with | some d => s.put d v | none => s

def constV : Value → Option (AC T)
  | .int k n => bif inRB k n then some (.d (.int k n)) else none
  | .bool b => some (.d (.bool b))
  | .string s => bif fits s.data.toList.length then some (.d (.str s.data.toList)) else none
  | .slice none 0 0 => some (.d .nil)
  | _ => none
def constCells : List Value → Option (List (AC T))
  | [] => some []
  | v :: vs => match (constV v : Option (AC T)) with
    | some a => match constCells vs with
      | some as => some (a :: as)
      | none => none
    | none => none

def St.val (s : St T) : Operand → Option (SV T)
  | .tmp t => s.env t
  | .const v => match (constV v : Option (AC T)) with | some a => some (.c a) | none => none
  | .global _ => none
  | .func f => some (.c (.fn f []))

/-! ## the types' table, as the evaluator asks it -/
def aggOf (P : Program) (t : Nat) : Option Bool := match P.underlying t with | some (.struct _) | some (.array _ _) => some true | some _ => some false | none => none
def isAggB (P : Program) (t : Nat) : Bool := match aggOf P t with | some b => b | none => false
def zeroOf (P : Program) (e : Nat) : Option (List (AC T)) := match P.info? e with
  | some i => match i.zero with
    | some v => constCells v.cells.toList
    | none => none
  | none => none
def fieldOf (P : Program) (s f : Nat) : Option Field := match P.underlying s with
  | some (.struct fs) => fs[f]?
  | _ => none
def elemOf (P : Program) (t : Nat) : Option Nat := match P.underlying t with
  | some (.slice e) => some e
  | _ => none

/-- a value of type t out of cells, from the o-th on -/
def cut1 (P : Program) (t : Nat) (cells : List (AC T)) (o : Nat) : Option (SV T) :=
  match aggOf P t with
  | some true => bif Nat.ble (o + P.cellsOf t) cells.length then some (.agg ((cells.drop o).take (P.cellsOf t))) else none
  | some false => match cells[o]? with | some a => some (.c a) | none => none
  | none => none
def sized (P : Program) (e : Nat) : Bool := Nat.blt 0 (P.cellsOf e)
def fieldsOk (P : Program) (t : Nat) : Bool := match P.underlying t with
  | some (.struct fs) => fs.toList.all fun f => (P.info? f.type).isSome
  | _ => false
def setAt {α : Type} (cells new : List α) (o : Nat) : List α := cells.take o ++ new ++ cells.drop (o + new.length)

/-! ## what F's say -/
def idx {α : Type} (xs : List α) (i : Int) : Option α := bif decide (0 ≤ i) then xs[i.toNat]? else none
def sub {α : Type} (xs : List α) (l h : Int) : Option (List α) := bif decide (0 ≤ l) && decide (l ≤ h) && decide (h ≤ xs.length) then some ((xs.take h.toNat).drop l.toNat) else none
/-- appended, as long as no slice is longer than may be (B: an element's bytes) -/
def app {α : Type} (B : Nat) (xs ys : List α) : Option (List α) := bif Nat.ble ((xs.length + ys.length) * B) 140737488355328 then some (xs ++ ys) else none
def mkList {α : Type} (B : Nat) (z : α) (l c : Int) : Option (List α) := bif decide (0 ≤ l) && decide (l ≤ c) && decide (c * B ≤ 140737488355328) then some (List.replicate l.toNat z) else none
def cat (x y : List UInt8) : Option (List UInt8) := bif fits (x.length + y.length) then some (x ++ y) else none
def utf8 (n : Int) : List UInt8 := (Utf8.encode n).data.toList
def rune (s : List UInt8) (p : Nat) : Nat × Nat := Utf8.decode ⟨s.toArray⟩ p
/-- a text's runes, from a place on -/
def runesL (s : List UInt8) : Nat → Nat → List Int
  | 0, _ => []
  | n + 1, i => bif Nat.blt i s.length then ((rune s i).1 : Int) :: runesL s n (i + (rune s i).2) else []
def runes (s : List UInt8) : Option (List Int) := bif Nat.ble s.length 70368744177664 then some (runesL s s.length 0) else none
def bitsOf (op : BinOp) (k : IntKind) (x y : Int) : Int :=
  let a := BitVec.ofInt k.bits x
  let b := BitVec.ofInt k.bits y
  k.wrap ((match op with | .and => a &&& b | .or => a ||| b | .xor => a ^^^ b | _ => a &&& ~~~b).toNat : Int)
def sLt (x y : List UInt8) : Bool := Op.bytesLess x y

/-- what comes first, then what hangs on it -/
def obnd {α β : Type} (x : Option α) (f : α → Option β) : Option β := match x with | some a => f a | none => none
@[simp] theorem obnd_some {α β : Type} (a : α) (f : α → Option β) : obnd (some a) f = f a := rfl
@[simp] theorem obnd_none {α β : Type} (f : α → Option β) : obnd none f = none := rfl
theorem obnd_eq_some {α β : Type} {x : Option α} {f : α → Option β} {r : β} : obnd x f = some r ↔ ∃ a, x = some a ∧ f a = some r := by
  cases x <;> simp [obnd]
/-- a branch on what the evaluator does not know -/
def brn {α : Type} (b : Bool) (x y : α) : α := cond b x y
@[simp] theorem brn_true {α : Type} (x y : α) : brn true x y = x := rfl
@[simp] theorem brn_false {α : Type} (x y : α) : brn false x y = y := rfl

/-! ## operations that look at temporaries alone -/
section
variable {R : Type}

def evInt (op : BinOp) (k : IntKind) (a b : Int) (κ : CV T → Option R) : Option R :=
  match op with
  | .add => κ (.int k (k.wrap (a + b)))
  | .sub => κ (.int k (k.wrap (a - b)))
  | .mul => κ (.int k (k.wrap (a * b)))
  | .quo => brn (decide (b = 0)) none (κ (.int k (k.wrap (a.tdiv b))))
  | .rem => brn (decide (b = 0)) none (κ (.int k (a.tmod b)))
  | .and => κ (.int k (bitsOf .and k a b))
  | .or => κ (.int k (bitsOf .or k a b))
  | .xor => κ (.int k (bitsOf .xor k a b))
  | .andNot => κ (.int k (bitsOf .andNot k a b))
  | .eql => κ (.bool (decide (a = b)))
  | .neq => κ (.bool (!decide (a = b)))
  | .lss => κ (.bool (decide (a < b)))
  | .leq => κ (.bool (decide (a ≤ b)))
  | .gtr => κ (.bool (decide (b < a)))
  | .geq => κ (.bool (decide (b ≤ a)))
  | _ => none
def evStr (op : BinOp) (x y : List UInt8) (κ : CV T → Option R) : Option R :=
  match op with
  | .add => obnd (cat x y) fun z => κ (.str z)
  | .eql => κ (.bool (decide (x = y)))
  | .neq => κ (.bool (!decide (x = y)))
  | .lss => κ (.bool (sLt x y))
  | .leq => κ (.bool (sLt x y || decide (x = y)))
  | .gtr => κ (.bool !(sLt x y || decide (x = y)))
  | .geq => κ (.bool !(sLt x y))
  | _ => none
def evShift (op : BinOp) (k : IntKind) (a b : Int) (κ : CV T → Option R) : Option R :=
  brn (decide (b < 0)) none <|
  match op with
  | .shl => κ (.int k (k.wrap (a * 2 ^ (min b.toNat k.bits))))
  | .shr => κ (.int k (a.fdiv (2 ^ (min b.toNat k.bits))))
  | _ => none
/-- are two cells of plain data alike? (their kind: 0 a number, 1 a truth, 2 a text) -/
def eqCell : Nat → CV T → CV T → (Bool → Option R) → Option R
  | 0, .int k a, .int k' b, κ => bif decide (k = k') then κ (decide (a = b)) else none
  | 1, .bool a, .bool b, κ => κ (decide (a = b))
  | 2, .str a, .str b, κ => κ (decide (a = b))
  | _, _, _, _ => none
def eqCells : List Nat → List (CV T) → List (CV T) → (Bool → Option R) → Option R
  | [], [], [], κ => κ true
  | l :: ls, x :: xs, y :: ys, κ => eqCell l x y fun b => match ls with
    | [] => (match xs, ys with | [], [] => κ b | _, _ => none)
    | _ :: _ => eqCells ls xs ys fun r => κ (b && r)
  | _, _, _, _ => none

/-- the kinds of a type's cells, where its values may be compared cell by cell -/
def leaves (P : Program) : Nat → Nat → Option (List Nat)
  | 0, _ => none
  | d + 1, t => match P.underlying t with
    | some (.int _) => some [0]
    | some .bool => some [1]
    | some .string => some [2]
    | some (.struct fs) => bif P.stoodInHeld t then none else leavesF (leaves P d) P fs.toList 0
    | _ => none
where
  leavesF (rec : Nat → Option (List Nat)) (P : Program) : List Field → Nat → Option (List Nat)
    | [], _ => some []
    | f :: fs, o => bif f.name == "_" || !Nat.beq f.offset o then none else match rec f.type with
      | some l => bif Nat.beq l.length (P.cellsOf f.type) then (match leavesF rec P fs (o + l.length) with
        | some r => some (l ++ r)
        | none => none) else none
      | none => none

def evEq (P : Program) (neg : Bool) (xt : Nat) (xs ys : List (AC T)) (κ : CV T → Option R) : Option R :=
  bif P.eqGuardType P.depth xt || !isAggB P xt then none else
  match leaves P 20 xt with
  | some ls => match cvs xs with
    | some cs => match cvs ys with
      | some ds => eqCells ls cs ds fun r => κ (.bool (bif neg then !r else r))
      | none => none
    | none => none
  | none => none

def evBin (P : Program) (op : BinOp) (xt : Nat) (x y : SV T) (κ : CV T → Option R) : Option R :=
  match x, y with
  | .c (.d (.int k a)), .c (.d (.int k' b)) =>
    match op with
    | .shl | .shr => evShift op k a b κ
    | _ => bif decide (k = k') then evInt op k a b κ else none
  | .c (.d (.str a)), .c (.d (.str b)) => evStr op a b κ
  | .c (.d (.bool a)), .c (.d (.bool b)) => match P.underlying xt with
    | some .bool => match op with
      | .eql => κ (.bool (decide (a = b)))
      | .neq => κ (.bool (!decide (a = b)))
      | _ => none
    | _ => none
  | .agg xs, .agg ys => match op with
    | .eql => evEq P false xt xs ys κ
    | .neq => evEq P true xt xs ys κ
    | _ => none
  | _, _ => none

def evUn (op : UnOp) (x : SV T) (κ : CV T → Option R) : Option R :=
  match x with
  | .c (.d (.int k a)) => match op with
    | .neg => κ (.int k (k.wrap (0 - a)))
    | .xor => κ (.int k (bitsOf .xor k (bif k.signed then -1 else k.max) a))
    | _ => none
  | .c (.d (.bool b)) => match op with
    | .not => κ (.bool (!b))
    | _ => none
  | _ => none

/-- conversions that make no memory -/
def evConv (P : Program) (tb : Tab) (src dst : Nat) (x : SV tb.T) (κ : CV tb.T → Option R) : Option R :=
  match P.underlying src, P.underlying dst, x with
  | some _, some (.int k), .c (.d (.int k0 n)) => bif decide (k0 = k) then κ (.int k n) else κ (.int k (k.wrap n))
  | some (.int _), some .string, .c (.d (.int _ n)) => κ (.str (utf8 n))
  | some .string, some .string, .c (.d (.str s)) => κ (.str s)
  | some (.slice e), some .string, .c a => match P.underlying e with
    | some (.int .u8) => match a.cv with
      | some .nil => κ (.str [])
      | some (.sl e' xs) => if h : e' = tb.b8 then κ (.str (cast (by rw [h, tb.hb]) xs)) else none
      | _ => none
    | _ => none
  | _, _, _ => none

/-- the cells of a struct's parts, laid where they belong -/
def fillS (P : Program) (t : Nat) (ρ : Operand → Option (SV T)) : List (Nat × Operand) → List (AC T) → Option (List (AC T))
  | [], cells => some cells
  | (i, x) :: ps, cells => match fieldOf P t i with
    | none => none
    | some f => match ρ x with
      | none => none
      | some v => match v.cells with
        | none => none
        | some as => bif decide (as.length = P.cellsOf f.type) && decide (f.offset + as.length ≤ cells.length) then fillS P t ρ ps (setAt cells as f.offset) else none

def sliceOf (tb : Tab) (a : AC tb.T) (e : Nat) : Option (List (tb.T e)) :=
  match a with
  | .d .nil => some []
  | .d (.sl e' xs) => if h : e' = e then some (h ▸ xs) else none
  | .own e' xs _ => if h : e' = e then some (h ▸ xs) else none
  | _ => none

def boundOf (ρ : Operand → Option (SV T)) : Option Operand → Int → Option Int
  | none, d => some d
  | some x, _ => match ρ x with
    | some (.c (.d (.int _ n))) => some n
    | _ => none

def minAll (k : IntKind) (x : Int) : List (SV T) → Option Int
  | [] => some x
  | .c (.d (.int k' y)) :: r => bif decide (k = k') then minAll k (bif decide (y < x) then y else x) r else none
  | _ => none
def maxAll (k : IntKind) (x : Int) : List (SV T) → Option Int
  | [] => some x
  | .c (.d (.int k' y)) :: r => bif decide (k = k') then maxAll k (bif decide (x < y) then y else x) r else none
  | _ => none

def vals (ρ : Operand → Option (SV T)) : List Operand → Option (List (SV T))
  | [] => some []
  | x :: xs => match ρ x with
    | some v => match vals ρ xs with
      | some vs => some (v :: vs)
      | none => none
    | none => none

def evLen (P : Program) (t : Nat) (x : SV T) (κ : SV T → Option R) : Option R :=
  match P.underlying t, x with
  | some .string, .c (.d (.str s)) => κ (.c (.d (.int .i64 s.length)))
  | some (.slice _), .c (.d .nil) => κ (.c (.d (.int .i64 0)))
  | some (.slice _), .c (.d (.sl _ xs)) => κ (.c (.d (.int .i64 xs.length)))
  | some (.slice _), .c (.own _ xs _) => κ (.c (.d (.int .i64 xs.length)))
  | _, _ => none

/-- operations that look at temporaries alone, and touch no memory -/
def evP (P : Program) (tb : Tab) (o : Op) (ρ : Operand → Option (SV tb.T)) (κ : SV tb.T → Option R) : Option R :=
  match o with
  | .move x | .assign x => match ρ x with | some v => κ v | none => none
  | .pick c a b => match ρ c with
    | some (.c (.d (.bool t))) => brn t (match ρ a with | some v => κ v | none => none) (match ρ b with | some v => κ v | none => none)
    | _ => none
  | .binOp op xt x y _ => match ρ x with
    | some u => match ρ y with
      | some v => evBin P op xt u v fun c => κ (.c (.d c))
      | none => none
    | none => none
  | .unOp op _ x => match ρ x with
    | some u => evUn op u fun c => κ (.c (.d c))
    | none => none
  | .convert src dst x => match ρ x with
    | some u => evConv P tb src dst u fun c => κ (.c (.d c))
    | none => none
  | .fieldAddr s x f => match fieldOf P s f with
    | some fd => bif Nat.beq (P.cellsOf fd.type) 0 then none else match ρ x with
      | some (.c (.ptr i o)) => κ (.c (.ptr i (o + fd.offset)))
      | some (.c (.cptr cs)) => bif Nat.blt fd.offset cs.length then κ (.c (.cptr (cs.drop fd.offset))) else none
      | _ => none
    | none => none
  | .field s x f => match fieldOf P s f with
    | some fd => match ρ x with
      | some (.agg as) => match cut1 P fd.type as fd.offset with | some v => κ v | none => none
      | _ => none
    | none => none
  | .indexAddr t x ix => match elemOf P t with
    | some e => match ρ x with
      | some (.c a) => match sliceOf tb a e with
        | some xs => match ρ ix with
          | some (.c (.d (.int _ i))) => bif sized P e then obnd (idx xs i) fun y => κ (.c (.cptr (tb.enc e y))) else none
          | _ => none
        | none => none
      | _ => none
    | none => none
  | .index t x ix => match P.underlying t with
    | some .string => match ρ x with
      | some (.c (.d (.str s))) => match ρ ix with
        | some (.c (.d (.int _ i))) => obnd (idx s i) fun y => κ (.c (.d (.int .u8 (y.toNat : Int))))
        | _ => none
      | _ => none
    | _ => none
  | .extract x i => match ρ x with
    | some (.tup vs) => match vs[i]? with
      | some (true, as) => κ (.agg as)
      | some (false, [a]) => κ (.c a)
      | _ => none
    | _ => none
  | .build t parts => match P.underlying t with
    | some (.struct _) => match zeroOf (T := tb.T) P t with
      | some z => bif fieldsOk P t then (match fillS P t ρ parts.toList z with
        | some as => κ (.agg as)
        | none => none) else none
      | none => none
    | _ => none
  | .slice t x l h m => match m with
    | some _ => none
    | none => match P.underlying t with
      | some .string => match ρ x with
        | some (.c (.d (.str s))) => match boundOf ρ l 0 with
          | some li => match boundOf ρ h s.length with
            | some hi => obnd (sub s li hi) fun z => κ (.c (.d (.str z)))
            | none => none
          | none => none
        | _ => none
      | some (.slice e) => match ρ x with
        | some (.c a) => match sliceOf tb a e with
          | some xs => match boundOf ρ l 0 with
            | some li => match boundOf ρ h xs.length with
              | some hi => bif sized P e then obnd (sub xs li hi) fun z => κ (.c (.d (.sl e z))) else none
              | none => none
            | none => none
          | none => none
        | _ => none
      | _ => none
  | .nilCheck x => match ρ x with
    | some (.c (.ptr i o)) => κ (.c (.ptr i o))
    | some (.c (.cptr cs)) => κ (.c (.cptr cs))
    | _ => none
  | .call { callee := .builtin .len, args, argTypes } => match vals ρ args.toList with
    | some [v] => match argTypes.toList with
      | t :: _ => evLen P t v κ
      | _ => none
    | _ => none
  | .call { callee := .builtin .min, args, argTypes := _ } => match vals ρ args.toList with
    | some (.c (.d (.int k x)) :: r) => match minAll k x r with | some n => κ (.c (.d (.int k n))) | none => none
    | _ => none
  | .call { callee := .builtin .max, args, argTypes := _ } => match vals ρ args.toList with
    | some (.c (.d (.int k x)) :: r) => match maxAll k x r with | some n => κ (.c (.d (.int k n))) | none => none
    | _ => none
  | _ => none

/-! ## patterns: what a parameter, a result, a variable at a cut may hold -/
end
inductive Pat where
  | val (e : Nat)
  | own (e : Nat)
  | ref (e : Nat)
  | ro (e : Nat)
  | iter
  deriving DecidableEq

def X (tb : Tab) : Pat → Type
  | .val e => tb.T e
  | .own e => List (tb.T e)
  | .ref e => tb.T e
  | .ro e => tb.T e
  | .iter => List UInt8 × Nat
abbrev LSpec := List (Nat × Pat)
def XS (tb : Tab) : LSpec → Type
  | [] => Unit
  | [a] => X tb a.2
  | a :: b :: l => X tb a.2 × XS tb (b :: l)

def valSV (P : Program) (e : Nat) (cs : List (CV T)) : SV T :=
  bif isAggB P e then .agg (cs.map .d) else match cs with | [c] => .c (.d c) | _ => .tup []
def Pat.isOwn : Pat → Bool | .own _ => true | _ => false
def Pat.isRef : Pat → Bool | .ref _ => true | .iter => true | _ => false

/-- slot t holds x, as pattern p says; what is owned bears the identity id -/
def putP (P : Program) (tb : Tab) (s : St tb.T) (t id : Nat) : (p : Pat) → X tb p → St tb.T
  | .val e, x => { s with env := upd s.env t (some (valSV P e (tb.enc e x))) }
  | .own e, x => { s with env := upd s.env t (some (.c (.own e x id))), tok := upd s.tok id true, used := upd s.used id true }
  | .ref e, x => { s with env := upd s.env t (some (.c (.ptr id 0))), blk := upd s.blk id (some ((tb.enc e x).map .d)), used := upd s.used id true }
  | .ro e, x => { s with env := upd s.env t (some (.c (.ptr id 0))), blk := upd s.blk id (some ((tb.enc e x).map .d)), used := upd s.used id true, ro := upd s.ro id true }
  | .iter, x => { s with env := upd s.env t (some (.c (.ptr id 0))), itr := upd s.itr id (some x), used := upd s.used id true }

def canon (P : Program) (tb : Tab) : (l : LSpec) → XS tb l → St tb.T
  | [], _ => .empty
  | [a], x => putP P tb .empty a.1 a.1 a.2 x
  | a :: b :: l, (x, xs) => putP P tb (canon P tb (b :: l) xs) a.1 a.1 a.2 x

def extVal (P : Program) (tb : Tab) (e : Nat) (v : SV tb.T) : Option (tb.T e) :=
  match v with
  | .c a => bif isAggB P e then none else match a.cv with
    | some c => tb.dec e [c]
    | none => none
  | .agg as => bif isAggB P e then (match cvs as with | some cs => tb.dec e cs | none => none) else none
  | .tup _ => none
def extOwn (tb : Tab) (s : St tb.T) (e : Nat) (v : SV tb.T) : Option (List (tb.T e)) :=
  match v with
  | .c (.d .nil) => some []
  | .c (.own e' xs t) => if h : e' = e then (bif s.tok t then some (h ▸ xs) else none) else none
  | _ => none
def extBlk (tb : Tab) (s : St tb.T) (e : Nat) (v : SV tb.T) : Option (tb.T e) :=
  match v with
  | .c (.ptr i 0) => match s.blk i with
    | some as => match cvs as with | some cs => tb.dec e cs | none => none
    | none => none
  | _ => none
def isRo {T : Nat → Type} (s : St T) (v : SV T) : Bool :=
  match v with
  | .c (.ptr i _) => s.ro i
  | _ => true
def extItr {T : Nat → Type} (s : St T) (v : SV T) : Option (List UInt8 × Nat) :=
  match v with
  | .c (.ptr i 0) => s.itr i
  | _ => none
def extP (P : Program) (tb : Tab) (s : St tb.T) (p : Pat) (v : SV tb.T) : Option (X tb p) :=
  match p with
  | .val e => extVal P tb e v
  | .own e => extOwn tb s e v
  | .ref e => bif isRo s v then none else extBlk tb s e v
  | .ro e => extBlk tb s e v
  | .iter => extItr s v
/-- which identities are handed on for good or for the while -/
def idsP {T : Nat → Type} (p : Pat) (v : SV T) : List Nat :=
  match p, v with
  | .own _, .c (.own _ _ t) => [t]
  | .ref _, .c (.ptr i _) => [i]
  | .ro _, .c (.ptr i _) => [i]
  | .iter, .c (.ptr i _) => [i]
  | _, _ => []
def extS (P : Program) (tb : Tab) (s : St tb.T) (get : Nat → Option (SV tb.T)) : (l : LSpec) → Option (XS tb l)
  | [] => some ()
  | [a] => match get a.1 with
    | some v => extP P tb s a.2 v
    | none => none
  | a :: b :: l => match get a.1 with
    | some v => match extP P tb s a.2 v with
      | some x => match extS P tb s get (b :: l) with
        | some xs => some (x, xs)
        | none => none
      | none => none
    | none => none
def idsS {T : Nat → Type} (get : Nat → Option (SV T)) : LSpec → List Nat
  | [] => []
  | a :: l => (match get a.1 with | some v => idsP a.2 v | none => []) ++ idsS get l
def memB (i : Nat) : List Nat → Bool
  | [] => false
  | j :: l => Nat.beq i j || memB i l
def nodupB : List Nat → Bool
  | [] => true
  | i :: l => !memB i l && nodupB l
def refsOf : LSpec → LSpec
  | [] => []
  | a :: l => bif a.2.isRef then a :: refsOf l else refsOf l
end Go.Ev
