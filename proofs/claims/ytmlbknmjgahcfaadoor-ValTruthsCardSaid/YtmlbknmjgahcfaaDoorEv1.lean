/- The evaluator, the rest: memory, calls, code. -/
import Derived.Test.YtmlbknmjgahcfaaDoorEv0
namespace Go.Ev
open Go

/-! ## contracts -/
def Ret (tb : Tab) (outs : LSpec) : LSpec → Type
  | [] => XS tb outs
  | r :: rs => XS tb outs × XS tb (r :: rs)
def Ret.outs {tb : Tab} {outs : LSpec} : {rs : LSpec} → Ret tb outs rs → XS tb outs
  | [], y => y
  | _ :: _, y => y.1
def Ret.refs {tb : Tab} {outs : LSpec} : {rs : LSpec} → Ret tb outs rs → XS tb rs
  | [], _ => ()
  | _ :: _, y => y.2
def Ret.mk {tb : Tab} {outs : LSpec} : {rs : LSpec} → XS tb outs → XS tb rs → Ret tb outs rs
  | [], x, _ => x
  | _ :: _, x, z => (x, z)

structure FSpec (tb : Tab) where
  ins : LSpec
  outs : LSpec
  f : XS tb ins → Option (Ret tb outs (refsOf ins))

inductive Ex where
  | normal
  | exit (id : Nat)
  | goto (l : Nat)
  | ret
  deriving DecidableEq

def Outs (tb : Tab) (rs : LSpec) : List (Ex × LSpec) → Type
  | [] => Empty
  | [o] => Ret tb o.2 rs
  | o :: p :: l => Ret tb o.2 rs ⊕ Outs tb rs (p :: l)

structure CutSpec (tb : Tab) where
  key : Nat
  ins : LSpec
  outs : List (Ex × LSpec)
  W : List Nat
  J : XS tb ins → Option (Outs tb (refsOf ins) outs)

/-! ## what is handed on, and what comes back -/
/-- what was handed on for good is no longer owned -/
def St.drop {T : Nat → Type} (s : St T) (ids : List Nat) : St T := { s with tok := fun i => bif memB i ids then false else s.tok i }
/-- what is handed over: what is owned for good, the references for the while -/
def St.take {T : Nat → Type} (s : St T) (get : Nat → Option (SV T)) (ins : LSpec) : St T :=
  { s with tok := fun i => bif memB i (idsS get ins) then false else s.tok i
           blk := fun i => bif memB i (idsS get (refsOf ins)) then none else s.blk i
           itr := fun i => bif memB i (idsS get (refsOf ins)) then none else s.itr i }
/-- what lies behind the references now -/
def putRefs (tb : Tab) (s : St tb.T) (get : Nat → Option (SV tb.T)) : (rs : LSpec) → XS tb rs → St tb.T
  | [], _ => s
  | [a], x => one s a x
  | a :: b :: l, (x, xs) => putRefs tb (one s a x) get (b :: l) xs
where
  one (s : St tb.T) (a : Nat × Pat) (x : X tb a.2) : St tb.T :=
    match get a.1 with
    | some (.c (.ptr i _)) => match a.2, x with
      | .ref e, x => { s with blk := upd s.blk i (some ((tb.enc e x).map .d)) }
      | .iter, x => { s with itr := upd s.itr i (some x) }
      | _, _ => s
    | _ => s
/-- results as a tuple's parts; the j-th is owned by d + 65536 j -/
def outTup (P : Program) (tb : Tab) (d : Nat) (s : St tb.T) : (j : Nat) → (l : LSpec) → XS tb l → Option (List (Bool × List (AC tb.T)) × St tb.T)
  | _, [], _ => some ([], s)
  | j, [a], x => match part1 d s j a x with
    | some (p, s') => some ([p], s')
    | none => none
  | j, a :: b :: l, (x, xs) => match part1 d s j a x with
    | some (p, s') => match outTup P tb d s' (j + 1) (b :: l) xs with
      | some (ps, s'') => some (p :: ps, s'')
      | none => none
    | none => none
where
  part1 (d : Nat) (s : St tb.T) (j : Nat) (a : Nat × Pat) (x : X tb a.2) : Option ((Bool × List (AC tb.T)) × St tb.T) :=
    match a.2, x with
    | .val e, x => bif isAggB P e then some ((true, (tb.enc e x).map .d), s) else (match tb.enc e x with | [c] => some ((false, [.d c]), s) | _ => none)
    | .own e, x => bif s.used (d + 65536 * j) then none else
        some ((false, [.own e x (d + 65536 * j)]), { s with tok := upd s.tok (d + 65536 * j) true, used := upd s.used (d + 65536 * j) true })
    | _, _ => none
def outOne (P : Program) (tb : Tab) (d : Nat) (s : St tb.T) (p : Pat) (x : X tb p) : Option (St tb.T) :=
  match p, x with
  | .val e, x => some (s.put d (valSV P e (tb.enc e x)))
  | .own e, x => bif s.used d then none else some { s with env := upd s.env d (some (.c (.own e x d))), tok := upd s.tok d true, used := upd s.used d true }
  | _, _ => none
def putOuts (P : Program) (tb : Tab) (dst : Option Nat) (s : St tb.T) : (l : LSpec) → XS tb l → Option (St tb.T)
  | [], _ => some (s.putO dst (.tup []))
  | [a], x => match dst with
    | some d => outOne P tb d s a.2 x
    | none => some s
  | a :: b :: l, x => match dst with
    | some d => match outTup P tb d s 0 (a :: b :: l) x with
      | some (ps, s') => some (s'.put d (.tup ps))
      | none => none
    | none => some s

section
variable {R : Type}

def evCall (P : Program) (tb : Tab) (fid : Nat) (vs : List (SV tb.T)) (dst : Option Nat) (s : St tb.T) (κ : St tb.T → Option R) : List (Nat × FSpec tb) → Option R
  | [] => none
  | (g, spec) :: Γ => bif Nat.beq g fid then
      (match extS P tb s (fun i => vs[i]?) spec.ins with
      | none => evCall P tb fid vs dst s κ Γ
      | some x => bif nodupB (idsS (fun i => vs[i]?) spec.ins) && Nat.beq spec.ins.length vs.length then
          obnd (spec.f x) fun y =>
            match putOuts P tb dst (putRefs tb (s.take (fun i => vs[i]?) spec.ins) (fun i => vs[i]?) (refsOf spec.ins) y.refs) spec.outs y.outs with
            | some s' => κ s'
            | none => none
        else none)
    else evCall P tb fid vs dst s κ Γ

/-- the elements of a slice's literal -/
def partAt : Nat → List (Nat × Operand) → Option Operand
  | _, [] => none
  | i, (j, x) :: ps => bif Nat.beq i j then some x else partAt i ps
def elCells (P : Program) {T : Nat → Type} (e : Nat) (ρ : Operand → Option (SV T)) (parts : List (Nat × Operand)) (i : Nat) : Option (List (AC T)) :=
  match partAt i parts with
  | some x => match ρ x with | some v => v.cells | none => none
  | none => zeroOf P e
def buildEls (P : Program) (tb : Tab) (e : Nat) (ρ : Operand → Option (SV tb.T)) (parts : List (Nat × Operand)) : Nat → Nat → Option (List (tb.T e))
  | 0, _ => some []
  | n + 1, i => match elCells P e ρ parts i with
    | some as => match cvs as with
      | some cs => bif Nat.beq cs.length (P.cellsOf e) then (match tb.dec e cs with
        | some x => match buildEls P tb e ρ parts n (i + 1) with
          | some xs => some (x :: xs)
          | none => none
        | none => none) else none
      | none => none
    | none => none

def hasZero (P : Program) (e : Nat) : Bool := match P.info? e with | some i => (match i.zero with | some z => Nat.beq z.cells.size i.size | none => false) | none => false
/-- new memory that the call owns -/
def newOwn (tb : Tab) (s : St tb.T) (d e : Nat) (xs : List (tb.T e)) (κ : St tb.T → Option R) : Option R :=
  bif s.used d then none else κ { s with env := upd s.env d (some (.c (.own e xs d))), tok := upd s.tok d true, used := upd s.used d true }
def newVar {T : Nat → Type} (s : St T) (d : Nat) (as : List (AC T)) (κ : St T → Option R) : Option R :=
  bif s.used d then none else κ { s with env := upd s.env d (some (.c (.ptr d 0))), blk := upd s.blk d (some as), used := upd s.used d true }

def evAppend (P : Program) (tb : Tab) (dst : Option Nat) (st xt : Nat) (sv xv : SV tb.T) (s : St tb.T) (κ : St tb.T → Option R) : Option R :=
  match dst with
  | none => none
  | some d => match elemOf P st with
    | none => none
    | some e => match (match P.underlying xt, xv with
        | some (.slice _), .c a => sliceOf tb a e
        | some .string, .c (.d (.str l)) => if h : e = tb.b8 then (bif Nat.beq (P.cellsOf e) 1 then some (cast (by rw [h, tb.hb]) l) else none) else none
        | _, _ => none) with
      | none => none
      | some ys => bif !(sized P e && hasZero P e && Nat.blt 0 (P.bytesOf e)) then none else match sv with
        | .c (.d .nil) => obnd (app (P.bytesOf e) [] ys) fun zs => newOwn tb s d e zs κ
        | .c (.own e' xs t) => if h : e' = e then (bif s.tok t then obnd (app (P.bytesOf e) (h ▸ xs) ys) fun zs => newOwn tb (s.drop [t]) d e zs κ else none) else none
        | _ => none

def evOp (P : Program) (tb : Tab) (Γ : List (Nat × FSpec tb)) (o : Oper) (s : St tb.T) (κ : St tb.T → Option R) : Option R :=
  match o.op with
  | .alloc e => match o.dst with
    | some d => match zeroOf P e with
      | some z => newVar s d z κ
      | none => none
    | none => none
  | .box _ x => match o.dst with
    | some d => match s.val x with
      | some v => match v.cells with
        | some as => newVar s d as κ
        | none => none
      | none => none
    | none => none
  | .load t a => match s.val a with
    | some (.c (.ptr i off)) => match s.blk i with
      | some cells => match cut1 P t cells off with
        | some v => κ (s.putO o.dst v)
        | none => none
      | none => none
    | some (.c (.cptr cs)) => match cut1 P t (cs.map AC.d) 0 with
      | some v => κ (s.putO o.dst v)
      | none => none
    | _ => none
  | .store t a x => match o.dst with
    | some _ => none
    | none => match s.val a with
      | some (.c (.ptr i off)) => bif s.ro i then none else match s.blk i with
        | some cells => match s.val x with
          | some v => match v.cells with
            | some as => bif sized P t && Nat.beq as.length (P.cellsOf t) && Nat.ble (off + as.length) cells.length then κ { s with blk := upd s.blk i (some (setAt cells as off)) } else none
            | none => none
          | none => none
        | none => none
      | _ => none
  | .buildSlice t n parts => match o.dst with
    | some d => match elemOf P t with
      | some e => bif nodupB (parts.toList.map (·.1)) && parts.toList.all (fun p => Nat.blt p.1 n) && Nat.ble (n * P.cellsOf e) 16777216 && Nat.blt 0 (P.cellsOf e) && hasZero P e then (match buildEls P tb e s.val parts.toList n 0 with
        | some xs => newOwn tb s d e xs κ
        | none => none) else none
      | none => none
    | none => none
  | .makeSlice t l c => match o.dst with
    | some d => match elemOf P t with
      | some e => match zeroOf (T := tb.T) P e with
        | some z => match cvs z with
          | some cs => bif sized P e && Nat.beq cs.length (P.cellsOf e) then (match tb.dec e cs with
            | some x => match s.val l, s.val c with
              | some (.c (.d (.int .i64 li))), some (.c (.d (.int .i64 ci))) => obnd (mkList (P.bytesOf e) x li ci) fun xs => newOwn tb s d e xs κ
              | _, _ => none
            | none => none) else none
          | none => none
        | none => none
      | none => none
    | none => none
  | .convert src dst x => match P.underlying src, P.underlying dst, s.val x, o.dst with
    | some .string, some (.slice e), some (.c (.d (.str l))), some d => match P.underlying e with
      | some (.int .u8) => if h : e = tb.b8 then (bif Nat.beq (P.cellsOf e) 1 then newOwn tb s d e (cast (by rw [h, tb.hb]) l) κ else none) else none
      | some (.int .i32) => if h : tb.r4 = some e then (bif Nat.beq (P.cellsOf e) 1 then obnd (runes l) fun rs => newOwn tb s d e (cast (by rw [tb.hr e h]) rs) κ else none) else none
      | _ => none
    | _, _, _, _ => evP P tb o.op s.val fun v => κ (s.putO o.dst v)
  | .range xt x => match o.dst with
    | some d => match P.underlying xt, s.val x with
      | some .string, some (.c (.d (.str l))) => bif s.used d then none else
          κ { s with env := upd s.env d (some (.c (.ptr d 0))), itr := upd s.itr d (some (l, 0)), used := upd s.used d true }
      | _, _ => none
    | none => none
  | .next it str => bif str then (match o.dst with
    | some d => match s.val it with
      | some (.c (.ptr i 0)) => match s.itr i with
        | some (l, p) => brn (decide (p < l.length))
            (κ { s with env := upd s.env d (some (.tup [(false, [.d (.bool true)]), (false, [.d (.int .i64 (p : Int))]), (false, [.d (.int .i32 ((rune l p).1 : Int))])])), itr := upd s.itr i (some (l, p + (rune l p).2)) })
            (κ (s.put d (.tup [(false, [.d (.bool false)])])))
        | none => none
      | _ => none
    | none => none) else none
  | .call { callee := .builtin .append, args, argTypes } => match vals s.val args.toList, argTypes.toList with
    | some [sv, xv], [st, xt] => evAppend P tb o.dst st xt sv xv s κ
    | _, _ => none
  | .call { callee := .value f, args, argTypes := _ } => match s.val f with
    | some (.c (.fn fid caps)) => match vals s.val args.toList with
      | some vs => evCall P tb fid (vs ++ caps.map fun p => .c (.ptr p.1 p.2)) o.dst s κ Γ
      | none => none
    | _ => none
  | op => evP P tb op s.val fun v => κ (s.putO o.dst v)

/-! ## what an operation touches -/
inductive Foot where
  | p | l (i : Nat) | st (i : Nat) | n | x
def LSpec.plain (l : LSpec) : Bool := l.all fun a => match a.2 with | .val _ => true | _ => false
def LSpec.plainOwn (l : LSpec) : Bool := l.all fun a => match a.2 with | .val _ | .own _ => true | _ => false
def plainFn {tb : Tab} (Γ : List (Nat × FSpec tb)) (f : Nat) : Bool := Γ.all fun g => !Nat.beq g.1 f || (LSpec.plain g.2.ins && LSpec.plainOwn g.2.outs)
def footOf {tb : Tab} (Γ : List (Nat × FSpec tb)) (o : Op) (s : St tb.T) : Foot :=
  match o with
  | .load _ a => match s.val a with | some (.c (.ptr i _)) => .l i | some (.c (.cptr _)) => .p | _ => .x
  | .store _ a _ => match s.val a with | some (.c (.ptr i _)) => .st i | _ => .x
  | .alloc _ | .box .. | .buildSlice .. | .makeSlice .. | .convert .. | .range .. => .n
  | .next .. => .x
  | .call { callee := .builtin .append, .. } => .x
  | .call { callee := .value (.func f), .. } => bif plainFn Γ f then .n else .x
  | .call { callee := .value _, .. } => .x
  | _ => .p
def Foot.free : Foot → Foot → Bool
  | .x, _ | _, .x => false
  | .l i, .st j | .st i, .l j | .st i, .st j => !Nat.beq i j
  | _, _ => true

/-- an operation under its guard -/
def evG (P : Program) (tb : Tab) (Γ : List (Nat × FSpec tb)) (ops : Array Oper) (o : Oper) (s : St tb.T) (κ : Foot → St tb.T → Option R) : Option R :=
  match o.guard with
  | none => evOp P tb Γ o s (κ (footOf Γ o.op s))
  | some (j, want) => match ops[j]? with
    | none => none
    | some oj => match oj.dst with
      | none => none
      | some t => match s.env t with
        | some (.c (.d (.bool b))) =>
          brn b (bif want then evOp P tb Γ o (s.put t (.c (.d (.bool true)))) (κ (footOf Γ o.op s)) else κ .p ((s.put t (.c (.d (.bool true)))).putO o.dst (.tup [])))
          (bif want then κ .p ((s.put t (.c (.d (.bool false)))).putO o.dst (.tup [])) else evOp P tb Γ o (s.put t (.c (.d (.bool false)))) (κ (footOf Γ o.op s)))
        | some (.tup []) => κ .p (s.putO o.dst (.tup []))
        | _ => none
def evOps (P : Program) (tb : Tab) (Γ : List (Nat × FSpec tb)) (ops : Array Oper) : List Oper → St tb.T → (St tb.T → Option R) → Option R
  | [], s, κ => κ s
  | o :: os, s, κ => evG P tb Γ ops o s fun _ s' => evOps P tb Γ ops os s' κ

/-! ## regions whose order is open -/
/-- what must stand before, as a number's bits -/
def maskOf (acc : List Nat) : List Edge → Nat → Nat
  | [], m => m
  | e :: es, m => bif Region.binds .any e then maskOf acc es (m ||| 2 ^ e.on ||| acc.getD e.on 0) else maskOf acc es m
def masks : List Oper → List Nat → List Nat
  | [], acc => acc
  | o :: os, acc => match maskOf acc o.after.toList 0 with
    | 0 => masks os (acc ++ [0])
    | m + 1 => masks os (acc ++ [m + 1])
/-- no one waits for a later one -/
def backs : List Oper → Nat → Bool
  | [], _ => true
  | o :: os, i => o.after.toList.all (fun e => !Region.binds .any e || Nat.blt e.on i) && backs os (i + 1)
/-- whatever stands before and is not waited for commutes -/
def seenOk (ops : Array Oper) (m : Nat) (o : Oper) (f : Foot) : List (Oper × Foot) → Nat → Bool
  | [], _ => true
  | (p, g) :: ps, j => (Nat.testBit m j || (Foot.free g f && Oper.apart ops p o)) && seenOk ops m o f ps (j + 1)
def evOpsD (P : Program) (tb : Tab) (Γ : List (Nat × FSpec tb)) (ops : Array Oper) : List Oper → List Nat → List (Oper × Foot) → St tb.T → (St tb.T → Option R) → Option R
  | [], _, _, s, κ => κ s
  | o :: os, m :: ms, seen, s, κ => evG P tb Γ ops o s fun f s' => bif seenOk ops m o f seen 0 then evOpsD P tb Γ ops os ms (seen ++ [(o, f)]) s' κ else none
  | _ :: _, [], _, _, _ => none

/-! ## code -/
def firstReg : Code → Nat
  | .region id _ _ => id + 1
  | .seq a b => match firstReg a with | 0 => firstReg b | n => n
  | .cond _ a b => match firstReg a with | 0 => firstReg b | n => n
  | .block _ b | .loop b | .scope b => firstReg b
  | _ => 0
/-- the key of a piece of code: its kind, and its first region -/
def keyOf : Code → Nat
  | .region id _ _ => 8 * (id + 1)
  | .seq a b => 8 * firstReg (.seq a b) + 1
  | .cond c a b => 8 * firstReg (.cond c a b) + 2
  | .block _ b => 8 * firstReg b + 3
  | .loop b => 8 * firstReg b + 4
  | .scope b => 8 * firstReg b + 5
  | _ => 7
def findCut {tb : Tab} : List (CutSpec tb) → Nat → Option (CutSpec tb)
  | [], _ => none
  | c :: cs, k => bif Nat.beq c.key k then some c else findCut cs k

def cutOne (P : Program) (tb : Tab) (key : Nat) (s : St tb.T) (a : Nat × Pat) (x : X tb a.2) : Option (St tb.T) :=
  match a.2, x with
  | .val e, x => some (s.put a.1 (valSV P e (tb.enc e x)))
  | .own e, x => bif s.used (a.1 + 65536 * (key + 1)) then none else some { s with env := upd s.env a.1 (some (.c (.own e x (a.1 + 65536 * (key + 1))))), tok := upd s.tok (a.1 + 65536 * (key + 1)) true, used := upd s.used (a.1 + 65536 * (key + 1)) true }
  | _, _ => none
def cutOuts (P : Program) (tb : Tab) (key : Nat) (s : St tb.T) : (l : LSpec) → XS tb l → Option (St tb.T)
  | [], _ => some s
  | [a], x => cutOne P tb key s a x
  | a :: b :: l, (x, xs) => match cutOne P tb key s a x with
    | some s' => cutOuts P tb key s' (b :: l) xs
    | none => none
/-- one of two ways -/
def osum {A B C : Type} (y : A ⊕ B) (f : A → Option C) (g : B → Option C) : Option C := match y with | .inl a => f a | .inr b => g b
/-- behind a cut: what it did not write stands; its outs -/
def cutPost (P : Program) (tb : Tab) (c : CutSpec tb) (s : St tb.T) (κ : Ex → St tb.T → Option R) : (outs : List (Ex × LSpec)) → Outs tb (refsOf c.ins) outs → Option R
  | [], y => nomatch y
  | [o], y => one c s κ o y
  | o :: p :: l, y => osum y (fun y => one c s κ o y) (fun y => cutPost P tb c s κ (p :: l) y)
where
  one (c : CutSpec tb) (s : St tb.T) (κ : Ex → St tb.T → Option R) (o : Ex × LSpec) (y : Ret tb o.2 (refsOf c.ins)) : Option R :=
    match cutOuts P tb c.key { (putRefs tb (s.take s.env c.ins) s.env (refsOf c.ins) y.refs) with env := fun t => bif memB t c.W then none else s.env t } o.2 y.outs with
    | some s' => κ o.1 s'
    | none => none
def evCut (P : Program) (tb : Tab) (c : CutSpec tb) (s : St tb.T) (κ : Ex → St tb.T → Option R) : Option R :=
  match extS P tb s s.env c.ins with
  | some x => bif nodupB (idsS s.env c.ins) then obnd (c.J x) fun y => cutPost P tb c s κ c.outs y else none
  | none => none

def evCode (P : Program) (tb : Tab) (Γ : List (Nat × FSpec tb)) (Δ : List (CutSpec tb)) (c : Code) (s : St tb.T) (κ : Ex → St tb.T → Option R) : Option R :=
  match findCut Δ (keyOf c) with
  | some cut => evCut P tb cut s κ
  | none => match c with
    | .skip | .label _ => κ .normal s
    | .region _ ops draw => bif draw then (bif backs ops.toList 0 then evOpsD P tb Γ ops ops.toList (masks ops.toList []) [] s (κ .normal) else none) else evOps P tb Γ ops ops.toList s (κ .normal)
    | .seq a b => evCode P tb Γ Δ a s fun ex s' => match ex with
      | .normal => evCode P tb Γ Δ b s' κ
      | ex => κ ex s'
    | .cond x a b => match s.val x with
      | some (.c (.d (.bool t))) => brn t (evCode P tb Γ Δ a s κ) (evCode P tb Γ Δ b s κ)
      | _ => none
    | .block id b => evCode P tb Γ Δ b s fun ex s' => match ex with
      | .exit id' => bif Nat.beq id' id then κ .normal s' else κ (.exit id') s'
      | ex => κ ex s'
    | .scope b => evCode P tb Γ Δ b s fun ex s' => match ex with
      | .goto _ => none
      | ex => κ ex s'
    | .exit id => κ (.exit id) s
    | .goto l => κ (.goto l) s
    | .ret => κ .ret s
    | _ => none

/-- inside of a cut: from its code's end to its outs -/
def intoOuts (P : Program) (tb : Tab) (rs : LSpec) (get : Nat → Option (SV tb.T)) (ex : Ex) (s : St tb.T) : (outs : List (Ex × LSpec)) → Option (Outs tb rs outs)
  | [] => none
  | [o] => one rs get ex s o
  | o :: p :: l => bif decide (o.1 = ex) then (match one rs get ex s o with | some y => some (.inl y) | none => none)
      else (match intoOuts P tb rs get ex s (p :: l) with | some y => some (.inr y) | none => none)
where
  one (rs : LSpec) (get : Nat → Option (SV tb.T)) (ex : Ex) (s : St tb.T) (o : Ex × LSpec) : Option (Ret tb o.2 rs) :=
    bif decide (o.1 = ex) && nodupB (idsS s.env o.2) then
      (match extS P tb s s.env o.2 with
      | some x => match extS P tb s get rs with
        | some z => some (Ret.mk x z)
        | none => none
      | none => none) else none

/-- what a function's result variable holds -/
def resOf (P : Program) {T : Nat → Type} (s : St T) : ResultVar → Option (SV T)
  | .tmp t => s.env t
  | .cell a t => match s.env a with
    | some (.c (.ptr i o)) => match s.blk i with
      | some cells => cut1 P t cells o
      | none => none
    | _ => none
def resAt (P : Program) {T : Nat → Type} (rv : Array ResultVar) (s : St T) (i : Nat) : Option (SV T) := match rv[i]? with
  | some r => resOf P s r
  | none => none
/-- references as they came in: their slots hold them still -/
def backGet {T : Nat → Type} (s : St T) (rs : LSpec) (t : Nat) : Option (SV T) :=
  bif memB t (rs.map (·.1)) then (match s.env t with | some (.c (.ptr i 0)) => bif Nat.beq i t then some (.c (.ptr t 0)) else none | _ => none) else s.env t
def retOf (P : Program) (tb : Tab) (rv : Array ResultVar) (outs rs : LSpec) (s : St tb.T) : Option (Ret tb outs rs) :=
  bif nodupB (idsS (resAt P rv s) outs) && Nat.beq outs.length rv.size then
    (match extS P tb s (resAt P rv s) outs with
    | some x => match extS P tb s (backGet s rs) rs with
      | some z => some (Ret.mk x z)
      | none => none
    | none => none) else none

/-- a function's body, from its parameters on -/
def evFn (P : Program) (tb : Tab) (Γ : List (Nat × FSpec tb)) (Δ : List (CutSpec tb)) (fn : Func) (ins outs : LSpec) (x : XS tb ins) : Option (Ret tb outs (refsOf ins)) :=
  match fn.body with
  | some c => evCode P tb Γ Δ c (canon P tb ins x) fun ex s => match ex with
    | .normal | .ret => retOf P tb fn.results outs (refsOf ins) s
    | _ => none
  | none => none
/-- a cut's own code, from its ins on; rec: what it tells when it comes again -/
def evLoop (P : Program) (tb : Tab) (Γ : List (Nat × FSpec tb)) (Δ : List (CutSpec tb)) (body : Code) (ins : LSpec) (outs : List (Ex × LSpec)) (rec : XS tb ins → Option (Outs tb (refsOf ins) outs)) (x : XS tb ins) : Option (Outs tb (refsOf ins) outs) :=
  evCode P tb Γ Δ body (canon P tb ins x) fun ex s => match ex with
    | .normal => match extS P tb s (backGet s (refsOf ins)) ins with
      | some x' => bif nodupB (idsS (backGet s (refsOf ins)) ins) then rec x' else none
      | none => none
    | ex => intoOuts P tb (refsOf ins) (backGet s (refsOf ins)) ex s outs
def evBlk (P : Program) (tb : Tab) (Γ : List (Nat × FSpec tb)) (Δ : List (CutSpec tb)) (c : Code) (ins : LSpec) (outs : List (Ex × LSpec)) (x : XS tb ins) : Option (Outs tb (refsOf ins) outs) :=
  evCode P tb Γ Δ c (canon P tb ins x) fun ex s => intoOuts P tb (refsOf ins) (backGet s (refsOf ins)) ex s outs
end
end Go.Ev
