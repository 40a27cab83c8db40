import Derived.Calls
import Derived.Orders
import Derived.Below
import Derived.KernelRfl
import Derived.Scope
import Derived.ScopeJumps
import Derived.Laws.Small
import Derived.Laws.Entries
import Derived.Laws.Strings
import Derived.Laws.StructEq
import Derived.Lib.Strings
import Derived.Laws.BytesString
import Derived.Laws.Cells
import Derived.Laws.Tables
import Derived.Laws.Cover3
/- EvA -/
theorem dF0 {p:Prop}[inst:Decidable p](h:¬p):decide p=false:=decide_eq_false h
theorem dT0 {p:Prop}[inst:Decidable p](h:p):decide p=true:=decide_eq_true h
theorem sE0 {α:Type _}(a b:α):(some a=some b)=(a=b):=Option.some.injEq a b
namespace Go.Ev
open Go
open Go.IntKind (i64 u64 u8 i32 u32 i16 u16)
def lo:IntKind->Int
 | .i8=>-128 | .i16=>-32768 | .i32=>-2147483648 | .i64=>-9223372036854775808
 | _=>0
def hi:IntKind->Int
 | .i8=>127 | .i16=>32767 | .i32=>2147483647 | .i64=>9223372036854775807
 | .u8=>255 | .u16=>65535 | .u32=>4294967295 | .u64=>18446744073709551615
def inR (k:IntKind)(n:Int):Prop:=lo k<=n/\n<=hi k
def inRB (k:IntKind)(n:Int):Bool:=decide (lo k<=n)&&decide (n<=hi k)
theorem inRB_iff {k:IntKind}{n:Int}:inRB k n=true↔inR k n:=by simp[inRB,inR]
def bz6:Nat:=9223372036854775807
def fits (n:Nat):Bool:=Nat.ble n bz6
inductive CV (T:Nat->Type) where
 | int (k:IntKind) (n:Int)
 | bool (b:Bool)
 | str (s:List UInt8)
 | nil
 | sl (e:Nat) (xs:List (T e))
 | nli
 | itf (f:Nat) (k:Option Int) (e:Nat) (xs:List (T e))
def CV.inR {T:Nat->Type}:CV T->Prop
 | .int k n=>Ev.inR k n
 | _=>True
def CV.le {T:Nat->Type}(c d:CV T):Prop:=c=d\/c = .nil/\∃e,d = .sl e []
def eq1 {T:Nat->Type}:CV T->CV T->Bool
 | .int _ a,.int _ b=>decide (a=b)
 | .bool a,.bool b=>decide (a=b)
 | .str a,.str b=>decide (a=b)
 | _,_=>false
def eqB {T:Nat->Type}:List (CV T)->List (CV T)->Bool
 | [],[]=>true
 | c::cs,d::ds=>eq1 c d&&eqB cs ds
 | _,_=>false
def kin {T:Nat->Type}:Nat->CV T->CV T->Prop
 | 0,.int k _,.int k' _=>k=k'
 | 1,.bool _,.bool _=>True
 | 2,.str _,.str _=>True
 | _,_,_=>False
def Kin {T:Nat->Type}:List Nat->List (CV T)->List (CV T)->Prop
 | [],[],[]=>True
 | l::ls,c::cs,d::ds=>kin l c d/\Kin ls cs ds
 | _,_,_=>False
def All2 {α β:Type}(R:α->β->Prop):List α->List β->Prop
 | [],[]=>True
 | a::Nz0,b::bs=>R a b/\All2 R Nz0 bs
 | _,_=>False
inductive BK where
 | con
 | var
 | ar (n:Nat)
abbrev Gh:=Nat->BK
def Shp (w w':World):Prop:=∀(b:Nat) (us:Array Value) (T:Nat) (fz:Nat×Nat),w.heap[b]?=some (.cells us T fz)->∃us' fz',w'.heap[b]?=some (.cells us' T fz')/\us'.size=us.size
structure Ext (g:Gh) (w:World) (g':Gh) (w':World) (D:Nat->Prop):Prop where
 os:w'.os=w.os
 tape:w'.tape=w.tape
 output:w'.output=w.output
 size:w.heap.size<=w'.heap.size
 keep:∀b,b<w.heap.size->¬D b->w'.heap[b]?=w.heap[b]?/\g' b=g b
 con:∀b,b<w.heap.size->g b = .con->w'.heap[b]?=w.heap[b]?/\g' b = .con
 ar:∀b n,b<w.heap.size->g b = .ar n->∃n',n<=n'/\g' b = .ar n'/\∀i,i<n->w'.cell? ⟨b,i,none⟩=w.cell? ⟨b,i,none⟩
 shp:Shp w w'
structure Tab where
 T:Nat->Type
 enc:(e:Nat)->T e->List (CV T)
 dec:(e:Nat)->List (CV T)->Option (T e)
 ok:∀e cs x,dec e cs=some x->(∀c∈cs,c.inR)->All2 CV.le cs (enc e x)
 b8:Nat
 hb:T b8=UInt8
 hbe:∀x:T b8,enc b8 x=[.int .u8 ((cast hb x).toNat:Int)]
 r4:Option Nat
 hr:∀e,r4=some e->T e=Int
 hre:∀e (h:r4=some e) (x:T e),enc e x=[.int .i32 (cast (hr e h) x)]
 key:Nat->Option (List Nat)
 hkey:∀e ls,key e=some ls->∀x y:T e,Kin ls (enc e x) (enc e y)
 inv:Gh->World->Prop
 invk:∀{g w g' w' D},Ext g w g' w' D->inv g w->inv g' w'
variable {T:Nat->Type}
inductive AC (T:Nat->Type) where
 | d (c:CV T)
 | own (e:Nat) (xs:List (T e)) (t:Nat)
 | ptr (i o:Nat)
 | cptr (cs:List (CV T))
 | fn (f:Nat) (caps:List (Nat×Nat))
 | any
 | ubool (m e:Bool)
 | vsl (e i:Nat)
 | vw (e i o n:Nat)
 | elp (i e k o:Nat)
 | np
 | slf (t n i:Nat)
 | map (i:Nat)
 | yl (i:Nat)
inductive Ob (T:Nat->Type) where
 | it (l:List UInt8) (p:Nat)
 | mp (k v:Nat) (l:List (T k×T v))
inductive Ar (T:Nat->Type) where
 | mk (o:Bool) (e:Nat) (xs:List (T e))
def AC.cv:AC T->Option (CV T)
 | .d c=>some c
 | .own e xs _=>some (.sl e xs)
 | _=>none
def cvs:List (AC T)->Option (List (CV T))
 | []=>some []
 | a::Nz0=>match a.cv with
  | some c=>match cvs Nz0 with
   | some cs=>some (c::cs)
   | none=>none
  | none=>none
inductive SV (T:Nat->Type) where
 | c (a:AC T)
 | agg (Nz0:List (AC T))
 | tup (vs:List (Bool×List (AC T)))
def SV.cells:SV T->Option (List (AC T))
 | .c a=>some [a]
 | .agg Nz0=>some Nz0
 | .tup _=>none
structure St (T:Nat->Type) where
 env:Nat->Option (SV T)
 blk:Nat->Option (List (AC T))
 itr:Nat->Option (Ob T)
 arr:Nat->Option (Ar T)
 tok:Nat->Bool
 used:Nat->Bool
 ro:Nat->Bool
def St.empty:St T:=⟨fun _=>none,fun _=>none,fun _=>none,fun _=>none,fun _=>false,fun _=>false,fun _=>false⟩
def upd {α:Type}(f:Nat->α)(i:Nat)(v:α):Nat->α:=fun j=>bif Nat.beq j i then v else f j
def St.put (s:St T)(d:Nat)(v:SV T):St T:={s with env:=upd s.env d (some v)}
def St.putO (s:St T)(d:Option Nat)(v:SV T):St T:=match d with|some d=>s.put d v|none=>s
def gzv:Value->Option (AC T)
 | .int k n=>bif inRB k n then some (.d (.int k n))else none
 | .bool b=>some (.d (.bool b))
 | .string s=>bif fits s.data.toList.length then some (.d (.str s.data.toList))else none
 | .slice none 0 0=>some (.d .nil)
 | .pointer none=>some .np
 | .nilIface=>some (.d .nli)
 | .nilFunc=>some .any
 | _=>none
def BzM {T:Nat->Type}(t d:Nat):List (AC T)->List (AC T)
 | .np::Nz0=>.slf t (Nz0.length+1) d::Nz0
 | Nz0=>Nz0
def nzF:List Value->Option (List (AC T))
 | []=>some []
 | v::vs=>match(gzv v:Option (AC T))with
  | some a=>match nzF vs with
   | some Nz0=>some (a::Nz0)
   | none=>none
  | none=>none
def St.seen (s:St T):Option (SV T)->Option (SV T)
 | some (.c (.vsl e i))=>match s.arr i with
  | some (.mk o _ xs)=>bif o then some (.c (.vw e i 0 xs.length))else some (.c (.vsl e i))
  | none=>some (.c (.vsl e i))
 | v=>v
def St.val (s:St T):Operand->Option (SV T)
 | .tmp t=>s.env t
 | .const v=>match(gzv v:Option (AC T))with|some a=>some (.c a)|none=>none
 | .global _=>none
 | .func f=>some (.c (.fn f []))
def ezO (P:Program)(t:Nat):Option Bool:=match P.underlying t with|some (.struct _)|some (.array _ _)=>some true|some _=>some false|none=>none
def bzw (P:Program)(t:Nat):Bool:=match ezO P t with|some b=>b|none=>false
def jzQ (P:Program)(e:Nat):Option (List (AC T)):=match P.info? e with
 | some i=>match i.zero with
  | some v=>nzF v.cells.toList
  | none=>none
 | none=>none
def nzJ (P:Program)(s f:Nat):Option Field:=match P.underlying s with
 | some (.struct fs)=>fs[f]?
 | _=>none
def izG (P:Program)(t:Nat):Option Nat:=match P.underlying t with
 | some (.slice e)=>some e
 | _=>none
def cut1 (P:Program)(t:Nat)(cells:List (AC T))(o:Nat):Option (SV T) :=
 match ezO P t with
 | some true=>bif Nat.ble (o+P.cellsOf t) cells.length then some (.agg ((cells.drop o).take (P.cellsOf t)))else none
 | some false=>match cells[o]? with|some a=>some (.c a)|none=>none
 | none=>none
def czR (P:Program)(e:Nat):Bool:=Nat.blt 0 (P.cellsOf e)
def xzr (P:Program)(t:Nat):Bool:=match P.underlying t with
 | some (.struct fs)=>fs.toList.all fun f=>(P.info? f.type).isSome
 | _=>false
def ez3 {α:Type}(cells new:List α)(o:Nat):List α:=cells.take o++new++cells.drop (o+new.length)
def idx {α:Type}(xs:List α)(i:Int):Option α:=bif decide (0<=i)then xs[i.toNat]? else none
def sub {α:Type}(xs:List α)(l h:Int):Option (List α):=bif decide (0<=l)&&decide (l<=h)&&decide (h<=xs.length)then some ((xs.take h.toNat).drop l.toNat)else none
def sub3 {α:Type}(xs:List α)(l h m:Int):Option (List α):=bif decide (0<=l)&&decide (l<=h)&&decide (h<=m)&&decide (m<=xs.length)then some ((xs.take h.toNat).drop l.toNat)else none
def inb (n:Nat)(i:Int):Option Nat:=bif decide (0<=i)&&decide (i<n)then some i.toNat else none
def nth {α:Type}(xs:List α)(k:Nat):Option α:=xs[k]?
def inr (n:Nat)(l h:Int):Option (Nat×Nat):=bif decide (0<=l)&&decide (l<=h)&&decide (h<=n)then some (l.toNat,(h-l).toNat)else none
def win {α:Type}(xs:List α)(o n:Nat):Option (List α):=bif Nat.ble (o+n) xs.length then some ((xs.drop o).take n)else none
def ezU {K V:Type}(eq:K->K->Bool)(z:V)(k:K):List (K×V)->V
 | []=>z
 | p::l=>bif eq k p.1 then p.2 else ezU eq z k l
def kzO {K V:Type}(eq:K->K->Bool)(k:K):List (K×V)->Bool
 | []=>false
 | p::l=>eq k p.1||kzO eq k l
def kzP {K V:Type}(eq:K->K->Bool)(k:K)(v:V):List (K×V)->List (K×V)
 | []=>[(k,v)]
 | p::l=>bif eq k p.1 then(k,v)::l else p::kzP eq k v l
def keq (tb:Tab)(e:Nat)(a b:tb.T e):Bool:=eqB (tb.enc e a) (tb.enc e b)
def app {α:Type}(B:Nat)(xs ys:List α):Option (List α):=bif Nat.ble ((xs.length+ys.length)*B) 140737488355328 then some (xs++ys)else none
def tzI {α:Type}(B:Nat)(z:α)(l c:Int):Option (List α):=bif decide (0<=l)&&decide (l<=c)&&decide (c*B<=140737488355328)then some (List.replicate l.toNat z)else none
def cat (x y:List UInt8):Option (List UInt8):=bif fits (x.length+y.length)then some (x++y)else none
def utf8 (n:Int):List UInt8:=(Utf8.encode n).data.toList
def rune (s:List UInt8)(p:Nat):Nat×Nat:=Utf8.decode ⟨s.toArray⟩ p
def mzu (s:List UInt8):Nat->Nat->List Int
 | 0,_=>[]
 | n+1,i=>bif Nat.blt i s.length then((rune s i).1:Int)::mzu s n (i+(rune s i).2)else []
def BzL (s:List UInt8):Option (List Int):=bif Nat.ble s.length 70368744177664 then some (mzu s s.length 0)else none
def czg (op:BinOp)(k:IntKind)(x y:Int):Int :=
 let a:=BitVec.ofInt k.bits x
 let b:=BitVec.ofInt k.bits y
 k.wrap ((match op with | .and=>a &&& b | .or=>a ||| b | .xor=>a ^^^ b|_=>a &&& ~~~b).toNat:Int)
def sLt (x y:List UInt8):Bool:=Op.bytesLess x y
def obnd {α β:Type}(x:Option α)(f:α->Option β):Option β:=match x with|some a=>f a|none=>none
@[simp] theorem aza {α β:Type} (a:α) (f:α->Option β):obnd (some a) f=f a:=rfl
@[simp] theorem Azm {α β:Type} (f:α->Option β):obnd none f=none:=rfl
theorem azp {α β:Type}{x:Option α}{f:α->Option β}{r:β}:obnd x f=some r↔∃a,x=some a/\f a=some r:=by
 cases x<;>simp[obnd]
noncomputable def Bzo {α:Type}(a b:Option α):Option α:=@ite _ (a=b) (Classical.propDecidable _) a none
theorem Fzc {α:Type}{a b:Option α}{r:α}(h:Bzo a b=some r):a=some r/\b=some r:=by
 unfold Bzo at h;split at h
 .rename_i e;subst e;exact⟨h,h⟩
 .cases h
theorem Fzb {α:Type}(a:Option α):Bzo a a=a:=by unfold Bzo;simp
def brn {α:Type}(b:Bool)(x y:α):α:=cond b x y
@[simp] theorem azd {α:Type} (x y:α):brn true x y=x:=rfl
@[simp] theorem azc {α:Type} (x y:α):brn false x y=y:=rfl
section
variable {R:Type}
def Bzx (op:BinOp)(k:IntKind)(a b:Int)(κ:CV T->Option R):Option R :=
 match op with
 | .add=>κ (.int k (k.wrap (a+b)))
 | .sub=>κ (.int k (k.wrap (a-b)))
 | .mul=>κ (.int k (k.wrap (a*b)))
 | .quo=>brn (decide (b=0)) none (κ (.int k (k.wrap (a.tdiv b))))
 | .rem=>brn (decide (b=0)) none (κ (.int k (a.tmod b)))
 | .and=>κ (.int k (czg .and k a b))
 | .or=>κ (.int k (czg .or k a b))
 | .xor=>κ (.int k (czg .xor k a b))
 | .andNot=>κ (.int k (czg .andNot k a b))
 | .eql=>κ (.bool (decide (a=b)))
 | .neq=>κ (.bool (!decide (a=b)))
 | .lss=>κ (.bool (decide (a<b)))
 | .leq=>κ (.bool (decide (a<=b)))
 | .gtr=>κ (.bool (decide (b<a)))
 | .geq=>κ (.bool (decide (b<=a)))
 | _=>none
def Bzy (op:BinOp)(x y:List UInt8)(κ:CV T->Option R):Option R :=
 match op with
 | .add=>obnd (cat x y) fun z=>κ (.str z)
 | .eql=>κ (.bool (decide (x=y)))
 | .neq=>κ (.bool (!decide (x=y)))
 | .lss=>κ (.bool (sLt x y))
 | .leq=>κ (.bool (sLt x y||decide (x=y)))
 | .gtr=>κ (.bool !(sLt x y||decide (x=y)))
 | .geq=>κ (.bool !(sLt x y))
 | _=>none
def tze (op:BinOp)(k:IntKind)(a b:Int)(κ:CV T->Option R):Option R :=
 brn (decide (b<0)) none <|
 match op with
 | .shl=>κ (.int k (k.wrap (a*2^(min b.toNat k.bits))))
 | .shr=>κ (.int k (a.fdiv (2^(min b.toNat k.bits))))
 | _=>none
def wzb:Nat->CV T->CV T->(Bool->Option R)->Option R
 | 0,.int k a,.int k' b,κ=>bif decide (k=k')then κ (decide (a=b))else none
 | 1,.bool a,.bool b,κ=>κ (decide (a=b))
 | 2,.str a,.str b,κ=>κ (decide (a=b))
 | _,_,_,_=>none
def ez8:List Nat->List (CV T)->List (CV T)->(Bool->Option R)->Option R
 | [],[],[],κ=>κ true
 | l::ls,x::xs,y::ys,κ=>wzb l x y fun b=>match ls with
  | []=>(match xs,ys with | [],[]=>κ b|_,_=>none)
  | _::_=>ez8 ls xs ys fun r=>κ (b&&r)
 | _,_,_,_=>none
def cz8 (P:Program):Nat->Nat->Option (List Nat)
 | 0,_=>none
 | d+1,t=>match P.underlying t with
  | some (.int _)=>some [0]
  | some .bool=>some [1]
  | some .string=>some [2]
  | some (.struct fs)=>bif P.stoodInHeld t then none else leavesF (cz8 P d) P fs.toList 0
  | _=>none
where
 leavesF (rec:Nat->Option (List Nat)) (P:Program):List Field->Nat->Option (List Nat)
  | [],_=>some []
  | f::fs,o=>bif f.name == "_"||!Nat.beq f.offset o then none else match rec f.type with
   | some l=>bif Nat.beq l.length (P.cellsOf f.type)then(match leavesF rec P fs (o+l.length)with
    | some r=>some (l++r)
    | none=>none)else none
   | none=>none
def evEq (P:Program)(neg:Bool)(xt:Nat)(xs ys:List (AC T))(κ:CV T->Option R):Option R :=
 bif P.eqGuardType P.depth xt||!bzw P xt then none else
 match cz8 P 20 xt with
 | some ls=>match cvs xs with
  | some cs=>match cvs ys with
   | some ds=>ez8 ls cs ds fun r=>κ (.bool (bif neg then !r else r))
   | none=>none
  | none=>none
 | none=>none
def Bzw (P:Program)(op:BinOp)(xt:Nat)(x y:SV T)(κ:CV T->Option R):Option R :=
 match x,y with
 | .c (.d (.int k a)),.c (.d (.int k' b)) =>
  match op with
  | .shl | .shr=>tze op k a b κ
  | _=>bif decide (k=k')then Bzx op k a b κ else none
 | .c (.d (.str a)),.c (.d (.str b))=>Bzy op a b κ
 | .c (.d (.bool a)),.c (.d (.bool b))=>match P.underlying xt with
  | some .bool=>match op with
   | .eql=>κ (.bool (decide (a=b)))
   | .neq=>κ (.bool (!decide (a=b)))
   | _=>none
  | _=>none
 | .agg xs,.agg ys=>match op with
  | .eql=>evEq P false xt xs ys κ
  | .neq=>evEq P true xt xs ys κ
  | _=>none
 | _,_=>none
def evUn (op:UnOp)(x:SV T)(κ:CV T->Option R):Option R :=
 match x with
 | .c (.d (.int k a))=>match op with
  | .neg=>κ (.int k (k.wrap (0-a)))
  | .xor=>κ (.int k (czg .xor k (bif k.signed then -1 else k.max) a))
  | _=>none
 | .c (.d (.bool b))=>match op with
  | .not=>κ (.bool (!b))
  | _=>none
 | _=>none
def wzc (P:Program)(tb:Tab)(src dst:Nat)(x:SV tb.T)(κ:CV tb.T->Option R):Option R :=
 match P.underlying src,P.underlying dst,x with
 | some _,some (.int k),.c (.d (.int k0 n))=>bif decide (k0=k)then κ (.int k n)else κ (.int k (k.wrap n))
 | some (.int _),some .string,.c (.d (.int _ n))=>κ (.str (utf8 n))
 | some .string,some .string,.c (.d (.str s))=>κ (.str s)
 | some (.slice e),some .string,.c a=>match P.underlying e with
  | some (.int .u8)=>match a.cv with
   | some .nil=>κ (.str [])
   | some (.sl e' xs)=>if h:e'=tb.b8 then κ (.str (cast (by rw[h,tb.hb]) xs))else none
   | _=>none
  | _=>none
 | _,_,_=>none
def ozJ (P:Program)(t:Nat)(ρ:Operand->Option (SV T)):List (Nat×Operand)->List (AC T)->Option (List (AC T))
 | [],cells=>some cells
 | (i,x)::ps,cells=>match nzJ P t i with
  | none=>none
  | some f=>match ρ x with
   | none=>none
   | some v=>match v.cells with
    | none=>none
    | some Nz0=>bif decide (Nz0.length=P.cellsOf f.type)&&decide (f.offset+Nz0.length<=cells.length)then ozJ P t ρ ps (ez3 cells Nz0 f.offset)else none
def nz3 (tb:Tab)(a:AC tb.T)(e:Nat):Option (List (tb.T e)) :=
 match a with
 | .d .nil=>some []
 | .d (.sl e' xs)=>if h:e'=e then some (h▸xs)else none
 | .own e' xs _=>if h:e'=e then some (h▸xs)else none
 | _=>none
def dzt (ρ:Operand->Option (SV T)):Option Operand->Int->Option Int
 | none,d=>some d
 | some x,_=>match ρ x with
  | some (.c (.d (.int _ n)))=>some n
  | _=>none
def wzo (k:IntKind)(x:Int):List (SV T)->Option Int
 | []=>some x
 | .c (.d (.int k' y))::r=>bif decide (k=k')then wzo k (bif decide (y<x)then y else x) r else none
 | _=>none
def wzm (k:IntKind)(x:Int):List (SV T)->Option Int
 | []=>some x
 | .c (.d (.int k' y))::r=>bif decide (k=k')then wzm k (bif decide (x<y)then y else x) r else none
 | _=>none
def vals (ρ:Operand->Option (SV T)):List Operand->Option (List (SV T))
 | []=>some []
 | x::xs=>match ρ x with
  | some v=>match vals ρ xs with
   | some vs=>some (v::vs)
   | none=>none
  | none=>none
def wzq:List (SV T)->Option (List (Nat×Nat))
 | []=>some []
 | .c (.ptr i o)::vs=>match wzq vs with|some ps=>some ((i,o)::ps)|none=>none
 | _=>none
def xzn (P:Program)(t:Nat)(x:SV T)(κ:SV T->Option R):Option R :=
 match P.underlying t,x with
 | some .string,.c (.d (.str s))=>κ (.c (.d (.int .i64 s.length)))
 | some (.slice _),.c (.d .nil)=>κ (.c (.d (.int .i64 0)))
 | some (.slice _),.c (.d (.sl _ xs))=>κ (.c (.d (.int .i64 xs.length)))
 | some (.slice _),.c (.own _ xs _)=>κ (.c (.d (.int .i64 xs.length)))
 | some (.slice _),.c (.vw _ _ _ n)=>κ (.c (.d (.int .i64 n)))
 | _,_=>none
def isSlT (P:Program)(xt:Nat):Bool:=match P.underlying xt with|some (.slice _)=>true|_=>false
def isNilV {T:Nat->Type}(v:SV T):Bool:=match v with | .c (.d .nil)=>true|_=>false
def BzG {T:Nat->Type}(P:Program)(op:BinOp)(xt:Nat)(u v:SV T):Option (Bool×Bool) :=
 match(match op with | .eql=>some false | .neq=>some true|_=>none:Option Bool)with
 | none=>none
 | some e=>bif isSlT P xt&&isNilV v then
  (match u with | .c (.d (.sl _ xs))=>some (xs.isEmpty,e) | .c (.own _ xs _)=>some (xs.isEmpty,e) | .c (.vw _ _ _ n)=>some (Nat.beq n 0,e)|_=>none)else none
def evP (P:Program)(tb:Tab)(o:Op)(ρ:Operand->Option (SV tb.T))(κ:SV tb.T->Option R):Option R :=
 match o with
 | .move x | .assign x=>match ρ x with|some v=>κ v|none=>none
 | .pick c a b=>match ρ c with
  | some (.c (.d (.bool t)))=>brn t (match ρ a with|some v=>κ v|none=>none) (match ρ b with|some v=>κ v|none=>none)
  | _=>none
 | .binOp op xt x y _=>match ρ x with
  | some u=>match ρ y with
   | some v=>match BzG P op xt u v with
    | some q=>κ (.c (.ubool q.1 q.2))
    | none=>Bzw P op xt u v fun c=>κ (.c (.d c))
   | none=>none
  | none=>none
 | .unOp op _ x=>match ρ x with
  | some u=>evUn op u fun c=>κ (.c (.d c))
  | none=>none
 | .convert src dst x=>match ρ x with
  | some u=>wzc P tb src dst u fun c=>κ (.c (.d c))
  | none=>none
 | .fieldAddr s x f=>match nzJ P s f with
  | some fd=>bif Nat.beq (P.cellsOf fd.type) 0 then none else match ρ x with
   | some (.c (.ptr i o))=>κ (.c (.ptr i (o+fd.offset)))
   | some (.c (.cptr cs))=>bif Nat.blt fd.offset cs.length then κ (.c (.cptr (cs.drop fd.offset)))else none
   | some (.c (.elp i e k o))=>κ (.c (.elp i e k (o+fd.offset)))
   | _=>none
  | none=>none
 | .field s x f=>match nzJ P s f with
  | some fd=>match ρ x with
   | some (.agg Nz0)=>match cut1 P fd.type Nz0 fd.offset with|some v=>κ v|none=>none
   | _=>none
  | none=>none
 | .indexAddr t x ix=>match izG P t with
  | some e=>match ρ x with
   | some (.c (.vw e' q b n))=>match ρ ix with
    | some (.c (.d (.int _ i)))=>bif czR P e&&Nat.beq e' e then obnd (inb n i) fun k=>κ (.c (.elp q e (b+k) 0))else none
    | _=>none
   | some (.c a)=>match nz3 tb a e with
    | some xs=>match ρ ix with
     | some (.c (.d (.int _ i)))=>bif czR P e then obnd (idx xs i) fun y=>κ (.c (.cptr (tb.enc e y)))else none
     | _=>none
    | none=>none
   | _=>none
  | none=>none
 | .index t x ix=>match P.underlying t with
  | some .string=>match ρ x with
   | some (.c (.d (.str s)))=>match ρ ix with
    | some (.c (.d (.int _ i)))=>obnd (idx s i) fun y=>κ (.c (.d (.int .u8 (y.toNat:Int))))
    | _=>none
   | _=>none
  | _=>none
 | .extract x i=>match ρ x with
  | some (.tup vs)=>match vs[i]? with
   | some (true,Nz0)=>κ (.agg Nz0)
   | some (false,[a])=>κ (.c a)
   | _=>none
  | _=>none
 | .build t parts=>match P.underlying t with
  | some (.struct _)=>match jzQ (T:=tb.T) P t with
   | some z=>bif xzr P t then(match ozJ P t ρ parts.toList z with
    | some Nz0=>κ (.agg Nz0)
    | none=>none)else none
   | none=>none
  | _=>none
 | .slice t x l h m=>match m with
  | some m=>match P.underlying t with
   | some (.slice e)=>match ρ x with
    | some (.c a)=>match nz3 tb a e with
     | some xs=>match dzt ρ l 0,dzt ρ h 0,dzt ρ (some m) 0 with
      | some li,some hi,some mi=>bif czR P e&&h.isSome then obnd (sub3 xs li hi mi) fun z=>κ (.c (.d (.sl e z)))else none
      | _,_,_=>none
     | none=>none
    | _=>none
   | _=>none
  | none=>match P.underlying t with
   | some .string=>match ρ x with
    | some (.c (.d (.str s)))=>match dzt ρ l 0 with
     | some li=>match dzt ρ h s.length with
      | some hi=>obnd (sub s li hi) fun z=>κ (.c (.d (.str z)))
      | none=>none
     | none=>none
    | _=>none
   | some (.slice e)=>match ρ x with
    | some (.c (.vw e' q b n))=>match dzt ρ l 0 with
     | some li=>match dzt ρ h n with
      | some hi=>bif czR P e&&Nat.beq e' e then obnd (inr n li hi) fun p=>κ (.c (.vw e q (b+p.1) p.2))else none
      | none=>none
     | none=>none
    | some (.c a)=>match nz3 tb a e with
     | some xs=>match dzt ρ l 0 with
      | some li=>match dzt ρ h xs.length with
       | some hi=>bif czR P e then obnd (sub xs li hi) fun z=>κ (.c (.d (.sl e z)))else none
       | none=>none
      | none=>none
     | none=>none
    | _=>none
   | _=>none
 | .nilCheck x=>match ρ x with
  | some (.c (.ptr i o))=>κ (.c (.ptr i o))
  | some (.c (.cptr cs))=>κ (.c (.cptr cs))
  | some (.c (.elp i e k o))=>κ (.c (.elp i e k o))
  | _=>none
 | .makeFunc (.func f) first caps=>bif Nat.beq first.size 0 then(match vals ρ caps.toList with
  | some vs=>match wzq vs with
   | some ps=>κ (.c (.fn f ps))
   | none=>none
  | none=>none)else none
 | .call {callee:=.builtin .len,args,argTypes}=>match vals ρ args.toList with
  | some [v]=>match argTypes.toList with
   | t::_=>xzn P t v κ
   | _=>none
  | _=>none
 | .call {callee:=.builtin .min,args,argTypes:=_}=>match vals ρ args.toList with
  | some (.c (.d (.int k x))::r)=>match wzo k x r with|some n=>κ (.c (.d (.int k n)))|none=>none
  | _=>none
 | .call {callee:=.builtin .max,args,argTypes:=_}=>match vals ρ args.toList with
  | some (.c (.d (.int k x))::r)=>match wzm k x r with|some n=>κ (.c (.d (.int k n)))|none=>none
  | _=>none
 | _=>none
def xzI (P:Program)(tb:Tab)(k:Nat):Bool:=match cz8 P 20 k,tb.key k with|some a,some b=>decide (a=b)|_,_=>false
def yzi (P:Program)(e:Nat):Bool:=match P.info? e with
 | some i=>(match i.zero with
  | some (.agg _)=>bzw P e
  | some (.tuple _)=>false
  | some _=>!bzw P e
  | none=>false)
 | none=>false
def uzU (P:Program)(t:Nat):Option (Nat×Nat):=match P.underlying t with
 | some (.map k v)=>some (k,v)
 | _=>none
end
inductive Pat where
 | val (e:Nat)
 | own (e:Nat)
 | ref (e:Nat)
 | ro (e:Nat)
 | iter
 | fnp (f n:Nat)
 | wr (e:Nat)
 | vw (e:Nat)
 | box (n:Nat)
 | mp (k v:Nat)
 deriving DecidableEq
def X (tb:Tab):Pat->Type
 | .val e=>tb.T e
 | .own e=>List (tb.T e)
 | .ref e=>tb.T e
 | .ro e=>tb.T e
 | .iter=>List UInt8×Nat
 | .fnp _ _=>Unit
 | .wr e=>List (tb.T e)
 | .vw e=>List (tb.T e)×Nat×Nat
 | .box _=>Unit
 | .mp k v=>List (tb.T k×tb.T v)
def bldB (n:Nat):Bool:=Nat.ble 1048576 n
def boxN (n:Nat):Nat:=n%1048576
def boxT (n:Nat):Nat:=n/1048576-1
def pzz {T:Nat->Type}(id n:Nat):List (AC T):=bif bldB n then .slf (boxT n) (boxN n) id::List.replicate (boxN n-1) .any else List.replicate (boxN n) .any
def slfOk {T:Nat->Type}(i n:Nat):List (AC T)->Bool
 | .slf t m j::_=>!bldB n||(Nat.beq t (boxT n)&&Nat.beq m (boxN n)&&Nat.beq j i)
 | _=>!bldB n
abbrev aze:=List (Nat×Pat)
def XS (tb:Tab):aze->Type
 | []=>Unit
 | [a]=>X tb a.2
 | a::b::l=>X tb a.2×XS tb (b::l)
def qzu (P:Program)(e:Nat)(cs:List (CV T)):SV T :=
 bif bzw P e then .agg (cs.map .d)else match cs with | [c]=>.c (.d c)|_=>.tup []
def Pat.isRef:Pat->Bool | .ref _=>true | .iter=>true | .box _=>true | .mp _ _=>true|_=>false
def Pat.taken:Pat->Bool | .ref _=>true | .iter=>true | .box _=>true | .wr _=>true | .mp _ _=>true|_=>false
def memB (i:Nat):List Nat->Bool
 | []=>false
 | j::l=>Nat.beq i j||memB i l
def ezu (v:Nat):Bool:=Nat.blt v 4294967296
def rzw:Nat:=1048575
def vget {T:Nat->Type}(s:St T)(get:Nat->Option (SV T))(v:Nat):Option (SV T) :=
 bif Nat.blt v 4294967296 then get v else match get (v%4294967296)with
  | some (.c (.ptr i 0))=>match s.blk i with
   | some Nz0=>match Nz0[v/4294967296-1]? with|some a=>some (.c a)|none=>none
   | none=>none
  | some (.agg Nz0)=>match Nz0[v/4294967296-1]? with|some a=>some (.c a)|none=>none
  | some (.c (.fn _ caps))=>match caps[v/4294967296-1]? with|some p=>some (.c (.ptr p.1 p.2))|none=>none
  | some (.c (.vsl e i))=>bif Nat.beq (v/4294967296-1) rzw then some (.c (.vsl e i))else none
  | _=>none
def setCell {T:Nat->Type}(s:St T)(get:Nat->Option (SV T))(v:Nat)(a:AC T):Option (St T) :=
 match get (v%4294967296)with
 | some (.c (.ptr i 0))=>match s.blk i with
  | some Nz0=>bif Nat.blt (v/4294967296-1) Nz0.length then some {s with blk:=upd s.blk i (some (Nz0.set (v/4294967296-1) a))}else none
  | none=>none
 | some (.agg Nz0)=>bif Nat.blt (v/4294967296-1) Nz0.length then some {s with env:=upd s.env (v%4294967296) (some (.agg (Nz0.set (v/4294967296-1) a)))}else none
 | _=>none
def behind (t n:Nat):List Nat:=(List.range n).map fun j=>4294967296*(j+1)+t
def putP (P:Program)(tb:Tab)(s:St tb.T)(t id:Nat):(p:Pat)->X tb p->St tb.T
 | .val e,x=>{s with env:=upd s.env t (some (qzu P e (tb.enc e x)))}
 | .own e,x=>{s with env:=upd s.env t (some (.c (.own e x id))),tok:=upd s.tok id true,used:=upd s.used id true}
 | .ref e,x=>{s with env:=upd s.env t (some (.c (.ptr id 0))),blk:=upd s.blk id (some ((tb.enc e x).map .d)),used:=upd s.used id true}
 | .ro e,x=>{s with env:=upd s.env t (some (.c (.ptr id 0))),blk:=upd s.blk id (some ((tb.enc e x).map .d)),used:=upd s.used id true,ro:=upd s.ro id true}
 | .iter,x=>{s with env:=upd s.env t (some (.c (.ptr id 0))),itr:=upd s.itr id (some (.it x.1 x.2)),used:=upd s.used id true}
 | .mp k v,x=>{s with env:=upd s.env t (some (.c (.map id))),itr:=upd s.itr id (some (.mp k v x)),used:=upd s.used id true}
 | .wr e,x=>{s with env:=upd s.env t (some (.c (.vsl e id))),arr:=upd s.arr id (some (.mk true e x)),used:=upd s.used id true}
 | .vw e,x=>{s with env:=upd s.env t (some (.c (.vw e id x.2.1 x.2.2))),arr:=upd s.arr id (some (.mk false e x.1)),used:=upd s.used id true}
 | .box n,_=>{s with env:=upd s.env t (some (.c (.ptr id 0))),blk:=upd s.blk id (some (pzz id n)),used:=upd s.used id true}
 | .fnp f n,_=>{s with env:=upd s.env t (some (.c (.fn f ((behind id n).map fun i=>(i,0))))),used:=fun i=>memB i (behind id n)||s.used i}
def putV (P:Program)(tb:Tab)(s:St tb.T)(t:Nat):(p:Pat)->X tb p->St tb.T
 | .own e,x=>bif s.used t then s else(match setCell s s.env t (.own e x t)with
  | some s'=>{s' with tok:=upd s'.tok t true,used:=upd s'.used t true}
  | none=>s)
 | .ref e,x=>{s with blk:=upd s.blk t (some ((tb.enc e x).map .d)),used:=upd s.used t true}
 | .ro e,x=>{s with blk:=upd s.blk t (some ((tb.enc e x).map .d)),used:=upd s.used t true,ro:=upd s.ro t true}
 | .iter,x=>{s with itr:=upd s.itr t (some (.it x.1 x.2)),used:=upd s.used t true}
 | .wr e,x=>bif s.used t then s else(match setCell s s.env t (.vsl e t)with
  | some s'=>{s' with arr:=upd s'.arr t (some (.mk true e x)),used:=upd s'.used t true}
  | none=>s)
 | .val e,x=>bif bzw P e then s else(match tb.enc e x with
  | [c]=>(match setCell s s.env t (.d c)with|some s'=>s'|none=>s)
  | _=>s)
 | _,_=>s
def putA (P:Program)(tb:Tab)(s:St tb.T)(t:Nat)(p:Pat)(x:X tb p):St tb.T:=bif ezu t then putP P tb s t t p x else putV P tb s t p x
def lzT (P:Program)(tb:Tab):(l:aze)->XS tb l->St tb.T
 | [],_=>.empty
 | [a],x=>putA P tb .empty a.1 a.2 x
 | a::b::l,(x,xs)=>putA P tb (lzT P tb (b::l) xs) a.1 a.2 x
def tzv (P:Program)(tb:Tab)(e:Nat)(v:SV tb.T):Option (tb.T e) :=
 match v with
 | .c a=>bif bzw P e then none else match a.cv with
  | some c=>tb.dec e [c]
  | none=>none
 | .agg Nz0=>bif bzw P e then(match cvs Nz0 with|some cs=>tb.dec e cs|none=>none)else none
 | .tup _=>none
def extOwn (tb:Tab)(s:St tb.T)(e:Nat)(v:SV tb.T):Option (List (tb.T e)) :=
 match v with
 | .c (.d .nil)=>some []
 | .c (.own e' xs t)=>if h:e'=e then(bif s.tok t then some (h▸xs)else none)else none
 | _=>none
def wzg (tb:Tab)(s:St tb.T)(e:Nat)(v:SV tb.T):Option (tb.T e) :=
 match v with
 | .c (.ptr i 0)=>match s.blk i with
  | some Nz0=>match cvs Nz0 with|some cs=>tb.dec e cs|none=>none
  | none=>none
 | _=>none
def isRo {T:Nat->Type}(s:St T)(v:SV T):Bool :=
 match v with
 | .c (.ptr i _)=>s.ro i
 | _=>true
def extItr {T:Nat->Type}(s:St T)(v:SV T):Option (List UInt8×Nat) :=
 match v with
 | .c (.ptr i 0)=>match s.itr i with|some (.it l p)=>some (l,p)|_=>none
 | _=>none
def extMap (tb:Tab)(s:St tb.T)(k v:Nat)(sv:SV tb.T):Option (List (tb.T k×tb.T v)) :=
 match sv with
 | .c (.map i)=>bif s.ro i then none else match s.itr i with
  | some (.mp k' v' l)=>if h:k'=k then(if h':v'=v then some (h▸h'▸l)else none)else none
  | _=>none
 | _=>none
def extMut (tb:Tab)(s:St tb.T)(e:Nat)(v:SV tb.T):Option (List (tb.T e)) :=
 match v with
 | .c (.d .nil)=>some []
 | .c (.vsl e1 i)=>match s.arr i with
  | some (.mk o e' xs)=>if h:e'=e then(bif o&&Nat.beq e1 e then some (h▸xs)else none)else none
  | none=>none
 | _=>none
def HzO (tb:Tab)(s:St tb.T)(e:Nat)(v:SV tb.T):Option (List (tb.T e)×Nat×Nat) :=
 match v with
 | .c (.vw e1 i o n)=>match s.arr i with
  | some (.mk _ e' xs)=>if h:e'=e then(bif Nat.beq e1 e then some (h▸xs,o,n)else none)else none
  | none=>none
 | _=>none
def extBox {T:Nat->Type}(s:St T)(n:Nat)(v:SV T):Option Unit :=
 match v with
 | .c (.ptr i 0)=>bif s.ro i then none else match s.blk i with
  | some Nz0=>bif Nat.beq Nz0.length (boxN n)&&slfOk i n Nz0 then some ()else none
  | none=>none
 | _=>none
def extP (P:Program)(tb:Tab)(s:St tb.T)(p:Pat)(v:SV tb.T):Option (X tb p) :=
 match p with
 | .val e=>tzv P tb e v
 | .own e=>extOwn tb s e v
 | .ref e=>bif isRo s v then none else wzg tb s e v
 | .ro e=>wzg tb s e v
 | .iter=>extItr s v
 | .wr e=>extMut tb s e v
 | .vw e=>HzO tb s e v
 | .mp k v'=>extMap tb s k v' v
 | .box n=>extBox s n v
 | .fnp f n=>match v with
  | .c (.fn f' caps)=>bif Nat.beq f' f&&Nat.beq caps.length n&&caps.all (fun p=>Nat.beq p.2 0)then some ()else none
  | _=>none
def idsP {T:Nat->Type}(p:Pat)(v:SV T):List Nat :=
 match p,v with
 | .own _,.c (.own _ _ t)=>[t]
 | .ref _,.c (.ptr i _)=>[i]
 | .ro _,.c (.ptr i _)=>[i]
 | .iter,.c (.ptr i _)=>[i]
 | .mp _ _,.c (.map i)=>[i]
 | .wr _,.c (.vsl _ i)=>[i]
 | .vw _,.c (.vw _ i _ _)=>[i]
 | .box _,.c (.ptr i _)=>[i]
 | _,_=>[]
def extS (P:Program)(tb:Tab)(s:St tb.T)(get:Nat->Option (SV tb.T)):(l:aze)->Option (XS tb l)
 | []=>some ()
 | [a]=>match get a.1 with
  | some v=>extP P tb s a.2 v
  | none=>none
 | a::b::l=>match get a.1 with
  | some v=>match extP P tb s a.2 v with
   | some x=>match extS P tb s get (b::l)with
    | some xs=>some (x,xs)
    | none=>none
   | none=>none
  | none=>none
def idsS {T:Nat->Type}(get:Nat->Option (SV T)):aze->List Nat
 | []=>[]
 | a::l=>(match get a.1 with|some v=>idsP a.2 v|none=>[])++idsS get l
def czl:List Nat->Bool
 | []=>true
 | i::l=>!memB i l&&czl l
def azm:aze->aze
 | []=>[]
 | a::l=>bif a.2.isRef then a::azm l else azm l
def Pat.isVw:Pat->Bool | .vw _=>true|_=>false
def nvOf:aze->aze
 | []=>[]
 | a::l=>bif a.2.isVw then nvOf l else a::nvOf l
def tkOf:aze->aze
 | []=>[]
 | a::l=>bif a.2.taken then a::tkOf l else tkOf l
def AC.frz {T:Nat->Type}(i e:Nat)(xs:List (T e)):AC T->AC T
 | .vsl e' j=>bif Nat.beq j i&&Nat.beq e' e then .own e xs (i+1152921504606846976)else .vsl e' j
 | a=>a
def SV.frz {T:Nat->Type}(i e:Nat)(xs:List (T e)):SV T->SV T
 | .c a=>.c (a.frz i e xs)
 | .agg Nz0=>.agg (Nz0.map (AC.frz i e xs))
 | .tup ts=>.tup (ts.map fun p=>(p.1,p.2.map (AC.frz i e xs)))
def St.frz {T:Nat->Type}(s:St T)(i:Nat):St T :=
  match s.arr i with
  | some (.mk o e xs) => bif s.used (i + 1152921504606846976) || !o then s else
      { s with env := fun t => (s.env t).map (SV.frz i e xs)
               blk:=fun b=>(s.blk b).map (List.map (AC.frz i e xs))
               arr := upd s.arr i none, tok := upd s.tok (i + 1152921504606846976) true, used := upd s.used (i + 1152921504606846976) true }
  | none=>s
def SV.frzF {T:Nat->Type}(f:Nat)(caps:List (Nat×Nat))(c:CV T):SV T->SV T
 | .c (.fn f' caps')=>bif Nat.beq f' f&&decide (caps'=caps)then .c (.d c)else .c (.fn f' caps')
 | v=>v
def St.frzF {T:Nat->Type}(s:St T)(f:Nat)(caps:List (Nat×Nat)):St T :=
 match caps with
 | [(i,0)]=>match s.blk i with
  | some [.d (.sl e xs)]=>bif s.ro i then s else {s with env:=fun t=>(s.env t).map (SV.frzF f caps (.itf f none e xs)),blk:=upd s.blk i none}
  | _=>s
 | [(i,0),(j,0)]=>match s.blk i,s.blk j with
  | some [.d (.sl e xs)],some [.d (.int .i64 k)]=>bif s.ro i||s.ro j||Nat.beq i j then s else
   {s with env:=fun t=>(s.env t).map (SV.frzF f caps (.itf f (some k) e xs)),blk:=upd (upd s.blk i none) j none}
  | _,_=>s
 | _=>s
def St.frzL {T:Nat->Type}(s:St T):List (AC T)->St T
 | []=>s
 | .vsl _ i::Nz0=>(s.frz i).frzL Nz0
 | _::Nz0=>s.frzL Nz0
def St.prep {T:Nat->Type}(get:Nat->Option (SV T)):aze->St T->St T
 | [],s=>s
 | (t,.own _)::l,s=>match get t with
  | some (.c (.vsl _ i))=>St.prep get l (s.frz i)
  | _=>St.prep get l s
 | (t,.val _)::l,s=>match get t with
  | some (.c (.fn f caps))=>St.prep get l (s.frzF f caps)
  | some (.c (.vsl _ i))=>St.prep get l (s.frz i)
  | some (.agg Nz0)=>St.prep get l (s.frzL Nz0)
  | _=>St.prep get l s
 | _::l,s=>St.prep get l s
def azX (l:aze):aze:=l.filter fun a=>ezu a.1
def cz3 (l:aze):Bool:=l.all fun a=>ezu a.1
def bzv {α:Type}:aze->List α->List α
 | a::l,v::vs=>bif ezu a.1 then v::bzv l vs else bzv l vs
 | _,_=>[]
def fixedOf (l:aze):List Nat:=(azm l).map fun q=>q.1%4294967296
def mzi (l:aze):List Nat:=(l.filter fun q=>!ezu q.1&&Nat.beq (q.1/4294967296-1) rzw).map fun q=>q.1%4294967296-32768
def ozq (ins outs:aze):List Nat:=fixedOf ins++mzi outs
def isFnp (l:aze)(t:Nat):Bool:=l.any fun a=>Nat.beq a.1 t&&(match a.2 with | .fnp _ _=>true|_=>false)
def hangs (l:aze):Bool:=(azm l).all fun q=>ezu q.1||isFnp l (q.1%4294967296)
end Go.Ev
namespace Go.Ev
open Go
open Go.IntKind (i64 u64 u8 i32 u32 i16 u16)
def Ret (tb:Tab)(outs:aze):aze->Type
 | []=>XS tb outs
 | r::rs=>XS tb outs×XS tb (r::rs)
def Ret.outs {tb:Tab}{outs:aze}:{rs:aze}->Ret tb outs rs->XS tb outs
 | [],y=>y
 | _::_,y=>y.1
def Ret.refs {tb:Tab}{outs:aze}:{rs:aze}->Ret tb outs rs->XS tb rs
 | [],_=>()
 | _::_,y=>y.2
def Ret.mk {tb:Tab}{outs:aze}:{rs:aze}->XS tb outs->XS tb rs->Ret tb outs rs
 | [],x,_=>x
 | _::_,x,z=>(x,z)
structure FSpec (tb:Tab) where
 ins:aze
 outs:aze
 f:XS tb ins->Option (Ret tb outs (azm ins))
inductive Ex where
 | normal
 | exit (id:Nat)
 | goto (l:Nat)
 | ret
 deriving DecidableEq
def Outs (tb:Tab)(rs:aze):List (Ex×aze)->Type
 | []=>Empty
 | [o]=>Ret tb o.2 rs
 | o::p::l=>Ret tb o.2 rs⊕Outs tb rs (p::l)
structure CutSpec (tb:Tab) where
 key:Nat
 ins:aze
 outs:List (Ex×aze)
 W:List Nat
 J:XS tb ins->Option (Outs tb (azm ins) outs)
 al:Option (Nat×Nat)
def St.drop {T:Nat->Type}(s:St T)(ids:List Nat):St T:={s with tok:=fun i=>bif memB i ids then false else s.tok i}
def St.take {T:Nat->Type}(s:St T)(get:Nat->Option (SV T))(ins:aze):St T :=
  { s with tok := fun i => bif memB i (idsS get (nvOf ins)) then false else s.tok i
           blk:=fun i=>bif memB i (idsS get (tkOf ins))then none else s.blk i
           itr:=fun i=>bif memB i (idsS get (tkOf ins))then none else s.itr i
           arr := fun i => bif memB i (idsS get (nvOf ins)) then none else s.arr i }
def bzT (tb:Tab)(s:St tb.T)(get:Nat->Option (SV tb.T)):(rs:aze)->XS tb rs->St tb.T
 | [],_=>s
 | [a],x=>one s a x
 | a::b::l,(x,xs)=>bzT tb (one s a x) get (b::l) xs
where
 one (s:St tb.T) (a:Nat×Pat) (x:X tb a.2):St tb.T :=
  match get a.1 with
  | some (.c (.ptr i _))=>match a.2,x with
   | .ref e,x=>{s with blk:=upd s.blk i (some ((tb.enc e x).map .d))}
   | .iter,x=>{s with itr:=upd s.itr i (some (.it x.1 x.2))}
   | .box n,_=>{s with blk:=upd s.blk i (some (pzz i n))}
   | _,_=>s
  | some (.c (.map i))=>match a.2,x with
   | .mp k v,x=>{s with itr:=upd s.itr i (some (.mp k v x))}
   | _,_=>s
  | _=>s
def dzF (P:Program)(tb:Tab)(d:Nat)(s:St tb.T):(j:Nat)->(l:aze)->XS tb l->Option (List (Bool×List (AC tb.T))×St tb.T)
 | _,[],_=>some ([],s)
 | j,[a],x=>match part1 d s j a x with
  | some (p,s')=>some ([p],s')
  | none=>none
 | j,a::b::l,(x,xs)=>match part1 d s j a x with
  | some (p,s')=>match dzF P tb d s' (j+1) (b::l) xs with
   | some (ps,s'')=>some (p::ps,s'')
   | none=>none
  | none=>none
where
 part1 (d:Nat) (s:St tb.T) (j:Nat) (a:Nat×Pat) (x:X tb a.2):Option ((Bool×List (AC tb.T))×St tb.T) :=
  match a.2,x with
  | .val e,x=>bif bzw P e then some ((true,(tb.enc e x).map .d),s)else(match tb.enc e x with | [c]=>some ((false,[.d c]),s)|_=>none)
  | .own e,x=>bif s.used (d+65536*j)then none else
   some ((false,[.own e x (d+65536*j)]),{s with tok:=upd s.tok (d+65536*j) true,used:=upd s.used (d+65536*j) true})
  | .wr e,x=>bif s.used (d+65536*j)then none else
   some ((false,[.vsl e (d+65536*j)]),{s with arr:=upd s.arr (d+65536*j) (some (.mk true e x)),used:=upd s.used (d+65536*j) true})
  | _,_=>none
def mzp (P:Program)(tb:Tab)(d:Nat)(s:St tb.T)(p:Pat)(x:X tb p):Option (St tb.T) :=
 match p,x with
 | .val e,x=>some (s.put d (qzu P e (tb.enc e x)))
 | .own e,x=>bif s.used d then none else some {s with env:=upd s.env d (some (.c (.own e x d))),tok:=upd s.tok d true,used:=upd s.used d true}
 | .wr e,x=>bif s.used d then none else some {s with env:=upd s.env d (some (.c (.vsl e d))),arr:=upd s.arr d (some (.mk true e x)),used:=upd s.used d true}
 | _,_=>none
def dzG (P:Program)(tb:Tab)(dst:Option Nat)(s:St tb.T):(l:aze)->XS tb l->Option (St tb.T)
 | [],_=>some (s.putO dst (.tup []))
 | [a],x=>match dst with
  | some d=>mzp P tb d s a.2 x
  | none=>some s
 | a::b::l,x=>match dst with
  | some d=>match dzF P tb d s 0 (a::b::l) x with
   | some (ps,s')=>some (s'.put d (.tup ps))
   | none=>none
  | none=>some s
def fresh (used:Nat->Bool)(step:Nat):Nat->Nat->Nat
 | 0,i=>i
 | n+1,i=>bif used i then fresh used step n (i+step)else i
def mzv {T:Nat->Type}(dst:Option Nat)(arg:Nat->Option (SV T))(s:St T)(v:Nat)(a:AC T):Option (St T) :=
 bif Nat.blt (v%4294967296) 32768 then
  (match dst with
  | none=>some s
  | some d=>match s.env d with
   | some (.agg Nz0)=>bif Nat.beq (v%4294967296) 0&&Nat.blt (v/4294967296-1) Nz0.length then some {s with env:=upd s.env d (some (.agg (Nz0.set (v/4294967296-1) a)))}else none
   | some (.tup ps)=>match ps[v%4294967296]? with
    | some (true,Nz0)=>bif Nat.blt (v/4294967296-1) Nz0.length then some {s with env:=upd s.env d (some (.tup (ps.set (v%4294967296) (true,Nz0.set (v/4294967296-1) a))))}else none
    | _=>none
   | _=>none)
 else(match arg (v%4294967296-32768)with
  | some (.c (.ptr i 0))=>match s.blk i with
   | some Nz0=>bif Nat.blt (v/4294967296-1) Nz0.length then some {s with blk:=upd s.blk i (some (Nz0.set (v/4294967296-1) a))}else none
   | none=>none
  | _=>none)
def outV (P:Program)(tb:Tab)(dst:Option Nat)(arg:Nat->Option (SV tb.T))(s:St tb.T)(a:Nat×Pat)(x:X tb a.2):Option (St tb.T) :=
 match a.2,x with
 | .own e,x=>bif s.used (fresh s.used 281474976710656 64 (a.1+281474976710656))then none else
  (match mzv dst arg s a.1 (.own e x (fresh s.used 281474976710656 64 (a.1+281474976710656)))with
  | some s'=>some {s' with tok:=upd s'.tok (fresh s.used 281474976710656 64 (a.1+281474976710656)) true,used:=upd s'.used (fresh s.used 281474976710656 64 (a.1+281474976710656)) true}
  | none=>none)
 | .wr e,x=>bif Nat.beq (a.1/4294967296-1) rzw then(bif Nat.blt (a.1%4294967296) 32768 then none else match arg (a.1%4294967296-32768)with
  | some (.c (.vsl e' i))=>bif Nat.beq e' e&&(s.arr i).isNone then some {s with arr:=upd s.arr i (some (.mk true e x))}else none
  | _=>none)else
  bif s.used (fresh s.used 281474976710656 64 (a.1+281474976710656))then none else
  (match mzv dst arg s a.1 (.vsl e (fresh s.used 281474976710656 64 (a.1+281474976710656)))with
  | some s'=>some {s' with arr:=upd s'.arr (fresh s.used 281474976710656 64 (a.1+281474976710656)) (some (.mk true e x)),used:=upd s'.used (fresh s.used 281474976710656 64 (a.1+281474976710656)) true}
  | none=>none)
 | .val e,x=>bif bzw P e then none else(match tb.enc e x with
  | [c]=>mzv dst arg s a.1 (.d c)
  | _=>none)
 | _,_=>none
def lzX (P:Program)(tb:Tab)(dst:Option Nat)(arg:Nat->Option (SV tb.T))(s:St tb.T):(l:aze)->XS tb l->Option (St tb.T)
 | [],x=>dzG P tb dst s [] x
 | [a],x=>bif ezu a.1 then dzG P tb dst s [a] x else(match dzG P tb dst s [] ()with
  | some s'=>outV P tb dst arg s' a x
  | none=>none)
 | a::b::l,x=>bif ezu a.1 then(bif cz3 (b::l)then dzG P tb dst s (a::b::l) x else none)else(match lzX P tb dst arg s (b::l) x.2 with
  | some s'=>outV P tb dst arg s' a x.1
  | none=>none)
section
variable {R:Type}
def kza (P:Program)(tb:Tab)(fid:Nat)(vs:List (SV tb.T))(dst:Option Nat)(s:St tb.T)(κ:St tb.T->Option R):List (Nat×FSpec tb)->Option R
 | []=>none
 | (g,spec)::Γ=>bif Nat.beq g fid then
  (match extS P tb s (vget s fun i=>vs[i]?) spec.ins with
  | none=>kza P tb fid vs dst s κ Γ
  | some x=>bif czl (idsS (vget s fun i=>vs[i]?) spec.ins)&&Nat.beq (azX spec.ins).length vs.length then
   obnd (spec.f x) fun y =>
    match lzX P tb dst (fun i=>vs[i]?) (bzT tb (s.take (vget s fun i=>vs[i]?) spec.ins) (vget s fun i=>vs[i]?) (azm spec.ins) y.refs) spec.outs y.outs with
    | some s'=>κ s'
    | none=>none
   else none)
  else kza P tb fid vs dst s κ Γ
def St.look {T:Nat->Type}(s:St T)(x:Operand):Option (SV T):=s.seen (s.val x)
def kzh:Nat->List (Nat×Operand)->Option Operand
 | _,[]=>none
 | i,(j,x)::ps=>bif Nat.beq i j then some x else kzh i ps
def qzK (P:Program){T:Nat->Type}(e:Nat)(ρ:Operand->Option (SV T))(parts:List (Nat×Operand))(i:Nat):Option (List (AC T)) :=
 match kzh i parts with
 | some x=>match ρ x with|some v=>v.cells|none=>none
 | none=>jzQ P e
def izt (P:Program)(tb:Tab)(e:Nat)(ρ:Operand->Option (SV tb.T))(parts:List (Nat×Operand)):Nat->Nat->Option (List (tb.T e))
 | 0,_=>some []
 | n+1,i=>match qzK P e ρ parts i with
  | some Nz0=>match cvs Nz0 with
   | some cs=>bif Nat.beq cs.length (P.cellsOf e)then(match tb.dec e cs with
    | some x=>match izt P tb e ρ parts n (i+1)with
     | some xs=>some (x::xs)
     | none=>none
    | none=>none)else none
   | none=>none
  | none=>none
def jz1 (P:Program)(e:Nat):Bool:=match P.info? e with|some i=>(match i.zero with|some z=>Nat.beq z.cells.size i.size|none=>false)|none=>false
def jzt (tb:Tab)(s:St tb.T)(d e:Nat)(xs:List (tb.T e))(κ:St tb.T->Option R):Option R :=
 bif s.used d then none else κ {s with env:=upd s.env d (some (.c (.own e xs d))),tok:=upd s.tok d true,used:=upd s.used d true}
def lzW (tb:Tab)(s:St tb.T)(d e:Nat)(xs:List (tb.T e))(κ:St tb.T->Option R):Option R :=
 bif s.used d then none else κ {s with env:=upd s.env d (some (.c (.vsl e d))),arr:=upd s.arr d (some (.mk true e xs)),used:=upd s.used d true}
def tzJ (tb:Tab)(s:St tb.T)(i d e:Nat)(xs:List (tb.T e))(κ:St tb.T->Option R):Option R :=
 lzW tb {s with arr:=upd s.arr i none} d e xs κ
def uzI {tb:Tab}(Γ:List (Nat×FSpec tb))(d:Nat):Bool:=Γ.any fun p=>Nat.beq p.1 (1099511627776+d)
def hzk (tb:Tab)(Γ:List (Nat×FSpec tb))(s:St tb.T)(d e:Nat)(xs:List (tb.T e))(κ:St tb.T->Option R):Option R:=bif uzI Γ d then lzW tb s d e xs κ else jzt tb s d e xs κ
def newVar {T:Nat->Type}(s:St T)(d:Nat)(Nz0:List (AC T))(κ:St T->Option R):Option R :=
 bif s.used d then none else κ {s with env:=upd s.env d (some (.c (.ptr d 0))),blk:=upd s.blk d (some Nz0),used:=upd s.used d true}
def szH (P:Program)(tb:Tab)(xt e:Nat)(xv:Option (SV tb.T))(s:St tb.T)(κ:List (tb.T e)->Option R):Option R :=
 match P.underlying xt,xv with
 | some (.slice _),some (.c (.vw e1 i o n))=>match s.arr i with
  | some (.mk _ e' xs)=>if h:e'=e then(bif Nat.beq e1 e then obnd (win xs o n) fun ys=>κ (h▸ys)else none)else none
  | none=>none
 | some (.slice _),some (.c a)=>match nz3 tb a e with
  | some ys=>κ ys
  | none=>none
 | some .string,some (.c (.d (.str l)))=>if h:e=tb.b8 then(bif Nat.beq (P.cellsOf e) 1 then κ (cast (by rw[h,tb.hb]) l)else none)else none
 | _,_=>none
def jzs (P:Program)(tb:Tab)(Γ:List (Nat×FSpec tb))(dst:Option Nat)(st xt:Nat)(sv xv:SV tb.T)(s:St tb.T)(κ:St tb.T->Option R):Option R :=
 match dst with
 | none=>none
 | some d=>match izG P st with
  | none=>none
  | some e=>bif !(czR P e&&jz1 P e&&Nat.blt 0 (P.bytesOf e))then none else
   szH P tb xt e (s.seen (some xv)) s fun ys=>match sv with
    | .c (.d .nil)=>obnd (app (P.bytesOf e) [] ys) fun zs=>hzk tb Γ s d e zs κ
    | .c (.own e' xs t)=>if h:e'=e then(bif s.tok t then obnd (app (P.bytesOf e) (h▸xs) ys) fun zs=>jzt tb (s.drop [t]) d e zs κ else none)else none
    | .c (.vsl e1 i)=>match s.arr i with
     | some (.mk o e' xs)=>if h:e'=e then(bif o&&Nat.beq e1 e then obnd (app (P.bytesOf e) (h▸xs) ys) fun zs=>tzJ tb s i d e zs κ else none)else none
     | none=>none
    | _=>none
def xzo (P:Program)(tb:Tab)(t:Nat)(m kx x:Operand)(dst:Option Nat)(s:St tb.T)(κ:St tb.T->Option R):Option R :=
 match dst with
 | some _=>none
 | none=>match uzU P t with
  | some (k',v')=>match s.val m with
   | some (.c (.map i))=>match s.itr i with
    | some (.mp k v l)=>bif Nat.beq k k'&&Nat.beq v v' then(match s.val kx with
     | some sk=>match tzv P tb k sk with
      | some a=>match s.val x with
       | some sx=>match tzv P tb v sx with
        | some b=>bif xzI P tb k then κ {s with itr:=upd s.itr i (some (.mp k v (kzP (keq tb k) a b l)))}else none
        | none=>none
       | none=>none
      | none=>none
     | none=>none)else none
    | _=>none
   | _=>none
  | none=>none
def cutOf {tb:Tab}(Γ:List (Nat×FSpec tb))(m l:Option Operand)(d:Option Nat)(v:Option (SV tb.T)):Option (Nat×Nat×Nat) :=
 match m,l,d,v with
 | none,none,some d,some (.c (.vsl e i))=>bif uzI Γ d then some (d,e,i)else none
 | _,_,_,_=>none
def evOp (P:Program)(tb:Tab)(Γ:List (Nat×FSpec tb))(o:Oper)(s:St tb.T)(κ:St tb.T->Option R):Option R :=
 match o.op with
 | .alloc e=>match o.dst with
  | some d=>match jzQ P e with
   | some z=>newVar s d (BzM e d z) κ
   | none=>none
  | none=>none
 | .box _ x=>match o.dst with
  | some d=>match s.val x with
   | some v=>match v.cells with
    | some Nz0=>newVar s d Nz0 κ
    | none=>none
   | none=>none
  | none=>none
 | .load t a=>match s.val a with
  | some (.c (.ptr i off))=>match s.blk i with
   | some cells=>match cut1 P t cells off with
    | some v=>κ (s.putO o.dst v)
    | none=>none
   | none=>none
  | some (.c (.cptr cs))=>match cut1 P t (cs.map AC.d) 0 with
   | some v=>κ (s.putO o.dst v)
   | none=>none
  | some (.c (.elp i e k off))=>match s.arr i with
   | some (.mk _ e' xs)=>bif Nat.beq e' e then obnd (nth xs k) fun y=>(match cut1 P t ((tb.enc e' y).map AC.d) off with
    | some v=>κ (s.putO o.dst v)
    | none=>none)else none
   | none=>none
  | _=>none
 | .store t a x=>match o.dst with
  | some _=>none
  | none=>match s.val a with
   | some (.c (.ptr i off))=>bif s.ro i then none else match s.blk i with
    | some cells=>match s.val x with
     | some v=>match v.cells with
      | some Nz0=>bif czR P t&&Nat.beq Nz0.length (P.cellsOf t)&&Nat.ble (off+Nz0.length) cells.length then κ {s with blk:=upd s.blk i (some (ez3 cells Nz0 off))}else none
      | none=>none
     | none=>none
    | none=>none
   | some (.c (.elp i e k off))=>match s.arr i with
    | some (.mk o e' xs)=>bif Nat.beq e' e&&o then(match s.val x with
     | some v=>match v.cells with
      | some Nz0=>match cvs Nz0 with
       | some cs=>obnd (nth xs k) fun y=>bif czR P t&&Nat.beq cs.length (P.cellsOf t)&&Nat.ble (off+cs.length) (tb.enc e' y).length then(match tb.dec e' (ez3 (tb.enc e' y) cs off)with
        | some y'=>κ {s with arr:=upd s.arr i (some (.mk true e' (xs.set k y')))}
        | none=>none)else none
       | none=>none
      | none=>none
     | none=>none)else none
    | none=>none
   | _=>none
 | .buildSlice t n parts=>match o.dst with
  | some d=>match izG P t with
   | some e=>bif czl (parts.toList.map (·.1))&&parts.toList.all (fun p=>Nat.blt p.1 n)&&Nat.ble (n*P.cellsOf e) 16777216&&Nat.blt 0 (P.cellsOf e)&&jz1 P e then(match izt P tb e s.val parts.toList n 0 with
    | some xs=>hzk tb Γ s d e xs κ
    | none=>none)else none
   | none=>none
  | none=>none
 | .makeSlice t l c=>match o.dst with
  | some d=>match izG P t with
   | some e=>match jzQ (T:=tb.T) P e with
    | some z=>match cvs z with
     | some cs=>bif czR P e&&Nat.beq cs.length (P.cellsOf e)then(match tb.dec e cs with
      | some x=>match s.val l,s.val c with
       | some (.c (.d (.int .i64 li))),some (.c (.d (.int .i64 ci)))=>obnd (tzI (P.bytesOf e) x li ci) fun xs=>hzk tb Γ s d e xs κ
       | _,_=>none
      | none=>none)else none
     | none=>none
    | none=>none
   | none=>none
  | none=>none
 | .convert src dst x=>match P.underlying src,P.underlying dst,s.val x,o.dst with
  | some .string,some (.slice e),some (.c (.d (.str l))),some d=>match P.underlying e with
   | some (.int .u8)=>if h:e=tb.b8 then(bif Nat.beq (P.cellsOf e) 1 then hzk tb Γ s d e (cast (by rw[h,tb.hb]) l) κ else none)else none
   | some (.int .i32)=>if h:tb.r4=some e then(bif Nat.beq (P.cellsOf e) 1 then obnd (BzL l) fun rs=>hzk tb Γ s d e (cast (by rw[tb.hr e h]) rs) κ else none)else none
   | _=>none
  | _,_,_,_=>evP P tb o.op s.val fun v=>κ (s.putO o.dst v)
 | .range xt x=>match o.dst with
  | some d=>match P.underlying xt,s.val x with
   | some .string,some (.c (.d (.str l)))=>bif s.used d then none else
    κ {s with env:=upd s.env d (some (.c (.ptr d 0))),itr:=upd s.itr d (some (.it l 0)),used:=upd s.used d true}
   | _,_=>none
  | none=>none
 | .next it str=>bif str then(match o.dst with
  | some d=>match s.val it with
   | some (.c (.ptr i 0))=>match s.itr i with
    | some (.it l p)=>brn (decide (p<l.length))
     (κ {s with env:=upd s.env d (some (.tup [(false,[.d (.bool true)]),(false,[.d (.int .i64 (p:Int))]),(false,[.d (.int .i32 ((rune l p).1:Int))])])),itr:=upd s.itr i (some (.it l (p+(rune l p).2)))})
     (κ (s.put d (.tup [(false,[.d (.bool false)])])))
    | _=>none
   | _=>none
  | none=>none)else none
 | .makeMap t r=>match r with
  | some _=>none
  | none=>match o.dst with
   | some d=>match uzU P t with
    | some (k,v)=>bif s.used d then none else κ {s with env:=upd s.env d (some (.c (.map d))),itr:=upd s.itr d (some (.mp k v [])),used:=upd s.used d true}
    | none=>none
   | none=>none
 | .insert t m kx x=>xzo P tb t m kx x o.dst s κ
 | .mapUpdate t m kx x=>xzo P tb t m kx x o.dst s κ
 | .lookup t m kx ok=>match o.dst with
  | none=>none
  | some d=>match uzU P t with
   | some (k',v')=>match s.val m with
    | some (.c (.map i))=>match s.itr i with
     | some (.mp k v l)=>bif Nat.beq k k'&&Nat.beq v v' then(match s.val kx with
      | some sk=>match tzv P tb k sk with
       | some a=>match jzQ (T:=tb.T) P v with
        | some z=>match cvs z with
         | some zc=>match tb.dec v zc with
          | some zv=>bif xzI P tb k&&yzi P v then κ (s.put d (bif ok then .tup [(bzw P v,(tb.enc v (ezU (keq tb k) zv a l)).map .d),(false,[.d (.bool (kzO (keq tb k) a l))])]else qzu P v (tb.enc v (ezU (keq tb k) zv a l))))else none
          | none=>none
         | none=>none
        | none=>none
       | none=>none
      | none=>none)else none
     | _=>none
    | _=>none
   | none=>none
 | .call {callee:=.builtin .append,args,argTypes}=>match vals s.val args.toList,argTypes.toList with
  | some [sv,xv],[st,xt]=>jzs P tb Γ o.dst st xt sv xv s κ
  | _,_=>none
 | .call {callee:=.builtin .len,args,argTypes}=>match vals s.val args.toList,argTypes.toList with
  | some [.c (.map i)],[t]=>match uzU P t,s.itr i with
   | some _,some (.mp _ _ l)=>brn (fits l.length) (κ (s.putO o.dst (.c (.d (.int .i64 l.length))))) none
   | _,_=>none
  | _,_=>evP P tb o.op s.look fun v=>κ (s.putO o.dst v)
 | .slice t x l h m=>match cutOf Γ m l o.dst (s.val x)with
  | some q=>match s.arr q.2.2,dzt s.look h 0,izG P t with
   | some (.mk o e xs),some hi,some e'=>bif o&&Nat.beq q.2.1 e&&Nat.beq e' e&&czR P e&&h.isSome then obnd (sub xs 0 hi) fun zs=>tzJ tb s q.2.2 q.1 e zs κ else none
   | _,_,_=>none
  | none=>evP P tb o.op s.look fun v=>κ (s.putO o.dst v)
 | .indexAddr ..=>evP P tb o.op s.look fun v=>κ (s.putO o.dst v)
 | .binOp ..=>evP P tb o.op s.look fun v=>κ (s.putO o.dst v)
 | .call {callee:=.value f,args,argTypes:=_}=>match s.val f with
  | some (.c (.fn fid caps))=>match vals s.val args.toList with
   | some vs=>kza P tb fid (vs++caps.map fun p=>.c (.ptr p.1 p.2)) o.dst s κ Γ
   | none=>none
  | _=>none
 | op=>evP P tb op s.val fun v=>κ (s.putO o.dst v)
inductive Foot where
 | p|l (i:Nat)|st (i:Nat)|n|x
 | ap (t:Option Nat)
 | la (i:Nat)|sa (i:Nat)
def aze.plain (l:aze):Bool:=l.all fun a=>match a.2 with | .val _=>true|_=>false
def aze.plainOwn (l:aze):Bool:=l.all fun a=>match a.2 with | .val _ | .own _ | .wr _=>true|_=>false
def aze.plainOwn0 (l:aze):Bool:=l.all fun a=>match a.2 with | .val _ | .own _=>true|_=>false
def pzp {tb:Tab}(Γ:List (Nat×FSpec tb))(f:Nat):Bool:=Γ.all fun g=>!Nat.beq g.1 f||(aze.plain g.2.ins&&aze.plainOwn0 g.2.outs&&cz3 g.2.ins&&cz3 g.2.outs)
def nzp {tb:Tab}(o:Op)(s:St tb.T):Bool:=o.operands.toList.any fun x=>match s.val x with
 | some (.c (.vsl _ _))|some (.c (.vw _ _ _ _))=>true
 | _=>false
def azY {tb:Tab}(Γ:List (Nat×FSpec tb))(o:Op)(s:St tb.T):Foot :=
 match o with
 | .slice _ x ..=>match s.val x with|some (.c (.vsl _ _))=>.x|_=>.p
 | .load _ a=>match s.val a with|some (.c (.ptr i _))=>.l i|some (.c (.cptr _))=>.p|some (.c (.elp i _ _ _))=>.la i|_=>.x
 | .store _ a _=>match s.val a with|some (.c (.ptr i _))=>.st i|some (.c (.elp i _ _ _))=>.sa i|_=>.x
 | .alloc _ | .box .. | .buildSlice .. | .makeSlice .. | .convert .. | .range ..=>.n
 | .next .. | .makeMap .. | .mapUpdate .. | .insert .. | .lookup ..=>.x
 | .call {callee:=.builtin .append,args,..}=>bif nzp o s then .x else match vals s.val args.toList with
  | some (.c (.d .nil)::_)=>.ap none
  | some (.c (.own _ _ t)::_)=>.ap (some t)
  | _=>.x
 | .call {callee:=.builtin .len,args,..}=>match vals s.val args.toList with
  | some [.c (.map i)]=>.l i
  | _=>.p
 | .call {callee:=.value f,..}=>match s.val f with|some (.c (.fn g _))=>bif pzp Γ g then .n else .x|_=>.x
 | _=>.p
def Foot.free:Foot->Foot->Bool
 | .x,_|_,.x=>false
 | .l i,.st j | .st i,.l j | .st i,.st j=>!Nat.beq i j
 | .la i,.sa j | .sa i,.la j | .sa i,.sa j=>!Nat.beq i j
 | .ap (some t),.ap (some u)=>!Nat.beq t u
 | _,_=>true
def evG (P:Program)(tb:Tab)(Γ:List (Nat×FSpec tb))(ops:Array Oper)(o:Oper)(s:St tb.T)(κ:Foot->St tb.T->Option R):Option R :=
 match o.guard with
 | none=>evOp P tb Γ o s (κ (azY Γ o.op s))
 | some (j,want)=>match ops[j]? with
  | none=>none
  | some oj=>match oj.dst with
   | none=>none
   | some t=>match s.env t with
    | some (.c (.d (.bool b))) =>
     brn b (bif want then evOp P tb Γ o (s.put t (.c (.d (.bool true)))) (κ (azY Γ o.op s))else κ .p ((s.put t (.c (.d (.bool true)))).putO o.dst (.tup [])))
     (bif want then κ .p ((s.put t (.c (.d (.bool false)))).putO o.dst (.tup []))else evOp P tb Γ o (s.put t (.c (.d (.bool false)))) (κ (azY Γ o.op s)))
    | some (.tup [])=>κ .p (s.putO o.dst (.tup []))
    | _=>none
def rzo (P:Program)(tb:Tab)(Γ:List (Nat×FSpec tb))(ops:Array Oper):List Oper->St tb.T->(St tb.T->Option R)->Option R
 | [],s,κ=>κ s
 | o::os,s,κ=>evG P tb Γ ops o s fun _ s'=>rzo P tb Γ ops os s' κ
def rzL (acc:List Nat):List Edge->Nat->Nat
 | [],m=>m
 | e::es,m=>bif Region.binds .any e then rzL acc es (m ||| 2^e.on ||| acc.getD e.on 0)else rzL acc es m
def pzW:List Oper->List Nat->List Nat
 | [],acc=>acc
 | o::os,acc=>match rzL acc o.after.toList 0 with
  | 0=>pzW os (acc++[0])
  | m+1=>pzW os (acc++[m+1])
def ozF:List Oper->Nat->Bool
 | [],_=>true
 | o::os,i=>o.after.toList.all (fun e=>!Region.binds .any e||Nat.blt e.on i)&&ozF os (i+1)
def wzO (ops:Array Oper)(m:Nat)(o:Oper)(f:Foot):List (Oper×Foot)->Nat->Bool
 | [],_=>true
 | (p,g)::ps,j=>(Nat.testBit m j||(Foot.free g f&&Oper.apart ops p o))&&wzO ops m o f ps (j+1)
def kz6 (P:Program)(tb:Tab)(Γ:List (Nat×FSpec tb))(ops:Array Oper):List Oper->List Nat->List (Oper×Foot)->St tb.T->(St tb.T->Option R)->Option R
 | [],_,_,s,κ=>κ s
 | o::os,m::ms,seen,s,κ=>evG P tb Γ ops o s fun f s'=>bif wzO ops m o f seen 0 then kz6 P tb Γ ops os ms (seen++[(o,f)]) s' κ else none
 | _::_,[],_,_,_=>none
def gzU:Code->Nat
 | .region id _ _=>id+1
 | .seq a b=>match gzU a with|0=>gzU b|n=>n
 | .cond _ a b=>match gzU a with|0=>gzU b|n=>n
 | .block _ b | .loop b | .scope b=>gzU b
 | .rangeFunc _ _ a b=>match gzU a with|0=>gzU b|n=>n
 | _=>0
def szP:Code->Nat
 | .region id _ _=>8*(id+1)
 | .seq a b=>8*gzU (.seq a b)+1
 | .cond c a b=>8*gzU (.cond c a b)+2
 | .block _ b=>8*gzU b+3
 | .loop b=>8*gzU b+4
 | .scope b=>8*gzU b+5
 | .rangeFunc _ _ a b=>8*gzU (.seq a b)+6
 | _=>7
def jzc {tb:Tab}:List (CutSpec tb)->Nat->Option (CutSpec tb)
 | [],_=>none
 | c::cs,k=>bif Nat.beq c.key k then some c else jzc cs k
def cutOne (P:Program)(tb:Tab)(key:Nat)(s:St tb.T)(a:Nat×Pat)(x:X tb a.2):Option (St tb.T) :=
 match a.2,x with
 | .val e,x=>some (s.put a.1 (qzu P e (tb.enc e x)))
 | .own e,x=>bif s.used (a.1+65536*(key+1))then none else some {s with env:=upd s.env a.1 (some (.c (.own e x (a.1+65536*(key+1))))),tok:=upd s.tok (a.1+65536*(key+1)) true,used:=upd s.used (a.1+65536*(key+1)) true}
 | .wr e,x=>bif s.used (a.1+65536*(key+1))then none else some {s with env:=upd s.env a.1 (some (.c (.vsl e (a.1+65536*(key+1))))),arr:=upd s.arr (a.1+65536*(key+1)) (some (.mk true e x)),used:=upd s.used (a.1+65536*(key+1)) true}
 | _,_=>none
def cutV (P:Program)(tb:Tab)(key:Nat)(s:St tb.T)(a:Nat×Pat)(x:X tb a.2):Option (St tb.T) :=
 match a.2,x with
 | .own e,x=>bif s.used (a.1+65536*(key+1))then none else(match setCell s s.env a.1 (.own e x (a.1+65536*(key+1)))with
  | some s'=>some {s' with tok:=upd s'.tok (a.1+65536*(key+1)) true,used:=upd s'.used (a.1+65536*(key+1)) true}
  | none=>none)
 | .wr e,x=>bif s.used (a.1+65536*(key+1))then none else(match setCell s s.env a.1 (.vsl e (a.1+65536*(key+1)))with
  | some s'=>some {s' with arr:=upd s'.arr (a.1+65536*(key+1)) (some (.mk true e x)),used:=upd s'.used (a.1+65536*(key+1)) true}
  | none=>none)
 | .val e,x=>bif bzw P e then none else(match tb.enc e x with
  | [c]=>setCell s s.env a.1 (.d c)
  | _=>none)
 | _,_=>none
def cutA (P:Program)(tb:Tab)(key:Nat)(s:St tb.T)(a:Nat×Pat)(x:X tb a.2):Option (St tb.T):=bif ezu a.1 then cutOne P tb key s a x else cutV P tb key s a x
def qzJ (P:Program)(tb:Tab)(key:Nat)(s:St tb.T):(l:aze)->XS tb l->Option (St tb.T)
 | [],_=>some s
 | [a],x=>cutA P tb key s a x
 | a::b::l,(x,xs)=>match qzJ P tb key s (b::l) xs with
  | some s'=>cutA P tb key s' a x
  | none=>none
def osum {A B C:Type}(y:A⊕B)(f:A->Option C)(g:B->Option C):Option C:=match y with | .inl a=>f a | .inr b=>g b
def jzY (P:Program)(tb:Tab)(c:CutSpec tb)(s:St tb.T)(κ:Ex->St tb.T->Option R):(outs:List (Ex×aze))->Outs tb (azm c.ins) outs->Option R
 | [],y=>nomatch y
 | [o],y=>one c s κ o y
 | o::p::l,y=>osum y (fun y=>one c s κ o y) (fun y=>jzY P tb c s κ (p::l) y)
where
 one (c:CutSpec tb) (s:St tb.T) (κ:Ex->St tb.T->Option R) (o:Ex×aze) (y:Ret tb o.2 (azm c.ins)):Option R :=
  match qzJ P tb c.key {(bzT tb (s.take (vget s s.env) c.ins) (vget s s.env) (azm c.ins) y.refs)with env:=fun t=>bif memB t c.W then none else s.env t} o.2 y.outs with
  | some s'=>κ o.1 s'
  | none=>none
def vzR {T:Nat->Type}(s:St T)(ids:List Nat):Option (Nat×Nat)->Bool
 | none=>true
 | some (t,q)=>match s.env t,s.env q with
  | some (.c (.ptr i 0)),some (.c (.ptr j 0))=>match s.blk i with
   | some [.ptr j' 0]=>Nat.beq j' j&&!memB i ids
   | _=>false
  | _,_=>false
def evCutS (P:Program)(tb:Tab)(c:CutSpec tb)(s:St tb.T)(κ:Ex->St tb.T->Option R):Option R :=
 match extS P tb s (vget s s.env) c.ins with
 | some x=>bif czl (idsS (vget s s.env) c.ins)&&vzR s (idsS (vget s s.env) c.ins) c.al then obnd (c.J x) fun y=>jzY P tb c s κ c.outs y else none
 | none=>none
def pzE (P:Program)(tb:Tab)(c:CutSpec tb)(s:St tb.T)(κ:Ex->St tb.T->Option R):Option R:=evCutS P tb c (St.prep (vget s s.env) c.ins s) κ
noncomputable def czi (P:Program)(tb:Tab)(Γ:List (Nat×FSpec tb))(Δ:List (CutSpec tb))(c:Code)(s:St tb.T)(κ:Ex->St tb.T->Option R):Option R :=
 match jzc Δ (szP c)with
 | some cut=>pzE P tb cut s κ
 | none=>match c with
  | .skip | .label _=>κ .normal s
  | .region _ ops draw=>bif draw then(bif ozF ops.toList 0 then kz6 P tb Γ ops ops.toList (pzW ops.toList []) [] s (κ .normal)else none)else rzo P tb Γ ops ops.toList s (κ .normal)
  | .seq a b=>czi P tb Γ Δ a s fun ex s'=>match ex with
   | .normal=>czi P tb Γ Δ b s' κ
   | ex=>κ ex s'
  | .cond x a b=>match s.val x with
   | some (.c (.d (.bool t)))=>brn t (czi P tb Γ Δ a s κ) (czi P tb Γ Δ b s κ)
   | some (.c (.ubool m e))=>brn m (Bzo (czi P tb Γ Δ a s κ) (czi P tb Γ Δ b s κ)) (bif e then czi P tb Γ Δ a s κ else czi P tb Γ Δ b s κ)
   | _=>none
  | .block id b=>czi P tb Γ Δ b s fun ex s'=>match ex with
   | .exit id'=>bif Nat.beq id' id then κ .normal s' else κ (.exit id') s'
   | ex=>κ ex s'
  | .scope b=>czi P tb Γ Δ b s fun ex s'=>match ex with
   | .goto _=>none
   | ex=>κ ex s'
  | .exit id=>κ (.exit id) s
  | .goto l=>κ (.goto l) s
  | .ret=>κ .ret s
  | _=>none
def qzQ (P:Program)(tb:Tab)(rs:aze)(get:Nat->Option (SV tb.T))(ex:Ex)(s:St tb.T):(outs:List (Ex×aze))->Option (Outs tb rs outs)
 | []=>none
 | [o]=>one rs get ex s o
 | o::p::l=>bif decide (o.1=ex)then(match one rs get ex s o with|some y=>some (.inl y)|none=>none)
  else(match qzQ P tb rs get ex s (p::l)with|some y=>some (.inr y)|none=>none)
where
 one (rs:aze) (get:Nat->Option (SV tb.T)) (ex:Ex) (s:St tb.T) (o:Ex×aze):Option (Ret tb o.2 rs) :=
  bif decide (o.1=ex)&&czl (idsS (vget s s.env) o.2++idsS get rs)then
   (match extS P tb s (vget s s.env) o.2 with
   | some x=>match extS P tb s get rs with
    | some z=>some (Ret.mk x z)
    | none=>none
   | none=>none)else none
def resOf (P:Program){T:Nat->Type}(s:St T):ResultVar->Option (SV T)
 | .tmp t=>s.env t
 | .cell a t=>match s.env a with
  | some (.c (.ptr i o))=>match s.blk i with
   | some cells=>cut1 P t cells o
   | none=>none
  | _=>none
def resAt (P:Program){T:Nat->Type}(rv:Array ResultVar)(s:St T)(i:Nat):Option (SV T):=match rv[i]? with
 | some r=>resOf P s r
 | none=>none
def dzh {T:Nat->Type}(s:St T)(rs:aze)(t:Nat):Option (SV T) :=
 bif memB t (rs.map (·.1))then(match vget s s.env t with|some (.c (.ptr i 0))=>bif Nat.beq i t then some (.c (.ptr t 0))else none|some (.c (.map i))=>bif Nat.beq i t then some (.c (.map t))else none|_=>none)else vget s s.env t
def slAt {T:Nat->Type}(s:St T)(p:Nat):Option (SV T):=match s.env p with|some (.c (.vsl e j))=>some (.c (.vsl e j))|_=>none
def nzo (P:Program){T:Nat->Type}(rv:Array ResultVar)(s:St T)(rs:aze)(fx:List Nat)(i:Nat):Option (SV T):=bif Nat.blt i 32768 then resAt P rv s i else bif ezu (i-32768)&&memB (i-32768) (rs.map (·.1))then dzh s rs (i-32768)else bif memB (i-32768) fx then slAt s (i-32768)else none
def retOf (P:Program)(tb:Tab)(rv:Array ResultVar)(outs rs:aze)(s:St tb.T):Option (Ret tb outs rs) :=
 bif czl (idsS (vget s (nzo P rv s rs (mzi outs))) outs++idsS (dzh s rs) rs)&&Nat.beq (azX outs).length rv.size then
  (match extS P tb s (vget s (nzo P rv s rs (mzi outs))) outs with
  | some x=>match extS P tb s (dzh s rs) rs with
   | some z=>some (Ret.mk x z)
   | none=>none
  | none=>none)else none
def pzl (P:Program)(tb:Tab)(rs:aze)(ex:Ex)(s:St tb.T)(outs:List (Ex×aze)):Option (Outs tb rs outs) :=
 match outs.find? fun o=>decide (o.1=ex)with
 | some o=>qzQ P tb rs (dzh (St.prep (vget s s.env) o.2 s) rs) ex (St.prep (vget s s.env) o.2 s) outs
 | none=>none
noncomputable def evFn (P:Program)(tb:Tab)(Γ:List (Nat×FSpec tb))(Δ:List (CutSpec tb))(fn:Func)(ins outs:aze)(x:XS tb ins):Option (Ret tb outs (azm ins)) :=
 match fn.body with
 | some c=>czi P tb Γ Δ c (lzT P tb ins x) fun ex s=>match ex with
  | .normal | .ret=>retOf P tb fn.results outs (azm ins) (St.prep (vget s (nzo P fn.results s (azm ins) (mzi outs))) outs s)
  | _=>none
 | none=>none
noncomputable def gzw (P:Program)(tb:Tab)(Γ:List (Nat×FSpec tb))(Δ:List (CutSpec tb))(body:Code)(ins:aze)(outs:List (Ex×aze))(rec:XS tb ins->Option (Outs tb (azm ins) outs))(x:XS tb ins):Option (Outs tb (azm ins) outs) :=
 czi P tb Γ Δ body (lzT P tb ins x) fun ex s=>match ex with
  | .normal=>match extS P tb s (dzh s (azm ins)) ins with
   | some x'=>bif czl (idsS (dzh s (azm ins)) ins)then rec x' else none
   | none=>none
  | ex=>pzl P tb (azm ins) ex s outs
noncomputable def szG (P:Program)(tb:Tab)(Γ:List (Nat×FSpec tb))(Δ:List (CutSpec tb))(c:Code)(ins:aze)(outs:List (Ex×aze))(x:XS tb ins):Option (Outs tb (azm ins) outs):=czi P tb Γ Δ c (lzT P tb ins x) fun ex s=>pzl P tb (azm ins) ex s outs
end
end Go.Ev
namespace Go.Ev
open Go
open Go.IntKind (i64 u64 u8 i32 u32 i16 u16)
theorem tzL {α β:Type}(b:Bool)(x y:Option α)(κ:α->Option β):obnd (brn b x y) κ=brn b (obnd x κ) (obnd y κ):=by cases b<;>rfl
theorem dzw {α β:Type}(b:Bool)(x y:Option α)(κ:α->Option β):obnd (cond b x y) κ=cond b (obnd x κ) (obnd y κ):=by cases b<;>rfl
theorem ezi {α β γ:Type}(x:Option α)(f:α->Option β)(κ:β->Option γ):obnd (obnd x f) κ=obnd x fun a=>obnd (f a) κ:=by cases x<;>rfl
theorem qzT {α β γ:Type}(x:Option α)(f:α->β)(κ:β->Option γ):obnd x (fun a=>κ (f a))=obnd (obnd x fun a=>some (f a)) κ:=by cases x<;>rfl
variable {T:Nat->Type} {R:Type}
theorem evInt_k (op:BinOp)(k:IntKind)(a b:Int)(κ:CV T->Option R):Bzx op k a b κ=obnd (Bzx op k a b some) κ:=by
 cases op<;>simp[Bzx,tzL]
theorem evStr_k (op:BinOp)(x y:List UInt8)(κ:CV T->Option R):Bzy op x y κ=obnd (Bzy op x y some) κ:=by
 cases op<;>simp[Bzy,ezi]
theorem Iz9 (op:BinOp)(k:IntKind)(a b:Int)(κ:CV T->Option R):tze op k a b κ=obnd (tze op k a b some) κ:=by
 cases op<;>simp[tze,tzL]
theorem KzF (l:Nat)(c d:CV T)(κ:Bool->Option R):wzb l c d κ=obnd (wzb l c d some) κ:=by
 unfold wzb;split<;>simp[dzw]
theorem uzB:∀(ls:List Nat) (cs ds:List (CV T)) {R:Type} (κ:Bool->Option R),ez8 ls cs ds κ=obnd (ez8 ls cs ds some) κ
 | [],[],[],_,κ=>by simp[ez8]
 | l::ls,x::xs,y::ys,_,κ=>by
  simp only[ez8];refine(KzF l x y _).trans ?_
  conv=>rhs;arg 1;rw[KzF]
  rw[ezi];congr 1;funext b;cases ls with
  | nil=>cases xs<;>cases ys<;>simp
  | cons l' ls =>
   simp only;refine(uzB (l'::ls) xs ys _).trans ?_
   conv=>rhs;arg 1;rw[uzB]
   rw[ezi];simp
 | [],[],_::_,_,_=>by simp[ez8]
 | [],_::_,_,_,_=>by simp[ez8]
 | _::_,[],_,_,_=>by simp[ez8]
 | _::_,_::_,[],_,_=>by simp[ez8]
theorem evEq_k (P:Program)(neg:Bool)(xt:Nat)(xs ys:List (AC T))(κ:CV T->Option R):evEq P neg xt xs ys κ=obnd (evEq P neg xt xs ys some) κ:=by
 unfold evEq;rw[dzw];congr 1;split
 .split
  .split
   .exact(uzB ..).trans ((qzT _ _ _).trans (congrArg (obnd · κ) (uzB ..).symm))
   .rfl
  .rfl
 .rfl
theorem HzF (P:Program)(op:BinOp)(xt:Nat)(x y:SV T)(κ:CV T->Option R):Bzw P op xt x y κ=obnd (Bzw P op xt x y some) κ:=by
 unfold Bzw;split
 .split
  .exact Iz9 ..
  .exact Iz9 ..
  .rw[dzw];congr 1;exact evInt_k ..
 .exact evStr_k ..
 .split
  .split<;>simp
  .rfl
 .split
  .exact evEq_k ..
  .exact evEq_k ..
  .rfl
 .rfl
theorem evUn_k (op:UnOp)(x:SV T)(κ:CV T->Option R):evUn op x κ=obnd (evUn op x some) κ:=by
 unfold evUn;split
 .split<;>simp
 .split<;>simp
 .rfl
theorem DzW (P:Program)(tb:Tab)(src dst:Nat)(x:SV tb.T)(κ:CV tb.T->Option R):wzc P tb src dst x κ=obnd (wzc P tb src dst x some) κ:=by
 unfold wzc;split
 .rw[dzw];rfl
 .rfl
 .rfl
 .split
  .split
   .rfl
   .split<;>rfl
   .rfl
  .rfl
 .rfl
theorem evLen_k (P:Program)(t:Nat)(x:SV T)(κ:SV T->Option R):xzn P t x κ=obnd (xzn P t x some) κ:=by
 unfold xzn;split<;>simp
theorem nzG (P:Program)(tb:Tab)(o:Op)(ρ:Operand->Option (SV tb.T))(κ:SV tb.T->Option R):evP P tb o ρ κ=obnd (evP P tb o ρ some) κ:=by
 unfold evP;split
 case h_4 =>
  split
  .split
   .split
    .rfl
    .exact(HzF ..).trans ((qzT _ _ _).trans (congrArg (obnd · κ) (HzF ..).symm))
   .rfl
  .rfl
 case h_5 =>
  split
  .exact(evUn_k ..).trans ((qzT _ _ _).trans (congrArg (obnd · κ) (evUn_k ..).symm))
  .rfl
 case h_6 =>
  split
  .exact(DzW ..).trans ((qzT _ _ _).trans (congrArg (obnd · κ) (DzW ..).symm))
  .rfl
 all_goals repeat' (first|rfl|(simp only[tzL,dzw,ezi,aza,Azm];done)|exact evLen_k .. | split)
end Go.Ev
namespace Go.Ev
open Go
open Go.IntKind (i64 u64 u8 i32 u32 i16 u16)
def Fz (g:Gh)(w:World)(b hi:Nat):Prop:=b<w.heap.size/\(g b = .con\/∃n,g b = .ar n/\hi<=n)
inductive RepD (P:Program) (tb:Tab) (g:Gh) (w:World):CV tb.T->Value->Prop where
 | int (k:IntKind) (n:Int) (h:inR k n):RepD P tb g w (.int k n) (.int k n)
 | bool (b:Bool):RepD P tb g w (.bool b) (.bool b)
 | str (s:List UInt8) (h:s.length<=bz6):RepD P tb g w (.str s) (.string ⟨s.toArray⟩)
 | nil:RepD P tb g w .nil (.slice none 0 0)
 | slnil (e:Nat):RepD P tb g w (.sl e []) (.slice none 0 0)
 | nli:RepD P tb g w .nli .nilIface
 | sle (e:Nat) (x:Addr) (cap:Nat) (h:cap<=bz6):RepD P tb g w (.sl e []) (.slice (some x) 0 cap)
 | sl (e:Nat) (xs:List (tb.T e)) (b off cap:Nat) (val:Nat->Nat->Value) (h1:xs.length<=cap) (h2:cap<=bz6)
  (h3:∀(i:Nat) x,xs[i]?=some x->(tb.enc e x).length=P.cellsOf e)
  (h4:0<xs.length*P.cellsOf e->Fz g w b (off+xs.length*P.cellsOf e))
  (h5:∀(i:Nat) x (j:Nat) c,xs[i]?=some x->(tb.enc e x)[j]?=some c->w.cell? ⟨b,off+i*P.cellsOf e+j,none⟩=some (val i j))
  (h6:∀(i:Nat) x (j:Nat) c,xs[i]?=some x->(tb.enc e x)[j]?=some c->RepD P tb g w c (val i j)) :
  RepD P tb g w (.sl e xs) (.slice (some ⟨b,off,none⟩) xs.length cap)
 | itf (f e:Nat) (xs:List (tb.T e)) (b:Nat) (u:Value) (h1:Fz g w b 1) (h2:w.cell? ⟨b,0,none⟩=some u) (h3:RepD P tb g w (.sl e xs) u):RepD P tb g w (.itf f none e xs) (.func (.func f) #[] #[.pointer (some ⟨b,0,none⟩)])
 | itf2 (f:Nat) (k:Int) (hk:inR .i64 k) (e:Nat) (xs:List (tb.T e)) (b b2:Nat) (u:Value) (h1:Fz g w b 1) (h2:w.cell? ⟨b,0,none⟩=some u) (h3:RepD P tb g w (.sl e xs) u) (h4:Fz g w b2 1) (h5:w.cell? ⟨b2,0,none⟩=some (.int .i64 k)) :
  RepD P tb g w (.itf f (some k) e xs) (.func (.func f) #[] #[.pointer (some ⟨b,0,none⟩),.pointer (some ⟨b2,0,none⟩)])
variable {P:Program} {tb:Tab}
structure Keeps (g:Gh) (w:World) (g':Gh) (w':World):Prop where
 fz:∀b hi,Fz g w b hi->Fz g' w' b hi/\∀i,i<hi->w'.cell? ⟨b,i,none⟩=w.cell? ⟨b,i,none⟩
 shp:Shp w w'
theorem Shp.refl (w:World):Shp w w:=fun _ us _ fz h=>⟨us,fz,h,rfl⟩
theorem Shp.trans {w w' w'':World}(h:Shp w w')(k:Shp w' w''):Shp w w'':=fun b us T fz e =>
 let ⟨us',fz',e',l⟩:=h b us T fz e
 let ⟨us'',fz'',e'',l'⟩:=k b us' T fz' e'
 ⟨us'',fz'',e'',l'.trans l⟩
theorem Shp.old {w w':World}(h:∀b,b<w.heap.size->w'.heap[b]?=w.heap[b]?):Shp w w':=fun b us _ fz e =>
 ⟨us,fz,(h b (Array.getElem?_eq_some_iff.1 e).1).trans e,rfl⟩
theorem Shp.one {w w':World}{k:Nat}(h:∀b,b<w.heap.size->b≠k->w'.heap[b]?=w.heap[b]?)(hk:∀us T fz,w.heap[k]?=some (.cells us T fz)->∃us' fz',w'.heap[k]?=some (.cells us' T fz')/\us'.size=us.size):Shp w w':=fun b us T fz e=>by
 by_cases hb:b=k
 .subst hb;exact hk us T fz e
 .exact⟨us,fz,(h b (Array.getElem?_eq_some_iff.1 e).1 hb).trans e,rfl⟩
theorem Keeps.refl (g:Gh)(w:World):Keeps g w g w:=⟨fun _ _ h=>⟨h,fun _ _=>rfl⟩,Shp.refl w⟩
theorem Keeps.trans {g g' g'':Gh}{w w' w'':World}(h:Keeps g w g' w')(k:Keeps g' w' g'' w''):Keeps g w g'' w'':=⟨fun b hi f =>
 let ⟨f',e⟩:=h.fz b hi f
 let ⟨f'',e'⟩:=k.fz b hi f'
 ⟨f'',fun i hi=>(e' i hi).trans (e i hi)⟩,h.shp.trans k.shp⟩
theorem RepD.mono {g g':Gh}{w w':World}(hk:Keeps g w g' w'){c:CV tb.T}{v:Value}(h:RepD P tb g w c v):RepD P tb g' w' c v:=by
 induction h with
 | int k n h=>exact .int k n h
 | bool b=>exact .bool b
 | str s h=>exact .str s h
 | nil=>exact .nil
 | slnil e=>exact .slnil e
 | nli=>exact .nli
 | sle e x cap h=>exact .sle e x cap h
 | itf f e xs b u h1 h2 h3 ih=>exact .itf f e xs b u (hk.fz _ _ h1).1 (((hk.fz _ _ h1).2 0 (by omega)).trans h2) ih
 | itf2 f k hr e xs b b2 u h1 h2 h3 h4 h5 ih=>exact .itf2 f k hr e xs b b2 u (hk.fz _ _ h1).1 (((hk.fz _ _ h1).2 0 (by omega)).trans h2) ih (hk.fz _ _ h4).1 (((hk.fz _ _ h4).2 0 (by omega)).trans h5)
 | sl e xs b off cap val h1 h2 h3 h4 h5 h6 ih =>
  refine .sl e xs b off cap val h1 h2 h3 (fun h0=>(hk.fz _ _ (h4 h0)).1) (fun i x j c hx hc=>?_) ih;have hi:i<xs.length:=(List.getElem?_eq_some_iff.1 hx).1;have hj:j<P.cellsOf e:=by rw[<-h3 i x hx];exact(List.getElem?_eq_some_iff.1 hc).1
  have hlt:i*P.cellsOf e+j<xs.length*P.cellsOf e:=by
   have:(i+1)*P.cellsOf e<=xs.length*P.cellsOf e:=Nat.mul_le_mul_right _ hi;rw[Nat.add_mul]at this;omega
  rw[(hk.fz _ _ (h4 (by omega))).2 _ (by omega)];exact h5 i x j c hx hc
theorem czK {w w':World}{b i:Nat}(h:w'.heap[b]?=w.heap[b]?):w'.cell? ⟨b,i,none⟩=w.cell? ⟨b,i,none⟩:=by
 unfold World.cell?;simp only;rw[h]
theorem Ext.refl (g:Gh)(w:World)(D:Nat->Prop):Ext g w g w D :=
 ⟨rfl,rfl,rfl,Nat.le_refl _,fun _ _ _=>⟨rfl,rfl⟩,fun _ _ h=>⟨rfl,h⟩,fun _ n _ h=>⟨n,Nat.le_refl _,h,fun _ _=>rfl⟩,Shp.refl w⟩
theorem Ext.keeps {g g':Gh}{w w':World}{D:Nat->Prop}(h:Ext g w g' w' D):Keeps g w g' w':=by
 refine⟨?_,h.shp⟩;rintro b hi ⟨hb,hg⟩;rcases hg with hg|⟨n,hg,hn⟩
 .obtain⟨e,hg'⟩:=h.con b hb hg;exact⟨⟨Nat.lt_of_lt_of_le hb h.size,.inl hg'⟩,fun i _=>czK e⟩
 .obtain⟨n',hn',hg',hc⟩:=h.ar b n hb hg;exact⟨⟨Nat.lt_of_lt_of_le hb h.size,.inr ⟨n',hg',by omega⟩⟩,fun i hi=>hc i (by omega)⟩
theorem Ext.trans {g g' g'':Gh}{w w' w'':World}{D D' D'':Nat->Prop}(h:Ext g w g' w' D)(k:Ext g' w' g'' w'' D')
 (hD:∀b,b<w.heap.size->D b->D'' b) (hD':∀b,b<w.heap.size->D' b->D'' b):Ext g w g'' w'' D'' where
 os:=k.os.trans h.os
 tape:=k.tape.trans h.tape
 output:=k.output.trans h.output
 size:=Nat.le_trans h.size k.size
 keep b hb hn :=
  let h1:=h.keep b hb (fun d=>hn (hD b hb d))
  let k1:=k.keep b (Nat.lt_of_lt_of_le hb h.size) (fun d=>hn (hD' b hb d))
  ⟨k1.1.trans h1.1,k1.2.trans h1.2⟩
 con b hb hg :=
  let h1:=h.con b hb hg
  let k1:=k.con b (Nat.lt_of_lt_of_le hb h.size) h1.2
  ⟨k1.1.trans h1.1,k1.2⟩
 ar b n hb hg:=by
  obtain⟨n1,l1,g1,c1⟩:=h.ar b n hb hg;obtain⟨n2,l2,g2,c2⟩:=k.ar b n1 (Nat.lt_of_lt_of_le hb h.size) g1;exact⟨n2,Nat.le_trans l1 l2,g2,fun i hi=>(c2 i (by omega)).trans (c1 i hi)⟩
 shp:=h.shp.trans k.shp
theorem Ext.mono {g g':Gh}{w w':World}{D D':Nat->Prop}(h:Ext g w g' w' D)(hD:∀b,b<w.heap.size->D b->D' b):Ext g w g' w' D' :=
 h.trans (Ext.refl _ _ D') hD (fun _ _ h=>h)
def Bzm (P:Program)(g:Gh)(w:World)(tb?:Option Nat)(e len:Nat)(v:Value):Prop:=(v = .slice none 0 0/\tb?=none/\len=0)\/∃b off cap cells el fz,tb?=some b/\v = .slice (some ⟨b,off,none⟩) len cap/\g b = .ar (off+len*P.cellsOf e)/\w.heap[b]?=some (.cells cells el fz)/\off+cap*P.cellsOf e<=cells.size/\len<=cap/\(∀i,i<cells.size->¬(fz.1<=i/\i<fz.2))/\off=0/\el=e
def Value.one:Value->Bool
 | .agg _ | .tuple _=>false
 | _=>true
def fzh (P:Program)(w:World)(b?:Option Nat)(e n:Nat)(v:Value):Prop:=(b?=none/\n=0/\v = .slice none 0 0)\/∃b cap us fz,b?=some b/\v = .slice (some ⟨b,0,none⟩) n cap/\n<=cap/\cap<=bz6/\w.heap[b]?=some (.cells us e fz)/\cap*P.cellsOf e<=us.size
def fzB (P:Program)(tb:Tab)(g:Gh)(w:World)(b?:Option Nat)(e:Nat)(xs:List (tb.T e)):Prop:=(b?=none/\xs=[])\/∃b us fz,b?=some b/\g b = .ar 0/\w.heap[b]?=some (.cells us e fz)/\(∀j,j<us.size->¬(fz.1<=j/\j<fz.2))/\0<P.cellsOf e/\xs.length*P.cellsOf e<=us.size/\(∀x∈xs,(tb.enc e x).length=P.cellsOf e)/\∀(i:Nat) x (j:Nat) c,xs[i]?=some x->(tb.enc e x)[j]?=some c->∃u,us[i*P.cellsOf e+j]?=some u/\RepD P tb g w c u
theorem fzh.mono {w w':World}(hk:Shp w w'){b?:Option Nat}{e n:Nat}{v:Value}(h:fzh P w b? e n v):fzh P w' b? e n v:=by
 rcases h with h|⟨b,cap,us,fz,h1,h2,h3,h4,h5,h6⟩
 .exact .inl h
 .obtain⟨us',fz',k1,k2⟩:=hk _ _ _ _ h5;exact .inr ⟨b,cap,us',fz',h1,h2,h3,h4,k1,by rw[k2];exact h6⟩
theorem fzB.mono {g g':Gh}{w w':World}{e:Nat}{xs:List (tb.T e)}{b?:Option Nat}(hk:Keeps g w g' w')(hb:∀b,b?=some b->g' b=g b/\w'.heap[b]?=w.heap[b]?)(h:fzB P tb g w b? e xs):fzB P tb g' w' b? e xs:=by
 rcases h with h|⟨b,us,fz,h1,h2,h3,h4,h5,h6,h7,h8⟩
 .exact .inl h
 .obtain⟨k1,k2⟩:=hb b h1;refine .inr ⟨b,us,fz,h1,k1.trans h2,k2.trans h3,h4,h5,h6,h7,fun i x j c hx hc=>?_⟩;obtain⟨u,hu,hr⟩:=h8 i x j c hx hc;exact⟨u,hu,hr.mono hk⟩
theorem fzB.at {g:Gh}{w:World}{e:Nat}{xs:List (tb.T e)}{b:Nat}(h:fzB P tb g w (some b) e xs):g b = .ar 0/\b<w.heap.size:=by
 rcases h with⟨h,_⟩|⟨b',us,fz,h1,h2,h3,_⟩
 .cases h
 .injection h1 with h1;subst h1;exact⟨h2,(Array.getElem?_eq_some_iff.1 h3).1⟩
def czf (P:Program)(tb:Tab)(g:Gh)(w:World)(e:Nat)(x:tb.T e)(v:Value):Prop:=if bzw P e then ∃us:List Value,v = .agg us.toArray/\All2 (RepD P tb g w) (tb.enc e x) us else ∃c,tb.enc e x=[c]/\RepD P tb g w c v
theorem czf.mono {g g':Gh}{w w':World}{e:Nat}{x:tb.T e}{v:Value}(hk:Keeps g w g' w')(h:czf P tb g w e x v):czf P tb g' w' e x v:=by
 unfold czf at *;split
 .rename_i hb;rw[if_pos hb]at h;obtain⟨us,h1,h2⟩:=h;refine⟨us,h1,?_⟩;clear h1;revert h2;generalize tb.enc e x=cs;intro h2;induction cs generalizing us with
  | nil=>cases us with
   | nil=>trivial
   | cons _ _=>exact h2.elim
  | cons c cs ih =>
   cases us with
   | nil=>exact h2.elim
   | cons u us=>exact⟨h2.1.mono hk,ih us h2.2⟩
 .rename_i hb;rw[if_neg hb]at h;obtain⟨c,h1,h2⟩:=h;exact⟨c,h1,h2.mono hk⟩
def jz5 (P:Program)(tb:Tab)(g:Gh)(w:World)(k v:Nat):List (tb.T k×tb.T v)->List MapEntry->Prop
 | [],[]=>True
 | p::l,e::es=>czf P tb g w k p.1 e.key/\czf P tb g w v p.2 e.val/\jz5 P tb g w k v l es
 | _,_=>False
theorem jz5.mono {g g':Gh}{w w':World}{k v:Nat}(hk:Keeps g w g' w'):∀{l:List (tb.T k×tb.T v)} {es:List MapEntry},jz5 P tb g w k v l es->jz5 P tb g' w' k v l es
 | [],[],_=>trivial
 | _::_,_::_,⟨h1,h2,h3⟩=>⟨h1.mono hk,h2.mono hk,h3.mono hk⟩
 | [],_::_,h=>h.elim
 | _::_,[],h=>h.elim
def ObAt (P:Program)(tb:Tab)(g:Gh)(w:World)(k:Nat):Ob tb.T->Prop
 | .it l p=>w.heap[k]?=some (.stringIter ⟨l.toArray⟩ p)/\l.length<=bz6/\p<=l.length
 | .mp kt vt l=>∃es clock,w.heap[k]?=some (.map es clock)/\jz5 P tb g w kt vt l es.toList
theorem ObAt.mono {g g':Gh}{w w':World}{k:Nat}{o:Ob tb.T}(hk:Keeps g w g' w')(hw:w'.heap[k]?=w.heap[k]?)(h:ObAt P tb g w k o):ObAt P tb g' w' k o:=by
 cases o with
 | it l p=>exact⟨hw.trans h.1,h.2⟩
 | mp kt vt l=>obtain⟨es,clock,h1,h2⟩:=h;exact⟨es,clock,hw.trans h1,h2.mono hk⟩
def RepC (P:Program)(tb:Tab)(g:Gh)(w:World)(μ:Nat->Nat)(τ:Nat->Option Nat)(tok:Nat->Bool):AC tb.T->Value->Prop
 | .d c,v=>RepD P tb g w c v
 | .own e xs t,v=>RepD P tb g w (.sl e xs) v/\(tok t=true->Bzm P g w (τ t) e xs.length v)
 | .ptr i o,v=>v = .pointer (some ⟨μ i,o,none⟩)
 | .cptr cs,v=>∃b off,v = .pointer (some ⟨b,off,none⟩)/\(0<cs.length->Fz g w b (off+cs.length)) /\
  ∀(j:Nat) c,cs[j]?=some c->∃u,w.cell? ⟨b,off+j,none⟩=some u/\RepD P tb g w c u
 | .fn f caps,v=>v = .func (.func f) #[] (caps.map fun p=>Value.pointer (some ⟨μ p.1,p.2,none⟩)).toArray
 | .any,v=>Value.one v=true
 | .ubool m e,v=>∃b,v = .bool b/\(m=false->b=e)
 | .vsl e i,v=>fzh P w (τ i) e (μ i) v
 | .vw e i o n,v=>(n=0/\∃q,v = .slice q 0 0/\q.map Addr.block=τ i)\/∃b cap,τ i=some b/\v = .slice (some ⟨b,o*P.cellsOf e,none⟩) n cap/\n<=cap/\cap<=bz6
 | .elp i e k o,v=>∃b,τ i=some b/\v = .pointer (some ⟨b,k*P.cellsOf e+o,none⟩)
 | .np,v=>v = .pointer none
 | .slf t n i,v=>(v = .pointer none\/v = .pointer (some ⟨μ i,0,none⟩))/\∃us fz,w.heap[μ i]?=some (.cells us t fz)/\us.size=n
 | .map i,v=>v = .map (some (μ i))
 | .yl i,v=>v = .func (.yield (μ i)) #[] #[]
def RepT (P:Program)(tb:Tab)(g:Gh)(w:World)(μ:Nat->Nat)(τ:Nat->Option Nat)(tok:Nat->Bool)(p:Bool×List (AC tb.T))(v:Value):Prop:=if p.1 then ∃us,v = .agg us.toArray/\All2 (RepC P tb g w μ τ tok) p.2 us else ∃a,p.2=[a]/\RepC P tb g w μ τ tok a v
def RepV (P:Program)(tb:Tab)(g:Gh)(w:World)(μ:Nat->Nat)(τ:Nat->Option Nat)(tok:Nat->Bool):SV tb.T->Value->Prop
 | .c a,v=>RepC P tb g w μ τ tok a v
 | .agg Nz0,v=>∃us,v = .agg us.toArray/\All2 (RepC P tb g w μ τ tok) Nz0 us
 | .tup ts,v=>∃us,v = .tuple us.toArray/\All2 (RepT P tb g w μ τ tok) ts us
def AC.ids {T:Nat->Type}:AC T->List Nat
 | .d _ | .cptr _=>[]
 | .own _ _ t=>[t]
 | .ptr i _=>[i]
 | .fn _ caps=>caps.map (·.1)
 | .any=>[]
 | .ubool _ _=>[]
 | .vsl _ i=>[i]
 | .vw _ i _ _=>[i]
 | .elp i _ _ _=>[i]
 | .np=>[]
 | .slf _ _ i=>[i]
 | .map i=>[i]
 | .yl i=>[i]
def SV.ids {T:Nat->Type}:SV T->List Nat
 | .c a=>a.ids
 | .agg Nz0=>Nz0.flatMap AC.ids
 | .tup ts=>ts.flatMap fun p=>p.2.flatMap AC.ids
theorem All2.mono {α β:Type}{R S:α->β->Prop}:∀{Nz0:List α} {bs:List β},(∀a∈Nz0,∀b,R a b->S a b)->All2 R Nz0 bs->All2 S Nz0 bs
 | [],[],_,_=>trivial
 | _::_,_::_,h,⟨h1,h2⟩=>⟨h _ (List.mem_cons_self) _ h1,All2.mono (fun a ha b hb=>h a (List.mem_cons_of_mem _ ha) b hb) h2⟩
 | [],_::_,_,h=>h.elim
 | _::_,[],_,h=>h.elim
theorem All2.length {α β:Type}{R:α->β->Prop}:∀{Nz0:List α} {bs:List β},All2 R Nz0 bs->Nz0.length=bs.length
 | [],[],_=>rfl
 | _::_,_::_,⟨_,h⟩=>by simp[All2.length h]
 | [],_::_,h=>h.elim
 | _::_,[],h=>h.elim
theorem All2.get {α β:Type}{R:α->β->Prop}:∀{Nz0:List α} {bs:List β},All2 R Nz0 bs->∀{i:Nat} {a:α},Nz0[i]?=some a->∃b,bs[i]?=some b/\R a b
 | [],[],_,i,a,h=>by simp at h
 | x::Nz0,y::bs,⟨h1,h2⟩,0,a,h=>by simp at h;subst h;exact⟨y,rfl,h1⟩
 | x::Nz0,y::bs,⟨h1,h2⟩,i+1,a,h=>by simp only[List.getElem?_cons_succ]at h ⊢;exact All2.get h2 h
 | [],_::_,h,_,_,_=>h.elim
 | _::_,[],h,_,_,_=>h.elim
theorem All2.append {α β:Type}{R:α->β->Prop}:∀{Nz0:List α} {bs:List β} {cs:List α} {ds:List β},All2 R Nz0 bs->All2 R cs ds->All2 R (Nz0++cs) (bs++ds)
 | [],[],_,_,_,h=>h
 | _::_,_::_,_,_,⟨h1,h2⟩,h=>⟨h1,All2.append h2 h⟩
 | [],_::_,_,_,h,_=>h.elim
 | _::_,[],_,_,h,_=>h.elim
theorem All2.take {α β:Type}{R:α->β->Prop}:∀(n:Nat) {Nz0:List α} {bs:List β},All2 R Nz0 bs->All2 R (Nz0.take n) (bs.take n)
 | 0,_,_,_=>by simp[All2]
 | n+1,[],[],_=>by simp[All2]
 | n+1,_::_,_::_,⟨h1,h2⟩=>⟨h1,All2.take n h2⟩
 | _+1,[],_::_,h=>h.elim
 | _+1,_::_,[],h=>h.elim
theorem All2.drop {α β:Type}{R:α->β->Prop}:∀(n:Nat) {Nz0:List α} {bs:List β},All2 R Nz0 bs->All2 R (Nz0.drop n) (bs.drop n)
 | 0,_,_,h=>h
 | n+1,[],[],_=>by simp[All2]
 | n+1,_::_,_::_,⟨_,h2⟩=>All2.drop n h2
 | _+1,[],_::_,h=>h.elim
 | _+1,_::_,[],h=>h.elim
theorem All2.of_get {α β:Type}{R:α->β->Prop}:∀{Nz0:List α} {bs:List β},Nz0.length=bs.length->(∀(i:Nat) a b,Nz0[i]?=some a->bs[i]?=some b->R a b)->All2 R Nz0 bs
 | [],[],_,_=>trivial
 | a::Nz0,b::bs,hl,h=>⟨h 0 a b rfl rfl,All2.of_get (by simpa using hl) fun i x y hx hy=>h (i+1) x y (by simpa using hx) (by simpa using hy)⟩
 | [],_::_,h,_=>by simp at h
 | _::_,[],h,_=>by simp at h
theorem All2.map_left {α β γ:Type}{R:α->β->Prop}(f:γ->α):∀{cs:List γ} {bs:List β},All2 (fun c b=>R (f c) b) cs bs->All2 R (cs.map f) bs
 | [],[],_=>trivial
 | _::_,_::_,⟨h1,h2⟩=>⟨h1,All2.map_left f h2⟩
 | [],_::_,h=>h.elim
 | _::_,[],h=>h.elim
structure Carry (g:Gh) (w:World) (μ:Nat->Nat) (τ:Nat->Option Nat) (tok:Nat->Bool) (g':Gh) (w':World) (μ':Nat->Nat) (τ':Nat->Option Nat) (tok':Nat->Bool) (ids:Nat->Prop):Prop where
 keeps:Keeps g w g' w'
 same:∀i,ids i->μ' i=μ i/\τ' i=τ i
 tok:∀i,ids i->tok' i=true->tok i=true
 own:∀i b,ids i->tok' i=true->τ i=some b->g' b=g b/\w'.heap[b]?=w.heap[b]?
section
variable {g g':Gh} {w w':World} {μ μ':Nat->Nat} {τ τ':Nat->Option Nat} {tok tok':Nat->Bool} {I:Nat->Prop}
theorem RepC.carry (h:Carry g w μ τ tok g' w' μ' τ' tok' I){a:AC tb.T}{v:Value}(hi:∀i∈a.ids,I i)(hr:RepC P tb g w μ τ tok a v):RepC P tb g' w' μ' τ' tok' a v:=by
 cases a with
 | d c=>exact RepD.mono h.keeps (c:=c) hr
 | own e xs t =>
  obtain⟨h1,h2⟩:=hr;have ht:I t:=hi t (by simp[AC.ids]);refine⟨h1.mono h.keeps,fun htok=>?_⟩;rw[(h.same t ht).2];rcases h2 (h.tok t ht htok)with⟨e1,e2,e3⟩|⟨b,off,cap,cells,el,fz,e1,e2,e3,e4,e5⟩
  .exact .inl ⟨e1,e2,e3⟩
  .obtain⟨hg,hw⟩:=h.own t b ht htok e1;exact .inr ⟨b,off,cap,cells,el,fz,e1,e2,hg.trans e3,hw.trans e4,e5⟩
 | ptr i o =>
  simp only[RepC]at hr ⊢;rw[(h.same i (hi i (by simp[AC.ids]))).1];exact hr
 | cptr cs =>
  obtain⟨b,off,e1,e2,e3⟩:=hr;refine⟨b,off,e1,fun h0=>(h.keeps.fz _ _ (e2 h0)).1,fun j c hc=>?_⟩;obtain⟨u,hu,hd⟩:=e3 j c hc;have hj:j<cs.length:=(List.getElem?_eq_some_iff.1 hc).1;exact⟨u,by rw[(h.keeps.fz _ _ (e2 (by omega))).2 _ (by omega)];exact hu,hd.mono h.keeps⟩
 | fn f caps =>
  simp only[RepC]at hr ⊢;rw[hr];congr 2;refine List.map_congr_left fun p hp=>?_
  rw[(h.same p.1 (hi p.1 (by simp only[AC.ids,List.mem_map];exact⟨p,hp,rfl⟩))).1]
 | any=>exact hr
 | ubool m e=>exact hr
 | vsl e i =>
  obtain⟨k1,k2⟩:=h.same i (hi i (by simp[AC.ids]));simp only[RepC]at hr ⊢;rw[k1,k2];exact hr.mono h.keeps.shp
 | vw e i o n =>
  simp only[RepC]at hr ⊢;rw[(h.same i (hi i (by simp[AC.ids]))).2];exact hr
 | elp i e k o =>
  simp only[RepC]at hr ⊢;rw[(h.same i (hi i (by simp[AC.ids]))).2];exact hr
 | np=>exact hr
 | map i =>
  simp only[RepC]at hr ⊢;rw[(h.same i (hi i (by simp[AC.ids]))).1];exact hr
 | yl i =>
  simp only[RepC]at hr ⊢;rw[(h.same i (hi i (by simp[AC.ids]))).1];exact hr
 | slf t n i =>
  obtain⟨h1,us,fz,h2,h3⟩:=hr;have e:=(h.same i (hi i (by simp[AC.ids]))).1;obtain⟨us',fz',h4,h5⟩:=h.keeps.shp _ _ _ _ h2;refine⟨?_,us',fz',by rw[e];exact h4,h5.trans h3⟩;rw[e];exact h1
theorem RepT.carry (h:Carry g w μ τ tok g' w' μ' τ' tok' I){p:Bool×List (AC tb.T)}{v:Value}(hi:∀a∈p.2,∀i∈a.ids,I i)(hr:RepT P tb g w μ τ tok p v):RepT P tb g' w' μ' τ' tok' p v:=by
 obtain⟨b,Nz0⟩:=p;unfold RepT at *;cases b
 .simp only[Bool.false_eq_true,if_false]at *;obtain⟨a,rfl,ha⟩:=hr;exact⟨a,rfl,ha.carry h (fun i hi'=>hi a (by simp) i hi')⟩
 .simp only[if_true]at *;obtain⟨us,rfl,ha⟩:=hr;exact⟨us,rfl,ha.mono fun a hm v hv=>RepC.carry h (hi a hm) hv⟩
theorem RepV.carry (h:Carry g w μ τ tok g' w' μ' τ' tok' I){x:SV tb.T}{v:Value}(hi:∀i∈x.ids,I i)(hr:RepV P tb g w μ τ tok x v):RepV P tb g' w' μ' τ' tok' x v:=by
 cases x with
 | c a=>exact RepC.carry h hi hr
 | agg Nz0 =>
  obtain⟨us,rfl,ha⟩:=hr;exact⟨us,rfl,ha.mono fun a hm v hv=>RepC.carry h (fun i hi'=>hi i (by simp only[SV.ids,List.mem_flatMap];exact⟨a,hm,hi'⟩)) hv⟩
 | tup ts =>
  obtain⟨us,rfl,ha⟩:=hr;exact⟨us,rfl,ha.mono fun p hm v hv=>RepT.carry h (fun a hma i hi'=>hi i (List.mem_flatMap.2 ⟨p,hm,List.mem_flatMap.2 ⟨a,hma,hi'⟩⟩)) hv⟩
end
def izg (g:Gh)(w0 w:World)(ds ds0:List Deferred):Prop:=∃Ds:List Nat,ds=Ds.map (fun D=>⟨.collected D,#[]⟩)++ds0/\Ds.Nodup/\∀D∈Ds,w0.heap.size<=D/\g D = .con/\w.heap[D]?=some (.deferred (some []))
theorem izg.refl (g:Gh)(w0 w:World)(ds:List Deferred):izg g w0 w ds ds:=⟨[],rfl,.nil,by simp⟩
theorem izg.mono {g g':Gh}{w0 w w':World}{D:Nat->Prop}{ds ds0:List Deferred}(he:Ext g w g' w' D)(h:izg g w0 w ds ds0):izg g' w0 w' ds ds0:=by
 obtain⟨Ds,h1,h2,h3⟩:=h;refine⟨Ds,h1,h2,fun d hd=>?_⟩;obtain⟨k1,k2,k3⟩:=h3 d hd;obtain⟨e1,e2⟩:=he.con d (Array.getElem?_eq_some_iff.1 k3).1 k2;exact⟨k1,e2,e1.trans k3⟩
theorem izg.trans {g g':Gh}{w0 w w':World}{D:Nat->Prop}{ds ds1 ds0:List Deferred}(h:izg g w0 w ds1 ds0)(he:Ext g w g' w' D)(hs:w0.heap.size<=w.heap.size)(k:izg g' w w' ds ds1):izg g' w0 w' ds ds0:=by
 have hlt:∀Ds:List Nat,(∀d∈Ds,w0.heap.size<=d/\g d = .con/\w.heap[d]?=some (.deferred (some [])))->∀d∈Ds,d<w.heap.size:=fun _ h d hd=>(Array.getElem?_eq_some_iff.1 (h d hd).2.2).1
 obtain⟨Ds,h1,h2,h3⟩:=h;obtain⟨Es,k1,k2,k3⟩:=k;refine⟨Es++Ds,by rw[k1,h1];simp,List.nodup_append.2 ⟨k2,h2,fun a ha b hb e=>?_⟩,fun d hd=>?_⟩
 .have:=hlt Ds h3 b hb;have:=(k3 a ha).1;omega
 .rcases List.mem_append.1 hd with hd|hd
  .obtain⟨q1,q2,q3⟩:=k3 d hd;exact⟨by omega,q2,q3⟩
  .obtain⟨q1,q2,q3⟩:=h3 d hd;obtain⟨e1,e2⟩:=he.con d (Array.getElem?_eq_some_iff.1 q3).1 q2;exact⟨q1,e2,e1.trans q3⟩
structure SimAt (P:Program) (tb:Tab) (N:Nat) (W:Nat->Prop) (a0:Act) (g0:Gh) (w0:World) (D0:Nat->Prop) (s:St tb.T) (g:Gh) (μ:Nat->Nat) (τ:Nat->Option Nat) (a:Act) (w:World):Prop where
 ext:Ext g0 w0 g w D0
 size:a.tmps.size=N
 defers:izg g w0 w a.defers a0.defers
 frame:∀t,¬W t->a.tmps[t]?=a0.tmps[t]?
 env:∀t v,s.env t=some v->∃u,a.tmps[t]?=some u/\RepV P tb g w μ τ s.tok v u
 blk:∀i cs,s.blk i=some cs->∃us el fz,w.heap[μ i]?=some (.cells us el fz)/\(∀j,j<us.size->¬(fz.1<=j/\j<fz.2)) /\
  All2 (RepC P tb g w μ τ s.tok) cs us.toList
 itr:∀i o,s.itr i=some o->ObAt P tb g w (μ i) o
 live:∀i,(s.blk i≠none\/s.itr i≠none)->s.used i=true/\g (μ i) = .var/\μ i<w.heap.size/\(s.ro i=true\/w0.heap.size<=μ i\/D0 (μ i))
 inj:∀i j,(s.blk i≠none\/s.itr i≠none)->(s.blk j≠none\/s.itr j≠none)->μ i=μ j->i=j
 tokv:∀t,s.tok t=true->s.used t=true/\∀b,τ t=some b->(∃n,g b = .ar n)/\b<w.heap.size/\(w0.heap.size<=b\/D0 b)
 tinj:∀t u b,s.tok t=true->s.tok u=true->τ t=some b->τ u=some b->t=u
 excl:∀i,s.itr i≠none->s.blk i=none/\s.ro i=false
 rou:∀i,s.ro i=true->s.used i=true
 uenv:∀t v,s.env t=some v->∀i∈v.ids,s.used i=true
 ublk:∀i cs,s.blk i=some cs->∀a∈cs,∀j∈a.ids,s.used j=true
 arr:∀i o e xs,s.arr i=some (.mk o e xs)->fzB P tb g w (τ i) e xs/\s.used i=true/\(o=true->μ i=xs.length/\∀b,τ i=some b->w0.heap.size<=b\/D0 b) /\
  ∀t b,τ t=some b->τ i=some b->(s.tok t=true->False)/\(s.arr t≠none->t=i)
 inv0:tb.inv g0 w0
def Sim (P:Program)(tb:Tab)(N:Nat)(W:Nat->Prop)(a0:Act)(g0:Gh)(w0:World)(D0:Nat->Prop)(s:St tb.T)(a:Act)(w:World):Prop:=∃g μ τ,SimAt P tb N W a0 g0 w0 D0 s g μ τ a w
end Go.Ev
namespace Go.Ev
open Go
open Go.IntKind (i64 u64 u8 i32 u32 i16 u16)
theorem azh {α:Type}(f:Nat->α)(i:Nat)(v:α):upd f i v i=v:=by simp[upd]
theorem azo {α:Type}(f:Nat->α){i j:Nat}(v:α)(h:j≠i):upd f i v j=f j:=by
 have:Nat.beq j i=false:=by
  cases hb:Nat.beq j i with
  | false=>rfl
  | true=>exact absurd (Nat.eq_of_beq_eq_true hb) h
 simp[upd,this]
theorem azu {α:Type}(f:Nat->α)(i j:Nat)(v:α):upd f i v j=if j=i then v else f j:=by
 by_cases h:j=i
 .subst h;simp[azh]
 .simp[h,azo f v h]
def azn {T:Nat->Type}(s:St T)(i:Nat):Prop:=s.blk i≠none\/s.itr i≠none
variable {P:Program} {tb:Tab} {N:Nat} {W:Nat->Prop} {a0:Act} {g0:Gh} {w0:World} {D0:Nat->Prop}
variable {s s':St tb.T} {g g':Gh} {μ μ':Nat->Nat} {τ τ':Nat->Option Nat} {a:Act} {w w':World} {D:Nat->Prop}
theorem SimAt.move (h : SimAt P tb N W a0 g0 w0 D0 s g μ τ a w) (he : Ext g w g' w' D)
    (hD:∀b,b<w.heap.size->D b->w0.heap.size<=b\/D0 b)
    (henv:s'.env=s.env)
    (hus:∀i,s.used i=true->s'.used i=true)
    (hro:s'.ro=s.ro)
    (hsame:∀i,s.used i=true->μ' i=μ i/\τ' i=τ i)
    (htok:∀i,s.used i=true->s'.tok i=true->s.tok i=true/\∀b,τ i=some b->¬D b)
    (hblk:∀i cs,s'.blk i=some cs->(s.blk i=some cs/\¬D (μ i)) \/
      ((∃us el fz,w'.heap[μ' i]?=some (.cells us el fz)/\(∀j,j<us.size->¬(fz.1<=j/\j<fz.2))/\All2 (RepC P tb g' w' μ' τ' s'.tok) cs us.toList)/\∀a∈cs,∀j∈a.ids,s'.used j=true))
    (hitr:∀i o,s'.itr i=some o->(s.itr i=some o/\¬D (μ i))\/ObAt P tb g' w' (μ' i) o)
    (hlive:∀i,azn s' i->azn s i\/(s.used i=false/\s'.used i=true/\g' (μ' i) = .var/\w.heap.size<=μ' i/\μ' i<w'.heap.size))
    (hinj:∀i j,azn s' i->azn s' j->¬azn s i->¬azn s j->μ' i=μ' j->i=j)
    (hexcl:∀i,s'.itr i≠none->s'.blk i=none/\s'.ro i=false)
    (htokn:∀t,s'.tok t=true->s.used t=false->s'.used t=true/\∀b,τ' t=some b->(∃n,g' b = .ar n)/\b<w'.heap.size/\(w0.heap.size<=b\/D0 b))
    (htinj:∀t u b,s'.tok t=true->s'.tok u=true->s.used t=false->τ' t=some b->τ' u=some b->t=u)
    (hvar:∀i,azn s i->azn s' i->D (μ i)->g' (μ i) = .var)
    (harr:∀i o e xs,s'.arr i=some (.mk o e xs)->(s.arr i=some (.mk o e xs)/\(∀b,τ i=some b->¬D b)/\∀t b,(s'.tok t=true\/s'.arr t≠none)->s.used t=false->τ' t=some b->τ i≠some b) \/
      (fzB P tb g' w' (τ' i) e xs/\s'.used i=true/\(o=true->μ' i=xs.length/\∀b,τ' i=some b->w0.heap.size<=b\/D0 b)/\∀t b,τ' t=some b->τ' i=some b->(s'.tok t=true->False)/\(s'.arr t≠none->t=i))) :
    SimAt P tb N W a0 g0 w0 D0 s' g' μ' τ' a w':=by
  have carry:Carry g w μ τ s.tok g' w' μ' τ' s'.tok (fun i=>s.used i=true) :=
    { keeps := he.keeps, same := hsame, tok := fun i hi ht => (htok i hi ht).1
      own:=fun i b hi ht hb=>by
        obtain⟨h1,h2⟩:=htok i hi ht
        have h3:=((h.tokv i h1).2 b hb).2.1
        obtain⟨e1,e2⟩:=he.keep b h3 (h2 b hb)
        exact ⟨e2, e1⟩ }
  have hmu:∀i,azn s i->s.used i=true/\μ' i=μ i:=fun i hi=>⟨(h.live i hi).1,(hsame i (h.live i hi).1).1⟩
  refine⟨?_,h.size,h.defers.mono he,h.frame,?_,?_,?_,?_,?_,?_,?_,hexcl,fun i hi=>hus i (h.rou i (by rw[<-hro];exact hi)),?_,?_,?_,h.inv0⟩
  . exact h.ext.trans he (fun _ _ x => x) (fun b hb hd => by
      rcases hD b (Nat.lt_of_lt_of_le hb h.ext.size) hd with h1|h1
      . exact absurd hb (Nat.not_lt.2 h1)
      . exact h1)
  . intro t v hv
    rw[henv]at hv
    obtain⟨u,hu,hr⟩:=h.env t v hv
    exact⟨u,hu,RepV.carry carry (fun i hi=>h.uenv t v hv i hi) hr⟩
  . intro i cs hb
    rcases hblk i cs hb with⟨h1,h2⟩|⟨h1,_⟩
    . obtain⟨us,el,fz,e1,e2,e3⟩:=h.blk i cs h1
      have hl:=h.live i (.inl (by rw[h1];simp))
      refine⟨us,el,fz,?_,e2,e3.mono fun x hx v hv=>RepC.carry carry (fun j hj=>h.ublk i cs h1 x hx j hj) hv⟩
      rw[(hsame i hl.1).1,(he.keep _ hl.2.2.1 h2).1];exact e1
    . exact h1
  . intro i o hi
    rcases hitr i o hi with⟨h1,h2⟩|h1
    . have hl:=h.live i (.inr (by rw[h1];simp))
      rw[(hsame i hl.1).1]
      exact(h.itr i o h1).mono he.keeps (he.keep _ hl.2.2.1 h2).1
    . exact h1
  . intro i hi
    rcases hlive i hi with h1|⟨h1,h2,h3,h4,h5⟩
    . obtain⟨k1,k2,k3,k4⟩:=h.live i h1
      rw[(hsame i k1).1]
      refine⟨hus i k1,?_,Nat.lt_of_lt_of_le k3 he.size,by rw[hro];exact k4⟩
      by_cases hd:D (μ i)
      . exact hvar i h1 hi hd
      . exact(he.keep _ k3 hd).2.trans k2
    . exact⟨h2,h3,h5,.inr (.inl (Nat.le_trans h.ext.size h4))⟩
  . intro i j hi hj e
    rcases Classical.em (azn s i)with li|li<;>rcases Classical.em (azn s j)with lj|lj
    . rw[(hmu i li).2,(hmu j lj).2]at e
      exact h.inj i j li lj e
    . rcases hlive j hj with h1|⟨h1,h2,h3,h4,h5⟩
      . exact absurd h1 lj
      . rw[(hmu i li).2]at e
        have:=(h.live i li).2.2.1
        omega
    . rcases hlive i hi with h1|⟨h1,h2,h3,h4,h5⟩
      . exact absurd h1 li
      . rw[(hmu j lj).2]at e
        have:=(h.live j lj).2.2.1
        omega
    . exact hinj i j hi hj li lj e
  . intro t ht
    cases hu:s.used t with
    | false=>exact htokn t ht hu
    | true =>
      obtain⟨h1,h2⟩:=htok t hu ht
      refine⟨hus t hu,fun b hb=>?_⟩
      rw[(hsame t hu).2]at hb
      obtain⟨⟨n,hn⟩,h3,h4⟩:=(h.tokv t h1).2 b hb
      exact⟨⟨n,by rw[(he.keep b h3 (h2 b hb)).2];exact hn⟩,Nat.lt_of_lt_of_le h3 he.size,h4⟩
  . intro t u b ht hu e1 e2
    cases h1:s.used t with
    | false=>exact htinj t u b ht hu h1 e1 e2
    | true =>
      cases h2:s.used u with
      | false=>exact(htinj u t b hu ht h2 e2 e1).symm
      | true =>
        rw[(hsame t h1).2]at e1
        rw[(hsame u h2).2]at e2
        exact h.tinj t u b (htok t h1 ht).1 (htok u h2 hu).1 e1 e2
  . intro t v hv i hi
    rw[henv]at hv
    exact hus i (h.uenv t v hv i hi)
  . intro i cs hb x hx j hj
    rcases hblk i cs hb with⟨h1,h2⟩|⟨_,h1⟩
    . exact hus j (h.ublk i cs h1 x hx j hj)
    . exact h1 x hx j hj
  . intro i o e xs hi
    rcases harr i o e xs hi with⟨h1,h2,h3⟩|h1
    . obtain⟨k1,k2,k3,k4⟩:=h.arr i o e xs h1
      refine⟨?_,hus i k2,fun ho=>by rw[(hsame i k2).1,(hsame i k2).2];exact k3 ho,fun t b e1 e2=>?_⟩
      . rw[(hsame i k2).2]
        refine k1.mono he.keeps fun b hb=>?_
        rw[hb]at k1
        exact(he.keep b k1.at.2 (h2 b hb)).symm
      . have e2':=e2
        rw[(hsame i k2).2]at e2
        cases hu:s.used t with
        | true =>
          have e1':=e1
          rw[(hsame t hu).2]at e1
          refine⟨fun ht=>(k4 t b e1 e2).1 (htok t hu ht).1,fun ht=>?_⟩
          cases ha:s'.arr t with
          | none=>exact absurd ha ht
          | some z =>
            obtain⟨o3,e3,xs3⟩:=z
            rcases harr t o3 e3 xs3 ha with⟨c1,_⟩|⟨_,_,_,c1⟩
            . exact(k4 t b e1 e2).2 (by rw[c1];simp)
            . exact((c1 i b e2' e1').2 (by rw[hi];simp)).symm
        | false=>exact⟨fun ht=>h3 t b (.inl ht) hu e1 e2,fun ht=>absurd e2 (h3 t b (.inr ht) hu e1)⟩
    . exact h1
theorem SimAt.arrs (h:SimAt P tb N W a0 g0 w0 D0 s g μ τ a w)(he:s'.arr=s.arr)(hD:∀b,g b = .ar 0->¬D b)(hn:∀t,s'.tok t=true->s.used t=true)(i:Nat)(o:Bool)(e:Nat)(xs:List (tb.T e))(hi:s'.arr i=some (.mk o e xs)):
 s.arr i=some (.mk o e xs)/\(∀b,τ i=some b->¬D b)/\∀t b,(s'.tok t=true\/s'.arr t≠none)->s.used t=false->τ' t=some b->τ i≠some b:=by
 rw[he]at hi;refine⟨hi,fun b hb=>?_,fun t b ht hu=>by
  have:s.used t=true:=by
   rcases ht with ht|ht
   .exact hn t ht
   .rw[he]at ht;cases ha:s.arr t with
    | none=>exact absurd ha ht
    | some z=>obtain⟨o3,e3,xs3⟩:=z;exact(h.arr t o3 e3 xs3 ha).2.1
  rw[this]at hu;cases hu⟩
 have:=(h.arr i o e xs hi).1;rw[hb]at this;exact hD b this.at.1
theorem SimAt.world (h:SimAt P tb N W a0 g0 w0 D0 s g μ τ a w)(hh:w'.heap=w.heap)(ho:w'.os=w.os)(ht:w'.tape=w.tape)(hp:w'.output=w.output):
 SimAt P tb N W a0 g0 w0 D0 s g μ τ a w':=by
 have he:Ext g w g w' (fun _=>False) :=
  ⟨ho,ht,hp,by rw[hh];exact Nat.le_refl _,fun b _ _=>⟨by rw[hh],rfl⟩,fun b _ hg=>⟨by rw[hh],hg⟩,fun b n _ hg=>⟨n,Nat.le_refl _,hg,fun i _=>czK (by rw[hh])⟩,Shp.old fun b _=>by rw[hh]⟩
 refine h.move he (fun _ _ f=>f.elim) rfl (fun _ h=>h) rfl (fun _ _=>⟨rfl,rfl⟩) (fun _ _ h=>⟨h,fun _ _ f=>f⟩)
  (fun i cs hb=>.inl ⟨hb,fun f=>f⟩) (fun i o hb=>.inl ⟨hb,fun f=>f⟩) (fun i hi=>.inl hi) (fun i j hi hj li=>absurd hi li) h.excl ?_ ?_ (fun _ _ _ f=>f.elim) (fun i o e xs hi=>.inl (h.arrs rfl (fun _ _ f=>f) (fun t ht=>(h.tokv t ht).1) i o e xs hi))
 .intro t ht hu;have:=(h.tokv t ht).1;rw[this]at hu;cases hu
 .intro t u b ht _ hu;have:=(h.tokv t ht).1;rw[this]at hu;cases hu
theorem tzy (a:Act)(d t:Nat)(v:Value)(hd:d<a.tmps.size):(a.put (some d) v).tmps[t]?=if t=d then some v else a.tmps[t]?:=by
 simp only[Act.put];by_cases h:t=d
 .subst h;simp[hd]
 .rw[Array.getElem?_setIfInBounds_ne (by omega)];simp[h]
theorem SimAt.put (h:SimAt P tb N W a0 g0 w0 D0 s g μ τ a w){d:Nat}(hd:d<N)(hW:W d){v:SV tb.T}{u:Value}
 (hr:RepV P tb g w μ τ s.tok v u) (hi:∀i∈v.ids,s.used i=true) :
 SimAt P tb N W a0 g0 w0 D0 (s.put d v) g μ τ (a.put (some d) u) w:=by
 have hd':d<a.tmps.size:=by rw[h.size];exact hd
 refine⟨h.ext,?_,h.defers,?_,?_,h.blk,h.itr,h.live,h.inj,h.tokv,h.tinj,h.excl,h.rou,?_,h.ublk,h.arr,h.inv0⟩
 .simp[Act.put,h.size]
 .intro t ht;rw[tzy _ _ _ _ hd',if_neg (fun(e:t=d)=>ht (by rw[e];exact hW))];exact h.frame t ht
 .intro t v' hv;rw[tzy _ _ _ _ hd'];simp only[St.put,azu]at hv;by_cases e:t=d
  .subst e;simp at hv;subst hv;exact⟨u,by simp,hr⟩
  .simp only[e,if_false]at hv ⊢;exact h.env t v' hv
 .intro t v' hv;simp only[St.put,azu]at hv ⊢;by_cases e:t=d
  .subst e;simp at hv;subst hv;exact hi
  .simp only[e,if_false]at hv;exact h.uenv t v' hv
theorem SimAt.putO (h:SimAt P tb N W a0 g0 w0 D0 s g μ τ a w){d:Option Nat}(hd:∀t,d=some t->t<N/\W t){v:SV tb.T}{u:Value}
 (hr:RepV P tb g w μ τ s.tok v u) (hi:∀i∈v.ids,s.used i=true) :
 SimAt P tb N W a0 g0 w0 D0 (s.putO d v) g μ τ (a.put d u) w:=by
 cases d with
 | none=>exact h
 | some d=>exact h.put (hd d rfl).1 (hd d rfl).2 hr hi
theorem SimAt.forget (h:SimAt P tb N W a0 g0 w0 D0 s g μ τ a w)(f:Nat->Bool):
 SimAt P tb N W a0 g0 w0 D0 {s with env:=fun t=>bif f t then none else s.env t} g μ τ a w:=by
 refine⟨h.ext,h.size,h.defers,h.frame,?_,h.blk,h.itr,h.live,h.inj,h.tokv,h.tinj,h.excl,h.rou,?_,h.ublk,h.arr,h.inv0⟩
 .intro t v hv;simp only at hv;cases hf:f t<;>simp[hf]at hv;exact h.env t v hv
 .intro t v hv;simp only at hv ⊢;cases hf:f t<;>simp[hf]at hv;exact h.uenv t v hv
theorem pzq (w:World)(o:Obj)(b:Nat)(h:b<w.heap.size):(w.heap.push o)[b]?=w.heap[b]?:=by
 rw[Array.getElem?_push,if_neg (by omega)]
theorem oz4 (w:World)(o:Obj):(w.heap.push o)[w.heap.size]?=some o:=by simp
theorem Ext.push (g:Gh)(w:World)(o:Obj)(k:BK)(D:Nat->Prop):Ext g w (upd g w.heap.size k) {w with heap:=w.heap.push o} D:=by
 have e:∀b,b<w.heap.size->upd g w.heap.size k b=g b:=fun b hb=>azo g k (by omega)
 refine⟨rfl,rfl,rfl,by simp,?_,?_,?_,Shp.old fun b hb=>pzq w o b hb⟩
 .intro b hb _;exact⟨pzq w o b hb,e b hb⟩
 .intro b hb hg;exact⟨pzq w o b hb,by rw[e b hb];exact hg⟩
 .intro b n hb hg;exact⟨n,Nat.le_refl _,by rw[e b hb];exact hg,fun i _=>czK (pzq w o b hb)⟩
theorem nzg (h:SimAt P tb N W a0 g0 w0 D0 s g μ τ a w){d:Nat}(hd:s.used d=false):¬azn s d:=fun hl=>by
 have:=(h.live d hl).1;rw[this]at hd;cases hd
theorem selfy_rep {Nz0 cs:List (AC tb.T)}{us:Array Value}{el d:Nat}{tok:Nat->Bool}(hcs:cs=Nz0\/cs=BzM el d Nz0)(h:All2 (RepC P tb g w μ τ tok) Nz0 us.toList)(hw:w.heap[μ d]?=some (.cells us el)):
 All2 (RepC P tb g w μ τ tok) cs us.toList/\∀x∈cs,∀j∈x.ids,j=d\/∃y∈Nz0,j∈y.ids:=by
 have h0:All2 (RepC P tb g w μ τ tok) Nz0 us.toList/\∀x∈Nz0,∀j∈x.ids,j=d\/∃y∈Nz0,j∈y.ids:=⟨h,fun x hx j hj=>.inr ⟨x,hx,hj⟩⟩;rcases hcs with rfl|rfl
 .exact h0
 .unfold BzM;split
  .rename_i Nz0;have hl:=h.length;cases hus:us.toList with
   | nil=>rw[hus]at hl;simp at hl
   | cons u us' =>
    rw[hus]at h hl;obtain⟨h1,h2⟩:=h;refine⟨⟨⟨.inl h1,us,_,hw,?_⟩,h2⟩,fun x hx j hj=>?_⟩
    .have:us.size=us.toList.length:=by simp
     rw[this,hus];simpa using hl.symm
    .rcases List.mem_cons.1 hx with rfl|hx
     .simp only[AC.ids,List.mem_singleton]at hj;exact .inl hj
     .exact .inr ⟨x,List.mem_cons_of_mem _ hx,hj⟩
  .exact h0
theorem SimAt.newVarS (h:SimAt P tb N W a0 g0 w0 D0 s g μ τ a w){d:Nat}(hd:d<N)(hW:W d)(hu:s.used d=false){Nz0 cs:List (AC tb.T)}{us:Array Value}{el:Nat}
 (hr:All2 (RepC P tb g w μ τ s.tok) Nz0 us.toList) (hi:∀x∈Nz0,∀i∈x.ids,s.used i=true) (hcs:cs=Nz0\/cs=BzM el d Nz0) :
 SimAt P tb N W a0 g0 w0 D0 {s with env:=upd s.env d (some (.c (.ptr d 0))),blk:=upd s.blk d (some cs),used:=upd s.used d true}
  (upd g w.heap.size .var) (upd μ d w.heap.size) τ (a.put (some d) (.pointer (some ⟨w.heap.size,0,none⟩))) {w with heap:=w.heap.push (.cells us el)}:=by
 have hus:∀i,s.used i=true->upd s.used d true i=true:=fun i hi=>by
  rw[azu];split<;>simp_all
 have hne:∀i,s.used i=true->i≠d:=fun i hi e=>by subst e;rw[hi]at hu;cases hu
 have he:=Ext.push g w (.cells us el) .var (fun _=>False);have h1:SimAt P tb N W a0 g0 w0 D0 {s with blk:=upd s.blk d (some cs),used:=upd s.used d true}
  (upd g w.heap.size .var) (upd μ d w.heap.size) τ a {w with heap:=w.heap.push (.cells us el)}:=by
  refine h.move he (fun _ _ f=>f.elim) rfl hus rfl (fun i hi=>⟨azo μ _ (hne i hi),rfl⟩) (fun _ _ h=>⟨h,fun _ _ f=>f⟩) ?_ (fun i o hb=>.inl ⟨hb,fun f=>f⟩) ?_ ?_ ?_ ?_ ?_ (fun _ _ _ f=>f.elim) (fun i o e xs hi=>.inl (h.arrs rfl (fun _ _ f=>f) (fun t ht=>(h.tokv t ht).1) i o e xs hi))
  .intro i cs' hb;simp only[azu]at hb;by_cases e:i=d
   .subst e;simp at hb;subst hb;have hall:All2 (RepC P tb (upd g w.heap.size .var) {w with heap:=w.heap.push (.cells us el)} (upd μ i w.heap.size) τ s.tok) Nz0 us.toList:=hr.mono fun x hx v hv=>by
     refine RepC.carry (I:=fun i=>s.used i=true) ⟨he.keeps,fun j hj=>⟨azo μ _ (hne j hj),rfl⟩,fun _ _ h=>h,fun j b hj ht hb=>?_⟩ (hi x hx) hv;have:=he.keep b ((h.tokv j ht).2 b hb).2.1 (fun f=>f);exact⟨this.2,this.1⟩
    obtain⟨q1,q2⟩:=selfy_rep (el:=el) (d:=i) hcs hall (by rw[azh];exact oz4 w _);refine .inr ⟨⟨us,el,(0,0),?_,fun j _=>by simp,q1⟩,fun x hx j hj=>?_⟩
    .rw[azh];exact oz4 w _
    .rcases q2 x hx j hj with rfl|⟨y,hy,hj⟩
     .exact azh _ _ _
     .exact hus j (hi y hy j hj)
   .simp[e]at hb;exact .inl ⟨hb,fun f=>f⟩
  .intro i hl;by_cases e:i=d
   .subst e;exact .inr ⟨hu,azh _ _ _,by rw[azh,azh],by rw[azh];exact Nat.le_refl _,by rw[azh];simp⟩
   .left;simpa[azn,azu,e]using hl
  .intro i j hi hj li lj _;have hx:∀k,azn {s with blk:=upd s.blk d (some cs),used:=upd s.used d true} k->¬azn s k->k=d:=fun k hk nk=>by
    apply Classical.byContradiction;intro e;exact nk (by simpa[azn,azu,e]using hk)
   rw[hx i hi li,hx j hj lj]
  .intro i hi;simp only[azu]at hi ⊢;by_cases e:i=d
   .subst e;exact absurd (.inr hi) (nzg h hu)
   .simp only[e,if_false]at hi ⊢;exact h.excl i hi
  .intro t ht hu';have:=(h.tokv t ht).1;rw[this]at hu';cases hu'
  .intro t u b ht _ hu';have:=(h.tokv t ht).1;rw[this]at hu';cases hu'
 have h2:=h1.put hd hW (v:=.c (.ptr d 0)) (u:=.pointer (some ⟨w.heap.size,0,none⟩)) (by simp[RepV,RepC,azh]) (by simp[SV.ids,AC.ids,azh]);exact h2
theorem SimAt.newVar (h:SimAt P tb N W a0 g0 w0 D0 s g μ τ a w){d:Nat}(hd:d<N)(hW:W d)(hu:s.used d=false){Nz0:List (AC tb.T)}{us:Array Value}{el:Nat}
 (hr:All2 (RepC P tb g w μ τ s.tok) Nz0 us.toList) (hi:∀x∈Nz0,∀i∈x.ids,s.used i=true) :
 SimAt P tb N W a0 g0 w0 D0 {s with env:=upd s.env d (some (.c (.ptr d 0))),blk:=upd s.blk d (some Nz0),used:=upd s.used d true}
  (upd g w.heap.size .var) (upd μ d w.heap.size) τ (a.put (some d) (.pointer (some ⟨w.heap.size,0,none⟩))) {w with heap:=w.heap.push (.cells us el)}:=h.newVarS hd hW hu hr hi (.inl rfl)
theorem SimAt.newItr (h:SimAt P tb N W a0 g0 w0 D0 s g μ τ a w){d:Nat}(hd:d<N)(hW:W d)(hu:s.used d=false){l:List UInt8}(hl:l.length<=bz6):
 SimAt P tb N W a0 g0 w0 D0 {s with env:=upd s.env d (some (.c (.ptr d 0))),itr:=upd s.itr d (some (.it l 0)),used:=upd s.used d true}
  (upd g w.heap.size .var) (upd μ d w.heap.size) τ (a.put (some d) (.pointer (some ⟨w.heap.size,0,none⟩))) {w with heap:=w.heap.push (.stringIter ⟨l.toArray⟩ 0)}:=by
 have hus:∀i,s.used i=true->upd s.used d true i=true:=fun i hi=>by
  rw[azu];split<;>simp_all
 have hne:∀i,s.used i=true->i≠d:=fun i hi e=>by subst e;rw[hi]at hu;cases hu
 have he:=Ext.push g w (.stringIter ⟨l.toArray⟩ 0) .var (fun _=>False);have h1:SimAt P tb N W a0 g0 w0 D0 {s with itr:=upd s.itr d (some (.it l 0)),used:=upd s.used d true}
  (upd g w.heap.size .var) (upd μ d w.heap.size) τ a {w with heap:=w.heap.push (.stringIter ⟨l.toArray⟩ 0)}:=by
  refine h.move he (fun _ _ f=>f.elim) rfl hus rfl (fun i hi=>⟨azo μ _ (hne i hi),rfl⟩) (fun _ _ h=>⟨h,fun _ _ f=>f⟩) (fun i cs hb=>.inl ⟨hb,fun f=>f⟩) ?_ ?_ ?_ ?_ ?_ ?_ (fun _ _ _ f=>f.elim) (fun i o e xs hi=>.inl (h.arrs rfl (fun _ _ f=>f) (fun t ht=>(h.tokv t ht).1) i o e xs hi))
  .intro i o hb;simp only[azu]at hb;by_cases e:i=d
   .subst e;simp at hb;subst hb;exact .inr ⟨by rw[azh];exact oz4 w _,hl,Nat.zero_le _⟩
   .simp[e]at hb;exact .inl ⟨hb,fun f=>f⟩
  .intro i hl;by_cases e:i=d
   .subst e;exact .inr ⟨hu,azh _ _ _,by rw[azh,azh],by rw[azh];exact Nat.le_refl _,by rw[azh];simp⟩
   .left;simpa[azn,azu,e]using hl
  .intro i j hi hj li lj _;have hx:∀k,azn {s with itr:=upd s.itr d (some (.it l 0)),used:=upd s.used d true} k->¬azn s k->k=d:=fun k hk nk=>by
    apply Classical.byContradiction;intro e;exact nk (by simpa[azn,azu,e]using hk)
   rw[hx i hi li,hx j hj lj]
  .intro i hi;simp only[azu]at hi ⊢;by_cases e:i=d
   .subst e;refine⟨?_,?_⟩
    .cases hb:s.blk i with
     | none=>rfl
     | some cs=>exact absurd (.inl (by rw[hb];simp)) (nzg h hu)
    .cases hr:s.ro i with
     | false=>rfl
     | true=>have:=h.rou i hr;rw[this]at hu;cases hu
   .simp only[e,if_false]at hi ⊢;exact h.excl i hi
  .intro t ht hu';have:=(h.tokv t ht).1;rw[this]at hu';cases hu'
  .intro t u b ht _ hu';have:=(h.tokv t ht).1;rw[this]at hu';cases hu'
 have h2:=h1.put hd hW (v:=.c (.ptr d 0)) (u:=.pointer (some ⟨w.heap.size,0,none⟩)) (by simp[RepV,RepC,azh]) (by simp[SV.ids,AC.ids,azh]);exact h2
end Go.Ev
namespace Go.Ev
open Go
open Go.IntKind (i64 u64 u8 i32 u32 i16 u16)
structure OneBlock (w w':World) (b:Nat) (o:Obj):Prop where
 os:w'.os=w.os
 tape:w'.tape=w.tape
 output:w'.output=w.output
 size:w'.heap.size=w.heap.size
 new:w'.heap[b]?=some o
 rest:∀b',b'≠b->w'.heap[b']?=w.heap[b']?
theorem OneBlock.trans {w w' w'':World}{b:Nat}{o o':Obj}(h:OneBlock w w' b o)(k:OneBlock w' w'' b o'):OneBlock w w'' b o' :=
 ⟨k.os.trans h.os,k.tape.trans h.tape,k.output.trans h.output,k.size.trans h.size,k.new,fun b' hb=>(k.rest b' hb).trans (h.rest b' hb)⟩
theorem jzH {α:Type}(c new:List α)(o:Nat)(h:o+new.length<=c.length):(ez3 c new o).length=c.length:=by
 simp[ez3];omega
theorem nzq {α:Type}(c new:List α)(o i:Nat)(h:o+new.length<=c.length):
 (ez3 c new o)[i]?=if i<o then c[i]? else if i<o+new.length then new[i-o]? else c[i]?:=by
 unfold ez3;have h1:(c.take o).length=o:=by simp;omega
 by_cases a:i<o
 .rw[if_pos a,List.append_assoc,List.getElem?_append_left (by omega),List.getElem?_take_of_lt a]
 .rw[if_neg a];by_cases b:i<o+new.length
  .rw[if_pos b,List.getElem?_append_left (by simp;omega),List.getElem?_append_right (by omega),h1]
  .rw[if_neg b,List.getElem?_append_right (by simp;omega),List.getElem?_drop];congr 1;simp;omega
theorem JzA {α:Type}(c:List α)(o:Nat):ez3 c [] o=c:=by simp[ez3]
theorem Gz3 {α:Type}(c:List α)(v:α)(new:List α)(o:Nat)(h:o<c.length):ez3 c (v::new) o=ez3 (c.set o v) new (o+1):=by
 apply List.ext_getElem?;intro i;by_cases hl:o+(v::new).length<=c.length
 .rw[nzq _ _ _ _ hl,nzq _ _ _ _ (by simp at hl ⊢;omega)];simp only[List.length_cons,List.getElem?_set];by_cases a:i<o
  .rw[if_pos a,if_pos (by omega),if_neg (by omega)]
  .rw[if_neg a];by_cases e:i=o
   .subst e;rw[if_pos (by omega),if_pos (by omega)];simp[h]
   .rw[if_neg (by omega:¬i<o+1)];have e':¬o=i:=fun x=>e x.symm
    by_cases b:i<o+(new.length+1)
    .rw[if_pos b,if_pos (by omega)];have:i-o=(i-(o+1))+1:=by omega
     rw[this,List.getElem?_cons_succ]
    .rw[if_neg b,if_neg (by omega),if_neg e']
 .simp only[ez3,List.length_cons];congr 1;have:List.take (o+1) (c.set o v)=c.take o++[v]:=by
   rw[List.take_add_one,List.take_set_of_le (Nat.le_refl _)];simp[h]
  rw[List.drop_eq_nil_of_le (by simp at hl;omega),List.drop_eq_nil_of_le (by simp at hl ⊢;omega),this];simp
theorem Kzc (P:Program){w:World}{b off:Nat}{c:Array Value}{el:Nat}{fz:Nat×Nat}{v:Value}(hb:w.heap[b]?=some (.cells c el fz))(ho:off<c.size)
 (hf:¬(fz.1<=off/\off<fz.2)) (hv:Value.one v=true) :
 ∃w',(store ⟨b,off,none⟩ v).run P w = .ok () w'/\OneBlock w w' b (.cells (c.setIfInBounds off v) el fz):=by
 have hc:w.cell? ⟨b,off,none⟩=some c[off]:=by
  unfold World.cell?;simp[hb,ho]
 have hz:w.frozen? ⟨b,off,none⟩=false:=by
  unfold World.frozen?;obtain⟨l,h⟩:=fz;simp only[hb];simp at hf ⊢;intro h1;exact hf h1
 refine⟨w.setCell ⟨b,off,none⟩ v,?_,?_⟩
 .cases v<;>first|(simp[Value.one]at hv;done)|(simp[store,Sem.run,hc,hz])
 .have hlt:b<w.heap.size:=(Array.getElem?_eq_some_iff.1 hb).1;refine⟨rfl,rfl,rfl,by simp[World.setCell],?_,?_⟩
  .simp[World.setCell,Array.getElem?_modify,hb]
  .intro b' hb';simp only[World.setCell,Array.getElem?_modify];rw[if_neg (by omega)]
theorem ezm (b off n:Nat):(⟨b,off,none⟩:Addr).add n=⟨b,off+n,none⟩:=by
 unfold Addr.add;split
 .next h=>subst h;rfl
 .rfl
theorem kzv (P:Program){b o el:Nat}{fz:Nat×Nat}:∀(vs:List Value) (i:Nat) (c:Array Value) (w:World),w.heap[b]?=some (.cells c el fz)->o+i+vs.length<=c.size ->
 (∀j,j<c.size->¬(fz.1<=j/\j<fz.2))->(∀v∈vs,Value.one v=true) ->
 ∃w' c',(storeCells ⟨b,o,none⟩ vs i).run P w = .ok () w'/\OneBlock w w' b (.cells c' el fz)/\c'.toList=ez3 c.toList vs (o+i)
 | [],i,c,w,hb,_,_,_=>⟨w,c,by simp[storeCells],⟨rfl,rfl,rfl,rfl,hb,fun _ _=>rfl⟩,by rw[JzA]⟩
 | v::vs,i,c,w,hb,hl,hf,hv=>by
  simp only[List.length_cons]at hl;obtain⟨w1,h1,k1⟩:=Kzc P hb (by omega:o+i<c.size) (hf _ (by omega)) (hv v (by simp));obtain⟨w2,c2,h2,k2,e2⟩:=kzv P (o:=o) vs (i+1) (c.setIfInBounds (o+i) v) w1 k1.new (by rw[Array.size_setIfInBounds];omega) (by simpa using hf) (fun u hu=>hv u (by simp[hu]));refine⟨w2,c2,?_,k1.trans k2,?_⟩
  .simp only[storeCells,Sem.run_bind,ezm];rw[h1];exact h2
  .rw[e2,Gz3 _ _ _ _ (by simp;omega)];simp[Nat.add_assoc]
variable {P:Program} {tb:Tab} {N:Nat} {W:Nat->Prop} {a0:Act} {g0:Gh} {w0:World} {D0:Nat->Prop}
variable {s s':St tb.T} {g g':Gh} {μ μ':Nat->Nat} {τ τ':Nat->Option Nat} {a:Act} {w w':World} {D:Nat->Prop}
theorem RepC.one {x:AC tb.T}{v:Value}{tok:Nat->Bool}(h:RepC P tb g w μ τ tok x v):Value.one v=true:=by
 cases x with
 | d c=>simp only[RepC]at h;cases h<;>rfl
 | own e xs t=>obtain⟨h,_⟩:=h;cases h<;>rfl
 | ptr i o=>simp only[RepC]at h;subst h;rfl
 | cptr cs=>obtain⟨b,off,rfl,_⟩:=h;rfl
 | fn f caps=>simp only[RepC]at h;subst h;rfl
 | any=>exact h
 | ubool m e=>obtain⟨b,rfl,_⟩:=h;rfl
 | vsl e i=>rcases h with⟨_,_,rfl⟩|⟨_,_,_,_,_,rfl,_⟩<;>rfl
 | vw e i o n=>rcases h with⟨_,_,rfl,_⟩|⟨_,_,_,rfl,_⟩<;>rfl
 | elp i e k o=>obtain⟨_,_,rfl⟩:=h;rfl
 | np=>simp only[RepC]at h;subst h;rfl
 | map i=>simp only[RepC]at h;subst h;rfl
 | yl i=>simp only[RepC]at h;subst h;rfl
 | slf t n i=>obtain⟨rfl|rfl,_⟩:=h<;>rfl
theorem Ext.var1 {b:Nat}{o:Obj}(h:OneBlock w w' b o)(hg:g b = .var)(hs:∀us T fz,w.heap[b]?=some (.cells us T fz)->∃us' fz',o = .cells us' T fz'/\us'.size=us.size):Ext g w g w' (fun i=>i=b):=by
 have hs':=Shp.one (fun i _ hi=>h.rest i hi) (fun us T fz e=>(by obtain⟨us',fz',e1,e2⟩:=hs us T fz e;exact⟨us',fz',by rw[h.new,e1],e2⟩));refine⟨h.os,h.tape,h.output,by rw[h.size];exact Nat.le_refl _,fun i _ hi=>⟨h.rest i hi,rfl⟩,fun i _ hi=>⟨h.rest i (fun e=>by subst e;rw[hg]at hi;cases hi),hi⟩,fun i n _ hi=>⟨n,Nat.le_refl _,hi,fun j _=>czK (h.rest i (fun e=>by subst e;rw[hg]at hi;cases hi))⟩,hs'⟩
theorem Ext.arr1 {b n n':Nat}{c c':Array Value}{el:Nat}{fz:Nat×Nat}(hb:w.heap[b]?=some (.cells c el fz))(h:OneBlock w w' b (.cells c' el fz))(hg:g b = .ar n)(hn:n<=n')
 (hc:∀i,i<n->c'[i]?=c[i]?) (hcs:c'.size=c.size):Ext g w (upd g b (.ar n')) w' (fun i=>i=b):=by
 have hs':=Shp.one (fun i _ hi=>h.rest i hi) (fun us T fz' e=>(by rw[hb]at e;injection e with e;injection e with e1 e2 e3;exact⟨c',fz,by rw[h.new,<-e2],by rw[hcs,e1]⟩));have e:∀i,i≠b->upd g b (.ar n') i=g i:=fun i hi=>azo g _ hi
 refine⟨h.os,h.tape,h.output,by rw[h.size];exact Nat.le_refl _,fun i _ hi=>⟨h.rest i hi,e i hi⟩,fun i _ hi=>?_,fun i m _ hi=>?_,hs'⟩
 .have hne:i≠b:=fun e=>by subst e;rw[hg]at hi;cases hi
  exact⟨h.rest i hne,by rw[e i hne];exact hi⟩
 .by_cases hib:i=b
  .subst hib;rw[hg]at hi;injection hi with hi;subst hi;refine⟨n',hn,azh _ _ _,fun j hj=>?_⟩;unfold World.cell?;simp only[h.new,hb];simpa using hc j hj
  .exact⟨m,Nat.le_refl _,by rw[e i hib];exact hi,fun j _=>czK (h.rest i hib)⟩
theorem SimAt.setBlk (h:SimAt P tb N W a0 g0 w0 D0 s g μ τ a w){i:Nat}(hi:azn s i){cells:List (AC tb.T)}{c':Array Value}{el:Nat}{fz:Nat×Nat}
 (ho:OneBlock w w' (μ i) (.cells c' el fz)) (hf:∀j,j<c'.size->¬(fz.1<=j/\j<fz.2)) (hr:All2 (RepC P tb g w μ τ s.tok) cells c'.toList) (hu:∀x∈cells,∀j∈x.ids,s.used j=true) (hni:s.itr i=none) (hnr:s.ro i=false) (hsh:∀us T fz,w.heap[μ i]?=some (.cells us T fz)->T=el/\c'.size=us.size) :
 SimAt P tb N W a0 g0 w0 D0 {s with blk:=upd s.blk i (some cells)} g μ τ a w':=by
 obtain⟨k1,k2,k3,k4⟩:=h.live i hi;have he:=Ext.var1 ho k2 (fun us T fz' e=>by obtain⟨e1,e2⟩:=hsh us T fz' e;exact⟨c',fz,by rw[e1],e2⟩);have hlv:∀j,azn {s with blk:=upd s.blk i (some cells)} j->azn s j:=fun j hj=>by
  by_cases e:j=i
  .subst e;exact hi
  .simpa[azn,azu,e]using hj
 have htk:∀t b,s.tok t=true->τ t=some b->¬b=μ i:=fun t b ht hb e=>by
  obtain⟨⟨n,hn⟩,_⟩:=(h.tokv t ht).2 b hb;rw[e,k2]at hn;cases hn
 refine h.move he (fun b _ e=>by rw[e];exact k4.resolve_left (by rw[hnr];simp)) rfl (fun _ h=>h) rfl (fun _ _=>⟨rfl,rfl⟩) (fun t _ ht=>⟨ht,fun b hb=>htk t b ht hb⟩) ?_ ?_ (fun j hj=>.inl (hlv j hj)) (fun j k hj _ lj=>absurd (hlv j hj) lj) ?_ ?_ ?_ (fun j hj _ e=>(h.live j hj).2.1) (fun j o e xs hj=>.inl (h.arrs rfl (fun b hb e=>by rw[e,k2]at hb;cases hb) (fun t ht=>(h.tokv t ht).1) j o e xs hj))
 .intro j cs hb;simp only[azu]at hb;by_cases e:j=i
  .subst e;simp at hb;subst hb;refine .inr ⟨⟨c',el,fz,ho.new,hf,hr.mono fun x hx v hv=>?_⟩,hu⟩;refine RepC.carry (I:=fun i=>s.used i=true) ⟨he.keeps,fun _ _=>⟨rfl,rfl⟩,fun _ _ h=>h,fun t b _ ht hb=>?_⟩ (hu x hx) hv;exact⟨rfl,ho.rest b (htk t b ht hb)⟩
  .simp[e]at hb;exact .inl ⟨hb,fun e'=>e (h.inj j i (.inl (by rw[hb];simp)) hi e')⟩
 .intro j o hj;by_cases e:j=i
  .subst e;simp[hni]at hj
  .exact .inl ⟨hj,fun e'=>e (h.inj j i (.inr (by rw[hj];simp)) hi e')⟩
 .intro j hj;have hj':s.itr j≠none:=hj;simp only[azu];by_cases e:j=i
  .subst e;exact absurd hni hj'
  .simp only[e,if_false];exact h.excl j hj'
 .intro t ht hu';have:=(h.tokv t ht).1;rw[this]at hu';cases hu'
 .intro t u b ht _ hu';have:=(h.tokv t ht).1;rw[this]at hu';cases hu'
theorem SimAt.setOb (h:SimAt P tb N W a0 g0 w0 D0 s g μ τ a w){i:Nat}{o o':Ob tb.T}{ob:Obj}(hi:s.itr i=some o)
 (ho:OneBlock w w' (μ i) ob) (hob:ObAt P tb g w' (μ i) o') (hsh:∀us T fz,w.heap[μ i]?=some (.cells us T fz)->∃us' fz',ob = .cells us' T fz'/\us'.size=us.size) :
 SimAt P tb N W a0 g0 w0 D0 {s with itr:=upd s.itr i (some o')} g μ τ a w':=by
 have hlive:azn s i:=.inr (by rw[hi];simp);obtain⟨hnb,hnr⟩:=h.excl i (by rw[hi];simp);obtain⟨k1,k2,k3,k4⟩:=h.live i hlive;have he:=Ext.var1 ho k2 hsh;have hlv:∀j,azn {s with itr:=upd s.itr i (some o')} j->azn s j:=fun j hj=>by
  by_cases e:j=i
  .subst e;exact hlive
  .simpa[azn,azu,e]using hj
 have htk:∀t b,s.tok t=true->τ t=some b->¬b=μ i:=fun t b ht hb e=>by
  obtain⟨⟨n,hn⟩,_⟩:=(h.tokv t ht).2 b hb;rw[e,k2]at hn;cases hn
 refine h.move he (fun b _ e=>by rw[e];exact k4.resolve_left (by rw[hnr];simp)) rfl (fun _ h=>h) rfl (fun _ _=>⟨rfl,rfl⟩) (fun t _ ht=>⟨ht,fun b hb=>htk t b ht hb⟩) ?_ ?_ (fun j hj=>.inl (hlv j hj)) (fun j k hj _ lj=>absurd (hlv j hj) lj) ?_ ?_ ?_ (fun j hj _ _=>(h.live j hj).2.1) (fun j o e xs hj=>.inl (h.arrs rfl (fun b hb e=>by rw[e,k2]at hb;cases hb) (fun t ht=>(h.tokv t ht).1) j o e xs hj))
 .intro j cs hb;by_cases e:j=i
  .subst e;simp[hnb]at hb
  .exact .inl ⟨hb,fun e'=>e (h.inj j i (.inl (by rw[hb];simp)) hlive e')⟩
 .intro j o1 hj;simp only[azu]at hj;by_cases e:j=i
  .subst e;simp at hj;subst hj;exact .inr hob
  .simp[e]at hj;exact .inl ⟨hj,fun e'=>e (h.inj j i (.inr (by rw[hj];simp)) hlive e')⟩
 .intro j hj;simp only[azu]at hj ⊢;by_cases e:j=i
  .subst e;exact⟨hnb,hnr⟩
  .simp only[e,if_false]at hj;exact h.excl j hj
 .intro t ht hu';have:=(h.tokv t ht).1;rw[this]at hu';cases hu'
 .intro t u b ht _ hu';have:=(h.tokv t ht).1;rw[this]at hu';cases hu'
def Apart (s:St tb.T)(τ:Nat->Option Nat)(D:Nat->Prop):Prop:=∀i,s.arr i≠none->∀b,τ i=some b->¬D b
theorem SimAt.newTok (h:SimAt P tb N W a0 g0 w0 D0 s g μ τ a w)(he:Ext g w g' w' D)(ids:List Nat){d:Nat}(hun:s.used d=false)
 (hD:∀b,b<w.heap.size->D b->w0.heap.size<=b\/D0 b)
 (hDt:∀t b,s.tok t=true->memB t ids=false->τ t=some b->¬D b) (hDl:∀i,azn s i->¬D (μ i))
 {b?:Option Nat} (hb:∀b,b?=some b->(∃n,g' b = .ar n)/\b<w'.heap.size/\(w0.heap.size<=b\/D0 b)/\∀t,s.tok t=true->memB t ids=false->τ t≠some b)
 (hA:Apart s τ fun b=>D b\/b?=some b) :
 SimAt P tb N W a0 g0 w0 D0 {s.drop ids with tok:=upd (s.drop ids).tok d true,used:=upd s.used d true} g' μ (upd τ d b?) a w':=by
 have hus:∀i,s.used i=true->upd s.used d true i=true:=fun i hi=>by
  rw[azu];split<;>simp_all
 have hne:∀i,s.used i=true->i≠d:=fun i hi e=>by subst e;rw[hi]at hun;cases hun
 have htok:∀t,t≠d->upd (s.drop ids).tok d true t=true->s.tok t=true/\memB t ids=false:=fun t ht h1=>by
  rw[azo _ _ ht]at h1;simp only[St.drop]at h1;cases hm:memB t ids<;>simp[hm]at h1;exact⟨h1,rfl⟩
 have hused:∀t,upd (s.drop ids).tok d true t=true->s.used t=false->t=d:=fun t ht hu=>by
  apply Classical.byContradiction;intro e;have:=(h.tokv t (htok t e ht).1).1;rw[this]at hu;cases hu
 refine h.move he hD rfl hus rfl (fun i hi=>⟨rfl,azo τ _ (hne i hi)⟩) ?_ (fun i cs hb'=>.inl ⟨hb',hDl i (.inl (by rw[show s.blk i=some cs from hb'];simp))⟩) (fun i o hb'=>.inl ⟨hb',hDl i (.inr (by rw[show s.itr i=some o from hb'];simp))⟩) (fun i hi=>.inl hi) (fun i j hi _ li=>absurd hi li) h.excl ?_ ?_ (fun i hi _ hd=>absurd hd (hDl i hi)) ?_
 .intro i hi ht;obtain⟨h1,h2⟩:=htok i (hne i hi) ht;exact⟨h1,fun b hb'=>hDt i b h1 h2 hb'⟩
 .intro t ht hu;have:=hused t ht hu;subst this;refine⟨azh _ _ _,fun b hb'=>?_⟩;rw[azh]at hb';obtain⟨h1,h2,h3,_⟩:=hb b hb';exact⟨h1,h2,h3⟩
 .intro t u b ht hu hun' e1 e2;have:=hused t ht hun';subst this;rw[azh]at e1;apply Classical.byContradiction;intro hne';have hu':=htok u (fun e=>hne' e.symm) hu;rw[azo _ _ (fun e=>hne' e.symm)]at e2;exact(hb b e1).2.2.2 u hu'.1 hu'.2 e2
 .intro i o e xs hi;have hi:s.arr i=some (.mk o e xs):=hi;have hs:s.arr i≠none:=by rw[hi];simp
  refine .inl ⟨hi,fun b hb' c=>hA i hs b hb' (.inl c),fun t b ht hu e1 e2=>?_⟩;rcases ht with ht|ht
  .have:=hused t ht hu;subst this;rw[azh]at e1;exact hA i hs b e2 (.inr e1)
  .have ht:s.arr t≠none:=ht;cases ha:s.arr t with
   | none=>exact ht ha
   | some z=>obtain⟨o3,e3,xs3⟩:=z;have:=(h.arr t o3 e3 xs3 ha).2.1;rw[this]at hu;cases hu
theorem SimAt.own (h:SimAt P tb N W a0 g0 w0 D0 s g μ τ a w)(he:Ext g w g' w' D)(ids:List Nat){d:Nat}(hd:d<N)(hW:W d)(hun:s.used d=false)
 (hD:∀b,b<w.heap.size->D b->w0.heap.size<=b\/D0 b)
 (hDt:∀t b,s.tok t=true->memB t ids=false->τ t=some b->¬D b) (hDl:∀i,azn s i->¬D (μ i))
 {b?:Option Nat} (hb:∀b,b?=some b->(∃n,g' b = .ar n)/\b<w'.heap.size/\(w0.heap.size<=b\/D0 b)/\∀t,s.tok t=true->memB t ids=false->τ t≠some b)
 (hA:Apart s τ fun b=>D b\/b?=some b)
 {e:Nat} {xs:List (tb.T e)} {v:Value} (hr:RepD P tb g' w' (.sl e xs) v) (ho:Bzm P g' w' b? e xs.length v) :
 SimAt P tb N W a0 g0 w0 D0 {s.drop ids with env:=upd s.env d (some (.c (.own e xs d))),tok:=upd (s.drop ids).tok d true,used:=upd s.used d true} g' μ (upd τ d b?) (a.put (some d) v) w':=by
 have h1:=h.newTok he ids hun hD hDt hDl hb hA;exact h1.put hd hW (v:=.c (.own e xs d)) (u:=v) (by
  refine⟨hr,fun _=>?_⟩;rw[azh];exact ho) (by simp[SV.ids,AC.ids,azh])
theorem SimAt.newAT (h:SimAt P tb N W a0 g0 w0 D0 s g μ τ a w)(he:Ext g w g' w' D){d:Nat}(hun:s.used d=false)
 (hD:∀b,b<w.heap.size->D b->w0.heap.size<=b\/D0 b)
 (hDt:∀t b,s.tok t=true->τ t=some b->¬D b) (hDl:∀i,azn s i->¬D (μ i))
 {b?:Option Nat} (hb:∀b,b?=some b->(w0.heap.size<=b\/D0 b)/\∀t,s.tok t=true->τ t≠some b)
 {A:Nat->Option (Ar tb.T)} (hA:∀i,A i≠none->A i=s.arr i/\∀b,τ i=some b->¬D b/\b?≠some b)
 {o:Bool} {e:Nat} {xs:List (tb.T e)} (hr:fzB P tb g' w' b? e xs) :
 SimAt P tb N W a0 g0 w0 D0 {s with arr:=upd A d (some (.mk o e xs)),used:=upd s.used d true} g' (upd μ d xs.length) (upd τ d b?) a w':=by
 have hus:∀i,s.used i=true->upd s.used d true i=true:=fun i hi=>by
  rw[azu];split<;>simp_all
 have hne:∀i,s.used i=true->i≠d:=fun i hi e=>by subst e;rw[hi]at hun;cases hun
 have haus:∀t,s.arr t≠none->s.used t=true:=fun t ht=>by
  cases ha:s.arr t with
  | none=>exact absurd ha ht
  | some z=>obtain⟨o3,e3,xs3⟩:=z;exact(h.arr t o3 e3 xs3 ha).2.1
 refine h.move he hD rfl hus rfl (fun i hi=>⟨azo μ _ (hne i hi),azo τ _ (hne i hi)⟩) (fun i hi ht=>⟨ht,fun b hb'=>hDt i b ht hb'⟩) (fun i cs hb'=>.inl ⟨hb',hDl i (.inl (by rw[show s.blk i=some cs from hb'];simp))⟩) (fun i o hb'=>.inl ⟨hb',hDl i (.inr (by rw[show s.itr i=some o from hb'];simp))⟩) (fun i hi=>.inl hi) (fun i j hi _ li=>absurd hi li) h.excl (fun t ht hu=>?_) (fun t u b ht hu hun'=>?_) (fun i hi _ hd=>absurd hd (hDl i hi)) ?_
 .have:=(h.tokv t ht).1;rw[this]at hu;cases hu
 .have:=(h.tokv t ht).1;rw[this]at hun';cases hun'
 .intro i o' e' xs' hi;have hi:upd A d (some (.mk o e xs)) i=some (.mk o' e' xs'):=hi;by_cases c:i=d
  .subst c;rw[azh]at hi;injection hi with hi;injection hi with h1 h2 h3;subst h1;subst h2;have h3:=eq_of_heq h3;subst h3;rw[azh,azh];refine .inr ⟨hr,azh _ _ _,fun _=>⟨rfl,fun b hb'=>(hb b hb').1⟩,fun t b e1 e2=>⟨fun ht=>?_,fun ht=>?_⟩⟩
   .have ht:s.tok t=true:=ht;rw[azo _ _ (hne t (h.tokv t ht).1)]at e1;exact(hb b e2).2 t ht e1
   .apply Classical.byContradiction;intro c;have ht:upd A i (some (.mk o e xs)) t≠none:=ht;rw[azo _ _ c]at ht e1;exact((hA t ht).2 b e1).2 e2
  .rw[azo _ _ c]at hi;obtain⟨k1,k2⟩:=hA i (by rw[hi];simp);refine .inl ⟨by rw[<-k1];exact hi,fun b hb'=>(k2 b hb').1,fun t b ht hu e1 e2=>?_⟩;rcases ht with ht|ht
   .have:=(h.tokv t ht).1;rw[this]at hu;cases hu
   .by_cases c':t=d
    .subst c';rw[azh]at e1;exact(k2 b e2).2 e1
    .have ht:upd A d (some (.mk o e xs)) t≠none:=ht;rw[azo _ _ c']at ht;have:=haus t (by rw[<-(hA t ht).1];exact ht);rw[this]at hu;cases hu
theorem SimAt.arT (h:SimAt P tb N W a0 g0 w0 D0 s g μ τ a w)(he:Ext g w g' w' D){d:Nat}(hd:d<N)(hW:W d)(hun:s.used d=false)
 (hD:∀b,b<w.heap.size->D b->w0.heap.size<=b\/D0 b)
 (hDt:∀t b,s.tok t=true->τ t=some b->¬D b) (hDl:∀i,azn s i->¬D (μ i))
 {b?:Option Nat} (hb:∀b,b?=some b->(w0.heap.size<=b\/D0 b)/\∀t,s.tok t=true->τ t≠some b)
 {A:Nat->Option (Ar tb.T)} (hA:∀i,A i≠none->A i=s.arr i/\∀b,τ i=some b->¬D b/\b?≠some b)
 {e:Nat} {xs:List (tb.T e)} {v:Value} (hr:fzB P tb g' w' b? e xs) (ho:fzh P w' b? e xs.length v) :
 SimAt P tb N W a0 g0 w0 D0 {s with env:=upd s.env d (some (.c (.vsl e d))),arr:=upd A d (some (.mk true e xs)),used:=upd s.used d true} g' (upd μ d xs.length) (upd τ d b?) (a.put (some d) v) w':=by
 have h1:=h.newAT he hun hD hDt hDl hb hA (o:=true) hr;exact h1.put hd hW (v:=.c (.vsl e d)) (u:=v) (by
  simp only[RepV,RepC,azh];exact ho) (by simp[SV.ids,AC.ids,azh])
theorem SimAt.setArr (h:SimAt P tb N W a0 g0 w0 D0 s g μ τ a w){i b e:Nat}{xs xs':List (tb.T e)}{us c':Array Value}{el:Nat}{fz:Nat×Nat}(hi:s.arr i=some (.mk true e xs))(hb:τ i=some b)
 (hw:w.heap[b]?=some (.cells us el fz)) (ho:OneBlock w w' b (.cells c' el fz)) (hs:c'.size=us.size) (hr:fzB P tb g w' (some b) e xs') (hl:xs'.length=xs.length) :
 SimAt P tb N W a0 g0 w0 D0 {s with arr:=upd s.arr i (some (.mk true e xs'))} g μ τ a w':=by
 obtain⟨k1,k2,k3,k4⟩:=h.arr i _ e xs hi;obtain⟨k5,k6⟩:=k3 rfl;have hg:g b = .ar 0:=hr.at.1;have he:Ext g w g w' (fun j=>j=b):=by
  have:=Ext.arr1 (g:=g) (n:=0) (n':=0) hw ho hg (Nat.le_refl _) (fun i hi=>by omega) hs;have e1:upd g b (.ar 0)=g:=funext fun j=>by
   by_cases c:j=b
   .subst c;rw[azh,hg]
   .exact azo _ _ c
  rwa[e1]at this
 refine h.move he (fun j _ e=>by rw[e];exact k6 b hb) rfl (fun _ h=>h) rfl (fun _ _=>⟨rfl,rfl⟩) (fun t _ ht=>⟨ht,fun b' hb' c=>(k4 t b (by rw[<-c];exact hb') hb).1 ht⟩) (fun j cs hj=>.inl ⟨hj,fun c=>?_⟩) (fun j o hj=>.inl ⟨hj,fun c=>?_⟩) (fun j hj=>.inl hj) (fun j _ hj _ lj=>absurd hj lj) h.excl (fun t ht hu=>?_) (fun t u b ht hu hun'=>?_) (fun j hj _ c=>?_) (fun j o e' ys hj=>?_)
 .have:=(h.live j (.inl (by rw[show s.blk j=some cs from hj];simp))).2.1;rw[c,hg]at this;cases this
 .have:=(h.live j (.inr (by rw[show s.itr j=some o from hj];simp))).2.1;rw[c,hg]at this;cases this
 .have:=(h.tokv t ht).1;rw[this]at hu;cases hu
 .have:=(h.tokv t ht).1;rw[this]at hun';cases hun'
 .have:=(h.live j hj).2.1;rw[c,hg]at this;cases this
 .have hj:upd s.arr i (some (.mk true e xs')) j=some (.mk o e' ys):=hj;have hsome:∀t,upd s.arr i (some (.mk true e xs')) t≠none->s.arr t≠none:=fun t ht=>by
   by_cases c:t=i
   .subst c;rw[hi];simp
   .rwa[azo _ _ c]at ht
  by_cases c:j=i
  .subst c;rw[azh]at hj;injection hj with hj;injection hj with h1 h2 h3;subst h1;subst h2;have h3:=eq_of_heq h3;subst h3;rw[hb];exact .inr ⟨hr,k2,fun _=>⟨by rw[hl];exact k5,fun b' hb'=>by rw[<-hb]at hb';exact k6 b' hb'⟩,fun t b' e1 e2=>⟨(k4 t b' e1 (by rw[hb];exact e2)).1,fun ht=>(k4 t b' e1 (by rw[hb];exact e2)).2 (hsome t ht)⟩⟩
  .rw[azo _ _ c]at hj;refine .inl ⟨hj,fun b' hb' c2=>c ?_,fun t b' ht hu e1 e2=>?_⟩
   .rw[c2]at hb';exact(k4 j b hb' hb).2 (by rw[hj];simp)
   .rcases ht with ht|ht
    .have:=(h.tokv t ht).1;rw[this]at hu;cases hu
    .have ht:=hsome t ht;cases ha:s.arr t with
     | none=>exact ht ha
     | some z=>obtain⟨o3,e3,xs3⟩:=z;have:=(h.arr t o3 e3 xs3 ha).2.1;rw[this]at hu;cases hu
end Go.Ev
namespace Go.Ev
open Go
open Go.IntKind (i64 u64 u8 i32 u32 i16 u16)
theorem uzl (k:IntKind)(n:Int):inR k (k.wrap n):=by
 unfold inR lo hi IntKind.wrap IntKind.signed IntKind.bits;cases k<;>simp only[]<;>(try split)<;>(simp_all;try omega)
theorem mzK {k:IntKind}{n:Int}(h:inR k n):k.wrap n=n:=by
 unfold inR lo hi at h;unfold IntKind.wrap IntKind.signed IntKind.bits;cases k<;>simp only[]at h ⊢<;>(try split)<;>(simp_all;try omega)
variable {P:Program} {tb:Tab} {g:Gh} {w:World} {μ:Nat->Nat} {τ:Nat->Option Nat} {tok:Nat->Bool}
theorem toList_mk (s:List UInt8):(⟨s.toArray⟩:ByteArray).toList=s:=ByteArray.toList_mk s
theorem lzI (s:List UInt8):(⟨s.toArray⟩:ByteArray).size=s.length:=by simp[ByteArray.size]
theorem KzR {n:Nat}:fits n=true↔n<=bz6:=by simp[fits]
theorem pzD {v:Value}{a:AC tb.T}(h:gzv v=some a):RepC P tb g w μ τ tok a v/\a.ids=[]:=by
 cases v with
 | int k n =>
  simp only[gzv]at h;cases hb:inRB k n<;>simp[hb]at h;subst h;exact⟨.int k n (inRB_iff.1 hb),rfl⟩
 | bool b=>simp only[gzv,sE0]at h;subst h;exact⟨.bool b,rfl⟩
 | string s =>
  simp only[gzv]at h;cases hb:fits s.data.toList.length<;>simp only[hb,cond_true,cond_false,sE0,reduceCtorEq]at h;subst h;refine⟨?_,rfl⟩;have:=RepD.str (P:=P) (tb:=tb) (g:=g) (w:=w) s.data.toList (KzR.1 hb);rw[Lib.mk_data]at this;exact this
 | slice x l c =>
  cases x with
  | some x=>simp[gzv]at h
  | none =>
   cases l with
   | succ l=>simp[gzv]at h
   | zero=>cases c with
    | succ c=>simp[gzv]at h
    | zero=>simp only[gzv,sE0]at h;subst h;exact⟨.nil,rfl⟩
 | pointer o =>
  cases o with
  | none=>simp only[gzv,sE0]at h;subst h;exact⟨rfl,rfl⟩
  | some x=>simp[gzv]at h
 | nilIface=>simp only[gzv,sE0]at h;subst h;exact⟨.nli,rfl⟩
 | nilFunc=>simp only[gzv,sE0]at h;subst h;exact⟨rfl,rfl⟩
 | _=>simp[gzv]at h
theorem tzq:∀{vs:List Value} {Nz0:List (AC tb.T)},nzF vs=some Nz0->All2 (RepC P tb g w μ τ tok) Nz0 vs/\∀a∈Nz0,a.ids=[]
 | [],Nz0,h=>by simp only[nzF,sE0]at h;subst h;exact⟨trivial,by simp⟩
 | v::vs,Nz0,h=>by
  simp only[nzF]at h;cases h1:(gzv v:Option (AC tb.T))with
  | none=>simp[h1]at h
  | some a =>
   cases h2:(nzF vs:Option (List (AC tb.T)))with
   | none=>simp[h1,h2]at h
   | some as' =>
    simp only[h1,h2,sE0]at h;subst h;obtain⟨k1,k2⟩:=tzq h2;refine⟨⟨(pzD h1).1,k1⟩,fun a ha=>?_⟩;rcases List.mem_cons.1 ha with e|e
    .subst e;exact(pzD (P:=P) (g:=g) (w:=w) (μ:=μ) (τ:=τ) (tok:=tok) h1).2
    .exact k2 a e
theorem Mzm {op:BinOp}{k:IntKind}{a b:Int}{c:CV tb.T}{xt:Nat}(h:Bzx op k a b some=some c)(ha:inR k a)(hb:inR k b)
 (hs:op≠.shl/\op≠.shr):∃u,(binOp op xt (.int k a) (.int k b)).run P w = .ok u w/\RepD P tb g w c u:=by
 have hw:=uzl k;cases op<;>simp only[Bzx,sE0,reduceCtorEq,ne_eq]at h hs
 case add=>subst h;exact⟨_,by simp[binOp,Op.intArith],.int _ _ (hw _)⟩
 case sub=>subst h;exact⟨_,by simp[binOp,Op.intArith],.int _ _ (hw _)⟩
 case mul=>subst h;exact⟨_,by simp[binOp,Op.intArith],.int _ _ (hw _)⟩
 case quo =>
  by_cases h0:b=0
  .simp[h0]at h
  .simp only[h0,decide_false,azc,sE0]at h;subst h;exact⟨_,by simp[binOp,Op.intDiv,h0],.int _ _ (hw _)⟩
 case rem =>
  by_cases h0:b=0
  .simp[h0]at h
  .simp only[h0,decide_false,azc,sE0]at h;subst h;refine⟨_,by simp[binOp,Op.intDiv,h0],.int _ _ ?_⟩;have h1:a.tmod b=a-b*a.tdiv b:=by have:=Int.mul_tdiv_add_tmod a b;omega
   have h2:(a.tmod b).natAbs<=a.natAbs:=by
    rw[Int.natAbs_tmod];exact Nat.mod_le _ _
   have h3:0<=a->0<=a.tmod b:=fun h=>Int.tmod_nonneg b h
   have h4:a<=0->a.tmod b<=0:=fun h=>by
    have:=Int.tmod_nonneg b (show 0<=-a by omega);rw[Int.neg_tmod]at this;omega
   clear h1;generalize a.tmod b=r at *;have hlo:lo k<=0:=by unfold lo;cases k<;>simp
   have hhi:0<=hi k:=by unfold hi;cases k<;>simp
   unfold inR at *;rcases Int.le_total 0 a with h0|h0
   .have:=h3 h0;constructor<;>omega
   .have:=h4 h0;constructor<;>omega
 case and=>subst h;exact⟨_,by simp[binOp,Op.intBits,czg],.int _ _ (hw _)⟩
 case or=>subst h;exact⟨_,by simp[binOp,Op.intBits,czg],.int _ _ (hw _)⟩
 case xor=>subst h;exact⟨_,by simp[binOp,Op.intBits,czg],.int _ _ (hw _)⟩
 case andNot=>subst h;exact⟨_,by simp[binOp,Op.intBits,czg],.int _ _ (hw _)⟩
 case eql=>subst h;exact⟨_,by simp[binOp,Op.intCmp];rfl,.bool _⟩
 case neq=>subst h;exact⟨_,by simp[binOp,Op.intCmp];rfl,.bool _⟩
 case lss=>subst h;exact⟨_,by simp[binOp,Op.intCmp],.bool _⟩
 case leq=>subst h;exact⟨_,by simp[binOp,Op.intCmp],.bool _⟩
 case gtr=>subst h;exact⟨_,by simp[binOp,Op.intCmp],.bool _⟩
 case geq=>subst h;exact⟨_,by simp[binOp,Op.intCmp],.bool _⟩
theorem yzm {op:BinOp}{k k':IntKind}{a b:Int}{c:CV tb.T}{xt:Nat}(h:tze op k a b some=some c)(ha:inR k a)
 (hs:op = .shl\/op = .shr):∃u,(binOp op xt (.int k a) (.int k' b)).run P w = .ok u w/\RepD P tb g w c u:=by
 have hw:=uzl k;unfold tze at h;by_cases hb:b<0
 .simp[hb]at h
 .simp only[hb,decide_false,azc]at h;rcases hs with rfl|rfl
  .simp only[sE0]at h;subst h;exact⟨_,by simp[binOp,Op.shift,hb],.int _ _ (hw _)⟩
  .simp only[sE0]at h;subst h;refine⟨_,by simp[binOp,Op.shift,hb],.int _ _ ?_⟩;have hp:(0:Int)<2^(min b.toNat k.bits):=Int.pow_pos (by decide);generalize (2:Int)^(min b.toNat k.bits)=p at *;rw[Int.fdiv_eq_ediv_of_nonneg _ (by omega)];have hlo:lo k<=0:=by unfold lo;cases k<;>simp
   have hhi:0<=hi k:=by unfold hi;cases k<;>simp
   unfold inR at *;rcases Int.le_total 0 a with h0|h0
   .have h1:=Int.ediv_nonneg h0 (show 0<=p by omega);have h2:=Int.ediv_le_self p h0;constructor<;>omega
   .have h1:a<=a/p:=by
     rw[Int.le_ediv_iff_mul_le hp];have:=Int.mul_le_mul_of_nonpos_left h0 (show(1:Int)<=p by omega);omega
    have h2:a/p<=0:=by have:=Int.ediv_le_ediv hp h0;simpa using this
    constructor<;>omega
theorem Mzq {op:BinOp}{x y:List UInt8}{c:CV tb.T}{xt:Nat}(h:Bzy op x y some=some c):
 ∃u,(binOp op xt (.string ⟨x.toArray⟩) (.string ⟨y.toArray⟩)).run P w = .ok u w/\RepD P tb g w c u:=by
 have hd:∀a b:List UInt8,(a == b)=decide (a=b):=fun a b=>by
  by_cases e:a=b
  .subst e;simp
  .simp[e]
 cases op<;>simp only[Bzy,sE0,reduceCtorEq]at h
 case add =>
  obtain⟨z,hz,h⟩:=azp.1 h;simp only[sE0]at h;subst h;unfold cat at hz;cases hf:fits (x.length+y.length)<;>simp[hf]at hz;subst hz;have hl:=KzR.1 hf;refine⟨.string ⟨(x++y).toArray⟩,?_,.str _ (by simpa using hl)⟩;have hn:¬(((x.length+y.length:Nat):Int)>i64.max):=by
   show ¬(((x.length+y.length:Nat):Int)>9223372036854775807)
   unfold bz6 at hl;omega
  have ha:(⟨x.toArray⟩:ByteArray)++(⟨y.toArray⟩:ByteArray)=⟨(x++y).toArray⟩:=by
   apply ByteArray.ext;simp
  simp only[binOp,Op.stringOp,lzI,if_neg hn,ha,Sem.run_pure]
 case eql=>subst h;exact⟨_,by simp only[binOp,Op.stringOp,toList_mk,hd,Sem.run_pure],.bool _⟩
 case neq=>subst h;exact⟨_,by simp only[binOp,Op.stringOp,toList_mk,hd,Sem.run_pure],.bool _⟩
 case lss=>subst h;exact⟨_,by simp only[binOp,Op.stringOp,toList_mk,Sem.run_pure];rfl,.bool _⟩
 case leq=>subst h;exact⟨_,by simp only[binOp,Op.stringOp,toList_mk,hd,Sem.run_pure];rfl,.bool _⟩
 case gtr=>subst h;exact⟨_,by simp only[binOp,Op.stringOp,toList_mk,hd,Sem.run_pure];rfl,.bool _⟩
 case geq=>subst h;exact⟨_,by simp only[binOp,Op.stringOp,toList_mk,Sem.run_pure];rfl,.bool _⟩
end Go.Ev
namespace Go.Ev
open Go
open Go.IntKind (i64 u64 u8 i32 u32 i16 u16)
variable {P:Program} {tb:Tab} {g:Gh} {w:World} {μ:Nat->Nat} {τ:Nat->Option Nat} {tok:Nat->Bool}
theorem Mzg {T:Nat->Type}{R:Type}{l:Nat}{c d:CV T}{κ:Bool->Option R}{r:R}(h:wzb l c d κ=some r):kin l c d/\κ (eq1 c d)=some r:=by
 unfold wzb at h;split at h
 .rename_i k a k' b;by_cases e:k=k'
  .simp only[e,decide_true,cond_true]at h;exact⟨e,h⟩
  .simp[e]at h
 .exact⟨trivial,h⟩
 .exact⟨trivial,h⟩
 .cases h
theorem zzH {T:Nat->Type}{R:Type}:∀{ls:List Nat} {cs ds:List (CV T)} {κ:Bool->Option R} {r:R},ez8 ls cs ds κ=some r->Kin ls cs ds/\κ (eqB cs ds)=some r
 | [],[],[],κ,r,h=>⟨trivial,h⟩
 | l::ls,x::xs,y::ys,κ,r,h=>by
  simp only[ez8]at h;obtain⟨h1,h2⟩:=Mzg h;cases ls with
  | nil =>
   cases xs with
   | nil=>cases ys with
    | nil=>exact⟨⟨h1,trivial⟩,by simpa[eqB]using h2⟩
    | cons y ys=>cases h2
   | cons x xs=>cases h2
  | cons l' ls =>
   obtain⟨h3,h4⟩:=zzH h2;exact⟨⟨h1,h3⟩,by simpa[eqB]using h4⟩
 | [],[],_::_,_,_,h=>by simp[ez8]at h
 | [],_::_,_,_,_,h=>by simp[ez8]at h
 | _::_,[],_,_,_,h=>by simp[ez8]at h
 | _::_,_::_,[],_,_,h=>by simp[ez8]at h
theorem Kin.length {T:Nat->Type}:∀{ls:List Nat} {cs ds:List (CV T)},Kin ls cs ds->cs.length=ls.length/\ds.length=ls.length
 | [],[],[],_=>⟨rfl,rfl⟩
 | _::_,_::_,_::_,⟨_,h⟩=>by simp[Kin.length h]
 | [],[],_::_,h=>h.elim
 | [],_::_,_,h=>h.elim
 | _::_,[],_,h=>h.elim
 | _::_,_::_,[],h=>h.elim
theorem Kin.split {T:Nat->Type}:∀{ls ms:List Nat} {cs ds:List (CV T)},Kin (ls++ms) cs ds ->
 Kin ls (cs.take ls.length) (ds.take ls.length)/\Kin ms (cs.drop ls.length) (ds.drop ls.length)/\eqB cs ds=(eqB (cs.take ls.length) (ds.take ls.length)&&eqB (cs.drop ls.length) (ds.drop ls.length))
 | [],ms,cs,ds,h=>by simpa[Kin,eqB]using h
 | l::ls,ms,[],ds,h=>by cases ds<;>exact h.elim
 | l::ls,ms,_::_,[],h=>h.elim
 | l::ls,ms,c::cs,d::ds,h=>by
  obtain⟨h1,h2⟩:=h;obtain⟨k1,k2,k3⟩:=Kin.split (ls:=ls) (ms:=ms) h2;refine⟨⟨h1,k1⟩,k2,?_⟩;simp only[eqB,List.length_cons,List.take_succ_cons,List.drop_succ_cons,k3,Bool.and_assoc]
theorem rzI {t:Nat}{d:TypeDesc}(h:P.underlying t=some d):∃i,P.info? t=some i:=by
 unfold Program.underlying at h;cases hi:P.info? t with
 | none=>simp[hi]at h
 | some i=>exact⟨i,rfl⟩
theorem dz4 {t:Nat}(h:czR P t=true):∃i,P.info? t=some i:=by
 unfold czR Program.cellsOf at h;cases hi:P.info? t with
 | none=>simp[hi]at h
 | some i=>exact⟨i,rfl⟩
theorem jzG {t:Nat}{i:TypeInfo}(h:P.info? t=some i)(w:World):(typeInfo t).run P w = .ok i w:=by
 simp[typeInfo,h]
theorem czj {t:Nat}(h:∃i,P.info? t=some i)(w:World):(sizeOf t).run P w = .ok (P.cellsOf t) w:=by
 obtain⟨i,h⟩:=h;simp[sizeOf,jzG h,Program.cellsOf,h]
theorem qzj {t:Nat}{b:Bool}(h:ezO P t=some b)(w:World):(isAgg t).run P w = .ok b w:=by
 unfold ezO at h;cases hu:P.underlying t with
 | none=>simp[hu]at h
 | some d =>
  cases d<;>simp only[hu,sE0]at h<;>subst h<;>simp[isAgg,run_underlying hu]
theorem ozo {t:Nat}{b:Bool}(h:ezO P t=some b):∃d,P.underlying t=some d:=by
 unfold ezO at h;cases hu:P.underlying t with
 | none=>simp[hu]at h
 | some d=>exact⟨d,rfl⟩
theorem uzb {t:Nat}(h:ezO P t=some true)(cs:Array Value)(off:Nat)(w:World):(part t cs off).run P w = .ok (.agg (cs.extract off (off+P.cellsOf t))) w:=by
 obtain⟨d,hd⟩:=ozo h;simp[part,qzj h,czj (rzI hd)]
theorem szd {t:Nat}(h:ezO P t=some false){cs:Array Value}{off:Nat}{v:Value}(hv:cs[off]?=some v)(w:World):(part t cs off).run P w = .ok v w:=by
 simp[part,qzj h,hv]
def Bzn (P:Program)(t:Nat)(us:List Value)(v:Value):Prop:=(ezO P t=some true/\v = .agg us.toArray)\/(ezO P t=some false/\us=[v])
theorem pzT {d t:Nat}{ls:List Nat}(h:cz8 P d t=some ls):∃b,ezO P t=some b/\(b=false->ls.length=1):=by
 cases d with
 | zero=>simp[cz8]at h
 | succ d =>
  simp only[cz8]at h;unfold ezO;cases hu:P.underlying t with
  | none=>simp[hu]at h
  | some d' =>
   cases d'<;>simp only[hu,sE0,reduceCtorEq]at h ⊢
   all_goals first
    | (subst h;exact⟨false,rfl,fun _=>rfl⟩)
    | exact⟨true,rfl,fun e=>by cases e⟩
theorem uza:∀(d t:Nat) (ls:List Nat),cz8 P d t=some ls->∀(D:Nat),d<=D->∀(cs ds:List (CV tb.T)) (us vs:List Value) (u v:Value),Kin ls cs ds ->
 All2 (RepD P tb g w) cs us->All2 (RepD P tb g w) ds vs->Bzn P t us u->Bzn P t vs v ->
 (Op.equalIn D t u v).run P w = .ok (eqB cs ds) w:=by
 intro d;induction d with
 | zero=>intro t ls h;simp[cz8]at h
 | succ d ih =>
  intro t ls h D hD cs ds us vs u v hk hc hd hsu hsv;obtain⟨D,rfl⟩:∃D',D=D'+1:=⟨D-1,by omega⟩;simp only[cz8]at h;cases hu:P.underlying t with
  | none=>simp[hu]at h
  | some ty =>
   have scalar:ezO P t=some false->∃c d' x y,cs=[c]/\ds=[d']/\u=x/\v=y/\RepD P tb g w c x/\RepD P tb g w d' y/\us=[x]/\vs=[y]:=fun ha=>by
    rcases hsu with⟨h1,_⟩|⟨_,h1⟩
    .rw[ha]at h1;cases h1
    rcases hsv with⟨h2,_⟩|⟨_,h2⟩
    .rw[ha]at h2;cases h2
    subst h1;subst h2;cases cs with
    | nil=>exact hc.elim
    | cons c cs =>
     obtain⟨r1,r2⟩:=hc;cases cs with
     | cons _ _=>exact r2.elim
     | nil =>
      cases ds with
      | nil=>exact hd.elim
      | cons d' ds =>
       obtain⟨q1,q2⟩:=hd;cases ds with
       | cons _ _=>exact q2.elim
       | nil=>exact⟨c,d',u,v,rfl,rfl,rfl,rfl,r1,q1,rfl,rfl⟩
   cases ty<;>simp only[hu,sE0,reduceCtorEq]at h
   case int k =>
    subst h;obtain⟨c,d',x,y,rfl,rfl,rfl,rfl,r1,r2,_,_⟩:=scalar (by simp[ezO,hu]);obtain⟨hk,_⟩:=hk;cases c<;>cases d'<;>simp only[kin]at hk;cases r1;cases r2;subst hk;rw[run_equalIn_int _ _ _ _ _ _ _ hu];simp[eqB,eq1];rfl
   case bool =>
    subst h;obtain⟨c,d',x,y,rfl,rfl,rfl,rfl,r1,r2,_,_⟩:=scalar (by simp[ezO,hu]);obtain⟨hk,_⟩:=hk;cases c<;>cases d'<;>simp only[kin]at hk;cases r1;cases r2;rw[run_equalIn_bool' _ _ _ _ _ hu];simp[eqB,eq1];rfl
   case string =>
    subst h;obtain⟨c,d',x,y,rfl,rfl,rfl,rfl,r1,r2,_,_⟩:=scalar (by simp[ezO,hu]);obtain⟨hk,_⟩:=hk;cases c<;>cases d'<;>simp only[kin]at hk;cases r1;cases r2;rw[run_equalIn_string _ _ _ _ _ hu,toList_mk,toList_mk];have key:∀a b:List UInt8,(a == b)=eqB [CV.str (T:=tb.T) a] [CV.str b]:=fun a b=>by
     by_cases e:a=b
     .subst e;simp[eqB,eq1]
     .simp[eqB,eq1,e]
    rw[key]
   case struct fs =>
    have ha:ezO P t=some true:=by simp[ezO,hu]
    rcases hsu with⟨_,hsu⟩|⟨h1,_⟩
    .rcases hsv with⟨_,hsv⟩|⟨h1,_⟩
     .subst hsu;subst hsv;cases hst:P.stoodInHeld t with
      | true=>simp[hst]at h
      | false =>
       simp only[hst,cond_false]at h;have hf:P.fieldsOf t=fs:=by simp[Program.fieldsOf,hu]
       rw[run_equalIn_struct _ _ _ _ _ (by rw[hf];exact hu) hst,hf];have key:∀(fl:List Field) (o:Nat) (ls:List Nat),cz8.leavesF (cz8 P d) P fl o=some ls->∀(cs ds:List (CV tb.T)),Kin ls cs ds ->
        All2 (RepD P tb g w) cs (us.drop o)->All2 (RepD P tb g w) ds (vs.drop o) ->
        (Op.eqFields D us.toArray vs.toArray fl).run P w = .ok (eqB cs ds) w:=by
        intro fl;induction fl with
        | nil =>
         intro o ls hl cs ds hk hc hd;simp only[cz8.leavesF,sE0]at hl;subst hl;cases cs with
         | cons _ _=>exact hk.elim
         | nil=>cases ds with
          | cons _ _=>exact hk.elim
          | nil=>simp[Op.eqFields,eqB]
        | cons f fl ihf =>
         intro o ls hl cs ds hk hc hd;simp only[cz8.leavesF]at hl;cases hnm:(f.name == "_"||!Nat.beq f.offset o)with
         | true=>simp[hnm]at hl
         | false =>
          simp only[hnm,cond_false]at hl;simp only[Bool.or_eq_false_iff]at hnm;obtain⟨hn1,hn2⟩:=hnm;have hoff:f.offset=o:=by
           have:Nat.beq f.offset o=true:=by simpa using hn2
           exact Nat.eq_of_beq_eq_true this
          have hname:f.name ≠ "_":=by intro e;rw[e]at hn1;simp at hn1
          cases hl1:cz8 P d f.type with
          | none=>simp[hl1]at hl
          | some l1 =>
           simp only[hl1]at hl;cases hb:Nat.beq l1.length (P.cellsOf f.type)with
           | false=>simp[hb]at hl
           | true =>
            simp only[hb,cond_true]at hl;have hsz:=Nat.eq_of_beq_eq_true hb;cases hl2:cz8.leavesF (cz8 P d) P fl (o+l1.length)with
            | none=>simp[hl2]at hl
            | some l2 =>
             simp only[hl2,sE0]at hl;subst hl;obtain⟨k1,k2,k3⟩:=Kin.split hk;have c1:=hc.take l1.length;have c2:=hc.drop l1.length;have d1:=hd.take l1.length;have d2:=hd.drop l1.length;rw[List.drop_drop]at c2 d2;have hlen:=Kin.length k1;obtain⟨b,hb1,hb2⟩:=pzT hl1;have parts:∀zs:List Value,((zs.drop o).take l1.length).length=l1.length->∃p,(part f.type zs.toArray f.offset).run P w = .ok p w/\Bzn P f.type ((zs.drop o).take l1.length) p:=fun zs hz=>by
              cases b with
              | true =>
               refine⟨_,uzb hb1 _ _ _,.inl ⟨hb1,?_⟩⟩;rw[hoff,<-hsz];apply congrArg;apply Array.ext';simp[List.take_drop]
              | false =>
               have h1:=hb2 rfl;rw[h1]at hz ⊢;cases hz':zs.drop o with
               | nil=>rw[hz']at hz;simp at hz
               | cons z zr =>
                refine⟨z,szd hb1 (by
                 rw[hoff];have:(zs.drop o)[0]?=some z:=by rw[hz'];rfl
                 rw[List.getElem?_drop]at this;simpa using this) _,.inr ⟨hb1,by simp⟩⟩
             obtain⟨pu,hpu,su⟩:=parts us (by rw[<-c1.length];exact hlen.1);obtain⟨pv,hpv,sv⟩:=parts vs (by rw[<-d1.length];exact hlen.2);have he:=ih f.type l1 hl1 D (by omega) _ _ _ _ _ _ k1 c1 d1 su sv;have hr:=ihf (o+l1.length) l2 hl2 _ _ k2 c2 d2;simp only[Op.eqFields,hname,ne_eq,not_false_eq_true,if_true,Sem.run_bind,hpu,hpv,he,Result.andThen_ok,Sem.run_ite,hr];rw[k3];cases eqB (List.take l1.length cs) (List.take l1.length ds)<;>simp
       exact key fs.toList 0 ls h cs ds hk (by simpa using hc) (by simpa using hd)
     .rw[ha]at h1;cases h1
    .rw[ha]at h1;cases h1
end Go.Ev
namespace Go.Ev
open Go
open Go.IntKind (i64 u64 u8 i32 u32 i16 u16)
variable {P:Program} {tb:Tab} {g:Gh} {w:World} {μ:Nat->Nat} {τ:Nat->Option Nat} {tok:Nat->Bool}
theorem xzl {a:AC tb.T}{c:CV tb.T}{v:Value}(h:a.cv=some c)(hr:RepC P tb g w μ τ tok a v):RepD P tb g w c v:=by
 cases a<;>simp only[AC.cv,sE0,reduceCtorEq]at h
 .subst h;exact hr
 .subst h;exact hr.1
theorem iz6:∀{Nz0:List (AC tb.T)} {cs:List (CV tb.T)} {vs:List Value},cvs Nz0=some cs->All2 (RepC P tb g w μ τ tok) Nz0 vs->All2 (RepD P tb g w) cs vs
 | [],cs,vs,h,hr=>by
  simp only[cvs,sE0]at h;subst h;cases vs with
  | nil=>trivial
  | cons _ _=>exact hr.elim
 | a::Nz0,cs,[],h,hr=>hr.elim
 | a::Nz0,cs,v::vs,h,⟨h1,h2⟩=>by
  simp only[cvs]at h;cases ha:a.cv with
  | none=>simp[ha]at h
  | some c =>
   cases hs:cvs Nz0 with
   | none=>simp[ha,hs]at h
   | some cs' =>
    simp only[ha,hs,sE0]at h;subst h;exact⟨xzl ha h1,iz6 hs h2⟩
theorem RepD.inR {c:CV tb.T}{v:Value}(h:RepD P tb g w c v):c.inR:=by
 cases h<;>first|assumption|trivial
theorem Hzq:∀{cs:List (CV tb.T)} {vs:List Value},All2 (RepD P tb g w) cs vs->∀c∈cs,c.inR
 | [],_,_,c,hc=>by simp at hc
 | c::cs,v::vs,⟨h1,h2⟩,d,hd=>by
  rcases List.mem_cons.1 hd with e|e
  .subst e;exact h1.inR
  .exact Hzq h2 d e
 | _::_,[],h,_,_=>h.elim
theorem RepD.le {c d:CV tb.T}{v:Value}(h:RepD P tb g w c v)(hl:CV.le c d):RepD P tb g w d v:=by
 rcases hl with e|⟨e,e',he⟩
 .subst e;exact h
 .subst e;subst he;cases h;exact .slnil e'
theorem all_le:∀{cs ds:List (CV tb.T)} {vs:List Value},All2 (RepD P tb g w) cs vs->All2 CV.le cs ds->All2 (RepD P tb g w) ds vs
 | [],[],[],_,_=>trivial
 | _::_,_::_,_::_,⟨h1,h2⟩,⟨l1,l2⟩=>⟨h1.le l1,all_le h2 l2⟩
 | [],[],_::_,h,_=>h.elim
 | [],_::_,_,_,l=>l.elim
 | _::_,[],_,_,l=>l.elim
 | _::_,_::_,[],h,_=>h.elim
theorem jz9 {e:Nat}{cs:List (CV tb.T)}{x:tb.T e}{vs:List Value}(h:tb.dec e cs=some x)(hr:All2 (RepD P tb g w) cs vs):All2 (RepD P tb g w) (tb.enc e x) vs :=
 all_le hr (tb.ok e cs x h (Hzq hr))
theorem Mzh (op:BinOp)(xt:Nat)(x y:Operand)(k k':IntKind)(a b:Int)(w:World):(eqGuard op xt x y (.int k a) (.int k' b)).run P w = .ok () w:=by
 cases op<;>simp[eqGuard]
theorem Mzi (op:BinOp)(xt:Nat)(x y:Operand)(a b:ByteArray)(w:World):(eqGuard op xt x y (.string a) (.string b)).run P w = .ok () w:=by
 cases op<;>simp[eqGuard]
theorem KzH (op:BinOp)(xt:Nat)(x y:Operand)(a b:Bool)(w:World):(eqGuard op xt x y (.bool a) (.bool b)).run P w = .ok () w:=by
 cases op<;>simp[eqGuard]
theorem Mzj {op:BinOp}{xt:Nat}{x y:SV tb.T}{c:CV tb.T}{ox oy:Operand}{u v:Value}(h:Bzw P op xt x y some=some c)(hx:RepV P tb g w μ τ tok x u)(hy:RepV P tb g w μ τ tok y v):
 ∃r,(do eqGuard op xt ox oy u v;binOp op xt u v:Sem Value).run P w = .ok r w/\RepD P tb g w c r:=by
 unfold Bzw at h;split at h
 .rename_i k a k' b;cases hx;cases hy;rename_i ha hb;simp only[Sem.run_bind,Mzh,Result.andThen_ok];split at h
  .exact yzm h ha (.inl rfl)
  .exact yzm h ha (.inr rfl)
  .by_cases e:k=k'
   .subst e;simp only[decide_true,cond_true]at h;exact Mzm h ha hb ⟨by assumption,by assumption⟩
   .simp[e]at h
 .cases hx;cases hy;simp only[Sem.run_bind,Mzi,Result.andThen_ok];exact Mzq h
 .rename_i a b;cases hx;cases hy;simp only[Sem.run_bind,KzH,Result.andThen_ok];split at h
  .rename_i hu;have he:∀a b:Bool,(Op.equal xt (.bool a) (.bool b)).run P w = .ok (decide (a=b)) w:=fun a b=>by
    rw[Op.equal,Op.maxDepth,run_equalIn_bool' _ _ _ _ _ hu];rfl
   split at h
   .simp only[sE0]at h;subst h;exact⟨_,by simp[binOp,he],.bool _⟩
   .simp only[sE0]at h;subst h;exact⟨_,by simp[binOp,he],.bool _⟩
   .cases h
  .cases h
 .rename_i xs ys;obtain⟨us,rfl,hxs⟩:=hx;obtain⟨vs,rfl,hys⟩:=hy;have key:∀neg,evEq P neg xt xs ys some=some c->∃r:Bool,P.eqGuardType P.depth xt=false/\(Op.equalIn 10000 xt (.agg us.toArray) (.agg vs.toArray)).run P w = .ok r w/\c = .bool (bif neg then !r else r):=by
   intro neg h;unfold evEq at h;cases hg:P.eqGuardType P.depth xt with
   | true=>simp[hg]at h
   | false =>
    cases hag:bzw P xt with
    | false=>simp[hg,hag]at h
    | true =>
     simp only[hg,hag,Bool.not_true,Bool.or_self,cond_false]at h;cases hl:cz8 P 20 xt with
     | none=>simp[hl]at h
     | some ls =>
      cases h1:cvs xs with
      | none=>simp[hl,h1]at h
      | some cs =>
       cases h2:cvs ys with
       | none=>simp[hl,h1,h2]at h
       | some ds =>
        simp only[hl,h1,h2]at h;obtain⟨k1,k2⟩:=zzH h;simp only[sE0]at k2;obtain⟨b,hb,hb'⟩:=pzT hl;refine⟨eqB cs ds,rfl,?_,k2.symm⟩;cases b with
        | true=>exact uza 20 xt ls hl 10000 (by omega) cs ds us vs _ _ k1 (iz6 h1 hxs) (iz6 h2 hys) (.inl ⟨hb,rfl⟩) (.inl ⟨hb,rfl⟩)
        | false =>
         unfold bzw at hag;rw[hb]at hag;cases hag
  split at h
  .obtain⟨r,hg,hr,rfl⟩:=key _ h;refine⟨.bool r,?_,.bool _⟩;simp only[Sem.run_bind,run_eqGuard_agg _ _ _ _ _ _ _ hg,Result.andThen_ok,run_eql_struct,hr]
  .obtain⟨r,hg,hr,rfl⟩:=key _ h;refine⟨.bool (!r),?_,.bool _⟩;simp only[Sem.run_bind,run_eqGuard_agg _ _ _ _ _ _ _ hg,Result.andThen_ok,run_neq_struct,hr]
  .cases h
 .cases h
theorem Mz8 {op:UnOp}{x:SV tb.T}{c:CV tb.T}{u:Value}(h:evUn op x some=some c)(hx:RepV P tb g w μ τ tok x u):
 ∃r,(Op.unary op u).run P w = .ok r w/\RepD P tb g w c r:=by
 unfold evUn at h;split at h
 .rename_i k a;cases hx;split at h
  .simp only[sE0]at h;subst h;exact⟨_,by simp[Op.unary,Op.intArith],.int _ _ (uzl _ _)⟩
  .simp only[sE0]at h;subst h;refine⟨_,?_,.int _ _ (uzl _ _)⟩;have:(if k.signed=true then(-1:Int)else k.max)=bif k.signed then -1 else k.max:=by cases k.signed<;>rfl
   simp only[Op.unary,Op.intBits,czg,this,Sem.run_pure]
  .cases h
 .cases hx;split at h
  .simp only[sE0]at h;subst h;exact⟨_,by simp[Op.unary],.bool _⟩
  .cases h
 .cases h
theorem ozW {a:AC tb.T}{e:Nat}{xs:List (tb.T e)}{v:Value}(h:nz3 tb a e=some xs)(hr:RepC P tb g w μ τ tok a v):RepD P tb g w (.sl e xs) v:=by
 unfold nz3 at h;split at h
 .simp only[sE0]at h;subst h;cases hr;exact .slnil e
 .rename_i e' ys;by_cases he:e'=e
  .subst he;simp only[dite_true,sE0]at h;subst h;exact hr
  .simp[he]at h
 .rename_i e' ys t;by_cases he:e'=e
  .subst he;simp only[dite_true,sE0]at h;subst h;exact hr.1
  .simp[he]at h
 .cases h
theorem b8_of {e:Nat}(h:e=tb.b8){l:tb.T e=UInt8}(x:tb.T e):tb.enc e x=[.int .u8 ((cast l x).toNat:Int)]:=by
 subst h;exact tb.hbe x
theorem fzf {e:Nat}{xs:List (tb.T e)}{v:Value}(hr:RepD P tb g w (.sl e xs) v):
 (∃x cap,v = .slice x xs.length cap/\xs.length<=cap/\cap<=bz6) /\
 ((v = .slice none 0 0\/∃x cap,v = .slice (some x) 0 cap/\cap<=bz6)/\xs=[]\/∃b off cap,v = .slice (some ⟨b,off,none⟩) xs.length cap/\xs.length<=cap/\cap<=bz6 /\
  (∀(i:Nat) x,xs[i]?=some x->(tb.enc e x).length=P.cellsOf e)/\(0<xs.length*P.cellsOf e->Fz g w b (off+xs.length*P.cellsOf e)) /\
  ∃val:Nat->Nat->Value,(∀(i:Nat) x (j:Nat) c,xs[i]?=some x->(tb.enc e x)[j]?=some c->w.cell? ⟨b,off+i*P.cellsOf e+j,none⟩=some (val i j)) /\
   ∀(i:Nat) x (j:Nat) c,xs[i]?=some x->(tb.enc e x)[j]?=some c->RepD P tb g w c (val i j)):=by
 cases hr with
 | slnil e=>exact⟨⟨none,0,rfl,Nat.le_refl _,Nat.zero_le _⟩,.inl ⟨.inl rfl,rfl⟩⟩
 | sle e x cap h=>exact⟨⟨some x,cap,rfl,Nat.zero_le _,h⟩,.inl ⟨.inr ⟨x,cap,rfl,h⟩,rfl⟩⟩
 | sl e xs b off cap val h1 h2 h3 h4 h5 h6=>exact⟨⟨_,cap,rfl,h1,h2⟩,.inr ⟨b,off,cap,rfl,h1,h2,h3,h4,val,h5,h6⟩⟩
theorem gz1 (a:Addr)(cs:List Value)(h:∀j v,cs[j]?=some v->w.cell? (a.add j)=some v):(loadCells a cs.length).run P w = .ok cs.toArray w :=
 run_loadCells_list w a cs h
theorem fold_push (l:List UInt8):∀acc:ByteArray,(l.map fun b=>((b.toNat:Int))).foldl (fun r n=>r.push (UInt8.ofNat n.toNat)) acc=⟨(acc.data.toList++l).toArray⟩:=by
 induction l with
 | nil=>intro acc;simp
 | cons b l ih =>
  intro acc;simp only[List.map_cons,List.foldl_cons];rw[ih];simp
theorem Mza {e:Nat}(he:e=tb.b8){xs:List (tb.T e)}{v:Value}(hr:RepD P tb g w (.sl e xs) v)(hl:tb.T e=UInt8)(ht:List (tb.T e)=List UInt8):
 (Conv.bytesToString v).run P w = .ok (.string ⟨(cast ht xs).toArray⟩) w/\(cast ht xs).length<=bz6:=by
 have hc:=(fzf hr).2;have hget:∀i:Nat,(cast ht xs)[i]?=(xs[i]?).map (cast hl):=by
  clear hr hc;revert xs;generalize tb.T e=t at hl ht;subst hl;intro xs i
  show xs[i]?=(xs[i]?).map id
  simp
 have hlen:(cast ht xs).length=xs.length:=by
  clear hr hc hget;revert xs;generalize tb.T e=t at hl ht;subst hl;intro xs;rfl
 rcases hc with⟨hv,rfl⟩|⟨b,off,cap,rfl,h1,h2,h3,h4,val,h5,h6⟩
 .refine⟨?_,by rw[hlen];simp[bz6]⟩;have:cast ht ([]:List (tb.T e))=[]:=List.eq_nil_of_length_eq_zero (by rw[hlen];rfl);rw[this];rcases hv with rfl|⟨x,cap,rfl,_⟩
  .simp[Conv.bytesToString];rfl
  .exact run_bytesToString w x 0 cap [] (gz1 (P:=P) (w:=w) x [] (by simp))
 .refine⟨?_,by rw[hlen];omega⟩;have hsz:∀i x,xs[i]?=some x->P.cellsOf e=1:=fun i x hx=>by
   rw[<-h3 i x hx,b8_of he (l:=hl) x];rfl
  have hcell:∀(i:Nat) x,xs[i]?=some x->w.cell? ⟨b,off+i,none⟩=some (.int .u8 ((cast hl x).toNat:Int)):=fun i x hx=>by
   have he':=b8_of he (l:=hl) x;have k5:=h5 i x 0 _ hx (by rw[he'];rfl);have k6:=h6 i x 0 _ hx (by rw[he'];rfl);rw[hsz i x hx,Nat.mul_one,Nat.add_zero]at k5;rw[k5];generalize val i 0=z at *;cases k6;rfl
  have hload:=gz1 (P:=P) (w:=w) ⟨b,off,none⟩ (((cast ht xs).map fun b=>((b.toNat:Int))).map (Value.int .u8)) (fun j v hv=>by
   rw[ezm];simp only[List.getElem?_map,hget]at hv;cases hx:xs[j]? with
   | none=>simp[hx]at hv
   | some x=>simp[hx]at hv;subst hv;exact hcell j x hx)
  have hll:(((cast ht xs).map fun b=>((b.toNat:Int))).map (Value.int .u8)).length=xs.length:=by simp[hlen]
  rw[hll]at hload;rw[run_bytesToString w _ _ _ _ hload,fold_push];rfl
theorem utf8_len (n:Int):(utf8 n).length<=bz6:=by
 unfold utf8 Utf8.encode bz6;simp only[]
 repeat' split
 all_goals simp
theorem KzI {src dst:Nat}{x:SV tb.T}{c:CV tb.T}{u:Value}(h:wzc P tb src dst x some=some c)(hx:RepV P tb g w μ τ tok x u):
 ∃r,(convert src dst u).run P w = .ok r w/\RepD P tb g w c r:=by
 unfold wzc at h;split at h
 .rename_i us k k0 n hs hd;cases hx;rename_i hn;by_cases e:k0=k
  .subst e;simp only[decide_true,cond_true,sE0]at h;subst h;refine⟨_,by simp[convert,run_underlying hs,run_underlying hd,Conv.intToInt];rfl,?_⟩;rw[mzK hn];exact .int _ _ hn
  .simp only[e,decide_false,cond_false,sE0]at h;subst h;exact⟨_,by simp[convert,run_underlying hs,run_underlying hd,Conv.intToInt],.int _ _ (uzl _ _)⟩
 .rename_i ks n hs hd;cases hx;simp only[sE0]at h;subst h;refine⟨.string ⟨(utf8 n).toArray⟩,?_,.str _ (utf8_len n)⟩;rename_i k _ _;simp only[convert,Sem.run_bind,run_underlying hs,run_underlying hd,Result.andThen_ok,Conv.intToString,Sem.run_pure];congr 2
 .rename_i s hs hd;cases hx;rename_i hl;simp only[sE0]at h;subst h;exact⟨_,by simp[convert,run_underlying hs,run_underlying hd],.str _ hl⟩
 .rename_i e a hs hd;split at h
  .rename_i he;have hx':RepC P tb g w μ τ tok a u:=hx;split at h
   .rename_i hcv;simp only[sE0]at h;subst h;have:=xzl hcv hx';cases this;refine⟨.string ⟨([]:List UInt8).toArray⟩,?_,.str _ (by simp[bz6])⟩;rw[run_convert_bytes_string _ _ _ _ _ _ _ hs he hd];simp[Conv.bytesToString];rfl
   .rename_i e' xs hcv;by_cases he':e'=tb.b8
    .simp only[he',dite_true,sE0]at h;subst h;have hr:=xzl hcv hx';obtain⟨⟨x,cap,rfl,_,_⟩,_⟩:=fzf hr;obtain⟨k1,k2⟩:=Mza he' hr (by rw[he',tb.hb]) (by rw[he',tb.hb]);exact⟨_,by rw[run_convert_bytes_string _ _ _ _ _ _ _ hs he hd];exact k1,.str _ k2⟩
    .simp[he']at h
   .cases h
  .cases h
 .cases h
end Go.Ev
namespace Go.Ev
open Go
open Go.IntKind (i64 u64 u8 i32 u32 i16 u16)
variable {P:Program} {tb:Tab} {g:Gh} {w:World} {μ:Nat->Nat} {τ:Nat->Option Nat} {tok:Nat->Bool}
theorem zzS:∀(vs:List Value) (k off:Nat) (c:Array Value),off+k+vs.length<=c.size ->
 ((vs.zipIdx k).foldl (fun cs (x:Value×Nat)=>cs.setIfInBounds (off+x.2) x.1) c).toList=ez3 c.toList vs (off+k)
 | [],k,off,c,_=>by simp[JzA]
 | v::vs,k,off,c,h=>by
  simp only[List.zipIdx_cons,List.foldl_cons,List.length_cons]at h ⊢;rw[zzS vs (k+1) off _ (by rw[Array.size_setIfInBounds];omega)];rw[Gz3 _ _ _ _ (by simp;omega)];simp[Nat.add_assoc]
theorem cells_one {v:Value}(h:Value.one v=true):v.cells = #[v]:=by
 cases v<;>first|rfl|cases h
theorem ozp {x:SV tb.T}{Nz0:List (AC tb.T)}{v:Value}(h:x.cells=some Nz0)(hr:RepV P tb g w μ τ tok x v):All2 (RepC P tb g w μ τ tok) Nz0 v.cells.toList:=by
 cases x with
 | c a =>
  simp only[SV.cells,sE0]at h;subst h;have hr':RepC P tb g w μ τ tok a v:=hr;rw[cells_one hr'.one];exact⟨hr',trivial⟩
 | agg as' =>
  simp only[SV.cells,sE0]at h;subst h;obtain⟨us,rfl,h⟩:=hr;exact h
 | tup vs=>simp[SV.cells]at h
theorem xz3 {α β:Type}{R:α->β->Prop}{Nz0 bs:List α}{us vs:List β}{o:Nat}(h:All2 R Nz0 us)(k:All2 R bs vs):All2 R (ez3 Nz0 bs o) (ez3 us vs o):=by
 unfold ez3;rw[k.length];exact((h.take o).append k).append (h.drop _)
theorem Kzx {fs:List Field}(h:fs.all (fun f=>(P.info? f.type).isSome)=true):
 fs.mapM (fun f=>(P.info? f.type).map fun i=>(f.offset,i.size))=some (fs.map fun f=>(f.offset,P.cellsOf f.type)):=by
 induction fs with
 | nil=>simp
 | cons f fs ih =>
  simp only[List.all_cons,Bool.and_eq_true]at h;obtain⟨h1,h2⟩:=h;obtain⟨i,hi⟩:=Option.isSome_iff_exists.1 h1;simp[ih h2,hi,Program.cellsOf]
theorem Dzf {t:Nat}{fs:Array Field}(hu:P.underlying t=some (.struct fs)){ρ:Operand->Option (SV tb.T)}{ν:Operand->Value}{U:Nat->Prop}
 (hρ:∀x v,ρ x=some v->RepV P tb g w μ τ tok v (ν x)/\∀i∈v.ids,U i) :
 ∀(ps:List (Nat×Operand)) (cells:List (AC tb.T)) (Nz0:List (AC tb.T)) (c:Array Value),ozJ P t ρ ps cells=some Nz0->All2 (RepC P tb g w μ τ tok) cells c.toList->(∀a∈cells,∀i∈a.ids,U i) ->
  ∃c',Instr.fill ((fs.toList.map fun f=>(f.offset,P.cellsOf f.type)).toArray[·]?) c (ps.map fun p=>(p.1,ν p.2))=some c'/\All2 (RepC P tb g w μ τ tok) Nz0 c'.toList/\(∀a∈Nz0,∀i∈a.ids,U i)
 | [],cells,Nz0,c,h,hr,hi=>by
  simp only[ozJ,sE0]at h;subst h;exact⟨c,rfl,hr,hi⟩
 | (i,x)::ps,cells,Nz0,c,h,hr,hi=>by
  simp only[ozJ]at h;cases hf:nzJ P t i with
  | none=>simp[hf]at h
  | some f =>
   cases hx:ρ x with
   | none=>simp[hf,hx]at h
   | some v =>
    cases hv:v.cells with
    | none=>simp[hf,hx,hv]at h
    | some bs =>
     simp only[hf,hx,hv]at h;cases hc:(decide (bs.length=P.cellsOf f.type)&&decide (f.offset+bs.length<=cells.length))with
     | false=>simp[hc]at h
     | true =>
      simp only[hc,cond_true]at h;simp only[Bool.and_eq_true,decide_eq_true_eq]at hc;obtain⟨h1,h2⟩:=hc;obtain⟨r1,r2⟩:=hρ x v hx;have rc:=ozp hv r1;have hlen:=rc.length;have hlen':=hr.length;have hfs:fs[i]?=some f:=by simpa[nzJ,hu]using hf
      have hsize:(ν x).cells.size=bs.length:=by rw[<-Array.length_toList];exact hlen.symm
      have hcs:c.size=cells.length:=by rw[<-Array.length_toList];exact hlen'.symm
      have hset:=xz3 (o:=f.offset) hr rc;have hfold:=zzS (ν x).cells.toList 0 f.offset c (by rw[Array.length_toList];omega);obtain⟨c',k1,k2,k3⟩:=Dzf hu hρ ps _ Nz0
       ((ν x).cells.zipIdx.foldl (fun cs (c,j)=>cs.setIfInBounds (f.offset+j) c) c) h (by
        rw[<-Array.foldl_toList,Array.toList_zipIdx];rw[Nat.add_zero]at hfold;have:(fun(cs:Array Value) (x:Value×Nat)=>cs.setIfInBounds (f.offset+x.2) x.1)=(fun cs x=>match x with|(c,j)=>cs.setIfInBounds (f.offset+j) c):=rfl;rw[<-this,hfold];exact hset) (fun a ha j hj=>by
        unfold ez3 at ha;rcases List.mem_append.1 ha with ha|ha
        .rcases List.mem_append.1 ha with ha|ha
         .exact hi a (List.mem_of_mem_take ha) j hj
         .refine r2 j ?_;cases v with
          | c a'=>simp only[SV.cells,sE0]at hv;subst hv;simp at ha;subst ha;exact hj
          | agg as'=>simp only[SV.cells,sE0]at hv;subst hv;exact List.mem_flatMap.2 ⟨a,ha,hj⟩
          | tup _=>simp[SV.cells]at hv
        .exact hi a (List.mem_of_mem_drop ha) j hj)
      refine⟨c',?_,k2,k3⟩;simp only[List.map_cons,Instr.fill];have hp:(fs.toList.map fun f=>(f.offset,P.cellsOf f.type)).toArray[i]?=some (f.offset,P.cellsOf f.type):=by
       simp[hfs]
      simp only[hp];have hc':(decide ((ν x).cells.size≠P.cellsOf f.type)||decide (f.offset+(ν x).cells.size>c.size))=false:=by
       rw[hsize,hcs,h1,Bool.or_eq_false_iff];rw[h1]at h2;simp;omega
      simp only[hc',Bool.false_eq_true,if_false];exact k1
theorem nzC {e:Nat}{Nz0:List (AC tb.T)}(h:jzQ P e=some Nz0):∃i z,P.info? e=some i/\i.zero=some z/\All2 (RepC P tb g w μ τ tok) Nz0 z.cells.toList/\∀a∈Nz0,a.ids=[]:=by
 unfold jzQ at h;cases hi:P.info? e with
 | none=>simp[hi]at h
 | some i =>
  cases hz:i.zero with
  | none=>simp[hi,hz]at h
  | some z =>
   simp only[hi,hz]at h;obtain⟨h1,h2⟩:=tzq (P:=P) (g:=g) (w:=w) (μ:=μ) (τ:=τ) (tok:=tok) h;exact⟨i,z,rfl,hz,h1,h2⟩
theorem Lz9 {t:Nat}{parts:Array (Nat×Operand)}{z Nz0:List (AC tb.T)}{fs:Array Field}{ρ:Operand->Option (SV tb.T)}{ν:Operand->Value}{U:Nat->Prop}
 (hρ:∀x v,ρ x=some v->RepV P tb g w μ τ tok v (ν x)/\∀i∈v.ids,U i) (hu:P.underlying t=some (.struct fs)) (hz:jzQ P t=some z) (hok:xzr P t=true)
 (h:ozJ P t ρ parts.toList z=some Nz0) :
 ∃us:List Value,(Instr.build t (parts.map fun p=>(p.1,ν p.2))).run P w = .ok (.agg us.toArray) w/\All2 (RepC P tb g w μ τ tok) Nz0 us/\∀a∈Nz0,∀i∈a.ids,U i:=by
 obtain⟨it,zv,hi,hz',hzr,hzi⟩:=nzC (P:=P) (g:=g) (w:=w) (μ:=μ) (τ:=τ) (tok:=tok) hz;obtain⟨c',k1,k2,k3⟩:=Dzf hu hρ parts.toList z Nz0 zv.cells h hzr (fun a ha i hi=>by rw[hzi a ha]at hi;simp at hi);refine⟨c'.toList,?_,k2,k3⟩;refine run_build w t _ c' ?_;simp only[xzr,hu]at hok;unfold Program.built;simp only[hi,hu,hz',Kzx hok];simpa using k1
theorem szE {t:Nat}{cells:List (AC tb.T)}{o:Nat}{v:SV tb.T}{us:Array Value}(h:cut1 P t cells o=some v)(hr:All2 (RepC P tb g w μ τ tok) cells us.toList):
 (∃u,(part t us o).run P w = .ok u w/\RepV P tb g w μ τ tok v u)/\∀i∈v.ids,∃a∈cells,i∈a.ids:=by
 unfold cut1 at h;cases ha:ezO P t with
 | none=>simp[ha]at h
 | some b =>
  cases b with
  | true =>
   simp only[ha]at h;cases hb:Nat.ble (o+P.cellsOf t) cells.length with
   | false=>simp[hb]at h
   | true =>
    simp only[hb,cond_true,sE0]at h;subst h;refine⟨⟨_,uzb ha _ _ _,⟨(us.toList.drop o).take (P.cellsOf t),?_,(hr.drop o).take _⟩⟩,?_⟩
    .congr 1;apply Array.ext';simp[List.take_drop]
    .intro i hi;simp only[SV.ids,List.mem_flatMap]at hi;obtain⟨a,ha,hi⟩:=hi;exact⟨a,List.mem_of_mem_drop (List.mem_of_mem_take ha),hi⟩
  | false =>
   simp only[ha]at h;cases hg:cells[o]? with
   | none=>simp[hg]at h
   | some a =>
    simp only[hg,sE0]at h;subst h;obtain⟨u,hu,hru⟩:=hr.get hg;refine⟨⟨u,szd ha (by simpa using hu) _,hru⟩,fun i hi=>⟨a,List.mem_of_getElem? hg,hi⟩⟩
theorem KzY {α:Type}{xs:List α}{i:Int}{y:α}(h:idx xs i=some y):0<=i/\i<xs.length/\xs[i.toNat]?=some y:=by
 unfold idx at h;by_cases h0:0<=i
 .simp only[h0,decide_true,cond_true]at h;have:=(List.getElem?_eq_some_iff.1 h).1;exact⟨h0,by omega,h⟩
 .simp[h0]at h
theorem Ez1 {α:Type}{xs zs:List α}{l h:Int}(hs:sub xs l h=some zs):0<=l/\l<=h/\h<=xs.length/\zs=(xs.take h.toNat).drop l.toNat:=by
 unfold sub at hs;cases hc:(decide (0<=l)&&decide (l<=h)&&decide (h<=xs.length))with
 | false=>simp[hc]at hs
 | true =>
  simp only[hc,cond_true,sE0]at hs;simp only[Bool.and_eq_true,decide_eq_true_eq]at hc;exact⟨hc.1.1,hc.1.2,hc.2,hs.symm⟩
theorem sub3_some {α:Type}{xs zs:List α}{l h m:Int}(hs:sub3 xs l h m=some zs):0<=l/\l<=h/\h<=m/\m<=xs.length/\zs=(xs.take h.toNat).drop l.toNat:=by
 unfold sub3 at hs;cases hc:(decide (0<=l)&&decide (l<=h)&&decide (h<=m)&&decide (m<=xs.length))with
 | false=>simp[hc]at hs
 | true =>
  simp only[hc,cond_true,sE0]at hs;simp only[Bool.and_eq_true,decide_eq_true_eq]at hc;exact⟨hc.1.1.1,hc.1.1.2,hc.1.2,hc.2,hs.symm⟩
theorem RepD.recap {e:Nat}{xs:List (tb.T e)}{a:Addr}{n cap cap':Nat}(h:RepD P tb g w (.sl e xs) (.slice (some a) n cap))(h1:n<=cap')(h2:cap'<=bz6):RepD P tb g w (.sl e xs) (.slice (some a) n cap'):=by
 cases h with
 | sle e x cap h=>exact .sle e _ cap' h2
 | sl e xs b off cap val k1 k2 k3 k4 k5 k6=>exact .sl e xs b off cap' val h1 h2 k3 k4 k5 k6
theorem DzG {e:Nat}{xs:List (tb.T e)}{b off cap:Nat}(hr:RepD P tb g w (.sl e xs) (.slice (some ⟨b,off,none⟩) xs.length cap))(hs:czR P e=true){l h:Nat}(hl:l<=h)(hh:h<=xs.length):
 RepD P tb g w (.sl e ((xs.take h).drop l)) (.slice (some (if cap=l then⟨b,off,none⟩else⟨b,off+l*P.cellsOf e,none⟩)) (h-l) (cap-l)):=by
 obtain⟨⟨_,_,hv,hcap,hm⟩,hc⟩:=fzf hr;injection hv with _ _ hv;subst hv;rcases hc with⟨_,rfl⟩|⟨b',off',cap',hv,h1,h2,h3,h4,val,h5,h6⟩
 .have e1:h-l=0:=by simp at hh;omega
  rw[e1];simpa using RepD.sle (P:=P) (tb:=tb) (g:=g) (w:=w) e _ (cap-l) (by omega)
 injection hv with hv _ hv';subst hv';injection hv with hv;injection hv with e1 e2;subst e1;subst e2;have hlen:((xs.take h).drop l).length=h-l:=by simp;omega
 have hget:∀i,i<h-l->((xs.take h).drop l)[i]?=xs[l+i]?:=fun i hi=>by
  rw[List.getElem?_drop,List.getElem?_take_of_lt (by omega)]
 by_cases e0:cap=l
 .
  have hz:h-l=0:=by omega
  have hnil:(xs.take h).drop l=[]:=List.eq_nil_of_length_eq_zero (by omega);rw[if_pos e0,hz,hnil];have:=RepD.sl (P:=P) (tb:=tb) (g:=g) (w:=w) e [] b off (cap-l) (fun _ _=>.bool false) (by simp) (by omega) (by simp) (by simp) (by simp) (by simp);simpa using this
 .rw[if_neg e0];have:=RepD.sl (P:=P) (tb:=tb) (g:=g) (w:=w) e ((xs.take h).drop l) b (off+l*P.cellsOf e) (cap-l) (fun i j=>val (l+i) j) (by rw[hlen];omega) (by omega)
   (fun i x hx=>by
    have hi:i<h-l:=by have:=(List.getElem?_eq_some_iff.1 hx).1;omega
    exact h3 (l+i) x (by rw[<-hget i hi];exact hx))
   (fun h0=>by
    rw[hlen]at h0 ⊢;have hpos:0<P.cellsOf e:=by unfold czR at hs;exact Nat.le_of_ble_eq_true hs
    have hx:0<xs.length*P.cellsOf e:=Nat.mul_pos (by
     rcases Nat.eq_zero_or_pos (h-l)with z|z
     .rw[z]at h0;simp at h0
     .omega) hpos
    obtain⟨f1,f2⟩:=h4 hx;refine⟨f1,f2.imp id fun⟨n,hn,hle⟩=>⟨n,hn,Nat.le_trans ?_ hle⟩⟩;have:l*P.cellsOf e+(h-l)*P.cellsOf e=h*P.cellsOf e:=by rw[<-Nat.add_mul];congr 1;omega
    have:=Nat.mul_le_mul_right (P.cellsOf e) hh;omega)
   (fun i x j c hx hc=>by
    have hi:i<h-l:=by have:=(List.getElem?_eq_some_iff.1 hx).1;omega
    have:=h5 (l+i) x j c (by rw[<-hget i hi];exact hx) hc;rw[<-this];congr 2;rw[Nat.add_mul];omega)
   (fun i x j c hx hc=>by
    have hi:i<h-l:=by have:=(List.getElem?_eq_some_iff.1 hx).1;omega
    exact h6 (l+i) x j c (by rw[<-hget i hi];exact hx) hc)
  rw[hlen]at this;exact this
end Go.Ev
namespace Go.Ev
open Go
open Go.IntKind (i64 u64 u8 i32 u32 i16 u16)
variable {P:Program} {tb:Tab} {g:Gh} {w:World} {μ:Nat->Nat} {τ:Nat->Option Nat} {tok:Nat->Bool}
theorem iz4 {ρ:Operand->Option (SV tb.T)}{ν:Operand->Value}{U:Nat->Prop}(hρ:∀x v,ρ x=some v->RepV P tb g w μ τ tok v (ν x)/\∀i∈v.ids,U i):
 ∀{xs:List Operand} {vs:List (SV tb.T)},vals ρ xs=some vs->All2 (RepV P tb g w μ τ tok) vs (xs.map ν)/\∀v∈vs,∀i∈v.ids,U i
 | [],vs,h=>by simp only[vals,sE0]at h;subst h;exact⟨trivial,by simp⟩
 | x::xs,vs,h=>by
  simp only[vals]at h;cases hx:ρ x with
  | none=>simp[hx]at h
  | some v =>
   cases hs:vals ρ xs with
   | none=>simp[hx,hs]at h
   | some vs' =>
    simp only[hx,hs,sE0]at h;subst h;obtain⟨k1,k2⟩:=iz4 hρ hs;refine⟨⟨(hρ x v hx).1,k1⟩,fun u hu=>?_⟩;rcases List.mem_cons.1 hu with e|e
    .subst e;exact(hρ x u hx).2
    .exact k2 u e
theorem Azj:∀{r:List (SV tb.T)} {k:IntKind} {x n:Int} {us:List Value},wzo k x r=some n->inR k x->All2 (RepV P tb g w μ τ tok) r us ->
 (us.foldlM Builtin.min2 (.int k x)).run P w = .ok (.int k n) w/\inR k n
 | [],k,x,n,us,h,hx,hr=>by
  cases us with
  | cons _ _=>exact hr.elim
  | nil=>simp only[wzo,sE0]at h;subst h;exact⟨by simp,hx⟩
 | v::r,k,x,n,us,h,hx,hr=>by
  cases us with
  | nil=>exact hr.elim
  | cons u us =>
   obtain⟨h1,h2⟩:=hr;unfold wzo at h;split at h
   .rename_i e;cases e
   .rename_i k' y r' e;injection e with e1 e2;subst e1;subst e2;cases h1;rename_i hy;by_cases ek:k=k'
    .subst ek;simp only[decide_true,cond_true]at h;have hz:(bif decide (y<x)then y else x)=if y<x then y else x:=by by_cases c:y<x<;>simp[c]
     rw[hz]at h;have hb:inR k (if y<x then y else x):=by split<;>assumption
     obtain⟨k1,k2⟩:=Azj h hb h2;exact⟨by simp only[List.foldlM_cons,Builtin.min2,Sem.run_bind,Sem.run_pure,Result.andThen_ok];exact k1,k2⟩
    .simp[ek]at h
   .cases h
theorem Azi:∀{r:List (SV tb.T)} {k:IntKind} {x n:Int} {us:List Value},wzm k x r=some n->inR k x->All2 (RepV P tb g w μ τ tok) r us ->
 (us.foldlM Builtin.max2 (.int k x)).run P w = .ok (.int k n) w/\inR k n
 | [],k,x,n,us,h,hx,hr=>by
  cases us with
  | cons _ _=>exact hr.elim
  | nil=>simp only[wzm,sE0]at h;subst h;exact⟨by simp,hx⟩
 | v::r,k,x,n,us,h,hx,hr=>by
  cases us with
  | nil=>exact hr.elim
  | cons u us =>
   obtain⟨h1,h2⟩:=hr;unfold wzm at h;split at h
   .rename_i e;cases e
   .rename_i k' y r' e;injection e with e1 e2;subst e1;subst e2;cases h1;rename_i hy;by_cases ek:k=k'
    .subst ek;simp only[decide_true,cond_true]at h;have hz:(bif decide (x<y)then y else x)=if x<y then y else x:=by by_cases c:x<y<;>simp[c]
     rw[hz]at h;have hb:inR k (if x<y then y else x):=by split<;>assumption
     obtain⟨k1,k2⟩:=Azi h hb h2;exact⟨by simp only[List.foldlM_cons,Builtin.max2,Sem.run_bind,Sem.run_pure,Result.andThen_ok];exact k1,k2⟩
    .simp[ek]at h
   .cases h
theorem inr_some {n:Nat}{l h:Int}{p:Nat×Nat}(hs:inr n l h=some p):0<=l/\l<=h/\h<=n/\p=(l.toNat,(h-l).toNat):=by
 unfold inr at hs;cases hc:(decide (0<=l)&&decide (l<=h)&&decide (h<=n))with
 | false=>simp[hc]at hs
 | true =>
  simp only[hc,cond_true,sE0]at hs;simp only[Bool.and_eq_true,decide_eq_true_eq]at hc;exact⟨hc.1.1,hc.1.2,hc.2,hs.symm⟩
def POut (P:Program)(tb:Tab)(g:Gh)(w:World)(μ:Nat->Nat)(τ:Nat->Option Nat)(tok:Nat->Bool)(U:Nat->Prop)(s:Sem Next)(v:SV tb.T):Prop:=∃u,s.run P w = .ok (.value u) w/\RepV P tb g w μ τ tok v u/\∀i∈v.ids,U i
theorem Jz5 {op:BinOp}{xt:Nat}{x y:SV tb.T}{q:Bool×Bool}{ox oy:Operand}{u v:Value}(h:BzG P op xt x y=some q)(hx:RepV P tb g w μ τ tok x u)(hy:RepV P tb g w μ τ tok y v):
 ∃r,(do eqGuard op xt ox oy u v;binOp op xt u v:Sem Value).run P w = .ok r w/\RepV P tb g w μ τ tok (.c (.ubool q.1 q.2)) r:=by
 unfold BzG at h;split at h
 .cases h
 .rename_i e he;have key:∀{d:Nat} {xs:List (tb.T d)},RepD P tb g w (.sl d xs) u->∃o n c,u = .slice o n c/\(xs.isEmpty=false->o.isNone=false):=fun hd=>by
   cases hd with
   | slnil=>exact⟨_,_,_,rfl,fun h=>by simp at h⟩
   | sle=>exact⟨_,_,_,rfl,fun _=>rfl⟩
   | sl=>exact⟨_,_,_,rfl,fun _=>rfl⟩
  have fin:∀{m:Bool},(∃o n c,u = .slice o n c/\(m=false->o.isNone=false))->(∃d,P.underlying xt=some (.slice d))->v = .slice none 0 0 ->
   ∃r,(do eqGuard op xt ox oy u v;binOp op xt u v:Sem Value).run P w = .ok r w/\RepV P tb g w μ τ tok (.c (.ubool m e)) r:=fun⟨o,n,c,hu,hm⟩ ⟨d,ht⟩ hv=>by
   subst hu;subst hv;split at he
   .simp only[sE0]at he;subst he;exact⟨.bool o.isNone,by simp[eqGuard,binOp,run_equal_slice_nil w xt d o n c ht],_,rfl,hm⟩
   .simp only[sE0]at he;subst he;exact⟨.bool (!o.isNone),by simp[eqGuard,binOp,run_equal_slice_nil w xt d o n c ht],_,rfl,fun h=>by rw[hm h];rfl⟩
   .cases he
  cases hk:(isSlT P xt&&isNilV y)with
  | false=>simp[hk]at h
  | true =>
   simp only[hk,cond_true]at h;simp only[Bool.and_eq_true]at hk;obtain⟨k1,k2⟩:=hk;have ht:∃d,P.underlying xt=some (.slice d):=by
    unfold isSlT at k1;split at k1
    .rename_i d hd;exact⟨d,hd⟩
    .cases k1
   have hv:v = .slice none 0 0:=by
    unfold isNilV at k2;split at k2
    .cases hy;rfl
    .cases k2
   split at h
   .simp only[sE0]at h;subst h;exact fin (key hx) ht hv
   .simp only[sE0]at h;subst h;exact fin (key hx.1) ht hv
   .simp only[sE0]at h;subst h;refine fin ?_ ht hv;rcases hx with⟨rfl,q,rfl,_⟩|⟨b,cap,_,rfl,_⟩
    .exact⟨_,_,_,rfl,fun h=>by simp at h⟩
    .exact⟨_,_,_,rfl,fun _=>rfl⟩
   .cases h
theorem POut.of_run {U:Nat->Prop}{s:Sem Value}{v:SV tb.T}{u:Value}(h:s.run P w = .ok u w)(hr:RepV P tb g w μ τ tok v u)(hi:∀i∈v.ids,U i):
 POut P tb g w μ τ tok U (do pure (.value (<-s))) v :=
 ⟨u,by simp[h],hr,hi⟩
theorem izS {T:Nat->Type}(c:CV T){U:Nat->Prop}:∀i∈(SV.c (AC.d c)).ids,U i:=by simp[SV.ids,AC.ids]
theorem zzQ {t i:Nat}{f:Field}(h:nzJ P t i=some f):∃fs,P.underlying t=some (.struct fs)/\fs[i]?=some f:=by
 unfold nzJ at h;split at h
 .rename_i fs hu;exact⟨fs,hu,h⟩
 .cases h
theorem iz7 {t e:Nat}(h:izG P t=some e):P.underlying t=some (.slice e):=by
 unfold izG at h;split at h
 .rename_i e' hu;simp only[sE0]at h;subst h;exact hu
 .cases h
theorem Mzn {t:Nat}{x v:SV tb.T}{u:Value}{U:Nat->Prop}(h:xzn P t x some=some v)(hx:RepV P tb g w μ τ tok x u)(ty:TypeId)(tys:List TypeId):
 ∃r,(Builtin.len_ (t::tys).toArray ty #[u]).run P w = .ok r w/\RepV P tb g w μ τ tok v r/\∀i∈v.ids,U i:=by
 have hi:∀n:Nat,n<=bz6->inR .i64 (n:Int):=fun n hn=>by
  unfold inR lo hi;unfold bz6 at hn;simp only[];omega
 unfold xzn at h;split at h
 .rename_i s hu;cases hx;rename_i hl;simp only[sE0]at h;subst h;refine⟨.int .i64 s.length,?_,.int _ _ (hi _ hl),izS _⟩;simp[Builtin.len_,run_underlying hu,goInt,lzI]
 .rename_i e hu;cases hx;simp only[sE0]at h;subst h;exact⟨.int .i64 0,by simp[Builtin.len_,run_underlying hu,goInt],.int _ _ (hi 0 (Nat.zero_le _)),izS _⟩
 .rename_i e _ xs hu;obtain⟨⟨y,cap,rfl,h1,h2⟩,_⟩:=fzf hx;simp only[sE0]at h;subst h;exact⟨.int .i64 xs.length,by simp[Builtin.len_,run_underlying hu,goInt],.int _ _ (hi _ (by omega)),izS _⟩
 .rename_i e _ xs _ hu;obtain⟨⟨y,cap,rfl,h1,h2⟩,_⟩:=fzf hx.1;simp only[sE0]at h;subst h;exact⟨.int .i64 xs.length,by simp[Builtin.len_,run_underlying hu,goInt],.int _ _ (hi _ (by omega)),izS _⟩
 .rename_i e _ i o n hu;simp only[sE0]at h;subst h;rcases hx with⟨rfl,q,rfl,_⟩|⟨b,cap,_,rfl,e2,e3⟩
  .exact⟨.int .i64 0,by simp[Builtin.len_,run_underlying hu,goInt],.int _ _ (hi 0 (Nat.zero_le _)),izS _⟩
  .exact⟨.int .i64 n,by simp[Builtin.len_,run_underlying hu,goInt],.int _ _ (hi _ (by omega)),izS _⟩
 .cases h
theorem JzJ {ρ:Operand->Option (SV tb.T)}{ν:Operand->Value}{U:Nat->Prop}(hρ:∀x v,ρ x=some v->RepV P tb g w μ τ tok v (ν x)/\∀i∈v.ids,U i)
 {l:Option Operand} {d n:Int} (h:dzt ρ l d=some n):(l=none/\n=d)\/∃x k,l=some x/\ν x = .int k n:=by
 cases l with
 | none=>simp only[dzt,sE0]at h;exact .inl ⟨rfl,h.symm⟩
 | some x =>
  simp only[dzt]at h;cases hx:ρ x with
  | none=>simp[hx]at h
  | some v =>
   rw[hx]at h;split at h
   .rename_i k m e;simp only[sE0]at h e;subst h;subst e;have:=(hρ x _ hx).1;generalize hu:ν x=u at this;cases this;exact .inr ⟨x,k,rfl,hu⟩
   .cases h
theorem fzN {ρ:Operand->Option (SV tb.T)}{ν:Operand->Value}{U:Nat->Prop}(hρ:∀x v,ρ x=some v->RepV P tb g w μ τ tok v (ν x)/\∀i∈v.ids,U i)
 {l:Option Operand} {d n:Int} (h:dzt ρ l d=some n):(l.map ν=none/\n=d)\/∃k,l.map ν=some (.int k n):=by
 rcases JzJ hρ h with⟨rfl,rfl⟩|⟨y,k,rfl,hk⟩
 .exact .inl ⟨rfl,rfl⟩
 .exact .inr ⟨k,by simp[hk]⟩
theorem mz2 {isSlice:Bool}{len cap:Nat}{lo' hi':Option Value}{l h:Int}(hl:(lo'=none/\l=0)\/∃k,lo'=some (.int k l))(hh:(hi'=none/\h=len)\/∃k,hi'=some (.int k h))
 (h0:0<=l) (h1:l<=h) (h2:h<=len) (hc:len<=cap):(Instr.sliceBounds isSlice len cap lo' hi' none).run P w = .ok (l.toNat,h.toNat,cap) w:=by
 have hb:∀(k:IntKind) (i:Int) (y:Nat) code,0<=i->i<=y->(Instr.sliceBound (.int k i) y code).run P w = .ok i.toNat w:=fun k i y code a b=>by
  simp[Instr.sliceBound,asIntOf,a,b]
 unfold Instr.sliceBounds;rcases hh with⟨rfl,rfl⟩|⟨k,rfl⟩
 .rcases hl with⟨rfl,rfl⟩|⟨k',rfl⟩
  .simp
  .simp[hb _ _ _ _ h0 h1]
 .have e1:=fun code=>hb k h cap code (by omega) (by omega)
  rcases hl with⟨rfl,rfl⟩|⟨k',rfl⟩
  .simp[e1]
  .have e2:=fun code=>hb k' l h.toNat code h0 (by omega)
   simp[e1,e2]
theorem EzK {len cap:Nat}{lo':Option Value}{l h m:Int}{kh km:IntKind}(hl:(lo'=none/\l=0)\/∃k,lo'=some (.int k l))
 (h0:0<=l) (h1:l<=h) (h2:h<=m) (h3:m<=len) (hc:len<=cap):(Instr.sliceBounds true len cap lo' (some (.int kh h)) (some (.int km m))).run P w = .ok (l.toNat,h.toNat,m.toNat) w:=by
 have hb:∀(k:IntKind) (i:Int) (y:Nat) code,0<=i->i<=y->(Instr.sliceBound (.int k i) y code).run P w = .ok i.toNat w:=fun k i y code a b=>by
  simp[Instr.sliceBound,asIntOf,a,b]
 unfold Instr.sliceBounds;have e0:=fun code=>hb km m cap code (by omega) (by omega)
 have e1:=fun code=>hb kh h m.toNat code (by omega) (by omega)
 rcases hl with⟨rfl,rfl⟩|⟨k',rfl⟩
 .simp[e0,e1]
 .have e2:=fun code=>hb k' l h.toNat code h0 (by omega)
  simp[e0,e1,e2]
theorem Gzr:∀{vs:List (SV tb.T)} {us:List Value} {ps:List (Nat×Nat)},wzq vs=some ps->All2 (RepV P tb g w μ τ tok) vs us ->
 us=ps.map (fun p=>Value.pointer (some ⟨μ p.1,p.2,none⟩))/\∀i∈(SV.c (.fn 0 ps):SV tb.T).ids,∃v∈vs,i∈v.ids
 | [],us,ps,h,hr=>by
  simp only[wzq,sE0]at h;subst h;cases us with
  | nil=>exact⟨rfl,by simp[SV.ids,AC.ids]⟩
  | cons _ _=>exact hr.elim
 | v::vs,us,ps,h,hr=>by
  cases us with
  | nil=>exact hr.elim
  | cons u us =>
   unfold wzq at h;split at h
   .cases ‹v::vs=[]›
   .rename_i i o vs' e;injection e with e1 e2;subst e1;subst e2;split at h
    .rename_i ps' hps;simp only[sE0]at h;subst h;obtain⟨k1,k2⟩:=Gzr hps hr.2;have hu:u = .pointer (some ⟨μ i,o,none⟩):=hr.1;refine⟨by rw[k1,hu];rfl,fun j hj=>?_⟩;simp only[SV.ids,AC.ids,List.map_cons,List.mem_cons]at hj;rcases hj with rfl|hj
     .exact⟨_,List.mem_cons_self ..,by simp[SV.ids,AC.ids]⟩
     .obtain⟨v,hv,hjv⟩:=k2 j hj;exact⟨v,List.mem_cons_of_mem _ hv,hjv⟩
    .cases h
   .cases h
theorem evP_sound {ρ:Operand->Option (SV tb.T)}{ν:Operand->Value}{U:Nat->Prop}(hρ:∀x v,ρ x=some v->RepV P tb g w μ τ tok v (ν x)/\∀i∈v.ids,U i)
 (o:Oper) {v:SV tb.T} (h:evP P tb o.op ρ some=some v):POut P tb g w μ τ tok U (execOp ν o) v:=by
 obtain⟨dst,op,ty,pos,after,guard⟩:=o;simp only at h;unfold evP at h;split at h
 .
  rename_i x;cases hx:ρ x with
  | none=>simp[hx]at h
  | some v' =>
   simp only[hx,sE0]at h;subst h;exact⟨ν x,by simp[execOp],(hρ x _ hx).1,(hρ x _ hx).2⟩
 .rename_i x;cases hx:ρ x with
  | none=>simp[hx]at h
  | some v' =>
   simp only[hx,sE0]at h;subst h;exact⟨ν x,by simp[execOp],(hρ x _ hx).1,(hρ x _ hx).2⟩
 .
  rename_i c a b;split at h
  .rename_i t hc;have hc':=(hρ c _ hc).1;generalize hu:ν c=u at hc';cases hc';cases t
   .simp only[azc]at h;cases hb:ρ b with
    | none=>simp[hb]at h
    | some v' =>
     simp only[hb,sE0]at h;subst h;exact⟨ν b,by simp[execOp,hu,asBool],(hρ b _ hb).1,(hρ b _ hb).2⟩
   .simp only[azd]at h;cases ha:ρ a with
    | none=>simp[ha]at h
    | some v' =>
     simp only[ha,sE0]at h;subst h;exact⟨ν a,by simp[execOp,hu,asBool],(hρ a _ ha).1,(hρ a _ ha).2⟩
  .cases h
 .
  rename_i op xt x y _;cases hx:ρ x with
  | none=>simp[hx]at h
  | some u =>
   cases hy:ρ y with
   | none=>simp[hx,hy]at h
   | some v' =>
    simp only[hx,hy]at h;cases hn:BzG P op xt u v' with
    | some q =>
     simp only[hn,sE0]at h;subst h;obtain⟨r,hr,hd⟩:=Jz5 (ox:=x) (oy:=y) hn (hρ x _ hx).1 (hρ y _ hy).1;exact POut.of_run (s:=do eqGuard op xt x y (ν x) (ν y);binOp op xt (ν x) (ν y)) hr hd (by simp[SV.ids,AC.ids])
    | none =>
     simp only[hn]at h;rw[HzF]at h;obtain⟨c,hc,h⟩:=azp.1 h;simp only[sE0]at h;subst h;obtain⟨r,hr,hd⟩:=Mzj (ox:=x) (oy:=y) hc (hρ x _ hx).1 (hρ y _ hy).1;exact POut.of_run (s:=do eqGuard op xt x y (ν x) (ν y);binOp op xt (ν x) (ν y)) hr hd (izS _)
 .
  rename_i op _ x;cases hx:ρ x with
  | none=>simp[hx]at h
  | some u =>
   simp only[hx]at h;rw[evUn_k]at h;obtain⟨c,hc,h⟩:=azp.1 h;simp only[sE0]at h;subst h;obtain⟨r,hr,hd⟩:=Mz8 hc (hρ x _ hx).1;exact POut.of_run hr hd (izS _)
 .
  rename_i src dst' x;cases hx:ρ x with
  | none=>simp[hx]at h
  | some u =>
   simp only[hx]at h;rw[DzW]at h;obtain⟨c,hc,h⟩:=azp.1 h;simp only[sE0]at h;subst h;obtain⟨r,hr,hd⟩:=KzI hc (hρ x _ hx).1;exact POut.of_run hr hd (izS _)
 .
  rename_i s x f;cases hf:nzJ P s f with
  | none=>simp[hf]at h
  | some fd =>
   simp only[hf]at h;cases hz:Nat.beq (P.cellsOf fd.type) 0 with
   | true=>simp[hz]at h
   | false =>
    simp only[hz,cond_false]at h;obtain⟨fs,hu,hfs⟩:=zzQ hf;have hne:P.cellsOf fd.type≠0:=fun e=>by rw[e]at hz;cases hz
    have hinfo:∃i,P.info? fd.type=some i:=by
     unfold Program.cellsOf at hne;cases hi:P.info? fd.type with
     | none=>simp[hi]at hne
     | some i=>exact⟨i,rfl⟩
    have hrun:∀a:Addr,(Instr.fieldAt s (.pointer (some a)) f).run P w = .ok (.pointer (some (a.add fd.offset))) w:=fun a=>by
     simp[Instr.fieldAt,run_underlying hu,hfs,Instr.sureAddr,fieldPlace,czj hinfo,hne]
    split at h
    .rename_i i o hx;have hx':=hρ x _ hx;have e:ν x = .pointer (some ⟨μ i,o,none⟩):=hx'.1;simp only[sE0]at h;subst h;have hr:=hrun ⟨μ i,o,none⟩;rw[<-e]at hr;refine POut.of_run hr ?_ hx'.2;rw[ezm];rfl
    .rename_i cs hx;have hx':=hρ x _ hx;obtain⟨b,off,e,h1,h2⟩:=hx'.1;cases hb:Nat.blt fd.offset cs.length with
     | false=>simp[hb]at h
     | true =>
      simp only[hb,cond_true,sE0]at h;subst h;have hr:=hrun ⟨b,off,none⟩;rw[<-e]at hr;have hlt:fd.offset<cs.length:=Nat.le_of_ble_eq_true hb;refine POut.of_run hr ⟨b,off+fd.offset,by rw[ezm],fun h0=>?_,fun j c hc=>?_⟩ (by simp[SV.ids,AC.ids])
      .obtain⟨f1,f2⟩:=h1 (by omega);refine⟨f1,f2.imp id fun⟨n,hn,hle⟩=>⟨n,hn,?_⟩⟩;rw[List.length_drop];omega
      .rw[List.getElem?_drop]at hc;obtain⟨u,hu',hd⟩:=h2 _ c hc;exact⟨u,by rw[Nat.add_assoc];exact hu',hd⟩
    .rename_i i e' k o hx;have hx':=hρ x _ hx;obtain⟨b,hb,e⟩:=hx'.1;simp only[sE0]at h;subst h;have hr:=hrun ⟨b,k*P.cellsOf e'+o,none⟩;rw[<-e]at hr;refine POut.of_run hr ⟨b,hb,?_⟩ hx'.2;rw[ezm,Nat.add_assoc]
    .cases h
 .
  rename_i s x f;cases hf:nzJ P s f with
  | none=>simp[hf]at h
  | some fd =>
   simp only[hf]at h;obtain⟨fs,hu,hfs⟩:=zzQ hf;split at h
   .rename_i Nz0 hx;have hx':=hρ x _ hx;obtain⟨us,e,hr⟩:=hx'.1;cases hc:cut1 P fd.type Nz0 fd.offset with
    | none=>simp[hc]at h
    | some v' =>
     simp only[hc,sE0]at h;subst h;obtain⟨⟨u,hu',hru⟩,hi⟩:=szE (us:=us.toArray) hc (by simpa using hr);refine POut.of_run (s:=Instr.field s (ν x) f) ?_ hru (fun i hi'=>?_)
     .rw[e];simp[Instr.field,run_underlying hu,hfs,asAgg,hu']
     .obtain⟨a,ha,hia⟩:=hi i hi';exact hx'.2 i (List.mem_flatMap.2 ⟨a,ha,hia⟩)
   .cases h
 .
  rename_i t x ix;cases he:izG P t with
  | none=>simp[he]at h
  | some e =>
   simp only[he]at h;have hu:=iz7 he;split at h
   .rename_i e' q b n hx;have hx':=hρ x _ hx;split at h
    .rename_i k i hix;have hi':=(hρ ix _ hix).1;generalize hui:ν ix=ui at hi';cases hi';cases hz:(czR P e&&Nat.beq e' e)with
     | false=>simp[hz]at h
     | true =>
      simp only[hz,cond_true]at h;simp only[Bool.and_eq_true]at hz;obtain⟨hz,hee⟩:=hz;have hee:=Nat.eq_of_beq_eq_true hee;subst hee;obtain⟨y,hy,h⟩:=azp.1 h;simp only[sE0]at h;subst h;unfold inb at hy;cases hc:(decide (0<=i)&&decide (i<(n:Int)))with
      | false=>simp[hc]at hy
      | true =>
       simp only[hc,cond_true,sE0]at hy;subst hy;simp only[Bool.and_eq_true,decide_eq_true_eq]at hc;obtain⟨i0,i1⟩:=hc;rcases hx'.1 with⟨rfl,_⟩|⟨k0,cap,q1,ev,_⟩
       .simp at i1;omega
       refine POut.of_run (s:=Instr.indexAt t (ν x) (ν ix)) (u:=.pointer (some ⟨k0,(b+i.toNat)*P.cellsOf e'+0,none⟩)) ?_ ⟨k0,q1,rfl⟩ (fun j hj=>hx'.2 j hj);rw[ev,hui];have hlt:i.toNat<n:=by omega
       have:(Instr.indexAt t (.slice (some ⟨k0,b*P.cellsOf e',none⟩) n cap) (.int k i)).run P w = .ok (.pointer (some ((⟨k0,b*P.cellsOf e',none⟩:Addr).add (i.toNat*P.cellsOf e')))) w:=by
        have h2:¬(i<0\/(n:Int)<=i):=by omega
        simp[Instr.indexAt,asIntOf,run_underlying hu,i0,i1,czj (dz4 hz)]
       rw[this,ezm,Nat.add_zero,Nat.add_mul]
    .cases h
   .rename_i a _ hx;have hx':=hρ x _ hx;cases hs:nz3 tb a e with
    | none=>simp[hs]at h
    | some xs =>
     simp only[hs]at h;split at h
     .rename_i k i hix;have hi':=(hρ ix _ hix).1;generalize hui:ν ix=ui at hi';cases hi';cases hz:czR P e with
      | false=>simp[hz]at h
      | true =>
       simp only[hz,cond_true]at h;obtain⟨y,hy,h⟩:=azp.1 h;simp only[sE0]at h;subst h;obtain⟨i0,i1,hget⟩:=KzY hy;have hr:=ozW hs hx'.1;have hc:=(fzf hr).2;rcases hc with⟨_,rfl⟩|⟨b,off,cap,ev,h1,h2,h3,h4,val,h5,h6⟩
       .simp at hget
       have hlen:=h3 _ _ hget;have hpos:0<P.cellsOf e:=by unfold czR at hz;exact Nat.le_of_ble_eq_true hz
       have hi2:i.toNat<xs.length:=by omega
       have hmul:(i.toNat+1)*P.cellsOf e<=xs.length*P.cellsOf e:=Nat.mul_le_mul_right _ hi2;rw[Nat.add_mul,Nat.one_mul]at hmul;refine POut.of_run (s:=Instr.indexAt t (ν x) (ν ix)) (u:=.pointer (some ⟨b,off+i.toNat*P.cellsOf e,none⟩)) ?_ ⟨b,_,rfl,fun h0=>?_,fun j c hc=>?_⟩ (by simp[SV.ids,AC.ids])
       .rw[ev,hui];have:(Instr.indexAt t (.slice (some ⟨b,off,none⟩) xs.length cap) (.int k i)).run P w = .ok (.pointer (some ((⟨b,off,none⟩:Addr).add (i.toNat*P.cellsOf e)))) w:=by
         simp[Instr.indexAt,asIntOf,run_underlying hu,i0,i1,czj (dz4 hz)]
        rw[this,ezm]
       .obtain⟨f1,f2⟩:=h4 (by omega);refine⟨f1,f2.imp id fun⟨n,hn,hle⟩=>⟨n,hn,?_⟩⟩;rw[hlen];omega
       .exact⟨val i.toNat j,h5 _ _ _ _ hget hc,h6 _ _ _ _ hget hc⟩
     .cases h
   .cases h
 .
  rename_i t x ix;split at h
  .rename_i hu;split at h
   .rename_i s hx;have hx':=(hρ x _ hx).1;generalize hux:ν x=ux at hx';cases hx';split at h
    .rename_i k i hix;have hi':=(hρ ix _ hix).1;generalize hui:ν ix=ui at hi';cases hi';obtain⟨y,hy,h⟩:=azp.1 h;simp only[sE0]at h;subst h;obtain⟨i0,i1,hget⟩:=KzY hy;refine POut.of_run (s:=Instr.index t (ν x) (ν ix)) (u:=.int .u8 (y.toNat:Int)) ?_ (.int _ _ ?_) (izS _)
     .rw[hux,hui];have hb:(⟨s.toArray⟩:ByteArray)[i.toNat]?=some y:=by
       have hlt:=(List.getElem?_eq_some_iff.1 hget).1;have hv:=(List.getElem?_eq_some_iff.1 hget).2;have:i.toNat<(⟨s.toArray⟩:ByteArray).size:=by rw[lzI];exact hlt
       rw[getElem?_pos (⟨s.toArray⟩:ByteArray) i.toNat this];simp only[sE0];rw[<-hv];rfl
      simp[Instr.index,asIntOf,run_underlying hu,i0,hb]
     .unfold inR lo hi;have:=y.toNat_lt;simp only[];omega
    .cases h
   .cases h
  .cases h
 .
  rename_i x i;split at h
  .rename_i vs hx;have hx':=hρ x _ hx;obtain⟨us,e,hr⟩:=hx'.1;split at h
   .rename_i Nz0 hv;simp only[sE0]at h;subst h;obtain⟨u,hu,hrt⟩:=hr.get hv;refine POut.of_run (s:=Instr.extract (ν x) i) (u:=u) ?_ (by simpa[RepT,RepV]using hrt) (fun j hj=>hx'.2 j ?_)
    .rw[e];simp[Instr.extract,hu]
    .exact List.mem_flatMap.2 ⟨_,List.mem_of_getElem? hv,hj⟩
   .rename_i a hv;simp only[sE0]at h;subst h;obtain⟨u,hu,hrt⟩:=hr.get hv;obtain⟨a',ha',hra⟩:∃a',[a]=[a']/\RepC P tb g w μ τ tok a' u:=by simpa[RepT]using hrt
    simp only[List.cons.injEq,and_true]at ha';subst ha';refine POut.of_run (s:=Instr.extract (ν x) i) (u:=u) ?_ hra (fun j hj=>hx'.2 j ?_)
    .rw[e];simp[Instr.extract,hu]
    .exact List.mem_flatMap.2 ⟨_,List.mem_of_getElem? hv,by simpa[SV.ids]using hj⟩
   .cases h
  .cases h
 .
  rename_i t parts;split at h
  .rename_i fs hu;cases hz:jzQ (T:=tb.T) P t with
   | none=>simp[hz]at h
   | some z =>
    cases hok:xzr P t with
    | false=>simp[hz,hok]at h
    | true =>
     cases hfl:ozJ P t ρ parts.toList z with
     | none=>simp[hz,hok,hfl]at h
     | some Nz0 =>
      simp only[hz,hok,hfl,cond_true,sE0]at h;subst h;obtain⟨us,h1,h2,h3⟩:=Lz9 hρ hu hz hok hfl;refine POut.of_run h1 ⟨us,rfl,h2⟩ (fun i hi=>?_);simp only[SV.ids,List.mem_flatMap]at hi;obtain⟨a,ha,hia⟩:=hi;exact h3 a ha i hia
  .cases h
 .
  rename_i t x l hgh m;cases m with
  | some m =>
   simp only at h;split at h
   .rename_i e hu;split at h
    .rename_i a hx;have hx':=hρ x _ hx;cases hs:nz3 tb a e with
     | none=>simp[hs]at h
     | some xs =>
      simp only[hs]at h;split at h
      .rename_i li hi mi hl hh hmm;cases hgh with
       | none=>simp at h
       | some hg =>
        cases hz':czR P e with
        | false=>simp[hz']at h
        | true =>
         simp only[hz',Option.isSome_some,Bool.and_true,cond_true]at h;obtain⟨z,hz,h⟩:=azp.1 h;simp only[sE0]at h;subst h;obtain⟨a0,a1,a2,a3,rfl⟩:=sub3_some hz;have hr:=ozW hs hx'.1;obtain⟨_,hc⟩:=fzf hr;obtain⟨kh,hkh⟩:=(fzN hρ hh).resolve_left (by simp);obtain⟨km,hkm⟩:=(fzN hρ hmm).resolve_left (by simp);have hb:=fun cap (hcap:xs.length<=cap)=>EzK (P:=P) (w:=w) (len:=xs.length) (cap:=cap) (lo':=l.map ν) (h:=hi) (m:=mi) (kh:=kh) (km:=km)
          (fzN hρ hl) a0 a1 a2 a3 hcap
         have hsz:=fun w=>czj (P:=P) (dz4 hz') w
         rcases hc with⟨ev|⟨y,cap,ev,hcm⟩,rfl⟩|⟨b,off,cap,ev,h1,h2,_⟩
         .refine POut.of_run (s:=Instr.sliceAt t (ν x) (l.map ν) (Option.map ν (some hg)) (Option.map ν (some m))) (u:=.slice none 0 0) ?_ (by simp;exact .slnil e) (izS _);have hb0:=hb 0 (Nat.le_refl _);simp only[List.length_nil]at hb0 a3;have e1:li.toNat=0:=by omega
          have e2:hi.toNat=0:=by omega
          have e3:mi.toNat=0:=by omega
          rw[ev,hkh,hkm];simp only[Instr.sliceAt,Instr.slice,Sem.run_bind,run_underlying hu,Result.andThen_ok,hb0,hsz,e1,e2,e3];simp
         .have hb0:=hb cap (Nat.zero_le _);simp only[List.length_nil]at hb0 a3;have e1:li.toNat=0:=by omega
          have e2:hi.toNat=0:=by omega
          have e3:mi.toNat=0:=by omega
          refine POut.of_run (s:=Instr.sliceAt t (ν x) (l.map ν) (Option.map ν (some hg)) (Option.map ν (some m))) (u:=.slice (some y) 0 0) ?_ (by simp;exact .sle e y 0 (Nat.zero_le _)) (izS _);rw[ev,hkh,hkm];simp only[Instr.sliceAt,Instr.slice,Sem.run_bind,run_underlying hu,Result.andThen_ok,hb0,hsz,e1,e2,e3];simp
         .rw[ev]at hr;have hp:=DzG hr hz' (l:=li.toNat) (h:=hi.toNat) (by omega) (by omega);have hb0:=hb cap h1;refine POut.of_run (s:=Instr.sliceAt t (ν x) (l.map ν) (Option.map ν (some hg)) (Option.map ν (some m))) (u:=.slice (if mi.toNat=li.toNat then some ⟨b,off,none⟩else some ⟨b,off+li.toNat*P.cellsOf e,none⟩) (hi.toNat-li.toNat) (mi.toNat-li.toNat)) ?_ ?_ (izS _)
          .rw[ev,hkh,hkm];simp only[Instr.sliceAt,Instr.slice,Sem.run_bind,run_underlying hu,Result.andThen_ok,hb0,hsz,Sem.run_pure];congr 2;split
           .rfl
           .simp only[Option.map_some,ezm]
          .by_cases c:mi.toNat=li.toNat
           .rw[if_pos c];have e4:hi.toNat-li.toNat=0:=by omega
            have e5:(xs.take hi.toNat).drop li.toNat=[]:=List.eq_nil_of_length_eq_zero (by simp;omega);rw[e4,e5,c,Nat.sub_self];exact .sle e _ 0 (Nat.zero_le _)
           .rw[if_neg c];have c2:¬cap=li.toNat:=by omega
            rw[if_neg c2]at hp;exact RepD.recap (P:=P) (tb:=tb) hp (by omega) (by omega)
      .cases h
    .cases h
   .cases h
  | none =>
   simp only at h;split at h
   .rename_i hu;split at h
    .rename_i s hx;have hx':=(hρ x _ hx).1;generalize hux:ν x=ux at hx';cases hx';rename_i hlen;split at h
     .rename_i li hl;split at h
      .rename_i hi hh;obtain⟨z,hz,h⟩:=azp.1 h;simp only[sE0]at h;subst h;obtain⟨a0,a1,a2,rfl⟩:=Ez1 hz;refine POut.of_run (s:=Instr.sliceAt t (ν x) (l.map ν) (hgh.map ν) (Option.map ν none)) (u:=.string ⟨((s.take hi.toNat).drop li.toNat).toArray⟩) ?_ (.str _ (by simp;omega)) (izS _);have hb:=mz2 (P:=P) (w:=w) (isSlice:=false) (len:=s.length) (cap:=s.length) (lo':=l.map ν) (hi':=hgh.map ν) (l:=li) (h:=hi)
        (fzN hρ hl)
        (fzN hρ hh) a0 a1 a2 (Nat.le_refl _)
       rw[hux];simp only[Option.map_none];simp only[Instr.sliceAt,Instr.slice,Sem.run_bind,run_underlying hu,Result.andThen_ok,lzI];have he:(⟨s.toArray⟩:ByteArray).extract li.toNat hi.toNat=⟨((s.take hi.toNat).drop li.toNat).toArray⟩:=by
        rw[Lib.extract_eq,List.drop_take]
       simp[hb,he]
      .cases h
     .cases h
    .cases h
   .rename_i e hu;split at h
    .rename_i e' q b n hx;have hx':=hρ x _ hx;split at h
     .rename_i li hl;split at h
      .rename_i hi hh;cases hz:(czR P e&&Nat.beq e' e)with
       | false=>simp[hz]at h
       | true =>
        simp only[hz,cond_true]at h;simp only[Bool.and_eq_true]at hz;obtain⟨hz',hee⟩:=hz;have hee:=Nat.eq_of_beq_eq_true hee;subst hee;obtain⟨z,hz,h⟩:=azp.1 h;simp only[sE0]at h;subst h;obtain⟨a0,a1,a2,rfl⟩:=inr_some hz;have hb:=fun cap (hcap:n<=cap)=>mz2 (P:=P) (w:=w) (isSlice:=true) (len:=n) (cap:=cap) (lo':=l.map ν) (hi':=hgh.map ν) (l:=li) (h:=hi)
         (fzN hρ hl)
         (fzN hρ hh) a0 a1 a2 hcap
        have hsz:=fun w=>czj (P:=P) (dz4 hz') w
        rcases hx'.1 with⟨rfl,y,ev,hy⟩|⟨k0,cap,q1,ev,q2,q3⟩
        .have hb0:=hb 0 (Nat.le_refl _);have e1:li.toNat=0:=by omega
         have e2:hi.toNat=0:=by omega
         refine POut.of_run (s:=Instr.sliceAt t (ν x) (l.map ν) (hgh.map ν) (Option.map ν none)) (u:=.slice y 0 0) ?_ (.inl ⟨by omega,y,rfl,hy⟩) (fun j hj=>hx'.2 j hj);rw[ev];simp only[Option.map_none,Instr.sliceAt,Instr.slice,Sem.run_bind,run_underlying hu,Result.andThen_ok,hb0,hsz,e1,e2];simp
        .have hb0:=hb cap q2;refine POut.of_run (s:=Instr.sliceAt t (ν x) (l.map ν) (hgh.map ν) (Option.map ν none)) (u:=.slice (if cap=li.toNat then some ⟨k0,b*P.cellsOf e',none⟩else some ⟨k0,(b+li.toNat)*P.cellsOf e',none⟩) (hi-li).toNat (cap-li.toNat)) ?_ ?_ (fun j hj=>hx'.2 j hj)
         .rw[ev];have e3:hi.toNat-li.toNat=(hi-li).toNat:=by omega
          simp only[Option.map_none,Instr.sliceAt,Instr.slice,Sem.run_bind,run_underlying hu,Result.andThen_ok,hb0,hsz,Sem.run_pure,e3];congr 2;split
          .rfl
          .simp only[Option.map_some,ezm,Nat.add_mul]
         .by_cases c:cap=li.toNat
          .rw[if_pos c];have e4:(hi-li).toNat=0:=by omega
           refine .inl ⟨e4,some ⟨k0,b*P.cellsOf e',none⟩,by rw[e4,c,Nat.sub_self],q1.symm⟩
          .rw[if_neg c];exact .inr ⟨k0,_,q1,rfl,by simp only;omega,by omega⟩
      .cases h
     .cases h
    .rename_i a _ hx;have hx':=hρ x _ hx;cases hs:nz3 tb a e with
     | none=>simp[hs]at h
     | some xs =>
      simp only[hs]at h;split at h
      .rename_i li hl;split at h
       .rename_i hi hh;cases hz':czR P e with
        | false=>simp[hz']at h
        | true =>
         simp only[hz',cond_true]at h;obtain⟨z,hz,h⟩:=azp.1 h;simp only[sE0]at h;subst h;obtain⟨a0,a1,a2,rfl⟩:=Ez1 hz;have hr:=ozW hs hx'.1;obtain⟨_,hc⟩:=fzf hr;have hb:=fun cap (hcap:xs.length<=cap)=>mz2 (P:=P) (w:=w) (isSlice:=true) (len:=xs.length) (cap:=cap) (lo':=l.map ν) (hi':=hgh.map ν) (l:=li) (h:=hi)
          (fzN hρ hl)
          (fzN hρ hh) a0 a1 a2 hcap
         have hsz:=fun w=>czj (P:=P) (dz4 hz') w
         rcases hc with⟨ev|⟨y,cap,ev,hcm⟩,rfl⟩|⟨b,off,cap,ev,h1,h2,_⟩
         .refine POut.of_run (s:=Instr.sliceAt t (ν x) (l.map ν) (hgh.map ν) (Option.map ν none)) (u:=.slice none 0 0) ?_ (by simp;exact .slnil e) (izS _);have hb0:=hb 0 (Nat.le_refl _);simp only[List.length_nil]at hb0 a2;have e1:li.toNat=0:=by omega
          have e2:hi.toNat=0:=by omega
          rw[ev];simp only[Option.map_none,Instr.sliceAt,Instr.slice,Sem.run_bind,run_underlying hu,Result.andThen_ok,hb0,hsz,e1,e2];simp
         .have hb0:=hb cap (Nat.zero_le _);simp only[List.length_nil]at hb0 a2;have e1:li.toNat=0:=by omega
          have e2:hi.toNat=0:=by omega
          refine POut.of_run (s:=Instr.sliceAt t (ν x) (l.map ν) (hgh.map ν) (Option.map ν none)) (u:=.slice (some y) 0 cap) ?_ (by simp;exact .sle e y cap hcm) (izS _);rw[ev];simp only[Option.map_none,Instr.sliceAt,Instr.slice,Sem.run_bind,run_underlying hu,Result.andThen_ok,hb0,hsz,e1,e2];simp[Addr.add]
         .rw[ev]at hr;have hp:=DzG hr hz' (l:=li.toNat) (h:=hi.toNat) (by omega) (by omega);refine POut.of_run (s:=Instr.sliceAt t (ν x) (l.map ν) (hgh.map ν) (Option.map ν none)) ?_ hp (izS _);have hb0:=hb cap h1;rw[ev];simp only[Option.map_none,Instr.sliceAt,Instr.slice,Sem.run_bind,run_underlying hu,Result.andThen_ok,hb0,hsz,Sem.run_pure];congr 2;split
          .rfl
          .simp only[Option.map_some,ezm]
       .cases h
      .cases h
    .cases h
   .cases h
 .
  rename_i x;split at h
  .rename_i i o hx;have hx':=hρ x _ hx;have e:ν x = .pointer (some ⟨μ i,o,none⟩):=hx'.1;simp only[sE0]at h;subst h;exact⟨ν x,by simp[execOp,e],hx'.1,hx'.2⟩
  .rename_i cs hx;have hx':=hρ x _ hx;obtain⟨b,off,e,h1⟩:=hx'.1;simp only[sE0]at h;subst h;exact⟨ν x,by simp[execOp,e],hx'.1,hx'.2⟩
  .rename_i i e' k o hx;have hx':=hρ x _ hx;obtain⟨b,_,e⟩:=hx'.1;simp only[sE0]at h;subst h;exact⟨ν x,by simp[execOp,e],hx'.1,hx'.2⟩
  .cases h
 .
  rename_i f first caps
  cases hz:Nat.beq first.size 0 with
  | false=>simp[hz]at h
  | true =>
   simp only[hz,cond_true]at h;have hf:first = #[]:=Array.eq_empty_of_size_eq_zero (Nat.eq_of_beq_eq_true hz)
   subst hf;cases hv:vals ρ caps.toList with
   | none=>simp[hv]at h
   | some vs =>
    simp only[hv]at h;cases hp:wzq vs with
    | none=>simp[hp]at h
    | some ps =>
     simp only[hp,sE0]at h;subst h;obtain⟨h1,h2⟩:=iz4 hρ hv;obtain⟨k1,k2⟩:=Gzr hp h1;refine⟨.func (.func f) #[] (caps.map ν),by simp[execOp,Instr.makeFunc],?_,fun i hi=>?_⟩
     .have:caps.map ν=(ps.map fun p=>Value.pointer (some ⟨μ p.1,p.2,none⟩)).toArray:=by
       apply Array.ext';simpa using k1
      rw[this];rfl
     .obtain⟨v',hv',hi'⟩:=k2 i hi;exact h2 v' hv' i hi'
 .
  rename_i args argTypes;split at h
  .rename_i v' hv;split at h
   .rename_i t ts ht;obtain⟨h1,h2⟩:=iz4 hρ hv;cases hm:args.toList.map ν with
    | nil=>rw[hm]at h1;exact h1.elim
    | cons u us =>
     rw[hm]at h1;obtain⟨h1,h3⟩:=h1;cases us with
     | cons _ _=>exact h3.elim
     | nil =>
      obtain⟨r,hr,hd,hi⟩:=Mzn (U:=U) h h1 ty ts;have ha:args.map ν = #[u]:=by apply Array.ext';simpa using hm
      have ht':argTypes=(t::ts).toArray:=by apply Array.ext';simpa using ht
      subst ht';refine⟨r,?_,hd,hi⟩;simp[execOp,resolve,invoke,builtin,ha,hr]
   .cases h
  .cases h
 .
  rename_i args argTypes;split at h
  .rename_i k x r hv;cases hm':wzo k x r with
   | none=>simp[hm']at h
   | some n =>
    simp only[hm',sE0]at h;subst h;obtain⟨h1,h2⟩:=iz4 hρ hv;cases hm:args.toList.map ν with
    | nil=>rw[hm]at h1;exact h1.elim
    | cons u us =>
     rw[hm]at h1;obtain⟨h1,h3⟩:=h1;cases h1;rename_i hx;obtain⟨k1,k2⟩:=Azj hm' hx h3;refine⟨.int k n,?_,.int _ _ k2,izS _⟩;simp[execOp,resolve,invoke,builtin,Builtin.min_,hm,k1]
  .cases h
 .
  rename_i args argTypes;split at h
  .rename_i k x r hv;cases hm':wzm k x r with
   | none=>simp[hm']at h
   | some n =>
    simp only[hm',sE0]at h;subst h;obtain⟨h1,h2⟩:=iz4 hρ hv;cases hm:args.toList.map ν with
    | nil=>rw[hm]at h1;exact h1.elim
    | cons u us =>
     rw[hm]at h1;obtain⟨h1,h3⟩:=h1;cases h1;rename_i hx;obtain⟨k1,k2⟩:=Azi hm' hx h3;refine⟨.int k n,?_,.int _ _ k2,izS _⟩;simp[execOp,resolve,invoke,builtin,Builtin.max_,hm,k1]
  .cases h
 .cases h
end Go.Ev