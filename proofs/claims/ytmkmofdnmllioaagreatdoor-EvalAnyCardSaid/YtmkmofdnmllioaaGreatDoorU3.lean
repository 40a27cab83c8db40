import Derived.Test.YtmkmofdnmllioaaGreatDoorEvB
import Derived.Orders
import Derived.Scope
import Derived.Laws.Sem
import Derived.Lib.LaidTab
import Derived.Laws.RangeString
import Derived.LaidMore
import Derived.OpenShut
import Derived.WideShapes
import Derived.Handed
import Derived.SizedLaws
import Derived.Carry
import Derived.RowKit
import Derived.Shelf.Unicode.DecodeSlow
import Derived.Lib.ItoaNum
import Derived.Test.YtmkmofdnmllioaaGreatDoorChecked
import Derived.Shelf.Spec.BitsCarry
import Derived.Lib.Bytealg
import Derived.Shelf.Small.Bits
import Derived.Shelf.Strings.Repeat
import Derived.Shelf.LaysM
import Derived.Shelf.Strconv.Itoa1
import Derived.Shelf.Strconv.Itoa2
import Derived.Lib.Walk
import Derived.Lib.ItoaMem
import Derived.Lib.AppendIntMem
import Derived.WalkKit
import Derived.BigCall
import Derived.BigGuard
set_option maxRecDepth 400000
/- EvC -/
namespace Go.Ev
open Go
open Go.IntKind (i64 u64 u8 i32 u32 i16 u16)
variable {P:Program} {tb:Tab} {R:Type} {Γ:List (Nat×FSpec tb)}
theorem fzd {α β:Type}(x:Option α){f g:α->Option β}(h:∀a,f a=g a):obnd x f=obnd x g:=congrArg (obnd x) (funext h)
theorem newVar_k {T:Nat->Type}(s:St T)(d:Nat)(z:List (AC T))(κ:St T->Option R):newVar s d z κ=obnd (newVar s d z some) κ:=by
 unfold newVar;cases s.used d<;>rfl
theorem ozA (s:St tb.T)(d e:Nat)(xs:List (tb.T e))(κ:St tb.T->Option R):ezV tb s d e xs κ=obnd (ezV tb s d e xs some) κ:=by
 unfold ezV;cases s.used d<;>rfl
theorem AzY (fid:Nat)(vs:List (SV tb.T))(dst:Option Nat)(s:St tb.T)(κ:St tb.T->Option R):∀Γ:List (Nat×FSpec tb),hzM P tb fid vs dst s κ Γ=obnd (hzM P tb fid vs dst s some Γ) κ
 | []=>rfl
 | (g,sp)::Γ=>by
  simp only[hzM];cases Nat.beq g fid with
  | false=>exact AzY fid vs dst s κ Γ
  | true =>
   simp only[cond_true];cases extS P tb s (vget s fun i=>vs[i]?) sp.ins with
   | none=>exact AzY fid vs dst s κ Γ
   | some x =>
    simp only;cases(bzz (idsS (vget s fun i=>vs[i]?) sp.ins)&&Nat.beq (azD sp.ins).length vs.length)with
    | false=>rfl
    | true =>
     simp only[cond_true];rw[dz4];congr 1;funext y;split<;>rfl
theorem LzI (dst:Option Nat)(st xt:Nat)(sv xv:SV tb.T)(s:St tb.T)(κ:St tb.T->Option R):gz2 P tb dst st xt sv xv s κ=obnd (gz2 P tb dst st xt sv xv s some) κ:=by
 unfold gz2
 repeat' (first|rfl|split)
 all_goals (first|(simp only[czb,dz4,szq];skip)|rfl)
 all_goals congr 1
 .exact fzd _ fun zs=>ozA ..
 .congr 1;exact fzd _ fun zs=>ozA ..
theorem newAr_k {tb:Tab}{R:Type}(s:St tb.T)(d e:Nat)(xs:List (tb.T e))(κ:St tb.T->Option R):nzr tb s d e xs κ=obnd (nzr tb s d e xs some) κ:=by
 unfold nzr;cases s.used d<;>rfl
theorem FzQ {tb:Tab}{R:Type}(Γ:List (Nat×FSpec tb))(s:St tb.T)(d e:Nat)(xs:List (tb.T e))(κ:St tb.T->Option R):hzq tb Γ s d e xs κ=obnd (hzq tb Γ s d e xs some) κ:=by
 unfold hzq;cases isMut Γ d
 .exact ozA ..
 .exact newAr_k ..
theorem evPut_k (t:Nat)(m kx x:Operand)(dst:Option Nat)(s:St tb.T)(κ:St tb.T->Option R):uzw P tb t m kx x dst s κ=obnd (uzw P tb t m kx x dst s some) κ:=by
 unfold uzw
 repeat' (first|rfl|split)
 all_goals (first|(rw[czb];rfl)|(rw[czb,czb];rfl))
theorem evOp_k (o:Oper)(s:St tb.T)(κ:St tb.T->Option R):evOp P tb Γ o s κ=obnd (evOp P tb Γ o s some) κ:=by
 unfold evOp;split
 all_goals first
  | exact(mz8 ..).trans ((ozB _ _ _).trans (congrArg (obnd · κ) (mz8 ..).symm))
  | exact evPut_k ..
  | skip
 all_goals repeat' (first|rfl|exact newVar_k .. | exact FzQ .. | exact ozA .. | exact AzY .. | exact LzI .. | exact(mz8 ..).trans ((ozB _ _ _).trans (congrArg (obnd · κ) (mz8 ..).symm))|(simp only[rzk,czb,dz4,aza,szq];done)|split)
 all_goals (first|(rw[czb];rfl)|(rw[czb,czb];rfl)|skip)
 all_goals (simp only[czb,dz4,szq];congr 1)
 all_goals (first|exact FzQ .. | exact fzd _ fun _=>FzQ .. | exact ozA .. | exact fzd _ fun _=>ozA .. | (split<;>rfl)|(congr 1;split<;>rfl)|(refine fzd _ fun _=>?_;split<;>rfl)|(refine fzd _ fun _=>?_;rw[czb];congr 1;split<;>rfl)|skip)
theorem yzy {ops:Array Oper}(o:Oper)(s:St tb.T)(κ:Foot->St tb.T->Option R):evG P tb Γ ops o s κ=obnd (evG P tb Γ ops o s fun f s'=>some (f,s')) fun p=>κ p.1 p.2:=by
 have key:∀(s0:St tb.T) f,evOp P tb Γ o s0 (κ f)=obnd (evOp P tb Γ o s0 fun s'=>some (f,s')) fun p=>κ p.1 p.2:=fun s0 f=>by
  rw[evOp_k,evOp_k (κ:=fun s'=>some (f,s')),dz4];rfl
 unfold evG;split
 .exact key _ _
 .split
  .rfl
  .split
   .rfl
   .split
    .rename_i want _ _ _ _ _ _ _ _ _ _;rw[rzk];cases want<;>simp only[cond_true,cond_false,aza]<;>rw[key]
    .rfl
    .rfl
theorem Fzq {ops:Array Oper}:∀(os:List Oper) (s:St tb.T) (κ:St tb.T->Option R),oz5 P tb Γ ops os s κ=obnd (oz5 P tb Γ ops os s some) κ
 | [],_,_=>rfl
 | o::os,s,κ=>by
  simp only[oz5];rw[yzy,yzy (κ:=fun _ s'=>oz5 P tb Γ ops os s' some),dz4];exact fzd _ fun p=>Fzq os p.2 κ
theorem Az0 {ops:Array Oper}:∀(os:List Oper) (ms:List Nat) (seen:List (Oper×Foot)) (s:St tb.T) (κ:St tb.T->Option R),jz4 P tb Γ ops os ms seen s κ=obnd (jz4 P tb Γ ops os ms seen s some) κ
 | [],_,_,_,_=>rfl
 | _::_,[],_,_,_=>rfl
 | o::os,m::ms,seen,s,κ=>by
  simp only[jz4];rw[yzy,yzy (κ:=fun f s'=>bif tz1 ops m o f seen 0 then jz4 P tb Γ ops os ms (seen++[(o,f)]) s' some else none),dz4];refine fzd _ fun p=>?_
  rw[czb];congr 1;exact Az0 os ms _ p.2 κ
end Go.Ev
namespace Go.Ev
open Go
open Go.IntKind (i64 u64 u8 i32 u32 i16 u16)
variable {P:Program} {tb:Tab} {N:Nat} {W:Nat->Prop} {a0:Act} {g0:Gh} {w0:World} {D0:Nat->Prop}
variable {s s':St tb.T} {g g':Gh} {μ μ':Nat->Nat} {τ τ':Nat->Option Nat} {a:Act} {w w':World}
variable {Γ:List (Nat×FSpec tb)} {ops:Array Oper} {Q:Exit->Act->World->Prop}
theorem upd_id {α:Type}(f:Nat->α)(i:Nat)(v:α)(h:f i=v):upd f i v=f:=funext fun j=>by
 rw[azp];split
 .rename_i e;subst e;exact h.symm
 .rfl
theorem DzX {T:Nat->Type}(s:St T)(t:Nat)(v:SV T)(h:s.env t=some v):s.put t v=s:=by
 unfold St.put;rw[upd_id _ _ _ h]
inductive GStep (P:Program) (tb:Tab) (Γ:List (Nat×FSpec tb)) (ops:Array Oper) (o:Oper) (s:St tb.T):Foot->St tb.T->Prop where
 | run (s':St tb.T):(∀j want,o.guard=some (j,want)->∃oj t,ops[j]?=some oj/\oj.dst=some t/\s.env t=some (.c (.d (.bool want)))) ->
  evOp P tb Γ o s some=some s'->GStep P tb Γ ops o s (azJ Γ o.op s) s'
 | skip (j:Nat) (want:Bool) (oj:Oper) (t:Nat):o.guard=some (j,want)->ops[j]?=some oj->oj.dst=some t->(s.env t=some (.c (.d (.bool (!want))))\/s.env t=some (.tup [])) ->
  GStep P tb Γ ops o s .p (s.putO o.dst (.tup []))
theorem Iz2 {o:Oper}{f:Foot}(he:evG P tb Γ ops o s (fun f s'=>some (f,s'))=some (f,s')):GStep P tb Γ ops o s f s':=by
 have key:∀f0,evOp P tb Γ o s (fun s'=>some (f0,s'))=some (f,s')->evOp P tb Γ o s some=some s'/\f=f0:=fun f0 h=>by
  rw[evOp_k]at h;obtain⟨s1,h1,h2⟩:=azu.1 h;simp only[sE0,Prod.mk.injEq]at h2;exact⟨by rw[h1,h2.2],h2.1.symm⟩
 unfold evG at he;split at he
 .rename_i hg;obtain⟨h1,rfl⟩:=key _ he;exact .run _ (fun j want h=>by rw[hg]at h;cases h) h1
 .rename_i j want hg;split at he
  .cases he
  .rename_i oj hj;split at he
   .cases he
   .rename_i t ht;split at he
    .rename_i b hb;cases b<;>cases want<;>simp only[brn,cond_true,cond_false]at he
     .rw[DzX _ _ _ hb]at he;obtain⟨h1,rfl⟩:=key _ he;refine .run _ (fun j' want' h=>?_) h1;rw[hg]at h;simp only[sE0,Prod.mk.injEq]at h;obtain⟨rfl,rfl⟩:=h;exact⟨oj,t,hj,ht,hb⟩
     .rw[DzX _ _ _ hb]at he;simp only[sE0,Prod.mk.injEq]at he;obtain⟨rfl,rfl⟩:=he;exact .skip j true oj t hg hj ht (.inl hb)
     .rw[DzX _ _ _ hb]at he;simp only[sE0,Prod.mk.injEq]at he;obtain⟨rfl,rfl⟩:=he;exact .skip j false oj t hg hj ht (.inl hb)
     .rw[DzX _ _ _ hb]at he;obtain⟨h1,rfl⟩:=key _ he;refine .run _ (fun j' want' h=>?_) h1;rw[hg]at h;simp only[sE0,Prod.mk.injEq]at h;obtain⟨rfl,rfl⟩:=h;exact⟨oj,t,hj,ht,hb⟩
    .rename_i hb;simp only[sE0,Prod.mk.injEq]at he;obtain⟨rfl,rfl⟩:=he;exact .skip j want oj t hg hj ht (.inr hb)
    .cases he
theorem vzu (h:SimAt P tb N W a0 g0 w0 D0 s g μ τ a w){j t:Nat}{oj:Oper}(hj:ops[j]?=some oj)(ht:oj.dst=some t):
 (∀b,s.env t=some (.c (.d (.bool b)))->yielded ops a.tmps j=some b)/\(s.env t=some (.tup [])->yielded ops a.tmps j=none):=by
 refine⟨fun b hb=>?_,fun hb=>?_⟩
 .obtain⟨u,hu,hr⟩:=h.env t _ hb;have hr':RepD P tb g w (.bool b) u:=hr;cases hr';simp[yielded,hj,ht,hu]
 .obtain⟨u,hu,us,hr,h2⟩:=h.env t _ hb;have:us=[]:=by cases us with|nil=>rfl|cons _ _=>exact h2.elim
  subst this;simp[yielded,hj,ht,hu,hr]
theorem oz9 (hΓ:∀p∈Γ,bzU P tb p.1 p.2)(hsl:∀p∈Γ,(azD p.2.ins).map (·.1)=List.range (azD p.2.ins).length)(h:SimAt P tb N W a0 g0 w0 D0 s g μ τ a w){i:Nat}{o:Oper}(ho:ops[i]?=some o)
 (hd:∀d,o.dst=some d->d<N/\W d) {f:Foot} (he:GStep P tb Γ ops o s f s'):wpOp P ops Q i (Goes P tb N W a0 g0 w0 D0 s') a w:=by
 unfold wpOp;rw[ho];simp only;cases he with
 | run _ hg he =>
  have hw:Region.wanted o (yielded ops a.tmps)=true:=by
   unfold Region.wanted;cases hgd:o.guard with
   | none=>rfl
   | some p =>
    obtain⟨oj,t,h1,h2,h3⟩:=hg p.1 p.2 hgd;have:=(vzu h h1 h2).1 _ h3;simp[this]
  rw[if_pos hw];exact .inl (LzK hΓ hsl h o hd he)
 | skip j want oj t hgd h1 h2 h3 =>
  have hw:Region.wanted o (yielded ops a.tmps)=false:=by
   unfold Region.wanted;rw[hgd];rcases h3 with h3|h3
   .have:=(vzu h h1 h2).1 _ h3;simp[this]
   .have:=(vzu h h1 h2).2 h3;simp[this]
  rw[hw,if_neg (by simp)];exact(h.putO hd (v:=.tup []) (u:=undef) ⟨[],rfl,trivial⟩ (by simp[SV.ids])).sim
theorem zz3 (hΓ:∀p∈Γ,bzU P tb p.1 p.2)(hsl:∀p∈Γ,(azD p.2.ins).map (·.1)=List.range (azD p.2.ins).length)(hd:∀o∈ops.toList,∀d,o.dst=some d->d<N/\W d):
 ∀(os:List Oper) (k:Nat) (s:St tb.T) (a:Act) (w:World),(∀j,os[j]?=ops[k+j]?)->Sim P tb N W a0 g0 w0 D0 s a w->oz5 P tb Γ ops os s some=some s' ->
  (∀a w,Sim P tb N W a0 g0 w0 D0 s' a w->Q .normal a w)->wpOps P ops Q (List.range' k os.length) a w
 | [],k,s,a,w,_,h,he,hQ=>by
  simp only[oz5,sE0]at he;subst he;exact hQ a w h
 | o::os,k,s,a,w,hk,⟨g,μ,τ,h⟩,he,hQ=>by
  have ho:ops[k]?=some o:=by simpa using(hk 0).symm
  simp only[oz5]at he;rw[yzy]at he;obtain⟨⟨f,s1⟩,h1,h2⟩:=azu.1 he;rw[List.length_cons,List.range'_succ,wpOps_cons];refine wpOp_mono (fun a1 w1 h3=>?_) (oz9 hΓ hsl h ho (hd o (by
   have:=Array.mem_of_getElem? ho;simpa using this)) (Iz2 h1))
  exact zz3 hΓ hsl hd os (k+1) s1 a1 w1 (fun j=>by
   have:=hk (j+1);simp only[List.getElem?_cons_succ]at this;rw[this];congr 1;omega) h3 h2 hQ
theorem Kzm (hΓ:∀p∈Γ,bzU P tb p.1 p.2)(hsl:∀p∈Γ,(azD p.2.ins).map (·.1)=List.range (azD p.2.ins).length)(hd:∀o∈ops.toList,∀d,o.dst=some d->d<N/\W d)
 (h:Sim P tb N W a0 g0 w0 D0 s a w) (he:oz5 P tb Γ ops ops.toList s some=some s') (hQ:∀a w,Sim P tb N W a0 g0 w0 D0 s' a w->Q .normal a w) {id:Nat}:(Code.region id ops false).wp P Q a w:=by
 refine wp_region ?_;have:=zz3 (Q:=Q) hΓ hsl hd ops.toList 0 s a w (fun j=>by simp) h he hQ;simpa[List.range_eq_range']using this
end Go.Ev
namespace Go.Ev
open Go
open Go.IntKind (i64 u64 u8 i32 u32 i16 u16)
variable {P:Program} {tb:Tab} {R:Type} {Γ:List (Nat×FSpec tb)} {s s' s1:St tb.T}
theorem lzi {T:Nat->Type}{ρ ρ':Operand->Option (SV T)}:∀{xs:List Operand},(∀x∈xs,ρ x=ρ' x)->vals ρ xs=vals ρ' xs
 | [],_=>rfl
 | x::xs,h=>by
  simp only[vals];rw[h x (by simp),lzi (xs:=xs) fun y hy=>h y (by simp[hy])]
theorem zz4 {T:Nat->Type}{ρ ρ':Operand->Option (SV T)}{t:Nat}:∀{ps:List (Nat×Operand)} {cells:List (AC T)},(∀p∈ps,ρ p.2=ρ' p.2)->lzP P t ρ ps cells=lzP P t ρ' ps cells
 | [],_,_=>rfl
 | (i,x)::ps,cells,h=>by
  simp only[lzP];rw[h (i,x) (by simp)];simp only[zz4 (ps:=ps) fun y hy=>h y (by simp[hy])]
theorem vzw {T:Nat->Type}{ρ ρ':Operand->Option (SV T)}{x:Option Operand}{d:Int}(h:∀y∈x.toList,ρ y=ρ' y):eza ρ x d=eza ρ' x d:=by
 cases x with
 | none=>rfl
 | some y=>simp only[eza];rw[h y (by simp)]
theorem wzY {ρ ρ':Operand->Option (SV tb.T)}{κ:SV tb.T->Option R}(o:Op)(h:∀x∈o.operands.toList,ρ x=ρ' x):evP P tb o ρ κ=evP P tb o ρ' κ:=by
 cases o
 case call c =>
  obtain⟨callee,args,tys⟩:=c;have hv:vals ρ args.toList=vals ρ' args.toList:=lzi fun x hx=>h x (by
   simp only[Op.operands,Call.operands,Array.toList_append,List.mem_append];exact .inr hx)
  cases callee with
  | builtin b=>cases b<;>simp only[evP,hv]
  | value f=>rfl
  | invoke r m=>rfl
 case build t ps =>
  have:∀cells:List (AC tb.T),lzP P t ρ ps.toList cells=lzP P t ρ' ps.toList cells:=fun cells=>zz4 fun p hp=>h p.2 (by
   simp only[Op.operands,List.mem_map];exact⟨p,hp,rfl⟩)
  simp only[evP,this]
 case slice t x l hh m =>
  have hx:=h x (by simp[Op.operands]);have h1:∀d,eza ρ l d=eza ρ' l d:=fun d=>vzw fun y hy=>h y (by cases l<;>simp_all [Op.operands])
  have h2:∀d,eza ρ hh d=eza ρ' hh d:=fun d=>vzw fun y hy=>h y (by cases hh<;>simp_all [Op.operands])
  simp only[evP,hx,h1,h2]
 case makeFunc fn first caps =>
  have hv:vals ρ caps.toList=vals ρ' caps.toList:=lzi fun x hx=>h x (by
   simp only[Op.operands,Array.toList_append,List.mem_append];exact .inr hx)
  cases fn<;>simp only[evP,hv]
 all_goals first
  | rfl
  | (simp only[evP];simp only[Op.operands,List.mem_cons,List.not_mem_nil,or_false,forall_eq_or_imp,forall_eq]at h;simp only[h];done)
structure Eff (T:Nat->Type) where
 d:Option Nat
 v:SV T
 F:Nat->Bool:=fun _=>false
 b:Nat->Option (List (AC T)):=fun _=>none
 it:Nat->Option (Ob T):=fun _=>none
 tk:Nat->Bool:=fun _=>false
def Eff.apply {T:Nat->Type}(e:Eff T)(s:St T):St T :=
  { env := match e.d with | some d => upd s.env d (some e.v) | none => s.env
    blk:=fun i=>(e.b i).or (s.blk i)
    itr:=fun i=>(e.it i).or (s.itr i)
    tok:=fun i=>e.tk i||s.tok i
    used:=fun i=>e.F i||s.used i
    ro := s.ro }
def Foot.mem:Foot->Nat->Prop
 | .l i,j | .st i,j=>j=i
 | _,_=>False
structure Does (P:Program) (tb:Tab) (Γ:List (Nat×FSpec tb)) (o:Oper) (s:St tb.T) (f:Foot) (s':St tb.T) (e:Eff tb.T):Prop where
 eq:s'=e.apply s
 fresh:∀i,e.F i=true->s.used i=false
 mb:∀i,e.b i≠none->e.F i=true\/f = .st i
 mit:∀i,e.it i≠none->e.F i=true
 mtk:∀i,e.tk i=true->e.F i=true
 dst:e.d=none\/e.d=o.dst
 reads:∀i,f.mem i->∃t v,.tmp t∈o.op.operands.toList/\s.env t=some v/\i∈v.ids
 again:∀s1,(∀x∈o.op.operands.toList,s1.val x=s.val x)->(∀i,f.mem i->s1.blk i=s.blk i/\s1.itr i=s.itr i)->s1.ro=s.ro->(∀i,e.F i=true->s1.used i=false)->evOp P tb Γ o s1 some=some (e.apply s1)/\azJ Γ o.op s1=f
theorem bz2 (s:St tb.T)(d:Option Nat)(v:SV tb.T):s.putO d v=Eff.apply {d:=d,v:=v} s:=by
 cases d<;>simp[Eff.apply,St.putO,St.put]
def dzo {T:Nat->Type}(e:Eff T)(dt:Option Nat)(s:St T):St T :=
 {e.apply s with tok:=fun i=>match dt with|some t=>(bif Nat.beq i t then false else(e.apply s).tok i)|none=>(e.apply s).tok i}
theorem Kzo {T:Nat->Type}(e:Eff T)(s:St T):dzo e none s=e.apply s:=rfl
structure DoesT (P:Program) (tb:Tab) (Γ:List (Nat×FSpec tb)) (o:Oper) (s:St tb.T) (f:Foot) (s':St tb.T) (e:Eff tb.T) (dt:Option Nat):Prop where
 eq:s'=dzo e dt s
 fresh:∀i,e.F i=true->s.used i=false
 mb:∀i,e.b i≠none->e.F i=true\/f = .st i
 mit:∀i,e.it i≠none->e.F i=true
 mtk:∀i,e.tk i=true->e.F i=true
 mdt:∀i,dt=some i->f = .ap (some i)
 dst:e.d=none\/e.d=o.dst
 reads:∀i,(f.mem i\/f = .ap (some i))->∃t v,.tmp t∈o.op.operands.toList/\s.env t=some v/\i∈v.ids
 again:∀s1,(∀x∈o.op.operands.toList,s1.val x=s.val x)->(∀i,f.mem i->s1.blk i=s.blk i/\s1.itr i=s.itr i)->(∀i,f = .ap (some i)->s1.tok i=s.tok i)->s1.ro=s.ro->(∀i,e.F i=true->s1.used i=false)->evOp P tb Γ o s1 some=some (dzo e dt s1)/\azJ Γ o.op s1=f
theorem Does.toT {o:Oper}{f:Foot}{e:Eff tb.T}(h:Does P tb Γ o s f s' e)(hf:∀t,f≠.ap t):DoesT P tb Γ o s f s' e none :=
 ⟨h.eq,h.fresh,h.mb,h.mit,h.mtk,fun i hi=>(by cases hi),h.dst,fun i hi=>h.reads i (hi.resolve_right (hf _)),fun s1 h1 h2 _ h3 h4=>h.again s1 h1 h2 h3 h4⟩
theorem does_P {o:Oper}(ho:∀s:St tb.T,evOp P tb Γ o s some=evP P tb o.op s.val fun v=>some (s.putO o.dst v))(hf:∀s:St tb.T,azJ Γ o.op s=azJ Γ o.op s')(hfm:∀i,¬(azJ Γ o.op s').mem i)
 (he:evOp P tb Γ o s some=some s'):∃e,Does P tb Γ o s (azJ Γ o.op s) s' e:=by
 rw[ho,mz8]at he;obtain⟨v,hv,he⟩:=azu.1 he;simp only[sE0]at he;refine⟨{d:=o.dst,v:=v},by rw[<-he,bz2],by simp,by simp,by simp,by simp,.inr rfl,fun i hi=>absurd (by rw[<-hf s];exact hi) (hfm i),fun s1 h1 _ _ _=>⟨?_,by rw[hf s1,hf s]⟩⟩;rw[ho,mz8,wzY o.op h1,hv];simp only[aza,bz2]
theorem yzF {x:Operand}{v:SV tb.T}{i:Nat}(hv:s.val x=some v)(hi:i∈v.ids):∃t,x = .tmp t/\s.env t=some v:=by
 cases x with
 | tmp t=>exact⟨t,rfl,hv⟩
 | const c =>
  simp only[St.val]at hv;cases hc:(ezo c:Option (AC tb.T))with
  | none=>simp[hc]at hv
  | some ac =>
   simp only[hc,sE0]at hv;subst hv;have:=(mzZ (P:=default) (tb:=tb) (g:=fun _=>.con) (w:=default) (μ:=fun _=>0) (τ:=fun _=>none) (tok:=fun _=>false) hc).2;simp[SV.ids,this]at hi
 | global _=>simp[St.val]at hv
 | func f=>simp only[St.val,sE0]at hv;subst hv;simp[SV.ids,AC.ids]at hi
end Go.Ev
namespace Go.Ev
open Go
open Go.IntKind (i64 u64 u8 i32 u32 i16 u16)
variable {P:Program} {tb:Tab} {R:Type} {Γ:List (Nat×FSpec tb)} {s s' s1:St tb.T}
theorem tz7 {α:Type}(f:Nat->Option α)(i:Nat)(v:α):upd f i (some v)=fun j=>(upd (fun _=>none) i (some v) j).or (f j):=funext fun j=>by
 simp only[azp];split<;>simp
theorem jzK (f:Nat->Bool)(i:Nat):upd f i true=fun j=>upd (fun _=>false) i true j||f j:=funext fun j=>by
 simp only[azp];split<;>simp
theorem DzN {d:Nat}{z:List (AC tb.T)}(h:newVar s d z some=some s'):s.used d=false/\s'=Eff.apply {d:=some d,v:=.c (.ptr d 0),F:=upd (fun _=>false) d true,b:=upd (fun _=>none) d (some z)} s:=by
 unfold newVar at h;cases hu:s.used d with
 | true=>simp[hu]at h
 | false =>
  simp only[hu,cond_false,sE0]at h;refine⟨rfl,?_⟩;rw[<-h,Eff.apply,tz7 s.blk,jzK s.used];simp
theorem Jzn {d:Nat}{z:List (AC tb.T)}(h:s.used d=false):newVar s d z some=some (Eff.apply {d:=some d,v:=.c (.ptr d 0),F:=upd (fun _=>false) d true,b:=upd (fun _=>none) d (some z)} s):=by
 have:newVar s d z some=some {s with env:=upd s.env d (some (.c (.ptr d 0))),blk:=upd s.blk d (some z),used:=upd s.used d true}:=by simp[newVar,h]
 rw[this];rw[(DzN this).2]
theorem nzt {d e:Nat}{xs:List (tb.T e)}(h:ezV tb s d e xs some=some s'):s.used d=false/\s'=Eff.apply {d:=some d,v:=.c (.own e xs d),F:=upd (fun _=>false) d true,tk:=upd (fun _=>false) d true} s:=by
 unfold ezV at h;cases hu:s.used d with
 | true=>simp[hu]at h
 | false =>
  simp only[hu,cond_false,sE0]at h;refine⟨rfl,?_⟩;rw[<-h,Eff.apply,jzK s.tok,jzK s.used];simp
theorem nzs {d e:Nat}{xs:List (tb.T e)}(h:s.used d=false):ezV tb s d e xs some=some (Eff.apply {d:=some d,v:=.c (.own e xs d),F:=upd (fun _=>false) d true,tk:=upd (fun _=>false) d true} s):=by
 have:ezV tb s d e xs some=some {s with env:=upd s.env d (some (.c (.own e xs d))),tok:=upd s.tok d true,used:=upd s.used d true}:=by simp[ezV,h]
 rw[this];rw[(nzt this).2]
theorem kzI {i j:Nat}(h:upd (fun _=>false) i true j=true):j=i:=by
 rw[azp]at h;split at h
 .assumption
 .cases h
theorem pzj {α:Type}{i j:Nat}{v:Option α}(h:upd (fun _=>none) i v j≠none):j=i:=by
 rw[azp]at h;split at h
 .assumption
 .exact absurd rfl h
theorem zz2 {o:Oper}{d:Nat}{z:List (AC tb.T)}(hdst:o.dst=some d)(hf:∀s:St tb.T,azJ Γ o.op s = .n)
 (ho:∀s1:St tb.T,(∀x∈o.op.operands.toList,s1.val x=s.val x)->evOp P tb Γ o s1 some=newVar s1 d z some) (he:evOp P tb Γ o s some=some s'):∃e,Does P tb Γ o s (azJ Γ o.op s) s' e:=by
 rw[ho s fun _ _=>rfl]at he;obtain⟨h1,h2⟩:=DzN he;refine⟨_,h2,fun i hi=>by rw[kzI hi];exact h1,fun i hi=>.inl (by rw[pzj hi];show upd (fun _=>false) d true d=true;exact azf _ _ _),by simp,by simp,.inr hdst.symm,fun i hi=>absurd hi (by rw[hf];exact fun h=>h),fun s1 k1 _ _ k4=>⟨?_,by rw[hf,hf]⟩⟩;rw[ho s1 k1];exact Jzn (k4 d (by show upd (fun _=>false) d true d=true;exact azf _ _ _))
theorem KzB {o:Oper}{d e:Nat}{xs:List (tb.T e)}(hdst:o.dst=some d)(hf:∀s:St tb.T,azJ Γ o.op s = .n)
 (ho:∀s1:St tb.T,(∀x∈o.op.operands.toList,s1.val x=s.val x)->evOp P tb Γ o s1 some=ezV tb s1 d e xs some) (he:evOp P tb Γ o s some=some s'):∃e,Does P tb Γ o s (azJ Γ o.op s) s' e:=by
 rw[ho s fun _ _=>rfl]at he;obtain⟨h1,h2⟩:=nzt he;refine⟨_,h2,fun i hi=>by rw[kzI hi];exact h1,by simp,by simp,fun _ h=>h,.inr hdst.symm,fun i hi=>absurd hi (by rw[hf];exact fun h=>h),fun s1 k1 _ _ k4=>⟨?_,by rw[hf,hf]⟩⟩;rw[ho s1 k1];exact nzs (k4 d (by show upd (fun _=>false) d true d=true;exact azf _ _ _))
theorem GzI {d e:Nat}{xs:List (tb.T e)}(h:nzr tb s d e xs some=some s'):s.used d=false/\s'=Eff.apply {d:=some d,v:=.c (.vsl d xs.length),F:=upd (fun _=>false) d true,it:=upd (fun _=>none) d (some (.ar e xs))} s:=by
 unfold nzr at h;cases hu:s.used d with
 | true=>simp[hu]at h
 | false =>
  simp only[hu,cond_false,sE0]at h;refine⟨rfl,?_⟩;rw[<-h,Eff.apply,tz7 s.itr,jzK s.used];simp
theorem Kz1 {d e:Nat}{xs:List (tb.T e)}(h:s.used d=false):nzr tb s d e xs some=some (Eff.apply {d:=some d,v:=.c (.vsl d xs.length),F:=upd (fun _=>false) d true,it:=upd (fun _=>none) d (some (.ar e xs))} s):=by
 have:nzr tb s d e xs some=some {s with env:=upd s.env d (some (.c (.vsl d xs.length))),itr:=upd s.itr d (some (.ar e xs)),used:=upd s.used d true}:=by simp[nzr,h]
 rw[this];rw[(GzI this).2]
theorem qzn {o:Oper}{d e:Nat}{xs:List (tb.T e)}(hdst:o.dst=some d)(hf:∀s:St tb.T,azJ Γ o.op s = .n)
 (ho:∀s1:St tb.T,(∀x∈o.op.operands.toList,s1.val x=s.val x)->evOp P tb Γ o s1 some=hzq tb Γ s1 d e xs some) (he:evOp P tb Γ o s some=some s'):∃e,Does P tb Γ o s (azJ Γ o.op s) s' e:=by
 cases hm:isMut Γ d with
 | false =>
  refine KzB (e:=e) (xs:=xs) hdst hf (fun s1 h1=>?_) he;rw[ho s1 h1];unfold hzq;rw[hm];rfl
 | true =>
  have ho':∀s1:St tb.T,(∀x∈o.op.operands.toList,s1.val x=s.val x)->evOp P tb Γ o s1 some=nzr tb s1 d e xs some:=fun s1 h1=>by
   rw[ho s1 h1];unfold hzq;rw[hm];rfl
  rw[ho' s fun _ _=>rfl]at he;obtain⟨h1,h2⟩:=GzI he;refine⟨_,h2,fun i hi=>by rw[kzI hi];exact h1,by simp,fun i hi=>by rw[pzj hi];show upd (fun _=>false) d true d=true;exact azf _ _ _,by simp,.inr hdst.symm,fun i hi=>absurd hi (by rw[hf];exact fun h=>h),fun s1 k1 _ _ k4=>⟨?_,by rw[hf,hf]⟩⟩;rw[ho' s1 k1];exact Kz1 (k4 d (by show upd (fun _=>false) d true d=true;exact azf _ _ _))
theorem does_load {o:Oper}{t:Nat}{a:Operand}(ho:o.op = .load t a)(he:evOp P tb Γ o s some=some s')(hx:azJ Γ o.op s≠.x):∃e,Does P tb Γ o s (azJ Γ o.op s) s' e:=by
 have hev:∀s1:St tb.T,evOp P tb Γ o s1 some=match s1.val a with
  | some (.c (.ptr i off))=>match s1.blk i with
   | some cells=>match cut1 P t cells off with
    | some v=>some (s1.putO o.dst v)
    | none=>none
   | none=>none
  | some (.c (.cptr cs))=>match cut1 P t (cs.map AC.d) 0 with
   | some v=>some (s1.putO o.dst v)
   | none=>none
  | some (.c (.elp i e k off))=>match s1.itr i with
   | some (.ar e' xs)=>bif Nat.beq e' e then obnd (nth xs k) fun y=>(match cut1 P t ((tb.enc e' y).map AC.d) off with
    | some v=>some (s1.putO o.dst v)
    | none=>none)else none
   | _=>none
  | _=>none:=fun s1=>by obtain⟨odst,oop,oty,oaf,ogd⟩:=o;simp only at ho;subst ho;rfl
 have hft:∀s1:St tb.T,azJ Γ o.op s1=match s1.val a with|some (.c (.ptr i _))=>.l i|some (.c (.cptr _))=>.p|_=>.x:=fun s1=>by rw[ho];rfl
 have hop:a∈o.op.operands.toList:=by rw[ho];simp[Op.operands]
 rw[hev]at he;split at he
 .rename_i i off hv;split at he
  .rename_i cells hb;split at he
   .rename_i v hc;simp only[sE0]at he;have hf:azJ Γ o.op s = .l i:=by rw[hft,hv]
    rw[hf];refine⟨{d:=o.dst,v:=v},by rw[<-he,bz2],by simp,by simp,by simp,by simp,.inr rfl,fun j hj=>?_,fun s1 k1 k2 _ _=>⟨?_,by rw[hft,k1 a hop,hv]⟩⟩
    .have:j=i:=hj;subst this;obtain⟨t',e,h'⟩:=yzF hv (i:=j) (by simp[SV.ids,AC.ids]);exact⟨t',_,by rw[<-e];exact hop,h',by simp[SV.ids,AC.ids]⟩
    .rw[hev,k1 a hop,hv];simp only[(k2 i rfl).1,hb,hc,bz2]
   .cases he
  .cases he
 .rename_i cs hv;split at he
  .rename_i v hc;simp only[sE0]at he;have hf:azJ Γ o.op s = .p:=by rw[hft,hv]
   rw[hf];refine⟨{d:=o.dst,v:=v},by rw[<-he,bz2],by simp,by simp,by simp,by simp,.inr rfl,fun j hj=>hj.elim,fun s1 k1 _ _ _=>⟨?_,by rw[hft,k1 a hop,hv]⟩⟩;rw[hev,k1 a hop,hv];simp only[hc,bz2]
  .cases he
 .rename_i hv;exact absurd (by rw[hft,hv]) hx
 .cases he
theorem LzG {o:Oper}{t:Nat}{a x:Operand}(ho:o.op = .store t a x)(he:evOp P tb Γ o s some=some s')(hx:azJ Γ o.op s≠.x):∃e,Does P tb Γ o s (azJ Γ o.op s) s' e:=by
 have hft:∀s1:St tb.T,azJ Γ o.op s1=match s1.val a with|some (.c (.ptr i _))=>.st i|_=>.x:=fun s1=>by rw[ho];rfl
 have hopa:a∈o.op.operands.toList:=by rw[ho];simp[Op.operands]
 have hopx:x∈o.op.operands.toList:=by rw[ho];simp[Op.operands]
 have hev:∀s1:St tb.T,evOp P tb Γ o s1 some=match o.dst with
  | some _=>none
  | none=>match s1.val a with
   | some (.c (.ptr i off))=>bif s1.ro i then none else match s1.blk i with
    | some cells=>match s1.val x with
     | some v=>match v.cells with
      | some MzU=>bif czC P t&&Nat.beq MzU.length (P.cellsOf t)&&Nat.ble (off+MzU.length) cells.length then some {s1 with blk:=upd s1.blk i (some (cz6 cells MzU off))}else none
      | none=>none
     | none=>none
    | none=>none
   | some (.c (.elp i e k off))=>match s1.itr i with
    | some (.ar e' xs)=>bif Nat.beq e' e then(match s1.val x with
     | some v=>match v.cells with
      | some MzU=>match cvs MzU with
       | some cs=>obnd (nth xs k) fun y=>bif czC P t&&Nat.beq cs.length (P.cellsOf t)&&Nat.ble (off+cs.length) (tb.enc e' y).length then(match tb.dec e' (cz6 (tb.enc e' y) cs off)with
        | some y'=>some {s1 with itr:=upd s1.itr i (some (.ar e' (xs.set k y')))}
        | none=>none)else none
       | none=>none
      | none=>none
     | none=>none)else none
    | _=>none
   | _=>none:=fun s1=>by obtain⟨odst,oop,oty,oaf,ogd⟩:=o;simp only at ho;subst ho;rfl
 rw[hev]at he;cases hdst:o.dst with
 | some d=>simp[hdst]at he
 | none =>
  simp only[hdst]at he;split at he
  .rename_i i off hv;cases hro:s.ro i with
   | true=>simp[hro]at he
   | false =>
    simp only[hro,cond_false]at he;split at he
    .rename_i cells hb;split at he
     .rename_i v hvx;split at he
      .rename_i MzU has;cases hk:(czC P t&&Nat.beq MzU.length (P.cellsOf t)&&Nat.ble (off+MzU.length) cells.length)with
       | false=>simp only[hk,cond_false,reduceCtorEq]at he
       | true =>
        simp only[hk,cond_true,sE0]at he;have hf:azJ Γ o.op s = .st i:=by rw[hft,hv]
        rw[hf];refine⟨{d:=none,v:=.tup [],b:=upd (fun _=>none) i (some (cz6 cells MzU off))},?_,by simp,fun j hj=>.inr (by rw[pzj hj]),by simp,by simp,.inl rfl,fun j hj=>?_,fun s1 k1 k2 k3 _=>⟨?_,by rw[hft,k1 a hopa,hv]⟩⟩
        .rw[<-he,Eff.apply,tz7 s.blk];simp
        .have:j=i:=hj;subst this;obtain⟨t',e,h'⟩:=yzF hv (i:=j) (by simp[SV.ids,AC.ids]);exact⟨t',_,by rw[<-e];exact hopa,h',by simp[SV.ids,AC.ids]⟩
        .rw[hev,hdst];simp only[k1 a hopa,hv,k3,hro,(k2 i rfl).1,hb,k1 x hopx,hvx,has,hk,cond_false,cond_true];rw[tz7 s1.blk,Eff.apply];simp[k3]
      .cases he
     .cases he
    .cases he
  .rename_i hv;exact absurd (by rw[hft,hv]) hx
  .cases he
theorem uzV:∀{l:aze},aze.plain l=true->azk l=[]
 | [],_=>rfl
 | (i,p)::l,h=>by
  simp only[aze.plain,List.all_cons,Bool.and_eq_true]at h;have ih:=uzV (l:=l) h.2;cases p<;>simp_all [azk,Pat.isRef]
theorem szs {T:Nat->Type}{get:Nat->Option (SV T)}:∀{l:aze},aze.plain l=true->idsS get l=[]
 | [],_=>rfl
 | (i,p)::l,h=>by
  simp only[aze.plain,List.all_cons,Bool.and_eq_true]at h;have ih:=szs (get:=get) (l:=l) h.2;cases p<;>simp_all [idsS,idsP];split<;>rfl
theorem xzz {get:Nat->Option (SV tb.T)}:∀{l:aze},aze.plain l=true->extS P tb s get l=extS P tb s1 get l
 | [],_=>rfl
 | [(i,p)],h=>by
  simp only[aze.plain,List.all_cons,Bool.and_eq_true]at h;cases p<;>first|rfl|simp at h
 | (i,p)::b::l,h=>by
  simp only[aze.plain,List.all_cons,Bool.and_eq_true]at h;have ih:=xzz (get:=get) (l:=b::l) (by simp only[aze.plain,List.all_cons,Bool.and_eq_true];exact h.2);cases p<;>first|(simp only[extS,ih,extP];done)|simp at h
theorem Jzw:∀{l:aze},aze.plain l=true->tkOf l=[]
 | [],_=>rfl
 | (i,p)::l,h=>by
  simp only[aze.plain,List.all_cons,Bool.and_eq_true]at h;have ih:=Jzw (l:=l) h.2;cases p<;>simp_all [tkOf,Pat.taken]
theorem DzU {get:Nat->Option (SV tb.T)}{l:aze}(h:aze.plain l=true):s.take get l=s:=by
 simp[St.take,szs h,Jzw h,idsS,memB]
theorem Azl {get:Nat->Option (SV tb.T)}:∀{rs:aze} (x:XS tb rs),rs=[]->bzh tb s get rs x=s
 | [],_,_=>rfl
def ezt (F:Nat->Bool)(d:Option Nat)(v:SV tb.T):Eff tb.T:={d:=d,v:=v,F:=F,tk:=F}
theorem putOne_do (d:Nat)(p:Pat)(x:X tb p)(h:jzc P tb d s p x=some s'):
 ∃F v,s'=(ezt F (some d) v).apply s/\(∀i,F i=true->s.used i=false)/\∀s1:St tb.T,(∀i,F i=true->s1.used i=false)->jzc P tb d s1 p x=some ((ezt F (some d) v).apply s1):=by
 cases p with
 | val e =>
  simp only[jzc,sE0]at h;exact⟨fun _=>false,nzX P e (tb.enc e x),by rw[<-h];simp[ezt,Eff.apply,St.put],by simp,fun s1 _=>by simp[jzc,ezt,Eff.apply,St.put]⟩
 | own e =>
  have h':ezV tb s d e x some=some s':=h;obtain⟨h1,h2⟩:=nzt h';refine⟨upd (fun _=>false) d true,.c (.own e x d),h2,fun i hi=>by rw[kzI hi];exact h1,fun s1 h3=>?_⟩;exact nzs (h3 d (by exact azf _ _ _))
 | ref e=>simp[jzc]at h
 | ro e=>simp[jzc]at h
 | iter=>simp[jzc]at h
 | fnp f n=>simp[jzc]at h
 | mp kt vt=>simp[jzc]at h
 | wr e=>simp[jzc]at h
 | box n=>simp[jzc]at h
def ezu (F:Nat->Bool)(s:St tb.T):St tb.T:={s with tok:=fun i=>F i||s.tok i,used:=fun i=>F i||s.used i}
theorem Jzv (d j:Nat)(a:Nat×Pat)(x:X tb a.2)(q:Bool×List (AC tb.T))(h:bz4.part1 P tb d s j a x=some (q,s')):
 ∃F,s'=ezu F s/\(∀i,F i=true->s.used i=false)/\∀s1:St tb.T,(∀i,F i=true->s1.used i=false)->bz4.part1 P tb d s1 j a x=some (q,ezu F s1):=by
 obtain⟨i,p⟩:=a;cases p with
 | val e =>
  refine⟨fun _=>false,?_⟩;have e0:∀s1:St tb.T,ezu (fun _=>false) s1=s1:=fun s1=>by simp[ezu]
  simp only[e0];have e1:∀s1:St tb.T,bz4.part1 P tb d s1 j (i,.val e) x=(bif azI P e then some ((true,(tb.enc e x).map .d),s1)else match tb.enc e x with | [c]=>some ((false,[.d c]),s1)|_=>none):=fun _=>rfl
  simp only[e1]at h ⊢;cases ha:azI P e with
  | true=>simp only[ha,cond_true,sE0,Prod.mk.injEq]at h ⊢;exact⟨h.2.symm,by simp,fun s1 _=>⟨h.1,trivial⟩⟩
  | false =>
   simp only[ha,cond_false]at h ⊢;split at h
   .rename_i c hc;simp only[sE0,Prod.mk.injEq]at h;exact⟨h.2.symm,by simp,fun s1 _=>by simp[h.1]⟩
   .cases h
 | own e =>
  have e1:∀s1:St tb.T,bz4.part1 P tb d s1 j (i,.own e) x=(bif s1.used (d+65536*j)then none else
   some ((false,[.own e x (d+65536*j)]),{s1 with tok:=upd s1.tok (d+65536*j) true,used:=upd s1.used (d+65536*j) true})):=fun _=>rfl
  simp only[e1]at h ⊢;cases hu:s.used (d+65536*j)with
  | true=>simp[hu]at h
  | false =>
   simp only[hu,cond_false,sE0,Prod.mk.injEq]at h;refine⟨upd (fun _=>false) (d+65536*j) true,?_,fun i hi=>by rw[kzI hi];exact hu,fun s1 h3=>?_⟩
   .rw[<-h.2,jzK s.tok,jzK s.used];rfl
   .have:=h3 (d+65536*j) (azf _ _ _);simp only[this,cond_false,sE0,Prod.mk.injEq];exact⟨h.1,by rw[jzK s1.tok,jzK s1.used];rfl⟩
 | ref e=>cases h
 | ro e=>cases h
 | iter=>cases h
 | fnp f n=>cases h
 | mp kt vt=>cases h
 | wr e=>cases h
 | box n=>cases h
theorem DzR (F G:Nat->Bool)(s:St tb.T):ezu G (ezu F s)=ezu (fun i=>G i||F i) s:=by
 simp[ezu,Bool.or_assoc]
theorem GzK (d:Nat):∀(j:Nat) (l:aze) (x:XS tb l) (s s':St tb.T) (qs:List (Bool×List (AC tb.T))),bz4 P tb d s j l x=some (qs,s') ->
 ∃F,s'=ezu F s/\(∀i,F i=true->s.used i=false)/\∀s1:St tb.T,(∀i,F i=true->s1.used i=false)->bz4 P tb d s1 j l x=some (qs,ezu F s1)
 | j,[],x,s,s',qs,h=>by
  simp only[bz4,sE0,Prod.mk.injEq]at h;refine⟨fun _=>false,by rw[<-h.2];simp[ezu],by simp,fun s1 _=>by simp[bz4,h.1,ezu]⟩
 | j,[a],x,s,s',qs,h=>by
  simp only[bz4]at h;cases hp:bz4.part1 P tb d s j a x with
  | none=>simp[hp]at h
  | some q =>
   obtain⟨q,s2⟩:=q;simp only[hp,sE0,Prod.mk.injEq]at h;obtain⟨F,h1,h2,h3⟩:=Jzv d j a x q hp;exact⟨F,by rw[<-h.2];exact h1,h2,fun s1 k=>by simp only[bz4,h3 s1 k,h.1]⟩
 | j,a::b::l,(x,xs),s,s',qs,h=>by
  simp only[bz4]at h;cases hp:bz4.part1 P tb d s j a x with
  | none=>simp[hp]at h
  | some q =>
   obtain⟨q,s2⟩:=q;simp only[hp]at h;cases hq:bz4 P tb d s2 (j+1) (b::l) xs with
   | none=>simp[hq]at h
   | some r =>
    obtain⟨ps,s3⟩:=r;simp only[hq,sE0,Prod.mk.injEq]at h;obtain⟨F,h1,h2,h3⟩:=Jzv d j a x q hp;obtain⟨G,k1,k2,k3⟩:=GzK d (j+1) (b::l) xs s2 s3 ps hq;refine⟨fun i=>G i||F i,by rw[<-h.2,k1,h1,DzR],fun i hi=>?_,fun s1 k=>?_⟩
    .simp only[Bool.or_eq_true]at hi;rcases hi with hi|hi
     .have:=k2 i hi;rw[h1]at this;simp only[ezu,Bool.or_eq_false_iff]at this;exact this.2
     .exact h2 i hi
    .have e1:=h3 s1 fun i hi=>k i (by simp[hi])
     have e2:=k3 (ezu F s1) fun i hi=>by
      have f1:=k2 i hi;rw[h1]at f1;simp only[ezu,Bool.or_eq_false_iff]at f1 ⊢;exact⟨f1.1,k i (by simp[hi])⟩
     simp only[bz4,e1,e2,DzR,h.1]
theorem Mzs {dst:Option Nat}:∀{l:aze} {x:XS tb l},bz5 P tb dst s l x=some s' ->
 ∃F d v,(d=none\/d=dst)/\s'=(ezt F d v).apply s/\(∀i,F i=true->s.used i=false)/\∀s1:St tb.T,(∀i,F i=true->s1.used i=false)->bz5 P tb dst s1 l x=some ((ezt F d v).apply s1)
 | [],x,h=>by
  simp only[bz5,sE0]at h;refine⟨fun _=>false,dst,.tup [],.inr rfl,by rw[<-h,bz2];rfl,by simp,fun s1 _=>by simp only[bz5,bz2];rfl⟩
 | [a],x,h=>by
  cases dst with
  | none =>
   simp only[bz5,sE0]at h;exact⟨fun _=>false,none,.tup [],.inl rfl,by rw[<-h];simp[ezt,Eff.apply],by simp,fun s1 _=>by simp[bz5,ezt,Eff.apply]⟩
  | some d =>
   simp only[bz5]at h;obtain⟨F,v,h1,h2,h3⟩:=putOne_do d a.2 x h;exact⟨F,some d,v,.inr rfl,h1,h2,h3⟩
 | a::b::l,x,h=>by
  cases dst with
  | none =>
   simp only[bz5,sE0]at h;exact⟨fun _=>false,none,.tup [],.inl rfl,by rw[<-h];simp[ezt,Eff.apply],by simp,fun s1 _=>by simp[bz5,ezt,Eff.apply]⟩
  | some d =>
   simp only[bz5]at h;cases hq:bz4 P tb d s 0 (a::b::l) x with
   | none=>simp[hq]at h
   | some r =>
    obtain⟨ps,s2⟩:=r;simp only[hq,sE0]at h;obtain⟨F,h1,h2,h3⟩:=GzK d 0 (a::b::l) x s s2 ps hq;have e0:∀s1:St tb.T,(ezu F s1).put d (.tup ps)=(ezt F (some d) (.tup ps)).apply s1:=fun s1=>by simp[ezu,ezt,Eff.apply,St.put]
    exact⟨F,some d,.tup ps,.inr rfl,by rw[<-h,h1,e0],h2,fun s1 k=>by simp only[bz5,h3 s1 k,e0]⟩
theorem Hza {s:St tb.T}{get:Nat->Option (SV tb.T)}{t:Nat}(h:cz7 t=true):vget s get t=get t:=by
 have h:Nat.blt t 4294967296=true:=h;simp only[vget,h,cond_true]
theorem Gzz {P:Program}{tb:Tab}{s1 s2:St tb.T}{get:Nat->Option (SV tb.T)}:∀{l:aze},bzA l=true->extS P tb s1 (vget s2 get) l=extS P tb s1 get l
 | [],_=>rfl
 | [a],h=>by
  simp only[bzA,List.all_cons,Bool.and_eq_true]at h;simp only[extS,Hza h.1]
 | a::b::l,h=>by
  have h1:=h;simp only[bzA,List.all_cons,Bool.and_eq_true]at h;have ih:=Gzz (P:=P) (s1:=s1) (s2:=s2) (get:=get) (l:=b::l) (by simp only[bzA,List.all_cons,Bool.and_eq_true];exact h.2);simp only[extS,Hza h.1,ih]
theorem vzN {dst:Option Nat}{arg:Nat->Option (SV tb.T)}{s:St tb.T}:∀{l:aze} {x:XS tb l},bzA l=true->izS P tb dst arg s l x=bz5 P tb dst s l x
 | [],x,_=>rfl
 | [a],x,h=>by
  simp only[bzA,List.all_cons,Bool.and_eq_true]at h;simp only[izS,h.1,cond_true]
 | a::b::l,x,h=>by
  have h2:bzA (b::l)=true:=by simp only[bzA,List.all_cons,Bool.and_eq_true]at h ⊢;exact h.2
  simp only[bzA,List.all_cons,Bool.and_eq_true]at h;simp only[izS,h.1,h2,cond_true]
theorem wzW {fid:Nat}{vs:List (SV tb.T)}{dst:Option Nat}:∀{Γ:List (Nat×FSpec tb)},kzV Γ fid=true->hzM P tb fid vs dst s some Γ=some s' ->
 ∃F d v,(d=none\/d=dst)/\s'=(ezt F d v).apply s/\(∀i,F i=true->s.used i=false)/\∀s1:St tb.T,(∀i,F i=true->s1.used i=false)->hzM P tb fid vs dst s1 some Γ=some ((ezt F d v).apply s1)
 | [],_,h=>by simp[hzM]at h
 | (g,sp)::Γ,hp,h=>by
  simp only[kzV,List.all_cons,Bool.and_eq_true]at hp;simp only[hzM]at h ⊢;cases hf:Nat.beq g fid with
  | false=>simp only[hf,cond_false]at h ⊢;exact wzW hp.2 h
  | true =>
   simp only[hf,cond_true]at h ⊢;have hp1:aze.plain sp.ins=true/\bzA sp.ins=true/\bzA sp.outs=true:=by
    have:=hp.1;simp only[hf,Bool.not_true,Bool.false_or,Bool.and_eq_true]at this;exact⟨this.1.1.1,this.1.2,this.2⟩
   have ex:∀s1:St tb.T,extS P tb s1 (vget s1 fun i=>vs[i]?) sp.ins=extS P tb s1 (fun i=>vs[i]?) sp.ins:=fun s1=>Gzz hp1.2.1
   have ei:∀s1:St tb.T,idsS (vget s1 fun i=>vs[i]?) sp.ins=idsS (fun i=>vs[i]?) sp.ins:=fun s1=>by rw[szs hp1.1,szs hp1.1]
   rw[ex,ei]at h;cases hx:extS P tb s (fun i=>vs[i]?) sp.ins with
   | none =>
    simp only[hx]at h;obtain⟨F,d,v,h1,h2,h3,h4⟩:=wzW hp.2 h;refine⟨F,d,v,h1,h2,h3,fun s1 k=>?_⟩;rw[ex,ei,xzz (s:=s1) (s1:=s) hp1.1,hx];exact h4 s1 k
   | some x =>
    simp only[hx]at h;cases hk:(bzz (idsS (fun i=>vs[i]?) sp.ins)&&Nat.beq (azD sp.ins).length vs.length)with
    | false=>simp[hk]at h
    | true =>
     simp only[hk,cond_true]at h;obtain⟨y,hy,h⟩:=azu.1 h;rw[DzU hp1.1,Azl _ (uzV hp1.1),vzN hp1.2.2]at h;cases ho:bz5 P tb dst s sp.outs y.outs with
     | none=>simp[ho]at h
     | some s2 =>
      simp only[ho,sE0]at h;obtain⟨F,d,v,h1,h2,h3,h4⟩:=Mzs ho;refine⟨F,d,v,h1,by rw[<-h];exact h2,h3,fun s1 k=>?_⟩;rw[ex,ei,xzz (s:=s1) (s1:=s) hp1.1,hx];simp only[hk,cond_true,hy,aza];rw[DzU hp1.1,Azl _ (uzV hp1.1),vzN hp1.2.2,h4 s1 k]
end Go.Ev
namespace Go.Ev
open Go
open Go.IntKind (i64 u64 u8 i32 u32 i16 u16)
variable {P:Program} {tb:Tab} {R:Type} {Γ:List (Nat×FSpec tb)} {s s' s1:St tb.T}
theorem Azk {i:Nat}{x:Operand}:∀{ps:List (Nat×Operand)},gzM i ps=some x->x∈ps.map (·.2)
 | [],h=>by simp[gzM]at h
 | (j,y)::ps,h=>by
  simp only[gzM]at h;cases hb:Nat.beq i j with
  | true=>simp only[hb,cond_true,sE0]at h;subst h;simp
  | false=>simp only[hb,cond_false]at h;simp only[List.map_cons,List.mem_cons];exact .inr (Azk h)
theorem Hzm {e:Nat}{ρ ρ':Operand->Option (SV tb.T)}{ps:List (Nat×Operand)}(h:∀x∈ps.map (·.2),ρ x=ρ' x)(i:Nat):ozh P e ρ ps i=ozh P e ρ' ps i:=by
 unfold ozh;cases hp:gzM i ps with
 | none=>rfl
 | some x=>simp only;rw[h x (Azk hp)]
theorem tzm {e:Nat}{ρ ρ':Operand->Option (SV tb.T)}{ps:List (Nat×Operand)}(h:∀x∈ps.map (·.2),ρ x=ρ' x):∀(n i:Nat),ezI P tb e ρ ps n i=ezI P tb e ρ' ps n i
 | 0,_=>rfl
 | n+1,i=>by
  simp only[ezI];rw[Hzm h,tzm h n (i+1)]
theorem IzJ (dst:Option Tmp)(src t:Nat)(x:Operand)(ty:Nat)(pos:String)(aft:Array Edge)(gd:Option (Nat×Bool))(s1:St tb.T):evOp P tb Γ ⟨dst,.convert src t x,ty,pos,aft,gd⟩ s1 some=match P.underlying src,P.underlying t,s1.val x,dst with
 | some .string,some (.slice e),some (.c (.d (.str l))),some d=>match P.underlying e with
  | some (.int .u8)=>if h:e=tb.b8 then(bif Nat.beq (P.cellsOf e) 1 then hzq tb Γ s1 d e (cast (by rw[h,tb.hb]) l) some else none)else none
  | some (.int .i32)=>if h:tb.r4=some e then(bif Nat.beq (P.cellsOf e) 1 then obnd (qzE l) fun rs=>hzq tb Γ s1 d e (cast (by rw[tb.hr e h]) rs) some else none)else none
  | _=>none
 | _,_,_,_=>evP P tb (.convert src t x) s1.val fun v=>some (s1.putO dst v):=rfl
theorem LzF {dst:Option Tmp}{src t:Nat}{x:Operand}{ty:Nat}{pos:String}{aft:Array Edge}{gd:Option (Nat×Bool)}(he:evOp P tb Γ ⟨dst,.convert src t x,ty,pos,aft,gd⟩ s some=some s'):
 ∃e,Does P tb Γ ⟨dst,.convert src t x,ty,pos,aft,gd⟩ s (azJ Γ (.convert src t x) s) s' e:=by
 have hev:=IzJ (P:=P) (tb:=tb) (Γ:=Γ) dst src t x ty pos aft gd;have hop:∀s1:St tb.T,(∀y∈(Op.convert src t x).operands.toList,s1.val y=s.val y)->s1.val x=s.val x:=fun s1 h=>h x (by simp[Op.operands])
 by_cases hc:∃e l d,P.underlying src=some .string/\P.underlying t=some (.slice e)/\s.val x=some (.c (.d (.str l)))/\dst=some d
 .obtain⟨e,l,d,h1,h2,h3,h4⟩:=hc;have he':=he;rw[hev,h1,h2,h3,h4]at he;simp only at he;split at he
  .rename_i hu;by_cases hb:e=tb.b8
   .simp only[hb,dite_true]at he;cases hk:Nat.beq (P.cellsOf tb.b8) 1 with
    | false=>simp[hk]at he
    | true =>
     subst hb;refine qzn (e:=tb.b8) (xs:=cast (by rw[tb.hb]) l) (d:=d) h4 (fun _=>rfl) (fun s1 hs1=>?_) he';rw[hev,h1,h2,hop s1 hs1,h3,h4];simp[hu,hk]
   .simp[hb]at he
  .rename_i hu;by_cases hb:tb.r4=some e
   .simp only[hb,dite_true]at he;cases hk:Nat.beq (P.cellsOf e) 1 with
    | false=>simp[hk]at he
    | true =>
     cases hr:qzE l with
     | none=>simp[hk,hr]at he
     | some rs =>
      refine qzn (e:=e) (xs:=cast (by rw[tb.hr e hb]) rs) (d:=d) h4 (fun _=>rfl) (fun s1 hs1=>?_) he';rw[hev,h1,h2,hop s1 hs1,h3,h4];simp[hu,hk,hb,hr]
   .simp[hb]at he
  .cases he
 .have hev2:∀s1:St tb.T,s1.val x=s.val x->evOp P tb Γ ⟨dst,.convert src t x,ty,pos,aft,gd⟩ s1 some=evP P tb (.convert src t x) s1.val fun v=>some (s1.putO dst v):=fun s1 h1=>by
   rw[hev];split
   .rename_i e l d k1 k2 k3;exact absurd ⟨e,l,d,k1,k2,by rw[<-h1];exact k3,rfl⟩ hc
   .rfl
  rw[hev2 s rfl,mz8]at he;obtain⟨v,hv,he⟩:=azu.1 he;simp only[sE0]at he;refine⟨{d:=dst,v:=v},by rw[<-he,bz2],by simp,by simp,by simp,by simp,.inr rfl,fun i hi=>hi.elim,fun s1 h1 _ _ _=>⟨?_,rfl⟩⟩;rw[hev2 s1 (hop s1 h1),mz8,wzY _ h1,hv];simp only[aza,bz2]
theorem does_len {dst:Option Tmp}{args:Array Operand}{tys:Array TypeId}{ty:Nat}{pos:String}{aft:Array Edge}{gd:Option (Nat×Bool)}
 (he:evOp P tb Γ ⟨dst,.call ⟨.builtin .len,args,tys⟩,ty,pos,aft,gd⟩ s some=some s'):∃e,Does P tb Γ ⟨dst,.call ⟨.builtin .len,args,tys⟩,ty,pos,aft,gd⟩ s (azJ Γ (.call ⟨.builtin .len,args,tys⟩) s) s' e:=by
 have hft:∀s1:St tb.T,azJ Γ (.call ⟨.builtin .len,args,tys⟩) s1=match vals s1.val args.toList with|some [.c (.map i)]=>.l i|_=>.p:=fun s1=>rfl
 have hev:∀s1:St tb.T,evOp P tb Γ ⟨dst,.call ⟨.builtin .len,args,tys⟩,ty,pos,aft,gd⟩ s1 some=match vals s1.val args.toList,tys.toList with
  | some [.c (.map i)],[t]=>(match szo P t,s1.itr i with
   | some _,some (.mp _ _ l)=>brn (fits l.length) (some (s1.putO dst (.c (.d (.int .i64 l.length))))) none
   | _,_=>none)
  | _,_=>evP P tb (.call ⟨.builtin .len,args,tys⟩) s1.val fun v=>some (s1.putO dst v):=fun s1=>rfl
 have hcg:∀s1:St tb.T,(∀x∈(Op.call ⟨.builtin .len,args,tys⟩).operands.toList,s1.val x=s.val x)->vals s1.val args.toList=vals s.val args.toList:=fun s1 h=>lzi fun x hx=>h x (by
  simp only[Op.operands,Call.operands,Array.toList_append,List.mem_append];exact .inr hx)
 rw[hev]at he;split at he
 .rename_i i t hv ht;split at he
  .rename_i kv k v l hm hi;cases hf:fits l.length with
   | false=>simp[hf]at he
   | true =>
    simp only[hf,azc,sE0]at he;rw[hft,hv];refine⟨{d:=dst,v:=.c (.d (.int .i64 l.length))},by rw[<-he,bz2],by simp,by simp,by simp,by simp,.inr rfl,fun j hj=>?_,fun s1 k1 k2 _ _=>⟨?_,by rw[hft,hcg s1 k1,hv]⟩⟩
    .have:j=i:=hj;subst this;have hx:∃x∈args.toList,s.val x=some (.c (.map j)):=by
      cases ha:args.toList with
      | nil=>rw[ha]at hv;simp[vals]at hv
      | cons x xs =>
       rw[ha]at hv;refine⟨x,by simp,?_⟩;cases hx:s.val x with
       | none=>simp[vals,hx]at hv
       | some y =>
        cases hy:vals s.val xs with
        | none=>simp[vals,hx,hy]at hv
        | some ys=>simp only[vals,hx,hy,sE0,List.cons.injEq]at hv;rw[hv.1]
     obtain⟨x,hx1,hx2⟩:=hx;obtain⟨t',e,h'⟩:=yzF hx2 (i:=j) (by simp[SV.ids,AC.ids]);exact⟨t',_,by rw[<-e];simp only[Op.operands,Call.operands,Array.toList_append,List.mem_append];exact .inr hx1,h',by simp[SV.ids,AC.ids]⟩
    .rw[hev,hcg s1 k1,hv,ht];simp only[hm,(k2 i rfl).2,hi,hf,azc,bz2]
  .cases he
 .rename_i hne;have hf:∀s1:St tb.T,vals s1.val args.toList=vals s.val args.toList->azJ Γ (.call ⟨.builtin .len,args,tys⟩) s1=azJ Γ (.call ⟨.builtin .len,args,tys⟩) s:=fun s1 h=>by rw[hft,hft,h]
  rw[mz8]at he;obtain⟨v,hv,he⟩:=azu.1 he;simp only[sE0]at he;refine⟨{d:=dst,v:=v},by rw[<-he,bz2],by simp,by simp,by simp,by simp,.inr rfl,fun i hi=>?_,fun s1 h1 _ _ _=>⟨?_,hf s1 (hcg s1 h1)⟩⟩
  .rw[hft]at hi;split at hi
   .rename_i j h;exfalso;simp only[evP,h]at hv;split at hv
    .simp[uzv]at hv
    .cases hv
   .exact hi.elim
  .rw[hev,hcg s1 h1];split
   .rename_i i t h1 h2;exact absurd h2 (hne i t h1)
   .rw[mz8,wzY _ h1,hv];simp only[aza,bz2]
theorem LzJ {o:Oper}(he:evOp P tb Γ o s some=some s')(hx:azJ Γ o.op s≠.x)(ha:∀t,azJ Γ o.op s≠.ap t):∃e,Does P tb Γ o s (azJ Γ o.op s) s' e:=by
 obtain⟨dst,op,ty,pos,aft,gd⟩:=o;cases op
 case alloc e =>
  have he':=he;simp only[evOp]at he;cases dst with
  | none=>simp at he
  | some d =>
   simp only at he;cases hz:(fz5 P e:Option (List (AC tb.T)))with
   | none=>simp[hz]at he
   | some z=>exact zz2 (d:=d) (z:=yzO e d z) rfl (fun _=>rfl) (fun s1 _=>by simp only[evOp,hz]) he'
 case box t x =>
  have he':=he;simp only[evOp]at he;cases dst with
  | none=>simp at he
  | some d =>
   simp only at he;cases hv:s.val x with
   | none=>simp[hv]at he
   | some v =>
    cases hc:v.cells with
    | none=>simp[hv,hc]at he
    | some MzU=>exact zz2 (d:=d) (z:=MzU) rfl (fun _=>rfl) (fun s1 h1=>by
     have:=h1 x (by simp[Op.operands]);simp only[evOp,this,hv,hc]) he'
 case load t a=>exact does_load rfl he hx
 case store t a x=>exact LzG rfl he hx
 case buildSlice t n parts =>
  have he':=he;simp only[evOp]at he;cases dst with
  | none=>simp at he
  | some d =>
   simp only at he;cases hel:hzL P t with
   | none=>simp[hel]at he
   | some e =>
    simp only[hel]at he;cases hk:(bzz (parts.toList.map (·.1))&&parts.toList.all (fun p=>Nat.blt p.1 n)&&Nat.ble (n*P.cellsOf e) 16777216&&Nat.blt 0 (P.cellsOf e)&&kzS P e)with
    | false=>simp only[hk,cond_false,reduceCtorEq]at he
    | true =>
     simp only[hk,cond_true]at he;cases hb:ezI P tb e s.val parts.toList n 0 with
     | none=>simp[hb]at he
     | some xs=>exact qzn (d:=d) (e:=e) (xs:=xs) rfl (fun _=>rfl) (fun s1 h1=>by
      have:ezI P tb e s1.val parts.toList n 0=some xs:=by
       rw[<-hb];exact tzm (fun x hx=>h1 x (by simpa[Op.operands]using hx)) n 0
      simp only[evOp,hel,hk,cond_true,this]) he'
 case makeSlice t l c =>
  have he':=he;simp only[evOp]at he;cases dst with
  | none=>simp at he
  | some d =>
   simp only at he;cases hel:hzL P t with
   | none=>simp[hel]at he
   | some e =>
    simp only[hel]at he;cases hz:(fz5 P e:Option (List (AC tb.T)))with
    | none=>simp[hz]at he
    | some z =>
     simp only[hz]at he;cases hcs:cvs z with
     | none=>simp[hcs]at he
     | some cs =>
      simp only[hcs]at he;cases hk:(czC P e&&Nat.beq cs.length (P.cellsOf e))with
      | false=>simp only[hk,cond_false,reduceCtorEq]at he
      | true =>
       simp only[hk,cond_true]at he;cases hd:tb.dec e cs with
       | none=>simp[hd]at he
       | some x =>
        simp only[hd]at he;split at he
        .rename_i li ci k1 k2;cases hm:rzj (P.bytesOf e) x li ci with
         | none=>simp[hm]at he
         | some xs=>exact qzn (d:=d) (e:=e) (xs:=xs) rfl (fun _=>rfl) (fun s1 h1=>by
          have e1:=h1 l (by simp[Op.operands]);have e2:=h1 c (by simp[Op.operands]);simp only[evOp,hel,hz,hcs,hk,cond_true,hd,e1,e2,k1,k2,hm,aza]) he'
        .cases he
 case convert src t x=>exact LzF he
 case range xt x =>
  simp only[evOp]at he;cases dst with
  | none=>simp at he
  | some d =>
   simp only at he;split at he
   .rename_i l k1 k2;cases hu:s.used d with
    | true=>simp[hu]at he
    | false =>
     simp only[hu,cond_false,sE0]at he;refine⟨{d:=some d,v:=.c (.ptr d 0),F:=upd (fun _=>false) d true,it:=upd (fun _=>none) d (some (.it l 0))},?_,fun i hi=>by rw[kzI hi];exact hu,by simp,fun i hi=>by rw[pzj hi];show upd (fun _=>false) d true d=true;exact azf _ _ _,by simp,.inr rfl,fun i hi=>hi.elim,fun s1 h1 _ _ h4=>⟨?_,rfl⟩⟩
     .rw[<-he,Eff.apply,tz7 s.itr,jzK s.used];simp
     .have e1:=h1 x (by simp[Op.operands]);have e2:=h4 d (by show upd (fun _=>false) d true d=true;exact azf _ _ _);simp only[evOp,k1,e1,k2,e2,cond_false];rw[Eff.apply,tz7 s1.itr,jzK s1.used];simp
   .cases he
 case next it str=>exact absurd rfl hx
 case call c =>
  obtain⟨callee,args,tys⟩:=c;cases callee with
  | builtin b =>
   cases b
   case append =>
    exfalso;have hft:azJ Γ (.call ⟨.builtin .append,args,tys⟩) s=match vals s.val args.toList with
     | some (.c (.d .nil)::_)=>.ap none
     | some (.c (.own _ _ t)::_)=>.ap (some t)
     | _=>.x:=rfl
    rw[hft]at hx ha;split at hx
    .rename_i h;rw[h]at ha;exact ha none rfl
    .rename_i h;rw[h]at ha;exact ha _ rfl
    .exact hx rfl
   case len=>exact does_len he
   all_goals exact does_P (fun _=>rfl) (fun _=>rfl) (fun _ h=>h) he
  | invoke r m=>exact does_P (fun _=>rfl) (fun _=>rfl) (fun _ h=>h) he
  | value f =>
   cases f
   case func f =>
    have hp:kzV Γ f=true:=by
     cases hp:kzV Γ f with
     | true=>rfl
     | false=>exact absurd (show(bif kzV Γ f then Foot.n else Foot.x) = .x by rw[hp];rfl) hx
    simp only[evOp,St.val]at he;cases hv:vals s.val args.toList with
    | none=>simp[hv]at he
    | some vs =>
     have hv':=hv;simp only[hv,List.map_nil,List.append_nil]at he;obtain⟨F,d,v,h1,h2,h3,h4⟩:=wzW hp he;refine⟨ezt F d v,h2,h3,by simp[ezt],by simp[ezt],fun _ h=>h,h1,fun i hi=>?_,fun s1 k1 _ _ k4=>⟨?_,rfl⟩⟩
     .have hi':Foot.mem (bif kzV Γ f then Foot.n else Foot.x) i:=hi;rw[hp]at hi';exact hi'.elim
     .have:vals s1.val args.toList=some vs:=by
       rw[<-hv'];exact lzi fun x hx=>k1 x (by simp only[Op.operands,Call.operands,Array.toList_append,List.mem_append];exact .inr hx)
      simp only[evOp,this];simp only[St.val,List.map_nil,List.append_nil];exact h4 s1 k4
   all_goals exact absurd rfl hx
 all_goals first
  | exact absurd rfl hx
  | exact does_P (fun _=>rfl) (fun _=>rfl) (fun _ h=>h) he
theorem KzA {dst:Option Tmp}{args:Array Operand}{tys:Array TypeId}{ty:Nat}{pos:String}{aft:Array Edge}{gd:Option (Nat×Bool)}(he:evOp P tb Γ ⟨dst,.call ⟨.builtin .append,args,tys⟩,ty,pos,aft,gd⟩ s some=some s')
 (_hx:azJ Γ (.call ⟨.builtin .append,args,tys⟩) s≠.x) (hu:∀t v,s.env t=some v->∀i∈v.ids,s.used i=true) :
 ∃e dt,DoesT P tb Γ ⟨dst,.call ⟨.builtin .append,args,tys⟩,ty,pos,aft,gd⟩ s (azJ Γ (.call ⟨.builtin .append,args,tys⟩) s) s' e dt:=by
 have hev:∀s1:St tb.T,evOp P tb Γ ⟨dst,.call ⟨.builtin .append,args,tys⟩,ty,pos,aft,gd⟩ s1 some=match vals s1.val args.toList,tys.toList with
  | some [sv,xv],[st,xt]=>gz2 P tb dst st xt sv xv s1 some
  | _,_=>none:=fun _=>rfl
 have hft:∀s1:St tb.T,azJ Γ (.call ⟨.builtin .append,args,tys⟩) s1=match vals s1.val args.toList with
  | some (.c (.d .nil)::_)=>.ap none
  | some (.c (.own _ _ t)::_)=>.ap (some t)
  | _=>.x:=fun _=>rfl
 have hvs:∀s1:St tb.T,(∀x∈(Op.call ⟨.builtin .append,args,tys⟩).operands.toList,s1.val x=s.val x)->vals s1.val args.toList=vals s.val args.toList:=fun s1 h1=>lzi fun x hx=>h1 x (by
  simp only[Op.operands,Call.operands,Array.toList_append,List.mem_append];exact .inr hx)
 rw[hev]at he;split at he
 .rename_i sv xv st xt hv ht;unfold gz2 at he;cases dst with
  | none=>simp at he
  | some d =>
   simp only at he;cases hel:hzL P st with
   | none=>simp[hel]at he
   | some e =>
    simp only[hel]at he;split at he
    .cases he
    .rename_i ys hys;cases hc:(!(czC P e&&kzS P e&&Nat.blt 0 (P.bytesOf e)))with
     | true=>simp[hc]at he
     | false =>
      simp only[hc,cond_false]at he;split at he
      .
       have hf:azJ Γ (.call ⟨.builtin .append,args,tys⟩) s = .ap none:=by rw[hft,hv]
       obtain⟨zs,hz,he⟩:=azu.1 he;obtain⟨k1,k2⟩:=nzt he;rw[hf];refine⟨{d:=some d,v:=.c (.own e zs d),F:=upd (fun _=>false) d true,tk:=upd (fun _=>false) d true},none,⟨k2,fun i hi=>by rw[kzI hi];exact k1,by simp,by simp,fun _ h=>h,fun i hi=>(by cases hi),.inr rfl,fun i hi=>?_,fun s1 h1 _ _ _ h5=>⟨?_,by rw[hft,hvs s1 h1,hv]⟩⟩⟩
       .rcases hi with hi|hi
        .exact hi.elim
        .cases hi
       .rw[hev,hvs s1 h1,hv,ht];simp only;unfold gz2;simp only[hel,hys,hc,cond_false,hz,aza];exact nzs (h5 d (by show upd (fun _=>false) d true d=true;exact azf _ _ _))
      .
       rename_i e' xs t;by_cases hb:e'=e
       .subst hb;simp only[dite_true]at he;cases htk:s.tok t with
        | false=>simp[htk]at he
        | true =>
         simp only[htk,cond_true]at he;obtain⟨zs,hz,he⟩:=azu.1 he;obtain⟨k1,k2⟩:=nzt he;have hf:azJ Γ (.call ⟨.builtin .append,args,tys⟩) s = .ap (some t):=by rw[hft,hv]
         have hrd:∃q v,.tmp q∈(Op.call ⟨.builtin .append,args,tys⟩).operands.toList/\s.env q=some v/\t∈v.ids:=by
          cases hal:args.toList with
          | nil=>rw[hal]at hv;simp[vals]at hv
          | cons x xs' =>
           rw[hal]at hv;simp only[vals]at hv;cases hxv:s.val x with
           | none=>simp[hxv]at hv
           | some v0 =>
            simp only[hxv]at hv;cases hr:vals s.val xs' with
            | none=>simp[hr]at hv
            | some vs0 =>
             simp only[hr,sE0,List.cons.injEq]at hv;obtain⟨rfl,_⟩:=hv;obtain⟨q,e1,e2⟩:=yzF hxv (i:=t) (by simp[SV.ids,AC.ids]);refine⟨q,_,?_,e2,by simp[SV.ids,AC.ids]⟩;simp only[Op.operands,Call.operands,Array.toList_append,List.mem_append];right;rw[hal,<-e1];simp
         have htu:s.used t=true:=by obtain⟨q,v,_,q2,q3⟩:=hrd;exact hu q v q2 t q3
         have hne:∀s1:St tb.T,(s1.drop [t]).used=s1.used:=fun _=>rfl
         have hdt:d≠t:=fun e=>by subst e;rw[hne]at k1;rw[k1]at htu;cases htu
         have heff:∀s1:St tb.T,Eff.apply {d:=some d,v:=SV.c (.own e' zs d),F:=upd (fun _=>false) d true,tk:=upd (fun _=>false) d true} (s1.drop [t])=dzo {d:=some d,v:=SV.c (.own e' zs d),F:=upd (fun _=>false) d true,tk:=upd (fun _=>false) d true} (some t) s1:=fun s1=>by
          simp only[dzo,Eff.apply,St.drop,St.mk.injEq,true_and,and_true];funext i;simp only[memB,Bool.or_false,azp];by_cases hi:i=t
          .subst hi;have:Nat.beq i i=true:=Nat.beq_refl i;simp only[this,cond_true,if_neg (Ne.symm hdt),Bool.false_or]
          .have:Nat.beq i t=false:=by
            cases hq:Nat.beq i t with
            | false=>rfl
            | true=>exact absurd (Nat.eq_of_beq_eq_true hq) hi
           simp only[this,cond_false]
         rw[hf];refine⟨{d:=some d,v:=.c (.own e' zs d),F:=upd (fun _=>false) d true,tk:=upd (fun _=>false) d true},some t,⟨by rw[k2,heff],fun i hi=>by rw[kzI hi];exact k1,by simp,by simp,fun _ h=>h,fun i hi=>(by injection hi with hi;rw[hi]),.inr rfl,fun i hi=>?_,fun s1 h1 _ h3 _ h5=>⟨?_,by rw[hft,hvs s1 h1,hv]⟩⟩⟩
         .rcases hi with hi|hi
          .exact hi.elim
          .injection hi with hi;injection hi with hi;rw[<-hi];exact hrd
         .rw[hev,hvs s1 h1,hv,ht];simp only;unfold gz2;simp only[hel,hys,hc,cond_false,dite_true,h3 t rfl,htk,cond_true,hz,aza];have:=h5 d (by show upd (fun _=>false) d true d=true;exact azf _ _ _);rw[nzs (s:=s1.drop [t]) (by rw[hne];exact this),heff]
       .simp[hb]at he
      .cases he
 .cases he
theorem evOp_does {o:Oper}(he:evOp P tb Γ o s some=some s')(hx:azJ Γ o.op s≠.x)(hu:∀t v,s.env t=some v->∀i∈v.ids,s.used i=true):∃e dt,DoesT P tb Γ o s (azJ Γ o.op s) s' e dt:=by
 by_cases ha:∀t,azJ Γ o.op s≠.ap t
 .obtain⟨e,h⟩:=LzJ he hx ha;exact⟨e,none,h.toT ha⟩
 .have:∃t,azJ Γ o.op s = .ap t:=by
   apply Classical.byContradiction;intro h;exact ha fun t e=>h ⟨t,e⟩
  obtain⟨t,ht⟩:=this;obtain⟨dst,op,ty,pos,aft,gd⟩:=o;cases op
  case call c =>
   obtain⟨callee,args,tys⟩:=c;cases callee with
   | builtin b =>
    cases b
    case append=>exact KzA he hx hu
    case len=>simp only[azJ]at ht;split at ht<;>cases ht
    all_goals exact absurd ht (by simp[azJ])
   | invoke r m=>exact absurd ht (by simp[azJ])
   | value f =>
    cases f
    case func f =>
     have:azJ Γ (.call ⟨.value (.func f),args,tys⟩) s=(bif kzV Γ f then Foot.n else Foot.x):=rfl;simp only at ht;rw[this]at ht;cases hp:kzV Γ f<;>rw[hp]at ht<;>cases ht
    all_goals exact absurd ht (by simp[azJ])
  case load t' a =>
   have:azJ Γ (.load t' a) s=match s.val a with|some (.c (.ptr i _))=>.l i|some (.c (.cptr _))=>.p|_=>.x:=rfl
   simp only at ht;rw[this]at ht;split at ht<;>cases ht
  case store t' a x =>
   have:azJ Γ (.store t' a x) s=match s.val a with|some (.c (.ptr i _))=>.st i|_=>.x:=rfl
   simp only at ht;rw[this]at ht;split at ht<;>cases ht
  all_goals exact absurd ht (by simp[azJ])
end Go.Ev
namespace Go.Ev
open Go
open Go.IntKind (i64 u64 u8 i32 u32 i16 u16)
variable {P:Program} {tb:Tab} {N:Nat} {W:Nat->Prop} {a0:Act} {g0:Gh} {w0:World} {D0:Nat->Prop}
variable {s s' s1 s2:St tb.T} {Γ:List (Nat×FSpec tb)} {ops:Array Oper} {Q:Exit->Act->World->Prop}
structure GDoes (P:Program) (tb:Tab) (Γ:List (Nat×FSpec tb)) (ops:Array Oper) (o:Oper) (s:St tb.T) (f:Foot) (s':St tb.T) (e:Eff tb.T) (dt:Option Nat):Prop where
 eq:s'=dzo e dt s
 fresh:∀i,e.F i=true->s.used i=false
 mb:∀i,e.b i≠none->e.F i=true\/f = .st i
 mit:∀i,e.it i≠none->e.F i=true
 mtk:∀i,e.tk i=true->e.F i=true
 mdt:∀i,dt=some i->f = .ap (some i)
 dst:e.d=none\/e.d=o.dst
 reads:∀i,(f.mem i\/f = .ap (some i))->∃t v,t∈o.looksAt ops/\s.env t=some v/\i∈v.ids
 again:∀s1,(∀t∈o.looksAt ops,s1.env t=s.env t)->(∀i,f.mem i->s1.blk i=s.blk i/\s1.itr i=s.itr i)->(∀i,f = .ap (some i)->s1.tok i=s.tok i)->s1.ro=s.ro->(∀i,e.F i=true->s1.used i=false)->GStep P tb Γ ops o s1 f (dzo e dt s1)
theorem GzG {o:Oper}{t:Nat}(h:.tmp t∈o.op.operands.toList):t∈o.looksAt ops:=by
 unfold Oper.looksAt;exact List.mem_append_left _ (List.mem_filterMap.2 ⟨.tmp t,h,rfl⟩)
theorem Azg {o:Oper}{j t:Nat}{want:Bool}{oj:Oper}(h:o.guard=some (j,want))(hj:ops[j]?=some oj)(ht:oj.dst=some t):t∈o.looksAt ops:=by
 unfold Oper.looksAt;refine List.mem_append_right _ ?_;simp[h,hj,ht]
theorem Dzs {o:Oper}{f:Foot}(h:GStep P tb Γ ops o s f s')(hx:f≠.x)(hu:∀t v,s.env t=some v->∀i∈v.ids,s.used i=true):∃e dt,GDoes P tb Γ ops o s f s' e dt:=by
 cases h with
 | run _ hg he =>
  obtain⟨e,dt,h1,h2,h3,h4,h8,h9,h5,h6,h7⟩:=evOp_does he hx hu;refine⟨e,dt,h1,h2,h3,h4,h8,h9,h5,fun i hi=>?_,fun s1 k1 k2 k5 k3 k4=>?_⟩
  .obtain⟨t,v,q1,q2,q3⟩:=h6 i hi;exact⟨t,v,GzG q1,q2,q3⟩
  .obtain⟨q1,q2⟩:=h7 s1 (fun x hx=>by
    cases x with
    | tmp t=>exact k1 t (GzG hx)
    | const _=>rfl
    | global _=>rfl
    | func _=>rfl) k2 k5 k3 k4
   rw[<-q2];refine .run _ (fun j want hj=>?_) q1;obtain⟨oj,t,r1,r2,r3⟩:=hg j want hj;exact⟨oj,t,r1,r2,by rw[k1 t (Azg hj r1 r2)];exact r3⟩
 | skip j want oj t hg h1 h2 h3 =>
  refine⟨{d:=o.dst,v:=.tup []},none,bz2 ..,by simp,by simp,by simp,by simp,by simp,.inr rfl,fun i hi=>?_,fun s1 k1 _ _ _ _=>?_⟩
  .rcases hi with hi|hi
   .exact hi.elim
   .cases hi
  .rw[Kzo,<-bz2];refine .skip j want oj t hg h1 h2 ?_;rw[k1 t (Azg hg h1 h2)];exact h3
theorem DzO {f:Foot}{i:Nat}(h:f = .st i):f.mem i:=by subst h;rfl
theorem free_st {f g:Foot}{i:Nat}(h:Foot.free f g=true):(f = .st i->¬g.mem i)/\(g = .st i->¬f.mem i):=by
 refine⟨fun e hm=>?_,fun e hm=>?_⟩<;>subst e
 .cases g<;>simp only[Foot.mem]at hm<;>subst hm<;>simp[Foot.free]at h
 .cases f<;>simp only[Foot.mem]at hm<;>subst hm<;>simp[Foot.free]at h
theorem Hzw {o1 o2 : Oper} {f1 f2 : Foot} (hu : ∀ t v, s.env t = some v -> ∀ i ∈ v.ids, s.used i = true) (hu' : GStep P tb Γ ops o1 s f1 s1 -> ∀ t v, s1.env t = some v -> ∀ i ∈ v.ids, s1.used i = true) (h1 : GStep P tb Γ ops o1 s f1 s1) (h2 : GStep P tb Γ ops o2 s1 f2 s2) (hf : Foot.free f1 f2 = true) (ha : Oper.apart ops o1 o2 = true) :
    ∃s3,GStep P tb Γ ops o2 s f2 s3/\GStep P tb Γ ops o1 s3 f1 s2:=by
  have hx1:f1≠.x:=fun e=>by subst e;simp[Foot.free]at hf
  have hx2:f2≠.x:=fun e=>by subst e;cases f1<;>simp[Foot.free]at hf
  obtain⟨e1,dt1,d1⟩:=Dzs h1 hx1 hu
  have hus1':∀i,s1.used i=(e1.F i||s.used i):=fun i=>by rw[d1.eq];rfl
  have hap:∀t u,f1 = .ap (some t)->f2 = .ap (some u)->t≠u:=fun t u e1 e2 e=>by
    subst e1;subst e2;subst e
    have hb:Nat.beq t t=true:=Nat.beq_refl t
    have hf:(!Nat.beq t t)=true:=hf
    rw[hb]at hf;cases hf
  have hu1:∀t v,s1.env t=some v->∀i∈v.ids,s1.used i=true:=hu' h1
  obtain⟨e2,dt2,d2⟩:=Dzs h2 hx2 hu1
  obtain⟨a1,a2,a3⟩:=Oper.apart_spec ha
  have henv:∀t,(∀d,o1.dst=some d->t≠d)->s1.env t=s.env t:=fun t ht=>by
    rw[d1.eq]
    simp only[dzo,Eff.apply]
    cases hd:e1.d with
    | none=>rfl
    | some d =>
      have : o1.dst = some d := by rcases d1.dst with c | c <;> rw [hd] at c; · cases c
                                   . exact c.symm
      simp only
      rw[azt _ _ (ht d this)]
  have hl2:∀t∈o2.looksAt ops,s1.env t=s.env t:=fun t ht=>henv t fun d hd e=>a1 d hd (e▸ht)
  have hus1:∀i,s1.used i=(e1.F i||s.used i):=fun i=>by rw[d1.eq];rfl
  have hr2:∀i,(f2.mem i\/f2 = .ap (some i))->s.used i=true:=fun i hi=>by
    obtain⟨t,v,q1,q2,q3⟩:=d2.reads i hi
    rw[hl2 t q1]at q2
    exact hu t v q2 i q3
  have hr1:∀i,(f1.mem i\/f1 = .ap (some i))->s.used i=true:=fun i hi=>by
    obtain⟨t,v,q1,q2,q3⟩:=d1.reads i hi
    exact hu t v q2 i q3
  have hF2:∀i,e2.F i=true->e1.F i=false/\s.used i=false:=fun i hi=>by
    have:=d2.fresh i hi
    rw[hus1]at this
    simpa using this
  have hb1:∀i,f2.mem i->e1.b i=none:=fun i hi=>by
    apply Classical.byContradiction
    intro hne
    rcases d1.mb i hne with c|c
    . have:=d1.fresh i c;rw[hr2 i (.inl hi)]at this;cases this
    . exact(free_st hf).1 c hi
  have hb2:∀i,f1.mem i->e2.b i=none:=fun i hi=>by
    apply Classical.byContradiction
    intro hne
    rcases d2.mb i hne with c|c
    . have:=(hF2 i c).2;rw[hr1 i (.inl hi)]at this;cases this
    . exact(free_st hf).2 c hi
  have hi1:∀i,f2.mem i->e1.it i=none:=fun i hi=>by
    apply Classical.byContradiction
    intro hne
    have:=d1.fresh i (d1.mit i hne);rw[hr2 i (.inl hi)]at this;cases this
  have hi2:∀i,f1.mem i->e2.it i=none:=fun i hi=>by
    apply Classical.byContradiction
    intro hne
    have:=(hF2 i (d2.mit i hne)).2;rw[hr1 i (.inl hi)]at this;cases this
  have ht1:∀i,f2 = .ap (some i)->(dzo e1 dt1 s).tok i=s.tok i:=fun i hi=>by
    have hui:=hr2 i (.inr hi)
    have h1:e1.tk i=false:=by
      cases hk:e1.tk i with
      | false=>rfl
      | true=>have:=d1.fresh i (d1.mtk i hk);rw[hui]at this;cases this
    have h2:dt1≠some i:=fun e=>hap i i (d1.mdt i e) hi rfl
    simp only[dzo,Eff.apply,h1,Bool.false_or]
    cases hd:dt1 with
    | none=>rfl
    | some t =>
      have:Nat.beq i t=false:=by
        cases hq:Nat.beq i t with
        | false=>rfl
        | true=>exact absurd (by rw[hd,Nat.eq_of_beq_eq_true hq]) h2
      simp only[this,cond_false]
  have ht2:∀i,f1 = .ap (some i)->(dzo e2 dt2 s).tok i=s.tok i:=fun i hi=>by
    have hui:=hr1 i (.inr hi)
    have h1:e2.tk i=false:=by
      cases hk:e2.tk i with
      | false=>rfl
      | true=>have:=(hF2 i (d2.mtk i hk)).2;rw[hui]at this;cases this
    have h2:dt2≠some i:=fun e=>hap i i hi (d2.mdt i e) rfl
    simp only[dzo,Eff.apply,h1,Bool.false_or]
    cases hd:dt2 with
    | none=>rfl
    | some t =>
      have:Nat.beq i t=false:=by
        cases hq:Nat.beq i t with
        | false=>rfl
        | true=>exact absurd (by rw[hd,Nat.eq_of_beq_eq_true hq]) h2
      simp only[this,cond_false]
  have s2':=d2.again s (fun t ht=>(hl2 t ht).symm) (fun i hi=>by rw[d1.eq];simp[dzo,Eff.apply,hb1 i hi,hi1 i hi]) (fun i hi=>by rw[d1.eq];exact(ht1 i hi).symm) (by rw[d1.eq];rfl) (fun i hi=>(hF2 i hi).2)
  refine⟨_,s2',?_⟩
  have s3':=d1.again (dzo e2 dt2 s) (fun t ht=>?_) (fun i hi=>by simp[dzo,Eff.apply,hb2 i hi,hi2 i hi]) ht2 rfl (fun i hi=>?_)
  . have : dzo e1 dt1 (dzo e2 dt2 s) = s2 := by
      rw[d2.eq,d1.eq]
      simp only[dzo,Eff.apply,St.mk.injEq]
      refine⟨?_,?_,?_,?_,?_,trivial⟩
      . cases hd1:e1.d with
        | none=>rfl
        | some x =>
          cases hd2:e2.d with
          | none=>rfl
          | some y =>
            have q1 : o1.dst = some x := by rcases d1.dst with c | c <;> rw [hd1] at c; · cases c
                                            . exact c.symm
            have q2 : o2.dst = some y := by rcases d2.dst with c | c <;> rw [hd2] at c; · cases c
                                            . exact c.symm
            have hne:x≠y:=fun e=>a2 x q1 (e▸q2)
            funext t
            simp only[azp]
            split
            . rename_i e;subst e;rw[if_neg hne]
            . rfl
      . funext i
        cases hbi:e1.b i with
        | none=>cases e2.b i<;>simp
        | some x =>
          have:e2.b i=none:=by
            apply Classical.byContradiction
            intro hne
            rcases d2.mb i hne with c|c
            . obtain⟨k1,k2⟩:=hF2 i c
              rcases d1.mb i (by rw[hbi];simp)with e|e
              . rw[k1]at e;cases e
              . rw[hr1 i (.inl (DzO e))]at k2;cases k2
            . have:=hb1 i (DzO c);rw[hbi]at this;cases this
          simp[this]
      . funext i
        cases hbi:e1.it i with
        | none=>cases e2.it i<;>simp
        | some x =>
          have:e2.it i=none:=by
            apply Classical.byContradiction
            intro hne
            have k:=(hF2 i (d2.mit i hne)).1
            rw[d1.mit i (by rw[hbi];simp)]at k;cases k
          simp[this]
      . funext i
        have a1:dt1=some i->e2.tk i=false:=fun h=>by
          cases hk:e2.tk i with
          | false=>rfl
          | true=>have:=(hF2 i (d2.mtk i hk)).2;rw[hr1 i (.inr (d1.mdt i h))]at this;cases this
        have a2:dt2=some i->e1.tk i=false:=fun h=>by
          cases hk:e1.tk i with
          | false=>rfl
          | true=>have:=d1.fresh i (d1.mtk i hk);rw[hr2 i (.inr (d2.mdt i h))]at this;cases this
        have nb:∀t,i≠t->Nat.beq i t=false:=fun t h=>by
          cases hq:Nat.beq i t with
          | false=>rfl
          | true=>exact absurd (Nat.eq_of_beq_eq_true hq) h
        have bb:Nat.beq i i=true:=Nat.beq_refl i
        cases dt1 with
        | none =>
          cases dt2 with
          | none=>simp only;cases e1.tk i<;>cases e2.tk i<;>simp
          | some u =>
            by_cases h:i=u
            . subst h;simp[a2 rfl]
            . simp only[nb u h,cond_false];cases e1.tk i<;>cases e2.tk i<;>simp
        | some t =>
          by_cases h1:i=t
          . subst h1
            cases dt2 with
            | none=>simp[a1 rfl]
            | some u =>
              by_cases h:i=u
              . subst h;simp
              . simp[nb u h,a1 rfl]
          . cases dt2 with
            | none=>simp only[nb t h1,cond_false];cases e1.tk i<;>cases e2.tk i<;>simp
            | some u =>
              by_cases h:i=u
              . subst h;simp[nb t h1,a2 rfl]
              . simp only[nb t h1,nb u h,cond_false];cases e1.tk i<;>cases e2.tk i<;>simp
      . funext i;cases e1.F i<;>cases e2.F i<;>simp
    rw[<-this];exact s3'
  . simp only[dzo,Eff.apply]
    cases hd:e2.d with
    | none=>rfl
    | some d =>
      have q : o2.dst = some d := by rcases d2.dst with c | c <;> rw [hd] at c; · cases c
                                     . exact c.symm
      simp only
      exact azt _ _ fun e=>a3 d q (by rw[<-e];exact ht)
  . simp only[dzo,Eff.apply,Bool.or_eq_false_iff]
    refine⟨?_,d1.fresh i hi⟩
    cases h:e2.F i with
    | false=>rfl
    | true=>have:=(hF2 i h).1;rw[hi]at this;cases this
def Run (P:Program)(tb:Tab)(Γ:List (Nat×FSpec tb))(ops:Array Oper):List (Nat×Foot)->St tb.T->St tb.T->Prop
 | [],s,s'=>s'=s
 | (i,f)::l,s,s'=>∃o s1,ops[i]?=some o/\GStep P tb Γ ops o s f s1/\Run P tb Γ ops l s1 s'
theorem wpOp_ex {i:Nat}{K:Act->World->Prop}{a:Act}{w:World}(h:wpOp P ops (fun _ _ _=>False) i K a w):∃a w,K a w:=by
 unfold wpOp at h;split at h
 .exact⟨_,_,h⟩
 .split at h
  .rcases h with h|⟨_,a0,w0,h⟩
   .rename_i o _ _;unfold Oper.wp at h;generalize (execOp a.eval o).run P w=r at h;cases r with
    | ok n w' =>
     cases n<;>simp only[Oper.upon]at h
     case value=>exact⟨_,_,h⟩
     case skip=>exact⟨_,_,h⟩
     case defer=>exact⟨_,_,h⟩
     case enter f args =>
      obtain⟨e,w'',fr,hR,_⟩:=h [];cases e with
      | returned v=>exact⟨_,_,hR⟩
      | panicked c=>exact hR.elim
      | outgrown=>obtain⟨_,_,hq⟩:=hR;exact hq.elim
     case row row args =>
      obtain⟨v,w'',hR,_⟩:=h default [];exact⟨_,_,hR⟩
    | halt x w'=>cases x<;>simp only[Oper.upon]at h
   .exact h.elim
  .exact⟨_,_,h⟩
end Go.Ev
namespace Go.Ev
open Go
open Go.IntKind (i64 u64 u8 i32 u32 i16 u16)
variable {P:Program} {tb:Tab} {N:Nat} {W:Nat->Prop} {a0:Act} {g0:Gh} {w0:World} {D0:Nat->Prop}
variable {s s' s1 s2:St tb.T} {Γ:List (Nat×FSpec tb)} {ops:Array Oper} {Q:Exit->Act->World->Prop}
def Lives (P:Program)(tb:Tab)(N:Nat)(W:Nat->Prop)(a0:Act)(g0:Gh)(w0:World)(D0:Nat->Prop)(s:St tb.T):Prop:=∃a w,Sim P tb N W a0 g0 w0 D0 s a w
theorem Lives.step (hΓ:∀p∈Γ,bzU P tb p.1 p.2)(hsl:∀p∈Γ,(azD p.2.ins).map (·.1)=List.range (azD p.2.ins).length)(h:Lives P tb N W a0 g0 w0 D0 s){i:Nat}{o:Oper}(ho:ops[i]?=some o)
 (hd:∀d,o.dst=some d->d<N/\W d) {f:Foot} (he:GStep P tb Γ ops o s f s'):Lives P tb N W a0 g0 w0 D0 s':=by
 obtain⟨a,w,g,μ,τ,h⟩:=h;obtain⟨a',w',h'⟩:=wpOp_ex (oz9 hΓ hsl h ho hd he);exact⟨a',w',h'⟩
theorem Jz0 (hΓ:∀p∈Γ,bzU P tb p.1 p.2)(hsl:∀p∈Γ,(azD p.2.ins).map (·.1)=List.range (azD p.2.ins).length)(hd:∀o∈ops.toList,∀d,o.dst=some d->d<N/\W d){i:Nat}{f:Foot}{post:List (Nat×Foot)}{oi:Oper}(hoi:ops[i]?=some oi):
 ∀{pre:List (Nat×Foot)} {s s':St tb.T},Lives P tb N W a0 g0 w0 D0 s->Run P tb Γ ops (pre++(i,f)::post) s s'->(∀p∈pre,∀op,ops[p.1]?=some op->Foot.free p.2 f=true/\Oper.apart ops op oi=true) ->
  Run P tb Γ ops ((i,f)::pre++post) s s'
 | [],_,_,_,h,_=>h
 | (j,g)::pre,s,s',hl,h,hf=>by
  obtain⟨o,s1,h1,h2,h3⟩:=h;have hdo:∀d,o.dst=some d->d<N/\W d:=hd o (by have:=Array.mem_of_getElem? h1;simpa using this);obtain⟨o2,s2,k1,k2,k3⟩:=Jz0 hΓ hsl hd hoi (hl.step hΓ hsl h1 hdo h2) h3 fun p hp=>hf p (by simp[hp])
  rw[hoi]at k1;simp only[sE0]at k1;subst k1;obtain⟨q1,q2⟩:=hf (j,g) (by simp) o h1;obtain⟨a,w,gh,μ,τ,hs⟩:=hl;obtain⟨s3,r1,r2⟩:=Hzw hs.uenv (fun hst=>by
   obtain⟨a',w',h'⟩:=wpOp_ex (oz9 hΓ hsl hs h1 hdo hst);obtain⟨gh',μ',τ',hs'⟩:=h';exact hs'.uenv) h2 k2 q1 q2
  exact⟨oi,s3,hoi,r1,o,s2,h1,r2,k3⟩
def Closed (ops:Array Oper)(L:Nat->Prop):Prop:=∀i o,ops[i]?=some o->L i->∀e∈o.after,Region.binds .any e=true->L e.on
def Good (ops:Array Oper)(k m:Nat):Prop:=∀j,Nat.testBit m j=true->∀L:Nat->Prop,Closed ops L->(∀o,ops[k]?=some o->∀e∈o.after,Region.binds .any e=true->L e.on)->L j
theorem uzN {acc:List Nat}{j:Nat}:∀{es:List Edge} {m:Nat},Nat.testBit (pzt acc es m) j=true->Nat.testBit m j=true\/∃e∈es,Region.binds .any e=true/\(j=e.on\/Nat.testBit (acc.getD e.on 0) j=true)
 | [],m,h=>.inl h
 | e::es,m,h=>by
  simp only[pzt]at h;cases hb:Region.binds .any e with
  | false =>
   simp only[hb,cond_false]at h;rcases uzN h with c|⟨e',h1,h2⟩
   .exact .inl c
   .exact .inr ⟨e',by simp[h1],h2⟩
  | true =>
   simp only[hb,cond_true]at h;rcases uzN h with c|⟨e',h1,h2⟩
   .simp only[Nat.testBit_or,Bool.or_eq_true]at c;rcases c with(c|c)|c
    .exact .inl c
    .refine .inr ⟨e,by simp,hb,.inl ?_⟩;rw[Nat.testBit_two_pow]at c;exact(of_decide_eq_true c).symm
    .exact .inr ⟨e,by simp,hb,.inr c⟩
   .exact .inr ⟨e',by simp[h1],h2⟩
theorem tzE {acc:List Nat}{k:Nat}{o:Oper}(ho:ops[k]?=some o)(h:∀(i:Nat) m,acc[i]?=some m->Good ops i m):Good ops k (pzt acc o.after.toList 0):=by
 intro j hj L hc hL;rcases uzN hj with c|⟨e,h1,h2,h3⟩
 .simp at c
 .have he:=hL o ho e (by simpa using h1) h2;rcases h3 with rfl|h3
  .exact he
  .cases hm:acc[e.on]? with
   | none=>simp[hm]at h3
   | some m =>
    simp only[List.getD_eq_getElem?_getD,hm,Option.getD_some]at h3;exact h e.on m hm j h3 L hc fun o' ho' e' he' hb'=>hc e.on o' ho' he e' he' hb'
theorem DzM:∀(os:List Oper) (acc:List Nat),(∀j,os[j]?=ops[acc.length+j]?)->(∀(i:Nat) m,acc[i]?=some m->Good ops i m)->∀(i:Nat) m,(qzx os acc)[i]?=some m->Good ops i m
 | [],acc,_,h,i,m,hm=>h i m hm
 | o::os,acc,ho,h,i,m,hm=>by
  have e:qzx (o::os) acc=qzx os (acc++[pzt acc o.after.toList 0]):=by
   simp only[qzx];split<;>rename_i h0<;>rw[h0]
  rw[e]at hm;have h0:ops[acc.length]?=some o:=by simpa using(ho 0).symm
  refine DzM os (acc++[pzt acc o.after.toList 0]) (fun j=>?_) (fun i m hm=>?_) i m hm
  .have:=ho (j+1);simp only[List.getElem?_cons_succ]at this;rw[this];congr 1;simp;omega
  .rcases Nat.lt_or_ge i acc.length with c|c
   .rw[List.getElem?_append_left c]at hm;exact h i m hm
   .rw[List.getElem?_append_right c]at hm;have hi:i-acc.length=0:=by
     have:=(List.getElem?_eq_some_iff.1 hm).1;simp at this;omega
    have hi':i=acc.length:=by omega
    subst hi';simp at hm;subst hm;exact tzE h0 h
def Ok (ops:Array Oper)(x y:Nat×Foot):Prop:=∀ox oy,ops[x.1]?=some ox->ops[y.1]?=some oy->(∃m,Good ops y.1 m/\Nat.testBit m x.1=true)\/(Foot.free x.2 y.2=true/\Oper.apart ops ox oy=true)
theorem EzN {m:Nat}{o:Oper}{f:Foot}:∀{ps:List (Oper×Foot)} {j0:Nat},tz1 ops m o f ps j0=true->∀(j:Nat) p,ps[j]?=some p->Nat.testBit m (j0+j)=true\/(Foot.free p.2 f=true/\Oper.apart ops p.1 o=true)
 | [],_,_,j,p,hp=>by simp at hp
 | (q,g)::ps,j0,h,j,p,hp=>by
  simp only[tz1,Bool.and_eq_true,Bool.or_eq_true]at h;cases j with
  | zero=>simp at hp;subst hp;exact h.1
  | succ j =>
   simp only[List.getElem?_cons_succ]at hp;have:=EzN h.2 j p hp;rw[show j0+(j+1)=j0+1+j from by omega];exact this
theorem Cz6:∀(os:List Oper) (ms:List Nat) (seen:List (Oper×Foot)) (s s':St tb.T),(∀j,os[j]?=ops[seen.length+j]?)->(∀j m,ms[j]?=some m->Good ops (seen.length+j) m)->(∀(j:Nat) p,seen[j]?=some p->ops[j]?=some p.1) ->
 jz4 P tb Γ ops os ms seen s some=some s' ->
 ∃R:List (Nat×Foot),R.map (·.1)=List.range' seen.length os.length/\Run P tb Γ ops R s s'/\R.Pairwise (Ok ops)/\(∀(j:Nat) p,seen[j]?=some p->∀y∈R,Ok ops (j,p.2) y)
 | [],_,_,s,s',_,_,_,h=>by
  simp only[jz4,sE0]at h;exact⟨[],rfl,h.symm,.nil,by simp⟩
 | _::_,[],_,_,_,_,_,_,h=>by simp[jz4]at h
 | o::os,m::ms,seen,s,s',ho,hm,hs,h=>by
  have h0:ops[seen.length]?=some o:=by simpa using(ho 0).symm
  have hm0:Good ops seen.length m:=by simpa using hm 0 m rfl
  simp only[jz4]at h;rw[yzy]at h;obtain⟨⟨f,s1⟩,h1,h2⟩:=azu.1 h;simp only at h2;cases hk:tz1 ops m o f seen 0 with
  | false=>simp[hk]at h2
  | true =>
   simp only[hk,cond_true]at h2;obtain⟨R,r1,r2,r3,r4⟩:=Cz6 os ms (seen++[(o,f)]) s1 s' (fun j=>by
    have:=ho (j+1);simp only[List.getElem?_cons_succ]at this;rw[this];congr 1;simp;omega) (fun j m hj=>by
     have:=hm (j+1) m (by simpa using hj);rw[show(seen++[(o,f)]).length+j=seen.length+(j+1) from by simp;omega];exact this) (fun j p hj=>by
     rcases Nat.lt_or_ge j seen.length with c|c
     .rw[List.getElem?_append_left c]at hj;exact hs j p hj
     .rw[List.getElem?_append_right c]at hj;have hi:j-seen.length=0:=by
       have:=(List.getElem?_eq_some_iff.1 hj).1;simp at this;omega
      have hi':j=seen.length:=by omega
      subst hi';simp at hj;subst hj;exact h0) h2
   refine⟨(seen.length,f)::R,by simp[r1,List.range'_succ],⟨o,s1,h0,Iz2 h1,r2⟩,List.pairwise_cons.2 ⟨fun y hy=>?_,r3⟩,fun j p hj y hy=>?_⟩
   .exact r4 seen.length (o,f) (by simp) y hy
   .have hjl:=(List.getElem?_eq_some_iff.1 hj).1;rcases List.mem_cons.1 hy with rfl|hy
    .intro ox oy h3 h4;simp only at h3 h4;rw[h0]at h4;simp only[sE0]at h4;subst h4;rw[hs j p hj]at h3;simp only[sE0]at h3;subst h3;rcases EzN hk j p hj with c|c
     .exact .inl ⟨m,hm0,by simpa using c⟩
     .exact .inr c
    .exact r4 j p (by rw[List.getElem?_append_left hjl];exact hj) y hy
theorem Gzm:∀{os:List Oper} {i:Nat},rz5 os i=true->∀(j:Nat) o,os[j]?=some o->∀e∈o.after,Region.binds .any e=true->e.on<i+j
 | [],_,_,j,o,ho,_,_,_=>by simp at ho
 | q::os,i,h,j,o,ho,e,he,hb=>by
  simp only[rz5,Bool.and_eq_true,List.all_eq_true]at h;cases j with
  | zero =>
   simp at ho;subst ho;have:=h.1 e (by simpa using he);simp only[hb,Bool.not_true,Bool.false_or]at this;exact Nat.le_of_ble_eq_true this
  | succ j =>
   simp only[List.getElem?_cons_succ]at ho;have:=Gzm h.2 j o ho e he hb;omega
theorem wpAny_run (hΓ:∀p∈Γ,bzU P tb p.1 p.2)(hsl:∀p∈Γ,(azD p.2.ins).map (·.1)=List.range (azD p.2.ins).length)(hd:∀o∈ops.toList,∀d,o.dst=some d->d<N/\W d)(hbk:rz5 ops.toList 0=true)(hQ:∀a w,Sim P tb N W a0 g0 w0 D0 s' a w->Q .normal a w):
 ∀(fuel:Nat) (listed:Array Bool) (R:List (Nat×Foot)) (s:St tb.T) (a:Act) (w:World),R.length=fuel->listed.size=ops.size->(∀j,j<ops.size->(listed.getD j true=false↔j∈R.map (·.1)))->(∀j∈R.map (·.1),j<ops.size) ->
  Closed ops (fun j=>listed.getD j false=true)->(R.map (·.1)).Pairwise (· < ·)->R.Pairwise (Ok ops)->Run P tb Γ ops R s s'->Sim P tb N W a0 g0 w0 D0 s a w->wpAny P .any ops Q fuel listed a w:=by
 intro fuel;induction fuel with
 | zero =>
  intro listed R s a w hlen hsz hin hlt hcl hlt2 hok hrun hsim;have:R=[]:=List.eq_nil_of_length_eq_zero hlen;subst this;have hs:s'=s:=hrun;subst hs;refine⟨?_,hQ a w hsim⟩;cases hr:Region.ready .any ops listed with
  | nil=>rfl
  | cons j l =>
   have hj:j∈Region.ready .any ops listed:=by rw[hr];simp
   obtain⟨h1,o,h2,_⟩:=mem_ready.1 hj;have:=(hin j (Array.getElem?_eq_some_iff.1 h2).1).1 h1;simp at this
 | succ fuel ih =>
  intro listed R s a w hlen hsz hin hlt hcl hlt2 hok hrun hsim;refine⟨fun hnil=>?_,fun i hi=>?_⟩
  .exfalso;cases R with
   | nil=>simp at hlen
   | cons x R =>
    obtain⟨k,f⟩:=x;obtain⟨o,s1,ho,hst,_⟩:=hrun;have hk:k<ops.size:=(Array.getElem?_eq_some_iff.1 ho).1;have:k∈Region.ready .any ops listed:=by
     rw[mem_ready];refine⟨(hin k hk).2 (by simp),o,ho,fun e he hb=>?_⟩;have he1:e.on<k:=by
      have:=Gzm hbk k o (by simpa using ho) e he hb;omega
     have he2:e.on<listed.size:=by omega
     cases hl:listed.getD e.on false with
     | true=>rfl
     | false =>
      exfalso;have h1:listed.getD e.on true=false:=by
       rw[Array.getD_eq_getD_getElem?,Array.getElem?_eq_getElem he2]at hl ⊢;exact hl
      have h2:=(hin e.on (by omega)).1 h1;simp only[List.map_cons,List.mem_cons]at h2;rcases h2 with h2|h2
      .omega
      .have:=(List.pairwise_cons.1 hlt2).1 e.on h2;simp only at this;omega
    rw[hnil]at this;cases this
  .obtain⟨h1,oi,h2,h3⟩:=mem_ready.1 hi;have hi':i<ops.size:=(Array.getElem?_eq_some_iff.1 h2).1;have hmem:=(hin i hi').1 h1;obtain⟨⟨i',f⟩,hm,e⟩:=List.mem_map.1 hmem;simp only at e;subst e;obtain⟨pre,post,rfl⟩:=List.append_of_mem hm;have hfree:∀p∈pre,∀op,ops[p.1]?=some op->Foot.free p.2 f=true/\Oper.apart ops op oi=true:=fun p hp op hop=>by
    have hpw:=(List.pairwise_append.1 hok).2.2 p hp (i',f) (by simp) op oi hop h2;rcases hpw with⟨m,hg,hb⟩|c
    .exfalso;have hl:=hg p.1 hb (fun j=>listed.getD j false=true) hcl (fun o ho e he hbb=>by
      rw[h2]at ho;simp only[sE0]at ho;subst ho;exact h3 e he hbb)
     have hp':p.1<ops.size:=(Array.getElem?_eq_some_iff.1 hop).1;have hu:=(hin p.1 hp').2 (by simp only[List.map_append,List.mem_append];exact .inl (List.mem_map_of_mem hp));rw[Array.getD_eq_getD_getElem?,Array.getElem?_eq_getElem (by omega)]at hl hu;simp only[Option.getD_some]at hl hu;rw[hl]at hu;cases hu
    .exact c
   have hrun2:=Jz0 hΓ hsl hd h2 ⟨a,w,hsim⟩ hrun hfree;obtain⟨o,s1,ho,hst,hrest⟩:=hrun2;rw[h2]at ho;simp only[sE0]at ho;subst ho;have hsub:List.Sublist (pre++post) (pre++(i',f)::post):=List.Sublist.append (List.Sublist.refl _) (List.sublist_cons_self _ _);have hnd:∀j∈(pre++post).map (·.1),j≠i':=fun j hj e=>by
    subst e;rw[List.map_append,List.map_cons]at hlt2;have hp:=List.pairwise_append.1 hlt2;rw[List.map_append,List.mem_append]at hj;rcases hj with hj|hj
    .have:=hp.2.2 j hj j (by simp);omega
    .have:=(List.pairwise_cons.1 hp.2.1).1 j hj;omega
   obtain⟨g,μ,τ,hsim⟩:=hsim;refine wpOp_mono (fun a1 w1 hs1=>?_) (oz9 hΓ hsl hsim h2 (hd oi (by have:=Array.mem_of_getElem? h2;simpa using this)) hst);refine ih (listed.setIfInBounds i' true) (pre++post) s1 a1 w1 (by simp at hlen ⊢;omega) (by simp[hsz]) (fun j hj=>?_) (fun j hj=>hlt j (by
    have:=hsub.map Prod.fst;exact this.subset hj)) (fun k ok hok' hk e he hb=>?_) (hlt2.sublist (hsub.map _)) (hok.sublist hsub) hrest hs1
   .by_cases hji:j=i'
    .subst hji;have:(listed.setIfInBounds j true).getD j true=true:=by
      rw[Array.getD_eq_getD_getElem?];rw[Array.getElem?_setIfInBounds_self];split<;>rfl
     rw[this];constructor
     .intro h;cases h
     .intro h;exact absurd rfl (hnd j h)
    .rw[getD_set_ne true (fun e=>hji e.symm),hin j hj];simp only[List.map_append,List.map_cons,List.mem_append,List.mem_cons];constructor
     .rintro(h|h|h)
      .exact .inl h
      .exact absurd h hji
      .exact .inr h
     .rintro(h|h)
      .exact .inl h
      .exact .inr (.inr h)
   .by_cases hki:k=i'
    .subst hki;rw[h2]at hok';simp only[sE0]at hok';subst hok';exact getD_set_true (h3 e he hb)
    .simp only at hk ⊢;rw[getD_set_ne false (fun e=>hki e.symm)]at hk;exact getD_set_true (hcl k ok hok' hk e he hb)
theorem Izd (hm:P.follows .mixedOrders=true)(hΓ:∀p∈Γ,bzU P tb p.1 p.2)(hsl:∀p∈Γ,(azD p.2.ins).map (·.1)=List.range (azD p.2.ins).length)(hd:∀o∈ops.toList,∀d,o.dst=some d->d<N/\W d)(hbk:rz5 ops.toList 0=true)
 {a:Act} {w:World} (h:Sim P tb N W a0 g0 w0 D0 s a w) (he:jz4 P tb Γ ops ops.toList (qzx ops.toList []) [] s some=some s') (hQ:∀a w,Sim P tb N W a0 g0 w0 D0 s' a w->Q .normal a w) {id:Nat}:(Code.region id ops true).wp P Q a w:=by
 refine wp_region_any hm ?_;obtain⟨R,r1,r2,r3,_⟩:=Cz6 ops.toList (qzx ops.toList []) [] s s' (fun j=>by simp) (fun j m hj=>by
  simpa using DzM (ops:=ops) ops.toList [] (fun j=>by simp) (fun i m h=>by simp at h) j m hj) (fun j p h=>by simp at h) he
 obtain⟨g,μ,τ,h⟩:=h;simp only[List.length_nil,Array.length_toList]at r1;refine wpAny_run hΓ hsl hd hbk hQ ops.size (Array.replicate ops.size false) R s a _ ?_ (by simp) (fun j hj=>?_) (fun j hj=>?_) (fun i o ho hi=>?_) ?_ r3 r2 ⟨g,μ,τ,h.world rfl rfl rfl rfl⟩
 .have:=congrArg List.length r1;simpa using this
 .rw[r1];simp[hj,List.mem_range'_1]
 .rw[r1]at hj;simpa[List.mem_range'_1]using hj
 .exfalso;have hil:i<ops.size:=(Array.getElem?_eq_some_iff.1 ho).1;simp[hil]at hi
 .rw[r1];exact List.pairwise_lt_range'
end Go.Ev
namespace Go.Ev
open Go
open Go.IntKind (i64 u64 u8 i32 u32 i16 u16)
variable {P:Program} {tb:Tab} {N:Nat} {W:Nat->Prop} {D0:Nat->Prop}
variable {s s':St tb.T} {g g':Gh} {μ μ':Nat->Nat} {τ τ':Nat->Option Nat} {a a':Act} {w w':World}
@[simp] theorem ret_outs {outs:aze}:∀ {rs:aze} (x:XS tb outs) (z:XS tb rs),(Ret.mk x z).outs=x
 | [],_,_=>rfl
 | _::_,_,_=>rfl
theorem ret_refs {outs:aze}:∀{rs:aze} (x:XS tb outs) (z:XS tb rs),(Ret.mk x z).refs=z
 | [],_,()=>rfl
 | _::_,_,_=>rfl
theorem qzr {q:Nat×Pat}{l:aze}{x:XS tb (q::l)}{v:Value}{vs:List Value}{b:Option Nat}{bs:List (Option Nat)}(h:az1 P tb g w (q::l) x (v::vs) (b::bs)):
 (∃y,gzt P tb g w q.2 y v b)/\∃ys,az1 P tb g w l ys vs bs:=by
 cases l with
 | nil =>
  cases vs with
  | nil=>cases bs with
   | nil=>exact⟨⟨x,h⟩,(():Unit),trivial⟩
   | cons _ _=>exact h.elim
  | cons _ _=>cases bs<;>exact h.elim
 | cons c l=>obtain⟨x,xs⟩:=x;exact⟨⟨x,h.1⟩,xs,h.2⟩
theorem szg {x:XS tb []}{vs:List Value}{bs:List (Option Nat)}(h:az1 P tb g w [] x vs bs):vs=[]/\bs=[]:=by
 cases vs<;>cases bs<;>first|exact⟨rfl,rfl⟩|exact h.elim
theorem azR {q:Nat×Pat}{l:aze}{x:XS tb (q::l)}{vs:List Value}{bs:List (Option Nat)}(h:az1 P tb g w (q::l) x vs bs):∃v vs' b bs',vs=v::vs'/\bs=b::bs':=by
 cases l with
 | nil=>cases vs with
  | nil=>exact h.elim
  | cons v vs=>cases bs with
   | nil=>cases vs<;>exact h.elim
   | cons b bs=>exact⟨_,_,_,_,rfl,rfl⟩
 | cons c l=>cases vs with
  | nil=>exact h.elim
  | cons v vs=>cases bs with
   | nil=>exact h.elim
   | cons b bs=>exact⟨_,_,_,_,rfl,rfl⟩
theorem Dzt {p:Pat}{y:X tb p}{v:Value}{b:Option Nat}(hr:p.isRef=true)(h:gzt P tb g w p y v b):∃k,b=some k/\kOfV (some v)=some k:=by
 cases p with
 | val e=>cases hr
 | own e=>cases hr
 | ro e=>cases hr
 | ref e=>obtain⟨k,h1,rfl,_⟩:=h;exact⟨k,h1,rfl⟩
 | iter=>obtain⟨k,h1,rfl,_⟩:=h;exact⟨k,h1,rfl⟩
 | fnp f n=>cases hr
 | mp kt vt=>obtain⟨k,h1,rfl,_⟩:=h;exact⟨k,h1,rfl⟩
 | wr e=>cases hr
 | box n=>obtain⟨k,h1,rfl,_⟩:=h;exact⟨k,h1,rfl⟩
theorem szI:∀{l:aze} {x:XS tb l} {vs:List Value} {bs:List (Option Nat)} {z:XS tb (azk l)} {val:Nat->Value} {cs:List (Option Nat)},
 az1 P tb g w l x vs bs->fzq a w l vs->az1 P tb g' w' (azk l) z ((azk l).map fun q=>val q.1) cs->(∀q∈azk l,vval w (fun i=>a.tmps[i]?) q.1=some (val q.1)) ->
 (azk l).map (fun q=>val q.1)=az8 l vs/\cs=az8 l bs
 | [],x,vs,bs,z,val,cs,h,_,hz,_=>by
  obtain⟨rfl,rfl⟩:=szg h;obtain⟨_,rfl⟩:=szg (x:=z) hz;exact⟨rfl,rfl⟩
 | (t,p)::l,x,vs,bs,z,val,cs,h,hi,hz,hv=>by
  obtain⟨v,vs,b,bs,rfl,rfl⟩:=azR h;obtain⟨⟨y,hy⟩,ys,hys⟩:=qzr h;obtain⟨i1,i2⟩:=hi;cases hr:p.isRef with
  | false =>
   have e:azk ((t,p)::l)=azk l:=by simp[azk,hr]
   have e1:∀{α:Type} (u:α) (us:List α),az8 ((t,p)::l) (u::us)=az8 l us:=fun u us=>by simp[az8,hr]
   rw[e1,e1];revert z hz hv;rw[e];intro z hz hv;exact szI hys i2 hz hv
  | true =>
   have e:azk ((t,p)::l)=(t,p)::azk l:=by simp[azk,hr]
   have e1:∀{α:Type} (u:α) (us:List α),az8 ((t,p)::l) (u::us)=u::az8 l us:=fun u us=>by simp[az8,hr]
   rw[e1,e1];revert z hz hv;rw[e];intro z hz hv;rw[List.map_cons]at hz ⊢;obtain⟨_,_,c,cs',hz1,rfl⟩:=azR hz;obtain⟨⟨y2,hy2⟩,zs,hzs⟩:=qzr hz;obtain⟨r1,r2⟩:=szI hys i2 hzs fun q hq=>hv q (by simp[hq])
   obtain⟨k,hk1,hk2⟩:=Dzt hr hy;obtain⟨k',hk3,hk4⟩:=Dzt hr hy2;have hvt:=hv (t,p) (by simp);simp only at hvt hk4;rw[hvt]at i1;simp only[sE0]at i1;rw[r1,r2,i1];refine⟨rfl,?_⟩;rw[i1,hk2]at hk4;rw[hk1,hk3];rw[hk4]
theorem Azd {base:Nat->Option Value}:∀{l:aze} {x:XS tb l} {vs:List Value} {bs:List (Option Nat)},At w base l vs->az1 P tb g w l x vs bs->∀q∈l,∃v b y,vval w base q.1=some v/\gzt P tb g w q.2 y v b
 | [],x,vs,bs,_,_,q,hq=>by simp at hq
 | p::l,x,vs,bs,ha,h,q,hq=>by
  obtain⟨v,vs,b,bs,rfl,rfl⟩:=azR h;obtain⟨⟨y,hy⟩,ys,hys⟩:=qzr h;rcases List.mem_cons.1 hq with rfl|hq
  .exact⟨v,b,y,ha.1,hy⟩
  .exact Azd ha.2 hys q hq
theorem nzQ:∀{l:aze},∀q∈azk l,q∈l
 | [],q,h=>by simp[azk]at h
 | p::l,q,h=>by
  simp only[azk]at h;cases hr:p.2.isRef with
  | true =>
   simp only[hr,cond_true]at h;rcases List.mem_cons.1 h with rfl|h
   .simp
   .exact List.mem_cons_of_mem _ (nzQ q h)
  | false=>simp only[hr,cond_false]at h;exact List.mem_cons_of_mem _ (nzQ q h)
theorem Azj (h:SimAt P tb N W a g w D0 s g' μ τ a' w'){get:Nat->Option (SV tb.T)}:∀{l:aze} {cs:List (Option Nat)},aze.plainOwn l=true->BlkL s μ τ get l cs->∀k∈azj cs,w.heap.size<=k\/D0 k
 | [],[],_,_,k,hk=>by simp[azj]at hk
 | (t,p)::l,c::cs,hp,⟨⟨v,_,hb⟩,h2⟩,k,hk=>by
  simp only[aze.plainOwn,List.all_cons,Bool.and_eq_true]at hp;rcases azq.1 hk with e|hk
  .subst e;cases p with
   | val e=>simp only[bzn]at hb;cases hb
   | own e =>
    rcases v with ac|MzU|ts<;>first|(cases ac<;>simp only[bzn,reduceCtorEq]at hb)|(simp only[bzn,reduceCtorEq]at hb)
    obtain⟨h1,h2⟩:=hb;obtain⟨_,h3⟩:=h.tokv _ h2;exact(h3 k h1.symm).2.2
   | wr e =>
    rcases v with ac|MzU|ts<;>first|(cases ac<;>simp only[bzn,reduceCtorEq]at hb)|(simp only[bzn,reduceCtorEq]at hb)
    obtain⟨h1,h2,h3⟩:=hb;injection h1 with h1;have:=(h.live _ h2).2.2.2;rw[h3,<-h1]at this;exact this.resolve_left (by simp)
   | ref e=>simp at hp
   | ro e=>simp at hp
   | iter=>simp at hp
   | fnp f n=>simp at hp
   | mp kt vt=>simp at hp
   | box n=>simp at hp
  .exact Azj h (l:=l) hp.2 h2 k hk
 | [],_::_,_,h,_,_=>h.elim
 | _::_,[],_,h,_,_=>h.elim
theorem szX {rs:aze}{t:Nat}{v:SV tb.T}(hv:czz s rs t=some v):vget s s.env t=some v:=by
 unfold czz at hv;cases hm:memB t (rs.map (·.1))with
 | false=>simpa[hm]using hv
 | true =>
  simp only[hm,cond_true]at hv;split at hv
  .rename_i i he;cases hb:Nat.beq i t with
   | false=>simp[hb]at hv
   | true =>
    simp only[hb,cond_true]at hv;have:=Nat.eq_of_beq_eq_true hb;subst this;rw[he];exact hv
  .rename_i i he;cases hb:Nat.beq i t with
   | false=>simp[hb]at hv
   | true =>
    simp only[hb,cond_true]at hv;have:=Nat.eq_of_beq_eq_true hb;subst this;rw[he];exact hv
  .cases hv
theorem vzl {a0:Act}{g0:Gh}{w0:World}(h:SimAt P tb N W a0 g0 w0 D0 s g' μ τ a' w'){t:Nat}{v:SV tb.T}(hv:vget s s.env t=some v):∃u,vval w' (fun i=>a'.tmps[i]?) t=some u/\RepV P tb g' w' μ τ s.tok v u :=
 CzH h (fun t v _ hv=>h.env t v hv) hv
theorem zzX {a0:Act}{g0:Gh}{w0:World}(h:SimAt P tb N W a0 g0 w0 D0 s g' μ τ a' w'){rs:aze}{t:Nat}{v:SV tb.T}(hv:czz s rs t=some v):∃u,vval w' (fun i=>a'.tmps[i]?) t=some u/\RepV P tb g' w' μ τ s.tok v u :=
 vzl h (szX hv)
def jzW (w:World)(a:Act)(t:Nat):Value:=(vval w (fun i=>a.tmps[i]?) t).getD undef
theorem szP {a0:Act}{g0:Gh}{w0:World}(h:SimAt P tb N W a0 g0 w0 D0 s g' μ τ a' w'){t:Nat}{v:SV tb.T}(hv:vget s s.env t=some v):RepV P tb g' w' μ τ s.tok v (jzW w' a' t):=by
 obtain⟨u,hu,hr⟩:=vzl h hv;unfold jzW;rw[hu];exact hr
theorem GzS {ins:aze}{x:XS tb ins}{vs:List Value}{bs:List (Option Nat)}(hh:az1 P tb g w ins x vs bs)(hi:fzq a w ins vs)(hg:hangs ins=true)(hf:∀q∈azk ins,a'.tmps[q.1%4294967296]?=a.tmps[q.1%4294967296]?):
 ∀q∈azk ins,vval w' (fun i=>a'.tmps[i]?) q.1=vval w (fun i=>a.tmps[i]?) q.1:=fun q hq=>by
 have hfq:=hf q hq;by_cases ht:q.1<4294967296
 .rw[dz8 ht,dz8 ht];rw[Nat.mod_eq_of_lt ht]at hfq;exact hfq
 .have h1:=List.all_eq_true.1 hg q hq;simp only[Bool.or_eq_true]at h1;rcases h1 with h1|h1
  .exact absurd (fzo.1 h1) ht
  .simp only[isFnp,List.any_eq_true,Bool.and_eq_true]at h1;obtain⟨p,hp,h1,h2⟩:=h1;have e1:=Nat.eq_of_beq_eq_true h1;clear h1;obtain⟨v,b,y,h3,h4⟩:=Azd hi hh p hp;obtain⟨t,pt⟩:=p;simp only at e1 h2 h3 h4;cases pt with
   | fnp f n =>
    obtain⟨_,ks,_,rfl⟩:=h4;have hlt:t<4294967296:=by rw[e1];exact Nat.mod_lt _ (by omega)
    rw[dz8 hlt,e1]at h3;unfold vval;simp only[ht,if_false];rw[hfq,h3]
   | _=>simp at h2
theorem IzD {ins outs:aze}{x:XS tb ins}{vs:List Value}{bs:List (Option Nat)}(hh:az1 P tb g w ins x vs bs)(hi:fzq a w ins vs)(hW:∀q∈azk ins,¬W (q.1%4294967296))(hg:hangs ins=true)(hpo:aze.plainOwn outs=true)
 (h:SimAt P tb N W a g w (fun b=>b∈bzW ins bs) s g' μ τ a' w') {get:Nat->Option (SV tb.T)} {val:Nat->Value} {y:XS tb outs} {z:XS tb (azk ins)} (hy:extS P tb s get outs=some y)
 (hval:∀q∈outs,∀v,get q.1=some v->RepV P tb g' w' μ τ s.tok v (val q.1)) (hz:extS P tb s (czz s (azk ins)) (azk ins)=some z) (hn:bzz (idsS get outs++idsS (czz s (azk ins)) (azk ins))=true) :
 ∃cs,Left P tb g w ins outs vs bs (Ret.mk y z) (outs.map fun q=>val q.1) cs g' w'/\BlkL s μ τ get outs cs:=by
 obtain⟨cs,k1,k2⟩:=qzO h hy hval;obtain⟨ds,m1,m2⟩:=qzO h (val:=jzW w' a') hz (fun q hq v hv=>szP h (szX hv));have hst:=GzS (a':=a') (w':=w') hh hi hg fun q hq=>h.frame _ (hW q hq)
 obtain⟨r1,r2⟩:=szI (val:=jzW w' a') hh hi m1 fun q hq=>by
  obtain⟨v,hv⟩:=CzM hi q (nzQ q hq);unfold jzW;rw[hst q hq,hv];rfl
 have hn:=List.nodup_append.1 (gzK.1 hn);have hnd:=pzm h k2 hn.1;have hbl:=Azj h hpo k2;refine⟨cs,⟨h.ext,by rw[ret_outs];exact k1,by rw[ret_refs,<-r1,<-r2];exact m1,hnd,fun k hk=>⟨hbl k hk,fun hm=>?_⟩⟩,k2⟩;rw[<-r2]at hm;obtain⟨i,hi,hi'⟩:=tzk k2 k hk;obtain⟨j,hj,hj'⟩:=tzk m2 k hm;have:=tzl h hi' hj';subst this;exact hn.2.2 i hi i hj rfl
end Go.Ev
namespace Go.Ev
open Go
open Go.IntKind (i64 u64 u8 i32 u32 i16 u16)
variable {P:Program} {tb:Tab} {N:Nat} {W:Nat->Prop} {a0:Act} {g0:Gh} {w0:World} {D0:Nat->Prop}
variable {s s' s1 s2:St tb.T} {g g':Gh} {μ μ':Nat->Nat} {τ τ':Nat->Option Nat} {a a':Act} {w w':World}
variable {Γ:List (Nat×FSpec tb)} {Δ:List (CutSpec tb)} {R:Type}
def Ex.toExit:Ex->Exit
 | .normal=>.normal
 | .exit id=>.exit id
 | .goto l=>.goto l
 | .ret=>.ret
def izL (p:Nat->Bool):Code->Bool
 | .region _ ops _=>ops.toList.all fun o=>match o.dst with|some d=>p d|none=>true
 | .seq a b=>izL p a&&izL p b
 | .cond _ a b=>izL p a&&izL p b
 | .block _ b=>izL p b
 | .loop b=>izL p b
 | .scope b=>izL p b
 | .rangeFunc ..=>false
 | _=>true
def uze (rs:aze)(φ:Ex->(l:aze)->Ret tb l rs->Prop):(outs:List (Ex×aze))->Outs tb rs outs->Prop
 | [],y=>nomatch y
 | [o],y=>φ o.1 o.2 y
 | o::_::_,.inl y=>φ o.1 o.2 y
 | _::p::l,.inr y=>uze rs φ (p::l) y
def yzp (P:Program)(tb:Tab)(N:Nat)(Wl:List Nat)(ins:aze)(g:Gh)(w:World)(a:Act)(vs:List Value)(bs:List (Option Nat))(l:aze)(r:Ret tb l (azk ins))(a':Act)(w':World):Prop:=a'.tmps.size=N/\a'.defers=a.defers/\(∀t,memB t Wl=false->a'.tmps[t]?=a.tmps[t]?)/\∃us cs g',fzq a' w' l us/\Left P tb g w ins l vs bs r us cs g' w'
def czE (P:Program)(tb:Tab)(N:Nat)(c:Code)(cut:CutSpec tb):Prop:=∀(g:Gh) (w:World) (a:Act) (x:XS tb cut.ins) (vs:List Value) (bs:List (Option Nat)) (y:Outs tb (azk cut.ins) cut.outs),cut.J x=some y->tb.inv g w->a.tmps.size=N->fzq a w cut.ins vs->az1 P tb g w cut.ins x vs bs->(azj bs).Nodup->c.wp P (fun ex a' w'=>uze (azk cut.ins) (fun e l r=>ex=e.toExit/\yzp P tb N cut.W cut.ins g w a vs bs l r a' w') cut.outs y) a w
def wzM (P:Program)(tb:Tab)(N:Nat)(Z:(Exit->Act->World->Prop)->Act->World->Prop)(cut:CutSpec tb):Prop:=∀(g:Gh) (w:World) (a:Act) (x:XS tb cut.ins) (vs:List Value) (bs:List (Option Nat)) (y:Outs tb (azk cut.ins) cut.outs),cut.J x=some y->tb.inv g w->a.tmps.size=N->fzq a w cut.ins vs->az1 P tb g w cut.ins x vs bs->(azj bs).Nodup->Z (fun ex a' w'=>uze (azk cut.ins) (fun e l r=>ex=e.toExit/\yzp P tb N cut.W cut.ins g w a vs bs l r a' w') cut.outs y) a w
theorem SimAt.reframe (h:SimAt P tb N W a0 g0 w0 D0 s g μ τ a w)(hs:a'.tmps.size=N)(hd:a'.defers=a.defers)(hf:∀t,¬W t->a'.tmps[t]?=a.tmps[t]?)(he:∀t v,s.env t=some v->a'.tmps[t]?=a.tmps[t]?):
 SimAt P tb N W a0 g0 w0 D0 s g μ τ a' w :=
 ⟨h.ext,hs,hd.trans h.defers,fun t ht=>(hf t ht).trans (h.frame t ht),fun t v hv=>by rw[he t v hv];exact h.env t v hv,h.blk,h.itr,h.live,h.inj,h.tokv,h.tinj,h.excl,h.rou,h.uenv,h.ublk,h.inv0⟩
theorem Kz3 {get:Nat->Option (SV tb.T)}:∀{rs:aze} {x:XS tb rs} {s:St tb.T},(bzh tb s get rs x).env=s.env:=by
 have one:∀(s:St tb.T) (q:Nat×Pat) (x:X tb q.2),(bzh.one tb get s q x).env=s.env:=fun s q x=>by
  unfold bzh.one;split
  .split<;>rfl
  .split<;>rfl
  .rfl
 intro rs;induction rs with
 | nil=>intro x s;rfl
 | cons q rs ih =>
  intro x s;cases rs with
  | nil=>exact one s q x
  | cons q' rs =>
   obtain⟨x,xs⟩:=x;exact(ih (x:=xs) (s:=bzh.one tb get s q x)).trans (one s q x)
theorem Lzz {key:Nat}{q:Nat×Pat}{x:X tb q.2}{v:Value}{b:Option Nat}(h:SimAt P tb N W a0 g0 w0 D0 s g μ τ a w)(hp:gzt P tb g w q.2 x v b)(hv:a.tmps[q.1]?=some v)
 (hb:∀k,b=some k->gzv P tb w0 D0 s τ k) (hl:∀k,b=some k->∀j,azh s j->μ j≠k) (ho:cutOne P tb key s q x=some s') :
 ∃μ' τ',SimAt P tb N W a0 g0 w0 D0 s' g μ' τ' a w/\(∀t k,s'.tok t=true->τ' t=some k->(s.tok t=true/\τ t=some k)\/b=some k)/\∀j,azh s' j->(azh s j/\μ' j=μ j)\/b=some (μ' j):=by
 obtain⟨t,p⟩:=q;cases p with
 | val e =>
  obtain⟨hp,rfl⟩:=hp;have ho:some (s.put t (nzX P e (tb.enc e x)))=some s':=ho;simp only[sE0]at ho;subst ho;obtain⟨k1,k2⟩:=pzk (μ:=μ) (τ:=τ) (tok:=s.tok) hp;exact⟨μ,τ,h.see hv k1 (by rw[k2];simp),fun t k ht hk=>.inl ⟨ht,hk⟩,fun j hj=>.inl ⟨hj,rfl⟩⟩
 | own e =>
  have ho:(bif s.used (t+65536*(key+1))then none else some {s with env:=upd s.env t (some (.c (.own e x (t+65536*(key+1))))),tok:=upd s.tok (t+65536*(key+1)) true,used:=upd s.used (t+65536*(key+1)) true})=some s':=ho;cases hu:s.used (t+65536*(key+1))with
  | true=>simp[hu]at ho
  | false =>
   simp only[hu,cond_false,sE0]at ho;subst ho;obtain⟨k1,k2⟩:=h.tok1 hu hp hb;refine⟨μ,_,k1.see hv (v:=.c (.own e x (t+65536*(key+1)))) k2 (by simp[SV.ids,AC.ids,azf]),fun t' k ht he=>?_,fun j hj=>.inl ⟨hj,rfl⟩⟩;have ht:upd s.tok (t+65536*(key+1)) true t'=true:=ht;by_cases e':t'=t+65536*(key+1)
   .subst e';rw[azf]at he;exact .inr he
   .rw[azt _ _ e']at ht he;exact .inl ⟨ht,he⟩
 | wr e =>
  generalize hid:t+65536*(key+1)=d;have ho:(bif s.used (t+65536*(key+1))then none else some {s with env:=upd s.env t (some (.c (.vsl (t+65536*(key+1)) (List.length (α:=tb.T e) x)))),itr:=upd s.itr (t+65536*(key+1)) (some (.ar e x)),used:=upd s.used (t+65536*(key+1)) true})=some s':=ho;rw[hid]at ho;cases hu:s.used d with
  | true=>simp[hu]at ho
  | false =>
   simp only[hu,cond_false,sE0]at ho;subst ho;obtain⟨k,cap,hbk,rfl,k1,k2,k3⟩:=hp;obtain⟨m1,m2⟩:=h.newOb hu k1 k2 k3 (hb k hbk).1 (hl k hbk);refine⟨_,_,m1.see hv (v:=.c (.vsl d (List.length (α:=tb.T e) x))) m2 (by simp[SV.ids,AC.ids,azf]),fun t' k' ht he=>?_,fun j hj=>?_⟩
   .have hne:t'≠d:=fun e=>by subst e;have:=(h.tokv _ ht).1;rw[hu]at this;cases this
    rw[azt _ _ hne]at he;exact .inl ⟨ht,he⟩
   .by_cases e':j=d
    .subst e';rw[azf];exact .inr hbk
    .rw[azt _ _ e'];exact .inl ⟨by simpa[azh,St.put,azp,e']using hj,rfl⟩
 | ref e=>cases ho
 | ro e=>cases ho
 | iter=>cases ho
 | fnp f n=>cases ho
 | mp kt vt=>cases ho
 | box n=>cases ho
theorem Izw {key:Nat}{q:Nat×Pat}{x:X tb q.2}{v:Value}{b:Option Nat}(h:SimAt P tb N W a0 g0 w0 D0 s g μ τ a w)(hp:gzt P tb g w q.2 x v b)(hv:vval w (fun i=>a.tmps[i]?) q.1=some v)
 (hb:∀k,b=some k->gzv P tb w0 D0 s τ k) (hl:∀k,b=some k->∀j,azh s j->μ j≠k) (ho:cutA P tb key s q x=some s') :
 ∃μ' τ',SimAt P tb N W a0 g0 w0 D0 s' g μ' τ' a w/\(∀t k,s'.tok t=true->τ' t=some k->(s.tok t=true/\τ t=some k)\/b=some k)/\∀j,azh s' j->(azh s j/\μ' j=μ j)\/b=some (μ' j):=by
 unfold cutA at ho;cases hr:cz7 q.1 with
 | true =>
  rw[dz8 (fzo.1 hr)]at hv;simp only[hr,cond_true]at ho;exact Lzz h hp hv hb hl ho
 | false =>
  simp only[hr,cond_false]at ho;obtain⟨t,p⟩:=q;simp only at hr hv hp;cases p with
  | own e =>
   generalize hid:t+65536*(key+1)=d;have ho:(bif s.used (t+65536*(key+1))then none else(match setCell s s.env t (.own e x (t+65536*(key+1)))with
    | some s'=>some {s' with tok:=upd s'.tok (t+65536*(key+1)) true,used:=upd s'.used (t+65536*(key+1)) true}
    | none=>none))=some s':=ho
   rw[hid]at ho;cases hu:s.used d with
   | true=>simp[hu]at ho
   | false =>
    simp only[hu,cond_false]at ho;split at ho
    .rename_i s1 hs1;simp only[sE0]at ho;subst ho;obtain⟨c1,c2,c3⟩:=pz3 hs1 (upd s.tok d true) (upd s.used d true);obtain⟨c4,_⟩:=gzs hs1;obtain⟨k1,k2⟩:=h.tok1 hu hp hb;rw[c1,c2];refine⟨μ,_,k1.setCell c3 (pzF.1 hr) hv k2 (by simp[AC.ids,azf]),fun t' k ht he=>?_,fun j hj=>.inl ⟨c4 j hj,rfl⟩⟩;have ht:upd s.tok d true t'=true:=ht;by_cases e':t'=d
     .subst e';rw[azf]at he;exact .inr he
     .rw[azt _ _ e']at ht he;exact .inl ⟨ht,he⟩
    .cases ho
  | wr e =>
   generalize hid:t+65536*(key+1)=d;have ho:(bif s.used (t+65536*(key+1))then none else(match setCell s s.env t (.vsl (t+65536*(key+1)) (List.length (α:=tb.T e) x))with
    | some s'=>some {s' with itr:=upd s'.itr (t+65536*(key+1)) (some (.ar e x)),used:=upd s'.used (t+65536*(key+1)) true}
    | none=>none))=some s':=ho
   rw[hid]at ho;cases hu:s.used d with
   | true=>simp[hu]at ho
   | false =>
    simp only[hu,cond_false]at ho;split at ho
    .rename_i s1 hs1;simp only[sE0]at ho;subst ho;obtain⟨k,cap,hbk,rfl,k1,k2,k3⟩:=hp;obtain⟨c1,c2,c3⟩:=Azz hs1 (upd s.itr d (some (.ar e x))) (upd s.used d true);obtain⟨c4,_⟩:=gzs hs1;obtain⟨c6,_⟩:=pzi hs1;obtain⟨m1,m2⟩:=h.newOb hu k1 k2 k3 (hb k hbk).1 (hl k hbk);rw[c1,c2];refine⟨_,_,m1.setCell c3 (pzF.1 hr) hv m2 (by simp[AC.ids,azf]),fun t' k' ht he=>?_,fun j hj=>?_⟩
     .have ht1:s.tok t'=true:=by
       have ht:s1.tok t'=true:=ht;rw[c6]at ht;exact ht
      have hne:t'≠d:=fun e'=>by have:=(h.tokv _ ht1).1;rw[e',hu]at this;cases this
      rw[azt _ _ hne]at he;exact .inl ⟨ht1,he⟩
     .by_cases e':j=d
      .subst e';rw[azf];exact .inr hbk
      .rw[azt _ _ e'];refine .inl ⟨c4 j ?_,rfl⟩;simpa[azh,azp,e',c1]using hj
    .cases ho
  | val e =>
   have ho:(bif azI P e then none else(match tb.enc e x with
    | [c]=>setCell s s.env t (.d c)
    | _=>none))=some s':=ho
   obtain⟨hp,rfl⟩:=hp;unfold azT at hp;cases ha:azI P e with
   | true=>simp[ha]at ho
   | false =>
    simp only[ha,Bool.false_eq_true,if_false,cond_false]at hp ho;obtain⟨c,hc,hd⟩:=hp;simp only[hc]at ho;obtain⟨c1,c2⟩:=pzi ho;obtain⟨c4,c5⟩:=gzs ho;exact⟨μ,τ,h.setCell ho (pzF.1 hr) hv hd (by simp[AC.ids]),fun t' k ht he=>.inl ⟨by rw[<-c1];exact ht,he⟩,fun j hj=>.inl ⟨c4 j hj,rfl⟩⟩
  | ref e=>cases ho
  | ro e=>cases ho
  | iter=>cases ho
  | fnp f n=>cases ho
  | mp kt vt=>cases ho
  | box n=>cases ho
theorem zz0 {key:Nat}:∀{l:aze} {x:XS tb l} {us:List Value} {bs:List (Option Nat)} {s s':St tb.T} {μ:Nat->Nat} {τ:Nat->Option Nat},
 SimAt P tb N W a0 g0 w0 D0 s g μ τ a w->az1 P tb g w l x us bs->fzq a w l us->(azj bs).Nodup->(∀k∈azj bs,gzv P tb w0 D0 s τ k)->(∀k∈azj bs,∀j,azh s j->μ j≠k)->ozf P tb key s l x=some s' ->
 ∃μ' τ',SimAt P tb N W a0 g0 w0 D0 s' g μ' τ' a w/\(∀t k,s'.tok t=true->τ' t=some k->(s.tok t=true/\τ t=some k)\/k∈azj bs)/\∀j,azh s' j->(azh s j/\μ' j=μ j)\/μ' j∈azj bs
 | [],x,us,bs,s,s',μ,τ,h,_,_,_,_,_,ho=>by
  simp only[ozf,sE0]at ho;subst ho;exact⟨μ,τ,h,fun t k ht hk=>.inl ⟨ht,hk⟩,fun j hj=>.inl ⟨hj,rfl⟩⟩
 | [q],x,us,bs,s,s',μ,τ,h,hl,hi,hn,hb,hlv,ho=>by
  simp only[ozf]at ho
  match us,bs,hl with
  | [u],[b],hl =>
   obtain⟨μ',τ',k,k2,k3⟩:=Izw h hl hi.1 (fun k hk=>hb k (azq.2 (.inl hk))) (fun k hk=>hlv k (azq.2 (.inl hk))) ho;exact⟨μ',τ',k,fun t k ht hk=>(k2 t k ht hk).imp id fun c=>azq.2 (.inl c),fun j hj=>(k3 j hj).imp id fun c=>azq.2 (.inl c)⟩
 | q::q'::l,(x,xs),us,bs,s,s',μ,τ,h,hl,hi,hn,hb,hlv,ho=>by
  simp only[ozf]at ho;cases hp:ozf P tb key s (q'::l) xs with
  | none=>simp[hp]at ho
  | some s1 =>
   simp only[hp]at ho
   match us,bs,hl with
   | u::us,b::bs,hl =>
    obtain⟨n1,n2⟩:=ezW hn;obtain⟨μ1,τ1,k1,k2,k3⟩:=zz0 h hl.2 hi.2 n1 (fun k hk=>hb k (azq.2 (.inr hk))) (fun k hk=>hlv k (azq.2 (.inr hk))) hp;obtain⟨μ2,τ2,m1,m2,m3⟩:=Izw k1 hl.1 hi.1 (fun k hk=>sz8 k2 (hb k (azq.2 (.inl hk))) (n2 k hk)) (fun k hk j hj e=>by
     rcases k3 j hj with⟨c1,c2⟩|c
     .exact hlv k (azq.2 (.inl hk)) j c1 (c2.symm.trans e)
     .exact n2 k hk (e▸c)) ho
    refine⟨μ2,τ2,m1,fun t k ht hk=>?_,fun j hj=>?_⟩
    .rcases m2 t k ht hk with⟨c1,c2⟩|c
     .exact(k2 t k c1 c2).imp id fun c=>azq.2 (.inr c)
     .exact .inr (azq.2 (.inl c))
    .rcases m3 j hj with⟨c1,c2⟩|c
     .rcases k3 j c1 with⟨c3,c4⟩|c
      .exact .inl ⟨c3,c2.trans c4⟩
      .exact .inr (azq.2 (.inr (c2▸c)))
     .exact .inr (azq.2 (.inl c))
theorem wzS {c:CutSpec tb}{κ:Ex->St tb.T->Option R}{r:R}{φ:Ex->(l:aze)->Ret tb l (azk c.ins)->Prop}:∀{outs:List (Ex×aze)} {y:Outs tb (azk c.ins) outs},gzk P tb c s κ outs y=some r->uze (azk c.ins) φ outs y ->
 ∃e l q,φ e l q/\gzk.one P tb c s κ (e,l) q=some r
 | [],y,_,_=>nomatch y
 | [o],y,h,hy=>⟨o.1,o.2,y,hy,h⟩
 | o::_::_,.inl y,h,hy=>⟨o.1,o.2,y,hy,h⟩
 | _::p::l,.inr y,h,hy=>wzS (outs:=p::l) (y:=y) h hy
theorem wzX {Z:(Exit->Act->World->Prop)->Act->World->Prop}(hmono:∀{Q Q':Exit->Act->World->Prop} {a:Act} {w:World},Z Q a w->(∀e a w,Q e a w->Q' e a w)->Z Q' a w)
 {cut:CutSpec tb} (hc:wzM P tb N Z cut) (hW:∀t,memB t cut.W=true->W t) (h:SimAt P tb N W a0 g0 w0 D0 s g μ τ a w) {ex:Ex}
 (he:mz6 P tb cut s (fun ex s=>some (ex,s))=some (ex,s')):Z (fun e a w=>e=ex.toExit/\Sim P tb N W a0 g0 w0 D0 s' a w) a w:=by
 unfold mz6 at he;cases hx:extS P tb s (vget s s.env) cut.ins with
 | none=>simp[hx]at he
 | some x =>
  simp only[hx]at he;cases hk:bzz (idsS (vget s s.env) cut.ins)with
  | false=>simp[hk]at he
  | true =>
   simp only[hk,cond_true]at he;obtain⟨y,hy,he⟩:=azu.1 he;obtain⟨bs,hh,hbl⟩:=qzO h (val:=jzW w a) hx fun q _ v hv=>szP h hv
   have hslots:fzq a w cut.ins (cut.ins.map fun q=>jzW w a q.1):=yzr (fun t v hv=>by obtain⟨u,hu,_⟩:=vzl h hv;exact⟨u,hu⟩) hbl;have hn:=pzm h hbl (gzK.1 hk);refine hmono (hc g w a x _ bs y hy (tb.invk h.ext h.inv0) h.size hslots hh hn) ?_;intro e a' w' hout;obtain⟨e1,l,r,⟨hex,c1,c2,c3,us,cs,g',c4,c5⟩,hone⟩:=wzS he hout;unfold gzk.one at hone;split at hone
   .rename_i s2 hs2;simp only[sE0,Prod.mk.injEq]at hone;obtain⟨rfl,rfl⟩:=hone;refine⟨hex,?_⟩;obtain⟨k1,k2,klv⟩:=uzg h hbl hn c5;have k3:=k1.forget fun t=>memB t cut.W
    rw[Kz3]at k3;have k4:=k3.reframe c1 (c2.trans rfl) (fun t ht=>c3 t (by
     cases hm:memB t cut.W with
     | false=>rfl
     | true=>exact absurd (hW t hm) ht)) (fun t v hv=>c3 t (by
     cases hm:memB t cut.W with
     | false=>rfl
     | true=>simp[hm]at hv))
    obtain⟨μ',τ',k5,_⟩:=zz0 k4 c5.2.1 c4 c5.2.2.2.1 k2 klv hs2;exact k5.sim
   .cases hone
theorem KzH {c:Code}{cut:CutSpec tb}(hc:czE P tb N c cut)(hW:∀t,memB t cut.W=true->W t)(h:SimAt P tb N W a0 g0 w0 D0 s g μ τ a w){ex:Ex}
 (he:mz6 P tb cut s (fun ex s=>some (ex,s))=some (ex,s')):c.wp P (fun e a w=>e=ex.toExit/\Sim P tb N W a0 g0 w0 D0 s' a w) a w :=
 wzX (Z:=c.wp P) (fun h hq=>wp_mono h hq) hc hW h he
theorem Gzs {c:CutSpec tb}{s:St tb.T}{κ:Ex->St tb.T->Option R}:∀{outs:List (Ex×aze)} {y:Outs tb (azk c.ins) outs},gzk P tb c s κ outs y=obnd (gzk P tb c s (fun ex s=>some (ex,s)) outs y) fun p=>κ p.1 p.2
 | [],y=>nomatch y
 | [o],y=>by simp only[gzk];unfold gzk.one;split<;>rfl
 | o::_::_,.inl y=>by simp only[gzk,osum];unfold gzk.one;split<;>rfl
 | _::p::l,.inr y=>by simp only[gzk,osum];exact Gzs (outs:=p::l) (y:=y)
theorem Fzp {c:CutSpec tb}{s:St tb.T}{κ:Ex->St tb.T->Option R}:mz6 P tb c s κ=obnd (mz6 P tb c s (fun ex s=>some (ex,s))) fun p=>κ p.1 p.2:=by
 unfold mz6;split
 .rw[czb];congr 1;rw[dz4];exact fzd _ fun y=>Gzs
 .rfl
theorem KzG:∀(c:Code) (s:St tb.T) {R:Type} {κ κ':Ex->St tb.T->Option R} (_:∀ex s r,κ ex s=some r->κ' ex s=some r) {r:R},bzm P tb Γ Δ c s κ=some r->bzm P tb Γ Δ c s κ'=some r:=by
 have cut:∀{cut:CutSpec tb} {s:St tb.T} {R:Type} {κ κ':Ex->St tb.T->Option R} (_:∀ex s r,κ ex s=some r->κ' ex s=some r) {r:R},mz6 P tb cut s κ=some r->mz6 P tb cut s κ'=some r:=fun h r he=>by
  rw[Fzp]at he ⊢;obtain⟨p,h1,h2⟩:=azu.1 he;exact azu.2 ⟨p,h1,h _ _ _ h2⟩
 intro c;induction c with
 | region id ops draw =>
  intro s R κ κ' h r he;unfold bzm at he ⊢;split at he
  .exact cut h he
  .cases draw with
   | true =>
    simp only[cond_true]at he ⊢;cases hb:rz5 ops.toList 0 with
    | false=>simp[hb]at he
    | true =>
     simp only[hb,cond_true]at he ⊢;rw[Az0]at he ⊢;obtain⟨p,h1,h2⟩:=azu.1 he;exact azu.2 ⟨p,h1,h _ _ _ h2⟩
   | false =>
    simp only[cond_false]at he ⊢;rw[Fzq]at he ⊢;obtain⟨p,h1,h2⟩:=azu.1 he;exact azu.2 ⟨p,h1,h _ _ _ h2⟩
 | seq a b iha ihb =>
  intro s R κ κ' h r he;unfold bzm at he ⊢;split at he
  .exact cut h he
  .simp only at he ⊢;refine iha s (fun ex s1 r h1=>?_) he;cases ex with
   | normal=>exact ihb s1 h h1
   | _=>exact h _ _ _ h1
 | cond x a b iha ihb =>
  intro s R κ κ' h r he;unfold bzm at he ⊢;split at he
  .exact cut h he
  .simp only at he ⊢;split at he
   .rename_i t hv;cases t with
    | true=>rw[azc]at he ⊢;exact iha s h he
    | false=>rw[azb]at he ⊢;exact ihb s h he
   .rename_i m e hv;cases m with
    | true =>
     rw[azc]at he ⊢;obtain⟨h1,h2⟩:=CzK he;rw[iha s h h1,ihb s h h2,Lzt]
    | false =>
     rw[azb]at he ⊢;cases e with
     | true=>simp only[cond_true]at he ⊢;exact iha s h he
     | false=>simp only[cond_false]at he ⊢;exact ihb s h he
   .cases he
 | block id b ih =>
  intro s R κ κ' h r he;unfold bzm at he ⊢;split at he
  .exact cut h he
  .simp only at he ⊢;refine ih s (fun ex s1 r h1=>?_) he;cases ex with
   | exit id' =>
    simp only at h1 ⊢;cases hb:Nat.beq id' id with
    | true=>simp only[hb,cond_true]at h1 ⊢;exact h _ _ _ h1
    | false=>simp only[hb,cond_false]at h1 ⊢;exact h _ _ _ h1
   | _=>exact h _ _ _ h1
 | scope b ih =>
  intro s R κ κ' h r he;unfold bzm at he ⊢;split at he
  .exact cut h he
  .simp only at he ⊢;refine ih s (fun ex s1 r h1=>?_) he;cases ex with
   | goto l=>simp at h1
   | _=>exact h _ _ _ h1
 | _ =>
  intros;rename_i s R κ κ' h r he;unfold bzm at he ⊢;split at he
  .exact cut h he
  .first|exact h _ _ _ he|cases he
def bz9 (Δ:List (CutSpec tb))(S:Code->CutSpec tb->Prop)(c:Code):Prop :=
 match gzl Δ (qzt c)with
 | some cut=>S c cut
 | none=>match c with
  | .seq a b=>bz9 Δ S a/\bz9 Δ S b
  | .cond _ a b=>bz9 Δ S a/\bz9 Δ S b
  | .block _ b=>bz9 Δ S b
  | .scope b=>bz9 Δ S b
  | _=>True
theorem mz5 (hm:P.follows .mixedOrders=true)(hΓ:∀p∈Γ,bzU P tb p.1 p.2)(hsl:∀p∈Γ,(azD p.2.ins).map (·.1)=List.range (azD p.2.ins).length){p:Nat->Bool}(hp:∀d,p d=true->d<N/\W d):
 ∀(c:Code),izL p c=true->bz9 Δ (fun c cut=>czE P tb N c cut/\∀t,memB t cut.W=true->W t) c->∀{s:St tb.T} {R:Type} {κ:Ex->St tb.T->Option R} {r:R} {a:Act} {w:World},Sim P tb N W a0 g0 w0 D0 s a w->bzm P tb Γ Δ c s κ=some r ->
  c.wp P (fun e a w=>∃ex s',e=ex.toExit/\Sim P tb N W a0 g0 w0 D0 s' a w/\κ ex s'=some r) a w:=by
 have hcut:∀(c:Code) (cut:CutSpec tb),gzl Δ (qzt c)=some cut->bz9 Δ (fun c cut=>czE P tb N c cut/\∀t,memB t cut.W=true->W t) c->∀{s:St tb.T} {R:Type} {κ:Ex->St tb.T->Option R} {r:R} {a:Act} {w:World},Sim P tb N W a0 g0 w0 D0 s a w->mz6 P tb cut s κ=some r ->
  c.wp P (fun e a w=>∃ex s',e=ex.toExit/\Sim P tb N W a0 g0 w0 D0 s' a w/\κ ex s'=some r) a w:=fun c cut hf hc s R κ r a w ⟨g,μ,τ,h⟩ he=>by
  unfold bz9 at hc;rw[hf]at hc;rw[Fzp]at he;obtain⟨⟨ex,s'⟩,h1,h2⟩:=azu.1 he;refine wp_mono (KzH hc.1 hc.2 h h1) ?_;rintro e a w ⟨rfl,hs⟩;exact⟨ex,s',rfl,hs,h2⟩
 intro c;induction c with
 | skip =>
  intro hd hc s R κ r a w h he;unfold bzm at he;split at he
  .rename_i cut hf;exact hcut _ cut hf hc h he
  .exact wp_skip ⟨.normal,s,rfl,h,he⟩
 | label l =>
  intro hd hc s R κ r a w h he;unfold bzm at he;split at he
  .rename_i cut hf;exact hcut _ cut hf hc h he
  .exact wp_label ⟨.normal,s,rfl,h,he⟩
 | region id ops draw =>
  intro hd hc s R κ r a w h he;have hds:∀o∈ops.toList,∀d,o.dst=some d->d<N/\W d:=fun o ho d hod=>by
   simp only[izL,List.all_eq_true]at hd;have:=hd o ho;rw[hod]at this;exact hp d this
  unfold bzm at he;split at he
  .rename_i cut hf;exact hcut _ cut hf hc h he
  .cases draw with
   | true =>
    simp only[cond_true]at he;cases hb:rz5 ops.toList 0 with
    | false=>simp[hb]at he
    | true =>
     simp only[hb,cond_true]at he;rw[Az0]at he;obtain⟨s1,h1,h2⟩:=azu.1 he;exact Izd hm hΓ hsl hds hb h h1 fun a w h=>⟨.normal,s1,rfl,h,h2⟩
   | false =>
    simp only[cond_false]at he;rw[Fzq]at he;obtain⟨s1,h1,h2⟩:=azu.1 he;exact Kzm hΓ hsl hds h h1 fun a w h=>⟨.normal,s1,rfl,h,h2⟩
 | seq x y ihx ihy =>
  intro hd hc s R κ r a w h he;simp only[izL,Bool.and_eq_true]at hd;unfold bzm at he;split at he
  .rename_i cut hf;exact hcut _ cut hf hc h he
  .rename_i hf;unfold bz9 at hc;rw[hf]at hc;simp only at he hc;refine wp_seq (wp_mono (ihx hd.1 hc.1 h he) ?_);rintro e a1 w1 ⟨e1,s1,rfl,hs1,h2⟩;cases e1 with
   | normal=>exact ihy hd.2 hc.2 hs1 h2
   | exit id=>exact⟨_,s1,rfl,hs1,h2⟩
   | goto l=>exact⟨_,s1,rfl,hs1,h2⟩
   | ret=>exact⟨_,s1,rfl,hs1,h2⟩
 | cond x y z ihy ihz =>
  intro hd hc s R κ r a w h he;simp only[izL,Bool.and_eq_true]at hd;unfold bzm at he;split at he
  .rename_i cut hf;exact hcut _ cut hf hc h he
  .rename_i hf;unfold bz9 at hc;rw[hf]at hc;simp only at he hc;split at he
   .rename_i t hv;obtain⟨g,μ,τ,h'⟩:=h;have hr:RepD P tb g w (.bool t) (a.eval x):=(az9 h' x _ hv).1;have hev:a.eval x = .bool t:=by
     generalize a.eval x=u at hr;cases hr;rfl
    refine wp_cond hev ?_;cases t with
    | true=>exact ihy hd.1 hc.1 ⟨g,μ,τ,h'⟩ he
    | false=>exact ihz hd.2 hc.2 ⟨g,μ,τ,h'⟩ he
   .rename_i m e hv;obtain⟨g,μ,τ,h'⟩:=h;obtain⟨t,hev,hte⟩:∃t,a.eval x = .bool t/\(m=false->t=e):=(az9 h' x _ hv).1;refine wp_cond hev ?_;cases m with
    | true =>
     rw[azc]at he;obtain⟨h1,h2⟩:=CzK he;cases t with
     | true=>exact ihy hd.1 hc.1 ⟨g,μ,τ,h'⟩ h1
     | false=>exact ihz hd.2 hc.2 ⟨g,μ,τ,h'⟩ h2
    | false =>
     rw[azb]at he;have:=hte rfl;subst this;cases t with
     | true=>exact ihy hd.1 hc.1 ⟨g,μ,τ,h'⟩ he
     | false=>exact ihz hd.2 hc.2 ⟨g,μ,τ,h'⟩ he
   .cases he
 | block id b ih =>
  intro hd hc s R κ r a w h he;simp only[izL]at hd;unfold bzm at he;split at he
  .rename_i cut hf;exact hcut _ cut hf hc h he
  .rename_i hf;unfold bz9 at hc;rw[hf]at hc;simp only at he hc;refine wp_block (wp_mono (ih hd hc h he) ?_);rintro e a1 w1 ⟨e1,s1,rfl,hs1,h2⟩;cases e1 with
   | exit id' =>
    simp only at h2;cases hb:Nat.beq id' id with
    | true =>
     have:=Nat.eq_of_beq_eq_true hb;subst this;simp only[hb,cond_true]at h2;simp only[Ex.toExit,Exit.inBlock,if_true];exact⟨.normal,s1,rfl,hs1,h2⟩
    | false =>
     have hne:id'≠id:=fun e=>by subst e;simp at hb
     simp only[hb,cond_false]at h2;simp only[Ex.toExit,Exit.inBlock,if_neg hne];exact⟨.exit id',s1,rfl,hs1,h2⟩
   | normal=>exact⟨.normal,s1,rfl,hs1,h2⟩
   | goto l=>exact⟨.goto l,s1,rfl,hs1,h2⟩
   | ret=>exact⟨.ret,s1,rfl,hs1,h2⟩
 | scope b ih =>
  intro hd hc s R κ r a w h he;simp only[izL]at hd;unfold bzm at he;split at he
  .rename_i cut hf;exact hcut _ cut hf hc h he
  .rename_i hf;unfold bz9 at hc;rw[hf]at hc;simp only at he hc;refine wp_scope_straight (wp_mono (ih hd hc h he) ?_);rintro e a1 w1 ⟨e1,s1,rfl,hs1,h2⟩;cases e1 with
   | goto l=>simp at h2
   | exit id=>exact⟨.exit id,s1,rfl,hs1,h2⟩
   | normal=>exact⟨.normal,s1,rfl,hs1,h2⟩
   | ret=>exact⟨.ret,s1,rfl,hs1,h2⟩
 | exit id =>
  intro hd hc s R κ r a w h he;unfold bzm at he;split at he
  .rename_i cut hf;exact hcut _ cut hf hc h he
  .exact wp_exit ⟨.exit id,s,rfl,h,he⟩
 | goto l =>
  intro hd hc s R κ r a w h he;unfold bzm at he;split at he
  .rename_i cut hf;exact hcut _ cut hf hc h he
  .exact wp_goto ⟨.goto l,s,rfl,h,he⟩
 | ret =>
  intro hd hc s R κ r a w h he;unfold bzm at he;split at he
  .rename_i cut hf;exact hcut _ cut hf hc h he
  .exact wp_ret ⟨.ret,s,rfl,h,he⟩
 | loop b ih =>
  intro hd hc s R κ r a w h he;unfold bzm at he;split at he
  .rename_i cut hf;exact hcut _ cut hf hc h he
  .cases he
 | rangeFunc f ps MzU b iha ihb =>
  intro hd hc s R κ r a w h he;unfold bzm at he;split at he
  .rename_i cut hf;exact hcut _ cut hf hc h he
  .cases he
 | refuse why =>
  intro hd hc s R κ r a w h he;unfold bzm at he;split at he
  .rename_i cut hf;exact hcut _ cut hf hc h he
  .cases he
end Go.Ev
namespace Go.Ev
open Go
open Go.IntKind (i64 u64 u8 i32 u32 i16 u16)
variable {P:Program} {tb:Tab} {N:Nat} {W:Nat->Prop} {a0:Act} {g0:Gh} {w0:World} {D0:Nat->Prop}
variable {s s' s1 s2:St tb.T} {g g':Gh} {μ μ':Nat->Nat} {τ τ':Nat->Option Nat} {a a':Act} {w w':World}
variable {Γ:List (Nat×FSpec tb)} {Δ:List (CutSpec tb)} {R:Type}
theorem rz6 (hinv:tb.inv g w){l:aze}{x:XS tb l}{vs:List Value}{bs:List (Option Nat)}(hh:az1 P tb g w l x vs bs)(hn:(azj bs).Nodup)(hs:bzz (l.map (·.1))=true)(hi:fzq a w l vs)(hN:a.tmps.size=N):
 Sim P tb N W a g w (fun b=>b∈bzW l bs) (uzl P tb l x) a w:=by
 have hs':=gzK.1 hs;have hf:=Cz8 (Iz6 hs') hi hh;exact⟨g,_,_,(zzZ (W:=W) hinv hh hn hs' hi hf hN (D0:=fun b=>b∈bzW l bs) fun k hk=>hk).sim⟩
theorem frz_ids {T:Nat->Type}{i e:Nat}{xs:List (T e)}(ac:AC T):∀j∈(ac.frz i e xs).ids,j∈ac.ids\/j=i+1152921504606846976:=by
 cases ac<;>simp only[AC.frz]<;>intro q hq
 case vsl j n =>
  cases h:Nat.beq j i with
  | false=>rw[h]at hq;exact .inl hq
  | true=>rw[h]at hq;simp only[cond_true,AC.ids,List.mem_singleton]at hq;exact .inr hq
 all_goals exact .inl hq
theorem LzU {T:Nat->Type}{i e:Nat}{xs:List (T e)}(v:SV T):∀j∈(v.frz i e xs).ids,j∈v.ids\/j=i+1152921504606846976:=by
 intro j hj;cases v with
 | c a=>exact Ev.frz_ids a j hj
 | agg MzU =>
  simp only[SV.frz,SV.ids,List.mem_flatMap,List.mem_map]at hj;obtain⟨_,⟨a,ha,rfl⟩,hj⟩:=hj;exact(Ev.frz_ids a j hj).imp (fun h=>by simp only[SV.ids,List.mem_flatMap];exact⟨a,ha,h⟩) id
 | tup ts =>
  simp only[SV.frz,SV.ids,List.mem_flatMap]at hj;obtain⟨p',hp',ac',hac',hj⟩:=hj;obtain⟨p,hp,rfl⟩:=List.mem_map.1 hp';obtain⟨a,ha,rfl⟩:=List.mem_map.1 hac';exact(Ev.frz_ids a j hj).imp (fun h=>by simp only[SV.ids,List.mem_flatMap];exact⟨p,hp,a,ha,h⟩) id
theorem qzS {α β γ:Type}{R:α->β->Prop}{S:γ->β->Prop}{f:α->γ}:∀{MzU:List α} {bs:List β},All2 R MzU bs->(∀a∈MzU,∀b,R a b->S (f a) b)->All2 S (MzU.map f) bs
 | [],[],_,_=>trivial
 | a::MzU,b::bs,⟨h1,h2⟩,h=>⟨h a (by simp) b h1,qzS h2 fun a ha b hb=>h a (by simp[ha]) b hb⟩
 | [],_::_,h,_=>h.elim
 | _::_,[],h,_=>h.elim
theorem SimAt.freeze (h:SimAt P tb N W a0 g0 w0 D0 s g μ τ a w)(i:Nat):∃g' τ',SimAt P tb N W a0 g0 w0 D0 (s.frz i) g' μ τ' a w:=by
 unfold St.frz;split
 .rename_i e xs hi;generalize hf:i+1152921504606846976=f;cases hu:s.used f with
  | true=>exact⟨g,τ,h⟩
  | false =>
  simp only[cond_false];have hl:azh s i:=.inr (by rw[hi];simp);obtain⟨k1,k2,k3,k4⟩:=h.live i hl;obtain⟨hnb,hnr⟩:=h.excl i (by rw[hi];simp);obtain⟨cap,hq,ha⟩:=h.itr i _ hi;have ha':=ha;obtain⟨us,el,fz,a1,a2,a3,a4,a5,a6,a7,a8,a9⟩:=ha';have hne:∀j,s.used j=true->j≠f:=fun j hj e=>by subst e;rw[hj]at hu;cases hu
  have hus:∀j,s.used j=true->upd s.used f true j=true:=fun j hj=>by rw[azt _ _ (hne j hj)];exact hj
  have hgo:∀b,b≠μ i->upd g (μ i) (.ar (xs.length*P.cellsOf e)) b=g b:=fun b hb=>azt g _ hb
  have he:Ext g w (upd g (μ i) (.ar (xs.length*P.cellsOf e))) w (fun b=>b=μ i) :=
   ⟨rfl,rfl,rfl,Nat.le_refl _,fun b _ hb=>⟨rfl,hgo b hb⟩,fun b _ hb=>⟨rfl,by rw[hgo b (fun e=>by subst e;rw[k2]at hb;cases hb)];exact hb⟩,fun b n _ hb=>⟨n,Nat.le_refl _,by rw[hgo b (fun e=>by subst e;rw[k2]at hb;cases hb)];exact hb,fun _ _=>rfl⟩,Shp.refl w⟩
  have hkeep:=he.keeps;have hxl:xs.length<18446744073709551616:=by unfold az6 at a4;omega
  have htkb:∀t b,s.tok t=true->τ t=some b->b≠μ i:=fun t b ht hb e'=>by
   obtain⟨⟨n,hn⟩,_⟩:=(h.tokv t ht).2 b hb;rw[e',k2]at hn;cases hn
  have carry:Carry g w μ τ s.tok (upd g (μ i) (.ar (xs.length*P.cellsOf e))) w μ (upd τ f (some (μ i))) (upd s.tok f true) (fun j=>s.used j=true) :=
   ⟨hkeep,fun j hj=>⟨rfl,azt τ _ (hne j hj)⟩,fun j hj ht=>by rw[azt _ _ (hne j hj)]at ht;exact ht,fun j b hj ht hb=>by
    rw[azt _ _ (hne j hj)]at ht;exact⟨hgo b (htkb j b ht hb),rfl⟩⟩
  have hcell:∀(ac:AC tb.T),(∀j∈ac.ids,s.used j=true)->∀v,RepC P tb g w μ τ s.tok ac v->RepC P tb (upd g (μ i) (.ar (xs.length*P.cellsOf e))) w μ (upd τ f (some (μ i))) (upd s.tok f true) (ac.frz i e xs) v:=by
   intro ac hids v hr;cases ac with
   | vsl j n =>
    simp only[AC.frz];cases hb:Nat.beq j i with
    | false=>exact RepC.carry carry hids hr
    | true =>
     have:=Nat.eq_of_beq_eq_true hb;subst this;simp only[cond_true];rw[hf];obtain⟨q,q1,q2,q4,rfl⟩:=hr;rw[hq]at q1;injection q1 with q1;subst q1;have m1:(xs.length+18446744073709551616*cap)%18446744073709551616=xs.length:=by omega
     have m2:(xs.length+18446744073709551616*cap)/18446744073709551616=cap:=by omega
     rw[m1,m2];refine⟨?_,fun _=>?_⟩
     .refine .sl e xs (μ j) 0 cap (fun p c=>(w.cell? ⟨μ j,0+p*P.cellsOf e+c,none⟩).getD undef) a3 a4 (fun p x hx=>a7 x (List.mem_of_getElem? hx)) (fun _=>⟨k3,.inr ⟨_,azf _ _ _,by omega⟩⟩) (fun p x c cv hx hc=>?_) (fun p x c cv hx hc=>?_)
      .obtain⟨u,hu,_⟩:=a8 p x c cv hx hc;have:w.cell? ⟨μ j,0+p*P.cellsOf e+c,none⟩=some u:=by unfold World.cell?;simp only[a1];rw[Nat.zero_add];exact hu
       rw[this];rfl
      .obtain⟨u,hu,hr⟩:=a8 p x c cv hx hc;have:w.cell? ⟨μ j,0+p*P.cellsOf e+c,none⟩=some u:=by unfold World.cell?;simp only[a1];rw[Nat.zero_add];exact hu
       rw[this];exact hr.mono hkeep
     .exact .inr ⟨μ j,0,cap,us,el,fz,azf _ _ _,rfl,by rw[azf,Nat.zero_add],a1,by omega,a3,a2,rfl,a9⟩
   | d c=>exact RepC.carry carry hids hr
   | own e' ys t=>exact RepC.carry carry hids hr
   | ptr j o=>exact RepC.carry carry hids hr
   | cptr cs=>exact RepC.carry carry hids hr
   | fn f caps=>exact RepC.carry carry hids hr
   | any=>exact RepC.carry carry hids hr
   | ubool m e=>exact RepC.carry carry hids hr
   | np=>exact RepC.carry carry hids hr
   | map i=>exact RepC.carry carry hids hr
   | slf t n i=>exact RepC.carry carry hids hr
   | elp j e' k o=>exact RepC.carry carry hids hr
  have hval:∀(v:SV tb.T),(∀j∈v.ids,s.used j=true)->∀u,RepV P tb g w μ τ s.tok v u->RepV P tb (upd g (μ i) (.ar (xs.length*P.cellsOf e))) w μ (upd τ f (some (μ i))) (upd s.tok f true) (v.frz i e xs) u:=by
   intro v hids u hr;cases v with
   | c ac=>exact hcell ac hids u hr
   | agg MzU =>
    obtain⟨us',rfl,h2⟩:=hr;exact⟨us',rfl,qzS h2 fun ac hac b hb=>hcell ac (fun j hj=>hids j (by simp only[SV.ids,List.mem_flatMap];exact⟨ac,hac,hj⟩)) b hb⟩
   | tup ts =>
    obtain⟨us',rfl,h2⟩:=hr;refine⟨us',rfl,qzS h2 fun p hp b hb=>?_⟩;have hids':∀ac∈p.2,∀j∈ac.ids,s.used j=true:=fun ac hac j hj=>hids j (by simp only[SV.ids,List.mem_flatMap];exact⟨p,hp,ac,hac,hj⟩)
    unfold RepT at hb ⊢;obtain⟨pb,pas⟩:=p;cases pb
    .simp only[Bool.false_eq_true,if_false]at hb ⊢;obtain⟨ac,rfl,h3⟩:=hb;exact⟨_,rfl,hcell ac (hids' ac (by simp)) b h3⟩
    .simp only[if_true]at hb ⊢;obtain⟨us2,rfl,h3⟩:=hb;exact⟨us2,rfl,qzS h3 fun ac hac b hb=>hcell ac (hids' ac hac) b hb⟩
  have hlv:∀j,((s.blk j).map (List.map (AC.frz i e xs))≠none\/upd s.itr i none j≠none)->azh s j/\j≠i:=fun j hj=>by
   by_cases e':j=i
   .subst e';rcases hj with hj|hj
    .exact absurd (by rw[hnb];rfl) hj
    .exact absurd (azf _ _ _) hj
   .refine⟨?_,e'⟩;rcases hj with hj|hj
    .left;intro hb;exact hj (by rw[hb];rfl)
    .right;rw[azt _ _ e']at hj;exact hj
  refine⟨upd g (μ i) (.ar (xs.length*P.cellsOf e)),upd τ f (some (μ i)),?_,h.size,h.defers,h.frame,fun t v hv=>?_,fun j cs hc=>?_,fun j o hj=>?_,fun j hj=>?_,fun j k hj hk e'=>h.inj j k (hlv j hj).1 (hlv k hk).1 e',fun t ht=>?_,fun t u b ht hu' e1 e2=>?_,fun j hj=>?_,fun j hj=>hus j (h.rou j hj),fun t v hv j hj=>?_,fun j cs hc y hy q hq'=>?_,h.inv0⟩
  .exact h.ext.trans he (fun _ _ x=>x) (fun b hb hd=>by
    rw[hd]at hb ⊢;rcases k4 with k4|k4|k4
    .rw[hnr]at k4;cases k4
    .omega
    .exact k4)
  .simp only at hv;cases hev:s.env t with
   | none=>simp[hev]at hv
   | some v0 =>
    simp only[hev,Option.map_some,sE0]at hv;subst hv;obtain⟨u,hu',hr⟩:=h.env t v0 hev;exact⟨u,hu',hval v0 (fun j hj=>h.uenv t v0 hev j hj) u hr⟩
  .simp only at hc;cases hbv:s.blk j with
   | none=>simp[hbv]at hc
   | some MzU =>
    simp only[hbv,Option.map_some,sE0]at hc;subst hc;obtain⟨us',el',fz',b1,b2,b3⟩:=h.blk j MzU hbv;exact⟨us',el',fz',b1,b2,qzS b3 fun ac hac b hb=>hcell ac (fun q hq'=>h.ublk j MzU hbv ac hac q hq') b hb⟩
  .have hj:upd s.itr i none j=some o:=hj;by_cases e':j=i
   .subst e';rw[azf]at hj;cases hj
   .rw[azt _ _ e']at hj;have hju:=(h.live j (.inr (by rw[hj];simp))).1;rw[azt τ _ (hne j hju)];exact(h.itr j o hj).mono hkeep rfl
  .obtain⟨c1,c2⟩:=hlv j hj;obtain⟨q1,q2,q3,q4⟩:=h.live j c1;exact⟨hus j q1,by rw[hgo _ (fun e'=>c2 (h.inj j i c1 hl e'))];exact q2,q3,q4⟩
  .have ht:upd s.tok f true t=true:=ht;by_cases e':t=f
   .subst e';refine⟨azf _ _ _,fun b hb=>?_⟩;rw[azf]at hb;injection hb with hb;subst hb;exact⟨⟨_,azf _ _ _⟩,k3,k4.resolve_left (by rw[hnr];simp)⟩
   .rw[azt _ _ e']at ht;obtain⟨q1,q2⟩:=h.tokv t ht;refine⟨hus t q1,fun b hb=>?_⟩;rw[azt _ _ e']at hb;obtain⟨⟨n,r1⟩,r2⟩:=q2 b hb;exact⟨⟨n,by rw[hgo b (htkb t b ht hb)];exact r1⟩,r2⟩
  .have ht:upd s.tok f true t=true:=ht;have hu2:upd s.tok f true u=true:=hu';by_cases c1:t=f<;>by_cases c2:u=f
   .rw[c1,c2]
   .subst c1;rw[azf]at e1;injection e1 with e1;rw[azt _ _ c2]at hu2 e2;exact absurd e1.symm (htkb u b hu2 e2)
   .subst c2;rw[azf]at e2;injection e2 with e2;rw[azt _ _ c1]at ht e1;exact absurd e2.symm (htkb t b ht e1)
   .rw[azt _ _ c1]at ht e1;rw[azt _ _ c2]at hu2 e2;exact h.tinj t u b ht hu2 e1 e2
  .have hj:upd s.itr i none j≠none:=hj;by_cases e':j=i
   .subst e';exact absurd (azf _ _ _) hj
   .rw[azt _ _ e']at hj;obtain⟨q1,q2⟩:=h.excl j hj;exact⟨by simp only[q1];rfl,q2⟩
  .simp only at hv;cases hev:s.env t with
   | none=>simp[hev]at hv
   | some v0 =>
    simp only[hev,Option.map_some,sE0]at hv;subst hv;rcases LzU v0 j hj with c|c
    .exact hus j (h.uenv t v0 hev j c)
    .rw[hf]at c;subst c;exact azf _ _ _
  .simp only at hc;cases hbv:s.blk j with
   | none=>simp[hbv]at hc
   | some MzU =>
    simp only[hbv,Option.map_some,sE0]at hc;subst hc;obtain⟨ac,hac,rfl⟩:=List.mem_map.1 hy;rcases Ev.frz_ids ac q hq' with c|c
    .exact hus q (h.ublk j MzU hbv ac hac q c)
    .rw[hf]at c;subst c;exact azf _ _ _
 .exact⟨g,τ,h⟩
theorem SimAt.prep {get:Nat->Option (SV tb.T)}:∀(l:aze) {s:St tb.T} {g:Gh} {τ:Nat->Option Nat},SimAt P tb N W a0 g0 w0 D0 s g μ τ a w->∃g' τ',SimAt P tb N W a0 g0 w0 D0 (St.prep get l s) g' μ τ' a w
 | [],s,g,τ,h=>⟨g,τ,h⟩
 | (t,p)::l,s,g,τ,h=>by
  cases p with
  | own e =>
   simp only[St.prep];split
   .obtain⟨g',τ',h'⟩:=h.freeze _;exact SimAt.prep l h'
   .exact SimAt.prep l h
  | _=>exact SimAt.prep l h
theorem FzG {rs:aze}{get:Nat->Option (SV tb.T)}{ex:Ex}{φ:Ex->(l:aze)->Ret tb l rs->Prop}:∀{outs:List (Ex×aze)} {y:Outs tb rs outs},ozq P tb rs get ex s outs=some y ->
 (∀o∈outs,o.1=ex->∀x z,extS P tb s (vget s s.env) o.2=some x->extS P tb s get rs=some z->bzz (idsS (vget s s.env) o.2++idsS get rs)=true->φ o.1 o.2 (Ret.mk x z))->uze rs φ outs y:=by
 have one:∀(o:Ex×aze) (q:Ret tb o.2 rs),ozq.one P tb rs get ex s o=some q->(o.1=ex->∀x z,extS P tb s (vget s s.env) o.2=some x->extS P tb s get rs=some z->bzz (idsS (vget s s.env) o.2++idsS get rs)=true->φ o.1 o.2 (Ret.mk x z))->φ o.1 o.2 q:=fun o q h hφ=>by
  unfold ozq.one at h;cases hk:(decide (o.1=ex)&&bzz (idsS (vget s s.env) o.2++idsS get rs))with
  | false=>simp[hk]at h
  | true =>
   simp only[hk,cond_true]at h;simp only[Bool.and_eq_true,decide_eq_true_eq]at hk;split at h
   .rename_i x hx;split at h
    .rename_i z hz;simp only[sE0]at h;subst h;exact hφ hk.1 x z hx hz hk.2
    .cases h
   .cases h
 intro outs;induction outs with
 | nil=>intro y;exact nomatch y
 | cons o outs ih =>
  intro y h hφ;cases outs with
  | nil=>exact one o y h (hφ o (by simp))
  | cons p l =>
   simp only[ozq]at h;cases hd:decide (o.1=ex)with
   | true =>
    simp only[hd,cond_true]at h;split at h
    .rename_i q hq;have h:=Option.some.inj h;subst h;exact one o q hq (hφ o (by simp))
    .cases h
   | false =>
    simp only[hd,cond_false]at h;split at h
    .rename_i q hq;have h:=Option.some.inj h;subst h;exact ih (y:=q) hq fun o ho=>hφ o (List.mem_cons_of_mem _ ho)
    .cases h
theorem pzM {rs:aze}{ex:Ex}{φ:Ex->(l:aze)->Ret tb l rs->Prop}{outs:List (Ex×aze)}{y:Outs tb rs outs}(he:ozp P tb rs ex s outs=some y)
 (hφ:∀l0,∀o∈outs,o.1=ex->∀x z,extS P tb (St.prep (vget s s.env) l0 s) (vget (St.prep (vget s s.env) l0 s) (St.prep (vget s s.env) l0 s).env) o.2=some x->extS P tb (St.prep (vget s s.env) l0 s) (czz (St.prep (vget s s.env) l0 s) rs) rs=some z ->
  bzz (idsS (vget (St.prep (vget s s.env) l0 s) (St.prep (vget s s.env) l0 s).env) o.2++idsS (czz (St.prep (vget s s.env) l0 s) rs) rs)=true->φ o.1 o.2 (Ret.mk x z)):uze rs φ outs y:=by
 unfold ozp at he;split at he
 .rename_i o0 ho0;exact FzG he (hφ o0.2)
 .cases he
def CzJ (P:Program)(tb:Tab)(N:Nat)(W:Nat->Prop)(Δ:List (CutSpec tb))(c:Code):Prop:=bz9 Δ (fun c cut=>czE P tb N c cut/\∀t,memB t cut.W=true->W t) c
def cutB (N:Nat)(cut:CutSpec tb)(c:Code):Bool:=izL (fun d=>Nat.blt d N&&memB d cut.W) c&&bzz (cut.ins.map (·.1))&&(azk cut.ins).all (fun q=>!memB (q.1%4294967296) cut.W)&&cut.outs.all (fun o=>aze.plainOwn o.2)&&hangs cut.ins
theorem Fze {ins l:aze}{x:XS tb ins}{vs:List Value}{bs:List (Option Nat)}{Wl:List Nat}(hh:az1 P tb g w ins x vs bs)(hi:fzq a w ins vs)(hW:∀q∈azk ins,memB (q.1%4294967296) Wl=false)(hg:hangs ins=true)(hpo:aze.plainOwn l=true)
 (h:SimAt P tb N (fun t=>memB t Wl=true) a g w (fun b=>b∈bzW ins bs) s g' μ τ a' w') {y:XS tb l} {z:XS tb (azk ins)} (hy:extS P tb s (vget s s.env) l=some y)
 (hz:extS P tb s (czz s (azk ins)) (azk ins)=some z) (hn:bzz (idsS (vget s s.env) l++idsS (czz s (azk ins)) (azk ins))=true):yzp P tb N Wl ins g w a vs bs l (Ret.mk y z) a' w':=by
 obtain⟨cs,hl,hbl⟩:=IzD (val:=jzW w' a') hh hi (fun q hq=>by rw[hW q hq];simp) hg hpo h hy (fun q _ v hv=>szP h hv) hz hn;exact⟨h.size,h.defers,fun t ht=>h.frame t (by rw[ht];simp),_,cs,g',yzr (fun t v hv=>by obtain⟨u,hu,_⟩:=vzl h hv;exact⟨u,hu⟩) hbl,hl⟩
theorem blk_sound (hm:P.follows .mixedOrders=true)(hΓ:∀p∈Γ,bzU P tb p.1 p.2)(hsl:∀p∈Γ,(azD p.2.ins).map (·.1)=List.range (azD p.2.ins).length){c:Code}{cut:CutSpec tb}(hb:cutB N cut c=true)(hcut:CzJ P tb N (fun t=>memB t cut.W=true) Δ c)
 (hJ:∀x y,cut.J x=some y->lzO P tb Γ Δ c cut.ins cut.outs x=some y):czE P tb N c cut:=by
 simp only[cutB,Bool.and_eq_true]at hb;obtain⟨⟨⟨⟨hd,hns⟩,hrs⟩,hpo⟩,hhg⟩:=hb;intro g w a x vs bs y hxy hinv hN hi hh hn;have hsim:=rz6 (W:=fun t=>memB t cut.W=true) hinv hh hn hns hi hN;have he:=hJ x y hxy;unfold lzO at he;refine wp_mono (mz5 hm hΓ hsl (p:=fun d=>Nat.blt d N&&memB d cut.W) (fun d hd=>by
  simp only[Bool.and_eq_true]at hd;exact⟨Nat.le_of_ble_eq_true hd.1,hd.2⟩) c hd hcut hsim he) ?_
 rintro e a' w' ⟨ex,s',rfl,⟨g',μ,τ,hs⟩,h2⟩;refine pzM (P:=P) h2 ?_;rintro l0 o ho rfl y' z hy' hz hn';obtain⟨g2,τ2,hs⟩:=hs.prep (get:=vget s' s'.env) l0;refine⟨rfl,Fze hh hi (fun q hq=>?_) hhg ?_ hs hy' hz hn'⟩
 .have:=List.all_eq_true.1 hrs q hq;simpa using this
 .exact List.all_eq_true.1 hpo o ho
theorem Dzu:∀{l:aze} {x:XS tb l} {vs:List Value} {bs:List (Option Nat)},az1 P tb g w l x vs bs->∃z,az1 P tb g w (azk l) z (az8 l vs) (az8 l bs)
 | [],x,vs,bs,h=>by obtain⟨rfl,rfl⟩:=szg h;exact⟨(():Unit),trivial⟩
 | (t,p)::l,x,vs,bs,h=>by
  obtain⟨v,vs,b,bs,rfl,rfl⟩:=azR h;obtain⟨⟨y,hy⟩,ys,hys⟩:=qzr h;obtain⟨z,hz⟩:=Dzu hys;cases hr:p.isRef with
  | false =>
   have e:azk ((t,p)::l)=azk l:=by simp[azk,hr]
   have e1:∀{α:Type} (u:α) (us:List α),az8 ((t,p)::l) (u::us)=az8 l us:=fun u us=>by simp[az8,hr]
   rw[e1,e1,e];exact⟨z,hz⟩
  | true =>
   have e:azk ((t,p)::l)=(t,p)::azk l:=by simp[azk,hr]
   have e1:∀{α:Type} (u:α) (us:List α),az8 ((t,p)::l) (u::us)=u::az8 l us:=fun u us=>by simp[az8,hr]
   rw[e1,e1,e];revert z hz;cases hl:azk l with
   | nil =>
    intro z hz;obtain⟨e2,e3⟩:=szg hz;rw[e2,e3];exact⟨y,hy⟩
   | cons q rs=>intro z hz;exact⟨(y,z),hy,hz⟩
theorem uzj (val:Nat->Value):∀{l:aze},az8 l (l.map fun q=>val q.1)=(azk l).map fun q=>val q.1
 | []=>rfl
 | (t,p)::l=>by
  have ih:=uzj val (l:=l);cases hr:p.isRef<;>simp[az8,azk,hr,ih]
theorem Mzb {ins l:aze}{vs vs1:List Value}{bs bs1:List (Option Nat)}{g1:Gh}{w1:World}{r:Ret tb l (azk ins)}{us:List Value}{cs:List (Option Nat)}
 (he:Ext g w g1 w1 (fun b=>b∈bzW ins bs)) (ht:∀k∈bzW ins bs1,w.heap.size<=k\/k∈bzW ins bs) (hv:az8 ins vs1=az8 ins vs) (hb:az8 ins bs1=az8 ins bs)
 (h:Left P tb g1 w1 ins l vs1 bs1 r us cs g' w'):Left P tb g w ins l vs bs r us cs g' w':=by
 obtain⟨l1,l2,l3,l4,l5⟩:=h;refine⟨he.trans l1 (fun _ _ h=>h) (fun b hb1 hd=>(ht b hd).resolve_left (by omega)),l2,by rw[hv,hb]at l3;exact l3,l4,fun k hk=>?_⟩;obtain⟨k1,k2⟩:=l5 k hk;refine⟨?_,by rw[<-hb];exact k2⟩;rcases k1 with c|c
 .exact .inl (Nat.le_trans he.size c)
 .exact ht k c
structure Again (P:Program) (tb:Tab) (N:Nat) (cut:CutSpec tb) (m:XS tb cut.ins->Nat) (g:Gh) (w:World) (a:Act) (vs:List Value) (bs:List (Option Nat)) (y:Outs tb (azk cut.ins) cut.outs) (n:Nat) (a1:Act) (w1:World)
 (g1:Gh) (x1:XS tb cut.ins) (vs1:List Value) (bs1:List (Option Nat)):Prop where
 meas:m x1=n
 tells:cut.J x1=some y
 size:a1.tmps.size=N
 defers:a1.defers=a.defers
 frame:∀t,memB t cut.W=false->a1.tmps[t]?=a.tmps[t]?
 slots:fzq a1 w1 cut.ins vs1
 holds:az1 P tb g1 w1 cut.ins x1 vs1 bs1
 nodup:(azj bs1).Nodup
 ext:Ext g w g1 w1 (fun b=>b∈bzW cut.ins bs)
 tch:∀k∈bzW cut.ins bs1,w.heap.size<=k\/k∈bzW cut.ins bs
 rv:az8 cut.ins vs1=az8 cut.ins vs
 rb:az8 cut.ins bs1=az8 cut.ins bs
theorem Mze (hm:P.follows .mixedOrders=true)(hΓ:∀p∈Γ,bzU P tb p.1 p.2)(hsl:∀p∈Γ,(azD p.2.ins).map (·.1)=List.range (azD p.2.ins).length){c:Code}{cut:CutSpec tb}(hb:cutB N cut c=true)(hcut:CzJ P tb N (fun t=>memB t cut.W=true) Δ c)
 (m:XS tb cut.ins->Nat) (hJ:∀x y,cut.J x=some y->bzI P tb Γ Δ c cut.ins cut.outs (fun x'=>bif Nat.blt (m x') (m x)then cut.J x' else none) x=some y):czE P tb N (.loop c) cut:=by
 simp only[cutB,Bool.and_eq_true]at hb;obtain⟨⟨⟨⟨hd,hns⟩,hrs⟩,hpo⟩,hhg⟩:=hb;have hrs':∀q∈azk cut.ins,memB (q.1%4294967296) cut.W=false:=fun q hq=>by
  have:=List.all_eq_true.1 hrs q hq;simpa using this
 intro g w a x vs bs y hxy hinv hN hi hh hn
 let I:Nat->Act->World->Prop:=fun n a1 w1=>∃g1 x1 vs1 bs1,Again P tb N cut m g w a vs bs y n a1 w1 g1 x1 vs1 bs1
 classical
 let J:Act->World->Prop:=fun a1 w1=>∃n,I n a1 w1
 have hleast:∀a1 w1,J a1 w1->∃n,I n a1 w1/\∀k,I k a1 w1->n<=k:=fun a1 w1 ⟨n,hn⟩=>by
  induction n using Nat.strongRecOn with
  | _ n ih =>
   by_cases hk:∃k,k<n/\I k a1 w1
   .obtain⟨k,hk,hik⟩:=hk;exact ih k hk hik
   .exact⟨n,hn,fun k hik=>Nat.le_of_not_lt fun hlt=>hk ⟨k,hlt,hik⟩⟩
 let M:Act->World->Nat:=fun a1 w1=>if h:J a1 w1 then Classical.choose (hleast a1 w1 h)else 0
 have hM:∀a1 w1,J a1 w1->I (M a1 w1) a1 w1/\∀k,I k a1 w1->M a1 w1<=k:=fun a1 w1 h=>by
  have:=Classical.choose_spec (hleast a1 w1 h);simp only[M,h,dite_true];exact this
 refine wp_loop J M ⟨m x,g,x,vs,bs,⟨rfl,hxy,hN,rfl,fun _ _=>rfl,hi,hh,hn,Ext.refl _ _ _,fun _ h=>.inr h,rfl,rfl⟩⟩ ?_;intro a1 w1 hJ1;obtain⟨⟨g1,x1,vs1,bs1,h1⟩,hmin⟩:=hM a1 w1 hJ1;have hsim:=rz6 (W:=fun t=>memB t cut.W=true) (tb.invk h1.ext hinv) h1.holds h1.nodup hns h1.slots h1.size;have he:=hJ x1 y h1.tells;unfold bzI at he;refine wp_mono (mz5 hm hΓ hsl (p:=fun d=>Nat.blt d N&&memB d cut.W) (fun d hd=>by
  simp only[Bool.and_eq_true]at hd;exact⟨Nat.le_of_ble_eq_true hd.1,hd.2⟩) c hd hcut hsim he) ?_
 rintro e a' w' ⟨ex,s',rfl,⟨g',μ,τ,hs⟩,e2⟩;have hout:∀{ex:Ex},ex≠.normal->ozp P tb (azk cut.ins) ex s' cut.outs=some y ->
  uze (azk cut.ins) (fun e l r=>ex.toExit=e.toExit/\yzp P tb N cut.W cut.ins g w a vs bs l r a' w') cut.outs y:=fun {ex} _ h2=>by
  refine pzM (P:=P) h2 ?_;rintro l0 o ho rfl y' z hy' hz hn';obtain⟨g2,τ2,hs⟩:=hs.prep (get:=vget s' s'.env) l0;obtain⟨c1,c2,c3,us,cs,g2,c4,c5⟩:=Fze h1.holds h1.slots hrs' hhg (List.all_eq_true.1 hpo o ho) hs hy' hz hn';exact⟨rfl,c1,c2.trans h1.defers,fun t ht=>(c3 t ht).trans (h1.frame t ht),us,cs,g2,c4,Mzb h1.ext h1.tch h1.rv h1.rb c5⟩
 cases ex with
 | normal =>
  simp only at e2;split at e2
  .rename_i x' hx';cases hk:bzz (idsS (czz s' (azk cut.ins)) cut.ins)with
   | false=>simp[hk]at e2
   | true =>
    simp only[hk,cond_true]at e2;cases hlt:Nat.blt (m x') (m x1)with
    | false=>simp[hlt]at e2
    | true =>
     simp only[hlt,cond_true]at e2;have hlt':m x'<m x1:=Nat.le_of_ble_eq_true hlt;obtain⟨bs2,k1,k2⟩:=qzO hs (val:=jzW w' a') hx' (fun q _ v hv=>szP hs (szX hv));have hnd:=pzm hs k2 (gzK.1 hk);obtain⟨z,hz⟩:=Dzu k1;rw[uzj (jzW w' a')]at hz;have hst:=GzS (a':=a') (w':=w') h1.holds h1.slots hhg fun q hq=>hs.frame _ (by rw[hrs' q hq];simp)
     obtain⟨r1,r2⟩:=szI (val:=jzW w' a') h1.holds h1.slots hz fun q hq=>by
      obtain⟨v,hv⟩:=CzM h1.slots q (nzQ q hq);unfold jzW;rw[hst q hq,hv];rfl
     have hagain:Again P tb N cut m g w a vs bs y (m x') a' w' g' x' (cut.ins.map fun q=>jzW w' a' q.1) bs2:=by
      refine⟨rfl,e2,hs.size,hs.defers.trans h1.defers,fun t ht=>(hs.frame t (by rw[ht];simp)).trans (h1.frame t ht),yzr (fun t v hv=>by obtain⟨u,hu,_⟩:=zzX hs hv;exact⟨u,hu⟩) k2,k1,hnd,?_,fun k hk=>?_,?_,r2.trans h1.rb⟩
      .exact h1.ext.trans hs.ext (fun _ _ h=>h) (fun b hb hd=>(h1.tch b hd).resolve_left (by omega))
      .have hk':w1.heap.size<=k\/k∈bzW cut.ins bs1:=by
        rcases(gzY k2 k hk).2 with⟨j,_,hj1,hj2⟩|⟨j,_,hj1,hj2,hj3⟩
        .exact((hs.tokv j hj1).2 k hj2).2.2
        .have:=(hs.live j hj1).2.2.2;rw[hj2,hj3]at this;exact this.resolve_left (by simp)
       rcases hk' with c|c
       .exact .inl (Nat.le_trans h1.ext.size c)
       .exact h1.tch k c
      .rw[uzj (jzW w' a'),r1];exact h1.rv
     have hJ':J a' w':=⟨m x',g',x',_,bs2,hagain⟩;refine⟨hJ',?_⟩;have:=(hM a' w' hJ').2 (m x') ⟨g',x',_,bs2,hagain⟩;have:=h1.meas;omega
  .cases e2
 | exit id=>exact hout (by simp) e2
 | goto l=>exact hout (by simp) e2
 | ret=>exact hout (by simp) e2
end Go.Ev
namespace Go.Ev
open Go
open Go.IntKind (i64 u64 u8 i32 u32 i16 u16)
variable {P:Program} {tb:Tab} {N:Nat} {W:Nat->Prop} {a0:Act} {g0:Gh} {w0:World} {D0:Nat->Prop}
variable {s s' s1 s2:St tb.T} {g g':Gh} {μ μ':Nat->Nat} {τ τ':Nat->Option Nat} {a a':Act} {w w':World}
variable {Γ:List (Nat×FSpec tb)} {Δ:List (CutSpec tb)} {R:Type}
theorem enters_of {f:Nat}{fn:Func}{c:Code}(hf:P.funcs[f]?=some fn)(hb:fn.body=some c) (hn:(fn.name == "runtime.NumGoroutine")=false):tzj P f:=fun args w=>by
 have hn':¬fn.name = "runtime.NumGoroutine":=by simpa using hn
 simp[callFunc,hf,hb,hn']
def nzR (tmps:Array Value):ResultVar->Sem Value
 | .tmp t=>pure (tmps.getD t undef)
 | .cell b t=>do loadVar t (<-asAddr (tmps.getD b undef))
def ezQ (P:Program)(a:Act)(w:World)(r:ResultVar):Value :=
 match(nzR a.tmps r).run P w with | .ok v _=>v | .halt ..=>undef
theorem GzU (h:SimAt P tb N W a0 g0 w0 D0 s g μ τ a w){r:ResultVar}{v:SV tb.T}(hr:resOf P s r=some v):
 (nzR a.tmps r).run P w = .ok (ezQ P a w r) w/\RepV P tb g w μ τ s.tok v (ezQ P a w r):=by
 have key:∀u,(nzR a.tmps r).run P w = .ok u w->RepV P tb g w μ τ s.tok v u->(nzR a.tmps r).run P w = .ok (ezQ P a w r) w/\RepV P tb g w μ τ s.tok v (ezQ P a w r):=fun u hu hru=>by
  have:ezQ P a w r=u:=by unfold ezQ;rw[hu]
  rw[this];exact⟨hu,hru⟩
 cases r with
 | tmp t =>
  obtain⟨u,hu,hru⟩:=h.env t v hr;refine key u ?_ hru;simp only[nzR,Array.getD_eq_getD_getElem?,Sem.run_pure];rw[hu];rfl
 | cell b t =>
  simp only[resOf]at hr;split at hr
  .rename_i i o he;split at hr
   .rename_i cells hb;obtain⟨u,hu,hru⟩:=h.env b _ he;have hu':u = .pointer (some ⟨μ i,o,none⟩):=hru;subst hu';obtain⟨us,el,fz,e1,e2,e3⟩:=h.blk i cells hb;obtain⟨u,k1,k2⟩:=hzG (b:=μ i) (b0:=o) hr e3 (fun j u hu=>by
     unfold World.cell?;simp only[e1];simpa using hu)
    refine key u ?_ k2;have:a.tmps.getD b undef = .pointer (some ⟨μ i,o,none⟩):=by rw[Array.getD_eq_getD_getElem?,hu];rfl
    simp only[nzR,this];simpa[asAddr]using k1
   .cases hr
  .cases hr
theorem vz1 {α β:Type}{f:α->Sem β}{v:α->β}:∀{l:List α},(∀x∈l,(f x).run P w = .ok (v x) w)->(l.mapM f).run P w = .ok (l.map v) w
 | [],_=>by simp
 | x::l,h=>by
  have ih:=vz1 (l:=l) fun y hy=>h y (by simp[hy])
  simp[List.mapM_cons,h x (by simp),ih]
def packV (us:List Value):Value:=if h:us.toArray.size=1 then us.toArray[0]else .tuple us.toArray
theorem packV_ret:∀{l:aze} {us:List Value},us.length=l.length->RetV l us (packV us)
 | [],[],_=>by simp[RetV,packV]
 | [_],[_],_=>by simp[RetV,packV]
 | _::_::_,_::_::_,_=>by simp[RetV,packV]
 | [],_::_,h=>by simp at h
 | _::_,[],h=>by simp at h
 | [_],_::_::_,h=>by simp at h
 | _::_::_,[_],h=>by simp at h
theorem MzF (fn:Func)(tmps:Array Value):results fn tmps=fn.results.mapM (nzR tmps) >>= fun vs=>pure (if h:vs.size=1 then vs[0]else .tuple vs):=by
 unfold results;congr 1
theorem Lzg {fn:Func}(h:∀r∈fn.results.toList,(nzR a.tmps r).run P w = .ok (ezQ P a w r) w){l:aze}(hl:l.length=fn.results.size):
 ∃v,(results fn a.tmps).run P w = .ok v w/\RetV l (fn.results.toList.map (ezQ P a w)) v:=by
 refine⟨packV (fn.results.toList.map (ezQ P a w)),?_,packV_ret (by simp[hl])⟩;rw[MzF,Sem.run_bind,Array.mapM_eq_mapM_toList,Sem.run_map,vz1 h];rfl
def fnB (fn:Func)(ins outs:aze)(c:Code):Bool:=izL (fun d=>Nat.blt d fn.ntmps&&!memB d (kzQ ins)) c&&bzz (ins.map (·.1))&&aze.plainOwn outs&&Nat.ble (azD ins).length fn.ntmps&&hangs ins&&Nat.ble (azD outs).length 32768
theorem at_mono {w:World}{base base':Nat->Option Value}(hb:∀t u,t<4294967296->base t=some u->base' t=some u):∀{l:aze} {vs:List Value},At w base l vs->At w base' l vs
 | [],[],_=>trivial
 | q::l,v::vs,⟨h1,h2⟩=>by
  refine⟨?_,at_mono hb h2⟩;unfold vval at h1 ⊢;by_cases ht:q.1<4294967296
  .simp only[ht,if_true]at h1 ⊢;exact hb _ _ ht h1
  .simp only[ht,if_false]at h1 ⊢;cases he:base (q.1%4294967296)with
   | none=>simp[he]at h1
   | some u=>rw[he]at h1;rw[hb _ u (Nat.mod_lt _ (by omega)) he];exact h1
 | [],_::_,h=>h.elim
 | _::_,[],h=>h.elim
def gzW:aze->Nat->Bool
 | [],_=>true
 | q::l,k=>Nat.beq q.1 k&&gzW l (k+1)
theorem qzG:∀{l:aze} {k:Nat},gzW l k=true->l.map (·.1)=List.range' k l.length
 | [],_,_=>rfl
 | q::l,k,h=>by
  simp only[gzW,Bool.and_eq_true]at h;have:=Nat.eq_of_beq_eq_true h.1;simp[List.range'_succ,this,qzG h.2]
theorem IzP (hm:P.follows .mixedOrders=true){f:Nat}{fn:Func}{c:Code}{sp:FSpec tb}(hf:P.funcs[f]?=some fn)(hbody:fn.body=some c) (hname:(fn.name == "runtime.NumGoroutine")=false)
 (hΓ:∀p∈Γ,bzU P tb p.1 p.2) (hsl:∀p∈Γ,(azD p.2.ins).map (·.1)=List.range (azD p.2.ins).length) (hb:fnB fn sp.ins sp.outs c=true) (hin:gzW (azD sp.ins) 0=true) (hout:gzW (azD sp.outs) 0=true)
 (hcut:CzJ P tb fn.ntmps (fun t=>memB t (kzQ sp.ins)=false) Δ c)
 (hJ:∀x y,sp.f x=some y->evFn P tb Γ Δ fn sp.ins sp.outs x=some y):azz P tb f sp:=by
 refine⟨enters_of hf hbody hname,fun g w x vs bs y hxy hinv ha hh hn=>?_⟩;simp only[fnB,Bool.and_eq_true]at hb;obtain⟨⟨⟨⟨⟨hd,hns⟩,hpo⟩,hnt⟩,hhg⟩,hno⟩:=hb;have hnt:=Nat.le_of_ble_eq_true hnt;have hno:=Nat.le_of_ble_eq_true hno;have hvl:=hh.length.1;have hrl:=szu (l:=sp.ins) (vs:=vs) hvl;have hin':=qzG hin;have hout':=qzG hout;refine calls_of_wp hf hbody ?_;generalize hargs:azB sp.ins vs=args at ha hrl ⊢;have hi:fzq {tmps:=args.toArray++Array.replicate (fn.ntmps-args.toArray.size) undef,defers:=([]:List Deferred)} w sp.ins vs:=by
  refine at_mono (fun t u _ hu=>?_) ha;have hlt:=(List.getElem?_eq_some_iff.1 hu).1;rw[Array.getElem?_append_left (by simpa using hlt)];simpa using hu
 have hN:(args.toArray++Array.replicate (fn.ntmps-args.toArray.size) undef).size=fn.ntmps:=by simp;omega
 have hsim:=rz6 (W:=fun t=>memB t (kzQ sp.ins)=false) hinv hh hn hns hi hN;have he:=hJ x y hxy;unfold evFn at he;rw[hbody]at he;simp only at he;refine wp_mono (mz5 hm hΓ hsl (p:=fun d=>Nat.blt d fn.ntmps&&!memB d (kzQ sp.ins)) (fun d hd=>by
  simp only[Bool.and_eq_true,Bool.not_eq_true']at hd;exact⟨Nat.le_of_ble_eq_true hd.1,hd.2⟩) c hd hcut hsim he) ?_
 rintro e a' w' ⟨ex,s',rfl,⟨g',μ,τ,hs⟩,h2⟩;have hfix:∀q∈azk sp.ins,¬memB (q.1%4294967296) (kzQ sp.ins)=false:=fun q hq=>by
  have:memB (q.1%4294967296) (kzQ sp.ins)=true:=ezb.2 (List.mem_map.2 ⟨q,hq,rfl⟩);rw[this];simp
 have hret:∀s',(∃g' μ τ,SimAt P tb fn.ntmps (fun t=>memB t (kzQ sp.ins)=false) {tmps:=args.toArray++Array.replicate (fn.ntmps-args.toArray.size) undef,defers:=([]:List Deferred)} g w (fun b=>b∈bzW sp.ins bs) s' g' μ τ a' w')->retOf P tb fn.results sp.outs (azk sp.ins) s'=some y->a'.defers=[]/\∃v,(results fn a'.tmps).run P w' = .ok v w'/\∃v2 us cs g2,Ending.returned v = .returned v2/\RetV (azD sp.outs) (azB sp.outs us) v2/\At w' (dzx (azB sp.outs us) args) sp.outs us/\Left P tb g w sp.ins sp.outs vs bs y us cs g2 w':=fun s' ⟨g',μ,τ,hs⟩ h2=>by
  unfold retOf at h2;cases hk:(bzz (idsS (vget s' (kzD P fn.results s' (azk sp.ins))) sp.outs++idsS (czz s' (azk sp.ins)) (azk sp.ins))&&Nat.beq (azD sp.outs).length fn.results.size)with
  | false=>simp[hk]at h2
  | true =>
   simp only[hk,cond_true]at h2;simp only[Bool.and_eq_true]at hk;have hol:=Nat.eq_of_beq_eq_true hk.2;split at h2
   .rename_i yo hyo;split at h2
    .rename_i z hz;simp only[sE0]at h2;subst h2;have hres:∀i v,resAt P fn.results s' i=some v->∃r,fn.results[i]?=some r/\resOf P s' r=some v:=fun i v hv=>by
      unfold resAt at hv;cases hr:fn.results[i]? with
      | none=>simp[hr]at hv
      | some r=>exact⟨r,rfl,by simpa[hr]using hv⟩
     have hsome:∀{get:Nat->Option (SV tb.T)} {l:aze} {x:XS tb l},extS P tb s' get l=some x->∀q∈l,∃v,get q.1=some v:=by
      intro get l;induction l with
      | nil=>intro x _ q hq;simp at hq
      | cons p l ih =>
       intro x hx q hq;cases l with
       | nil =>
        simp only[extS]at hx;simp at hq;subst hq;cases hg:get q.1 with
        | none=>simp[hg]at hx
        | some v=>exact⟨v,rfl⟩
       | cons p' l =>
        simp only[extS]at hx;cases hg:get p.1 with
        | none=>simp[hg]at hx
        | some v =>
         simp only[hg]at hx;cases hp:extP P tb s' p.2 v with
         | none=>simp[hp]at hx
         | some x1 =>
          simp only[hp]at hx;cases hs2:extS P tb s' get (p'::l)with
          | none=>simp[hs2]at hx
          | some xs =>
           rcases List.mem_cons.1 hq with e|hq
           .subst e;exact⟨v,hg⟩
           .exact ih hs2 q hq
     have hall:∀r∈fn.results.toList,∃v,resOf P s' r=some v:=fun r hr=>by
      obtain⟨i,hi,hri⟩:=List.getElem_of_mem hr;have hi':i<(azD sp.outs).length:=by rw[hol];simpa using hi
      have hmem:i∈(azD sp.outs).map (·.1):=by rw[hout'];simp[List.mem_range'_1,hi']
      obtain⟨q,hq,rfl⟩:=List.mem_map.1 hmem;simp only[azD,List.mem_filter]at hq;obtain⟨v,hv⟩:=hsome hyo q hq.1;have hlt:=fzo.1 hq.2;have hv:kzD P fn.results s' (azk sp.ins) q.1=some v:=by
       unfold vget at hv;rw[show Nat.blt q.1 4294967296=true from hq.2]at hv;exact hv
      unfold kzD at hv;rw[show Nat.blt q.1 32768=true from Nat.ble_eq_true_of_le (by omega)]at hv;obtain⟨r',h3,h4⟩:=hres _ _ hv;have:fn.results[q.1]?=some r:=by
       rw[<-Array.getElem?_toList,List.getElem?_eq_getElem hi,hri]
      rw[this]at h3;simp only[sE0]at h3;subst h3;exact⟨v,h4⟩
     have hrun:∀r∈fn.results.toList,(nzR a'.tmps r).run P w' = .ok (ezQ P a' w' r) w':=fun r hr=>by
      obtain⟨v,hv⟩:=hall r hr;exact(GzU hs hv).1
     obtain⟨v,hv,hrv⟩:=Lzg (P:=P) (a:=a') (w:=w') (fn:=fn) hrun hol;generalize hR:fn.results.toList.map (ezQ P a' w')=R at hrv;have hRlen:R.length=(azD sp.outs).length:=by rw[<-hR,hol];simp
     have hback:∀p v,(bif cz7 p&&memB p ((azk sp.ins).map (·.1))then czz s' (azk sp.ins) p else none)=some v->∃u,args[p]?=some u/\RepV P tb g' w' μ τ s'.tok v u:=fun p v hv=>by
      cases hc:(cz7 p&&memB p ((azk sp.ins).map (·.1)))with
      | false=>simp[hc]at hv
      | true =>
       simp only[hc,cond_true]at hv;simp only[Bool.and_eq_true]at hc;have hreal:=fzo.1 hc.1;obtain⟨u,hu,hru⟩:=zzX hs hv;rw[dz8 hreal]at hu;obtain⟨q,hq,hqt⟩:=List.mem_map.1 (ezb.1 hc.2);have hq1:q.1%4294967296=p:=by rw[hqt];exact Nat.mod_eq_of_lt hreal
       have hfr:=hs.frame p (by rw[<-hq1];exact hfix q hq);obtain⟨u',hu'⟩:=CzM ha q (nzQ q hq);rw[hqt,dz8 hreal]at hu';have hlt':=(List.getElem?_eq_some_iff.1 hu').1;rw[Array.getElem?_append_left (by simpa using hlt')]at hfr;refine⟨u,?_,hru⟩;rw[<-hu,hfr];simp
     have hbase:∀t v,t<4294967296->kzD P fn.results s' (azk sp.ins) t=some v->∃u,dzx R args t=some u/\RepV P tb g' w' μ τ s'.tok v u:=fun t v _ hv=>by
      unfold kzD at hv;unfold dzx;by_cases hlt:t<32768
      .rw[show Nat.blt t 32768=true from Nat.ble_eq_true_of_le hlt]at hv;obtain⟨r,h3,h4⟩:=hres _ _ hv;refine⟨ezQ P a' w' r,?_,(GzU hs h4).2⟩;rw[if_pos hlt,<-hR,List.getElem?_map,Array.getElem?_toList,h3];rfl
      .have:Nat.blt t 32768=false:=by
        cases hb:Nat.blt t 32768 with
        | false=>rfl
        | true=>exact absurd (Nat.le_of_ble_eq_true hb) hlt
       rw[this]at hv;simp only[cond_false]at hv;rw[if_neg hlt];exact hback (t-32768) v hv
     have hrep:∀t v,vget s' (kzD P fn.results s' (azk sp.ins)) t=some v->∃u,vval w' (dzx R args) t=some u/\RepV P tb g' w' μ τ s'.tok v u:=fun t v hv=>CzH hs hbase hv
     obtain⟨cs,hl,hbl⟩:=IzD (val:=fun i=>(vval w' (dzx R args) i).getD undef) hh hi hfix hhg hpo hs hyo (fun q hq v hv=>by
      obtain⟨u,hu,hru⟩:=hrep _ _ hv;rw[hu];exact hru) hz hk.1
     have hat:=yzr (base:=dzx R args) (fun t v hv=>by obtain⟨u,hu,_⟩:=hrep t v hv;exact⟨u,hu⟩) hbl;have hmap:azB sp.outs (sp.outs.map fun q=>(vval w' (dzx R args) q.1).getD undef)=R:=by
      rw[rzo (fun i=>(vval w' (dzx R args) i).getD undef)];have e1:((azD sp.outs).map fun q=>(vval w' (dzx R args) q.1).getD undef)=((azD sp.outs).map (·.1)).map fun i=>R.getD i undef:=by
       rw[List.map_map];refine List.map_congr_left fun q hq=>?_
       have hq1:q.1<32768:=by
        have:q.1∈(azD sp.outs).map (·.1):=List.mem_map_of_mem hq;rw[hout']at this;simp[List.mem_range'_1]at this;omega
       rw[dz8 (by omega)];simp[dzx,hq1,List.getD_eq_getElem?_getD]
      rw[e1,hout',<-hRlen];apply List.ext_getElem?;intro i;rcases Nat.lt_or_ge i R.length with c|c
      .simp[c]
      .simp[c]
     refine⟨hs.defers,v,hv,v,_,cs,g',rfl,?_,?_,hl⟩
     .rw[hmap];exact hrv
     .rw[hmap];exact hat
    .cases h2
   .cases h2
 cases ex with
 | normal=>exact hret _ (by obtain⟨g2,τ2,hs2⟩:=hs.prep (get:=vget s' (kzD P fn.results s' (azk sp.ins))) sp.outs;exact⟨g2,μ,τ2,hs2⟩) h2
 | ret=>exact hret _ (by obtain⟨g2,τ2,hs2⟩:=hs.prep (get:=vget s' (kzD P fn.results s' (azk sp.ins))) sp.outs;exact⟨g2,μ,τ2,hs2⟩) h2
 | exit id=>simp at h2
 | goto l=>simp at h2
end Go.Ev
namespace Go.Ev
open Go
open Go.IntKind (i64 u64 u8 i32 u32 i16 u16)
variable {P:Program} {tb:Tab} {N:Nat} {W:Nat->Prop}
variable {Γ:List (Nat×FSpec tb)} {Δ:List (CutSpec tb)}
theorem cuts_nil {S:Code->CutSpec tb->Prop}:∀c:Code,bz9 ([]:List (CutSpec tb)) S c:=by
 intro c;induction c with
 | seq a b iha ihb=>unfold bz9;exact⟨iha,ihb⟩
 | cond x a b iha ihb=>unfold bz9;exact⟨iha,ihb⟩
 | block id b ih=>unfold bz9;exact ih
 | scope b ih=>unfold bz9;exact ih
 | _=>unfold bz9;trivial
def cza (Δ:List (CutSpec tb))(c:Code):List (Nat×Code) :=
 match gzl Δ (qzt c)with
 | some _=>[(qzt c,c)]
 | none=>match c with
  | .seq a b=>cza Δ a++cza Δ b
  | .cond _ a b=>cza Δ a++cza Δ b
  | .block _ b=>cza Δ b
  | .scope b=>cza Δ b
  | _=>[]
theorem yzu {S:Code->CutSpec tb->Prop}:∀c:Code,(∀q∈cza Δ c,∀cut,gzl Δ q.1=some cut->S q.2 cut)->bz9 Δ S c:=by
 have hd:∀c:Code,(∀q∈cza Δ c,∀cut,gzl Δ q.1=some cut->S q.2 cut)->∀cut,gzl Δ (qzt c)=some cut->S c cut:=fun c h cut hc=>by
  have:cza Δ c=[(qzt c,c)]:=by unfold cza;rw[hc]
  exact h (qzt c,c) (by rw[this];simp) cut hc
 intro c;induction c with
 | seq a b iha ihb =>
  intro h;unfold bz9;split
  .rename_i cut hc;exact hd _ h cut hc
  .rename_i hc;unfold cza at h;rw[hc]at h;exact⟨iha fun q hq=>h q (by simp[hq]),ihb fun q hq=>h q (by simp[hq])⟩
 | cond x a b iha ihb =>
  intro h;unfold bz9;split
  .rename_i cut hc;exact hd _ h cut hc
  .rename_i hc;unfold cza at h;rw[hc]at h;exact⟨iha fun q hq=>h q (by simp[hq]),ihb fun q hq=>h q (by simp[hq])⟩
 | block id b ih =>
  intro h;unfold bz9;split
  .rename_i cut hc;exact hd _ h cut hc
  .rename_i hc;unfold cza at h;rw[hc]at h;exact ih h
 | scope b ih =>
  intro h;unfold bz9;split
  .rename_i cut hc;exact hd _ h cut hc
  .rename_i hc;unfold cza at h;rw[hc]at h;exact ih h
 | _ =>
  intro h;unfold bz9;split
  .rename_i cut hc;exact hd _ h cut hc
  .trivial
def gzx (fn:Func):Code:=match fn.body with|some c=>c|none=>.skip
def fnK (fn:Func)(ins outs:aze):Bool:=fn.body.isSome&&!(fn.name == "runtime.NumGoroutine")&&fnB fn ins outs (gzx fn)&&gzW (azD ins) 0&&gzW (azD outs) 0
def ezh (Γ:List (Nat×FSpec tb)):Bool:=Γ.all fun p=>gzW (azD p.2.ins) 0
theorem kzG (h:ezh Γ=true):∀p∈Γ,(azD p.2.ins).map (·.1)=List.range (azD p.2.ins).length:=fun p hp=>by
 rw[qzG (List.all_eq_true.1 h p hp),List.range_eq_range']
def azl (P:Program)(tb:Tab)(Γ:List (Nat×FSpec tb)):Prop:=∀p∈Γ,bzU P tb p.1 p.2
theorem azl.nil:azl P tb []:=fun _ h=>absurd h (by simp)
theorem azl.consK {f:Nat}{sp:FSpec tb}(h:bzU P tb f sp)(k:azl P tb Γ):azl P tb ((f,sp)::Γ):=fun p hp=>by
 rcases List.mem_cons.1 hp with rfl|hp
 .exact h
 .exact k p hp
theorem azl.cons {f:Nat}{sp:FSpec tb}(h:azz P tb f sp)(k:azl P tb Γ):azl P tb ((f,sp)::Γ):=.consK h.keeps k
def mutS:FSpec tb:=⟨[],[],fun _=>none⟩
theorem szp {f:Nat}:bzU P tb f (mutS (tb:=tb)):=fun _ _ _ _ _ _ h=>by simp[mutS]at h
def fzp (P:Program)(tb:Tab)(N:Nat)(ok:Nat->Bool)(Δ:List (CutSpec tb))(L:List (Nat×Code)):Prop:=∀q∈L,∀cut,gzl Δ q.1=some cut->czE P tb N q.2 cut/\cut.W.all ok=true
theorem fzp.nil {ok:Nat->Bool}:fzp P tb N ok Δ []:=fun _ h=>absurd h (by simp)
theorem fzp.cons {ok:Nat->Bool}{k:Nat}{c:Code}{L:List (Nat×Code)}{cut:CutSpec tb}(hf:gzl Δ k=some cut)(hs:czE P tb N c cut)(hW:cut.W.all ok=true)(h:fzp P tb N ok Δ L):fzp P tb N ok Δ ((k,c)::L):=fun q hq cut' hc=>by
 rcases List.mem_cons.1 hq with rfl|hq
 .rw[hf]at hc;simp only[sE0]at hc;subst hc;exact⟨hs,hW⟩
 .exact h q hq cut' hc
def findKey (k:Nat)(c:Code):Option Code :=
 bif Nat.beq (qzt c) k then some c else match c with
  | .seq a b=>match findKey k a with|some x=>some x|none=>findKey k b
  | .cond _ a b=>match findKey k a with|some x=>some x|none=>findKey k b
  | .block _ b=>findKey k b
  | .loop b=>findKey k b
  | .scope b=>findKey k b
  | _=>none
def bzX (k:Nat)(fn:Func):Code:=match findKey k (gzx fn)with|some (.loop b)=>b|_=>.skip
def iz1 (k:Nat)(fn:Func):Code:=match findKey k (gzx fn)with|some c=>c|_=>.skip
theorem fn_cut (hm:P.follows .mixedOrders=true){f:Nat}{fn:Func}{sp:FSpec tb}(hf:P.funcs[f]?=some fn)(hk:fnK fn sp.ins sp.outs=true)(hΓ:azl P tb Γ)(hsl:ezh Γ=true)
 {L:List (Nat×Code)} (hc:cza Δ (gzx fn)=L) (hL:fzp P tb fn.ntmps (fun t=>!memB t (kzQ sp.ins)) Δ L)
 (hJ:∀x,evFn P tb Γ Δ fn sp.ins sp.outs x=sp.f x):azz P tb f sp:=by
 simp only[fnK,Bool.and_eq_true,Bool.not_eq_true']at hk;obtain⟨⟨⟨⟨h1,h2⟩,h3⟩,h4⟩,h5⟩:=hk;have hb:fn.body=some (gzx fn):=by
  unfold gzx;cases hb:fn.body with
  | none=>rw[hb]at h1;cases h1
  | some c=>rfl
 refine IzP hm hf hb h2 hΓ (kzG hsl) h3 h4 h5 (yzu _ fun q hq cut hcut=>?_) fun x y h=>(hJ x).trans h
 rw[hc]at hq;obtain⟨k1,k2⟩:=hL q hq cut hcut;refine⟨k1,fun t ht=>?_⟩;have:=List.all_eq_true.1 k2 t (ezb.1 ht);simpa using this
theorem fn_ev (hm:P.follows .mixedOrders=true){f:Nat}{fn:Func}{sp:FSpec tb}(hf:P.funcs[f]?=some fn)(hk:fnK fn sp.ins sp.outs=true)(hΓ:azl P tb Γ)(hsl:ezh Γ=true)
 (hJ:∀x,evFn P tb Γ [] fn sp.ins sp.outs x=sp.f x):azz P tb f sp:=by
 simp only[fnK,Bool.and_eq_true,Bool.not_eq_true']at hk;obtain⟨⟨⟨⟨h1,h2⟩,h3⟩,h4⟩,h5⟩:=hk;have hb:fn.body=some (gzx fn):=by
  unfold gzx;cases hb:fn.body with
  | none=>rw[hb]at h1;cases h1
  | some c=>rfl
 exact IzP hm hf hb h2 hΓ (kzG hsl) h3 h4 h5 (cuts_nil _) fun x y h=>(hJ x).trans h
theorem loop_ev (hm:P.follows .mixedOrders=true){c:Code}{cut:CutSpec tb}(hb:cutB N cut c=true)(hΓ:azl P tb Γ)(hsl:ezh Γ=true)
 {L:List (Nat×Code)} (hc:cza Δ c=L) (hL:fzp P tb N (fun t=>memB t cut.W) Δ L)
 (F:(XS tb cut.ins->Option (Outs tb (azk cut.ins) cut.outs))->XS tb cut.ins->Option (Outs tb (azk cut.ins) cut.outs)) (hF:∀back x,bzI P tb Γ Δ c cut.ins cut.outs back x=F back x)
 (m:XS tb cut.ins->Nat) (hJ:∀x y,cut.J x=some y->F (fun x'=>bif Nat.blt (m x') (m x)then cut.J x' else none) x=some y):czE P tb N (.loop c) cut:=by
 refine Mze hm hΓ (kzG hsl) hb (yzu _ fun q hq cut' hcut=>?_) m fun x y h=>(hF _ x).trans (hJ x y h)
 rw[hc]at hq;obtain⟨k1,k2⟩:=hL q hq cut' hcut;exact⟨k1,fun t ht=>List.all_eq_true.1 k2 t (ezb.1 ht)⟩
theorem blk_ev (hm:P.follows .mixedOrders=true){c:Code}{cut:CutSpec tb}(hb:cutB N cut c=true)(hΓ:azl P tb Γ)(hsl:ezh Γ=true)
 {L:List (Nat×Code)} (hc:cza Δ c=L) (hL:fzp P tb N (fun t=>memB t cut.W) Δ L) (hJ:∀x,lzO P tb Γ Δ c cut.ins cut.outs x=cut.J x):czE P tb N c cut:=by
 refine blk_sound hm hΓ (kzG hsl) hb (yzu _ fun q hq cut' hcut=>?_) fun x y h=>(hJ x).trans h
 rw[hc]at hq;obtain⟨k1,k2⟩:=hL q hq cut' hcut;exact⟨k1,fun t ht=>List.all_eq_true.1 k2 t (ezb.1 ht)⟩
theorem azz.drop1 {f:Nat}{ins:aze}{q o:Nat×Pat}{l:aze}{F:XS tb ins->Option (Ret tb (q::o::l) (azk ins))}{G:XS tb ins->Option (Ret tb (o::l) (azk ins))}
 (h:azz P tb f ⟨ins,q::o::l,F⟩) (hq:cz7 q.1=false) (hG:∀x y,G x=some y->∃z,F x=some z/\y.outs=z.outs.2/\y.refs=z.refs):azz P tb f ⟨ins,o::l,G⟩:=by
 refine⟨h.1,fun g w x vs bs y hy hinv hat hh hn=>?_⟩;obtain⟨z,hz,e1,e2⟩:=hG x y hy;refine(h.2 g w x vs bs z hz hinv hat hh hn).mono ?_;rintro e w' ⟨v,us,cs,g',he,hr,ha,hx,ho,hrf,hnd,hk⟩;obtain⟨u,us',c,cs',rfl,rfl⟩:=azR ho;have r1:azD (q::o::l)=azD (o::l):=by simp[azD,List.filter_cons,hq]
 have r2:azB (q::o::l) (u::us')=azB (o::l) us':=by simp[azB,hq]
 rw[r1,r2]at hr;rw[r2]at ha;have hsub:∀k,k∈azj cs'->k∈azj (c::cs'):=fun k hk=>azq.2 (.inr hk)
 exact⟨v,us',cs',g',he,hr,ha.2,hx,by rw[e1];exact ho.2,by rw[e2];exact hrf,(ezW hnd).1,fun k hk'=>hk k (hsub k hk')⟩
end Go.Ev
namespace Go.Ev
open Go
open Go.IntKind (i64 u64 u8 i32 u32 i16 u16)
variable {P:Program} {tb:Tab}
def qzh (w w':World):Prop:=w'.os=w.os/\w'.tape=w.tape/\w'.output=w.output/\w.heap.size<=w'.heap.size/\∀b,b<w.heap.size->w'.heap[b]?=w.heap[b]?
theorem qzh.ext {w w':World}(h:qzh w w')(g:Gh)(D:Nat->Prop):Ext g w (fun b=>if b<w.heap.size then g b else .con) w' D:=by
 obtain⟨h1,h2,h3,h4,h5⟩:=h;have e:∀b,b<w.heap.size->(if b<w.heap.size then g b else BK.con)=g b:=fun b hb=>if_pos hb
 refine⟨h1,h2,h3,h4,fun b hb _=>⟨h5 b hb,e b hb⟩,fun b hb hg=>⟨h5 b hb,(e b hb).trans hg⟩,fun b n hb hg=>⟨n,Nat.le_refl _,(e b hb).trans hg,fun i _=>bzE (h5 b hb)⟩,Shp.old h5⟩
def kzm (ins outs:aze):Bool:=gzW ins 0&&gzW outs 0&&bzA ins&&bzA outs&&Nat.ble outs.length 32768
theorem Izn {w:World}:∀{l:aze} {vs:List Value} (k:Nat) {base:Nat->Option Value},gzW l k=true->bzA l=true->l.length=vs.length->(∀i,base (k+i)=vs[i]?)->At w base l vs
 | [],[],_,_,_,_,_,_=>trivial
 | q::l,v::vs,k,base,h,hr,hl,hb=>by
  simp only[gzW,Bool.and_eq_true]at h;simp only[bzA,List.all_cons,Bool.and_eq_true]at hr;have hq:=Nat.eq_of_beq_eq_true h.1;refine⟨?_,Izn (k+1) h.2 hr.2 (by simpa using hl) fun i=>?_⟩
  .rw[dz8 (fzo.1 hr.1),hq];have:=hb 0;simpa using this
  .have:=hb (i+1);rw[show k+(i+1)=k+1+i by omega]at this;simpa using this
 | [],_::_,_,_,_,_,h,_=>by simp at h
 | _::_,[],_,_,_,_,h,_=>by simp at h
theorem szt {ins outs:aze}{vs:List Value}(h:kzm ins outs=true)(hl:ins.length=vs.length):azB ins vs=vs:=by
 simp only[kzm,Bool.and_eq_true]at h;exact nzu h.1.1.2 hl
theorem plain_at {w:World}{ins outs:aze}{vs:List Value}(h:kzm ins outs=true)(hl:ins.length=vs.length):At w (fun i=>(azB ins vs)[i]?) ins vs:=by
 rw[szt h hl];simp only[kzm,Bool.and_eq_true]at h;exact Izn 0 h.1.1.1.1 h.1.1.2 hl fun i=>by simp
theorem izR {ins outs:aze}{us:List Value}(h:kzm ins outs=true)(hl:outs.length=us.length):azD outs=outs/\azB outs us=us:=by
 simp only[kzm,Bool.and_eq_true]at h;exact⟨xzC h.1.2,nzu h.1.2 hl⟩
theorem xzA {w:World}{ins outs:aze}{us args:List Value}(h:kzm ins outs=true)(hl:outs.length=us.length):At w (dzx (azB outs us) args) outs us:=by
 rw[(izR h hl).2];have h':=h;simp only[kzm,Bool.and_eq_true]at h;have hle:=Nat.le_of_ble_eq_true h.2;have key:∀{l:aze} {vs:List Value} (k:Nat),gzW l k=true->bzA l=true->l.length=vs.length->(∀i,i<vs.length->us[k+i]?=vs[i]?)->k+vs.length<=32768->At w (dzx us args) l vs:=by
  intro l;induction l with
  | nil=>intro vs k _ _ hl _ _;cases vs with
   | nil=>trivial
   | cons _ _=>simp at hl
  | cons q l ih =>
   intro vs k h hr hl hb hk;cases vs with
   | nil=>simp at hl
   | cons v vs =>
    simp only[gzW,Bool.and_eq_true]at h;simp only[bzA,List.all_cons,Bool.and_eq_true]at hr;simp only[List.length_cons]at hk;have hq:=Nat.eq_of_beq_eq_true h.1;refine⟨?_,ih (k+1) h.2 hr.2 (by simpa using hl) (fun i hi=>?_) (by omega)⟩
    .rw[dz8 (fzo.1 hr.1),hq];have:=hb 0 (by simp);simp only[dzx,show k<32768 by omega,if_true];simpa using this
    .have:=hb (i+1) (by simpa using hi);rw[show k+(i+1)=k+1+i by omega]at this;simpa using this
 exact key 0 h.1.1.1.2 h.1.2 hl (fun i _=>by simp) (by omega)
theorem szW {α:Type}:∀(l:aze) (us:List α),azk l=[]->l.length=us.length->az8 l us=[]
 | [],us,_,_=>rfl
 | q::l,[],_,hl=>by simp at hl
 | q::l,u::us,hr,hl=>by
  simp only[azk]at hr;cases hq:q.2.isRef with
  | true=>simp[hq]at hr
  | false =>
   simp only[hq,cond_false]at hr;simp only[az8,hq,cond_false];exact szW l us hr (by simpa using hl)
theorem wzP {α:Type}(us:List α):azj (us.map fun _=>(none:Option Nat))=[]:=by induction us<;>simp_all [azj]
theorem DzL {w w':World}{g:Gh}{sp:FSpec tb}{x:XS tb sp.ins}{vs:List Value}{bs:List (Option Nat)}{y:Ret tb sp.outs (azk sp.ins)}{us:List Value}(hin:azk sp.ins=[])(hh:az1 P tb g w sp.ins x vs bs)(hg:qzh w w')
 (hv:∀g w,az1 P tb g w sp.outs y.outs us (us.map fun _=>none)):∃g',Left P tb g w sp.ins sp.outs vs bs y us (us.map fun _=>none) g' w':=by
 refine⟨_,hg.ext g _,hv _ _,?_,by rw[wzP];exact List.nodup_nil,by rw[wzP];simp⟩;rw[szW _ _ hin hh.length.1,szW _ _ hin hh.length.2];generalize y.refs=z;revert z;rw[hin];intro z;trivial
theorem yzD {f:Nat}{sp:FSpec tb}(hent:tzj P f)(hin:azk sp.ins=[])
 (h:∀(g:Gh) (w:World) (x:XS tb sp.ins) (vs:List Value) (bs:List (Option Nat)) (y:Ret tb sp.outs (azk sp.ins)),sp.f x=some y->tb.inv g w->az1 P tb g w sp.ins x vs bs ->
  ∃v us,RetV sp.outs us v/\(∀g w,az1 P tb g w sp.outs y.outs us (us.map fun _=>none))/\Calls P f vs.toArray w fun r w'=>r = .returned v/\qzh w w') (hpl:kzm sp.ins sp.outs=true:=by rfl):azz P tb f sp:=by
 refine⟨hent,fun g w x vs bs y hy hinv _ hh _=>?_⟩;obtain⟨v,us,hr,hv,hc⟩:=h g w x vs bs y hy hinv hh;rw[szt hpl hh.length.1];refine Calls.mono hc ?_;rintro r w' ⟨rfl,hg⟩;obtain⟨g',hl⟩:=DzL hin hh hg hv;have hol:=(hv g w).length.1;exact⟨v,us,_,g',rfl,by rw[(izR hpl hol).1,(izR hpl hol).2];exact hr,xzA hpl hol,hl⟩
theorem qzh.refl (w:World):qzh w w:=⟨rfl,rfl,rfl,Nat.le_refl _,fun _ _=>rfl⟩
theorem uzC {f:Nat}{sp:FSpec tb}(hin:azk sp.ins=[])
 (h:∀(g:Gh) (w:World) (x:XS tb sp.ins) (vs:List Value) (bs:List (Option Nat)) (y:Ret tb sp.outs (azk sp.ins)),sp.f x=some y->tb.inv g w->az1 P tb g w sp.ins x vs bs ->
  ∃v us,RetV sp.outs us v/\(∀g w,az1 P tb g w sp.outs y.outs us (us.map fun _=>none))/\(callFunc f vs.toArray).run P w = .ok (.value v) w) (hpl:kzm sp.ins sp.outs=true:=by rfl):bzU P tb f sp:=by
 intro g w x vs bs y hy hinv _ hh _;obtain⟨v,us,hr,hv,hc⟩:=h g w x vs bs y hy hinv hh;obtain⟨g',hl⟩:=DzL hin hh (qzh.refl w) hv;have hol:=(hv g w).length.1;rw[szt hpl hh.length.1];exact .inr ⟨v,w,hc,v,us,_,g',rfl,by rw[(izR hpl hol).1,(izR hpl hol).2];exact hr,xzA hpl hol,hl⟩
theorem dzK {g:Gh}{w:World}{e:Nat}{x:tb.T e}{v:Value}{k:IntKind}{n:Int}(ha:azI P e=false)(he:tb.enc e x=[.int k n])(h:azT P tb g w e x v):v = .int k n/\inR k n:=by
 unfold azT at h;simp only[ha,Bool.false_eq_true,if_false]at h;obtain⟨c,hc,hd⟩:=h;rw[he]at hc;simp only[List.cons.injEq,and_true]at hc;subst hc;cases hd;exact⟨rfl,by assumption⟩
theorem gzm {g:Gh}{w:World}{e:Nat}{x:tb.T e}{k:IntKind}{n:Int}(ha:azI P e=false)(he:tb.enc e x=[.int k n])(h:inR k n):azT P tb g w e x (.int k n):=by
 unfold azT;simp only[ha,Bool.false_eq_true,if_false];exact⟨_,he,.int k n h⟩
theorem uzE {g:Gh}{w:World}{e:Nat}{x:tb.T e}{v:Value}{s:List UInt8}(ha:azI P e=false)(he:tb.enc e x=[.str s])(h:azT P tb g w e x v):v = .string ⟨s.toArray⟩/\s.length<=az6:=by
 unfold azT at h;simp only[ha,Bool.false_eq_true,if_false]at h;obtain⟨c,hc,hd⟩:=h;rw[he]at hc;simp only[List.cons.injEq,and_true]at hc;subst hc;cases hd;exact⟨rfl,by assumption⟩
theorem vzJ {g:Gh}{w:World}{e:Nat}{x:tb.T e}{s:List UInt8}(ha:azI P e=false)(he:tb.enc e x=[.str s])(h:s.length<=az6):azT P tb g w e x (.string ⟨s.toArray⟩):=by
 unfold azT;simp only[ha,Bool.false_eq_true,if_false];exact⟨_,he,.str s h⟩
theorem FzF {g:Gh}{w:World}{e:Nat}{x:tb.T e}{b:Bool}(ha:azI P e=false)(he:tb.enc e x=[.bool b]):azT P tb g w e x (.bool b):=by
 unfold azT;simp only[ha,Bool.false_eq_true,if_false];exact⟨_,he,.bool b⟩
def TabAt (P:Program)(name:String)(k:IntKind)(zs:List Int)(g:Gh)(w:World):Prop:=∃b,P.globalNamed name=some b/\g b = .con/\Lib.TabIs P w name k zs
theorem TabAt.ext {name:String}{k:IntKind}{zs:List Int}{g g':Gh}{w w':World}{D:Nat->Prop}(he:Ext g w g' w' D)(h:TabAt P name k zs g w):TabAt P name k zs g' w':=by
 obtain⟨b,h1,h2,h3⟩:=h;have hb:b<w.heap.size:=by
  unfold Lib.TabIs World.var? at h3;rw[h1]at h3;simp only[Option.bind_some]at h3;cases hw:w.heap[b]? with
  | none=>rw[hw]at h3;cases h3
  | some o=>exact(Array.getElem?_eq_some_iff.1 hw).1
 obtain⟨e1,e2⟩:=he.con b hb h2;refine⟨b,h1,e2,?_⟩;unfold Lib.TabIs World.var? at h3 ⊢;rw[h1]at h3 ⊢;simp only[Option.bind_some]at h3 ⊢;rw[e1];exact h3
end Go.Ev
namespace Go.Ev
open Go
open Go.IntKind (i64 u64 u8 i32 u32 i16 u16)
end Go.Ev
namespace Go.Ev
open Go
open Go.IntKind (i64 u64 u8 i32 u32 i16 u16)
def iter {X Y:Type}(F:(X->Option Y)->X->Option Y)(n:Nat):X->Option Y:=Nat.rec (fun _=>none) (fun _ r=>F r) n
theorem mzK {X Y:Type}(F:(X->Option Y)->X->Option Y)(x:X):iter F 0 x=none:=rfl
theorem azF {X Y:Type}(F:(X->Option Y)->X->Option Y)(n:Nat)(x:X):iter F (n+1) x=F (iter F n) x:=rfl
def big:Nat:=9223372036854775808
theorem czd:big=9223372036854775807+1:=rfl
attribute [irreducible] iter big
def Mono {X Y:Type}(F:(X->Option Y)->X->Option Y):Prop:=∀(r r':X->Option Y),(∀x y,r x=some y->r' x=some y)->∀x y,F r x=some y->F r' x=some y
theorem szi {X Y:Type}{F:(X->Option Y)->X->Option Y}(hF:Mono F):∀(n m:Nat),n<=m->∀x y,iter F n x=some y->iter F m x=some y
 | 0,_,_,x,y,h=>by rw[mzK]at h;cases h
 | n+1,0,h0,_,_,_=>by omega
 | n+1,m+1,h0,x,y,h=>by
  rw[azF]at h ⊢;exact hF _ _ (szi hF n m (by omega)) x y h
theorem iter_of {X Y:Type}{F:(X->Option Y)->X->Option Y}(m:X->Nat)(Pre:X->Prop)(spec:X->Y)
 (h:∀back x,Pre x->(∀x',Pre x'->m x'<m x->back x'=some (spec x'))->F back x=some (spec x)):∀n x,Pre x->m x<n->iter F n x=some (spec x)
 | 0,_,_,h0=>by omega
 | n+1,x,hp,hn=>by
  rw[azF];exact h _ x hp fun x' hp' hm=>iter_of m Pre spec h n x' hp' (by omega)
theorem ozv {X Y:Type}{F:(X->Option Y)->X->Option Y}(m:X->Nat)(Pre:X->Prop)(spec:X->Y)
 (h:∀back x,Pre x->(∀x',Pre x'->m x'<m x->back x'=some (spec x'))->F back x=some (spec x)) (x:X) (hp:Pre x) (hm:m x<9223372036854775808):iter F big x=some (spec x) :=
 iter_of m Pre spec h _ x hp (by rw[czd];omega)
variable {P:Program} {tb:Tab} {N:Nat} {Γ:List (Nat×FSpec tb)} {Δ:List (CutSpec tb)}
theorem KzK {body:Code}{ins:aze}{outs:List (Ex×aze)}:Mono (bzI P tb Γ Δ body ins outs):=fun r r' hr x y h=>by
 unfold bzI at h ⊢;refine KzG _ _ (fun ex s y h2=>?_) h;cases ex with
 | normal =>
  simp only at h2 ⊢;cases hx:extS P tb s (czz s (azk ins)) ins with
  | none=>simp[hx]at h2
  | some x' =>
   simp only[hx]at h2 ⊢;cases hk:bzz (idsS (czz s (azk ins)) ins)with
   | false=>simp[hk]at h2
   | true =>
    simp only[hk,cond_true]at h2 ⊢;exact hr x' y h2
 | _=>exact h2
theorem loop_it (hm:P.follows .mixedOrders=true){c:Code}{cut:CutSpec tb}(hb:cutB N cut c=true)(hΓ:azl P tb Γ)(hsl:ezh Γ=true)
 {L:List (Nat×Code)} (hc:cza Δ c=L) (hL:fzp P tb N (fun t=>memB t cut.W) Δ L)
 (F:(XS tb cut.ins->Option (Outs tb (azk cut.ins) cut.outs))->XS tb cut.ins->Option (Outs tb (azk cut.ins) cut.outs)) (hF:∀back x,bzI P tb Γ Δ c cut.ins cut.outs back x=F back x)
 (hJ:cut.J=iter F big):czE P tb N (.loop c) cut:=by
 have hmono:Mono F:=by
  have e:(fun back x=>bzI P tb Γ Δ c cut.ins cut.outs back x)=F:=by funext back x;exact hF back x
  rw[<-e];exact KzK
 classical
 have hex:∀x y,iter F big x=some y->∃n,iter F n x=some y/\∀k,(∃z,iter F k x=some z)->n<=k:=fun x y h=>by
  have key:∀n y,iter F n x=some y->∃n',n'<=n/\iter F n' x=some y/\∀k,(∃z,iter F k x=some z)->n'<=k:=by
   intro n;induction n using Nat.strongRecOn with
   | _ n ih =>
    intro y hy;by_cases hk:∃k,k<n/\∃z,iter F k x=some z
    .obtain⟨k,hk,z,hz⟩:=hk;have:=szi hmono k n (by omega) x z hz;rw[hy]at this;simp only[sE0]at this;subst this;obtain⟨n',h1,h2,h3⟩:=ih k hk y hz;exact⟨n',by omega,h2,h3⟩
    .exact⟨n,Nat.le_refl _,hy,fun k hz=>Nat.le_of_not_lt fun hlt=>hk ⟨k,hlt,hz⟩⟩
  obtain⟨n,_,h1,h2⟩:=key big y h;exact⟨n,h1,h2⟩
 let m:XS tb cut.ins->Nat:=fun x=>if h:∃n,(∃y,iter F n x=some y)/\∀k,(∃z,iter F k x=some z)->n<=k then Classical.choose h else 0
 have hmv:∀x n y,iter F n x=some y->(∃z,iter F (m x) x=some z)/\m x<=n:=fun x n y h=>by
  have h0:∃n,(∃y,iter F n x=some y)/\∀k,(∃z,iter F k x=some z)->n<=k:=by
   have key:∀n y,iter F n x=some y->∃n',(∃y,iter F n' x=some y)/\∀k,(∃z,iter F k x=some z)->n'<=k:=by
    intro n;induction n using Nat.strongRecOn with
    | _ n ih =>
     intro y hy;by_cases hk:∃k,k<n/\∃z,iter F k x=some z
     .obtain⟨k,hk,z,hz⟩:=hk;exact ih k hk z hz
     .exact⟨n,⟨y,hy⟩,fun k hz=>Nat.le_of_not_lt fun hlt=>hk ⟨k,hlt,hz⟩⟩
   exact key n y h
  have:=Classical.choose_spec h0;simp only[m,h0,dite_true];exact⟨this.1,this.2 n ⟨y,h⟩⟩
 refine loop_ev hm hb hΓ hsl hc hL F hF m fun x y hxy=>?_
 rw[hJ]at hxy;obtain⟨⟨z,hz⟩,hle⟩:=hmv x big y hxy;have:=szi hmono _ _ hle x z hz;rw[hxy]at this;simp only[sE0]at this;subst this;cases hn:m x with
 | zero=>rw[hn,mzK]at hz;cases hz
 | succ n =>
  rw[hn,azF]at hz;refine hmono _ _ (fun x' y' h'=>?_) x y hz;obtain⟨_,hle'⟩:=hmv x' n y' h';have hb':Nat.blt (m x') (n+1)=true:=Nat.ble_eq_true_of_le (by omega);simp only[hb',cond_true];rw[hJ];exact szi hmono n big (by omega) x' y' h'
theorem szc {f:Nat}{ins outs:aze}{F:(XS tb ins->Option (Ret tb outs (azk ins)))->XS tb ins->Option (Ret tb outs (azk ins))}(hent:tzj P f)
 (h:∀self,azz P tb f ⟨ins,outs,self⟩->azz P tb f ⟨ins,outs,F self⟩):azz P tb f ⟨ins,outs,iter F big⟩:=by
 have key:∀n,azz P tb f ⟨ins,outs,iter F n⟩:=fun n=>by
  induction n with
  | zero=>exact⟨hent,fun g w x vs bs y hy=>by simp only[mzK]at hy;cases hy⟩
  | succ n ih =>
   have e:iter F (n+1)=F (iter F n):=by funext x;exact azF F n x
   rw[e];exact h _ ih
 exact key big
theorem fzj {f:Nat}{fn:Func}(hf:P.funcs[f]?=some fn) (h:(fn.body.isSome&&!(fn.name == "runtime.NumGoroutine"))=true):tzj P f:=by
 simp only[Bool.and_eq_true,Bool.not_eq_true']at h;cases hb:fn.body with
 | none=>rw[hb]at h;cases h.1
 | some c=>exact enters_of hf hb h.2
theorem EzU {f:Nat}{ins outs:aze}(hent:tzj P f):azz P tb f ⟨ins,outs,fun _=>none⟩:=⟨hent,fun _ _ _ _ _ _ hy=>by cases hy⟩
end Go.Ev
namespace Go.Ev
open Go
open Go.IntKind (i64 u64 u8 i32 u32 i16 u16)
variable {P:Program} {tb:Tab} {N:Nat} {W:Nat->Prop} {a0:Act} {g0:Gh} {w0:World} {D0:Nat->Prop}
variable {s s' s1 s2:St tb.T} {g g':Gh} {μ μ':Nat->Nat} {τ τ':Nat->Option Nat} {a a':Act} {w w':World}
variable {Γ:List (Nat×FSpec tb)} {Δ:List (CutSpec tb)} {Λ:List (Nat×CutSpec tb)} {R:Type}
def Into (I:Nat->Act->World->Prop)(Q:Exit->Act->World->Prop):Exit->Act->World->Prop
 | .goto l,a,w=>I l a w
 | e,a,w=>Q e a w
def From (P:Program)(b:Code)(l:Nat)(Q:Exit->Act->World->Prop)(a:Act)(w:World):Prop:=∀I:Nat->Act->World->Prop,(∀l rest a w,findLabel b l=some rest->rest.wp P (Into I Q) a w->I l a w)->I l a w
theorem From.mk {b rest:Code}{l:Nat}{Q:Exit->Act->World->Prop}(hf:findLabel b l=some rest)(h:rest.wp P (Into (fun l=>From P b l Q) Q) a w):From P b l Q a w:=fun I hI =>
 hI l rest a w hf (wp_mono h fun e a w hq=>by cases e<;>first|exact hq I hI|exact hq)
theorem From.mono {b:Code}{l:Nat}{Q Q':Exit->Act->World->Prop}(h:From P b l Q a w)(hq:∀e a w,Q e a w->Q' e a w):From P b l Q' a w :=
 h (fun l=>From P b l Q') fun l rest a w hf hr=>From.mk hf (wp_mono hr fun e a w h'=>by cases e<;>first|exact h'|exact hq _ _ _ h')
theorem Into.mono {b:Code}{Q Q':Exit->Act->World->Prop}{e:Exit}{a:Act}{w:World}(h:Into (fun l=>From P b l Q) Q e a w)(hq:∀e a w,Q e a w->Q' e a w):Into (fun l=>From P b l Q') Q' e a w:=by
 cases e with
 | goto l=>exact From.mono h hq
 | _=>exact hq _ _ _ h
theorem Ize {c:Code}{Q:Exit->Act->World->Prop}(first:c.wp P (Into (fun l=>From P c l Q) Q) a w):(Code.scope c).wp P Q a w:=by
 intro b k cs;have hg:∀l rest,findLabel c l=some rest->gotoIn l (.inScope c::k)=some (.code rest :: .inScope c::k):=fun l rest hf=>by simp[gotoIn,hf]
 have key:∀l a w,From P c l Q a w->∃rest,findLabel c l=some rest/\∃e a' w',Q e a' w'/\Arrives P (lone (b.at a (.code rest :: .inScope c::k)) cs w) b k cs e a' w':=fun l a w h=>by
  refine h (fun l a w=>∃rest,findLabel c l=some rest/\∃e a' w',Q e a' w'/\Arrives P (lone (b.at a (.code rest :: .inScope c::k)) cs w) b k cs e a' w') fun l rest a w hf hr=>⟨rest,hf,?_⟩
  obtain⟨e,a₁,w₁,hq,harr⟩:=hr b (.inScope c::k) cs;cases e with
  | normal=>exact⟨.normal,a₁,w₁,hq,Steps.trans harr (.one step_inScope)⟩
  | exit id=>exact⟨.exit id,a₁,w₁,hq,fun k' hk=>harr k' (by simp[exitTo,hk])⟩
  | goto l' =>
   obtain⟨rest',hf',e₂,a₂,w₂,hq₂,harr₂⟩:=hq;exact⟨e₂,a₂,w₂,hq₂,.of_steps (harr _ (hg l' rest' hf')) harr₂⟩
  | ret=>exact⟨_,a₁,w₁,hq,harr⟩
  | panic ch=>exact⟨_,a₁,w₁,hq,harr⟩
  | outgrown=>exact⟨_,a₁,w₁,hq,harr⟩
 obtain⟨e,a₁,w₁,hq,harr⟩:=first b (.inScope c::k) cs
 cases e with
 | normal=>exact⟨.normal,a₁,w₁,hq,.head step_scope (Steps.trans harr (.one step_inScope))⟩
 | exit id=>exact⟨.exit id,a₁,w₁,hq,fun k' hk=>.head step_scope (harr k' (by simp[exitTo,hk]))⟩
 | goto l' =>
  obtain⟨rest',hf',e₂,a₂,w₂,hq₂,harr₂⟩:=key _ a₁ w₁ hq;exact⟨e₂,a₂,w₂,hq₂,.of_steps (.head step_scope (harr _ (hg l' rest' hf'))) harr₂⟩
 | ret=>exact⟨_,a₁,w₁,hq,.of_steps (.one step_scope) harr⟩
 | panic ch=>exact⟨_,a₁,w₁,hq,.of_steps (.one step_scope) harr⟩
 | outgrown=>exact⟨_,a₁,w₁,hq,.of_steps (.one step_scope) harr⟩
def ezi (P:Program)(tb:Tab)(N:Nat)(b:Code)(l:Nat)(cut:CutSpec tb):Prop:=wzM P tb N (From P b l) cut
def rzc:List (Nat×CutSpec tb)->Nat->Option (CutSpec tb)
 | [],_=>none
 | p::Λ,l=>bif Nat.beq p.1 l then some p.2 else rzc Λ l
def mz7 (P:Program)(tb:Tab)(Λ:List (Nat×CutSpec tb))(κ:Ex->St tb.T->Option R)(ex:Ex)(s:St tb.T):Option R :=
 match ex with
 | .goto l=>match rzc Λ l with
  | some cut=>mz6 P tb cut s κ
  | none=>none
 | ex=>κ ex s
theorem evJump_k {κ:Ex->St tb.T->Option R}{ex:Ex}:mz7 P tb Λ κ ex s=obnd (mz7 P tb Λ (fun ex s=>some (ex,s)) ex s) fun p=>κ p.1 p.2:=by
 cases ex with
 | goto l =>
  simp only[mz7];split
  .exact Fzp
  .rfl
 | _=>rfl
noncomputable def yzA (P:Program)(tb:Tab)(Γ:List (Nat×FSpec tb))(Δ:List (CutSpec tb))(Λ:List (Nat×CutSpec tb))(c:Code)(ins:aze)(outs:List (Ex×aze))(x:XS tb ins):Option (Outs tb (azk ins) outs):=bzm P tb Γ Δ c (uzl P tb ins x) (mz7 P tb Λ fun ex s=>ozp P tb (azk ins) ex s outs)
def izz (P:Program)(tb:Tab)(N:Nat)(ok:Nat->Bool)(b:Code)(Λ:List (Nat×CutSpec tb)):Prop:=∀p∈Λ,ezi P tb N b p.1 p.2/\p.2.W.all ok=true
theorem izz.nil {ok:Nat->Bool}{b:Code}:izz P tb N ok b []:=fun _ h=>absurd h (by simp)
theorem izz.cons {ok:Nat->Bool}{b:Code}{l:Nat}{cut:CutSpec tb}(hs:ezi P tb N b l cut)(hW:cut.W.all ok=true)(h:izz P tb N ok b Λ):izz P tb N ok b ((l,cut)::Λ):=fun p hp=>by
 rcases List.mem_cons.1 hp with rfl|hp
 .exact⟨hs,hW⟩
 .exact h p hp
theorem Dzv {l:Nat}{cut:CutSpec tb}:∀{Λ:List (Nat×CutSpec tb)},rzc Λ l=some cut->(l,cut)∈Λ
 | [],h=>by simp[rzc]at h
 | p::Λ,h=>by
  simp only[rzc]at h;cases hb:Nat.beq p.1 l with
  | true =>
   simp only[hb,cond_true,sE0]at h;have:=Nat.eq_of_beq_eq_true hb;subst this;subst h;exact List.mem_cons_self ..
  | false =>
   simp only[hb,cond_false]at h;exact List.mem_cons_of_mem _ (Dzv h)
theorem Lz3 {b:Code}{ex ex2:Ex}(hΛ:∀l cut,rzc Λ l=some cut->ezi P tb N b l cut/\∀t,memB t cut.W=true->W t)(h:Sim P tb N W a0 g0 w0 D0 s a w)
 (he:mz7 P tb Λ (fun ex s=>some (ex,s)) ex s=some (ex2,s2)) :
 Into (fun l=>From P b l fun e a w=>e=ex2.toExit/\Sim P tb N W a0 g0 w0 D0 s2 a w) (fun e a w=>e=ex2.toExit/\Sim P tb N W a0 g0 w0 D0 s2 a w) ex.toExit a w:=by
 cases ex with
 | goto l =>
  simp only[mz7]at he;split at he
  .rename_i cut hl;obtain⟨k1,k2⟩:=hΛ l cut hl;obtain⟨g,μ,τ,h⟩:=h;exact wzX (Z:=From P b l) (fun h hq=>h.mono hq) k1 k2 h he
  .cases he
 | exit id=>simp only[mz7,sE0,Prod.mk.injEq]at he;obtain⟨rfl,rfl⟩:=he;exact⟨rfl,h⟩
 | normal=>simp only[mz7,sE0,Prod.mk.injEq]at he;obtain⟨rfl,rfl⟩:=he;exact⟨rfl,h⟩
 | ret=>simp only[mz7,sE0,Prod.mk.injEq]at he;obtain⟨rfl,rfl⟩:=he;exact⟨rfl,h⟩
theorem EzM (hm:P.follows .mixedOrders=true){c b:Code}{cut:CutSpec tb}(hb:cutB N cut c=true)(hΓ:azl P tb Γ)(hsl:ezh Γ=true)
 {L:List (Nat×Code)} (hc:cza Δ c=L) (hL:fzp P tb N (fun t=>memB t cut.W) Δ L) (hΛ:izz P tb N (fun t=>memB t cut.W) b Λ) (hJ:∀x,yzA P tb Γ Δ Λ c cut.ins cut.outs x=cut.J x)
 {Z:(Exit->Act->World->Prop)->Act->World->Prop} (hmono:∀{Q Q':Exit->Act->World->Prop} {a:Act} {w:World},Z Q a w->(∀e a w,Q e a w->Q' e a w)->Z Q' a w)
 (hZ:∀{Q:Exit->Act->World->Prop} {a:Act} {w:World},c.wp P (Into (fun l=>From P b l Q) Q) a w->Z Q a w):wzM P tb N Z cut:=by
 simp only[cutB,Bool.and_eq_true]at hb;obtain⟨⟨⟨⟨hd,hns⟩,hrs⟩,hpo⟩,hhg⟩:=hb;intro g w a x vs bs y hxy hinv hN hi hh hn;have hsim:=rz6 (W:=fun t=>memB t cut.W=true) hinv hh hn hns hi hN;have he:=(hJ x).trans hxy;unfold yzA at he;have hcut:CzJ P tb N (fun t=>memB t cut.W=true) Δ c:=yzu _ fun q hq cut' hcut=>by
  rw[hc]at hq;obtain⟨k1,k2⟩:=hL q hq cut' hcut;exact⟨k1,fun t ht=>List.all_eq_true.1 k2 t (ezb.1 ht)⟩
 have hlab:∀l cut',rzc Λ l=some cut'->ezi P tb N b l cut'/\∀t,memB t cut'.W=true->memB t cut.W=true:=fun l cut' hl=>by
  obtain⟨k1,k2⟩:=hΛ _ (Dzv hl);exact⟨k1,fun t ht=>List.all_eq_true.1 k2 t (ezb.1 ht)⟩
 refine hmono (hZ (Q:=fun e a' w'=>∃ex2 s2,e=ex2.toExit/\Sim P tb N (fun t=>memB t cut.W=true) a g w (fun b=>b∈bzW cut.ins bs) s2 a' w'/\ozp P tb (azk cut.ins) ex2 s2 cut.outs=some y) (wp_mono (mz5 hm hΓ (kzG hsl) (p:=fun d=>Nat.blt d N&&memB d cut.W) (fun d hd=>by
  simp only[Bool.and_eq_true]at hd;exact⟨Nat.le_of_ble_eq_true hd.1,hd.2⟩) c hd hcut hsim he) ?_)) ?_
 .rintro e a' w' ⟨ex,s1,rfl,hs,h2⟩;rw[evJump_k]at h2;obtain⟨⟨ex2,s2⟩,h2,h3⟩:=azu.1 h2;exact Into.mono (Lz3 hlab hs h2) fun e a w h=>⟨ex2,s2,h.1,h.2,h3⟩
 .rintro e a' w' ⟨ex2,s2,rfl,⟨g',μ,τ,hs⟩,h3⟩;refine pzM (P:=P) h3 ?_;rintro l0 o ho rfl y' z hy' hz hn';obtain⟨gq,τq,hs⟩:=hs.prep (get:=vget s2 s2.env) l0;refine⟨rfl,Fze hh hi (fun q hq=>?_) hhg ?_ hs hy' hz hn'⟩
  .have:=List.all_eq_true.1 hrs q hq;simpa using this
  .exact List.all_eq_true.1 hpo o ho
theorem scope_ev (hm:P.follows .mixedOrders=true){b:Code}{cut:CutSpec tb}(hb:cutB N cut b=true)(hΓ:azl P tb Γ)(hsl:ezh Γ=true)
 {L:List (Nat×Code)} (hc:cza Δ b=L) (hL:fzp P tb N (fun t=>memB t cut.W) Δ L) (hΛ:izz P tb N (fun t=>memB t cut.W) b Λ) (hJ:∀x,yzA P tb Γ Δ Λ b cut.ins cut.outs x=cut.J x):czE P tb N (.scope b) cut :=
 EzM hm hb hΓ hsl hc hL hΛ hJ (Z:=(Code.scope b).wp P) (fun h hq=>wp_mono h hq) fun h=>Ize h
theorem label_ev (hm:P.follows .mixedOrders=true){b c:Code}{l:Nat}{cut:CutSpec tb}(hf:findLabel b l=some c)(hb:cutB N cut c=true)(hΓ:azl P tb Γ)(hsl:ezh Γ=true)
 {L:List (Nat×Code)} (hc:cza Δ c=L) (hL:fzp P tb N (fun t=>memB t cut.W) Δ L) (hΛ:izz P tb N (fun t=>memB t cut.W) b Λ) (hJ:∀x,yzA P tb Γ Δ Λ c cut.ins cut.outs x=cut.J x):ezi P tb N b l cut :=
 EzM hm hb hΓ hsl hc hL hΛ hJ (Z:=From P b l) (fun h hq=>h.mono hq) fun h=>From.mk hf h
theorem label_it {b:Code}{l key:Nat}{ins:aze}{outs:List (Ex×aze)}{Wl:List Nat}{F:(XS tb ins->Option (Outs tb (azk ins) outs))->XS tb ins->Option (Outs tb (azk ins) outs)}
 (h:∀self,ezi P tb N b l ⟨key,ins,outs,Wl,self⟩->ezi P tb N b l ⟨key,ins,outs,Wl,F self⟩):ezi P tb N b l ⟨key,ins,outs,Wl,iter F big⟩:=by
 have k:∀n,ezi P tb N b l ⟨key,ins,outs,Wl,iter F n⟩:=fun n=>by
  induction n with
  | zero=>intro g w a x vs bs y hy;simp only[mzK]at hy;cases hy
  | succ n ih =>
   have e:iter F (n+1)=F (iter F n):=by funext x;exact azF F n x
   rw[e];exact h _ ih
 exact k big
def yzN (k:Nat)(fn:Func):Code:=match findKey k (gzx fn)with|some (.scope b)=>b|_=>.skip
def restAt (b:Code)(l:Nat):Code:=match findLabel b l with|some c=>c|none=>.skip
end Go.Ev
namespace Go.Ev
open Go
open Go.IntKind (i64 u64 u8 i32 u32 i16 u16)
variable {T:Nat->Type}
@[reducible] def U8s (l:List UInt8):List UInt8:=l
def dbnd {α β:Type}(x:Option α)(f:α->Option β):Option β:=match x with|some a=>f a|none=>none
theorem azd {α β:Type}{x:Option α}{f:α->Option β}{r:β}(h:dbnd x f=some r):∃a,x=some a/\f a=some r:=by
 cases x with
 | none=>cases h
 | some a=>exact⟨a,rfl,h⟩
def dI (k:IntKind):CV T->Option Int
 | .int k' x=>bif decide (k'=k)then some x else none
 | _=>none
def dB:CV T->Option Bool
 | .bool x=>some x
 | _=>none
def dU:CV T->Option UInt8
 | .int k x=>bif decide (k = .u8)then some (UInt8.ofNat x.toNat)else none
 | _=>none
def dS:CV T->Option (List UInt8)
 | .str x=>some x
 | _=>none
def asSl (e:Nat)(c:CV T):Option (List (T e)):=match c with
 | .nil=>some []
 | .sl e' xs=>if h:e'=e then some (h▸xs)else none
 | _=>none
theorem azs {k:IntKind}{c:CV T}{x:Int}(h:dI k c=some x):CV.le c (.int k x):=by
 cases c<;>simp only[dI,reduceCtorEq]at h;rename_i k' y;cases hk:decide (k'=k)with
 | false=>simp[hk]at h
 | true=>simp only[hk,cond_true,sE0]at h;subst h;have:=of_decide_eq_true hk;subst this;exact .inl rfl
theorem czh {c:CV T}{x:Bool}(h:dB c=some x):CV.le c (.bool x):=by
 cases c<;>simp only[dB,reduceCtorEq,sE0]at h;subst h;exact .inl rfl
theorem rz7 {c:CV T}{x:List UInt8}(h:dS c=some x):CV.le c (.str x):=by
 cases c<;>simp only[dS,reduceCtorEq,sE0]at h;subst h;exact .inl rfl
theorem u8_back {x:Int}(h:Ev.inR .u8 x):((UInt8.ofNat x.toNat).toNat:Int)=x:=by
 obtain⟨h1,h2⟩:=h;simp only[lo,hi]at h1 h2;simp only[UInt8.toNat_ofNat'];omega
theorem dU_le {c:CV T}{x:UInt8}(h:dU c=some x)(hr:c.inR):CV.le c (.int .u8 (x.toNat:Int)):=by
 cases c<;>simp only[dU,reduceCtorEq]at h;rename_i k y;cases hk:decide (k=u8)with
 | false=>simp[hk]at h
 | true =>
  simp only[hk,cond_true,sE0]at h;subst h;have:=of_decide_eq_true hk;subst this;left;rw[u8_back hr]
def dN:CV T->Option Unit
 | .nli=>some ()
 | _=>none
theorem dN_le {c:CV T}{x:Unit}(h:dN c=some x):CV.le c (.nli):=by
 cases c<;>simp only[dN,reduceCtorEq]at h;exact .inl rfl
theorem bzv {e:Nat}{c:CV T}{x:List (T e)}(h:asSl e c=some x):CV.le c (.sl e x):=by
 unfold asSl at h;split at h
 .simp only[sE0]at h;subst h;exact .inr ⟨rfl,e,rfl⟩
 .rename_i e' xs;by_cases he:e'=e
  .subst he;simp only[dite_true,sE0]at h;subst h;exact .inl rfl
  .simp[he]at h
 .cases h
end Go.Ev
namespace Go.Ev
open Go
open Go.IntKind (i64 u64 u8 i32 u32 i16 u16)
inductive CK where
 | int (k:IntKind)
 | bool
 | str
 | sl (e:Nat)
 deriving DecidableEq
def CV.is {T:Nat->Type}:CK->CV T->Prop
 | .int k,.int k' _=>k'=k
 | .bool,.bool _=>True
 | .str,.str _=>True
 | .sl e,.sl e' _=>e'=e
 | _,_=>False
def czr (P:Program):Nat->Nat->Option (List CK)
 | 0,_=>none
 | d+1,t=>match P.underlying t with
  | some (.int k)=>some [.int k]
  | some .bool=>some [.bool]
  | some .string=>some [.str]
  | some (.slice e)=>some [.sl e]
  | some (.struct fs)=>(match kindsF (czr P d) P fs.toList 0 with
   | some l=>bif Nat.beq l.length (P.cellsOf t)then some l else none
   | none=>none)
  | _=>none
where
 kindsF (rec:Nat->Option (List CK)) (P:Program):List Field->Nat->Option (List CK)
  | [],_=>some []
  | f::fs,o=>bif !Nat.beq f.offset o then none else match rec f.type with
   | some l=>bif Nat.beq l.length (P.cellsOf f.type)then(match kindsF rec P fs (o+l.length)with
    | some r=>some (l++r)
    | none=>none)else none
   | none=>none
inductive Wf (P:Program) (tb:Tab):CV tb.T->Prop where
 | int (k:IntKind) (n:Int) (h:inR k n):Wf P tb (.int k n)
 | bool (b:Bool):Wf P tb (.bool b)
 | str (s:List UInt8) (h:s.length<=140737488351232):Wf P tb (.str s)
 | sl (e:Nat) (xs:List (tb.T e)) (h:xs.length*P.bytesOf e<=140737488351232) (hx:∀x∈xs,∀c∈tb.enc e x,Wf P tb c):Wf P tb (.sl e xs)
structure RdTab (P:Program) (tb:Tab) where
 S:List Nat
 D:Nat
 kinds:∀t∈S,∃ks,czr P D t=some ks/\(∀e,CK.sl e∈ks->e∈S/\0<P.cellsOf e)/\∀cs:List (CV tb.T),All2 CV.is ks cs->∃x,tb.dec t cs=some x
variable {P:Program} {tb:Tab} {H:Type} {enc:TypeId×Value->H} {w:World} {g:Gh}
theorem wf_inR {k:IntKind}{n:Int}(h:(Lit.int k n).wf=true):inR k n:=by
 cases k<;>simp[Lit.wf,IntKind.min,IntKind.max,IntKind.signed,IntKind.bits]at h<;>simp[inR,lo,hi]<;>omega
def pzl (P:Program)(tb:Tab)(g:Gh)(w:World)(ks:List CK)(cs:List Value):Prop:=∃ds:List (CV tb.T),All2 CV.is ks ds/\All2 (RepD P tb g w) ds cs/\∀c∈ds,Wf P tb c
theorem pzl.append {k1 k2:List CK}{c1 c2:List Value}(h1:pzl P tb g w k1 c1)(h2:pzl P tb g w k2 c2):pzl P tb g w (k1++k2) (c1++c2):=by
 obtain⟨d1,a1,b1,e1⟩:=h1;obtain⟨d2,a2,b2,e2⟩:=h2;exact⟨d1++d2,a1.append a2,b1.append b2,fun c hc=>(List.mem_append.1 hc).elim (e1 c) (e2 c)⟩
theorem Azn {A:Nat->Prop}{n:Nat}{base:Nat}{sp:Nat->Bool}{held:Bool}{d:Nat}{cs:List Value}
 (ih:∀(t:Nat) (ks:List CK) (cs:List Value) (x:DataW H×List MemPlace),czr P d t=some ks->DataW.trod enc P w base sp held n t cs=some x->(∀m∈x.1.weights P t,m<=140737488351232)->(∀e,CK.sl e∈ks->A e)->pzl P tb g w ks cs) :
 ∀(fs:List Field) (o:Nat) (ks:List CK) (xs:List (DataW H×List MemPlace)),czr.kindsF (czr P d) P fs o=some ks->xs.length=fs.length->o+ks.length<=cs.length ->
  (∀(i:Nat) f,fs[i]?=some f->DataW.trod enc P w base sp held n f.type ((cs.drop f.offset).take (P.cellsOf f.type))=xs[i]?) ->
  (∀m∈DataW.weightsEach P (fs.map (·.type)) (xs.map (·.1)),m<=140737488351232)->(∀e,CK.sl e∈ks->A e)->pzl P tb g w ks ((cs.drop o).take ks.length)
 | [],o,ks,xs,hk,hl,ho,hf,hw,hA=>by
  simp only[czr.kindsF,sE0]at hk;subst hk;exact⟨[],trivial,by simp[All2],by simp⟩
 | f::fs,o,ks,xs,hk,hl,ho,hf,hw,hA=>by
  unfold czr.kindsF at hk;cases e1:(!Nat.beq f.offset o)with
  | true=>simp[e1]at hk
  | false =>
   have eo:f.offset=o:=Nat.eq_of_beq_eq_true (by simpa using e1);simp only[e1,cond_false]at hk;cases e2:czr P d f.type with
   | none=>simp[e2]at hk
   | some l =>
    simp only[e2]at hk;cases e3:Nat.beq l.length (P.cellsOf f.type)with
    | false=>simp[e3]at hk
    | true =>
     have el:l.length=P.cellsOf f.type:=Nat.eq_of_beq_eq_true e3;simp only[e3,cond_true]at hk;cases e4:czr.kindsF (czr P d) P fs (o+l.length)with
     | none=>simp[e4]at hk
     | some r =>
      simp only[e4,sE0]at hk;subst hk;cases xs with
      | nil=>simp at hl
      | cons x xs =>
       have h0:=hf 0 f rfl;simp only[List.getElem?_cons_zero]at h0;simp only[List.length_append]at ho ⊢;have r1:=ih f.type l _ x e2 h0 (fun m hm=>hw m (by simp[DataW.weightsEach,hm])) (fun e he=>hA e (by simp[he]));have r2:=Azn ih fs (o+l.length) r xs e4 (by simpa using hl) (by omega) (fun i f' hf'=>hf (i+1) f' (by simpa using hf')) (fun m hm=>hw m (by simp[DataW.weightsEach,hm])) (fun e he=>hA e (by simp[he]));rw[eo,<-el]at r1;have:=r1.append r2;have ee:(cs.drop o).take (l.length+r.length)=(cs.drop o).take l.length++(cs.drop (o+l.length)).take r.length:=by
        rw[List.take_add,List.drop_drop]
       rw[ee];exact this
theorem AzJ {base:Nat}{a:Addr}{n:Nat}{cs:List Value}(h:w.cells? base a n=some cs):cs.length=n/\∀j v,cs[j]?=some v->w.cell? (a.add j)=some v:=by
 unfold World.cells? at h;split at h
 .refine⟨by simpa using Lib.mapM_length h,fun j v hv=>?_⟩;have hj:j<n:=by
   have:=(List.getElem?_eq_some_iff.1 hv).1;have e:cs.length=n:=by simpa using Lib.mapM_length h
   omega
  obtain⟨b,hb,hf⟩:=Lib.mapM_at h j j (by simp[hj]);rw[hv]at hb;simp only[sE0]at hb;subst hb;exact hf
 .cases h
theorem list_of {α:Type}{Q:Nat->α->Prop}:∀n,(∀i,i<n->∃x,Q i x)->∃xs:List α,xs.length=n/\∀i x,xs[i]?=some x->Q i x
 | 0,_=>⟨[],rfl,by simp⟩
 | n+1,h=>by
  obtain⟨xs,hl,hx⟩:=list_of n (fun i hi=>h i (by omega));obtain⟨y,hy⟩:=h n (by omega);refine⟨xs++[y],by simp[hl],fun i x hi=>?_⟩;by_cases hin:i<n
  .rw[List.getElem?_append_left (by omega)]at hi;exact hx i x hi
  .rw[List.getElem?_append_right (by omega)]at hi;have:i-xs.length=0:=by
    have:=(List.getElem?_eq_some_iff.1 hi).1;simp at this;omega
   rw[this]at hi;simp only[List.getElem?_cons_zero,sE0]at hi;subst hi;have:i=n:=by omega
   subst this;exact hy
theorem uza {e:Nat}:∀{ds:List (DataW H)} {i:Nat} {d:DataW H},ds[i]?=some d->∀m∈d.weights P e,m∈DataW.weightsAll P e ds
 | d0::ds,0,d,h,m,hm=>by
  simp only[List.getElem?_cons_zero,sE0]at h;subst h;simp[DataW.weightsAll,hm]
 | d0::ds,i+1,d,h,m,hm=>by
  simp only[List.getElem?_cons_succ]at h;simp[DataW.weightsAll,uza h m hm]
theorem wf_le {c d:CV tb.T}(h:CV.le c d)(hc:Wf P tb c):Wf P tb d:=by
 rcases h with rfl|⟨rfl,e,rfl⟩
 .exact hc
 .exact .sl e [] (by simp) (by simp)
theorem wf_all:∀{cs ds:List (CV tb.T)},All2 CV.le cs ds->(∀c∈cs,Wf P tb c)->∀d∈ds,Wf P tb d
 | [],[],_,_,d,hd=>by simp at hd
 | c::cs,d::ds,⟨h1,h2⟩,hc,d',hd=>by
  rcases List.mem_cons.1 hd with rfl|hd
  .exact wf_le h1 (hc c (by simp))
  .exact wf_all h2 (fun c hc'=>hc c (by simp[hc'])) d' hd
 | [],_::_,h,_,_,_=>h.elim
 | _::_,[],h,_,_,_=>h.elim
theorem RdTab.dec (R:RdTab P tb){t:Nat}(ht:t∈R.S){ks:List CK}{cs:List Value}(hk:czr P R.D t=some ks)(h:pzl P tb g w ks cs):∃x:tb.T t,All2 (RepD P tb g w) (tb.enc t x) cs/\∀c∈tb.enc t x,Wf P tb c:=by
 obtain⟨ks',hk',_,hd⟩:=R.kinds t ht;rw[hk]at hk';simp only[sE0]at hk';subst hk';obtain⟨ds,h1,h2,h3⟩:=h;obtain⟨x,hx⟩:=hd ds h1;exact⟨x,gzA hx h2,wf_all (tb.ok t ds x hx (Ez1 h2)) h3⟩
theorem read (R:RdTab P tb)(hg:∀b,g b = .con){base:Nat}{sp:Nat->Bool}{held:Bool}:∀(n d t:Nat) (ks:List CK) (cs:List Value) (x:DataW H×List MemPlace),
 czr P d t=some ks->DataW.trod enc P w base sp held n t cs=some x->(∀m∈x.1.weights P t,m<=140737488351232)->(∀e,CK.sl e∈ks->e∈R.S/\0<P.cellsOf e)->pzl P tb g w ks cs:=by
 intro n;induction n with
 | zero=>intro d t ks cs x _ h;simp[DataW.trod]at h
 | succ n ih =>
  intro d t ks cs x hk h hw hs;cases d with
  | zero=>simp[czr]at hk
  | succ d =>
   unfold czr at hk;split at hk
   .rename_i k hu;simp only[sE0]at hk;subst hk;obtain⟨m,rfl,_,hwf⟩:=DataW.trod_int hu h;exact⟨[.int k m],⟨rfl,trivial⟩,⟨.int k m (wf_inR hwf),trivial⟩,by simpa using Wf.int k m (wf_inR hwf)⟩
   .rename_i hu;simp only[sE0]at hk;subst hk;obtain⟨b,rfl,_⟩:=DataW.trod_bool hu h;exact⟨[.bool b],⟨trivial,trivial⟩,⟨.bool b,trivial⟩,by simpa using Wf.bool b⟩
   .rename_i hu;simp only[sE0]at hk;subst hk;obtain⟨s,rfl,rfl,hl⟩:=DataW.trod_string hu h;have hle:s.data.toList.length<=140737488351232:=hw _ (by simp[DataW.weights]);refine⟨[.str s.data.toList],⟨trivial,trivial⟩,⟨?_,trivial⟩,by simpa using Wf.str _ hle⟩;have:=RepD.str (P:=P) (tb:=tb) (g:=g) (w:=w) s.data.toList (by simp only[az6];omega);simpa using this
   .rename_i e hu;simp only[sE0]at hk;subst hk;obtain⟨he,hpos⟩:=hs e (by simp);rcases DataW.trod_slice hu h with⟨rfl,rfl⟩|⟨a,len,cap,elems,rest,n',hn,rfl,rfl,_,hlc,hcm,hle,hel,_⟩
    .exact⟨[.sl e []],⟨rfl,trivial⟩,⟨.slnil e,trivial⟩,by simpa using Wf.sl (P:=P) (tb:=tb) e [] (by simp) (by simp)⟩
    .obtain rfl:n=n':=by omega
     obtain⟨kse,hke,hse,_⟩:=R.kinds e he;have hwt:(elems.length+rest.length)*P.bytesOf e<=140737488351232/\∀m∈DataW.weightsAll P e (elems.map (·.1)),m<=140737488351232:=by
      simp only[DataW.weights,hu,List.length_map]at hw;exact⟨hw _ (by simp),fun m hm=>hw m (by simp[hm])⟩
     have hone:∀i,i<len->∃x:tb.T e,∃csE,w.cells? base (a.add (i*P.cellsOf e)) (P.cellsOf e)=some csE/\All2 (RepD P tb g w) (tb.enc e x) csE/\∀c∈tb.enc e x,Wf P tb c:=fun i hi=>by
      have h1:=hel i hi;rw[List.getElem?_eq_getElem (by omega)]at h1;obtain⟨csE,h2,h3⟩:=Option.bind_eq_some_iff.1 h1;obtain⟨x,hx,hxw⟩:=R.dec he hke (ih _ _ _ _ _ hke h3 (fun m hm=>hwt.2 m (uza (i:=i) (d:=(elems[i]).1) (by rw[List.getElem?_map,List.getElem?_eq_getElem (by omega)];rfl) m hm)) hse);exact⟨x,csE,h2,hx,hxw⟩
     obtain⟨xs,hxl,hxs⟩:=list_of len hone;have hWf:Wf P tb (.sl e xs):=.sl e xs (by rw[hxl,<-hle];exact Nat.le_trans (Nat.mul_le_mul_right _ (by omega)) hwt.1) (fun x hx=>by
      obtain⟨i,hi,hx⟩:=List.getElem_of_mem hx;obtain⟨_,_,_,h⟩:=hxs i x (by rw[List.getElem?_eq_getElem hi,hx]);exact h)
     refine⟨[.sl e xs],⟨rfl,trivial⟩,⟨?_,trivial⟩,by simpa using hWf⟩;cases len with
     | zero =>
      have:xs=[]:=List.eq_nil_of_length_eq_zero hxl;subst this;exact .sle e a cap hcm
     | succ len =>
      obtain⟨b,off,spot⟩:=a;have hspot:spot=none:=by
       obtain⟨x,csE,h2,_⟩:=hone 0 (by omega);obtain⟨hl,hc⟩:=AzJ h2;obtain⟨v,hv⟩:∃v,csE[0]?=some v:=⟨csE[0],List.getElem?_eq_getElem (by omega)⟩;have:=hc 0 v hv;unfold World.cell? at this;split at this
       .split at this
        .cases this
        .rename_i hsp;simpa[Addr.add]using hsp
       .cases this
      subst hspot;rw[<-hxl];have hcell:∀(i:Nat) x (j:Nat) c,xs[i]?=some x->(tb.enc e x)[j]?=some c->∃v,w.cell? ⟨b,off+i*P.cellsOf e+j,none⟩=some v/\RepD P tb g w c v:=fun i x j c hx hc=>by
       obtain⟨csE,h2,h3,_⟩:=hxs i x hx;obtain⟨v,hv,hr⟩:=h3.get hc;have:=(AzJ h2).2 j v hv;rw[dzC,dzC]at this;exact⟨v,this,hr⟩
      have hlenE:∀(i:Nat) x,xs[i]?=some x->(tb.enc e x).length=P.cellsOf e:=fun i x hx=>by
       obtain⟨csE,h2,h3,_⟩:=hxs i x hx;rw[h3.length,(AzJ h2).1]
      refine .sl e xs b off cap (fun i j=>(w.cell? ⟨b,off+i*P.cellsOf e+j,none⟩).getD (.bool false)) (by omega) hcm hlenE (fun _=>⟨?_,.inl (hg b)⟩) (fun i x j c hx hc=>?_) (fun i x j c hx hc=>?_)
      .obtain⟨x0,hx0⟩:∃x,xs[0]?=some x:=⟨xs[0],List.getElem?_eq_getElem (by omega)⟩;obtain⟨c0,hc0⟩:∃c,(tb.enc e x0)[0]?=some c:=⟨(tb.enc e x0)[0]'(by rw[hlenE 0 x0 hx0];exact hpos),List.getElem?_eq_getElem _⟩;obtain⟨v,hv,_⟩:=hcell 0 x0 0 c0 hx0 hc0;unfold World.cell? at hv;cases hh:w.heap[b]? with
       | none=>simp[hh]at hv
       | some o=>exact(Array.getElem?_eq_some_iff.1 hh).1
      .obtain⟨v,hv,_⟩:=hcell i x j c hx hc;rw[hv];rfl
      .obtain⟨v,hv,hr⟩:=hcell i x j c hx hc;rw[hv];exact hr
   .rename_i fs hu;cases hkf:czr.kindsF (czr P d) P fs.toList 0 with
    | none=>simp[hkf]at hk
    | some l =>
     simp only[hkf]at hk;cases hlb:Nat.beq l.length (P.cellsOf t)with
     | false=>simp[hlb]at hk
     | true =>
      have hll:l.length=P.cellsOf t:=Nat.eq_of_beq_eq_true hlb;simp only[hlb,cond_true,sE0]at hk;subst hk;obtain⟨xs,n',hn,rfl,hcl,hxl,hf⟩:=DataW.trod_struct hu h;obtain rfl:n=n':=by omega
      have:=Azn (A:=fun e=>e∈R.S/\0<P.cellsOf e) (fun t ks cs x=>ih d t ks cs x) fs.toList 0 l xs hkf (by simpa using hxl) (by omega) (fun i f hi=>hf i f (by simpa using hi)) (fun m hm=>hw m (by simpa[DataW.weights,hu]using hm)) hs;rwa[List.drop_zero,List.take_of_length_le (by omega)]at this
   .cases hk
def yzo {T:Nat->Type}:List CK->(List (CV T)->Prop)->Prop
 | [],p=>p []
 | .int k::ks,p=>∀n,yzo ks fun cs=>p (.int k n::cs)
 | .bool::ks,p=>∀b,yzo ks fun cs=>p (.bool b::cs)
 | .str::ks,p=>∀s,yzo ks fun cs=>p (.str s::cs)
 | .sl e::ks,p=>∀xs,yzo ks fun cs=>p (.sl e xs::cs)
theorem allIs {T:Nat->Type}:∀{ks:List CK} {p:List (CV T)->Prop},yzo ks p->∀cs,All2 CV.is ks cs->p cs
 | [],p,h,[],_=>h
 | [],_,_,_::_,h=>h.elim
 | _::_,_,_,[],h=>by simp[All2]at h
 | k::ks,p,h,c::cs,⟨h1,h2⟩=>by
  cases k with
  | int k=>cases c<;>simp[CV.is]at h1;subst h1;exact allIs (p:=fun cs=>p (_::cs)) (h _) cs h2
  | bool=>cases c<;>simp[CV.is]at h1;exact allIs (p:=fun cs=>p (_::cs)) (h _) cs h2
  | str=>cases c<;>simp[CV.is]at h1;exact allIs (p:=fun cs=>p (_::cs)) (h _) cs h2
  | sl e=>cases c<;>simp[CV.is]at h1;subst h1;exact allIs (p:=fun cs=>p (_::cs)) (h _) cs h2
theorem yzM {t D:Nat}{S:List Nat}{ks:List CK}(hk:czr P D t=some ks)(hs:ks.all (fun k=>match k with | .sl e=>S.contains e&&Nat.blt 0 (P.cellsOf e)|_=>true)=true)(hd:yzo ks fun cs=>(tb.dec t cs).isSome=true):
 ∃ks,czr P D t=some ks/\(∀e,CK.sl e∈ks->e∈S/\0<P.cellsOf e)/\∀cs:List (CV tb.T),All2 CV.is ks cs->∃x,tb.dec t cs=some x:=by
 refine⟨ks,hk,fun e he=>?_,fun cs hc=>Option.isSome_iff_exists.1 (allIs hd cs hc)⟩;have:=List.all_eq_true.1 hs _ he;simp only[Bool.and_eq_true,List.contains_iff_mem]at this;exact⟨this.1,Nat.le_of_ble_eq_true this.2⟩
end Go.Ev
namespace Go.Ev
open Go Go.RowKit Go.ChangeShapes Go.WideShapes
open Go.IntKind (i64 u64 u8 i32 u32 i16 u16)
variable {P:Program} {tb:Tab} {H:Type} {enc:TypeId×Value->H} {w:World} {g:Gh}
def insOf:Nat->List Nat->aze
 | _,[]=>[]
 | i,t::ts=>(i,.val t)::insOf (i+1) ts
def WfL (P:Program)(tb:Tab):(l:aze)->XS tb l->Prop
 | [],_=>True
 | [a],x=>one a x
 | a::b::l,(x,xs)=>one a x/\WfL P tb (b::l) xs
where
 one (a:Nat×Pat) (x:X tb a.2):Prop:=match a.2,x with
  | .val e,x=>∀c∈tb.enc e x,Wf P tb c
  | _,_=>True
theorem Kz2 {r:Reach}{base:Nat}{t:Nat}{v:Value}(h:Value.okWide P w r base t v){ks:List CK}{d:Nat}(hk:czr P d t=some ks):
 if azI P t then ∃us,v = .agg us/\v.cells=us else v.cells = #[v]:=by
 cases d with
 | zero=>simp[czr]at hk
 | succ d =>
  unfold czr at hk;split at hk
  .rename_i k hu;obtain⟨n,rfl⟩:=okWide_int hu h;have:azI P t=false:=by simp[azI,czQ,hu]
   simp[this,Value.cells]
  .rename_i hu;obtain⟨n,rfl⟩:=okWide_bool hu h;have:azI P t=false:=by simp[azI,czQ,hu]
   simp[this,Value.cells]
  .rename_i hu;obtain⟨n,rfl⟩:=okWide_string hu h;have:azI P t=false:=by simp[azI,czQ,hu]
   simp[this,Value.cells]
  .rename_i hu;obtain⟨a,l,c,rfl⟩:=okWide_slice hu h;have:azI P t=false:=by simp[azI,czQ,hu]
   simp[this,Value.cells]
  .rename_i fs hu;obtain⟨us,rfl,_⟩:=okWide_struct hu h;have:azI P t=true:=by simp[azI,czQ,hu]
   simp[this,Value.cells]
  .cases hk
theorem holdsV_of {t:Nat}{x:tb.T t}{v:Value}(hf:if azI P t then ∃us,v = .agg us/\v.cells=us else v.cells = #[v])(hr:All2 (RepD P tb g w) (tb.enc t x) v.cells.toList):azT P tb g w t x v:=by
 unfold azT;cases ha:azI P t with
 | true =>
  simp only[ha,if_true]at hf ⊢;obtain⟨us,rfl,hc⟩:=hf;exact⟨us.toList,by simp,by rw[<-hc];exact hr⟩
 | false =>
  simp only[ha,Bool.false_eq_true,if_false]at hf ⊢;rw[hf]at hr;cases he:tb.enc t x with
  | nil=>rw[he]at hr;exact hr.elim
  | cons c cs =>
   rw[he]at hr;obtain⟨h1,h2⟩:=hr;cases cs with
   | nil=>exact⟨c,rfl,h1⟩
   | cons _ _=>exact h2.elim
theorem Lz0 {i t:Nat}{l:aze}{v:Value}{vs:List Value}{bs:List (Option Nat)}{x:tb.T t}(h:azT P tb g w t x v)(hw:∀c∈tb.enc t x,Wf P tb c)
 (ih:∃xs:XS tb l,az1 P tb g w l xs vs bs/\WfL P tb l xs):∃xs:XS tb ((i,.val t)::l),az1 P tb g w ((i,.val t)::l) xs (v::vs) (none::bs)/\WfL P tb ((i,.val t)::l) xs:=by
 obtain⟨xs,h1,h2⟩:=ih;cases l with
 | nil =>
  cases vs with
  | nil=>cases bs with
   | nil=>exact⟨x,⟨h,rfl⟩,hw⟩
   | cons _ _=>exact h1.elim
  | cons _ _=>exact h1.elim
 | cons a l=>exact⟨(x,xs),⟨⟨h,rfl⟩,h1⟩,⟨hw,h2⟩⟩
theorem GzP (R:RdTab P tb)(hg:∀b,g b = .con){base:Nat}:∀(ts:List Nat) (i:Nat) (vs:List Value) (ds:List (DataW H)) (p:List MemPlace),(∀t∈ts,t∈R.S) ->
 (∀(j:Nat) t v,ts[j]?=some t->vs[j]?=some v->Value.okWide P w .any base t v)->DataW.TrodAll enc P w 0 (fun _=>true) true ts vs ds p->(∀m∈DataW.weightsEach P ts ds,m<=140737488351232) ->
 ∃xs:XS tb (insOf i ts),az1 P tb g w (insOf i ts) xs vs (ts.map fun _=>none)/\WfL P tb (insOf i ts) xs
 | [],i,vs,ds,p,_,_,h,_=>by
  cases vs with
  | nil=>exact⟨(),trivial,trivial⟩
  | cons v vs=>cases ds<;>exact h.elim
 | t::ts,i,vs,ds,p,hS,hv,h,hw=>by
  cases vs with
  | nil=>cases ds<;>exact h.elim
  | cons v vs =>
   cases ds with
   | nil=>exact h.elim
   | cons d ds =>
    obtain⟨p1,p2,⟨fuel,h1⟩,h2,rfl⟩:=h;obtain⟨ks,hk,hs,_⟩:=R.kinds t (hS t (by simp));have hf:=Kz2 (hv 0 t v rfl rfl) hk;obtain⟨x,hx,hxw⟩:=R.dec (hS t (by simp)) hk (read R hg fuel _ t ks _ _ hk h1 (fun m hm=>hw m (by simp[DataW.weightsEach,hm])) hs);exact Lz0 (holdsV_of hf hx) hxw (GzP R hg ts (i+1) vs ds p2 (fun t ht=>hS t (by simp[ht])) (fun j t v ht hv'=>hv (j+1) t v (by simpa using ht) (by simpa using hv')) h2 (fun m hm=>hw m (by simp[DataW.weightsEach,hm])))
theorem tz5 {ts:List Nat}{base:Nat}{sp:Nat->Bool}{held:Bool}:∀{ts:List Nat} {vs:List Value} {ds:List (DataW H)} {p:List MemPlace},DataW.TrodAll enc P w base sp held ts vs ds p->ds.length=ts.length/\vs.length=ts.length
 | [],[],[],_,_=>⟨rfl,rfl⟩
 | _::_,_::_,_::_,_,⟨_,_,_,h,_⟩=>by
  have:=tz5 (ts:=ts) h;exact⟨by simp[this.1],by simp[this.2]⟩
 | [],_::_,_,_,h=>by simp[DataW.TrodAll]at h
 | [],[],_::_,_,h=>by simp[DataW.TrodAll]at h
 | _::_,[],_,_,h=>by simp[DataW.TrodAll]at h
 | _::_,_::_,[],_,h=>by simp[DataW.TrodAll]at h
theorem vz3 {w':World}(hl:laidOutB P=true)(hb:Below w.heap.size w w'):∀{ts:List Nat} {vs:List Value} {ds:List (DataW H)} {p:List MemPlace},(∀t∈ts,P.readableRec t=true/\t<P.types.size) ->
 DataW.TrodAll enc P w 0 (fun _=>true) true ts vs ds p->DataW.TrodAll enc P w' 0 (fun b=>decide (b<w.heap.size)) true ts vs ds p
 | [],[],[],_,_,h=>h
 | t::ts,v::vs,d::ds,_,hr,⟨p,q,h1,h2,e⟩=>by
  refine⟨p,q,Below.trod hl (hr t (by simp)).1 (hr t (by simp)).2 h1 hb ?_,vz3 hl hb (fun t ht=>hr t (by simp[ht])) h2,e⟩;obtain⟨fuel,h1⟩:=h1;exact fun x hx=>DataW.trod_lt fuel _ _ _ h1 x hx
 | [],_::_,_,_,_,h=>by simp[DataW.TrodAll]at h
 | [],[],_::_,_,_,h=>by simp[DataW.TrodAll]at h
 | _::_,[],_,_,_,h=>by simp[DataW.TrodAll]at h
 | _::_,_::_,[],_,_,h=>by simp[DataW.TrodAll]at h
theorem Kzu (ts:List Nat):azj (ts.map fun _=>(none:Option Nat))=[]:=by induction ts<;>simp_all [azj]
def Gzk (P:Program)(tb:Tab)(sp:FSpec tb):Prop:=∀x,WfL P tb sp.ins x->∃y,sp.f x=some y/\∀g w us cs v,az1 P tb g w sp.outs y.outs us cs->RetV sp.outs us v->v = .bool true
theorem law_calls (R:RdTab P tb){f:Nat}{fn:Func}{sp:FSpec tb}{s:ChangeSpec}{ts:List Nat}{rb:Nat}(hsound:azz P tb f sp)(hlaw:Gzk P tb sp)
 (hp:fn.params.toList=ts) (hins:sp.ins=insOf 0 ts) (hS:∀t∈ts,t∈R.S) (hr:fn.resultTypes = #[rb]) (hrb:P.underlying rb=some .bool)
 (hvars:s.vars=[]) (hfn:∀ds:List (DataW H),ds.length=ts.length->s.fn H ds={results:=[.lit (.bool true)],args:=ds})
 (hl:laidOutB P=true) (hread:∀t∈ts,P.readableRec t=true/\t<P.types.size)
 {W:World} {base:Nat} {args:Array Value} {ds gs:List (DataW H)} {before:List MemPlace}
 (hval:∀(j:Nat) t v,fn.params[j]?=some t->args[j]?=some v->Value.okWide P W .any base t v)
 (hW:DataW.Whole enc P fn.params.toList s.vars false W args.toList ds gs before)
 (hz:(DataW.weightsEach P (fn.params.toList++s.plain.varTypes P) (ds++gs)).all (·<=reachBytes)=true)
 (hinv:tb.inv (fun _=>.con) W) (hpl:kzm sp.ins sp.outs=true:=by rfl) :
 Calls P f args W fun e W'=>∃v,e = .returned v/\s.post enc P fn false true false false W args v W':=by
 obtain⟨ins,outs,F⟩:=sp;simp only at hins;subst hins;have hW':=hW;obtain⟨p,q,hA,hV,rfl,_,_⟩:=hW;rw[hvars]at hV;obtain⟨rfl,rfl⟩:=trodVars_none hV;rw[hp]at hA;obtain⟨hdl,hvl⟩:=tz5 (ts:=ts) hA;have hwt:∀m∈DataW.weightsEach P ts ds,m<=140737488351232:=by
  have e0:s.plain.varTypes P=[]:=by
   have:s.plain.vars=[]:=hvars;simp[DataSpec.varTypes,this]
  rw[hp,e0,List.append_nil,List.append_nil]at hz;intro m hm;have:=List.all_eq_true.1 hz m hm;have:m<=reachBytes:=by simpa using this
  unfold reachBytes at this;omega
 obtain⟨x,hx,hxw⟩:=GzP R (g:=fun _=>.con) (fun _=>rfl) ts 0 args.toList ds p hS (fun j t v ht hv=>hval j t v (by rw[<-hp]at ht;simpa using ht) (by simpa using hv)) hA hwt;obtain⟨y,hy,hout⟩:=hlaw x hxw;have hc:=hsound.2 (fun _=>.con) W x args.toList _ y hy hinv (plain_at hpl hx.length.1) hx (by rw[Kzu];exact List.nodup_nil);rw[szt hpl hx.length.1]at hc;have ea:args.toList.toArray=args:=by simp
 rw[ea]at hc;refine hc.mono ?_;rintro e W1 ⟨v,us,cs,g',rfl,hret,_,hext,hho,_⟩;rw[(izR hpl hho.length.1).1,(izR hpl hho.length.1).2]at hret;have hv:=hout g' W1 us cs v hho hret;subst hv;refine⟨_,rfl,ds,[],p++[],[],p,[],hW',?_,?_,?_,?_,fun h=>by cases h⟩
 .rw[List.append_nil,hfn ds hdl,hr];exact trodAll_mk1 (shut_bool hrb true)
 .rw[List.append_nil,hfn ds hdl,hp];refine vz3 hl ⟨hext.os,hext.tape,hext.output,hext.size,fun k hk=>(hext.con k hk rfl).1⟩ hread hA
 .rw[List.append_nil,hfn ds hdl,hvars];rfl
 .exact Below.frame ⟨hext.os,hext.tape,hext.output,hext.size,fun k hk=>(hext.con k hk rfl).1⟩ _
end Go.Ev
/- T1 -/
namespace Go.Proofs.YtmkmofdnmllioaaGreatDoor
open Go Go.Ev
open Go.IntKind (i64 u64 u8 i32 u32 i16 u16)
structure Dec where
 M:Int
 S:Int
 deriving DecidableEq
structure Val where
 Kind:Int
 N:Dec
 S:List UInt8
 B:Bool
 E:Int
 deriving DecidableEq
structure Ref where
 Row:Int
 Col:Int
 RelRow:Bool
 RelCol:Bool
 deriving DecidableEq
structure Area where
 A:Ref
 B:Ref
 deriving DecidableEq
structure Expr where
 Kind:Int
 V:Val
 A:Area
 Sheet:Int
 Op:Int
 Kids:List Expr
def azy (x:Expr):Expr:=⟨x.Kind,x.V,x.A,x.Sheet,x.Op,x.Kids⟩
theorem az2 (x:Expr):azy x=x:=by cases x;rfl
structure Cell where
 Row:Int
 Col:Int
 deriving DecidableEq
structure Place where
 Sheet:Int
 At:Cell
 deriving DecidableEq
structure Slot where
 P:Place
 V:Val
 deriving DecidableEq
structure Env where
 Sheets:Int
 Slots:List Slot
 Names:List Expr
structure Worker where
 v:Env
 at_:Place
 rows:Int
 cols:Int
 cell:Int
structure Arg where
 Area:Bool
 L:List Val
 deriving DecidableEq
structure Asked where
 V:Env
 At:Place
 Rows:Int
 Cols:Int
 R:Int
 C:Int
structure Function where
 name:List UInt8
 lo:Int
 hi:Int
 deriving DecidableEq
structure Big where
 Minus:Bool
 D:List Int
 deriving DecidableEq
structure Wide where
 hi:Int
 lo:Int
 minus:Bool
 deriving DecidableEq
def T:Nat->Type
 | 2=>Int
 | 3=>Int
 | 4=>Bool
 | 5=>UInt8
 | 9=>List UInt8
 | 21=>Int
 | 23=>Dec
 | 25=>Val
 | 27=>Ref
 | 29=>Area
 | 30=>List Expr
 | 32=>Expr
 | 33=>List Slot
 | 35=>Env
 | 37=>Cell
 | 39=>Place
 | 43=>Dec
 | 45=>Val
 | 47=>Ref
 | 49=>Area
 | 50=>List Expr
 | 52=>Expr
 | 54=>List Slot
 | 56=>Env
 | 59=>Cell
 | 61=>Place
 | 70=>List Val
 | 83=>Worker
 | 90=>Slot
 | 92=>Slot
 | 94=>List Val
 | 96=>Arg
 | 99=>Asked
 | 110=>Arg
 | 123=>List Arg
 | 140=>List Arg
 | 150=>List Cell
 | 169=>List Int
 | 175=>List Cell
 | 184=>Function
 | 194=>Int
 | 200=>List Bool
 | 204=>Big
 | 222=>List Dec
 | 252=>Unit
 | 256=>List Dec
 | 272=>List Int
 | 275=>Int
 | 277=>Wide
 | 330=>Int
 | _=>Unit
def enc:(e:Nat)->T e->List (CV T)
 | 2,(x:Int)=>[.int .i64 x]
 | 3,(x:Int)=>[.int .i64 x]
 | 4,(x:Bool)=>[.bool x]
 | 5,(x:UInt8)=>[.int .u8 (x.toNat:Int)]
 | 9,(x:List UInt8)=>[.str x]
 | 21,(x:Int)=>[.int .i32 x]
 | 23,(x:Dec)=>[.int .i64 x.M,.int .i64 x.S]
 | 25,(x:Val)=>[.int .i64 x.Kind,.int .i64 x.N.M,.int .i64 x.N.S,.str x.S,.bool x.B,.int .i64 x.E]
 | 27,(x:Ref)=>[.int .i64 x.Row,.int .i64 x.Col,.bool x.RelRow,.bool x.RelCol]
 | 29,(x:Area)=>[.int .i64 x.A.Row,.int .i64 x.A.Col,.bool x.A.RelRow,.bool x.A.RelCol,.int .i64 x.B.Row,.int .i64 x.B.Col,.bool x.B.RelRow,.bool x.B.RelCol]
 | 30,(x:List Expr)=>[.sl 32 x]
 | 32,(x:Expr)=>[.int .i64 x.Kind,.int .i64 x.V.Kind,.int .i64 x.V.N.M,.int .i64 x.V.N.S,.str x.V.S,.bool x.V.B,.int .i64 x.V.E,.int .i64 x.A.A.Row,.int .i64 x.A.A.Col,.bool x.A.A.RelRow,.bool x.A.A.RelCol,.int .i64 x.A.B.Row,.int .i64 x.A.B.Col,.bool x.A.B.RelRow,.bool x.A.B.RelCol,.int .i64 x.Sheet,.int .i64 x.Op,.sl 32 x.Kids]
 | 33,(x:List Slot)=>[.sl 90 x]
 | 35,(x:Env)=>[.int .i64 x.Sheets,.sl 90 x.Slots,.sl 32 x.Names]
 | 37,(x:Cell)=>[.int .i64 x.Row,.int .i64 x.Col]
 | 39,(x:Place)=>[.int .i64 x.Sheet,.int .i64 x.At.Row,.int .i64 x.At.Col]
 | 43,(x:Dec)=>[.int .i64 x.M,.int .i64 x.S]
 | 45,(x:Val)=>[.int .i64 x.Kind,.int .i64 x.N.M,.int .i64 x.N.S,.str x.S,.bool x.B,.int .i64 x.E]
 | 47,(x:Ref)=>[.int .i64 x.Row,.int .i64 x.Col,.bool x.RelRow,.bool x.RelCol]
 | 49,(x:Area)=>[.int .i64 x.A.Row,.int .i64 x.A.Col,.bool x.A.RelRow,.bool x.A.RelCol,.int .i64 x.B.Row,.int .i64 x.B.Col,.bool x.B.RelRow,.bool x.B.RelCol]
 | 50,(x:List Expr)=>[.sl 52 x]
 | 52,(x:Expr)=>[.int .i64 x.Kind,.int .i64 x.V.Kind,.int .i64 x.V.N.M,.int .i64 x.V.N.S,.str x.V.S,.bool x.V.B,.int .i64 x.V.E,.int .i64 x.A.A.Row,.int .i64 x.A.A.Col,.bool x.A.A.RelRow,.bool x.A.A.RelCol,.int .i64 x.A.B.Row,.int .i64 x.A.B.Col,.bool x.A.B.RelRow,.bool x.A.B.RelCol,.int .i64 x.Sheet,.int .i64 x.Op,.sl 52 x.Kids]
 | 54,(x:List Slot)=>[.sl 92 x]
 | 56,(x:Env)=>[.int .i64 x.Sheets,.sl 92 x.Slots,.sl 52 x.Names]
 | 59,(x:Cell)=>[.int .i64 x.Row,.int .i64 x.Col]
 | 61,(x:Place)=>[.int .i64 x.Sheet,.int .i64 x.At.Row,.int .i64 x.At.Col]
 | 70,(x:List Val)=>[.sl 45 x]
 | 83,(x:Worker)=>[.int .i64 x.v.Sheets,.sl 92 x.v.Slots,.sl 52 x.v.Names,.int .i64 x.at_.Sheet,.int .i64 x.at_.At.Row,.int .i64 x.at_.At.Col,.int .i64 x.rows,.int .i64 x.cols,.int .i64 x.cell]
 | 90,(x:Slot)=>[.int .i64 x.P.Sheet,.int .i64 x.P.At.Row,.int .i64 x.P.At.Col,.int .i64 x.V.Kind,.int .i64 x.V.N.M,.int .i64 x.V.N.S,.str x.V.S,.bool x.V.B,.int .i64 x.V.E]
 | 92,(x:Slot)=>[.int .i64 x.P.Sheet,.int .i64 x.P.At.Row,.int .i64 x.P.At.Col,.int .i64 x.V.Kind,.int .i64 x.V.N.M,.int .i64 x.V.N.S,.str x.V.S,.bool x.V.B,.int .i64 x.V.E]
 | 94,(x:List Val)=>[.sl 25 x]
 | 96,(x:Arg)=>[.bool x.Area,.sl 25 x.L]
 | 99,(x:Asked)=>[.int .i64 x.V.Sheets,.sl 90 x.V.Slots,.sl 32 x.V.Names,.int .i64 x.At.Sheet,.int .i64 x.At.At.Row,.int .i64 x.At.At.Col,.int .i64 x.Rows,.int .i64 x.Cols,.int .i64 x.R,.int .i64 x.C]
 | 110,(x:Arg)=>[.bool x.Area,.sl 45 x.L]
 | 123,(x:List Arg)=>[.sl 96 x]
 | 140,(x:List Arg)=>[.sl 110 x]
 | 150,(x:List Cell)=>[.sl 59 x]
 | 169,(x:List Int)=>[.sl 3 x]
 | 175,(x:List Cell)=>[.sl 37 x]
 | 184,(x:Function)=>[.str x.name,.int .i64 x.lo,.int .i64 x.hi]
 | 194,(x:Int)=>[.int .i64 x]
 | 200,(x:List Bool)=>[.sl 4 x]
 | 204,(x:Big)=>[.bool x.Minus,.sl 3 x.D]
 | 222,(x:List Dec)=>[.sl 23 x]
 | 252,(_:Unit)=>[.nli]
 | 256,(x:List Dec)=>[.sl 43 x]
 | 272,(x:List Int)=>[.sl 21 x]
 | 275,(x:Int)=>[.int .u64 x]
 | 277,(x:Wide)=>[.int .u64 x.hi,.int .u64 x.lo,.bool x.minus]
 | 330,(x:Int)=>[.int .u32 x]
 | _,_=>[]
def dec2:List (CV T)->Option Int
 | [c0]=>dbnd (dI .i64 c0:Option Int) fun x0=>some (x0:Int)
 | _=>none
theorem dec2_le {cs:List (CV T)}{x:Int}(h:dec2 cs=some x)(hr:∀c∈cs,c.inR):All2 CV.le cs (enc 2 x):=by
 unfold dec2 at h;split at h
 .obtain⟨x0,h0,h⟩:=azd h;have h:=Option.some.inj h;subst h;exact⟨azs h0,trivial⟩
 .cases h
def dec3:List (CV T)->Option Int
 | [c0]=>dbnd (dI .i64 c0:Option Int) fun x0=>some (x0:Int)
 | _=>none
theorem dec3_le {cs:List (CV T)}{x:Int}(h:dec3 cs=some x)(hr:∀c∈cs,c.inR):All2 CV.le cs (enc 3 x):=by
 unfold dec3 at h;split at h
 .obtain⟨x0,h0,h⟩:=azd h;have h:=Option.some.inj h;subst h;exact⟨azs h0,trivial⟩
 .cases h
def dec4:List (CV T)->Option Bool
 | [c0]=>dbnd (dB c0:Option Bool) fun x0=>some (x0:Bool)
 | _=>none
theorem dec4_le {cs:List (CV T)}{x:Bool}(h:dec4 cs=some x)(hr:∀c∈cs,c.inR):All2 CV.le cs (enc 4 x):=by
 unfold dec4 at h;split at h
 .obtain⟨x0,h0,h⟩:=azd h;have h:=Option.some.inj h;subst h;exact⟨czh h0,trivial⟩
 .cases h
def dec5:List (CV T)->Option UInt8
 | [c0]=>dbnd (dU c0:Option UInt8) fun x0=>some (x0:UInt8)
 | _=>none
theorem dec5_le {cs:List (CV T)}{x:UInt8}(h:dec5 cs=some x)(hr:∀c∈cs,c.inR):All2 CV.le cs (enc 5 x):=by
 unfold dec5 at h;split at h
 .obtain⟨x0,h0,h⟩:=azd h;have h:=Option.some.inj h;subst h;exact⟨dU_le h0 (hr _ (by simp)),trivial⟩
 .cases h
def dec9:List (CV T)->Option (List UInt8)
 | [c0]=>dbnd (dS c0:Option (List UInt8)) fun x0=>some (x0:List UInt8)
 | _=>none
theorem dec9_le {cs:List (CV T)}{x:List UInt8}(h:dec9 cs=some x)(hr:∀c∈cs,c.inR):All2 CV.le cs (enc 9 x):=by
 unfold dec9 at h;split at h
 .obtain⟨x0,h0,h⟩:=azd h;have h:=Option.some.inj h;subst h;exact⟨rz7 h0,trivial⟩
 .cases h
def dec21:List (CV T)->Option Int
 | [c0]=>dbnd (dI .i32 c0:Option Int) fun x0=>some (x0:Int)
 | _=>none
theorem dec21_le {cs:List (CV T)}{x:Int}(h:dec21 cs=some x)(hr:∀c∈cs,c.inR):All2 CV.le cs (enc 21 x):=by
 unfold dec21 at h;split at h
 .obtain⟨x0,h0,h⟩:=azd h;have h:=Option.some.inj h;subst h;exact⟨azs h0,trivial⟩
 .cases h
def dec23:List (CV T)->Option Dec
 | [c0,c1]=>dbnd (dI .i64 c0:Option Int) fun x0=>dbnd (dI .i64 c1:Option Int) fun x1=>some (⟨x0,x1⟩:Dec)
 | _=>none
theorem dec23_le {cs:List (CV T)}{x:Dec}(h:dec23 cs=some x)(hr:∀c∈cs,c.inR):All2 CV.le cs (enc 23 x):=by
 unfold dec23 at h;split at h
 .obtain⟨x0,h0,h⟩:=azd h;obtain⟨x1,h1,h⟩:=azd h;have h:=Option.some.inj h;subst h;exact⟨azs h0,azs h1,trivial⟩
 .cases h
def dec25:List (CV T)->Option Val
 | [c0,c1,c2,c3,c4,c5]=>dbnd (dI .i64 c0:Option Int) fun x0=>dbnd (dI .i64 c1:Option Int) fun x1=>dbnd (dI .i64 c2:Option Int) fun x2=>dbnd (dS c3:Option (List UInt8)) fun x3=>dbnd (dB c4:Option Bool) fun x4=>dbnd (dI .i64 c5:Option Int) fun x5=>some (⟨x0,⟨x1,x2⟩,x3,x4,x5⟩:Val)
 | _=>none
theorem dec25_le {cs:List (CV T)}{x:Val}(h:dec25 cs=some x)(hr:∀c∈cs,c.inR):All2 CV.le cs (enc 25 x):=by
 unfold dec25 at h;split at h
 .obtain⟨x0,h0,h⟩:=azd h;obtain⟨x1,h1,h⟩:=azd h;obtain⟨x2,h2,h⟩:=azd h;obtain⟨x3,h3,h⟩:=azd h;obtain⟨x4,h4,h⟩:=azd h;obtain⟨x5,h5,h⟩:=azd h;have h:=Option.some.inj h;subst h;exact⟨azs h0,azs h1,azs h2,rz7 h3,czh h4,azs h5,trivial⟩
 .cases h
def dec27:List (CV T)->Option Ref
 | [c0,c1,c2,c3]=>dbnd (dI .i64 c0:Option Int) fun x0=>dbnd (dI .i64 c1:Option Int) fun x1=>dbnd (dB c2:Option Bool) fun x2=>dbnd (dB c3:Option Bool) fun x3=>some (⟨x0,x1,x2,x3⟩:Ref)
 | _=>none
theorem dec27_le {cs:List (CV T)}{x:Ref}(h:dec27 cs=some x)(hr:∀c∈cs,c.inR):All2 CV.le cs (enc 27 x):=by
 unfold dec27 at h;split at h
 .obtain⟨x0,h0,h⟩:=azd h;obtain⟨x1,h1,h⟩:=azd h;obtain⟨x2,h2,h⟩:=azd h;obtain⟨x3,h3,h⟩:=azd h;have h:=Option.some.inj h;subst h;exact⟨azs h0,azs h1,czh h2,czh h3,trivial⟩
 .cases h
def dec29:List (CV T)->Option Area
 | [c0,c1,c2,c3,c4,c5,c6,c7]=>dbnd (dI .i64 c0:Option Int) fun x0=>dbnd (dI .i64 c1:Option Int) fun x1=>dbnd (dB c2:Option Bool) fun x2=>dbnd (dB c3:Option Bool) fun x3=>dbnd (dI .i64 c4:Option Int) fun x4=>dbnd (dI .i64 c5:Option Int) fun x5=>dbnd (dB c6:Option Bool) fun x6=>dbnd (dB c7:Option Bool) fun x7=>some (⟨⟨x0,x1,x2,x3⟩,⟨x4,x5,x6,x7⟩⟩:Area)
 | _=>none
theorem dec29_le {cs:List (CV T)}{x:Area}(h:dec29 cs=some x)(hr:∀c∈cs,c.inR):All2 CV.le cs (enc 29 x):=by
 unfold dec29 at h;split at h
 .obtain⟨x0,h0,h⟩:=azd h;obtain⟨x1,h1,h⟩:=azd h;obtain⟨x2,h2,h⟩:=azd h;obtain⟨x3,h3,h⟩:=azd h;obtain⟨x4,h4,h⟩:=azd h;obtain⟨x5,h5,h⟩:=azd h;obtain⟨x6,h6,h⟩:=azd h;obtain⟨x7,h7,h⟩:=azd h;have h:=Option.some.inj h;subst h;exact⟨azs h0,azs h1,czh h2,czh h3,azs h4,azs h5,czh h6,czh h7,trivial⟩
 .cases h
def dec30:List (CV T)->Option (List Expr)
 | [c0]=>dbnd (asSl 32 c0:Option (List (T 32))) fun x0=>some (x0:List Expr)
 | _=>none
theorem dec30_le {cs:List (CV T)}{x:List Expr}(h:dec30 cs=some x)(hr:∀c∈cs,c.inR):All2 CV.le cs (enc 30 x):=by
 unfold dec30 at h;split at h
 .obtain⟨x0,h0,h⟩:=azd h;have h:=Option.some.inj h;subst h;exact⟨bzv h0,trivial⟩
 .cases h
def dec32:List (CV T)->Option Expr
 | [c0,c1,c2,c3,c4,c5,c6,c7,c8,c9,c10,c11,c12,c13,c14,c15,c16,c17]=>dbnd (dI .i64 c0:Option Int) fun x0=>dbnd (dI .i64 c1:Option Int) fun x1=>dbnd (dI .i64 c2:Option Int) fun x2=>dbnd (dI .i64 c3:Option Int) fun x3=>dbnd (dS c4:Option (List UInt8)) fun x4=>dbnd (dB c5:Option Bool) fun x5=>dbnd (dI .i64 c6:Option Int) fun x6=>dbnd (dI .i64 c7:Option Int) fun x7=>dbnd (dI .i64 c8:Option Int) fun x8=>dbnd (dB c9:Option Bool) fun x9=>dbnd (dB c10:Option Bool) fun x10=>dbnd (dI .i64 c11:Option Int) fun x11=>dbnd (dI .i64 c12:Option Int) fun x12=>dbnd (dB c13:Option Bool) fun x13=>dbnd (dB c14:Option Bool) fun x14=>dbnd (dI .i64 c15:Option Int) fun x15=>dbnd (dI .i64 c16:Option Int) fun x16=>dbnd (asSl 32 c17:Option (List (T 32))) fun x17=>some (⟨x0,⟨x1,⟨x2,x3⟩,x4,x5,x6⟩,⟨⟨x7,x8,x9,x10⟩,⟨x11,x12,x13,x14⟩⟩,x15,x16,x17⟩:Expr)
 | _=>none
theorem dec32_le {cs:List (CV T)}{x:Expr}(h:dec32 cs=some x)(hr:∀c∈cs,c.inR):All2 CV.le cs (enc 32 x):=by
 unfold dec32 at h;split at h
 .obtain⟨x0,h0,h⟩:=azd h;obtain⟨x1,h1,h⟩:=azd h;obtain⟨x2,h2,h⟩:=azd h;obtain⟨x3,h3,h⟩:=azd h;obtain⟨x4,h4,h⟩:=azd h;obtain⟨x5,h5,h⟩:=azd h;obtain⟨x6,h6,h⟩:=azd h;obtain⟨x7,h7,h⟩:=azd h;obtain⟨x8,h8,h⟩:=azd h;obtain⟨x9,h9,h⟩:=azd h;obtain⟨x10,h10,h⟩:=azd h;obtain⟨x11,h11,h⟩:=azd h;obtain⟨x12,h12,h⟩:=azd h;obtain⟨x13,h13,h⟩:=azd h;obtain⟨x14,h14,h⟩:=azd h;obtain⟨x15,h15,h⟩:=azd h;obtain⟨x16,h16,h⟩:=azd h;obtain⟨x17,h17,h⟩:=azd h;have h:=Option.some.inj h;subst h;exact⟨azs h0,azs h1,azs h2,azs h3,rz7 h4,czh h5,azs h6,azs h7,azs h8,czh h9,czh h10,azs h11,azs h12,czh h13,czh h14,azs h15,azs h16,bzv h17,trivial⟩
 .cases h
def dec33:List (CV T)->Option (List Slot)
 | [c0]=>dbnd (asSl 90 c0:Option (List (T 90))) fun x0=>some (x0:List Slot)
 | _=>none
theorem dec33_le {cs:List (CV T)}{x:List Slot}(h:dec33 cs=some x)(hr:∀c∈cs,c.inR):All2 CV.le cs (enc 33 x):=by
 unfold dec33 at h;split at h
 .obtain⟨x0,h0,h⟩:=azd h;have h:=Option.some.inj h;subst h;exact⟨bzv h0,trivial⟩
 .cases h
def dec35:List (CV T)->Option Env
 | [c0,c1,c2]=>dbnd (dI .i64 c0:Option Int) fun x0=>dbnd (asSl 90 c1:Option (List (T 90))) fun x1=>dbnd (asSl 32 c2:Option (List (T 32))) fun x2=>some (⟨x0,x1,x2⟩:Env)
 | _=>none
theorem dec35_le {cs:List (CV T)}{x:Env}(h:dec35 cs=some x)(hr:∀c∈cs,c.inR):All2 CV.le cs (enc 35 x):=by
 unfold dec35 at h;split at h
 .obtain⟨x0,h0,h⟩:=azd h;obtain⟨x1,h1,h⟩:=azd h;obtain⟨x2,h2,h⟩:=azd h;have h:=Option.some.inj h;subst h;exact⟨azs h0,bzv h1,bzv h2,trivial⟩
 .cases h
def dec37:List (CV T)->Option Cell
 | [c0,c1]=>dbnd (dI .i64 c0:Option Int) fun x0=>dbnd (dI .i64 c1:Option Int) fun x1=>some (⟨x0,x1⟩:Cell)
 | _=>none
theorem dec37_le {cs:List (CV T)}{x:Cell}(h:dec37 cs=some x)(hr:∀c∈cs,c.inR):All2 CV.le cs (enc 37 x):=by
 unfold dec37 at h;split at h
 .obtain⟨x0,h0,h⟩:=azd h;obtain⟨x1,h1,h⟩:=azd h;have h:=Option.some.inj h;subst h;exact⟨azs h0,azs h1,trivial⟩
 .cases h
def dec39:List (CV T)->Option Place
 | [c0,c1,c2]=>dbnd (dI .i64 c0:Option Int) fun x0=>dbnd (dI .i64 c1:Option Int) fun x1=>dbnd (dI .i64 c2:Option Int) fun x2=>some (⟨x0,⟨x1,x2⟩⟩:Place)
 | _=>none
theorem dec39_le {cs:List (CV T)}{x:Place}(h:dec39 cs=some x)(hr:∀c∈cs,c.inR):All2 CV.le cs (enc 39 x):=by
 unfold dec39 at h;split at h
 .obtain⟨x0,h0,h⟩:=azd h;obtain⟨x1,h1,h⟩:=azd h;obtain⟨x2,h2,h⟩:=azd h;have h:=Option.some.inj h;subst h;exact⟨azs h0,azs h1,azs h2,trivial⟩
 .cases h
def dec43:List (CV T)->Option Dec
 | [c0,c1]=>dbnd (dI .i64 c0:Option Int) fun x0=>dbnd (dI .i64 c1:Option Int) fun x1=>some (⟨x0,x1⟩:Dec)
 | _=>none
theorem dec43_le {cs:List (CV T)}{x:Dec}(h:dec43 cs=some x)(hr:∀c∈cs,c.inR):All2 CV.le cs (enc 43 x):=by
 unfold dec43 at h;split at h
 .obtain⟨x0,h0,h⟩:=azd h;obtain⟨x1,h1,h⟩:=azd h;have h:=Option.some.inj h;subst h;exact⟨azs h0,azs h1,trivial⟩
 .cases h
def dec45:List (CV T)->Option Val
 | [c0,c1,c2,c3,c4,c5]=>dbnd (dI .i64 c0:Option Int) fun x0=>dbnd (dI .i64 c1:Option Int) fun x1=>dbnd (dI .i64 c2:Option Int) fun x2=>dbnd (dS c3:Option (List UInt8)) fun x3=>dbnd (dB c4:Option Bool) fun x4=>dbnd (dI .i64 c5:Option Int) fun x5=>some (⟨x0,⟨x1,x2⟩,x3,x4,x5⟩:Val)
 | _=>none
theorem dec45_le {cs:List (CV T)}{x:Val}(h:dec45 cs=some x)(hr:∀c∈cs,c.inR):All2 CV.le cs (enc 45 x):=by
 unfold dec45 at h;split at h
 .obtain⟨x0,h0,h⟩:=azd h;obtain⟨x1,h1,h⟩:=azd h;obtain⟨x2,h2,h⟩:=azd h;obtain⟨x3,h3,h⟩:=azd h;obtain⟨x4,h4,h⟩:=azd h;obtain⟨x5,h5,h⟩:=azd h;have h:=Option.some.inj h;subst h;exact⟨azs h0,azs h1,azs h2,rz7 h3,czh h4,azs h5,trivial⟩
 .cases h
def dec47:List (CV T)->Option Ref
 | [c0,c1,c2,c3]=>dbnd (dI .i64 c0:Option Int) fun x0=>dbnd (dI .i64 c1:Option Int) fun x1=>dbnd (dB c2:Option Bool) fun x2=>dbnd (dB c3:Option Bool) fun x3=>some (⟨x0,x1,x2,x3⟩:Ref)
 | _=>none
theorem dec47_le {cs:List (CV T)}{x:Ref}(h:dec47 cs=some x)(hr:∀c∈cs,c.inR):All2 CV.le cs (enc 47 x):=by
 unfold dec47 at h;split at h
 .obtain⟨x0,h0,h⟩:=azd h;obtain⟨x1,h1,h⟩:=azd h;obtain⟨x2,h2,h⟩:=azd h;obtain⟨x3,h3,h⟩:=azd h;have h:=Option.some.inj h;subst h;exact⟨azs h0,azs h1,czh h2,czh h3,trivial⟩
 .cases h
def dec49:List (CV T)->Option Area
 | [c0,c1,c2,c3,c4,c5,c6,c7]=>dbnd (dI .i64 c0:Option Int) fun x0=>dbnd (dI .i64 c1:Option Int) fun x1=>dbnd (dB c2:Option Bool) fun x2=>dbnd (dB c3:Option Bool) fun x3=>dbnd (dI .i64 c4:Option Int) fun x4=>dbnd (dI .i64 c5:Option Int) fun x5=>dbnd (dB c6:Option Bool) fun x6=>dbnd (dB c7:Option Bool) fun x7=>some (⟨⟨x0,x1,x2,x3⟩,⟨x4,x5,x6,x7⟩⟩:Area)
 | _=>none
theorem dec49_le {cs:List (CV T)}{x:Area}(h:dec49 cs=some x)(hr:∀c∈cs,c.inR):All2 CV.le cs (enc 49 x):=by
 unfold dec49 at h;split at h
 .obtain⟨x0,h0,h⟩:=azd h;obtain⟨x1,h1,h⟩:=azd h;obtain⟨x2,h2,h⟩:=azd h;obtain⟨x3,h3,h⟩:=azd h;obtain⟨x4,h4,h⟩:=azd h;obtain⟨x5,h5,h⟩:=azd h;obtain⟨x6,h6,h⟩:=azd h;obtain⟨x7,h7,h⟩:=azd h;have h:=Option.some.inj h;subst h;exact⟨azs h0,azs h1,czh h2,czh h3,azs h4,azs h5,czh h6,czh h7,trivial⟩
 .cases h
def dec50:List (CV T)->Option (List Expr)
 | [c0]=>dbnd (asSl 52 c0:Option (List (T 52))) fun x0=>some (x0:List Expr)
 | _=>none
theorem dec50_le {cs:List (CV T)}{x:List Expr}(h:dec50 cs=some x)(hr:∀c∈cs,c.inR):All2 CV.le cs (enc 50 x):=by
 unfold dec50 at h;split at h
 .obtain⟨x0,h0,h⟩:=azd h;have h:=Option.some.inj h;subst h;exact⟨bzv h0,trivial⟩
 .cases h
def dec52:List (CV T)->Option Expr
 | [c0,c1,c2,c3,c4,c5,c6,c7,c8,c9,c10,c11,c12,c13,c14,c15,c16,c17]=>dbnd (dI .i64 c0:Option Int) fun x0=>dbnd (dI .i64 c1:Option Int) fun x1=>dbnd (dI .i64 c2:Option Int) fun x2=>dbnd (dI .i64 c3:Option Int) fun x3=>dbnd (dS c4:Option (List UInt8)) fun x4=>dbnd (dB c5:Option Bool) fun x5=>dbnd (dI .i64 c6:Option Int) fun x6=>dbnd (dI .i64 c7:Option Int) fun x7=>dbnd (dI .i64 c8:Option Int) fun x8=>dbnd (dB c9:Option Bool) fun x9=>dbnd (dB c10:Option Bool) fun x10=>dbnd (dI .i64 c11:Option Int) fun x11=>dbnd (dI .i64 c12:Option Int) fun x12=>dbnd (dB c13:Option Bool) fun x13=>dbnd (dB c14:Option Bool) fun x14=>dbnd (dI .i64 c15:Option Int) fun x15=>dbnd (dI .i64 c16:Option Int) fun x16=>dbnd (asSl 52 c17:Option (List (T 52))) fun x17=>some (⟨x0,⟨x1,⟨x2,x3⟩,x4,x5,x6⟩,⟨⟨x7,x8,x9,x10⟩,⟨x11,x12,x13,x14⟩⟩,x15,x16,x17⟩:Expr)
 | _=>none
theorem dec52_le {cs:List (CV T)}{x:Expr}(h:dec52 cs=some x)(hr:∀c∈cs,c.inR):All2 CV.le cs (enc 52 x):=by
 unfold dec52 at h;split at h
 .obtain⟨x0,h0,h⟩:=azd h;obtain⟨x1,h1,h⟩:=azd h;obtain⟨x2,h2,h⟩:=azd h;obtain⟨x3,h3,h⟩:=azd h;obtain⟨x4,h4,h⟩:=azd h;obtain⟨x5,h5,h⟩:=azd h;obtain⟨x6,h6,h⟩:=azd h;obtain⟨x7,h7,h⟩:=azd h;obtain⟨x8,h8,h⟩:=azd h;obtain⟨x9,h9,h⟩:=azd h;obtain⟨x10,h10,h⟩:=azd h;obtain⟨x11,h11,h⟩:=azd h;obtain⟨x12,h12,h⟩:=azd h;obtain⟨x13,h13,h⟩:=azd h;obtain⟨x14,h14,h⟩:=azd h;obtain⟨x15,h15,h⟩:=azd h;obtain⟨x16,h16,h⟩:=azd h;obtain⟨x17,h17,h⟩:=azd h;have h:=Option.some.inj h;subst h;exact⟨azs h0,azs h1,azs h2,azs h3,rz7 h4,czh h5,azs h6,azs h7,azs h8,czh h9,czh h10,azs h11,azs h12,czh h13,czh h14,azs h15,azs h16,bzv h17,trivial⟩
 .cases h
def dec54:List (CV T)->Option (List Slot)
 | [c0]=>dbnd (asSl 92 c0:Option (List (T 92))) fun x0=>some (x0:List Slot)
 | _=>none
theorem dec54_le {cs:List (CV T)}{x:List Slot}(h:dec54 cs=some x)(hr:∀c∈cs,c.inR):All2 CV.le cs (enc 54 x):=by
 unfold dec54 at h;split at h
 .obtain⟨x0,h0,h⟩:=azd h;have h:=Option.some.inj h;subst h;exact⟨bzv h0,trivial⟩
 .cases h
def dec56:List (CV T)->Option Env
 | [c0,c1,c2]=>dbnd (dI .i64 c0:Option Int) fun x0=>dbnd (asSl 92 c1:Option (List (T 92))) fun x1=>dbnd (asSl 52 c2:Option (List (T 52))) fun x2=>some (⟨x0,x1,x2⟩:Env)
 | _=>none
theorem dec56_le {cs:List (CV T)}{x:Env}(h:dec56 cs=some x)(hr:∀c∈cs,c.inR):All2 CV.le cs (enc 56 x):=by
 unfold dec56 at h;split at h
 .obtain⟨x0,h0,h⟩:=azd h;obtain⟨x1,h1,h⟩:=azd h;obtain⟨x2,h2,h⟩:=azd h;have h:=Option.some.inj h;subst h;exact⟨azs h0,bzv h1,bzv h2,trivial⟩
 .cases h
def dec59:List (CV T)->Option Cell
 | [c0,c1]=>dbnd (dI .i64 c0:Option Int) fun x0=>dbnd (dI .i64 c1:Option Int) fun x1=>some (⟨x0,x1⟩:Cell)
 | _=>none
theorem dec59_le {cs:List (CV T)}{x:Cell}(h:dec59 cs=some x)(hr:∀c∈cs,c.inR):All2 CV.le cs (enc 59 x):=by
 unfold dec59 at h;split at h
 .obtain⟨x0,h0,h⟩:=azd h;obtain⟨x1,h1,h⟩:=azd h;have h:=Option.some.inj h;subst h;exact⟨azs h0,azs h1,trivial⟩
 .cases h
def dec61:List (CV T)->Option Place
 | [c0,c1,c2]=>dbnd (dI .i64 c0:Option Int) fun x0=>dbnd (dI .i64 c1:Option Int) fun x1=>dbnd (dI .i64 c2:Option Int) fun x2=>some (⟨x0,⟨x1,x2⟩⟩:Place)
 | _=>none
theorem dec61_le {cs:List (CV T)}{x:Place}(h:dec61 cs=some x)(hr:∀c∈cs,c.inR):All2 CV.le cs (enc 61 x):=by
 unfold dec61 at h;split at h
 .obtain⟨x0,h0,h⟩:=azd h;obtain⟨x1,h1,h⟩:=azd h;obtain⟨x2,h2,h⟩:=azd h;have h:=Option.some.inj h;subst h;exact⟨azs h0,azs h1,azs h2,trivial⟩
 .cases h
def dec70:List (CV T)->Option (List Val)
 | [c0]=>dbnd (asSl 45 c0:Option (List (T 45))) fun x0=>some (x0:List Val)
 | _=>none
theorem dec70_le {cs:List (CV T)}{x:List Val}(h:dec70 cs=some x)(hr:∀c∈cs,c.inR):All2 CV.le cs (enc 70 x):=by
 unfold dec70 at h;split at h
 .obtain⟨x0,h0,h⟩:=azd h;have h:=Option.some.inj h;subst h;exact⟨bzv h0,trivial⟩
 .cases h
def dec83:List (CV T)->Option Worker
 | [c0,c1,c2,c3,c4,c5,c6,c7,c8]=>dbnd (dI .i64 c0:Option Int) fun x0=>dbnd (asSl 92 c1:Option (List (T 92))) fun x1=>dbnd (asSl 52 c2:Option (List (T 52))) fun x2=>dbnd (dI .i64 c3:Option Int) fun x3=>dbnd (dI .i64 c4:Option Int) fun x4=>dbnd (dI .i64 c5:Option Int) fun x5=>dbnd (dI .i64 c6:Option Int) fun x6=>dbnd (dI .i64 c7:Option Int) fun x7=>dbnd (dI .i64 c8:Option Int) fun x8=>some (⟨⟨x0,x1,x2⟩,⟨x3,⟨x4,x5⟩⟩,x6,x7,x8⟩:Worker)
 | _=>none
theorem dec83_le {cs:List (CV T)}{x:Worker}(h:dec83 cs=some x)(hr:∀c∈cs,c.inR):All2 CV.le cs (enc 83 x):=by
 unfold dec83 at h;split at h
 .obtain⟨x0,h0,h⟩:=azd h;obtain⟨x1,h1,h⟩:=azd h;obtain⟨x2,h2,h⟩:=azd h;obtain⟨x3,h3,h⟩:=azd h;obtain⟨x4,h4,h⟩:=azd h;obtain⟨x5,h5,h⟩:=azd h;obtain⟨x6,h6,h⟩:=azd h;obtain⟨x7,h7,h⟩:=azd h;obtain⟨x8,h8,h⟩:=azd h;have h:=Option.some.inj h;subst h;exact⟨azs h0,bzv h1,bzv h2,azs h3,azs h4,azs h5,azs h6,azs h7,azs h8,trivial⟩
 .cases h
def dec90:List (CV T)->Option Slot
 | [c0,c1,c2,c3,c4,c5,c6,c7,c8]=>dbnd (dI .i64 c0:Option Int) fun x0=>dbnd (dI .i64 c1:Option Int) fun x1=>dbnd (dI .i64 c2:Option Int) fun x2=>dbnd (dI .i64 c3:Option Int) fun x3=>dbnd (dI .i64 c4:Option Int) fun x4=>dbnd (dI .i64 c5:Option Int) fun x5=>dbnd (dS c6:Option (List UInt8)) fun x6=>dbnd (dB c7:Option Bool) fun x7=>dbnd (dI .i64 c8:Option Int) fun x8=>some (⟨⟨x0,⟨x1,x2⟩⟩,⟨x3,⟨x4,x5⟩,x6,x7,x8⟩⟩:Slot)
 | _=>none
theorem dec90_le {cs:List (CV T)}{x:Slot}(h:dec90 cs=some x)(hr:∀c∈cs,c.inR):All2 CV.le cs (enc 90 x):=by
 unfold dec90 at h;split at h
 .obtain⟨x0,h0,h⟩:=azd h;obtain⟨x1,h1,h⟩:=azd h;obtain⟨x2,h2,h⟩:=azd h;obtain⟨x3,h3,h⟩:=azd h;obtain⟨x4,h4,h⟩:=azd h;obtain⟨x5,h5,h⟩:=azd h;obtain⟨x6,h6,h⟩:=azd h;obtain⟨x7,h7,h⟩:=azd h;obtain⟨x8,h8,h⟩:=azd h;have h:=Option.some.inj h;subst h;exact⟨azs h0,azs h1,azs h2,azs h3,azs h4,azs h5,rz7 h6,czh h7,azs h8,trivial⟩
 .cases h
def dec92:List (CV T)->Option Slot
 | [c0,c1,c2,c3,c4,c5,c6,c7,c8]=>dbnd (dI .i64 c0:Option Int) fun x0=>dbnd (dI .i64 c1:Option Int) fun x1=>dbnd (dI .i64 c2:Option Int) fun x2=>dbnd (dI .i64 c3:Option Int) fun x3=>dbnd (dI .i64 c4:Option Int) fun x4=>dbnd (dI .i64 c5:Option Int) fun x5=>dbnd (dS c6:Option (List UInt8)) fun x6=>dbnd (dB c7:Option Bool) fun x7=>dbnd (dI .i64 c8:Option Int) fun x8=>some (⟨⟨x0,⟨x1,x2⟩⟩,⟨x3,⟨x4,x5⟩,x6,x7,x8⟩⟩:Slot)
 | _=>none
theorem dec92_le {cs:List (CV T)}{x:Slot}(h:dec92 cs=some x)(hr:∀c∈cs,c.inR):All2 CV.le cs (enc 92 x):=by
 unfold dec92 at h;split at h
 .obtain⟨x0,h0,h⟩:=azd h;obtain⟨x1,h1,h⟩:=azd h;obtain⟨x2,h2,h⟩:=azd h;obtain⟨x3,h3,h⟩:=azd h;obtain⟨x4,h4,h⟩:=azd h;obtain⟨x5,h5,h⟩:=azd h;obtain⟨x6,h6,h⟩:=azd h;obtain⟨x7,h7,h⟩:=azd h;obtain⟨x8,h8,h⟩:=azd h;have h:=Option.some.inj h;subst h;exact⟨azs h0,azs h1,azs h2,azs h3,azs h4,azs h5,rz7 h6,czh h7,azs h8,trivial⟩
 .cases h
def dec94:List (CV T)->Option (List Val)
 | [c0]=>dbnd (asSl 25 c0:Option (List (T 25))) fun x0=>some (x0:List Val)
 | _=>none
theorem dec94_le {cs:List (CV T)}{x:List Val}(h:dec94 cs=some x)(hr:∀c∈cs,c.inR):All2 CV.le cs (enc 94 x):=by
 unfold dec94 at h;split at h
 .obtain⟨x0,h0,h⟩:=azd h;have h:=Option.some.inj h;subst h;exact⟨bzv h0,trivial⟩
 .cases h
def dec96:List (CV T)->Option Arg
 | [c0,c1]=>dbnd (dB c0:Option Bool) fun x0=>dbnd (asSl 25 c1:Option (List (T 25))) fun x1=>some (⟨x0,x1⟩:Arg)
 | _=>none
theorem dec96_le {cs:List (CV T)}{x:Arg}(h:dec96 cs=some x)(hr:∀c∈cs,c.inR):All2 CV.le cs (enc 96 x):=by
 unfold dec96 at h;split at h
 .obtain⟨x0,h0,h⟩:=azd h;obtain⟨x1,h1,h⟩:=azd h;have h:=Option.some.inj h;subst h;exact⟨czh h0,bzv h1,trivial⟩
 .cases h
def dec99:List (CV T)->Option Asked
 | [c0,c1,c2,c3,c4,c5,c6,c7,c8,c9]=>dbnd (dI .i64 c0:Option Int) fun x0=>dbnd (asSl 90 c1:Option (List (T 90))) fun x1=>dbnd (asSl 32 c2:Option (List (T 32))) fun x2=>dbnd (dI .i64 c3:Option Int) fun x3=>dbnd (dI .i64 c4:Option Int) fun x4=>dbnd (dI .i64 c5:Option Int) fun x5=>dbnd (dI .i64 c6:Option Int) fun x6=>dbnd (dI .i64 c7:Option Int) fun x7=>dbnd (dI .i64 c8:Option Int) fun x8=>dbnd (dI .i64 c9:Option Int) fun x9=>some (⟨⟨x0,x1,x2⟩,⟨x3,⟨x4,x5⟩⟩,x6,x7,x8,x9⟩:Asked)
 | _=>none
theorem dec99_le {cs:List (CV T)}{x:Asked}(h:dec99 cs=some x)(hr:∀c∈cs,c.inR):All2 CV.le cs (enc 99 x):=by
 unfold dec99 at h;split at h
 .obtain⟨x0,h0,h⟩:=azd h;obtain⟨x1,h1,h⟩:=azd h;obtain⟨x2,h2,h⟩:=azd h;obtain⟨x3,h3,h⟩:=azd h;obtain⟨x4,h4,h⟩:=azd h;obtain⟨x5,h5,h⟩:=azd h;obtain⟨x6,h6,h⟩:=azd h;obtain⟨x7,h7,h⟩:=azd h;obtain⟨x8,h8,h⟩:=azd h;obtain⟨x9,h9,h⟩:=azd h;have h:=Option.some.inj h;subst h;exact⟨azs h0,bzv h1,bzv h2,azs h3,azs h4,azs h5,azs h6,azs h7,azs h8,azs h9,trivial⟩
 .cases h
def dec110:List (CV T)->Option Arg
 | [c0,c1]=>dbnd (dB c0:Option Bool) fun x0=>dbnd (asSl 45 c1:Option (List (T 45))) fun x1=>some (⟨x0,x1⟩:Arg)
 | _=>none
theorem dec110_le {cs:List (CV T)}{x:Arg}(h:dec110 cs=some x)(hr:∀c∈cs,c.inR):All2 CV.le cs (enc 110 x):=by
 unfold dec110 at h;split at h
 .obtain⟨x0,h0,h⟩:=azd h;obtain⟨x1,h1,h⟩:=azd h;have h:=Option.some.inj h;subst h;exact⟨czh h0,bzv h1,trivial⟩
 .cases h
def dec123:List (CV T)->Option (List Arg)
 | [c0]=>dbnd (asSl 96 c0:Option (List (T 96))) fun x0=>some (x0:List Arg)
 | _=>none
theorem dec123_le {cs:List (CV T)}{x:List Arg}(h:dec123 cs=some x)(hr:∀c∈cs,c.inR):All2 CV.le cs (enc 123 x):=by
 unfold dec123 at h;split at h
 .obtain⟨x0,h0,h⟩:=azd h;have h:=Option.some.inj h;subst h;exact⟨bzv h0,trivial⟩
 .cases h
def dec140:List (CV T)->Option (List Arg)
 | [c0]=>dbnd (asSl 110 c0:Option (List (T 110))) fun x0=>some (x0:List Arg)
 | _=>none
theorem dec140_le {cs:List (CV T)}{x:List Arg}(h:dec140 cs=some x)(hr:∀c∈cs,c.inR):All2 CV.le cs (enc 140 x):=by
 unfold dec140 at h;split at h
 .obtain⟨x0,h0,h⟩:=azd h;have h:=Option.some.inj h;subst h;exact⟨bzv h0,trivial⟩
 .cases h
def dec150:List (CV T)->Option (List Cell)
 | [c0]=>dbnd (asSl 59 c0:Option (List (T 59))) fun x0=>some (x0:List Cell)
 | _=>none
theorem dec150_le {cs:List (CV T)}{x:List Cell}(h:dec150 cs=some x)(hr:∀c∈cs,c.inR):All2 CV.le cs (enc 150 x):=by
 unfold dec150 at h;split at h
 .obtain⟨x0,h0,h⟩:=azd h;have h:=Option.some.inj h;subst h;exact⟨bzv h0,trivial⟩
 .cases h
def dec169:List (CV T)->Option (List Int)
 | [c0]=>dbnd (asSl 3 c0:Option (List (T 3))) fun x0=>some (x0:List Int)
 | _=>none
theorem dec169_le {cs:List (CV T)}{x:List Int}(h:dec169 cs=some x)(hr:∀c∈cs,c.inR):All2 CV.le cs (enc 169 x):=by
 unfold dec169 at h;split at h
 .obtain⟨x0,h0,h⟩:=azd h;have h:=Option.some.inj h;subst h;exact⟨bzv h0,trivial⟩
 .cases h
def dec175:List (CV T)->Option (List Cell)
 | [c0]=>dbnd (asSl 37 c0:Option (List (T 37))) fun x0=>some (x0:List Cell)
 | _=>none
theorem dec175_le {cs:List (CV T)}{x:List Cell}(h:dec175 cs=some x)(hr:∀c∈cs,c.inR):All2 CV.le cs (enc 175 x):=by
 unfold dec175 at h;split at h
 .obtain⟨x0,h0,h⟩:=azd h;have h:=Option.some.inj h;subst h;exact⟨bzv h0,trivial⟩
 .cases h
def dec184:List (CV T)->Option Function
 | [c0,c1,c2]=>dbnd (dS c0:Option (List UInt8)) fun x0=>dbnd (dI .i64 c1:Option Int) fun x1=>dbnd (dI .i64 c2:Option Int) fun x2=>some (⟨x0,x1,x2⟩:Function)
 | _=>none
theorem dec184_le {cs:List (CV T)}{x:Function}(h:dec184 cs=some x)(hr:∀c∈cs,c.inR):All2 CV.le cs (enc 184 x):=by
 unfold dec184 at h;split at h
 .obtain⟨x0,h0,h⟩:=azd h;obtain⟨x1,h1,h⟩:=azd h;obtain⟨x2,h2,h⟩:=azd h;have h:=Option.some.inj h;subst h;exact⟨rz7 h0,azs h1,azs h2,trivial⟩
 .cases h
def dec194:List (CV T)->Option Int
 | [c0]=>dbnd (dI .i64 c0:Option Int) fun x0=>some (x0:Int)
 | _=>none
theorem dec194_le {cs:List (CV T)}{x:Int}(h:dec194 cs=some x)(hr:∀c∈cs,c.inR):All2 CV.le cs (enc 194 x):=by
 unfold dec194 at h;split at h
 .obtain⟨x0,h0,h⟩:=azd h;have h:=Option.some.inj h;subst h;exact⟨azs h0,trivial⟩
 .cases h
def dec200:List (CV T)->Option (List Bool)
 | [c0]=>dbnd (asSl 4 c0:Option (List (T 4))) fun x0=>some (x0:List Bool)
 | _=>none
theorem dec200_le {cs:List (CV T)}{x:List Bool}(h:dec200 cs=some x)(hr:∀c∈cs,c.inR):All2 CV.le cs (enc 200 x):=by
 unfold dec200 at h;split at h
 .obtain⟨x0,h0,h⟩:=azd h;have h:=Option.some.inj h;subst h;exact⟨bzv h0,trivial⟩
 .cases h
def dec204:List (CV T)->Option Big
 | [c0,c1]=>dbnd (dB c0:Option Bool) fun x0=>dbnd (asSl 3 c1:Option (List (T 3))) fun x1=>some (⟨x0,x1⟩:Big)
 | _=>none
theorem dec204_le {cs:List (CV T)}{x:Big}(h:dec204 cs=some x)(hr:∀c∈cs,c.inR):All2 CV.le cs (enc 204 x):=by
 unfold dec204 at h;split at h
 .obtain⟨x0,h0,h⟩:=azd h;obtain⟨x1,h1,h⟩:=azd h;have h:=Option.some.inj h;subst h;exact⟨czh h0,bzv h1,trivial⟩
 .cases h
def dec222:List (CV T)->Option (List Dec)
 | [c0]=>dbnd (asSl 23 c0:Option (List (T 23))) fun x0=>some (x0:List Dec)
 | _=>none
theorem dec222_le {cs:List (CV T)}{x:List Dec}(h:dec222 cs=some x)(hr:∀c∈cs,c.inR):All2 CV.le cs (enc 222 x):=by
 unfold dec222 at h;split at h
 .obtain⟨x0,h0,h⟩:=azd h;have h:=Option.some.inj h;subst h;exact⟨bzv h0,trivial⟩
 .cases h
def dec252:List (CV T)->Option Unit
 | [c0]=>dbnd (dN c0:Option Unit) fun x0=>some (x0:Unit)
 | _=>none
theorem dec252_le {cs:List (CV T)}{x:Unit}(h:dec252 cs=some x)(hr:∀c∈cs,c.inR):All2 CV.le cs (enc 252 x):=by
 unfold dec252 at h;split at h
 .obtain⟨x0,h0,h⟩:=azd h;have h:=Option.some.inj h;subst h;exact⟨dN_le h0,trivial⟩
 .cases h
def dec256:List (CV T)->Option (List Dec)
 | [c0]=>dbnd (asSl 43 c0:Option (List (T 43))) fun x0=>some (x0:List Dec)
 | _=>none
theorem dec256_le {cs:List (CV T)}{x:List Dec}(h:dec256 cs=some x)(hr:∀c∈cs,c.inR):All2 CV.le cs (enc 256 x):=by
 unfold dec256 at h;split at h
 .obtain⟨x0,h0,h⟩:=azd h;have h:=Option.some.inj h;subst h;exact⟨bzv h0,trivial⟩
 .cases h
def dec272:List (CV T)->Option (List Int)
 | [c0]=>dbnd (asSl 21 c0:Option (List (T 21))) fun x0=>some (x0:List Int)
 | _=>none
theorem dec272_le {cs:List (CV T)}{x:List Int}(h:dec272 cs=some x)(hr:∀c∈cs,c.inR):All2 CV.le cs (enc 272 x):=by
 unfold dec272 at h;split at h
 .obtain⟨x0,h0,h⟩:=azd h;have h:=Option.some.inj h;subst h;exact⟨bzv h0,trivial⟩
 .cases h
def dec275:List (CV T)->Option Int
 | [c0]=>dbnd (dI .u64 c0:Option Int) fun x0=>some (x0:Int)
 | _=>none
theorem dec275_le {cs:List (CV T)}{x:Int}(h:dec275 cs=some x)(hr:∀c∈cs,c.inR):All2 CV.le cs (enc 275 x):=by
 unfold dec275 at h;split at h
 .obtain⟨x0,h0,h⟩:=azd h;have h:=Option.some.inj h;subst h;exact⟨azs h0,trivial⟩
 .cases h
def dec277:List (CV T)->Option Wide
 | [c0,c1,c2]=>dbnd (dI .u64 c0:Option Int) fun x0=>dbnd (dI .u64 c1:Option Int) fun x1=>dbnd (dB c2:Option Bool) fun x2=>some (⟨x0,x1,x2⟩:Wide)
 | _=>none
theorem dec277_le {cs:List (CV T)}{x:Wide}(h:dec277 cs=some x)(hr:∀c∈cs,c.inR):All2 CV.le cs (enc 277 x):=by
 unfold dec277 at h;split at h
 .obtain⟨x0,h0,h⟩:=azd h;obtain⟨x1,h1,h⟩:=azd h;obtain⟨x2,h2,h⟩:=azd h;have h:=Option.some.inj h;subst h;exact⟨azs h0,azs h1,czh h2,trivial⟩
 .cases h
def dec330:List (CV T)->Option Int
 | [c0]=>dbnd (dI .u32 c0:Option Int) fun x0=>some (x0:Int)
 | _=>none
theorem dec330_le {cs:List (CV T)}{x:Int}(h:dec330 cs=some x)(hr:∀c∈cs,c.inR):All2 CV.le cs (enc 330 x):=by
 unfold dec330 at h;split at h
 .obtain⟨x0,h0,h⟩:=azd h;have h:=Option.some.inj h;subst h;exact⟨azs h0,trivial⟩
 .cases h
def dec (e:Nat):List (CV T)->Option (T e):=if h:e=2 then h▸(dec2:List (CV T)->Option (T 2))else if h:e=3 then h▸(dec3:List (CV T)->Option (T 3))else if h:e=4 then h▸(dec4:List (CV T)->Option (T 4))else if h:e=5 then h▸(dec5:List (CV T)->Option (T 5))else if h:e=9 then h▸(dec9:List (CV T)->Option (T 9))else if h:e=21 then h▸(dec21:List (CV T)->Option (T 21))else if h:e=23 then h▸(dec23:List (CV T)->Option (T 23))else if h:e=25 then h▸(dec25:List (CV T)->Option (T 25))else if h:e=27 then h▸(dec27:List (CV T)->Option (T 27))else if h:e=29 then h▸(dec29:List (CV T)->Option (T 29))else if h:e=30 then h▸(dec30:List (CV T)->Option (T 30))else if h:e=32 then h▸(dec32:List (CV T)->Option (T 32))else if h:e=33 then h▸(dec33:List (CV T)->Option (T 33))else if h:e=35 then h▸(dec35:List (CV T)->Option (T 35))else if h:e=37 then h▸(dec37:List (CV T)->Option (T 37))else if h:e=39 then h▸(dec39:List (CV T)->Option (T 39))else if h:e=43 then h▸(dec43:List (CV T)->Option (T 43))else if h:e=45 then h▸(dec45:List (CV T)->Option (T 45))else if h:e=47 then h▸(dec47:List (CV T)->Option (T 47))else if h:e=49 then h▸(dec49:List (CV T)->Option (T 49))else if h:e=50 then h▸(dec50:List (CV T)->Option (T 50))else if h:e=52 then h▸(dec52:List (CV T)->Option (T 52))else if h:e=54 then h▸(dec54:List (CV T)->Option (T 54))else if h:e=56 then h▸(dec56:List (CV T)->Option (T 56))else if h:e=59 then h▸(dec59:List (CV T)->Option (T 59))else if h:e=61 then h▸(dec61:List (CV T)->Option (T 61))else if h:e=70 then h▸(dec70:List (CV T)->Option (T 70))else if h:e=83 then h▸(dec83:List (CV T)->Option (T 83))else if h:e=90 then h▸(dec90:List (CV T)->Option (T 90))else if h:e=92 then h▸(dec92:List (CV T)->Option (T 92))else if h:e=94 then h▸(dec94:List (CV T)->Option (T 94))else if h:e=96 then h▸(dec96:List (CV T)->Option (T 96))else if h:e=99 then h▸(dec99:List (CV T)->Option (T 99))else if h:e=110 then h▸(dec110:List (CV T)->Option (T 110))else if h:e=123 then h▸(dec123:List (CV T)->Option (T 123))else if h:e=140 then h▸(dec140:List (CV T)->Option (T 140))else if h:e=150 then h▸(dec150:List (CV T)->Option (T 150))else if h:e=169 then h▸(dec169:List (CV T)->Option (T 169))else if h:e=175 then h▸(dec175:List (CV T)->Option (T 175))else if h:e=184 then h▸(dec184:List (CV T)->Option (T 184))else if h:e=194 then h▸(dec194:List (CV T)->Option (T 194))else if h:e=200 then h▸(dec200:List (CV T)->Option (T 200))else if h:e=204 then h▸(dec204:List (CV T)->Option (T 204))else if h:e=222 then h▸(dec222:List (CV T)->Option (T 222))else if h:e=252 then h▸(dec252:List (CV T)->Option (T 252))else if h:e=256 then h▸(dec256:List (CV T)->Option (T 256))else if h:e=272 then h▸(dec272:List (CV T)->Option (T 272))else if h:e=275 then h▸(dec275:List (CV T)->Option (T 275))else if h:e=277 then h▸(dec277:List (CV T)->Option (T 277))else if h:e=330 then h▸(dec330:List (CV T)->Option (T 330))else fun _=>none
theorem dec_none {e:Nat}(h:¬e∈([2,3,4,5,9,21,23,25,27,29,30,32,33,35,37,39,43,45,47,49,50,52,54,56,59,61,70,83,90,92,94,96,99,110,123,140,150,169,175,184,194,200,204,222,252,256,272,275,277,330]:List Nat)):dec e=fun _=>none:=by
 simp only[List.mem_cons,List.not_mem_nil,or_false,not_or]at h;simp[dec,h]
theorem dec_ok (e:Nat)(cs:List (CV T))(x:T e)(h:dec e cs=some x)(hr:∀c∈cs,c.inR):All2 CV.le cs (enc e x):=by
 by_cases hm:e∈([2,3,4,5,9,21,23,25,27,29,30,32,33,35,37,39,43,45,47,49,50,52,54,56,59,61,70,83,90,92,94,96,99,110,123,140,150,169,175,184,194,200,204,222,252,256,272,275,277,330]:List Nat)
 .simp only[List.mem_cons,List.not_mem_nil,or_false]at hm;rcases hm with rfl|rfl|rfl|rfl|rfl|rfl|rfl|rfl|rfl|rfl|rfl|rfl|rfl|rfl|rfl|rfl|rfl|rfl|rfl|rfl|rfl|rfl|rfl|rfl|rfl|rfl|rfl|rfl|rfl|rfl|rfl|rfl|rfl|rfl|rfl|rfl|rfl|rfl|rfl|rfl|rfl|rfl|rfl|rfl|rfl|rfl|rfl|rfl|rfl|rfl
  .exact dec2_le (x:=x) h hr
  .exact dec3_le (x:=x) h hr
  .exact dec4_le (x:=x) h hr
  .exact dec5_le (x:=x) h hr
  .exact dec9_le (x:=x) h hr
  .exact dec21_le (x:=x) h hr
  .exact dec23_le (x:=x) h hr
  .exact dec25_le (x:=x) h hr
  .exact dec27_le (x:=x) h hr
  .exact dec29_le (x:=x) h hr
  .exact dec30_le (x:=x) h hr
  .exact dec32_le (x:=x) h hr
  .exact dec33_le (x:=x) h hr
  .exact dec35_le (x:=x) h hr
  .exact dec37_le (x:=x) h hr
  .exact dec39_le (x:=x) h hr
  .exact dec43_le (x:=x) h hr
  .exact dec45_le (x:=x) h hr
  .exact dec47_le (x:=x) h hr
  .exact dec49_le (x:=x) h hr
  .exact dec50_le (x:=x) h hr
  .exact dec52_le (x:=x) h hr
  .exact dec54_le (x:=x) h hr
  .exact dec56_le (x:=x) h hr
  .exact dec59_le (x:=x) h hr
  .exact dec61_le (x:=x) h hr
  .exact dec70_le (x:=x) h hr
  .exact dec83_le (x:=x) h hr
  .exact dec90_le (x:=x) h hr
  .exact dec92_le (x:=x) h hr
  .exact dec94_le (x:=x) h hr
  .exact dec96_le (x:=x) h hr
  .exact dec99_le (x:=x) h hr
  .exact dec110_le (x:=x) h hr
  .exact dec123_le (x:=x) h hr
  .exact dec140_le (x:=x) h hr
  .exact dec150_le (x:=x) h hr
  .exact dec169_le (x:=x) h hr
  .exact dec175_le (x:=x) h hr
  .exact dec184_le (x:=x) h hr
  .exact dec194_le (x:=x) h hr
  .exact dec200_le (x:=x) h hr
  .exact dec204_le (x:=x) h hr
  .exact dec222_le (x:=x) h hr
  .exact dec252_le (x:=x) h hr
  .exact dec256_le (x:=x) h hr
  .exact dec272_le (x:=x) h hr
  .exact dec275_le (x:=x) h hr
  .exact dec277_le (x:=x) h hr
  .exact dec330_le (x:=x) h hr
 .rw[dec_none hm]at h;cases h
def Inv (g:Gh)(w:World):Prop:=g 0 = .con/\g 1 = .con/\Lib.Utf8Tabs 0 1 w/\TabAt Tryz.prog "internal/strconv.uint64pow10" .u64 Lib.pow10Tab g w
theorem Iz4 {w:World}{b i:Nat}{v:Value}(h:w.cell? ⟨b,i,none⟩=some v):b<w.heap.size:=by
 unfold World.cell? at h;simp only at h;cases hw:w.heap[b]? with
 | none=>rw[hw]at h;cases h
 | some o=>exact(Array.getElem?_eq_some_iff.1 hw).1
theorem Inv_ext {g:Gh}{w:World}{g':Gh}{w':World}{D:Nat->Prop}(he:Ext g w g' w' D)(h:Inv g w):Inv g' w':=by
 obtain⟨h0,h1,⟨h2,h3⟩,h4⟩:=h;have b0:=Iz4 (h2 0 (by omega));have b1:=Iz4 (h3 0 (by omega)).1;obtain⟨e0,k0⟩:=he.con 0 b0 h0;obtain⟨e1,k1⟩:=he.con 1 b1 h1;exact⟨k0,k1,⟨fun c hc=>(bzE e0).trans (h2 c hc),fun i hi=>⟨(bzE e1).trans (h3 i hi).1,(bzE e1).trans (h3 i hi).2⟩⟩,TabAt.ext he h4⟩
def Bzn:Nat->Option (List Nat):=fun e =>
 if e=3 then some [0]else
 none
theorem KzV:∀e ls,Bzn e=some ls->∀x y:T e,Kin ls (enc e x) (enc e y):=by
 intro e ls h;unfold Bzn at h;split at h
 .rename_i he;subst he;injection h with h;subst h;intro x y;exact⟨rfl,trivial⟩
 cases h
def tb:Tab:=⟨T,enc,dec,dec_ok,5,rfl,fun _=>rfl,some 21,fun e h=>by cases h;rfl,fun e h x=>by cases h;rfl,Bzn,KzV,Inv,Inv_ext⟩
def keq3:Int->Int->Bool:=keq tb 3
theorem yzw (x:Int):tb.enc 3 x=[.int .i64 x]:=by kernel_rfl
theorem enc4_eq (x:Bool):tb.enc 4 x=[.bool x]:=by kernel_rfl
theorem enc5_eq (x:UInt8):tb.enc 5 x=[.int .u8 (x.toNat:Int)]:=by kernel_rfl
theorem qzM (x:List UInt8):tb.enc 9 x=[.str x]:=by kernel_rfl
theorem enc32_eq (x:Expr):tb.enc 32 x=[.int .i64 x.Kind,.int .i64 x.V.Kind,.int .i64 x.V.N.M,.int .i64 x.V.N.S,.str x.V.S,.bool x.V.B,.int .i64 x.V.E,.int .i64 x.A.A.Row,.int .i64 x.A.A.Col,.bool x.A.A.RelRow,.bool x.A.A.RelCol,.int .i64 x.A.B.Row,.int .i64 x.A.B.Col,.bool x.A.B.RelRow,.bool x.A.B.RelCol,.int .i64 x.Sheet,.int .i64 x.Op,.sl 32 x.Kids]:=by kernel_rfl
theorem IzB (x:Env):tb.enc 35 x=[.int .i64 x.Sheets,.sl 90 x.Slots,.sl 32 x.Names]:=by kernel_rfl
theorem enc90_eq (x:Slot):tb.enc 90 x=[.int .i64 x.P.Sheet,.int .i64 x.P.At.Row,.int .i64 x.P.At.Col,.int .i64 x.V.Kind,.int .i64 x.V.N.M,.int .i64 x.V.N.S,.str x.V.S,.bool x.V.B,.int .i64 x.V.E]:=by kernel_rfl
theorem dz1 (x:Int):tb.enc 275 x=[.int .u64 x]:=by kernel_rfl
end Go.Proofs.YtmkmofdnmllioaaGreatDoor
/- L1 -/
namespace Go.Proofs
open Go.Shelf
open Go.IntKind (i64 u64 u8 i32 u32 i16 u16)
def Tryz.lays134_ren:Go.Shelf.Ren:=⟨fun|134=>250|129=>259|n=>n,fun|53=>275|3=>3|4=>4|46=>237|5=>5|9=>9|n=>n,fun|n=>n⟩
theorem Tryz.lays134:Go.Proofs.Lays.n134 Tryz.prog Tryz.lays134_ren where
 mixed:=by kernel_rfl
 f129:=Tryz.func259.trans (congrArg some (by kernel_rfl))
 f134:=Tryz.func250.trans (congrArg some (by kernel_rfl))
 t3:=Tryz.underlying3
 a3:=Tryz.isAgg3
 z3:=Tryz.sizeOf3
 v3:=Tryz.zeroValue3
 t4:=Tryz.underlying4
 a4:=Tryz.isAgg4
 z4:=Tryz.sizeOf4
 v4:=Tryz.zeroValue4
 t5:=Tryz.underlying5
 a5:=Tryz.isAgg5
 z5:=Tryz.sizeOf5
 v5:=Tryz.zeroValue5
 t9:=Tryz.underlying9
 a9:=Tryz.isAgg9
 z9:=Tryz.sizeOf9
 v9:=Tryz.zeroValue9
 t46:=Tryz.underlying237
 a46:=Tryz.isAgg237
 z46:=Tryz.sizeOf237
 v46:=Tryz.zeroValue237
 t53:=Tryz.underlying275
 a53:=Tryz.isAgg275
 z53:=Tryz.sizeOf275
 v53:=Tryz.zeroValue275
end Go.Proofs
namespace Go.Proofs.YtmkmofdnmllioaaGreatDoor
open Go Go.Ev
open Go.IntKind (i64 u64 u8 i32 u32 i16 u16)
theorem dz3:azI Tryz.prog 275=false:=by kernel_rfl
theorem qzP:azI Tryz.prog 9=false:=by kernel_rfl
theorem notAgg5:azI Tryz.prog 5=false:=by kernel_rfl
theorem yzJ:azI Tryz.prog 3=false:=by kernel_rfl
theorem notAgg4:azI Tryz.prog 4=false:=by kernel_rfl
def gz0 (x:Int×Int×Int):Option (Int×Int):=bif decide (x.2.2=0)||decide (x.2.2=1)then some ((x.1+x.2.1+x.2.2)%18446744073709551616,(x.1+x.2.1+x.2.2)/18446744073709551616)else none
def Kzp:FSpec tb:=⟨[(0,.val 275),(1,.val 275),(2,.val 275)],[(0,.val 275),(1,.val 275)],gz0⟩
theorem qzT:bzU Tryz.prog tb 227 Kzp:=by
 refine uzC rfl fun g w (x:Int×Int×Int) vs bs (y:Int×Int) hy hinv hh=>?_
 obtain⟨a,b,c⟩:=x;obtain⟨v0,vs,b0,bs,rfl,rfl⟩:=azR hh;obtain⟨v1,vs,b1,bs,rfl,rfl⟩:=azR hh.2;obtain⟨v2,vs,b2,bs,rfl,rfl⟩:=azR hh.2.2;obtain⟨h0,h1,h2⟩:=hh;obtain⟨rfl,rfl⟩:vs=[]/\bs=[]:=by
  cases vs<;>cases bs<;>first|exact⟨rfl,rfl⟩|exact h2.elim
 obtain⟨e0,r0⟩:=dzK dz3 (dz1 _) h0.1;obtain⟨e1,r1⟩:=dzK dz3 (dz1 _) h1.1;obtain⟨e2,r2⟩:=dzK dz3 (dz1 _) h2.1;subst e0;subst e1;subst e2;simp only[Ev.inR,lo,hi]at r0 r1 r2;have hy:gz0 (a,b,c)=some y:=hy;unfold gz0 at hy;simp only at hy;cases hc:(decide (c=0)||decide (c=1))with
 | false=>rw[hc]at hy;cases hy
 | true =>
  rw[hc]at hy;have hy:=Option.some.inj hy;subst hy;simp only[Bool.or_eq_true,decide_eq_true_eq]at hc;refine⟨_,[.int .u64 ((a+b+c)%18446744073709551616),.int .u64 ((a+b+c)/18446744073709551616)],rfl,fun g w=>⟨⟨gzm dz3 (dz1 _) (by simp only[Ev.inR,lo,hi];omega),rfl⟩,⟨gzm dz3 (dz1 _) (by simp only[Ev.inR,lo,hi];omega),rfl⟩⟩,?_⟩;obtain⟨a,rfl⟩:=Int.eq_ofNat_of_zero_le r0.1;obtain⟨b,rfl⟩:=Int.eq_ofNat_of_zero_le r1.1;obtain⟨c,rfl⟩:=Int.eq_ofNat_of_zero_le r2.1
  show(callFunc 227 #[.int .u64 a,.int .u64 b,.int .u64 c]).run Tryz.prog w=_
  rw[run_callFunc_extern Tryz.func227 (by kernel_rfl) (by kernel_rfl) (by kernel_rfl) (e:=add64Entry) (by kernel_rfl),run_add64 a b c (by omega) (by omega) (by omega) (by omega)];simp only[Result.andThen]
def jzz (x:Int×Int×Int):Option (Int×Int):=bif decide (x.2.2=0)||decide (x.2.2=1)then some ((x.1-x.2.1-x.2.2)%18446744073709551616,bif decide (x.1<x.2.1+x.2.2)then 1 else 0)else none
def Kzt:FSpec tb:=⟨[(0,.val 275),(1,.val 275),(2,.val 275)],[(0,.val 275),(1,.val 275)],jzz⟩
theorem AzH:bzU Tryz.prog tb 228 Kzt:=by
 refine uzC rfl fun g w (x:Int×Int×Int) vs bs (y:Int×Int) hy hinv hh=>?_
 obtain⟨a,b,c⟩:=x;obtain⟨v0,vs,b0,bs,rfl,rfl⟩:=azR hh;obtain⟨v1,vs,b1,bs,rfl,rfl⟩:=azR hh.2;obtain⟨v2,vs,b2,bs,rfl,rfl⟩:=azR hh.2.2;obtain⟨h0,h1,h2⟩:=hh;obtain⟨rfl,rfl⟩:vs=[]/\bs=[]:=by
  cases vs<;>cases bs<;>first|exact⟨rfl,rfl⟩|exact h2.elim
 obtain⟨e0,r0⟩:=dzK dz3 (dz1 _) h0.1;obtain⟨e1,r1⟩:=dzK dz3 (dz1 _) h1.1;obtain⟨e2,r2⟩:=dzK dz3 (dz1 _) h2.1;subst e0;subst e1;subst e2;simp only[Ev.inR,lo,hi]at r0 r1 r2;have hy:jzz (a,b,c)=some y:=hy;unfold jzz at hy;simp only at hy;cases hc:(decide (c=0)||decide (c=1))with
 | false=>rw[hc]at hy;cases hy
 | true =>
  rw[hc]at hy;have hy:=Option.some.inj hy;subst hy;simp only[Bool.or_eq_true,decide_eq_true_eq]at hc;refine⟨_,[.int .u64 ((a-b-c)%18446744073709551616),.int .u64 (bif decide (a<b+c)then 1 else 0)],rfl,fun g w=>⟨⟨gzm dz3 (dz1 _) (by simp only[Ev.inR,lo,hi];omega),rfl⟩,⟨gzm dz3 (dz1 _) (by cases decide (a<b+c)<;>simp[Ev.inR,lo,hi]),rfl⟩⟩,?_⟩;obtain⟨a,rfl⟩:=Int.eq_ofNat_of_zero_le r0.1;obtain⟨b,rfl⟩:=Int.eq_ofNat_of_zero_le r1.1;obtain⟨c,rfl⟩:=Int.eq_ofNat_of_zero_le r2.1
  show(callFunc 228 #[.int .u64 a,.int .u64 b,.int .u64 c]).run Tryz.prog w=_
  rw[run_callFunc_extern Tryz.func228 (by kernel_rfl) (by kernel_rfl) (by kernel_rfl) (e:=sub64Entry) (by kernel_rfl),run_sub64 a b c (by omega)];simp only[Result.andThen];have e1:(((a+18446744073709551616-b-c)%18446744073709551616:Nat):Int)=((a:Int)-b-c)%18446744073709551616:=by omega
  have e2:((if a<b+c then 1 else 0:Nat):Int)=(bif decide ((a:Int)<b+c)then 1 else 0):=by
   by_cases h:a<b+c
   .have:(a:Int)<b+c:=by omega
    simp[h,this]
   .have:¬(a:Int)<b+c:=by omega
    simp[h,this]
  rw[e1,e2]
def fzE (x:List UInt8×UInt8):Option Int:=some (Lib.indexByte x.1 x.2)
def qzV:FSpec tb:=⟨[(0,.val 9),(1,.val 5)],[(0,.val 3)],fzE⟩
theorem Hzx:∀(s:List UInt8) (c:UInt8),-1<=Lib.indexByte s c/\Lib.indexByte s c<(s.length:Int)+1:=by
 intro s c;induction s with
 | nil=>simp[Lib.indexByte]
 | cons b l ih =>
  unfold Lib.indexByte;simp only[List.length_cons];split
  .omega
  .split<;>omega
theorem nz2:bzU Tryz.prog tb 264 qzV:=by
 refine uzC rfl fun g w (x:List UInt8×UInt8) vs bs (y:Int) hy hinv hh=>?_
 obtain⟨s,c⟩:=x;obtain⟨v0,vs,b0,bs,rfl,rfl⟩:=azR hh;obtain⟨v1,vs,b1,bs,rfl,rfl⟩:=azR hh.2;obtain⟨h0,h1⟩:=hh;obtain⟨rfl,rfl⟩:vs=[]/\bs=[]:=by
  cases vs<;>cases bs<;>first|exact⟨rfl,rfl⟩|exact h1.elim
 obtain⟨e0,r0⟩:=uzE qzP (qzM _) h0.1;obtain⟨e1,r1⟩:=dzK notAgg5 (enc5_eq _) h1.1;subst e0;subst e1;have hy:=Option.some.inj (show some (Lib.indexByte s c)=some y from hy);subst hy;have hl:=Hzx s c;unfold az6 at r0;refine⟨_,[.int .i64 (Lib.indexByte s c)],rfl,fun g w=>⟨gzm yzJ (yzw _) (by simp only[Ev.inR,lo,hi];omega),rfl⟩,?_⟩
 show(callFunc 264 #[.string ⟨s.toArray⟩,.int .u8 (c.toNat:Int)]).run Tryz.prog w=_
 rw[run_callFunc_extern Tryz.func264 (by kernel_rfl) (by kernel_rfl) (by kernel_rfl) (e:=Extern.BytealgIndexByte.indexByte) (by kernel_rfl),Lib.run_indexByteString];simp only[Result.andThen];congr 3;simp
def fza (x:Int):Option Int:=some (64-(Lib.bitLen x.toNat:Int))
def mzX:FSpec tb:=⟨[(0,.val 275)],[(0,.val 3)],fza⟩
theorem qzj:azz Tryz.prog tb 250 mzX:=by
 refine yzD (enters_of (c:=gzx Tryz.f250) Tryz.func250 (by kernel_rfl) (by kernel_rfl)) rfl fun g w (x:Int) vs bs (y:Int) hy hinv hh=>?_
 obtain⟨v0,vs,b0,bs,rfl,rfl⟩:=azR hh;have h0:=hh;obtain⟨rfl,rfl⟩:vs=[]/\bs=[]:=by
  cases vs<;>cases bs<;>first|exact⟨rfl,rfl⟩|exact h0.elim
 obtain⟨e0,r0⟩:=dzK dz3 (dz1 _) h0.1;subst e0;simp only[Ev.inR,lo,hi]at r0;have hy:=Option.some.inj (show some (64-(Lib.bitLen x.toNat:Int))=some y from hy);subst hy;have hl:=Any.bitLen_le64 x (by omega) (by omega);refine⟨_,[.int .i64 (64-(Lib.bitLen x.toNat:Int))],rfl,fun g w=>⟨gzm yzJ (yzw _) (by simp only[Ev.inR,lo,hi];omega),rfl⟩,?_⟩;refine(Any.bits_LeadingZeros64 Tryz.lays134 x w (by omega) (by omega)).mono ?_;rintro e w' ⟨rfl,rfl⟩;exact⟨rfl,qzh.refl _⟩
end Go.Proofs.YtmkmofdnmllioaaGreatDoor
/- R1 -/
namespace Go.Proofs
open Go.Shelf
open Go.IntKind (i64 u64 u8 i32 u32 i16 u16)
def Tryz.lays105_ren:Go.Shelf.Ren:=⟨fun|105=>188|212=>220|99=>221|165=>222|166=>172|170=>223|169=>173|263=>238|264=>202|206=>239|240=>212|241=>240|276=>234|277=>248|n=>n,fun|9=>9|3=>3|4=>4|20=>20|0=>0|46=>237|109=>307|5=>5|72=>248|76=>253|51=>330|146=>331|53=>275|148=>287|70=>245|37=>246|75=>252|127=>298|164=>321|80=>255|n=>n,fun|n=>n⟩
theorem Tryz.lays105:Go.Proofs.Lays.n105 Tryz.prog Tryz.lays105_ren where
 mixed:=by kernel_rfl
 f99:=Tryz.func221.trans (congrArg some (by kernel_rfl))
 f105:=Tryz.func188.trans (congrArg some (by kernel_rfl))
 f165:=Tryz.func222.trans (congrArg some (by kernel_rfl))
 f166:=Tryz.func172.trans (congrArg some (by kernel_rfl))
 f169:=Tryz.func173.trans (congrArg some (by kernel_rfl))
 f170:=Tryz.func223.trans (congrArg some (by kernel_rfl))
 f206:=Tryz.func239.trans (congrArg some (by kernel_rfl))
 f212:=Tryz.func220.trans (congrArg some (by kernel_rfl))
 f240:=Tryz.func212.trans (congrArg some (by kernel_rfl))
 f241:=Tryz.func240.trans (congrArg some (by kernel_rfl))
 f263:=Tryz.func238.trans (congrArg some (by kernel_rfl))
 f264:=Tryz.func202.trans (congrArg some (by kernel_rfl))
 f276:=Tryz.func234.trans (congrArg some (by kernel_rfl))
 f277:=Tryz.func248.trans (congrArg some (by kernel_rfl))
 t0:=Tryz.underlying0
 a0:=Tryz.isAgg0
 z0:=Tryz.sizeOf0
 v0:=Tryz.zeroValue0
 t3:=Tryz.underlying3
 a3:=Tryz.isAgg3
 z3:=Tryz.sizeOf3
 v3:=Tryz.zeroValue3
 t4:=Tryz.underlying4
 a4:=Tryz.isAgg4
 z4:=Tryz.sizeOf4
 v4:=Tryz.zeroValue4
 t5:=Tryz.underlying5
 a5:=Tryz.isAgg5
 z5:=Tryz.sizeOf5
 v5:=Tryz.zeroValue5
 t9:=Tryz.underlying9
 a9:=Tryz.isAgg9
 z9:=Tryz.sizeOf9
 v9:=Tryz.zeroValue9
 t20:=Tryz.underlying20
 a20:=Tryz.isAgg20
 z20:=Tryz.sizeOf20
 v20:=Tryz.zeroValue20
 t37:=Tryz.underlying246
 a37:=Tryz.isAgg246
 z37:=Tryz.sizeOf246
 v37:=Tryz.zeroValue246
 t46:=Tryz.underlying237
 a46:=Tryz.isAgg237
 z46:=Tryz.sizeOf237
 v46:=Tryz.zeroValue237
 t51:=Tryz.underlying330
 a51:=Tryz.isAgg330
 z51:=Tryz.sizeOf330
 v51:=Tryz.zeroValue330
 t53:=Tryz.underlying275
 a53:=Tryz.isAgg275
 z53:=Tryz.sizeOf275
 v53:=Tryz.zeroValue275
 t70:=Tryz.underlying245
 a70:=Tryz.isAgg245
 z70:=Tryz.sizeOf245
 v70:=Tryz.zeroValue245
 t72:=Tryz.underlying248
 a72:=Tryz.isAgg248
 z72:=Tryz.sizeOf248
 v72:=Tryz.zeroValue248
 t75:=Tryz.underlying252
 a75:=Tryz.isAgg252
 z75:=Tryz.sizeOf252
 v75:=Tryz.zeroValue252
 t76:=Tryz.underlying253
 a76:=Tryz.isAgg253
 z76:=Tryz.sizeOf253
 v76:=Tryz.zeroValue253
 t109:=Tryz.underlying307
 a109:=Tryz.isAgg307
 z109:=Tryz.sizeOf307
 v109:=Tryz.zeroValue307
 t127:=Tryz.underlying298
 a127:=Tryz.isAgg298
 z127:=Tryz.sizeOf298
 v127:=Tryz.zeroValue298
 t146:=Tryz.underlying331
 a146:=Tryz.isAgg331
 z146:=Tryz.sizeOf331
 v146:=Tryz.zeroValue331
 t148:=Tryz.underlying287
 a148:=Tryz.isAgg287
 z148:=Tryz.sizeOf287
 v148:=Tryz.zeroValue287
 t164:=Tryz.underlying321
 a164:=Tryz.isAgg321
 z164:=Tryz.sizeOf321
 v164:=Tryz.zeroValue321
theorem Tryz.builder105:Builder.Extra Tryz.prog Tryz.lays105_ren where
 sizeBuilder:=by kernel_rfl
 liesBuilder:=by kernel_rfl
 t5:=Tryz.underlying5
 a5:=Tryz.isAgg5
 z5:=Tryz.sizeOf5
 v5:=Tryz.zeroValue5
 infoByte:=by kernel_rfl
 cellsByte:=by kernel_rfl
 sizeByte:=by kernel_rfl
 neB5:=by decide
end Go.Proofs
namespace Go.Proofs.YtmkmofdnmllioaaGreatDoor
open Go Go.Ev Go.RowKit
open Go.IntKind (i64 u64 u8 i32 u32 i16 u16)
theorem sz5 {w w':World}(h:Below w.heap.size w w'):qzh w w':=⟨h.os,h.tape,h.output,h.size,h.block⟩
def czy (x:List UInt8×Int):Option (List UInt8):=bif decide (0<=x.2)&&decide ((x.1.length:Int)*x.2<=140737488355328)then some (Lib.repeatL x.1 x.2.toNat)else none
def szR:FSpec tb:=⟨[(0,.val 9),(1,.val 3)],[(0,.val 9)],czy⟩
theorem nzU:azz Tryz.prog tb 188 szR:=by
 refine yzD (enters_of (c:=gzx Tryz.f188) Tryz.func188 (by kernel_rfl) (by kernel_rfl)) rfl fun g w (x:List UInt8×Int) vs bs (y:List UInt8) hy hinv hh=>?_
 obtain⟨s,c⟩:=x;obtain⟨v0,vs,b0,bs,rfl,rfl⟩:=azR hh;obtain⟨v1,vs,b1,bs,rfl,rfl⟩:=azR hh.2;obtain⟨h0,h1⟩:=hh;obtain⟨rfl,rfl⟩:vs=[]/\bs=[]:=by
  cases vs<;>cases bs<;>first|exact⟨rfl,rfl⟩|exact h1.elim
 obtain⟨e0,r0⟩:=uzE qzP (qzM _) h0.1;obtain⟨e1,r1⟩:=dzK yzJ (yzw _) h1.1;subst e0;subst e1;simp only[Ev.inR,lo,hi]at r1;have hy:czy (s,c)=some y:=hy;unfold czy at hy;simp only at hy;cases hc:(decide (0<=c)&&decide ((s.length:Int)*c<=140737488355328))with
 | false=>rw[hc]at hy;cases hy
 | true =>
  rw[hc]at hy;have hy:=Option.some.inj hy;subst hy;simp only[Bool.and_eq_true,decide_eq_true_eq]at hc;obtain⟨c,rfl⟩:=Int.eq_ofNat_of_zero_le hc.1;have hlen:s.length*c<=140737488355328:=by
   have:=hc.2;rw[<-Int.natCast_mul]at this;omega
  refine⟨_,[.string ⟨(Lib.repeatL s (c:Int).toNat).toArray⟩],rfl,fun g w=>⟨vzJ qzP (qzM _) (by rw[Lib.repeatL_length,Int.toNat_natCast,Nat.mul_comm];unfold az6;omega),rfl⟩,?_⟩;have:=Any.strings_Repeat Tryz.lays105 Tryz.builder105 ⟨s.toArray⟩ c w (by omega) (by simpa[ByteArray.size]using hlen);refine this.mono ?_;rintro e w' ⟨rfl,hb⟩;exact⟨by simp,sz5 hb⟩
end Go.Proofs.YtmkmofdnmllioaaGreatDoor
/- U2 -/
namespace Go.Proofs
open Go.Shelf
open Go.IntKind (i64 u64 u8 i32 u32 i16 u16)
def Tryz.lays283_ren:Go.Shelf.Ren:=⟨fun|283=>251|n=>n,fun|3=>3|9=>9|4=>4|n=>n,fun|n=>n⟩
theorem Tryz.lays283:Go.Proofs.Lays.n283 Tryz.prog Tryz.lays283_ren where
 mixed:=by kernel_rfl
 f283:=Tryz.func251.trans (congrArg some (by kernel_rfl))
 t3:=Tryz.underlying3
 a3:=Tryz.isAgg3
 z3:=Tryz.sizeOf3
 v3:=Tryz.zeroValue3
 t4:=Tryz.underlying4
 a4:=Tryz.isAgg4
 z4:=Tryz.sizeOf4
 v4:=Tryz.zeroValue4
 t9:=Tryz.underlying9
 a9:=Tryz.isAgg9
 z9:=Tryz.sizeOf9
 v9:=Tryz.zeroValue9
def Tryz.lays284_ren:Go.Shelf.Ren:=⟨fun|284=>252|129=>259|317=>260|318=>261|n=>n,fun|53=>275|3=>3|212=>341|0=>0|4=>4|46=>237|5=>5|9=>9|n=>n,fun|17=>5|n=>n⟩
theorem Tryz.lays284:Go.Proofs.LaysM.n284 Tryz.prog Tryz.lays284_ren where
 mixed:=by kernel_rfl
 f129:=Tryz.func259.trans (congrArg some (by kernel_rfl))
 f284:=Tryz.func252.trans (congrArg some (by kernel_rfl))
 f317:=Tryz.func260.trans (congrArg some (by kernel_rfl))
 f318:=Tryz.func261.trans (congrArg some (by kernel_rfl))
 t0:=Tryz.underlying0
 a0:=Tryz.isAgg0
 z0:=Tryz.sizeOf0
 v0:=Tryz.zeroValue0
 t3:=Tryz.underlying3
 a3:=Tryz.isAgg3
 z3:=Tryz.sizeOf3
 v3:=Tryz.zeroValue3
 t4:=Tryz.underlying4
 a4:=Tryz.isAgg4
 z4:=Tryz.sizeOf4
 v4:=Tryz.zeroValue4
 t5:=Tryz.underlying5
 a5:=Tryz.isAgg5
 z5:=Tryz.sizeOf5
 v5:=Tryz.zeroValue5
 t9:=Tryz.underlying9
 a9:=Tryz.isAgg9
 z9:=Tryz.sizeOf9
 v9:=Tryz.zeroValue9
 t46:=Tryz.underlying237
 a46:=Tryz.isAgg237
 z46:=Tryz.sizeOf237
 v46:=Tryz.zeroValue237
 t53:=Tryz.underlying275
 a53:=Tryz.isAgg275
 z53:=Tryz.sizeOf275
 v53:=Tryz.zeroValue275
 t212:=Tryz.underlying341
 a212:=Tryz.isAgg341
 z212:=Tryz.sizeOf341
 v212:=Tryz.zeroValue341
 g17:=by kernel_rfl
 i0:=by kernel_rfl
 i3:=by kernel_rfl
 i4:=by kernel_rfl
 i5:=by kernel_rfl
 i9:=by kernel_rfl
 i46:=by kernel_rfl
 i53:=by kernel_rfl
 i212:=by kernel_rfl
 m17:=by kernel_rfl
def Tryz.lays285_ren:Go.Shelf.Ren:=⟨fun|285=>253|n=>n,fun|37=>246|53=>275|3=>3|4=>4|51=>330|9=>9|5=>5|0=>0|n=>n,fun|n=>n⟩
theorem Tryz.lays285:Go.Proofs.Lays.n285 Tryz.prog Tryz.lays285_ren where
 mixed:=by kernel_rfl
 f285:=Tryz.func253.trans (congrArg some (by kernel_rfl))
 t0:=Tryz.underlying0
 a0:=Tryz.isAgg0
 z0:=Tryz.sizeOf0
 v0:=Tryz.zeroValue0
 t3:=Tryz.underlying3
 a3:=Tryz.isAgg3
 z3:=Tryz.sizeOf3
 v3:=Tryz.zeroValue3
 t4:=Tryz.underlying4
 a4:=Tryz.isAgg4
 z4:=Tryz.sizeOf4
 v4:=Tryz.zeroValue4
 t5:=Tryz.underlying5
 a5:=Tryz.isAgg5
 z5:=Tryz.sizeOf5
 v5:=Tryz.zeroValue5
 t9:=Tryz.underlying9
 a9:=Tryz.isAgg9
 z9:=Tryz.sizeOf9
 v9:=Tryz.zeroValue9
 t37:=Tryz.underlying246
 a37:=Tryz.isAgg246
 z37:=Tryz.sizeOf246
 v37:=Tryz.zeroValue246
 t51:=Tryz.underlying330
 a51:=Tryz.isAgg330
 z51:=Tryz.sizeOf330
 v51:=Tryz.zeroValue330
 t53:=Tryz.underlying275
 a53:=Tryz.isAgg275
 z53:=Tryz.sizeOf275
 v53:=Tryz.zeroValue275
end Go.Proofs
namespace Go.Proofs.YtmkmofdnmllioaaGreatDoor
open Go Go.Shelf Go.RowKit Go.Sort Go.Lib Go.Proofs
open Go.IntKind (i64 u64 u8 i32 u32 i16 u16)
set_option maxHeartbeats 6400000 in
theorem Hzc (u:Nat)(hu64:u<18446744073709551616)(w:World) (htab:Lib.TabIs Tryz.prog w "internal/strconv.uint64pow10" .u64 Lib.pow10Tab) :
 Calls Tryz.prog 245 #[.int .u64 (u:Int),.int .i64 10] w fun e w'=>e = .returned (.string ⟨(Lib.decDigits u).toArray⟩)/\Below w.heap.size w w':=by
 have e104:∀args w,(callFunc 251 args).run Tryz.prog w = .ok (.enter 251 args) w:=enters_of Tryz.func251 (by kernel_rfl) rfl;have e105:∀args w,(callFunc 252 args).run Tryz.prog w = .ok (.enter 252 args) w:=enters_of Tryz.func252 (by kernel_rfl) rfl;have e106:∀args w,(callFunc 253 args).run Tryz.prog w = .ok (.enter 253 args) w:=enters_of Tryz.func253 (by kernel_rfl) rfl;by_cases hs:u<100
 .have hi:(u:Int)<100:=by omega
  go_enter Tryz.func245,Tryz.ntmps245
  go_wp2_with (go_at_fn 251;refine(Any.internal_strconv_small Tryz.lays283 u hs _).mono ?_;rintro e w' ⟨rfl,rfl⟩)
  go_ret
  exact⟨rfl,Below.refl _ _⟩
 .have hu1:1<=u:=by omega
  have hnd20:Lib.nDigits u<=20:=by have:=Lib.numDigits_eq u hu1 hu64;split at this<;>omega
  have hal:Tryz.prog.arrayLen 335=24:=by simp[Program.arrayLen,Tryz.underlying335]
  have hsl:∀W,(Instr.sliceAt 335 (.pointer (some ⟨w.heap.size,0,none⟩)) none (some (.int .i64 (Lib.nDigits u:Int))) none).run Tryz.prog W = .ok (.slice (some ⟨w.heap.size,0,none⟩) (Lib.nDigits u) 24) W:=fun W=>by
   rw[run_sliceAt_array_h W 335 ⟨w.heap.size,0,none⟩ (by simp[Program.arrayLen,Program.elem,Tryz.underlying335]) .i64 (Lib.nDigits u:Int) (by omega) (by rw[hal];omega)]
   go_simp
  have hH0:=Lib.holds_zero0 w 335 (Lib.nDigits u) (by omega);have hfmt:=Any.internal_strconv_formatBase10 Tryz.lays285 w.heap.size 0 24 u (Array.replicate (Lib.nDigits u) 0) (w.alloc (.cells Lib.zeros24 335)) hH0 (by rw[Array.size_replicate];exact Lib.lt_pow_nDigits u) hu64 (by rw[Array.size_replicate];omega);rw[Array.size_replicate]at hfmt;have HH0:=Lib.hid hH0;have iu:(100:Int)<=(u:Int):=by omega
  clear hH0 hal
  go_enter Tryz.func245,Tryz.ntmps245
  go_wp2_with (first
   | (go_at_fn 252;refine(Any.internal_strconv_numDigits Tryz.lays284 u hu1 hu64 _ (Lib.tabIs_alloc htab _)).mono ?_;rintro e w' ⟨rfl,rfl⟩))
  go_at_fn 253
  refine hfmt.mono ?_;rintro e w' ⟨rfl,k,v',dk,rfl,hF⟩;have hcv:(convert 246 9 (.slice (some ⟨w.heap.size,0,none⟩) (Lib.nDigits u) 24)).run Tryz.prog ((putRow (fun(b:UInt8)=>Value.int .u8 (b.toNat:Int)) (w.alloc (.cells Lib.zeros24 335)) w.heap.size 0 dk).drewN k) = .ok (.string ⟨(Lib.decDigits u).toArray⟩) ((putRow (fun(b:UInt8)=>Value.int .u8 (b.toNat:Int)) (w.alloc (.cells Lib.zeros24 335)) w.heap.size 0 dk).drewN k):=by
   have h:=run_convert_bytes_back (P:=Tryz.prog) ((putRow (fun(b:UInt8)=>Value.int .u8 (b.toNat:Int)) (w.alloc (.cells Lib.zeros24 335)) w.heap.size 0 dk).drewN k) 246 9 5 ⟨w.heap.size,0,none⟩ 24 (Lib.decDigits u) Tryz.underlying246 Tryz.underlying5 Tryz.underlying9 (fun j hj=>by
    rw[Lib.row_is_numeral hF j hj,Lib.add_plain,World.cell?_drewN];exact cell?_putRow (fun(b:UInt8)=>Value.int .u8 (b.toNat:Int)) _ w.heap.size 0 _ dk HH0.out (by rw[hF.size,Array.size_replicate]) j (by rw[hF.size];rw[Lib.decDigits_length]at hj;exact hj))
   rw[Lib.decDigits_length]at h;exact h
  go_wp2
  go_ret
  obtain⟨os,eo⟩:=Lib.fin_at w (.cells Lib.zeros24 335) dk k 0;exact⟨rfl,by rw[eo];exact Lib.below_grow w.heap.size w (Nat.le_refl _) k os⟩
end Go.Proofs.YtmkmofdnmllioaaGreatDoor
/- U3 -/
namespace Go.Proofs.YtmkmofdnmllioaaGreatDoor
open Go Go.Ev
open Go.IntKind (i64 u64 u8 i32 u32 i16 u16)
def dzL (x:Int×Int):Option (List UInt8):=bif decide (x.2=10)then some (Lib.decDigits x.1.toNat)else none
def uzF:FSpec tb:=⟨[(0,.val 275),(1,.val 3)],[(0,.val 9)],dzL⟩
theorem digits_le {u:Nat}(h:u<18446744073709551616):(Lib.decDigits u).length<=20:=by
 rw[Lib.decDigits_length];by_cases h0:u=0
 .subst h0;rw[Lib.nDigits_small (by omega)];omega
 .have:=Lib.numDigits_eq u (by omega) h;split at this<;>omega
theorem qzs:azz Tryz.prog tb 245 uzF:=by
 refine yzD (enters_of (c:=gzx Tryz.f245) Tryz.func245 (by kernel_rfl) (by kernel_rfl)) rfl fun g w (x:Int×Int) vs bs (y:List UInt8) hy hinv hh=>?_
 obtain⟨n,c⟩:=x;obtain⟨v0,vs,b0,bs,rfl,rfl⟩:=azR hh;obtain⟨v1,vs,b1,bs,rfl,rfl⟩:=azR hh.2;obtain⟨h0,h1⟩:=hh;obtain⟨rfl,rfl⟩:vs=[]/\bs=[]:=by
  cases vs<;>cases bs<;>first|exact⟨rfl,rfl⟩|exact h1.elim
 obtain⟨e0,r0⟩:=dzK dz3 (dz1 _) h0.1;obtain⟨e1,r1⟩:=dzK yzJ (yzw _) h1.1;subst e0;subst e1;simp only[Ev.inR,lo,hi]at r0;have hy:dzL (n,c)=some y:=hy;unfold dzL at hy;simp only at hy;cases hc:decide (c=10)with
 | false=>rw[hc]at hy;cases hy
 | true =>
  rw[hc]at hy;have hy:=Option.some.inj hy;subst hy;have hc:=of_decide_eq_true hc;subst hc;obtain⟨u,rfl⟩:=Int.eq_ofNat_of_zero_le (show 0<=n by omega);have hu:u<18446744073709551616:=by omega
  have hl:=digits_le hu;rw[Int.toNat_natCast];refine⟨_,[.string ⟨(Lib.decDigits u).toArray⟩],rfl,fun g w=>⟨vzJ qzP (qzM _) (by unfold az6;omega),rfl⟩,?_⟩;have htab:=hinv.2.2.2;obtain⟨b,hb1,hb2,hb3⟩:=htab;refine(Hzc u hu w hb3).mono ?_;rintro e w' ⟨rfl,hb⟩;exact⟨rfl,sz5 hb⟩
end Go.Proofs.YtmkmofdnmllioaaGreatDoor