import Derived.Test.YtkafbjodbjkieaaGreatDoorEvB
import Derived.Orders
import Derived.OrdersIn
import Derived.RangeFuncCalls
import Derived.RangeFuncIn
import Derived.TacticsIn
import Derived.Scope
/- EvBb -/
namespace Go.Ev
open Go
open Go.IntKind (i64 u64 u8 i32 u32 i16 u16)
variable {P:Program} {tb:Tab} {R:Type} {Γ:List (Nat×FSpec tb)}
theorem ezQ {α β:Type}(x:Option α){f g:α->Option β}(h:∀a,f a=g a):obnd x f=obnd x g:=congrArg (obnd x) (funext h)
theorem newVar_k {T:Nat->Type}(s:St T)(d:Nat)(z:List (AC T))(κ:St T->Option R):newVar s d z κ=obnd (newVar s d z some) κ:=by
 unfold newVar;cases s.used d<;>rfl
theorem tzK (s:St tb.T)(d e:Nat)(xs:List (tb.T e))(κ:St tb.T->Option R):jzt tb s d e xs κ=obnd (jzt tb s d e xs some) κ:=by
 unfold jzt;cases s.used d<;>rfl
theorem DzV (fid:Nat)(vs:List (SV tb.T))(dst:Option Nat)(s:St tb.T)(κ:St tb.T->Option R):∀Γ:List (Nat×FSpec tb),kza P tb fid vs dst s κ Γ=obnd (kza P tb fid vs dst s some Γ) κ
 | []=>rfl
 | (g,sp)::Γ=>by
  simp only[kza];cases Nat.beq g fid with
  | false=>exact DzV fid vs dst s κ Γ
  | true =>
   simp only[cond_true];cases extS P tb s (vget s fun i=>vs[i]?) sp.ins with
   | none=>exact DzV fid vs dst s κ Γ
   | some x =>
    simp only;cases(czl (idsS (vget s fun i=>vs[i]?) sp.ins)&&Nat.beq (azX sp.ins).length vs.length)with
    | false=>rfl
    | true =>
     simp only[cond_true];rw[ezi];congr 1;funext y;split<;>rfl
theorem newAr_k {tb:Tab}{R:Type}(s:St tb.T)(d e:Nat)(xs:List (tb.T e))(κ:St tb.T->Option R):lzW tb s d e xs κ=obnd (lzW tb s d e xs some) κ:=by
 unfold lzW;cases s.used d<;>rfl
theorem Lzl {tb:Tab}{R:Type}(s:St tb.T)(i d e:Nat)(xs:List (tb.T e))(κ:St tb.T->Option R):tzJ tb s i d e xs κ=obnd (tzJ tb s i d e xs some) κ:=newAr_k ..
theorem BzF {tb:Tab}{R:Type}(Γ:List (Nat×FSpec tb))(s:St tb.T)(d e:Nat)(xs:List (tb.T e))(κ:St tb.T->Option R):hzk tb Γ s d e xs κ=obnd (hzk tb Γ s d e xs some) κ:=by
 unfold hzk;cases uzI Γ d
 .exact tzK ..
 .exact newAr_k ..
theorem HzI (xt e:Nat)(xv:Option (SV tb.T))(s:St tb.T)(κ:List (tb.T e)->Option R):szH P tb xt e xv s κ=obnd (szH P tb xt e xv s some) κ:=by
 unfold szH
 repeat' (first|rfl|split)
 .rw[dzw];congr 1;rw[ezi];exact ezQ _ fun _=>rfl
 .cases Nat.beq (P.cellsOf e) 1<;>rfl
theorem Mz5 (Γ:List (Nat×FSpec tb))(dst:Option Nat)(st xt:Nat)(sv xv:SV tb.T)(s:St tb.T)(κ:St tb.T->Option R):jzs P tb Γ dst st xt sv xv s κ=obnd (jzs P tb Γ dst st xt sv xv s some) κ:=by
 unfold jzs;cases dst with
 | none=>rfl
 | some d =>
  simp only;cases izG P st with
  | none=>rfl
  | some e =>
   simp only;cases(!(czR P e&&jz1 P e&&Nat.blt 0 (P.bytesOf e)))with
   | true=>rfl
   | false =>
    simp only[cond_false];refine(HzI ..).trans ?_;refine Eq.trans ?_ (congrArg (obnd · κ) (HzI ..).symm);rw[ezi];refine ezQ _ fun ys=>?_
    repeat' (first|rfl|split)
    .rw[ezi];exact ezQ _ fun zs=>BzF ..
    .cases s.tok ‹Nat›
     .rfl
     .simp only[cond_true];rw[ezi];exact ezQ _ fun zs=>tzK ..
    .rw[dzw];congr 1;rw[ezi];exact ezQ _ fun zs=>Lzl ..
theorem evPut_k (t:Nat)(m kx x:Operand)(dst:Option Nat)(s:St tb.T)(κ:St tb.T->Option R):xzo P tb t m kx x dst s κ=obnd (xzo P tb t m kx x dst s some) κ:=by
 unfold xzo
 repeat' (first|rfl|split)
 all_goals (first|(rw[dzw];rfl)|(rw[dzw,dzw];rfl))
theorem evOp_k (o:Oper)(s:St tb.T)(κ:St tb.T->Option R):evOp P tb Γ o s κ=obnd (evOp P tb Γ o s some) κ:=by
 unfold evOp;split
 all_goals first
  | exact(nzG ..).trans ((qzT _ _ _).trans (congrArg (obnd · κ) (nzG ..).symm))
  | exact evPut_k ..
  | skip
 all_goals repeat' (first|rfl|exact newVar_k .. | exact BzF .. | exact tzK .. | exact DzV .. | exact Mz5 .. | exact(nzG ..).trans ((qzT _ _ _).trans (congrArg (obnd · κ) (nzG ..).symm))|(simp only[tzL,dzw,ezi,aza,Azm];done)|split)
 all_goals (first|(rw[dzw];rfl)|(rw[dzw,dzw];rfl)|skip)
 all_goals (simp only[dzw,ezi,Azm];congr 1)
 all_goals (first|exact BzF .. | exact ezQ _ fun _=>Lzl .. | exact ezQ _ fun _=>BzF .. | exact tzK .. | exact ezQ _ fun _=>tzK .. | (split<;>rfl)|(congr 1;split<;>rfl)|(refine ezQ _ fun _=>?_;split<;>rfl)|(refine ezQ _ fun _=>?_;rw[dzw];congr 1;split<;>rfl)|skip)
theorem uzC {ops:Array Oper}(o:Oper)(s:St tb.T)(κ:Foot->St tb.T->Option R):evG P tb Γ ops o s κ=obnd (evG P tb Γ ops o s fun f s'=>some (f,s')) fun p=>κ p.1 p.2:=by
 have key:∀(s0:St tb.T) f,evOp P tb Γ o s0 (κ f)=obnd (evOp P tb Γ o s0 fun s'=>some (f,s')) fun p=>κ p.1 p.2:=fun s0 f=>by
  rw[evOp_k,evOp_k (κ:=fun s'=>some (f,s')),ezi];rfl
 unfold evG;split
 .exact key _ _
 .split
  .rfl
  .split
   .rfl
   .split
    .rename_i want _ _ _ _ _ _ _ _ _ _;rw[tzL];cases want<;>simp only[cond_true,cond_false,aza]<;>rw[key]
    .rfl
    .rfl
theorem HzH {ops:Array Oper}:∀(os:List Oper) (s:St tb.T) (κ:St tb.T->Option R),rzo P tb Γ ops os s κ=obnd (rzo P tb Γ ops os s some) κ
 | [],_,_=>rfl
 | o::os,s,κ=>by
  simp only[rzo];rw[uzC,uzC (κ:=fun _ s'=>rzo P tb Γ ops os s' some),ezi];exact ezQ _ fun p=>HzH os p.2 κ
theorem tzr {ops:Array Oper}:∀(os:List Oper) (ms:List Nat) (seen:List (Oper×Foot)) (s:St tb.T) (κ:St tb.T->Option R),kz6 P tb Γ ops os ms seen s κ=obnd (kz6 P tb Γ ops os ms seen s some) κ
 | [],_,_,_,_=>rfl
 | _::_,[],_,_,_=>rfl
 | o::os,m::ms,seen,s,κ=>by
  simp only[kz6];rw[uzC,uzC (κ:=fun f s'=>bif wzO ops m o f seen 0 then kz6 P tb Γ ops os ms (seen++[(o,f)]) s' some else none),ezi];refine ezQ _ fun p=>?_
  rw[dzw];congr 1;exact tzr os ms _ p.2 κ
end Go.Ev
namespace Go.Ev
open Go
open Go.IntKind (i64 u64 u8 i32 u32 i16 u16)
variable {P:Program} {tb:Tab} {N:Nat} {W:Nat->Prop} {a0:Act} {g0:Gh} {w0:World} {D0:Nat->Prop}
variable {s s':St tb.T} {g g':Gh} {μ μ':Nat->Nat} {τ τ':Nat->Option Nat} {a:Act} {w w':World}
variable {Γ:List (Nat×FSpec tb)} {ops:Array Oper} {Q:Exit->Act->World->Prop}
theorem upd_id {α:Type}(f:Nat->α)(i:Nat)(v:α)(h:f i=v):upd f i v=f:=funext fun j=>by
 rw[azu];split
 .rename_i e;subst e;exact h.symm
 .rfl
theorem Gzs {T:Nat->Type}(s:St T)(t:Nat)(v:SV T)(h:s.env t=some v):s.put t v=s:=by
 unfold St.put;rw[upd_id _ _ _ h]
inductive GStep (P:Program) (tb:Tab) (Γ:List (Nat×FSpec tb)) (ops:Array Oper) (o:Oper) (s:St tb.T):Foot->St tb.T->Prop where
 | run (s':St tb.T):(∀j want,o.guard=some (j,want)->∃oj t,ops[j]?=some oj/\oj.dst=some t/\s.env t=some (.c (.d (.bool want)))) ->
  evOp P tb Γ o s some=some s'->GStep P tb Γ ops o s (azY Γ o.op s) s'
 | skip (j:Nat) (want:Bool) (oj:Oper) (t:Nat):o.guard=some (j,want)->ops[j]?=some oj->oj.dst=some t->(s.env t=some (.c (.d (.bool (!want))))\/s.env t=some (.tup [])) ->
  GStep P tb Γ ops o s .p (s.putO o.dst (.tup []))
theorem Dz4 {o:Oper}{f:Foot}(he:evG P tb Γ ops o s (fun f s'=>some (f,s'))=some (f,s')):GStep P tb Γ ops o s f s':=by
 have key:∀f0,evOp P tb Γ o s (fun s'=>some (f0,s'))=some (f,s')->evOp P tb Γ o s some=some s'/\f=f0:=fun f0 h=>by
  rw[evOp_k]at h;obtain⟨s1,h1,h2⟩:=azp.1 h;simp only[sE0,Prod.mk.injEq]at h2;exact⟨by rw[h1,h2.2],h2.1.symm⟩
 unfold evG at he;split at he
 .rename_i hg;obtain⟨h1,rfl⟩:=key _ he;exact .run _ (fun j want h=>by rw[hg]at h;cases h) h1
 .rename_i j want hg;split at he
  .cases he
  .rename_i oj hj;split at he
   .cases he
   .rename_i t ht;split at he
    .rename_i b hb;cases b<;>cases want<;>simp only[brn,cond_true,cond_false]at he
     .rw[Gzs _ _ _ hb]at he;obtain⟨h1,rfl⟩:=key _ he;refine .run _ (fun j' want' h=>?_) h1;rw[hg]at h;simp only[sE0,Prod.mk.injEq]at h;obtain⟨rfl,rfl⟩:=h;exact⟨oj,t,hj,ht,hb⟩
     .rw[Gzs _ _ _ hb]at he;simp only[sE0,Prod.mk.injEq]at he;obtain⟨rfl,rfl⟩:=he;exact .skip j true oj t hg hj ht (.inl hb)
     .rw[Gzs _ _ _ hb]at he;simp only[sE0,Prod.mk.injEq]at he;obtain⟨rfl,rfl⟩:=he;exact .skip j false oj t hg hj ht (.inl hb)
     .rw[Gzs _ _ _ hb]at he;obtain⟨h1,rfl⟩:=key _ he;refine .run _ (fun j' want' h=>?_) h1;rw[hg]at h;simp only[sE0,Prod.mk.injEq]at h;obtain⟨rfl,rfl⟩:=h;exact⟨oj,t,hj,ht,hb⟩
    .rename_i hb;simp only[sE0,Prod.mk.injEq]at he;obtain⟨rfl,rfl⟩:=he;exact .skip j want oj t hg hj ht (.inr hb)
    .cases he
theorem yzh (h:SimAt P tb N W a0 g0 w0 D0 s g μ τ a w){j t:Nat}{oj:Oper}(hj:ops[j]?=some oj)(ht:oj.dst=some t):
 (∀b,s.env t=some (.c (.d (.bool b)))->yielded ops a.tmps j=some b)/\(s.env t=some (.tup [])->yielded ops a.tmps j=none):=by
 refine⟨fun b hb=>?_,fun hb=>?_⟩
 .obtain⟨u,hu,hr⟩:=h.env t _ hb;have hr':RepD P tb g w (.bool b) u:=hr;cases hr';simp[yielded,hj,ht,hu]
 .obtain⟨u,hu,us,hr,h2⟩:=h.env t _ hb;have:us=[]:=by cases us with|nil=>rfl|cons _ _=>exact h2.elim
  subst this;simp[yielded,hj,ht,hu,hr]
theorem ozr (hΓ:∀p∈Γ,ez7 P tb p.1 p.2)(hsl:∀p∈Γ,(azX p.2.ins).map (·.1)=List.range (azX p.2.ins).length)(h:SimAt P tb N W a0 g0 w0 D0 s g μ τ a w){i:Nat}{o:Oper}(ho:ops[i]?=some o)
 (hd:∀d,o.dst=some d->d<N/\W d) {f:Foot} (he:GStep P tb Γ ops o s f s'):wpOp P ops Q i (Goes P tb N W a0 g0 w0 D0 s') a w:=by
 unfold wpOp;rw[ho];simp only;cases he with
 | run _ hg he =>
  have hw:Region.wanted o (yielded ops a.tmps)=true:=by
   unfold Region.wanted;cases hgd:o.guard with
   | none=>rfl
   | some p =>
    obtain⟨oj,t,h1,h2,h3⟩:=hg p.1 p.2 hgd;have:=(yzh h h1 h2).1 _ h3;simp[this]
  rw[if_pos hw];exact .inl (Mz7 hΓ hsl h o hd he)
 | skip j want oj t hgd h1 h2 h3 =>
  have hw:Region.wanted o (yielded ops a.tmps)=false:=by
   unfold Region.wanted;rw[hgd];rcases h3 with h3|h3
   .have:=(yzh h h1 h2).1 _ h3;simp[this]
   .have:=(yzh h h1 h2).2 h3;simp[this]
  rw[hw,if_neg (by simp)];exact(h.putO hd (v:=.tup []) (u:=undef) ⟨[],rfl,trivial⟩ (by simp[SV.ids])).sim
theorem Dzd (hΓ:∀p∈Γ,ez7 P tb p.1 p.2)(hsl:∀p∈Γ,(azX p.2.ins).map (·.1)=List.range (azX p.2.ins).length)(hd:∀o∈ops.toList,∀d,o.dst=some d->d<N/\W d):
 ∀(os:List Oper) (k:Nat) (s:St tb.T) (a:Act) (w:World),(∀j,os[j]?=ops[k+j]?)->Sim P tb N W a0 g0 w0 D0 s a w->rzo P tb Γ ops os s some=some s' ->
  (∀a w,Sim P tb N W a0 g0 w0 D0 s' a w->Q .normal a w)->wpOps P ops Q (List.range' k os.length) a w
 | [],k,s,a,w,_,h,he,hQ=>by
  simp only[rzo,sE0]at he;subst he;exact hQ a w h
 | o::os,k,s,a,w,hk,⟨g,μ,τ,h⟩,he,hQ=>by
  have ho:ops[k]?=some o:=by simpa using(hk 0).symm
  simp only[rzo]at he;rw[uzC]at he;obtain⟨⟨f,s1⟩,h1,h2⟩:=azp.1 he;rw[List.length_cons,List.range'_succ,wpOps_cons];refine wpOp_mono (fun a1 w1 h3=>?_) (ozr hΓ hsl h ho (hd o (by
   have:=Array.mem_of_getElem? ho;simpa using this)) (Dz4 h1))
  exact Dzd hΓ hsl hd os (k+1) s1 a1 w1 (fun j=>by
   have:=hk (j+1);simp only[List.getElem?_cons_succ]at this;rw[this];congr 1;omega) h3 h2 hQ
end Go.Ev
namespace Go.Ev
open Go
open Go.IntKind (i64 u64 u8 i32 u32 i16 u16)
variable {P:Program} {tb:Tab} {R:Type} {Γ:List (Nat×FSpec tb)} {s s' s1:St tb.T}
theorem ozb {T:Nat->Type}{ρ ρ':Operand->Option (SV T)}:∀{xs:List Operand},(∀x∈xs,ρ x=ρ' x)->vals ρ xs=vals ρ' xs
 | [],_=>rfl
 | x::xs,h=>by
  simp only[vals];rw[h x (by simp),ozb (xs:=xs) fun y hy=>h y (by simp[hy])]
theorem Dze {T:Nat->Type}{ρ ρ':Operand->Option (SV T)}{t:Nat}:∀{ps:List (Nat×Operand)} {cells:List (AC T)},(∀p∈ps,ρ p.2=ρ' p.2)->ozJ P t ρ ps cells=ozJ P t ρ' ps cells
 | [],_,_=>rfl
 | (i,x)::ps,cells,h=>by
  simp only[ozJ];rw[h (i,x) (by simp)];simp only[Dze (ps:=ps) fun y hy=>h y (by simp[hy])]
theorem rz1 {T:Nat->Type}{ρ ρ':Operand->Option (SV T)}{x:Option Operand}{d:Int}(h:∀y∈x.toList,ρ y=ρ' y):dzt ρ x d=dzt ρ' x d:=by
 cases x with
 | none=>rfl
 | some y=>simp only[dzt];rw[h y (by simp)]
theorem uzD {ρ ρ':Operand->Option (SV tb.T)}{κ:SV tb.T->Option R}(o:Op)(h:∀x∈o.operands.toList,ρ x=ρ' x):evP P tb o ρ κ=evP P tb o ρ' κ:=by
 cases o
 case call c =>
  obtain⟨callee,args,tys⟩:=c;have hv:vals ρ args.toList=vals ρ' args.toList:=ozb fun x hx=>h x (by
   simp only[Op.operands,Call.operands,Array.toList_append,List.mem_append];exact .inr hx)
  cases callee with
  | builtin b=>cases b<;>simp only[evP,hv]
  | value f=>rfl
  | invoke r m=>rfl
 case build t ps =>
  have:∀cells:List (AC tb.T),ozJ P t ρ ps.toList cells=ozJ P t ρ' ps.toList cells:=fun cells=>Dze fun p hp=>h p.2 (by
   simp only[Op.operands,List.mem_map];exact⟨p,hp,rfl⟩)
  simp only[evP,this]
 case slice t x l hh m =>
  have hx:=h x (by simp[Op.operands]);have h1:∀d,dzt ρ l d=dzt ρ' l d:=fun d=>rz1 fun y hy=>h y (by cases l<;>simp_all [Op.operands])
  have h2:∀d,dzt ρ hh d=dzt ρ' hh d:=fun d=>rz1 fun y hy=>h y (by cases hh<;>simp_all [Op.operands])
  cases m with
  | none=>simp only[evP,hx,h1,h2]
  | some m =>
   have h3:∀d,dzt ρ (some m) d=dzt ρ' (some m) d:=fun d=>rz1 fun y hy=>h y (by simp_all [Op.operands])
   simp only[evP,hx,h1,h2,h3]
 case makeFunc fn first caps =>
  have hv:vals ρ caps.toList=vals ρ' caps.toList:=ozb fun x hx=>h x (by
   simp only[Op.operands,Array.toList_append,List.mem_append];exact .inr hx)
  cases fn<;>simp only[evP,hv]
 all_goals first
  | rfl
  | (simp only[evP];simp only[Op.operands,List.mem_cons,List.not_mem_nil,or_false,forall_eq_or_imp,forall_eq]at h;simp only[h];done)
structure Eff (T:Nat->Type) where
 d:Option Nat
 v:SV T
 F:Nat->Bool:=fun _=>false
 b:Nat->Option (List (AC T)):=fun _=>none
 it:Nat->Option (Ob T):=fun _=>none
 ar:Nat->Option (Ar T):=fun _=>none
 tk:Nat->Bool:=fun _=>false
def Eff.apply {T:Nat->Type}(e:Eff T)(s:St T):St T :=
  { env := match e.d with | some d => upd s.env d (some e.v) | none => s.env
    blk:=fun i=>(e.b i).or (s.blk i)
    itr:=fun i=>(e.it i).or (s.itr i)
    arr:=fun i=>(e.ar i).or (s.arr i)
    tok:=fun i=>e.tk i||s.tok i
    used:=fun i=>e.F i||s.used i
    ro := s.ro }
def Foot.mem:Foot->Nat->Prop
 | .l i,j | .st i,j=>j=i
 | _,_=>False
def Foot.memA:Foot->Nat->Prop
 | .la i,j | .sa i,j=>j=i
 | _,_=>False
def sh {T:Nat->Type}:Option (Ar T)->Option (Bool×Nat×Nat)
 | some (.mk o e xs)=>some (o,e,xs.length)
 | none=>none
structure Does (P:Program) (tb:Tab) (Γ:List (Nat×FSpec tb)) (o:Oper) (s:St tb.T) (f:Foot) (s':St tb.T) (e:Eff tb.T):Prop where
 eq:s'=e.apply s
 fresh:∀i,e.F i=true->s.used i=false
 mb:∀i,e.b i≠none->e.F i=true\/f = .st i
 mit:∀i,e.it i≠none->e.F i=true
 mar:∀i z,e.ar i=some z->e.F i=true\/(f = .sa i/\sh (some z)=sh (s.arr i))
 mtk:∀i,e.tk i=true->e.F i=true
 dst:e.d=none\/e.d=o.dst
 reads:∀i,(f.mem i\/f.memA i)->∃t v,.tmp t∈o.op.operands.toList/\s.env t=some v/\i∈v.ids
 again:∀s1,(∀x∈o.op.operands.toList,s1.val x=s.val x)->(∀i,f.mem i->s1.blk i=s.blk i/\s1.itr i=s.itr i)->(∀i,f.memA i->s1.arr i=s.arr i)->(∀x∈o.op.operands.toList,∀v,s.val x=some v->∀i∈v.ids,sh (s1.arr i)=sh (s.arr i))->s1.ro=s.ro->(∀i,e.F i=true->s1.used i=false)->evOp P tb Γ o s1 some=some (e.apply s1)/\azY Γ o.op s1=f
theorem czG (s:St tb.T)(d:Option Nat)(v:SV tb.T):s.putO d v=Eff.apply {d:=d,v:=v} s:=by
 cases d<;>simp[Eff.apply,St.putO,St.put]
def ezy {T:Nat->Type}(e:Eff T)(dt:Option Nat)(s:St T):St T :=
 {e.apply s with tok:=fun i=>match dt with|some t=>(bif Nat.beq i t then false else(e.apply s).tok i)|none=>(e.apply s).tok i}
theorem Lz3 {T:Nat->Type}(e:Eff T)(s:St T):ezy e none s=e.apply s:=rfl
structure DoesT (P:Program) (tb:Tab) (Γ:List (Nat×FSpec tb)) (o:Oper) (s:St tb.T) (f:Foot) (s':St tb.T) (e:Eff tb.T) (dt:Option Nat):Prop where
 eq:s'=ezy e dt s
 fresh:∀i,e.F i=true->s.used i=false
 mb:∀i,e.b i≠none->e.F i=true\/f = .st i
 mit:∀i,e.it i≠none->e.F i=true
 mar:∀i z,e.ar i=some z->e.F i=true\/(f = .sa i/\sh (some z)=sh (s.arr i))
 mtk:∀i,e.tk i=true->e.F i=true
 mdt:∀i,dt=some i->f = .ap (some i)
 dst:e.d=none\/e.d=o.dst
 reads:∀i,((f.mem i\/f.memA i)\/f = .ap (some i))->∃t v,.tmp t∈o.op.operands.toList/\s.env t=some v/\i∈v.ids
 again:∀s1,(∀x∈o.op.operands.toList,s1.val x=s.val x)->(∀i,f.mem i->s1.blk i=s.blk i/\s1.itr i=s.itr i)->(∀i,f.memA i->s1.arr i=s.arr i)->(∀x∈o.op.operands.toList,∀v,s.val x=some v->∀i∈v.ids,sh (s1.arr i)=sh (s.arr i))->(∀i,f = .ap (some i)->s1.tok i=s.tok i)->s1.ro=s.ro->(∀i,e.F i=true->s1.used i=false)->evOp P tb Γ o s1 some=some (ezy e dt s1)/\azY Γ o.op s1=f
theorem Does.toT {o:Oper}{f:Foot}{e:Eff tb.T}(h:Does P tb Γ o s f s' e)(hf:∀t,f≠.ap t):DoesT P tb Γ o s f s' e none :=
 ⟨h.eq,h.fresh,h.mb,h.mit,h.mar,h.mtk,fun i hi=>(by cases hi),h.dst,fun i hi=>h.reads i (hi.resolve_right (hf _)),fun s1 h1 h2 h5 h6 _ h3 h4=>h.again s1 h1 h2 h5 h6 h3 h4⟩
theorem does_P {o:Oper}(ho:∀s:St tb.T,evOp P tb Γ o s some=evP P tb o.op s.val fun v=>some (s.putO o.dst v))(hf:∀s:St tb.T,azY Γ o.op s=azY Γ o.op s')(hfm:∀i,¬((azY Γ o.op s').mem i\/(azY Γ o.op s').memA i))
 (he:evOp P tb Γ o s some=some s'):∃e,Does P tb Γ o s (azY Γ o.op s) s' e:=by
 rw[ho,nzG]at he;obtain⟨v,hv,he⟩:=azp.1 he;simp only[sE0]at he;refine⟨{d:=o.dst,v:=v},by rw[<-he,czG],by simp,by simp,by simp,by simp,by simp,.inr rfl,fun i hi=>absurd (by rw[<-hf s];exact hi) (hfm i),fun s1 h1 _ _ _ _ _=>⟨?_,by rw[hf s1,hf s]⟩⟩;rw[ho,nzG,uzD o.op h1,hv];simp only[aza,czG]
theorem qzP {x:Operand}{v:SV tb.T}{i:Nat}(hv:s.val x=some v)(hi:i∈v.ids):∃t,x = .tmp t/\s.env t=some v:=by
 cases x with
 | tmp t=>exact⟨t,rfl,hv⟩
 | const c =>
  simp only[St.val]at hv;cases hc:(gzv c:Option (AC tb.T))with
  | none=>simp[hc]at hv
  | some ac =>
   simp only[hc,sE0]at hv;subst hv;have:=(pzD (P:=default) (tb:=tb) (g:=fun _=>.con) (w:=default) (μ:=fun _=>0) (τ:=fun _=>none) (tok:=fun _=>false) hc).2;simp[SV.ids,this]at hi
 | global _=>simp[St.val]at hv
 | func f=>simp only[St.val,sE0]at hv;subst hv;simp[SV.ids,AC.ids]at hi
end Go.Ev
namespace Go.Ev
open Go
open Go.IntKind (i64 u64 u8 i32 u32 i16 u16)
variable {P:Program} {tb:Tab} {R:Type} {Γ:List (Nat×FSpec tb)} {s s' s1:St tb.T}
theorem rzZ {α:Type}(f:Nat->Option α)(i:Nat)(v:α):upd f i (some v)=fun j=>(upd (fun _=>none) i (some v) j).or (f j):=funext fun j=>by
 simp only[azu];split<;>simp
theorem mzJ (f:Nat->Bool)(i:Nat):upd f i true=fun j=>upd (fun _=>false) i true j||f j:=funext fun j=>by
 simp only[azu];split<;>simp
theorem Gzf {d:Nat}{z:List (AC tb.T)}(h:newVar s d z some=some s'):s.used d=false/\s'=Eff.apply {d:=some d,v:=.c (.ptr d 0),F:=upd (fun _=>false) d true,b:=upd (fun _=>none) d (some z)} s:=by
 unfold newVar at h;cases hu:s.used d with
 | true=>simp[hu]at h
 | false =>
  simp only[hu,cond_false,sE0]at h;refine⟨rfl,?_⟩;rw[<-h,Eff.apply,rzZ s.blk,mzJ s.used];simp
theorem Lzm {d:Nat}{z:List (AC tb.T)}(h:s.used d=false):newVar s d z some=some (Eff.apply {d:=some d,v:=.c (.ptr d 0),F:=upd (fun _=>false) d true,b:=upd (fun _=>none) d (some z)} s):=by
 have:newVar s d z some=some {s with env:=upd s.env d (some (.c (.ptr d 0))),blk:=upd s.blk d (some z),used:=upd s.used d true}:=by simp[newVar,h]
 rw[this];rw[(Gzf this).2]
theorem pzY {d e:Nat}{xs:List (tb.T e)}(h:jzt tb s d e xs some=some s'):s.used d=false/\s'=Eff.apply {d:=some d,v:=.c (.own e xs d),F:=upd (fun _=>false) d true,tk:=upd (fun _=>false) d true} s:=by
 unfold jzt at h;cases hu:s.used d with
 | true=>simp[hu]at h
 | false =>
  simp only[hu,cond_false,sE0]at h;refine⟨rfl,?_⟩;rw[<-h,Eff.apply,mzJ s.tok,mzJ s.used];simp
theorem pzX {d e:Nat}{xs:List (tb.T e)}(h:s.used d=false):jzt tb s d e xs some=some (Eff.apply {d:=some d,v:=.c (.own e xs d),F:=upd (fun _=>false) d true,tk:=upd (fun _=>false) d true} s):=by
 have:jzt tb s d e xs some=some {s with env:=upd s.env d (some (.c (.own e xs d))),tok:=upd s.tok d true,used:=upd s.used d true}:=by simp[jzt,h]
 rw[this];rw[(pzY this).2]
theorem mzd {i j:Nat}(h:upd (fun _=>false) i true j=true):j=i:=by
 rw[azu]at h;split at h
 .assumption
 .cases h
theorem rzB {α:Type}{i j:Nat}{v:Option α}(h:upd (fun _=>none) i v j≠none):j=i:=by
 rw[azu]at h;split at h
 .assumption
 .exact absurd rfl h
theorem Ez3 {α:Type}{i j:Nat}{v:Option α}{z:α}(h:upd (fun _=>none) i v j=some z):j=i/\v=some z:=by
 have hj:j=i:=rzB (v:=v) (by rw[h];simp);subst hj;rw[azh]at h;exact⟨rfl,h⟩
theorem Dzc {o:Oper}{d:Nat}{z:List (AC tb.T)}(hdst:o.dst=some d)(hf:∀s:St tb.T,azY Γ o.op s = .n)
 (ho:∀s1:St tb.T,(∀x∈o.op.operands.toList,s1.val x=s.val x)->evOp P tb Γ o s1 some=newVar s1 d z some) (he:evOp P tb Γ o s some=some s'):∃e,Does P tb Γ o s (azY Γ o.op s) s' e:=by
 rw[ho s fun _ _=>rfl]at he;obtain⟨h1,h2⟩:=Gzf he;refine⟨_,h2,fun i hi=>by rw[mzd hi];exact h1,fun i hi=>.inl (by rw[rzB hi];show upd (fun _=>false) d true d=true;exact azh _ _ _),by simp,by simp,by simp,.inr hdst.symm,fun i hi=>absurd hi (by rw[hf];exact fun h=>h.elim id id),fun s1 k1 _ _ _ _ k4=>⟨?_,by rw[hf,hf]⟩⟩;rw[ho s1 k1];exact Lzm (k4 d (by show upd (fun _=>false) d true d=true;exact azh _ _ _))
theorem Mzf {o:Oper}{d e:Nat}{xs:List (tb.T e)}(hdst:o.dst=some d)(hf:∀s:St tb.T,azY Γ o.op s = .n)
 (ho:∀s1:St tb.T,(∀x∈o.op.operands.toList,s1.val x=s.val x)->evOp P tb Γ o s1 some=jzt tb s1 d e xs some) (he:evOp P tb Γ o s some=some s'):∃e,Does P tb Γ o s (azY Γ o.op s) s' e:=by
 rw[ho s fun _ _=>rfl]at he;obtain⟨h1,h2⟩:=pzY he;refine⟨_,h2,fun i hi=>by rw[mzd hi];exact h1,by simp,by simp,by simp,fun _ h=>h,.inr hdst.symm,fun i hi=>absurd hi (by rw[hf];exact fun h=>h.elim id id),fun s1 k1 _ _ _ _ k4=>⟨?_,by rw[hf,hf]⟩⟩;rw[ho s1 k1];exact pzX (k4 d (by show upd (fun _=>false) d true d=true;exact azh _ _ _))
theorem Azl {d e:Nat}{xs:List (tb.T e)}(h:lzW tb s d e xs some=some s'):s.used d=false/\s'=Eff.apply {d:=some d,v:=.c (.vsl e d),F:=upd (fun _=>false) d true,ar:=upd (fun _=>none) d (some (.mk true e xs))} s:=by
 unfold lzW at h;cases hu:s.used d with
 | true=>simp[hu]at h
 | false =>
  simp only[hu,cond_false,sE0]at h;refine⟨rfl,?_⟩;rw[<-h,Eff.apply,rzZ s.arr,mzJ s.used];simp
theorem Dzj {d e:Nat}{xs:List (tb.T e)}(h:s.used d=false):lzW tb s d e xs some=some (Eff.apply {d:=some d,v:=.c (.vsl e d),F:=upd (fun _=>false) d true,ar:=upd (fun _=>none) d (some (.mk true e xs))} s):=by
 have:lzW tb s d e xs some=some {s with env:=upd s.env d (some (.c (.vsl e d))),arr:=upd s.arr d (some (.mk true e xs)),used:=upd s.used d true}:=by simp[lzW,h]
 rw[this];rw[(Azl this).2]
theorem szF {o:Oper}{d e:Nat}{xs:List (tb.T e)}(hdst:o.dst=some d)(hf:∀s:St tb.T,azY Γ o.op s = .n)
 (ho:∀s1:St tb.T,(∀x∈o.op.operands.toList,s1.val x=s.val x)->evOp P tb Γ o s1 some=hzk tb Γ s1 d e xs some) (he:evOp P tb Γ o s some=some s'):∃e,Does P tb Γ o s (azY Γ o.op s) s' e:=by
 cases hm:uzI Γ d with
 | false =>
  refine Mzf (e:=e) (xs:=xs) hdst hf (fun s1 h1=>?_) he;rw[ho s1 h1];unfold hzk;rw[hm];rfl
 | true =>
  have ho':∀s1:St tb.T,(∀x∈o.op.operands.toList,s1.val x=s.val x)->evOp P tb Γ o s1 some=lzW tb s1 d e xs some:=fun s1 h1=>by
   rw[ho s1 h1];unfold hzk;rw[hm];rfl
  rw[ho' s fun _ _=>rfl]at he;obtain⟨h1,h2⟩:=Azl he;refine⟨_,h2,fun i hi=>by rw[mzd hi];exact h1,by simp,by simp,fun i z hi=>.inl (by have hi:upd (fun _=>none) d (some (Ar.mk true e xs)) i=some z:=hi;rw[(Ez3 hi).1];show upd (fun _=>false) d true d=true;exact azh _ _ _),by simp,.inr hdst.symm,fun i hi=>absurd hi (by rw[hf];exact fun h=>h.elim id id),fun s1 k1 _ _ _ _ k4=>⟨?_,by rw[hf,hf]⟩⟩;rw[ho' s1 k1];exact Dzj (k4 d (by show upd (fun _=>false) d true d=true;exact azh _ _ _))
theorem does_load {o:Oper}{t:Nat}{a:Operand}(ho:o.op = .load t a)(he:evOp P tb Γ o s some=some s')(hx:azY Γ o.op s≠.x):∃e,Does P tb Γ o s (azY Γ o.op s) s' e:=by
 have hev:∀s1:St tb.T,evOp P tb Γ o s1 some=match s1.val a with
  | some (.c (.ptr i off))=>match s1.blk i with
   | some cells=>match cut1 P t cells off with
    | some v=>some (s1.putO o.dst v)
    | none=>none
   | none=>none
  | some (.c (.cptr cs))=>match cut1 P t (cs.map AC.d) 0 with
   | some v=>some (s1.putO o.dst v)
   | none=>none
  | some (.c (.elp i e k off))=>match s1.arr i with
   | some (.mk _ e' xs)=>bif Nat.beq e' e then obnd (nth xs k) fun y=>(match cut1 P t ((tb.enc e' y).map AC.d) off with
    | some v=>some (s1.putO o.dst v)
    | none=>none)else none
   | none=>none
  | _=>none:=fun s1=>by obtain⟨odst,oop,oty,oaf,ogd⟩:=o;simp only at ho;subst ho;rfl
 have hft:∀s1:St tb.T,azY Γ o.op s1=match s1.val a with|some (.c (.ptr i _))=>.l i|some (.c (.cptr _))=>.p|some (.c (.elp i _ _ _))=>.la i|_=>.x:=fun s1=>by rw[ho];rfl
 have hop:a∈o.op.operands.toList:=by rw[ho];simp[Op.operands]
 rw[hev]at he;split at he
 .rename_i i off hv;split at he
  .rename_i cells hb;split at he
   .rename_i v hc;simp only[sE0]at he;have hf:azY Γ o.op s = .l i:=by rw[hft,hv]
    rw[hf];refine⟨{d:=o.dst,v:=v},by rw[<-he,czG],by simp,by simp,by simp,by simp,by simp,.inr rfl,fun j hj=>?_,fun s1 k1 k2 _ _ _ _=>⟨?_,by rw[hft,k1 a hop,hv]⟩⟩
    .have:j=i:=hj.elim id False.elim;subst this;obtain⟨t',e,h'⟩:=qzP hv (i:=j) (by simp[SV.ids,AC.ids]);exact⟨t',_,by rw[<-e];exact hop,h',by simp[SV.ids,AC.ids]⟩
    .rw[hev,k1 a hop,hv];simp only[(k2 i rfl).1,hb,hc,czG]
   .cases he
  .cases he
 .rename_i cs hv;split at he
  .rename_i v hc;simp only[sE0]at he;have hf:azY Γ o.op s = .p:=by rw[hft,hv]
   rw[hf];refine⟨{d:=o.dst,v:=v},by rw[<-he,czG],by simp,by simp,by simp,by simp,by simp,.inr rfl,fun j hj=>(hj.elim id id).elim,fun s1 k1 _ _ _ _ _=>⟨?_,by rw[hft,k1 a hop,hv]⟩⟩;rw[hev,k1 a hop,hv];simp only[hc,czG]
  .cases he
 .rename_i i e k off hv;split at he
  .rename_i ow e' xs ha;cases hk:Nat.beq e' e with
   | false=>simp[hk]at he
   | true =>
    simp only[hk,cond_true]at he;obtain⟨y,hy,he⟩:=azp.1 he;split at he
    .rename_i v hc;simp only[sE0]at he;have hf:azY Γ o.op s = .la i:=by rw[hft,hv]
     rw[hf];refine⟨{d:=o.dst,v:=v},by rw[<-he,czG],by simp,by simp,by simp,by simp,by simp,.inr rfl,fun j hj=>?_,fun s1 k1 _ k2 _ _ _=>⟨?_,by rw[hft,k1 a hop,hv]⟩⟩
     .have:j=i:=hj.elim False.elim id;subst this;obtain⟨t',e,h'⟩:=qzP hv (i:=j) (by simp[SV.ids,AC.ids]);exact⟨t',_,by rw[<-e];exact hop,h',by simp[SV.ids,AC.ids]⟩
     .rw[hev,k1 a hop,hv];simp only[k2 i rfl,ha,hk,cond_true,hy,aza,hc,czG]
    .cases he
  .cases he
 .cases he
theorem Mz4 {o:Oper}{t:Nat}{a x:Operand}(ho:o.op = .store t a x)(he:evOp P tb Γ o s some=some s')(hx:azY Γ o.op s≠.x):∃e,Does P tb Γ o s (azY Γ o.op s) s' e:=by
 have hft:∀s1:St tb.T,azY Γ o.op s1=match s1.val a with|some (.c (.ptr i _))=>.st i|some (.c (.elp i _ _ _))=>.sa i|_=>.x:=fun s1=>by rw[ho];rfl
 have hopa:a∈o.op.operands.toList:=by rw[ho];simp[Op.operands]
 have hopx:x∈o.op.operands.toList:=by rw[ho];simp[Op.operands]
 have hev:∀s1:St tb.T,evOp P tb Γ o s1 some=match o.dst with
  | some _=>none
  | none=>match s1.val a with
   | some (.c (.ptr i off))=>bif s1.ro i then none else match s1.blk i with
    | some cells=>match s1.val x with
     | some v=>match v.cells with
      | some Nz0=>bif czR P t&&Nat.beq Nz0.length (P.cellsOf t)&&Nat.ble (off+Nz0.length) cells.length then some {s1 with blk:=upd s1.blk i (some (ez3 cells Nz0 off))}else none
      | none=>none
     | none=>none
    | none=>none
   | some (.c (.elp i e k off))=>match s1.arr i with
    | some (.mk o e' xs)=>bif Nat.beq e' e&&o then(match s1.val x with
     | some v=>match v.cells with
      | some Nz0=>match cvs Nz0 with
       | some cs=>obnd (nth xs k) fun y=>bif czR P t&&Nat.beq cs.length (P.cellsOf t)&&Nat.ble (off+cs.length) (tb.enc e' y).length then(match tb.dec e' (ez3 (tb.enc e' y) cs off)with
        | some y'=>some {s1 with arr:=upd s1.arr i (some (.mk true e' (xs.set k y')))}
        | none=>none)else none
       | none=>none
      | none=>none
     | none=>none)else none
    | none=>none
   | _=>none:=fun s1=>by obtain⟨odst,oop,oty,oaf,ogd⟩:=o;simp only at ho;subst ho;rfl
 rw[hev]at he;cases hdst:o.dst with
 | some d=>simp[hdst]at he
 | none =>
  simp only[hdst]at he;split at he
  .rename_i i off hv;cases hro:s.ro i with
   | true=>simp[hro]at he
   | false =>
    simp only[hro,cond_false]at he;split at he
    .rename_i cells hb;split at he
     .rename_i v hvx;split at he
      .rename_i Nz0 has;cases hk:(czR P t&&Nat.beq Nz0.length (P.cellsOf t)&&Nat.ble (off+Nz0.length) cells.length)with
       | false=>simp only[hk,cond_false,reduceCtorEq]at he
       | true =>
        simp only[hk,cond_true,sE0]at he;have hf:azY Γ o.op s = .st i:=by rw[hft,hv]
        rw[hf];refine⟨{d:=none,v:=.tup [],b:=upd (fun _=>none) i (some (ez3 cells Nz0 off))},?_,by simp,fun j hj=>.inr (by rw[rzB hj]),by simp,by simp,by simp,.inl rfl,fun j hj=>?_,fun s1 k1 k2 _ _ k3 _=>⟨?_,by rw[hft,k1 a hopa,hv]⟩⟩
        .rw[<-he,Eff.apply,rzZ s.blk];simp
        .have:j=i:=hj.elim id False.elim;subst this;obtain⟨t',e,h'⟩:=qzP hv (i:=j) (by simp[SV.ids,AC.ids]);exact⟨t',_,by rw[<-e];exact hopa,h',by simp[SV.ids,AC.ids]⟩
        .rw[hev,hdst];simp only[k1 a hopa,hv,k3,hro,(k2 i rfl).1,hb,k1 x hopx,hvx,has,hk,cond_false,cond_true];rw[rzZ s1.blk,Eff.apply];simp[k3]
      .cases he
     .cases he
    .cases he
  .rename_i i e k off hv;split at he
   .rename_i ow e' xs ha;cases hk:(Nat.beq e' e&&ow)with
    | false=>simp[hk]at he
    | true =>
     simp only[hk,cond_true]at he;split at he
     .rename_i v hvx;split at he
      .rename_i Nz0 has;split at he
       .rename_i cs hcs;obtain⟨y,hy,he⟩:=azp.1 he;cases hq:(czR P t&&Nat.beq cs.length (P.cellsOf t)&&Nat.ble (off+cs.length) (tb.enc e' y).length)with
        | false=>simp[hq]at he
        | true =>
         simp only[hq,cond_true]at he;split at he
         .rename_i y' hy';simp only[sE0]at he;have hf:azY Γ o.op s = .sa i:=by rw[hft,hv]
          rw[hf];refine⟨{d:=none,v:=.tup [],ar:=upd (fun _=>none) i (some (.mk true e' (xs.set k y')))},?_,by simp,by simp,by simp,fun j z hz=>.inr ?_,by simp,.inl rfl,fun j hj=>?_,fun s1 k1 _ k2 _ k3 _=>⟨?_,by rw[hft,k1 a hopa,hv]⟩⟩
          .rw[<-he,Eff.apply,rzZ s.arr];simp
          .have hz:upd (fun _=>none) i (some (Ar.mk true e' (xs.set k y'))) j=some z:=hz;obtain⟨hji,hz2⟩:=Ez3 hz;clear hz;subst hji;have hz2:=(Option.some.inj hz2).symm;subst hz2;simp only[Bool.and_eq_true]at hk;refine⟨rfl,?_⟩;rw[ha,hk.2];simp[sh]
          .have:j=i:=hj.elim False.elim id;subst this;obtain⟨t',e,h'⟩:=qzP hv (i:=j) (by simp[SV.ids,AC.ids]);exact⟨t',_,by rw[<-e];exact hopa,h',by simp[SV.ids,AC.ids]⟩
          .rw[hev,hdst];simp only[k1 a hopa,hv,k2 i rfl,ha,hk,cond_true,k1 x hopx,hvx,has,hcs,hy,aza,hq,hy'];rw[rzZ s1.arr,Eff.apply];simp
         .cases he
       .cases he
      .cases he
     .cases he
   .cases he
  .cases he
theorem xzL:∀{l:aze},aze.plain l=true->azm l=[]
 | [],_=>rfl
 | (i,p)::l,h=>by
  simp only[aze.plain,List.all_cons,Bool.and_eq_true]at h;have ih:=xzL (l:=l) h.2;cases p<;>simp_all [azm,Pat.isRef]
theorem uzW {T:Nat->Type}{get:Nat->Option (SV T)}:∀{l:aze},aze.plain l=true->idsS get l=[]
 | [],_=>rfl
 | (i,p)::l,h=>by
  simp only[aze.plain,List.all_cons,Bool.and_eq_true]at h;have ih:=uzW (get:=get) (l:=l) h.2;cases p<;>simp_all [idsS,idsP];split<;>rfl
theorem Azp {get:Nat->Option (SV tb.T)}:∀{l:aze},aze.plain l=true->extS P tb s get l=extS P tb s1 get l
 | [],_=>rfl
 | [(i,p)],h=>by
  simp only[aze.plain,List.all_cons,Bool.and_eq_true]at h;cases p<;>first|rfl|simp at h
 | (i,p)::b::l,h=>by
  simp only[aze.plain,List.all_cons,Bool.and_eq_true]at h;have ih:=Azp (get:=get) (l:=b::l) (by simp only[aze.plain,List.all_cons,Bool.and_eq_true];exact h.2);cases p<;>first|(simp only[extS,ih,extP];done)|simp at h
theorem Lzv:∀{l:aze},aze.plain l=true->tkOf l=[]
 | [],_=>rfl
 | (i,p)::l,h=>by
  simp only[aze.plain,List.all_cons,Bool.and_eq_true]at h;have ih:=Lzv (l:=l) h.2;cases p<;>simp_all [tkOf,Pat.taken]
theorem Lzt:∀{l:aze},aze.plain l=true->nvOf l=l
 | [],_=>rfl
 | (i,p)::l,h=>by
  simp only[aze.plain,List.all_cons,Bool.and_eq_true]at h;have ih:=Lzt (l:=l) h.2;cases p<;>simp_all [nvOf,Pat.isVw]
theorem Gzm {get:Nat->Option (SV tb.T)}{l:aze}(h:aze.plain l=true):s.take get l=s:=by
 simp[St.take,Lzt h,uzW h,Lzv h,idsS,memB]
theorem Dzp {get:Nat->Option (SV tb.T)}:∀{rs:aze} (x:XS tb rs),rs=[]->bzT tb s get rs x=s
 | [],_,_=>rfl
def gzz (F:Nat->Bool)(d:Option Nat)(v:SV tb.T):Eff tb.T:={d:=d,v:=v,F:=F,tk:=F}
theorem putOne_do (d:Nat)(p:Pat)(x:X tb p)(hw:∀e,p≠.wr e)(h:mzp P tb d s p x=some s'):
 ∃F v,s'=(gzz F (some d) v).apply s/\(∀i,F i=true->s.used i=false)/\∀s1:St tb.T,(∀i,F i=true->s1.used i=false)->mzp P tb d s1 p x=some ((gzz F (some d) v).apply s1):=by
 cases p with
 | val e =>
  simp only[mzp,sE0]at h;exact⟨fun _=>false,qzu P e (tb.enc e x),by rw[<-h];simp[gzz,Eff.apply,St.put],by simp,fun s1 _=>by simp[mzp,gzz,Eff.apply,St.put]⟩
 | own e =>
  have h':jzt tb s d e x some=some s':=h;obtain⟨h1,h2⟩:=pzY h';refine⟨upd (fun _=>false) d true,.c (.own e x d),h2,fun i hi=>by rw[mzd hi];exact h1,fun s1 h3=>?_⟩;exact pzX (h3 d (by exact azh _ _ _))
 | ref e=>simp[mzp]at h
 | ro e=>simp[mzp]at h
 | iter=>simp[mzp]at h
 | fnp f n=>simp[mzp]at h
 | mp kt vt=>simp[mzp]at h
 | wr e=>exact absurd rfl (hw e)
 | box n=>simp[mzp]at h
 | vw e=>simp[mzp]at h
def hzW (F:Nat->Bool)(s:St tb.T):St tb.T:={s with tok:=fun i=>F i||s.tok i,used:=fun i=>F i||s.used i}
theorem Lzr (d j:Nat)(a:Nat×Pat)(x:X tb a.2)(q:Bool×List (AC tb.T))(hw:∀e,a.2≠.wr e)(h:dzF.part1 P tb d s j a x=some (q,s')):
 ∃F,s'=hzW F s/\(∀i,F i=true->s.used i=false)/\∀s1:St tb.T,(∀i,F i=true->s1.used i=false)->dzF.part1 P tb d s1 j a x=some (q,hzW F s1):=by
 obtain⟨i,p⟩:=a;cases p with
 | val e =>
  refine⟨fun _=>false,?_⟩;have e0:∀s1:St tb.T,hzW (fun _=>false) s1=s1:=fun s1=>by simp[hzW]
  simp only[e0];have e1:∀s1:St tb.T,dzF.part1 P tb d s1 j (i,.val e) x=(bif bzw P e then some ((true,(tb.enc e x).map .d),s1)else match tb.enc e x with | [c]=>some ((false,[.d c]),s1)|_=>none):=fun _=>rfl
  simp only[e1]at h ⊢;cases ha:bzw P e with
  | true=>simp only[ha,cond_true,sE0,Prod.mk.injEq]at h ⊢;exact⟨h.2.symm,by simp,fun s1 _=>⟨h.1,trivial⟩⟩
  | false =>
   simp only[ha,cond_false]at h ⊢;split at h
   .rename_i c hc;simp only[sE0,Prod.mk.injEq]at h;exact⟨h.2.symm,by simp,fun s1 _=>by simp[h.1]⟩
   .cases h
 | own e =>
  have e1:∀s1:St tb.T,dzF.part1 P tb d s1 j (i,.own e) x=(bif s1.used (d+65536*j)then none else
   some ((false,[.own e x (d+65536*j)]),{s1 with tok:=upd s1.tok (d+65536*j) true,used:=upd s1.used (d+65536*j) true})):=fun _=>rfl
  simp only[e1]at h ⊢;cases hu:s.used (d+65536*j)with
  | true=>simp[hu]at h
  | false =>
   simp only[hu,cond_false,sE0,Prod.mk.injEq]at h;refine⟨upd (fun _=>false) (d+65536*j) true,?_,fun i hi=>by rw[mzd hi];exact hu,fun s1 h3=>?_⟩
   .rw[<-h.2,mzJ s.tok,mzJ s.used];rfl
   .have:=h3 (d+65536*j) (azh _ _ _);simp only[this,cond_false,sE0,Prod.mk.injEq];exact⟨h.1,by rw[mzJ s1.tok,mzJ s1.used];rfl⟩
 | ref e=>cases h
 | ro e=>cases h
 | iter=>cases h
 | fnp f n=>cases h
 | mp kt vt=>cases h
 | wr e=>exact absurd rfl (hw e)
 | box n=>cases h
 | vw e=>cases h
theorem Gzj (F G:Nat->Bool)(s:St tb.T):hzW G (hzW F s)=hzW (fun i=>G i||F i) s:=by
 simp[hzW,Bool.or_assoc]
theorem noWr {a:Nat×Pat}{l:aze}(h:aze.plainOwn0 (a::l)=true):(∀e,a.2≠.wr e)/\aze.plainOwn0 l=true:=by
 simp only[aze.plainOwn0,List.all_cons,Bool.and_eq_true]at h ⊢;refine⟨fun e he=>?_,h.2⟩;have:=h.1;rw[he]at this;cases this
theorem Jzq (d:Nat):∀(j:Nat) (l:aze) (x:XS tb l) (s s':St tb.T) (qs:List (Bool×List (AC tb.T))),aze.plainOwn0 l=true->dzF P tb d s j l x=some (qs,s') ->
 ∃F,s'=hzW F s/\(∀i,F i=true->s.used i=false)/\∀s1:St tb.T,(∀i,F i=true->s1.used i=false)->dzF P tb d s1 j l x=some (qs,hzW F s1)
 | j,[],x,s,s',qs,_,h=>by
  simp only[dzF,sE0,Prod.mk.injEq]at h;refine⟨fun _=>false,by rw[<-h.2];simp[hzW],by simp,fun s1 _=>by simp[dzF,h.1,hzW]⟩
 | j,[a],x,s,s',qs,hl,h=>by
  simp only[dzF]at h;cases hp:dzF.part1 P tb d s j a x with
  | none=>simp[hp]at h
  | some q =>
   obtain⟨q,s2⟩:=q;simp only[hp,sE0,Prod.mk.injEq]at h;obtain⟨F,h1,h2,h3⟩:=Lzr d j a x q (noWr hl).1 hp;exact⟨F,by rw[<-h.2];exact h1,h2,fun s1 k=>by simp only[dzF,h3 s1 k,h.1]⟩
 | j,a::b::l,(x,xs),s,s',qs,hl,h=>by
  simp only[dzF]at h;cases hp:dzF.part1 P tb d s j a x with
  | none=>simp[hp]at h
  | some q =>
   obtain⟨q,s2⟩:=q;simp only[hp]at h;cases hq:dzF P tb d s2 (j+1) (b::l) xs with
   | none=>simp[hq]at h
   | some r =>
    obtain⟨ps,s3⟩:=r;simp only[hq,sE0,Prod.mk.injEq]at h;obtain⟨F,h1,h2,h3⟩:=Lzr d j a x q (noWr hl).1 hp;obtain⟨G,k1,k2,k3⟩:=Jzq d (j+1) (b::l) xs s2 s3 ps (noWr hl).2 hq;refine⟨fun i=>G i||F i,by rw[<-h.2,k1,h1,Gzj],fun i hi=>?_,fun s1 k=>?_⟩
    .simp only[Bool.or_eq_true]at hi;rcases hi with hi|hi
     .have:=k2 i hi;rw[h1]at this;simp only[hzW,Bool.or_eq_false_iff]at this;exact this.2
     .exact h2 i hi
    .have e1:=h3 s1 fun i hi=>k i (by simp[hi])
     have e2:=k3 (hzW F s1) fun i hi=>by
      have f1:=k2 i hi;rw[h1]at f1;simp only[hzW,Bool.or_eq_false_iff]at f1 ⊢;exact⟨f1.1,k i (by simp[hi])⟩
     simp only[dzF,e1,e2,Gzj,h.1]
theorem NzJ {dst:Option Nat}:∀{l:aze} {x:XS tb l},aze.plainOwn0 l=true->dzG P tb dst s l x=some s' ->
 ∃F d v,(d=none\/d=dst)/\s'=(gzz F d v).apply s/\(∀i,F i=true->s.used i=false)/\∀s1:St tb.T,(∀i,F i=true->s1.used i=false)->dzG P tb dst s1 l x=some ((gzz F d v).apply s1)
 | [],x,_,h=>by
  simp only[dzG,sE0]at h;refine⟨fun _=>false,dst,.tup [],.inr rfl,by rw[<-h,czG];rfl,by simp,fun s1 _=>by simp only[dzG,czG];rfl⟩
 | [a],x,hl,h=>by
  cases dst with
  | none =>
   simp only[dzG,sE0]at h;exact⟨fun _=>false,none,.tup [],.inl rfl,by rw[<-h];simp[gzz,Eff.apply],by simp,fun s1 _=>by simp[dzG,gzz,Eff.apply]⟩
  | some d =>
   simp only[dzG]at h;obtain⟨F,v,h1,h2,h3⟩:=putOne_do d a.2 x (noWr hl).1 h;exact⟨F,some d,v,.inr rfl,h1,h2,h3⟩
 | a::b::l,x,hl,h=>by
  cases dst with
  | none =>
   simp only[dzG,sE0]at h;exact⟨fun _=>false,none,.tup [],.inl rfl,by rw[<-h];simp[gzz,Eff.apply],by simp,fun s1 _=>by simp[dzG,gzz,Eff.apply]⟩
  | some d =>
   simp only[dzG]at h;cases hq:dzF P tb d s 0 (a::b::l) x with
   | none=>simp[hq]at h
   | some r =>
    obtain⟨ps,s2⟩:=r;simp only[hq,sE0]at h;obtain⟨F,h1,h2,h3⟩:=Jzq d 0 (a::b::l) x s s2 ps hl hq;have e0:∀s1:St tb.T,(hzW F s1).put d (.tup ps)=(gzz F (some d) (.tup ps)).apply s1:=fun s1=>by simp[hzW,gzz,Eff.apply,St.put]
    exact⟨F,some d,.tup ps,.inr rfl,by rw[<-h,h1,e0],h2,fun s1 k=>by simp only[dzG,h3 s1 k,e0]⟩
theorem JzE {s:St tb.T}{get:Nat->Option (SV tb.T)}{t:Nat}(h:ezu t=true):vget s get t=get t:=by
 have h:Nat.blt t 4294967296=true:=h;simp only[vget,h,cond_true]
theorem Jzb {P:Program}{tb:Tab}{s1 s2:St tb.T}{get:Nat->Option (SV tb.T)}:∀{l:aze},cz3 l=true->extS P tb s1 (vget s2 get) l=extS P tb s1 get l
 | [],_=>rfl
 | [a],h=>by
  simp only[cz3,List.all_cons,Bool.and_eq_true]at h;simp only[extS,JzE h.1]
 | a::b::l,h=>by
  have h1:=h;simp only[cz3,List.all_cons,Bool.and_eq_true]at h;have ih:=Jzb (P:=P) (s1:=s1) (s2:=s2) (get:=get) (l:=b::l) (by simp only[cz3,List.all_cons,Bool.and_eq_true];exact h.2);simp only[extS,JzE h.1,ih]
theorem yzw {dst:Option Nat}{arg:Nat->Option (SV tb.T)}{s:St tb.T}:∀{l:aze} {x:XS tb l},cz3 l=true->lzX P tb dst arg s l x=dzG P tb dst s l x
 | [],x,_=>rfl
 | [a],x,h=>by
  simp only[cz3,List.all_cons,Bool.and_eq_true]at h;simp only[lzX,h.1,cond_true]
 | a::b::l,x,h=>by
  have h2:cz3 (b::l)=true:=by simp only[cz3,List.all_cons,Bool.and_eq_true]at h ⊢;exact h.2
  simp only[cz3,List.all_cons,Bool.and_eq_true]at h;simp only[lzX,h.1,h2,cond_true]
theorem zzI {fid:Nat}{vs:List (SV tb.T)}{dst:Option Nat}:∀{Γ:List (Nat×FSpec tb)},pzp Γ fid=true->kza P tb fid vs dst s some Γ=some s' ->
 ∃F d v,(d=none\/d=dst)/\s'=(gzz F d v).apply s/\(∀i,F i=true->s.used i=false)/\∀s1:St tb.T,(∀i,F i=true->s1.used i=false)->kza P tb fid vs dst s1 some Γ=some ((gzz F d v).apply s1)
 | [],_,h=>by simp[kza]at h
 | (g,sp)::Γ,hp,h=>by
  simp only[pzp,List.all_cons,Bool.and_eq_true]at hp;simp only[kza]at h ⊢;cases hf:Nat.beq g fid with
  | false=>simp only[hf,cond_false]at h ⊢;exact zzI hp.2 h
  | true =>
   simp only[hf,cond_true]at h ⊢;have hp0:aze.plainOwn0 sp.outs=true:=by
    have:=hp.1;simp only[hf,Bool.not_true,Bool.false_or,Bool.and_eq_true]at this;exact this.1.1.2
   have hp1:aze.plain sp.ins=true/\cz3 sp.ins=true/\cz3 sp.outs=true:=by
    have:=hp.1;simp only[hf,Bool.not_true,Bool.false_or,Bool.and_eq_true]at this;exact⟨this.1.1.1,this.1.2,this.2⟩
   have ex:∀s1:St tb.T,extS P tb s1 (vget s1 fun i=>vs[i]?) sp.ins=extS P tb s1 (fun i=>vs[i]?) sp.ins:=fun s1=>Jzb hp1.2.1
   have ei:∀s1:St tb.T,idsS (vget s1 fun i=>vs[i]?) sp.ins=idsS (fun i=>vs[i]?) sp.ins:=fun s1=>by rw[uzW hp1.1,uzW hp1.1]
   rw[ex,ei]at h;cases hx:extS P tb s (fun i=>vs[i]?) sp.ins with
   | none =>
    simp only[hx]at h;obtain⟨F,d,v,h1,h2,h3,h4⟩:=zzI hp.2 h;refine⟨F,d,v,h1,h2,h3,fun s1 k=>?_⟩;rw[ex,ei,Azp (s:=s1) (s1:=s) hp1.1,hx];exact h4 s1 k
   | some x =>
    simp only[hx]at h;cases hk:(czl (idsS (fun i=>vs[i]?) sp.ins)&&Nat.beq (azX sp.ins).length vs.length)with
    | false=>simp[hk]at h
    | true =>
     simp only[hk,cond_true]at h;obtain⟨y,hy,h⟩:=azp.1 h;rw[Gzm hp1.1,Dzp _ (xzL hp1.1),yzw hp1.2.2]at h;cases ho:dzG P tb dst s sp.outs y.outs with
     | none=>simp[ho]at h
     | some s2 =>
      simp only[ho,sE0]at h;obtain⟨F,d,v,h1,h2,h3,h4⟩:=NzJ hp0 ho;refine⟨F,d,v,h1,by rw[<-h];exact h2,h3,fun s1 k=>?_⟩;rw[ex,ei,Azp (s:=s1) (s1:=s) hp1.1,hx];simp only[hk,cond_true,hy,aza];rw[Gzm hp1.1,Dzp _ (xzL hp1.1),yzw hp1.2.2,h4 s1 k]
end Go.Ev
namespace Go.Ev
open Go
open Go.IntKind (i64 u64 u8 i32 u32 i16 u16)
variable {P:Program} {tb:Tab} {R:Type} {Γ:List (Nat×FSpec tb)} {s s' s1:St tb.T}
theorem Dzl {i:Nat}{x:Operand}:∀{ps:List (Nat×Operand)},kzh i ps=some x->x∈ps.map (·.2)
 | [],h=>by simp[kzh]at h
 | (j,y)::ps,h=>by
  simp only[kzh]at h;cases hb:Nat.beq i j with
  | true=>simp only[hb,cond_true,sE0]at h;subst h;simp
  | false=>simp only[hb,cond_false]at h;simp only[List.map_cons,List.mem_cons];exact .inr (Dzl h)
theorem JzN {e:Nat}{ρ ρ':Operand->Option (SV tb.T)}{ps:List (Nat×Operand)}(h:∀x∈ps.map (·.2),ρ x=ρ' x)(i:Nat):qzK P e ρ ps i=qzK P e ρ' ps i:=by
 unfold qzK;cases hp:kzh i ps with
 | none=>rfl
 | some x=>simp only;rw[h x (Dzl hp)]
theorem vz5 {e:Nat}{ρ ρ':Operand->Option (SV tb.T)}{ps:List (Nat×Operand)}(h:∀x∈ps.map (·.2),ρ x=ρ' x):∀(n i:Nat),izt P tb e ρ ps n i=izt P tb e ρ' ps n i
 | 0,_=>rfl
 | n+1,i=>by
  simp only[izt];rw[JzN h,vz5 h n (i+1)]
theorem seen_of {s:St tb.T}{v:Option (SV tb.T)}(h:∀e i,v≠some (.c (.vsl e i))):s.seen v=v:=by
 unfold St.seen;split
 .rename_i e i;exact absurd rfl (h e i)
 .rfl
theorem Jzz {s:St tb.T}{o:Op}(h:nzp o s=false){x:Operand}(hx:x∈o.operands.toList):(∀e i,s.val x≠some (.c (.vsl e i)))/\∀e i k n,s.val x≠some (.c (.vw e i k n)):=by
 have:=List.any_eq_false.1 h x hx;refine⟨fun e i he=>?_,fun e i k n he=>?_⟩<;>simp[he]at this
theorem LzS {s s1:St tb.T}{o:Op}(h:∀x∈o.operands.toList,s1.val x=s.val x):nzp o s1=nzp o s:=by
 have:∀l:List Operand,(∀x∈l,s1.val x=s.val x)->(l.any fun x=>match s1.val x with|some (.c (.vsl _ _))|some (.c (.vw _ _ _ _))=>true|_=>false)=(l.any fun x=>match s.val x with|some (.c (.vsl _ _))|some (.c (.vw _ _ _ _))=>true|_=>false):=fun l hl=>by
  induction l with
  | nil=>rfl
  | cons x l ih=>simp only[List.any_cons];rw[hl x (by simp),ih fun y hy=>hl y (by simp[hy])]
 exact this _ h
theorem LzY {T:Nat->Type}{ρ:Operand->Option (SV T)}{l:List Operand}{v:SV T}(h:vals ρ l=some [v]):∃x,l=[x]/\ρ x=some v:=by
 cases l with
 | nil=>simp[vals]at h
 | cons x l =>
  simp only[vals]at h;cases hx:ρ x with
  | none=>simp[hx]at h
  | some y =>
   cases l with
   | nil=>simp only[hx,vals,sE0,List.cons.injEq,and_true]at h;exact⟨x,rfl,by rw[hx,h]⟩
   | cons z l =>
    simp only[hx,vals]at h;cases hz:ρ z<;>simp only[hz]at h
    .cases h
    .cases hq:vals ρ l<;>simp[hq]at h
theorem LzZ {T:Nat->Type}{ρ:Operand->Option (SV T)}{l:List Operand}{u v:SV T}(h:vals ρ l=some [u,v]):∃x y,l=[x,y]/\ρ x=some u/\ρ y=some v:=by
 cases l with
 | nil=>simp[vals]at h
 | cons x l =>
  simp only[vals]at h;cases hx:ρ x with
  | none=>simp[hx]at h
  | some y =>
   simp only[hx]at h;cases hr:vals ρ l with
   | none=>simp[hr]at h
   | some vs =>
    simp only[hr,sE0,List.cons.injEq]at h;obtain⟨z,rfl,hz⟩:=LzY (h.2▸hr);exact⟨x,z,rfl,by rw[hx,h.1],hz⟩
theorem seen_sh {s s1:St tb.T}{v:Option (SV tb.T)}(h:∀u,v=some u->∀i∈u.ids,sh (s1.arr i)=sh (s.arr i)):s1.seen v=s.seen v:=by
 unfold St.seen;split
 .rename_i e i;have:=h _ rfl i (by simp[SV.ids,AC.ids]);cases h1:s1.arr i with
  | none =>
   cases h2:s.arr i with
   | none=>rfl
   | some z=>obtain⟨o,e',xs⟩:=z;rw[h1,h2]at this;simp[sh]at this
  | some z =>
   obtain⟨o,e',xs⟩:=z;cases h2:s.arr i with
   | none=>rw[h1,h2]at this;simp[sh]at this
   | some z =>
    obtain⟨o2,e2,ys⟩:=z;rw[h1,h2]at this;simp only[sh,sE0,Prod.mk.injEq]at this;obtain⟨rfl,_,hl⟩:=this;simp only[hl]
 .rfl
theorem look_sh {s s1:St tb.T}{o:Op}(h1:∀x∈o.operands.toList,s1.val x=s.val x)(h2:∀x∈o.operands.toList,∀v,s.val x=some v->∀i∈v.ids,sh (s1.arr i)=sh (s.arr i)):∀x∈o.operands.toList,s1.look x=s.look x:=fun x hx=>by
 unfold St.look;rw[h1 x hx];exact seen_sh fun u hu=>h2 x hx u hu
theorem does_L {o:Oper}(ho:∀s1:St tb.T,(∀x∈o.op.operands.toList,s1.val x=s.val x)->evOp P tb Γ o s1 some=evP P tb o.op s1.look fun v=>some (s1.putO o.dst v))(hf:∀s1:St tb.T,(∀x∈o.op.operands.toList,s1.val x=s.val x)->azY Γ o.op s1 = .p)
 (he:evOp P tb Γ o s some=some s'):∃e,Does P tb Γ o s (azY Γ o.op s) s' e:=by
 rw[ho s fun _ _=>rfl,nzG]at he;obtain⟨v,hv,he⟩:=azp.1 he;simp only[sE0]at he;rw[hf s fun _ _=>rfl];refine⟨{d:=o.dst,v:=v},by rw[<-he,czG],by simp,by simp,by simp,by simp,by simp,.inr rfl,fun i hi=>(hi.elim id id).elim,fun s1 h1 _ _ h2 _ _=>⟨?_,hf s1 h1⟩⟩;rw[ho s1 h1,nzG,uzD o.op (look_sh h1 h2),hv];simp only[aza,czG]
theorem KzJ (dst:Option Tmp)(src t:Nat)(x:Operand)(ty:Nat)(pos:String)(aft:Array Edge)(gd:Option (Nat×Bool))(s1:St tb.T):evOp P tb Γ ⟨dst,.convert src t x,ty,pos,aft,gd⟩ s1 some=match P.underlying src,P.underlying t,s1.val x,dst with
 | some .string,some (.slice e),some (.c (.d (.str l))),some d=>match P.underlying e with
  | some (.int .u8)=>if h:e=tb.b8 then(bif Nat.beq (P.cellsOf e) 1 then hzk tb Γ s1 d e (cast (by rw[h,tb.hb]) l) some else none)else none
  | some (.int .i32)=>if h:tb.r4=some e then(bif Nat.beq (P.cellsOf e) 1 then obnd (BzL l) fun rs=>hzk tb Γ s1 d e (cast (by rw[tb.hr e h]) rs) some else none)else none
  | _=>none
 | _,_,_,_=>evP P tb (.convert src t x) s1.val fun v=>some (s1.putO dst v):=rfl
theorem Mz3 {dst:Option Tmp}{src t:Nat}{x:Operand}{ty:Nat}{pos:String}{aft:Array Edge}{gd:Option (Nat×Bool)}(he:evOp P tb Γ ⟨dst,.convert src t x,ty,pos,aft,gd⟩ s some=some s'):
 ∃e,Does P tb Γ ⟨dst,.convert src t x,ty,pos,aft,gd⟩ s (azY Γ (.convert src t x) s) s' e:=by
 have hev:=KzJ (P:=P) (tb:=tb) (Γ:=Γ) dst src t x ty pos aft gd;have hop:∀s1:St tb.T,(∀y∈(Op.convert src t x).operands.toList,s1.val y=s.val y)->s1.val x=s.val x:=fun s1 h=>h x (by simp[Op.operands])
 by_cases hc:∃e l d,P.underlying src=some .string/\P.underlying t=some (.slice e)/\s.val x=some (.c (.d (.str l)))/\dst=some d
 .obtain⟨e,l,d,h1,h2,h3,h4⟩:=hc;have he':=he;rw[hev,h1,h2,h3,h4]at he;simp only at he;split at he
  .rename_i hu;by_cases hb:e=tb.b8
   .simp only[hb,dite_true]at he;cases hk:Nat.beq (P.cellsOf tb.b8) 1 with
    | false=>simp[hk]at he
    | true =>
     subst hb;refine szF (e:=tb.b8) (xs:=cast (by rw[tb.hb]) l) (d:=d) h4 (fun _=>rfl) (fun s1 hs1=>?_) he';rw[hev,h1,h2,hop s1 hs1,h3,h4];simp[hu,hk]
   .simp[hb]at he
  .rename_i hu;by_cases hb:tb.r4=some e
   .simp only[hb,dite_true]at he;cases hk:Nat.beq (P.cellsOf e) 1 with
    | false=>simp[hk]at he
    | true =>
     cases hr:BzL l with
     | none=>simp[hk,hr]at he
     | some rs =>
      refine szF (e:=e) (xs:=cast (by rw[tb.hr e hb]) rs) (d:=d) h4 (fun _=>rfl) (fun s1 hs1=>?_) he';rw[hev,h1,h2,hop s1 hs1,h3,h4];simp[hu,hk,hb,hr]
   .simp[hb]at he
  .cases he
 .have hev2:∀s1:St tb.T,s1.val x=s.val x->evOp P tb Γ ⟨dst,.convert src t x,ty,pos,aft,gd⟩ s1 some=evP P tb (.convert src t x) s1.val fun v=>some (s1.putO dst v):=fun s1 h1=>by
   rw[hev];split
   .rename_i e l d k1 k2 k3;exact absurd ⟨e,l,d,k1,k2,by rw[<-h1];exact k3,rfl⟩ hc
   .rfl
  rw[hev2 s rfl,nzG]at he;obtain⟨v,hv,he⟩:=azp.1 he;simp only[sE0]at he;refine⟨{d:=dst,v:=v},by rw[<-he,czG],by simp,by simp,by simp,by simp,by simp,.inr rfl,fun i hi=>(hi.elim id id).elim,fun s1 h1 _ _ _ _ _=>⟨?_,rfl⟩⟩;rw[hev2 s1 (hop s1 h1),nzG,uzD _ h1,hv];simp only[aza,czG]
theorem does_len {dst:Option Tmp}{args:Array Operand}{tys:Array TypeId}{ty:Nat}{pos:String}{aft:Array Edge}{gd:Option (Nat×Bool)}
 (he:evOp P tb Γ ⟨dst,.call ⟨.builtin .len,args,tys⟩,ty,pos,aft,gd⟩ s some=some s'): ∃e,Does P tb Γ ⟨dst,.call ⟨.builtin .len,args,tys⟩,ty,pos,aft,gd⟩ s (azY Γ (.call ⟨.builtin .len,args,tys⟩) s) s' e:=by
 have hft:∀s1:St tb.T,azY Γ (.call ⟨.builtin .len,args,tys⟩) s1=match vals s1.val args.toList with|some [.c (.map i)]=>.l i|_=>.p:=fun s1=>rfl
 have hev:∀s1:St tb.T,evOp P tb Γ ⟨dst,.call ⟨.builtin .len,args,tys⟩,ty,pos,aft,gd⟩ s1 some=match vals s1.val args.toList,tys.toList with
  | some [.c (.map i)],[t]=>(match uzU P t,s1.itr i with
   | some _,some (.mp _ _ l)=>brn (fits l.length) (some (s1.putO dst (.c (.d (.int .i64 l.length))))) none
   | _,_=>none)
  | _,_=>evP P tb (.call ⟨.builtin .len,args,tys⟩) s1.look fun v=>some (s1.putO dst v):=fun s1=>rfl
 have hcg:∀s1:St tb.T,(∀x∈(Op.call ⟨.builtin .len,args,tys⟩).operands.toList,s1.val x=s.val x)->vals s1.val args.toList=vals s.val args.toList:=fun s1 h=>ozb fun x hx=>h x (by
  simp only[Op.operands,Call.operands,Array.toList_append,List.mem_append];exact .inr hx)
 rw[hev]at he;split at he
 .rename_i i t hv ht;split at he
  .rename_i kv k v l hm hi;cases hf:fits l.length with
   | false=>simp[hf]at he
   | true =>
    simp only[hf,azd,sE0]at he;rw[hft,hv];refine⟨{d:=dst,v:=.c (.d (.int .i64 l.length))},by rw[<-he,czG],by simp,by simp,by simp,by simp,by simp,.inr rfl,fun j hj=>?_,fun s1 k1 k2 _ _ _ _=>⟨?_,by rw[hft,hcg s1 k1,hv]⟩⟩
    .have:j=i:=hj.elim id False.elim;subst this;have hx:∃x∈args.toList,s.val x=some (.c (.map j)):=by
      cases ha:args.toList with
      | nil=>rw[ha]at hv;simp[vals]at hv
      | cons x xs =>
       rw[ha]at hv;refine⟨x,by simp,?_⟩;cases hx:s.val x with
       | none=>simp[vals,hx]at hv
       | some y =>
        cases hy:vals s.val xs with
        | none=>simp[vals,hx,hy]at hv
        | some ys=>simp only[vals,hx,hy,sE0,List.cons.injEq]at hv;rw[hv.1]
     obtain⟨x,hx1,hx2⟩:=hx;obtain⟨t',e,h'⟩:=qzP hx2 (i:=j) (by simp[SV.ids,AC.ids]);exact⟨t',_,by rw[<-e];simp only[Op.operands,Call.operands,Array.toList_append,List.mem_append];exact .inr hx1,h',by simp[SV.ids,AC.ids]⟩
    .rw[hev,hcg s1 k1,hv,ht];simp only[hm,(k2 i rfl).2,hi,hf,azd,czG]
  .cases he
 .rename_i hne;have hf:∀s1:St tb.T,vals s1.val args.toList=vals s.val args.toList->azY Γ (.call ⟨.builtin .len,args,tys⟩) s1=azY Γ (.call ⟨.builtin .len,args,tys⟩) s:=fun s1 h=>by rw[hft,hft,h]
  rw[nzG]at he;obtain⟨v,hv,he⟩:=azp.1 he;simp only[sE0]at he;refine⟨{d:=dst,v:=v},by rw[<-he,czG],by simp,by simp,by simp,by simp,by simp,.inr rfl,fun i hi=>?_,fun s1 h1 _ _ h2 _ _=>⟨?_,hf s1 (hcg s1 h1)⟩⟩
  .rw[hft]at hi;split at hi
   .rename_i j h;exfalso;simp only[evP]at hv;split at hv
    .rename_i v' h';obtain⟨x,hx1,hx2⟩:=LzY h;rw[hx1]at h';have:s.look x=some (.c (.map j)):=by unfold St.look;rw[hx2];rfl
     simp only[vals,this,sE0,List.cons.injEq,and_true]at h';subst h';split at hv
     .simp[xzn]at hv
     .cases hv
    .cases hv
   .exact(hi.elim id id).elim
  .rw[hev,hcg s1 h1];split
   .rename_i i t h1 h2;exact absurd h2 (hne i t h1)
   .rw[nzG,uzD _ (look_sh h1 h2),hv];simp only[aza,czG]
theorem Mz6 {o:Oper}(he:evOp P tb Γ o s some=some s')(hx:azY Γ o.op s≠.x)(ha:∀t,azY Γ o.op s≠.ap t):∃e,Does P tb Γ o s (azY Γ o.op s) s' e:=by
 obtain⟨dst,op,ty,pos,aft,gd⟩:=o;cases op
 case alloc e =>
  have he':=he;simp only[evOp]at he;cases dst with
  | none=>simp at he
  | some d =>
   simp only at he;cases hz:(jzQ P e:Option (List (AC tb.T)))with
   | none=>simp[hz]at he
   | some z=>exact Dzc (d:=d) (z:=BzM e d z) rfl (fun _=>rfl) (fun s1 _=>by simp only[evOp,hz]) he'
 case box t x =>
  have he':=he;simp only[evOp]at he;cases dst with
  | none=>simp at he
  | some d =>
   simp only at he;cases hv:s.val x with
   | none=>simp[hv]at he
   | some v =>
    cases hc:v.cells with
    | none=>simp[hv,hc]at he
    | some Nz0=>exact Dzc (d:=d) (z:=Nz0) rfl (fun _=>rfl) (fun s1 h1=>by
     have:=h1 x (by simp[Op.operands]);simp only[evOp,this,hv,hc]) he'
 case load t a=>exact does_load rfl he hx
 case store t a x=>exact Mz4 rfl he hx
 case buildSlice t n parts =>
  have he':=he;simp only[evOp]at he;cases dst with
  | none=>simp at he
  | some d =>
   simp only at he;cases hel:izG P t with
   | none=>simp[hel]at he
   | some e =>
    simp only[hel]at he;cases hk:(czl (parts.toList.map (·.1))&&parts.toList.all (fun p=>Nat.blt p.1 n)&&Nat.ble (n*P.cellsOf e) 16777216&&Nat.blt 0 (P.cellsOf e)&&jz1 P e)with
    | false=>simp only[hk,cond_false,reduceCtorEq]at he
    | true =>
     simp only[hk,cond_true]at he;cases hb:izt P tb e s.val parts.toList n 0 with
     | none=>simp[hb]at he
     | some xs=>exact szF (d:=d) (e:=e) (xs:=xs) rfl (fun _=>rfl) (fun s1 h1=>by
      have:izt P tb e s1.val parts.toList n 0=some xs:=by
       rw[<-hb];exact vz5 (fun x hx=>h1 x (by simpa[Op.operands]using hx)) n 0
      simp only[evOp,hel,hk,cond_true,this]) he'
 case makeSlice t l c =>
  have he':=he;simp only[evOp]at he;cases dst with
  | none=>simp at he
  | some d =>
   simp only at he;cases hel:izG P t with
   | none=>simp[hel]at he
   | some e =>
    simp only[hel]at he;cases hz:(jzQ P e:Option (List (AC tb.T)))with
    | none=>simp[hz]at he
    | some z =>
     simp only[hz]at he;cases hcs:cvs z with
     | none=>simp[hcs]at he
     | some cs =>
      simp only[hcs]at he;cases hk:(czR P e&&Nat.beq cs.length (P.cellsOf e))with
      | false=>simp only[hk,cond_false,reduceCtorEq]at he
      | true =>
       simp only[hk,cond_true]at he;cases hd:tb.dec e cs with
       | none=>simp[hd]at he
       | some x =>
        simp only[hd]at he;split at he
        .rename_i li ci k1 k2;cases hm:tzI (P.bytesOf e) x li ci with
         | none=>simp[hm]at he
         | some xs=>exact szF (d:=d) (e:=e) (xs:=xs) rfl (fun _=>rfl) (fun s1 h1=>by
          have e1:=h1 l (by simp[Op.operands]);have e2:=h1 c (by simp[Op.operands]);simp only[evOp,hel,hz,hcs,hk,cond_true,hd,e1,e2,k1,k2,hm,aza]) he'
        .cases he
 case convert src t x=>exact Mz3 he
 case range xt x =>
  simp only[evOp]at he;cases dst with
  | none=>simp at he
  | some d =>
   simp only at he;split at he
   .rename_i l k1 k2;cases hu:s.used d with
    | true=>simp[hu]at he
    | false =>
     simp only[hu,cond_false,sE0]at he;refine⟨{d:=some d,v:=.c (.ptr d 0),F:=upd (fun _=>false) d true,it:=upd (fun _=>none) d (some (.it l 0))},?_,fun i hi=>by rw[mzd hi];exact hu,by simp,fun i hi=>by rw[rzB hi];show upd (fun _=>false) d true d=true;exact azh _ _ _,by simp,by simp,.inr rfl,fun i hi=>(hi.elim id id).elim,fun s1 h1 _ _ _ _ h4=>⟨?_,rfl⟩⟩
     .rw[<-he,Eff.apply,rzZ s.itr,mzJ s.used];simp
     .have e1:=h1 x (by simp[Op.operands]);have e2:=h4 d (by show upd (fun _=>false) d true d=true;exact azh _ _ _);simp only[evOp,k1,e1,k2,e2,cond_false];rw[Eff.apply,rzZ s1.itr,mzJ s1.used];simp
   .cases he
 case next it str=>exact absurd rfl hx
 case slice t x l h m =>
  have hx':∀s1:St tb.T,s1.val x=s.val x->∀e i,s1.val x≠some (.c (.vsl e i)):=fun s1 h1 e i h2=>hx (by
   rw[h1]at h2;show(match s.val x with|some (.c (.vsl _ _))=>Foot.x|_=>Foot.p) = .x;rw[h2])
  refine does_L (fun s1 h1=>?_) (fun s1 h1=>?_) he
  .have hc:cutOf Γ m l dst (s1.val x)=none:=by
    unfold cutOf;split
    .rename_i h2;exact absurd h2 (hx' s1 (h1 x (by simp[Op.operands])) _ _)
    .rfl
   simp only[evOp,hc]
  .show(match s1.val x with|some (.c (.vsl _ _))=>Foot.x|_=>Foot.p) = .p
   split
   .rename_i h2;exact absurd h2 (hx' s1 (h1 x (by simp[Op.operands])) _ _)
   .rfl
 case indexAddr t x i=>exact does_L (fun s1 _=>rfl) (fun s1 _=>rfl) he
 case binOp op t x y u=>exact does_L (fun s1 _=>rfl) (fun s1 _=>rfl) he
 case call c =>
  obtain⟨callee,args,tys⟩:=c;cases callee with
  | builtin b =>
   cases b
   case append =>
    exfalso;have hft:azY Γ (.call ⟨.builtin .append,args,tys⟩) s=bif nzp (.call ⟨.builtin .append,args,tys⟩) s then .x else match vals s.val args.toList with
     | some (.c (.d .nil)::_)=>.ap none
     | some (.c (.own _ _ t)::_)=>.ap (some t)
     | _=>.x:=rfl
    rw[hft]at hx ha;cases hsa:nzp (.call ⟨.builtin .append,args,tys⟩) s with
    | true=>rw[hsa]at hx;exact hx rfl
    | false =>
    rw[hsa]at hx ha;simp only[cond_false]at hx ha;split at hx
    .rename_i h;rw[h]at ha;exact ha none rfl
    .rename_i h;rw[h]at ha;exact ha _ rfl
    .exact hx rfl
   case len=>exact does_len he
   all_goals exact does_P (fun _=>rfl) (fun _=>rfl) (fun _ h=>h.elim id id) he
  | invoke r m=>exact does_P (fun _=>rfl) (fun _=>rfl) (fun _ h=>h.elim id id) he
  | value f =>
   have hop:f∈(Op.call ⟨.value f,args,tys⟩).operands.toList:=by simp[Op.operands,Call.operands]
   have hft:∀s1:St tb.T,azY Γ (.call ⟨.value f,args,tys⟩) s1=match s1.val f with|some (.c (.fn g _))=>bif pzp Γ g then .n else .x|_=>.x:=fun _=>rfl
   have hev:∀s1:St tb.T,evOp P tb Γ ⟨dst,.call ⟨.value f,args,tys⟩,ty,pos,aft,gd⟩ s1 some=match s1.val f with
    | some (.c (.fn fid caps))=>match vals s1.val args.toList with
     | some vs=>kza P tb fid (vs++caps.map fun p=>.c (.ptr p.1 p.2)) dst s1 some Γ
     | none=>none
    | _=>none:=fun _=>rfl
   rw[hev]at he;split at he
   .rename_i fid caps hfv;have hp:pzp Γ fid=true:=by
     cases hp:pzp Γ fid with
     | true=>rfl
     | false=>exact absurd (by rw[hft,hfv];simp[hp]) hx
    split at he
    .rename_i vs hv;obtain⟨F,d,v,h1,h2,h3,h4⟩:=zzI hp he;have hfn:azY Γ (.call ⟨.value f,args,tys⟩) s = .n:=by rw[hft,hfv];simp[hp]
     rw[hfn];refine⟨gzz F d v,h2,h3,by simp[gzz],by simp[gzz],by simp[gzz],fun _ h=>h,h1,fun i hi=>(hi.elim id id).elim,fun s1 k1 _ _ _ _ k4=>⟨?_,by rw[hft,k1 f hop,hfv];simp[hp]⟩⟩;have:vals s1.val args.toList=some vs:=by
      rw[<-hv];exact ozb fun x hx=>k1 x (by simp only[Op.operands,Call.operands,Array.toList_append,List.mem_append];exact .inr hx)
     rw[hev,k1 f hop,hfv];simp only[this];exact h4 s1 k4
    .cases he
   .cases he
 all_goals first
  | exact absurd rfl hx
  | exact does_P (fun _=>rfl) (fun _=>rfl) (fun _ h=>h.elim id id) he
theorem Mze {dst:Option Tmp}{args:Array Operand}{tys:Array TypeId}{ty:Nat}{pos:String}{aft:Array Edge}{gd:Option (Nat×Bool)}(he:evOp P tb Γ ⟨dst,.call ⟨.builtin .append,args,tys⟩,ty,pos,aft,gd⟩ s some=some s')
 (hx:azY Γ (.call ⟨.builtin .append,args,tys⟩) s≠.x) (hu:∀t v,s.env t=some v->∀i∈v.ids,s.used i=true) :
 ∃e dt,DoesT P tb Γ ⟨dst,.call ⟨.builtin .append,args,tys⟩,ty,pos,aft,gd⟩ s (azY Γ (.call ⟨.builtin .append,args,tys⟩) s) s' e dt:=by
 have hev:∀s1:St tb.T,evOp P tb Γ ⟨dst,.call ⟨.builtin .append,args,tys⟩,ty,pos,aft,gd⟩ s1 some=match vals s1.val args.toList,tys.toList with
  | some [sv,xv],[st,xt]=>jzs P tb Γ dst st xt sv xv s1 some
  | _,_=>none:=fun _=>rfl
 have hsa:nzp (.call ⟨.builtin .append,args,tys⟩) s=false:=by
  cases h:nzp (.call ⟨.builtin .append,args,tys⟩) s with
  | false=>rfl
  | true=>exact absurd (by show(bif nzp _ s then Foot.x else _)=Foot.x;rw[h];rfl) hx
 have hft0:∀s1:St tb.T,nzp (.call ⟨.builtin .append,args,tys⟩) s1=false->azY Γ (.call ⟨.builtin .append,args,tys⟩) s1=match vals s1.val args.toList with
  | some (.c (.d .nil)::_)=>.ap none
  | some (.c (.own _ _ t)::_)=>.ap (some t)
  | _=>.x:=fun s1 h=>by
   have:azY Γ (.call ⟨.builtin .append,args,tys⟩) s1=bif nzp (.call ⟨.builtin .append,args,tys⟩) s1 then .x else match vals s1.val args.toList with
    | some (.c (.d .nil)::_)=>.ap none
    | some (.c (.own _ _ t)::_)=>.ap (some t)
    | _=>.x:=rfl
   rw[this,h];rfl
 have hvs:∀s1:St tb.T,(∀x∈(Op.call ⟨.builtin .append,args,tys⟩).operands.toList,s1.val x=s.val x)->vals s1.val args.toList=vals s.val args.toList:=fun s1 h1=>ozb fun x hx=>h1 x (by
  simp only[Op.operands,Call.operands,Array.toList_append,List.mem_append];exact .inr hx)
 have hft:∀s1:St tb.T,(∀x∈(Op.call ⟨.builtin .append,args,tys⟩).operands.toList,s1.val x=s.val x)->azY Γ (.call ⟨.builtin .append,args,tys⟩) s1=match vals s.val args.toList with
  | some (.c (.d .nil)::_)=>.ap none
  | some (.c (.own _ _ t)::_)=>.ap (some t)
  | _=>.x:=fun s1 h1=>by rw[hft0 s1 (by rw[LzS h1];exact hsa),hvs s1 h1]
 have hft':=hft s fun _ _=>rfl
 rw[hev]at he;split at he
 .rename_i sv xv st xt hv ht;have hxv:(∀e i,xv≠.c (.vsl e i))/\∀e i k n,xv≠.c (.vw e i k n):=by
   obtain⟨x,y,h1,_,h2⟩:=LzZ hv;have hy:=Jzz (x:=y) hsa (by simp only[Op.operands,Call.operands,Array.toList_append,List.mem_append,h1];right;simp);rw[h2]at hy;exact⟨fun e i h=>hy.1 e i (by rw[h]),fun e i k n h=>hy.2 e i k n (by rw[h])⟩
  have hsrc:∀(s1:St tb.T) (e:Nat) (κ:List (tb.T e)->Option (St tb.T)),szH P tb xt e (s1.seen (some xv)) s1 κ=obnd (szH P tb xt e (some xv) s some) κ:=fun s1 e κ=>by
   rw[seen_of fun e i h=>hxv.1 e i (Option.some.inj h),HzI];congr 1;unfold szH;split
   .rename_i h;exact absurd h (by simpa using hxv.2 _ _ _ _)
   all_goals rfl
  unfold jzs at he;cases dst with
  | none=>simp at he
  | some d =>
   simp only at he;cases hel:izG P st with
   | none=>simp[hel]at he
   | some e =>
    simp only[hel]at he;cases hc:(!(czR P e&&jz1 P e&&Nat.blt 0 (P.bytesOf e)))with
    | true=>simp[hc]at he
    | false =>
     simp only[hc,cond_false]at he;rw[hsrc s]at he;obtain⟨ys,hys,he⟩:=azp.1 he;split at he
     .
      have hf:azY Γ (.call ⟨.builtin .append,args,tys⟩) s = .ap none:=by rw[hft',hv]
      obtain⟨zs,hz,he⟩:=azp.1 he;rw[hf];unfold hzk at he;cases hm:uzI Γ d with
      | true =>
       rw[hm]at he;obtain⟨k1,k2⟩:=Azl he;refine⟨{d:=some d,v:=.c (.vsl e d),F:=upd (fun _=>false) d true,ar:=upd (fun _=>none) d (some (.mk true e zs))},none,⟨k2,fun i hi=>by rw[mzd hi];exact k1,by simp,by simp,fun i z hi=>.inl (by have hi:upd (fun _=>none) d (some (Ar.mk true e zs)) i=some z:=hi;rw[(Ez3 hi).1];show upd (fun _=>false) d true d=true;exact azh _ _ _),by simp,fun i hi=>(by cases hi),.inr rfl,fun i hi=>?_,fun s1 h1 _ _ _ _ _ h5=>⟨?_,by rw[hft s1 h1,hv]⟩⟩⟩
       .rcases hi with hi|hi
        .exact(hi.elim id id).elim
        .cases hi
       .rw[hev,hvs s1 h1,hv,ht];simp only;unfold jzs;simp only[hel,hc,cond_false];rw[hsrc s1,hys,aza,hz,aza];unfold hzk;rw[hm];exact Dzj (h5 d (by show upd (fun _=>false) d true d=true;exact azh _ _ _))
      | false =>
      rw[hm]at he;obtain⟨k1,k2⟩:=pzY he;refine⟨{d:=some d,v:=.c (.own e zs d),F:=upd (fun _=>false) d true,tk:=upd (fun _=>false) d true},none,⟨k2,fun i hi=>by rw[mzd hi];exact k1,by simp,by simp,by simp,fun _ h=>h,fun i hi=>(by cases hi),.inr rfl,fun i hi=>?_,fun s1 h1 _ _ _ _ _ h5=>⟨?_,by rw[hft s1 h1,hv]⟩⟩⟩
      .rcases hi with hi|hi
       .exact(hi.elim id id).elim
       .cases hi
      .rw[hev,hvs s1 h1,hv,ht];simp only;unfold jzs;simp only[hel,hc,cond_false];rw[hsrc s1,hys,aza,hz,aza];unfold hzk;rw[hm];exact pzX (h5 d (by show upd (fun _=>false) d true d=true;exact azh _ _ _))
     .
      rename_i e' xs t _;by_cases hb:e'=e
      .subst hb;simp only[dite_true]at he;cases htk:s.tok t with
       | false=>simp[htk]at he
       | true =>
        simp only[htk,cond_true]at he;obtain⟨zs,hz,he⟩:=azp.1 he;obtain⟨k1,k2⟩:=pzY he;have hf:azY Γ (.call ⟨.builtin .append,args,tys⟩) s = .ap (some t):=by rw[hft',hv]
        have hrd:∃q v,.tmp q∈(Op.call ⟨.builtin .append,args,tys⟩).operands.toList/\s.env q=some v/\t∈v.ids:=by
         cases hal:args.toList with
         | nil=>rw[hal]at hv;simp[vals]at hv
         | cons x xs' =>
          rw[hal]at hv;simp only[vals]at hv;cases hxv:s.val x with
          | none=>simp[hxv]at hv
          | some v0 =>
           simp only[hxv]at hv;cases hr:vals s.val xs' with
           | none=>simp[hr]at hv
           | some vs0 =>
            simp only[hr,sE0,List.cons.injEq]at hv;obtain⟨rfl,_⟩:=hv;obtain⟨q,e1,e2⟩:=qzP hxv (i:=t) (by simp[SV.ids,AC.ids]);refine⟨q,_,?_,e2,by simp[SV.ids,AC.ids]⟩;simp only[Op.operands,Call.operands,Array.toList_append,List.mem_append];right;rw[hal,<-e1];simp
        have htu:s.used t=true:=by obtain⟨q,v,_,q2,q3⟩:=hrd;exact hu q v q2 t q3
        have hne:∀s1:St tb.T,(s1.drop [t]).used=s1.used:=fun _=>rfl
        have hdt:d≠t:=fun e=>by subst e;rw[hne]at k1;rw[k1]at htu;cases htu
        have heff:∀s1:St tb.T,Eff.apply {d:=some d,v:=SV.c (.own e' zs d),F:=upd (fun _=>false) d true,tk:=upd (fun _=>false) d true} (s1.drop [t])=ezy {d:=some d,v:=SV.c (.own e' zs d),F:=upd (fun _=>false) d true,tk:=upd (fun _=>false) d true} (some t) s1:=fun s1=>by
         simp only[ezy,Eff.apply,St.drop,St.mk.injEq,true_and,and_true];funext i;simp only[memB,Bool.or_false,azu];by_cases hi:i=t
         .subst hi;have:Nat.beq i i=true:=Nat.beq_refl i;simp only[this,cond_true,if_neg (Ne.symm hdt),Bool.false_or]
         .have:Nat.beq i t=false:=by
           cases hq:Nat.beq i t with
           | false=>rfl
           | true=>exact absurd (Nat.eq_of_beq_eq_true hq) hi
          simp only[this,cond_false]
        rw[hf];refine⟨{d:=some d,v:=.c (.own e' zs d),F:=upd (fun _=>false) d true,tk:=upd (fun _=>false) d true},some t,⟨by rw[k2,heff],fun i hi=>by rw[mzd hi];exact k1,by simp,by simp,by simp,fun _ h=>h,fun i hi=>(by injection hi with hi;rw[hi]),.inr rfl,fun i hi=>?_,fun s1 h1 _ _ _ h3 _ h5=>⟨?_,by rw[hft s1 h1,hv]⟩⟩⟩
        .rcases hi with hi|hi
         .exact(hi.elim id id).elim
         .injection hi with hi;injection hi with hi;rw[<-hi];exact hrd
        .rw[hev,hvs s1 h1,hv,ht];simp only;unfold jzs;simp only[hel,hc,cond_false];rw[hsrc s1,hys,aza];simp only[dite_true,h3 t rfl,htk,cond_true,hz,aza];have:=h5 d (by show upd (fun _=>false) d true d=true;exact azh _ _ _);rw[pzX (s:=s1.drop [t]) (by rw[hne];exact this),heff]
      .simp[hb]at he
     .exfalso;obtain⟨x,y,h1,h2,_⟩:=LzZ hv;exact(Jzz (x:=x) hsa (by simp only[Op.operands,Call.operands,Array.toList_append,List.mem_append,h1];right;simp)).1 _ _ h2
     .cases he
 .cases he
theorem evOp_does {o:Oper}(he:evOp P tb Γ o s some=some s')(hx:azY Γ o.op s≠.x)(hu:∀t v,s.env t=some v->∀i∈v.ids,s.used i=true):∃e dt,DoesT P tb Γ o s (azY Γ o.op s) s' e dt:=by
 by_cases ha:∀t,azY Γ o.op s≠.ap t
 .obtain⟨e,h⟩:=Mz6 he hx ha;exact⟨e,none,h.toT ha⟩
 .have:∃t,azY Γ o.op s = .ap t:=by
   apply Classical.byContradiction;intro h;exact ha fun t e=>h ⟨t,e⟩
  obtain⟨t,ht⟩:=this;obtain⟨dst,op,ty,pos,aft,gd⟩:=o;cases op
  case call c =>
   obtain⟨callee,args,tys⟩:=c;cases callee with
   | builtin b =>
    cases b
    case append=>exact Mze he hx hu
    case len=>simp only[azY]at ht;split at ht<;>cases ht
    all_goals exact absurd ht (by simp[azY])
   | invoke r m=>exact absurd ht (by simp[azY])
   | value f =>
    have:azY Γ (.call ⟨.value f,args,tys⟩) s=match s.val f with|some (.c (.fn g _))=>bif pzp Γ g then .n else .x|_=>.x:=rfl
    simp only at ht;rw[this]at ht;split at ht
    .rename_i g _ _;cases hp:pzp Γ g<;>rw[hp]at ht<;>cases ht
    .cases ht
  case load t' a =>
   have:azY Γ (.load t' a) s=match s.val a with|some (.c (.ptr i _))=>.l i|some (.c (.cptr _))=>.p|some (.c (.elp i _ _ _))=>.la i|_=>.x:=rfl
   simp only at ht;rw[this]at ht;split at ht<;>cases ht
  case store t' a x =>
   have:azY Γ (.store t' a x) s=match s.val a with|some (.c (.ptr i _))=>.st i|some (.c (.elp i _ _ _))=>.sa i|_=>.x:=rfl
   simp only at ht;rw[this]at ht;split at ht<;>cases ht
  case slice t' x l h m =>
   have:azY Γ (.slice t' x l h m) s=match s.val x with|some (.c (.vsl _ _))=>.x|_=>.p:=rfl
   simp only at ht;rw[this]at ht;split at ht<;>cases ht
  all_goals exact absurd ht (by simp[azY])
end Go.Ev
namespace Go.Ev
open Go
open Go.IntKind (i64 u64 u8 i32 u32 i16 u16)
variable {P:Program} {tb:Tab} {N:Nat} {W:Nat->Prop} {a0:Act} {g0:Gh} {w0:World} {D0:Nat->Prop}
variable {s s' s1 s2:St tb.T} {Γ:List (Nat×FSpec tb)} {ops:Array Oper} {Q:Exit->Act->World->Prop}
structure GDoes (P:Program) (tb:Tab) (Γ:List (Nat×FSpec tb)) (ops:Array Oper) (o:Oper) (s:St tb.T) (f:Foot) (s':St tb.T) (e:Eff tb.T) (dt:Option Nat):Prop where
 eq:s'=ezy e dt s
 fresh:∀i,e.F i=true->s.used i=false
 mb:∀i,e.b i≠none->e.F i=true\/f = .st i
 mit:∀i,e.it i≠none->e.F i=true
 mar:∀i z,e.ar i=some z->e.F i=true\/(f = .sa i/\sh (some z)=sh (s.arr i))
 mtk:∀i,e.tk i=true->e.F i=true
 mdt:∀i,dt=some i->f = .ap (some i)
 dst:e.d=none\/e.d=o.dst
 reads:∀i,((f.mem i\/f.memA i)\/f = .ap (some i))->∃t v,t∈o.looksAt ops/\s.env t=some v/\i∈v.ids
 again:∀s1,(∀t∈o.looksAt ops,s1.env t=s.env t)->(∀i,f.mem i->s1.blk i=s.blk i/\s1.itr i=s.itr i)->(∀i,f.memA i->s1.arr i=s.arr i)->(∀t∈o.looksAt ops,∀v,s.env t=some v->∀i∈v.ids,sh (s1.arr i)=sh (s.arr i))->(∀i,f = .ap (some i)->s1.tok i=s.tok i)->s1.ro=s.ro->(∀i,e.F i=true->s1.used i=false)->GStep P tb Γ ops o s1 f (ezy e dt s1)
theorem Azg {o:Oper}{t:Nat}(h:.tmp t∈o.op.operands.toList):t∈o.looksAt ops:=by
 unfold Oper.looksAt;exact List.mem_append_left _ (List.mem_filterMap.2 ⟨.tmp t,h,rfl⟩)
theorem Dzi {o:Oper}{j t:Nat}{want:Bool}{oj:Oper}(h:o.guard=some (j,want))(hj:ops[j]?=some oj)(ht:oj.dst=some t):t∈o.looksAt ops:=by
 unfold Oper.looksAt;refine List.mem_append_right _ ?_;simp[h,hj,ht]
theorem FzH {o:Oper}{f:Foot}(h:GStep P tb Γ ops o s f s')(hx:f≠.x)(hu:∀t v,s.env t=some v->∀i∈v.ids,s.used i=true):∃e dt,GDoes P tb Γ ops o s f s' e dt:=by
 cases h with
 | run _ hg he =>
  obtain⟨e,dt,h1,h2,h3,h4,h10,h8,h9,h5,h6,h7⟩:=evOp_does he hx hu;refine⟨e,dt,h1,h2,h3,h4,h10,h8,h9,h5,fun i hi=>?_,fun s1 k1 k2 k6 k7 k5 k3 k4=>?_⟩
  .obtain⟨t,v,q1,q2,q3⟩:=h6 i hi;exact⟨t,v,Azg q1,q2,q3⟩
  .obtain⟨q1,q2⟩:=h7 s1 (fun x hx=>by
    cases x with
    | tmp t=>exact k1 t (Azg hx)
    | const _=>rfl
    | global _=>rfl
    | func _=>rfl) k2 k6 (fun x hx v hv i hi=>by
    obtain⟨t,rfl,ht⟩:=qzP hv hi;exact k7 t (Azg hx) v ht i hi) k5 k3 k4
   rw[<-q2];refine .run _ (fun j want hj=>?_) q1;obtain⟨oj,t,r1,r2,r3⟩:=hg j want hj;exact⟨oj,t,r1,r2,by rw[k1 t (Dzi hj r1 r2)];exact r3⟩
 | skip j want oj t hg h1 h2 h3 =>
  refine⟨{d:=o.dst,v:=.tup []},none,czG ..,by simp,by simp,by simp,by simp,by simp,by simp,.inr rfl,fun i hi=>?_,fun s1 k1 _ _ _ _ _ _=>?_⟩
  .rcases hi with hi|hi
   .exact(hi.elim id id).elim
   .cases hi
  .rw[Lz3,<-czG];refine .skip j want oj t hg h1 h2 ?_;rw[k1 t (Dzi hg h1 h2)];exact h3
theorem Gzh {f:Foot}{i:Nat}(h:f = .st i):f.mem i:=by subst h;rfl
theorem free_st {f g:Foot}{i:Nat}(h:Foot.free f g=true):(f = .st i->¬g.mem i)/\(g = .st i->¬f.mem i):=by
 refine⟨fun e hm=>?_,fun e hm=>?_⟩<;>subst e
 .cases g<;>simp only[Foot.mem]at hm<;>subst hm<;>simp[Foot.free]at h
 .cases f<;>simp only[Foot.mem]at hm<;>subst hm<;>simp[Foot.free]at h
theorem free_sa {f g:Foot}{i:Nat}(h:Foot.free f g=true):(f = .sa i->¬g.memA i)/\(g = .sa i->¬f.memA i):=by
 refine⟨fun e hm=>?_,fun e hm=>?_⟩<;>subst e
 .cases g<;>simp only[Foot.memA]at hm<;>subst hm<;>simp[Foot.free]at h
 .cases f<;>simp only[Foot.memA]at hm<;>subst hm<;>simp[Foot.free]at h
theorem memA_sa {f:Foot}{i:Nat}(h:f = .sa i):f.memA i:=by subst h;rfl
theorem JzQ {o1 o2 : Oper} {f1 f2 : Foot} (hu : ∀ t v, s.env t = some v -> ∀ i ∈ v.ids, s.used i = true) (hu' : GStep P tb Γ ops o1 s f1 s1 -> ∀ t v, s1.env t = some v -> ∀ i ∈ v.ids, s1.used i = true) (h1 : GStep P tb Γ ops o1 s f1 s1) (h2 : GStep P tb Γ ops o2 s1 f2 s2) (hf : Foot.free f1 f2 = true) (ha : Oper.apart ops o1 o2 = true) :
    ∃s3,GStep P tb Γ ops o2 s f2 s3/\GStep P tb Γ ops o1 s3 f1 s2:=by
  have hx1:f1≠.x:=fun e=>by subst e;simp[Foot.free]at hf
  have hx2:f2≠.x:=fun e=>by subst e;cases f1<;>simp[Foot.free]at hf
  obtain⟨e1,dt1,d1⟩:=FzH h1 hx1 hu
  have hus1':∀i,s1.used i=(e1.F i||s.used i):=fun i=>by rw[d1.eq];rfl
  have hap:∀t u,f1 = .ap (some t)->f2 = .ap (some u)->t≠u:=fun t u e1 e2 e=>by
    subst e1;subst e2;subst e
    have hb:Nat.beq t t=true:=Nat.beq_refl t
    have hf:(!Nat.beq t t)=true:=hf
    rw[hb]at hf;cases hf
  have hu1:∀t v,s1.env t=some v->∀i∈v.ids,s1.used i=true:=hu' h1
  obtain⟨e2,dt2,d2⟩:=FzH h2 hx2 hu1
  obtain⟨a1,a2,a3⟩:=Oper.apart_spec ha
  have henv:∀t,(∀d,o1.dst=some d->t≠d)->s1.env t=s.env t:=fun t ht=>by
    rw[d1.eq]
    simp only[ezy,Eff.apply]
    cases hd:e1.d with
    | none=>rfl
    | some d =>
      have : o1.dst = some d := by rcases d1.dst with c | c <;> rw [hd] at c; · cases c
                                   . exact c.symm
      simp only
      rw[azo _ _ (ht d this)]
  have hl2:∀t∈o2.looksAt ops,s1.env t=s.env t:=fun t ht=>henv t fun d hd e=>a1 d hd (e▸ht)
  have hus1:∀i,s1.used i=(e1.F i||s.used i):=fun i=>by rw[d1.eq];rfl
  have hr2:∀i,((f2.mem i\/f2.memA i)\/f2 = .ap (some i))->s.used i=true:=fun i hi=>by
    obtain⟨t,v,q1,q2,q3⟩:=d2.reads i hi
    rw[hl2 t q1]at q2
    exact hu t v q2 i q3
  have hr1:∀i,((f1.mem i\/f1.memA i)\/f1 = .ap (some i))->s.used i=true:=fun i hi=>by
    obtain⟨t,v,q1,q2,q3⟩:=d1.reads i hi
    exact hu t v q2 i q3
  have hF2:∀i,e2.F i=true->e1.F i=false/\s.used i=false:=fun i hi=>by
    have:=d2.fresh i hi
    rw[hus1]at this
    simpa using this
  have hb1:∀i,f2.mem i->e1.b i=none:=fun i hi=>by
    apply Classical.byContradiction
    intro hne
    rcases d1.mb i hne with c|c
    . have:=d1.fresh i c;rw[hr2 i (.inl (.inl hi))]at this;cases this
    . exact(free_st hf).1 c hi
  have hb2:∀i,f1.mem i->e2.b i=none:=fun i hi=>by
    apply Classical.byContradiction
    intro hne
    rcases d2.mb i hne with c|c
    . have:=(hF2 i c).2;rw[hr1 i (.inl (.inl hi))]at this;cases this
    . exact(free_st hf).2 c hi
  have hi1:∀i,f2.mem i->e1.it i=none:=fun i hi=>by
    apply Classical.byContradiction
    intro hne
    have:=d1.fresh i (d1.mit i hne);rw[hr2 i (.inl (.inl hi))]at this;cases this
  have hi2:∀i,f1.mem i->e2.it i=none:=fun i hi=>by
    apply Classical.byContradiction
    intro hne
    have:=(hF2 i (d2.mit i hne)).2;rw[hr1 i (.inl (.inl hi))]at this;cases this
  have ha1':∀i,f2.memA i->e1.ar i=none:=fun i hi=>by
    cases hz:e1.ar i with
    | none=>rfl
    | some z =>
      rcases d1.mar i z hz with c|⟨c,_⟩
      . have:=d1.fresh i c;rw[hr2 i (.inl (.inr hi))]at this;cases this
      . exact absurd hi ((free_sa hf).1 c)
  have ha2':∀i,f1.memA i->e2.ar i=none:=fun i hi=>by
    cases hz:e2.ar i with
    | none=>rfl
    | some z =>
      rcases d2.mar i z hz with c|⟨c,_⟩
      . have:=(hF2 i c).2;rw[hr1 i (.inl (.inr hi))]at this;cases this
      . exact absurd hi ((free_sa hf).2 c)
  have hs1:∀i,s.used i=true->sh (s1.arr i)=sh (s.arr i):=fun i hi=>by
    have e1':s1.arr i=(e1.ar i).or (s.arr i):=by rw[d1.eq];rfl
    rw[e1']
    cases hz:e1.ar i with
    | none=>rfl
    | some z =>
      rcases d1.mar i z hz with c|⟨_,c⟩
      . have:=d1.fresh i c;rw[hi]at this;cases this
      . exact c
  have hs2:∀i,s.used i=true->sh ((ezy e2 dt2 s).arr i)=sh (s.arr i):=fun i hi=>by
    show sh ((e2.ar i).or (s.arr i))=_
    cases hz:e2.ar i with
    | none=>rfl
    | some z =>
      rcases d2.mar i z hz with c|⟨_,c⟩
      . have:=(hF2 i c).2;rw[hi]at this;cases this
      . exact c.trans (hs1 i hi)
  have ht1:∀i,f2 = .ap (some i)->(ezy e1 dt1 s).tok i=s.tok i:=fun i hi=>by
    have hui:=hr2 i (.inr hi)
    have h1:e1.tk i=false:=by
      cases hk:e1.tk i with
      | false=>rfl
      | true=>have:=d1.fresh i (d1.mtk i hk);rw[hui]at this;cases this
    have h2:dt1≠some i:=fun e=>hap i i (d1.mdt i e) hi rfl
    simp only[ezy,Eff.apply,h1,Bool.false_or]
    cases hd:dt1 with
    | none=>rfl
    | some t =>
      have:Nat.beq i t=false:=by
        cases hq:Nat.beq i t with
        | false=>rfl
        | true=>exact absurd (by rw[hd,Nat.eq_of_beq_eq_true hq]) h2
      simp only[this,cond_false]
  have ht2:∀i,f1 = .ap (some i)->(ezy e2 dt2 s).tok i=s.tok i:=fun i hi=>by
    have hui:=hr1 i (.inr hi)
    have h1:e2.tk i=false:=by
      cases hk:e2.tk i with
      | false=>rfl
      | true=>have:=(hF2 i (d2.mtk i hk)).2;rw[hui]at this;cases this
    have h2:dt2≠some i:=fun e=>hap i i hi (d2.mdt i e) rfl
    simp only[ezy,Eff.apply,h1,Bool.false_or]
    cases hd:dt2 with
    | none=>rfl
    | some t =>
      have:Nat.beq i t=false:=by
        cases hq:Nat.beq i t with
        | false=>rfl
        | true=>exact absurd (by rw[hd,Nat.eq_of_beq_eq_true hq]) h2
      simp only[this,cond_false]
  have s2':=d2.again s (fun t ht=>(hl2 t ht).symm) (fun i hi=>by rw[d1.eq];simp[ezy,Eff.apply,hb1 i hi,hi1 i hi]) (fun i hi=>by rw[d1.eq];simp[ezy,Eff.apply,ha1' i hi]) (fun t ht v hv i hi=>by rw[hl2 t ht]at hv;exact(hs1 i (hu t v hv i hi)).symm) (fun i hi=>by rw[d1.eq];exact(ht1 i hi).symm) (by rw[d1.eq];rfl) (fun i hi=>(hF2 i hi).2)
  refine⟨_,s2',?_⟩
  have s3':=d1.again (ezy e2 dt2 s) (fun t ht=>?_) (fun i hi=>by simp[ezy,Eff.apply,hb2 i hi,hi2 i hi]) (fun i hi=>by simp[ezy,Eff.apply,ha2' i hi]) (fun t _ v hv i hi=>hs2 i (hu t v hv i hi)) ht2 rfl (fun i hi=>?_)
  . have : ezy e1 dt1 (ezy e2 dt2 s) = s2 := by
      rw[d2.eq,d1.eq]
      simp only[ezy,Eff.apply,St.mk.injEq]
      refine⟨?_,?_,?_,?_,?_,?_,trivial⟩
      . cases hd1:e1.d with
        | none=>rfl
        | some x =>
          cases hd2:e2.d with
          | none=>rfl
          | some y =>
            have q1 : o1.dst = some x := by rcases d1.dst with c | c <;> rw [hd1] at c; · cases c
                                            . exact c.symm
            have q2 : o2.dst = some y := by rcases d2.dst with c | c <;> rw [hd2] at c; · cases c
                                            . exact c.symm
            have hne:x≠y:=fun e=>a2 x q1 (e▸q2)
            funext t
            simp only[azu]
            split
            . rename_i e;subst e;rw[if_neg hne]
            . rfl
      . funext i
        cases hbi:e1.b i with
        | none=>cases e2.b i<;>simp
        | some x =>
          have:e2.b i=none:=by
            apply Classical.byContradiction
            intro hne
            rcases d2.mb i hne with c|c
            . obtain⟨k1,k2⟩:=hF2 i c
              rcases d1.mb i (by rw[hbi];simp)with e|e
              . rw[k1]at e;cases e
              . rw[hr1 i (.inl (.inl (Gzh e)))]at k2;cases k2
            . have:=hb1 i (Gzh c);rw[hbi]at this;cases this
          simp[this]
      . funext i
        cases hbi:e1.it i with
        | none=>cases e2.it i<;>simp
        | some x =>
          have:e2.it i=none:=by
            apply Classical.byContradiction
            intro hne
            have k:=(hF2 i (d2.mit i hne)).1
            rw[d1.mit i (by rw[hbi];simp)]at k;cases k
          simp[this]
      . funext i
        cases hbi:e1.ar i with
        | none=>cases e2.ar i<;>simp
        | some x =>
          cases hci:e2.ar i with
          | none=>simp
          | some y =>
            exfalso
            rcases d2.mar i y hci with c|⟨c,_⟩
            . obtain⟨k1,k2⟩:=hF2 i c
              rcases d1.mar i x hbi with e|⟨e,_⟩
              . rw[k1]at e;cases e
              . rw[hr1 i (.inl (.inr (memA_sa e)))]at k2;cases k2
            . have:=ha1' i (memA_sa c);rw[hbi]at this;cases this
      . funext i
        have a1:dt1=some i->e2.tk i=false:=fun h=>by
          cases hk:e2.tk i with
          | false=>rfl
          | true=>have:=(hF2 i (d2.mtk i hk)).2;rw[hr1 i (.inr (d1.mdt i h))]at this;cases this
        have a2:dt2=some i->e1.tk i=false:=fun h=>by
          cases hk:e1.tk i with
          | false=>rfl
          | true=>have:=d1.fresh i (d1.mtk i hk);rw[hr2 i (.inr (d2.mdt i h))]at this;cases this
        have nb:∀t,i≠t->Nat.beq i t=false:=fun t h=>by
          cases hq:Nat.beq i t with
          | false=>rfl
          | true=>exact absurd (Nat.eq_of_beq_eq_true hq) h
        have bb:Nat.beq i i=true:=Nat.beq_refl i
        cases dt1 with
        | none =>
          cases dt2 with
          | none=>simp only;cases e1.tk i<;>cases e2.tk i<;>simp
          | some u =>
            by_cases h:i=u
            . subst h;simp[a2 rfl]
            . simp only[nb u h,cond_false];cases e1.tk i<;>cases e2.tk i<;>simp
        | some t =>
          by_cases h1:i=t
          . subst h1
            cases dt2 with
            | none=>simp[a1 rfl]
            | some u =>
              by_cases h:i=u
              . subst h;simp
              . simp[nb u h,a1 rfl]
          . cases dt2 with
            | none=>simp only[nb t h1,cond_false];cases e1.tk i<;>cases e2.tk i<;>simp
            | some u =>
              by_cases h:i=u
              . subst h;simp[nb t h1,a2 rfl]
              . simp only[nb t h1,nb u h,cond_false];cases e1.tk i<;>cases e2.tk i<;>simp
      . funext i;cases e1.F i<;>cases e2.F i<;>simp
    rw[<-this];exact s3'
  . simp only[ezy,Eff.apply]
    cases hd:e2.d with
    | none=>rfl
    | some d =>
      have q : o2.dst = some d := by rcases d2.dst with c | c <;> rw [hd] at c; · cases c
                                     . exact c.symm
      simp only
      exact azo _ _ fun e=>a3 d q (by rw[<-e];exact ht)
  . simp only[ezy,Eff.apply,Bool.or_eq_false_iff]
    refine⟨?_,d1.fresh i hi⟩
    cases h:e2.F i with
    | false=>rfl
    | true=>have:=(hF2 i h).1;rw[hi]at this;cases this
def Run (P:Program)(tb:Tab)(Γ:List (Nat×FSpec tb))(ops:Array Oper):List (Nat×Foot)->St tb.T->St tb.T->Prop
 | [],s,s'=>s'=s
 | (i,f)::l,s,s'=>∃o s1,ops[i]?=some o/\GStep P tb Γ ops o s f s1/\Run P tb Γ ops l s1 s'
theorem wpOp_ex {i:Nat}{K:Act->World->Prop}{a:Act}{w:World}(h:wpOp P ops (fun _ _ _=>False) i K a w):∃a w,K a w:=by
 unfold wpOp at h;split at h
 .exact⟨_,_,h⟩
 .split at h
  .rcases h with h|⟨_,a0,w0,h⟩
   .rename_i o _ _;unfold Oper.wp at h;generalize (execOp a.eval o).run P w=r at h;cases r with
    | ok n w' =>
     cases n<;>simp only[Oper.upon]at h
     case value=>exact⟨_,_,h⟩
     case skip=>exact⟨_,_,h⟩
     case defer=>exact⟨_,_,h⟩
     case enter f args =>
      obtain⟨e,w'',fr,hR,_⟩:=h [];cases e with
      | returned v=>exact⟨_,_,hR⟩
      | panicked c=>exact hR.elim
      | outgrown=>obtain⟨_,_,hq⟩:=hR;exact hq.elim
     case row row args =>
      obtain⟨v,w'',hR,_⟩:=h default [];exact⟨_,_,hR⟩
    | halt x w'=>cases x<;>simp only[Oper.upon]at h
   .exact h.elim
  .exact⟨_,_,h⟩
end Go.Ev
namespace Go.Ev
open Go
open Go.IntKind (i64 u64 u8 i32 u32 i16 u16)
variable {P:Program} {tb:Tab} {N:Nat} {W:Nat->Prop} {a0:Act} {g0:Gh} {w0:World} {D0:Nat->Prop}
variable {s s' s1 s2:St tb.T} {Γ:List (Nat×FSpec tb)} {ops:Array Oper} {Q:Exit->Act->World->Prop}
def Lives (P:Program)(tb:Tab)(N:Nat)(W:Nat->Prop)(a0:Act)(g0:Gh)(w0:World)(D0:Nat->Prop)(s:St tb.T):Prop:=∃a w,Sim P tb N W a0 g0 w0 D0 s a w
theorem Lives.step (hΓ:∀p∈Γ,ez7 P tb p.1 p.2)(hsl:∀p∈Γ,(azX p.2.ins).map (·.1)=List.range (azX p.2.ins).length)(h:Lives P tb N W a0 g0 w0 D0 s){i:Nat}{o:Oper}(ho:ops[i]?=some o)
 (hd:∀d,o.dst=some d->d<N/\W d) {f:Foot} (he:GStep P tb Γ ops o s f s'):Lives P tb N W a0 g0 w0 D0 s':=by
 obtain⟨a,w,g,μ,τ,h⟩:=h;obtain⟨a',w',h'⟩:=wpOp_ex (ozr hΓ hsl h ho hd he);exact⟨a',w',h'⟩
theorem LzP (hΓ:∀p∈Γ,ez7 P tb p.1 p.2)(hsl:∀p∈Γ,(azX p.2.ins).map (·.1)=List.range (azX p.2.ins).length)(hd:∀o∈ops.toList,∀d,o.dst=some d->d<N/\W d){i:Nat}{f:Foot}{post:List (Nat×Foot)}{oi:Oper}(hoi:ops[i]?=some oi):
 ∀{pre:List (Nat×Foot)} {s s':St tb.T},Lives P tb N W a0 g0 w0 D0 s->Run P tb Γ ops (pre++(i,f)::post) s s'->(∀p∈pre,∀op,ops[p.1]?=some op->Foot.free p.2 f=true/\Oper.apart ops op oi=true) ->
  Run P tb Γ ops ((i,f)::pre++post) s s'
 | [],_,_,_,h,_=>h
 | (j,g)::pre,s,s',hl,h,hf=>by
  obtain⟨o,s1,h1,h2,h3⟩:=h;have hdo:∀d,o.dst=some d->d<N/\W d:=hd o (by have:=Array.mem_of_getElem? h1;simpa using this);obtain⟨o2,s2,k1,k2,k3⟩:=LzP hΓ hsl hd hoi (hl.step hΓ hsl h1 hdo h2) h3 fun p hp=>hf p (by simp[hp])
  rw[hoi]at k1;simp only[sE0]at k1;subst k1;obtain⟨q1,q2⟩:=hf (j,g) (by simp) o h1;obtain⟨a,w,gh,μ,τ,hs⟩:=hl;obtain⟨s3,r1,r2⟩:=JzQ hs.uenv (fun hst=>by
   obtain⟨a',w',h'⟩:=wpOp_ex (ozr hΓ hsl hs h1 hdo hst);obtain⟨gh',μ',τ',hs'⟩:=h';exact hs'.uenv) h2 k2 q1 q2
  exact⟨oi,s3,hoi,r1,o,s2,h1,r2,k3⟩
def Closed (ops:Array Oper)(L:Nat->Prop):Prop:=∀i o,ops[i]?=some o->L i->∀e∈o.after,Region.binds .any e=true->L e.on
def Good (ops:Array Oper)(k m:Nat):Prop:=∀j,Nat.testBit m j=true->∀L:Nat->Prop,Closed ops L->(∀o,ops[k]?=some o->∀e∈o.after,Region.binds .any e=true->L e.on)->L j
theorem xzH {acc:List Nat}{j:Nat}:∀{es:List Edge} {m:Nat},Nat.testBit (rzL acc es m) j=true->Nat.testBit m j=true\/∃e∈es,Region.binds .any e=true/\(j=e.on\/Nat.testBit (acc.getD e.on 0) j=true)
 | [],m,h=>.inl h
 | e::es,m,h=>by
  simp only[rzL]at h;cases hb:Region.binds .any e with
  | false =>
   simp only[hb,cond_false]at h;rcases xzH h with c|⟨e',h1,h2⟩
   .exact .inl c
   .exact .inr ⟨e',by simp[h1],h2⟩
  | true =>
   simp only[hb,cond_true]at h;rcases xzH h with c|⟨e',h1,h2⟩
   .simp only[Nat.testBit_or,Bool.or_eq_true]at c;rcases c with(c|c)|c
    .exact .inl c
    .refine .inr ⟨e,by simp,hb,.inl ?_⟩;rw[Nat.testBit_two_pow]at c;exact(of_decide_eq_true c).symm
    .exact .inr ⟨e,by simp,hb,.inr c⟩
   .exact .inr ⟨e',by simp[h1],h2⟩
theorem good_of {acc:List Nat}{k:Nat}{o:Oper}(ho:ops[k]?=some o)(h:∀(i:Nat) m,acc[i]?=some m->Good ops i m):Good ops k (rzL acc o.after.toList 0):=by
 intro j hj L hc hL;rcases xzH hj with c|⟨e,h1,h2,h3⟩
 .simp at c
 .have he:=hL o ho e (by simpa using h1) h2;rcases h3 with rfl|h3
  .exact he
  .cases hm:acc[e.on]? with
   | none=>simp[hm]at h3
   | some m =>
    simp only[List.getD_eq_getElem?_getD,hm,Option.getD_some]at h3;exact h e.on m hm j h3 L hc fun o' ho' e' he' hb'=>hc e.on o' ho' he e' he' hb'
theorem Gze:∀(os:List Oper) (acc:List Nat),(∀j,os[j]?=ops[acc.length+j]?)->(∀(i:Nat) m,acc[i]?=some m->Good ops i m)->∀(i:Nat) m,(pzW os acc)[i]?=some m->Good ops i m
 | [],acc,_,h,i,m,hm=>h i m hm
 | o::os,acc,ho,h,i,m,hm=>by
  have e:pzW (o::os) acc=pzW os (acc++[rzL acc o.after.toList 0]):=by
   simp only[pzW];split<;>rename_i h0<;>rw[h0]
  rw[e]at hm;have h0:ops[acc.length]?=some o:=by simpa using(ho 0).symm
  refine Gze os (acc++[rzL acc o.after.toList 0]) (fun j=>?_) (fun i m hm=>?_) i m hm
  .have:=ho (j+1);simp only[List.getElem?_cons_succ]at this;rw[this];congr 1;simp;omega
  .rcases Nat.lt_or_ge i acc.length with c|c
   .rw[List.getElem?_append_left c]at hm;exact h i m hm
   .rw[List.getElem?_append_right c]at hm;have hi:i-acc.length=0:=by
     have:=(List.getElem?_eq_some_iff.1 hm).1;simp at this;omega
    have hi':i=acc.length:=by omega
    subst hi';simp at hm;subst hm;exact good_of h0 h
def Ok (ops:Array Oper)(x y:Nat×Foot):Prop:=∀ox oy,ops[x.1]?=some ox->ops[y.1]?=some oy->(∃m,Good ops y.1 m/\Nat.testBit m x.1=true)\/(Foot.free x.2 y.2=true/\Oper.apart ops ox oy=true)
theorem Gz2 {m:Nat}{o:Oper}{f:Foot}:∀{ps:List (Oper×Foot)} {j0:Nat},wzO ops m o f ps j0=true->∀(j:Nat) p,ps[j]?=some p->Nat.testBit m (j0+j)=true\/(Foot.free p.2 f=true/\Oper.apart ops p.1 o=true)
 | [],_,_,j,p,hp=>by simp at hp
 | (q,g)::ps,j0,h,j,p,hp=>by
  simp only[wzO,Bool.and_eq_true,Bool.or_eq_true]at h;cases j with
  | zero=>simp at hp;subst hp;exact h.1
  | succ j =>
   simp only[List.getElem?_cons_succ]at hp;have:=Gz2 h.2 j p hp;rw[show j0+(j+1)=j0+1+j from by omega];exact this
theorem Fzt:∀(os:List Oper) (ms:List Nat) (seen:List (Oper×Foot)) (s s':St tb.T),(∀j,os[j]?=ops[seen.length+j]?)->(∀j m,ms[j]?=some m->Good ops (seen.length+j) m)->(∀(j:Nat) p,seen[j]?=some p->ops[j]?=some p.1) ->
 kz6 P tb Γ ops os ms seen s some=some s' ->
 ∃R:List (Nat×Foot),R.map (·.1)=List.range' seen.length os.length/\Run P tb Γ ops R s s'/\R.Pairwise (Ok ops)/\(∀(j:Nat) p,seen[j]?=some p->∀y∈R,Ok ops (j,p.2) y)
 | [],_,_,s,s',_,_,_,h=>by
  simp only[kz6,sE0]at h;exact⟨[],rfl,h.symm,.nil,by simp⟩
 | _::_,[],_,_,_,_,_,_,h=>by simp[kz6]at h
 | o::os,m::ms,seen,s,s',ho,hm,hs,h=>by
  have h0:ops[seen.length]?=some o:=by simpa using(ho 0).symm
  have hm0:Good ops seen.length m:=by simpa using hm 0 m rfl
  simp only[kz6]at h;rw[uzC]at h;obtain⟨⟨f,s1⟩,h1,h2⟩:=azp.1 h;simp only at h2;cases hk:wzO ops m o f seen 0 with
  | false=>simp[hk]at h2
  | true =>
   simp only[hk,cond_true]at h2;obtain⟨R,r1,r2,r3,r4⟩:=Fzt os ms (seen++[(o,f)]) s1 s' (fun j=>by
    have:=ho (j+1);simp only[List.getElem?_cons_succ]at this;rw[this];congr 1;simp;omega) (fun j m hj=>by
     have:=hm (j+1) m (by simpa using hj);rw[show(seen++[(o,f)]).length+j=seen.length+(j+1) from by simp;omega];exact this) (fun j p hj=>by
     rcases Nat.lt_or_ge j seen.length with c|c
     .rw[List.getElem?_append_left c]at hj;exact hs j p hj
     .rw[List.getElem?_append_right c]at hj;have hi:j-seen.length=0:=by
       have:=(List.getElem?_eq_some_iff.1 hj).1;simp at this;omega
      have hi':j=seen.length:=by omega
      subst hi';simp at hj;subst hj;exact h0) h2
   refine⟨(seen.length,f)::R,by simp[r1,List.range'_succ],⟨o,s1,h0,Dz4 h1,r2⟩,List.pairwise_cons.2 ⟨fun y hy=>?_,r3⟩,fun j p hj y hy=>?_⟩
   .exact r4 seen.length (o,f) (by simp) y hy
   .have hjl:=(List.getElem?_eq_some_iff.1 hj).1;rcases List.mem_cons.1 hy with rfl|hy
    .intro ox oy h3 h4;simp only at h3 h4;rw[h0]at h4;simp only[sE0]at h4;subst h4;rw[hs j p hj]at h3;simp only[sE0]at h3;subst h3;rcases Gz2 hk j p hj with c|c
     .exact .inl ⟨m,hm0,by simpa using c⟩
     .exact .inr c
    .exact r4 j p (by rw[List.getElem?_append_left hjl];exact hj) y hy
theorem IzX:∀{os:List Oper} {i:Nat},ozF os i=true->∀(j:Nat) o,os[j]?=some o->∀e∈o.after,Region.binds .any e=true->e.on<i+j
 | [],_,_,j,o,ho,_,_,_=>by simp at ho
 | q::os,i,h,j,o,ho,e,he,hb=>by
  simp only[ozF,Bool.and_eq_true,List.all_eq_true]at h;cases j with
  | zero =>
   simp at ho;subst ho;have:=h.1 e (by simpa using he);simp only[hb,Bool.not_true,Bool.false_or]at this;exact Nat.le_of_ble_eq_true this
  | succ j =>
   simp only[List.getElem?_cons_succ]at ho;have:=IzX h.2 j o ho e he hb;omega
theorem wpAny_run (hΓ:∀p∈Γ,ez7 P tb p.1 p.2)(hsl:∀p∈Γ,(azX p.2.ins).map (·.1)=List.range (azX p.2.ins).length)(hd:∀o∈ops.toList,∀d,o.dst=some d->d<N/\W d)(hbk:ozF ops.toList 0=true)(hQ:∀a w,Sim P tb N W a0 g0 w0 D0 s' a w->Q .normal a w):
 ∀(fuel:Nat) (listed:Array Bool) (R:List (Nat×Foot)) (s:St tb.T) (a:Act) (w:World),R.length=fuel->listed.size=ops.size->(∀j,j<ops.size->(listed.getD j true=false↔j∈R.map (·.1)))->(∀j∈R.map (·.1),j<ops.size) ->
  Closed ops (fun j=>listed.getD j false=true)->(R.map (·.1)).Pairwise (· < ·)->R.Pairwise (Ok ops)->Run P tb Γ ops R s s'->Sim P tb N W a0 g0 w0 D0 s a w->wpAny P .any ops Q fuel listed a w:=by
 intro fuel;induction fuel with
 | zero =>
  intro listed R s a w hlen hsz hin hlt hcl hlt2 hok hrun hsim;have:R=[]:=List.eq_nil_of_length_eq_zero hlen;subst this;have hs:s'=s:=hrun;subst hs;refine⟨?_,hQ a w hsim⟩;cases hr:Region.ready .any ops listed with
  | nil=>rfl
  | cons j l =>
   have hj:j∈Region.ready .any ops listed:=by rw[hr];simp
   obtain⟨h1,o,h2,_⟩:=mem_ready.1 hj;have:=(hin j (Array.getElem?_eq_some_iff.1 h2).1).1 h1;simp at this
 | succ fuel ih =>
  intro listed R s a w hlen hsz hin hlt hcl hlt2 hok hrun hsim;refine⟨fun hnil=>?_,fun i hi=>?_⟩
  .exfalso;cases R with
   | nil=>simp at hlen
   | cons x R =>
    obtain⟨k,f⟩:=x;obtain⟨o,s1,ho,hst,_⟩:=hrun;have hk:k<ops.size:=(Array.getElem?_eq_some_iff.1 ho).1;have:k∈Region.ready .any ops listed:=by
     rw[mem_ready];refine⟨(hin k hk).2 (by simp),o,ho,fun e he hb=>?_⟩;have he1:e.on<k:=by
      have:=IzX hbk k o (by simpa using ho) e he hb;omega
     have he2:e.on<listed.size:=by omega
     cases hl:listed.getD e.on false with
     | true=>rfl
     | false =>
      exfalso;have h1:listed.getD e.on true=false:=by
       rw[Array.getD_eq_getD_getElem?,Array.getElem?_eq_getElem he2]at hl ⊢;exact hl
      have h2:=(hin e.on (by omega)).1 h1;simp only[List.map_cons,List.mem_cons]at h2;rcases h2 with h2|h2
      .omega
      .have:=(List.pairwise_cons.1 hlt2).1 e.on h2;simp only at this;omega
    rw[hnil]at this;cases this
  .obtain⟨h1,oi,h2,h3⟩:=mem_ready.1 hi;have hi':i<ops.size:=(Array.getElem?_eq_some_iff.1 h2).1;have hmem:=(hin i hi').1 h1;obtain⟨⟨i',f⟩,hm,e⟩:=List.mem_map.1 hmem;simp only at e;subst e;obtain⟨pre,post,rfl⟩:=List.append_of_mem hm;have hfree:∀p∈pre,∀op,ops[p.1]?=some op->Foot.free p.2 f=true/\Oper.apart ops op oi=true:=fun p hp op hop=>by
    have hpw:=(List.pairwise_append.1 hok).2.2 p hp (i',f) (by simp) op oi hop h2;rcases hpw with⟨m,hg,hb⟩|c
    .exfalso;have hl:=hg p.1 hb (fun j=>listed.getD j false=true) hcl (fun o ho e he hbb=>by
      rw[h2]at ho;simp only[sE0]at ho;subst ho;exact h3 e he hbb)
     have hp':p.1<ops.size:=(Array.getElem?_eq_some_iff.1 hop).1;have hu:=(hin p.1 hp').2 (by simp only[List.map_append,List.mem_append];exact .inl (List.mem_map_of_mem hp));rw[Array.getD_eq_getD_getElem?,Array.getElem?_eq_getElem (by omega)]at hl hu;simp only[Option.getD_some]at hl hu;rw[hl]at hu;cases hu
    .exact c
   have hrun2:=LzP hΓ hsl hd h2 ⟨a,w,hsim⟩ hrun hfree;obtain⟨o,s1,ho,hst,hrest⟩:=hrun2;rw[h2]at ho;simp only[sE0]at ho;subst ho;have hsub:List.Sublist (pre++post) (pre++(i',f)::post):=List.Sublist.append (List.Sublist.refl _) (List.sublist_cons_self _ _);have hnd:∀j∈(pre++post).map (·.1),j≠i':=fun j hj e=>by
    subst e;rw[List.map_append,List.map_cons]at hlt2;have hp:=List.pairwise_append.1 hlt2;rw[List.map_append,List.mem_append]at hj;rcases hj with hj|hj
    .have:=hp.2.2 j hj j (by simp);omega
    .have:=(List.pairwise_cons.1 hp.2.1).1 j hj;omega
   obtain⟨g,μ,τ,hsim⟩:=hsim;refine wpOp_mono (fun a1 w1 hs1=>?_) (ozr hΓ hsl hsim h2 (hd oi (by have:=Array.mem_of_getElem? h2;simpa using this)) hst);refine ih (listed.setIfInBounds i' true) (pre++post) s1 a1 w1 (by simp at hlen ⊢;omega) (by simp[hsz]) (fun j hj=>?_) (fun j hj=>hlt j (by
    have:=hsub.map Prod.fst;exact this.subset hj)) (fun k ok hok' hk e he hb=>?_) (hlt2.sublist (hsub.map _)) (hok.sublist hsub) hrest hs1
   .by_cases hji:j=i'
    .subst hji;have:(listed.setIfInBounds j true).getD j true=true:=by
      rw[Array.getD_eq_getD_getElem?];rw[Array.getElem?_setIfInBounds_self];split<;>rfl
     rw[this];constructor
     .intro h;cases h
     .intro h;exact absurd rfl (hnd j h)
    .rw[getD_set_ne true (fun e=>hji e.symm),hin j hj];simp only[List.map_append,List.map_cons,List.mem_append,List.mem_cons];constructor
     .rintro(h|h|h)
      .exact .inl h
      .exact absurd h hji
      .exact .inr h
     .rintro(h|h)
      .exact .inl h
      .exact .inr (.inr h)
   .by_cases hki:k=i'
    .subst hki;rw[h2]at hok';simp only[sE0]at hok';subst hok';exact getD_set_true (h3 e he hb)
    .simp only at hk ⊢;rw[getD_set_ne false (fun e=>hki e.symm)]at hk;exact getD_set_true (hcl k ok hok' hk e he hb)
theorem JzG (hΓ:∀p∈Γ,ez7 P tb p.1 p.2)(hsl:∀p∈Γ,(azX p.2.ins).map (·.1)=List.range (azX p.2.ins).length)(hd:∀o∈ops.toList,∀d,o.dst=some d->d<N/\W d)(hbk:ozF ops.toList 0=true)
 {a:Act} {w:World} (h:Sim P tb N W a0 g0 w0 D0 s a w) (he:kz6 P tb Γ ops ops.toList (pzW ops.toList []) [] s some=some s') (hQ:∀a w,Sim P tb N W a0 g0 w0 D0 s' a w->Q .normal a w):wpAny P .any ops Q ops.size (Array.replicate ops.size false) a {w with drawn:=w.drawn+1}:=by
 obtain⟨R,r1,r2,r3,_⟩:=Fzt ops.toList (pzW ops.toList []) [] s s' (fun j=>by simp) (fun j m hj=>by
  simpa using Gze (ops:=ops) ops.toList [] (fun j=>by simp) (fun i m h=>by simp at h) j m hj) (fun j p h=>by simp at h) he
 obtain⟨g,μ,τ,h⟩:=h;simp only[List.length_nil,Array.length_toList]at r1;refine wpAny_run hΓ hsl hd hbk hQ ops.size (Array.replicate ops.size false) R s a _ ?_ (by simp) (fun j hj=>?_) (fun j hj=>?_) (fun i o ho hi=>?_) ?_ r3 r2 ⟨g,μ,τ,h.world rfl rfl rfl rfl⟩
 .have:=congrArg List.length r1;simpa using this
 .rw[r1];simp[hj,List.mem_range'_1]
 .rw[r1]at hj;simpa[List.mem_range'_1]using hj
 .exfalso;have hil:i<ops.size:=(Array.getElem?_eq_some_iff.1 ho).1;simp[hil]at hi
 .rw[r1];exact List.pairwise_lt_range'
end Go.Ev
namespace Go.Ev
open Go
open Go.IntKind (i64 u64 u8 i32 u32 i16 u16)
variable {P:Program} {Q Q':Exit->Act->World->Prop} {a:Act} {w:World} {F:Fence} {n:Nat} {z:Bool}
def FOk (z:Bool)(F:Fence):Prop:=F=Fence.wide\/(z=false/\∃l,F=Fence.wide.inRound l)
theorem FOk.fn (h:FOk z F)(f:FuncId):F.fn f:=by rcases h with rfl|⟨_,l,rfl⟩<;>exact trivial
theorem FOk.depth (h:FOk z F):F.depth=none:=by rcases h with rfl|⟨_,l,rfl⟩<;>rfl
theorem FOk.calls (h:FOk z F){f:FuncId}{args:Array Value}{R:Ending->World->Prop}(k:Calls P f args w R):CallsIn F n P f args w R:=by
 rcases h with rfl|⟨_,l,rfl⟩
 .exact callsIn_wide.2 k
 .exact(callsIn_wide (n:=n)).2 k |>.inRound l
def wpF (z:Bool)(P:Program)(c:Code)(Q:Exit->Act->World->Prop)(a:Act)(w:World):Prop:=∀(F:Fence) (n:Nat),FOk z F->c.wpIn F n P Q a w
theorem hzh {c:Code}(h:wpF z P c Q a w)(hq:∀e a w,Q e a w->Q' e a w):wpF z P c Q' a w:=fun F n hF=>wpIn_mono (h F n hF) hq
theorem wpF_skip (h:Q .normal a w):wpF z P .skip Q a w:=fun _ _ _=>wpIn_skip h
theorem wpF_label {l:Nat}(h:Q .normal a w):wpF z P (.label l) Q a w:=fun _ _ _=>wpIn_label h
theorem wpF_exit {id:Nat}(h:Q (.exit id) a w):wpF z P (.exit id) Q a w:=fun _ _ _=>wpIn_exit h
theorem wpF_goto {l:Nat}(h:Q (.goto l) a w):wpF z P (.goto l) Q a w:=fun _ _ _=>wpIn_goto h
theorem wpF_ret (h:Q .ret a w):wpF z P .ret Q a w:=fun _ _ _=>wpIn_ret h
theorem then_mono {K K':Act->World->Prop}(hk:∀a w,K a w->K' a w){e:Exit}{a:Act}{w:World}(h:Exit.then K Q e a w):Exit.then K' Q e a w:=by
 cases e<;>first|exact hk _ _ h|exact h
theorem wpF_seq {x y:Code}(h:wpF z P x (Exit.then (wpF z P y Q) Q) a w):wpF z P (.seq x y) Q a w:=fun F n hF =>
 wpIn_seq (wpIn_mono (h F n hF) fun _ _ _ h=>then_mono (fun _ _ k=>k F n hF) h)
theorem Lz0 {c:Operand}{x y:Code}{t:Bool}(hc:a.eval c = .bool t)(h:wpF z P (if t then x else y) Q a w):wpF z P (.cond c x y) Q a w:=fun F n hF=>wpIn_cond hc (h F n hF)
theorem wpF_block {id:Nat}{c:Code}(h:wpF z P c (Exit.inBlock id Q) a w):wpF z P (.block id c) Q a w:=fun F n hF=>wpIn_block (h F n hF)
theorem wpF_loop {c:Code}(I:Act->World->Prop)(μ:Act->World->Nat)(h₀:I a w)(round:∀a w,I a w->wpF z P c (Exit.then (fun a' w'=>I a' w'/\μ a' w'<μ a w) Q) a w):wpF z P (.loop c) Q a w :=
 fun F n hF=>wpIn_loop I μ h₀ fun a w hi=>round a w hi F n hF
theorem MzS {b:Frame}{k:List Item}{cs:List Frame}{c:Code}:step P (lone (b.atR a (.code (.scope c)::k)) cs w) = .next (lone (b.atR a (.code c :: .inScope c::k)) cs w) :=
 step_lone_go (by simp[stepG,stepG.exec,Frame.atR])
theorem Kzj {b:Frame}{k:List Item}{cs:List Frame}{c:Code}:step P (lone (b.atR a (.inScope c::k)) cs w) = .next (lone (b.atR a k) cs w) :=
 step_lone_go (by simp[stepG,stepG.exec,Frame.atR])
def Into (I:Nat->Act->World->Prop)(Q:Exit->Act->World->Prop):Exit->Act->World->Prop
 | .goto l,a,w=>I l a w
 | e,a,w=>Q e a w
def From (z:Bool)(P:Program)(b:Code)(l:Nat)(Q:Exit->Act->World->Prop)(a:Act)(w:World):Prop:=∀I:Nat->Act->World->Prop,(∀l rest a w,findLabel b l=some rest->wpF z P rest (Into I Q) a w->I l a w)->I l a w
theorem From.mk {b rest:Code}{l:Nat}(hf:findLabel b l=some rest)(h:wpF z P rest (Into (fun l=>From z P b l Q) Q) a w):From z P b l Q a w:=fun I hI =>
 hI l rest a w hf (hzh h fun e a w hq=>by cases e<;>first|exact hq I hI|exact hq)
theorem From.mono {b:Code}{l:Nat}(h:From z P b l Q a w)(hq:∀e a w,Q e a w->Q' e a w):From z P b l Q' a w :=
 h (fun l=>From z P b l Q') fun l rest a w hf hr=>From.mk hf (hzh hr fun e a w h'=>by cases e<;>first|exact h'|exact hq _ _ _ h')
theorem Into.mono {b:Code}{e:Exit}(h:Into (fun l=>From z P b l Q) Q e a w)(hq:∀e a w,Q e a w->Q' e a w):Into (fun l=>From z P b l Q') Q' e a w:=by
 cases e with
 | goto l=>exact From.mono h hq
 | _=>exact hq _ _ _ h
theorem zzK {c:Code}{id:Nat}{k:List Item}:exitTo id (.inScope c::k)=exitTo id k:=by simp[exitTo]
theorem wz6 {c:Code}(first:wpF z P c (Into (fun l=>From z P c l Q) Q) a w):wpF z P (.scope c) Q a w:=by
 intro F n hF b k cs hro hb hr;have hg:∀l rest,findLabel c l=some rest->gotoIn l (.inScope c::k)=some (.code rest :: .inScope c::k):=fun l rest hf=>by simp[gotoIn,hf]
 have hout:∀{a₁:Act} {w₁:World},StepsIn (Machine.fenced P F) P (lone (b.atR a₁ (.inScope c::k)) cs w₁) (lone (b.atR a₁ k) cs w₁):=fun {a₁ w₁}=>.one (fenced_calm (fr:=b.atR a₁ (.inScope c::k)) hb hr rfl) Kzj
 have up:∀{m:Machine} {e:Exit} {a₁:Act} {w₁:World},(∀l,e≠.goto l)->ArrivesIn (Machine.fenced P F) P m b (.inScope c::k) cs e a₁ w₁->ArrivesIn (Machine.fenced P F) P m b k cs e a₁ w₁:=fun {m e a₁ w₁} hne h=>by
  cases e with
  | normal=>exact StepsIn.trans h hout
  | exit id=>exact⟨fun k' hk=>h.1 k' (by rw[zzK];exact hk),fun h1 h2=>h.2 h1 (by rw[zzK];exact h2)⟩
  | goto l=>exact absurd rfl (hne l)
  | ret=>exact h
  | panic ch=>exact h
  | outgrown=>exact h
 have key:∀l a w,From z P c l Q a w->∃rest,findLabel c l=some rest/\∃e a' w',Q e a' w'/\ArrivesIn (Machine.fenced P F) P (lone (b.atR a (.code rest :: .inScope c::k)) cs w) b k cs e a' w':=fun l a w h=>by
  refine h (fun l a w=>∃rest,findLabel c l=some rest/\∃e a' w',Q e a' w'/\ArrivesIn (Machine.fenced P F) P (lone (b.atR a (.code rest :: .inScope c::k)) cs w) b k cs e a' w') fun l rest a w hf hr'=>⟨rest,hf,?_⟩
  obtain⟨e,a₁,w₁,hq,harr⟩:=hr' F n hF b (.inScope c::k) cs hro hb hr;cases e with
  | goto l' =>
   obtain⟨rest',hf',e₂,a₂,w₂,hq₂,harr₂⟩:=hq;exact⟨e₂,a₂,w₂,hq₂,.of_steps (harr.1 _ (hg l' rest' hf')) harr₂⟩
  | normal=>exact⟨_,a₁,w₁,hq,up (by simp) harr⟩
  | exit id=>exact⟨_,a₁,w₁,hq,up (by simp) harr⟩
  | ret=>exact⟨_,a₁,w₁,hq,up (by simp) harr⟩
  | panic ch=>exact⟨_,a₁,w₁,hq,up (by simp) harr⟩
  | outgrown=>exact⟨_,a₁,w₁,hq,up (by simp) harr⟩
 have s0:StepsIn (Machine.fenced P F) P (lone (b.atR a (.code (.scope c)::k)) cs w) (lone (b.atR a (.code c :: .inScope c::k)) cs w):=.one (fenced_calm (fr:=b.atR a (.code (.scope c)::k)) hb hr rfl) MzS;obtain⟨e,a₁,w₁,hq,harr⟩:=first F n hF b (.inScope c::k) cs hro hb hr
 cases e with
 | goto l' =>
  obtain⟨rest',hf',e₂,a₂,w₂,hq₂,harr₂⟩:=key _ a₁ w₁ hq;exact⟨e₂,a₂,w₂,hq₂,.of_steps (StepsIn.trans s0 (harr.1 _ (hg l' rest' hf'))) harr₂⟩
 | normal=>exact⟨_,a₁,w₁,hq,.of_steps s0 (up (by simp) harr)⟩
 | exit id=>exact⟨_,a₁,w₁,hq,.of_steps s0 (up (by simp) harr)⟩
 | ret=>exact⟨_,a₁,w₁,hq,.of_steps s0 (up (by simp) harr)⟩
 | panic ch=>exact⟨_,a₁,w₁,hq,.of_steps s0 (up (by simp) harr)⟩
 | outgrown=>exact⟨_,a₁,w₁,hq,.of_steps s0 (up (by simp) harr)⟩
theorem Bzi {c:Code}(h:wpF z P c (Exit.noGoto Q) a w):wpF z P (.scope c) Q a w :=
 wz6 (hzh h fun e a w hq=>by cases e<;>first|exact hq.elim|exact hq)
theorem noOut:¬LetsOut (fun e a w=>e≠.outgrown/\Q e a w):=fun⟨_,_,c⟩=>c.1 rfl
variable {ops:Array Oper}
def lzc (o:Oper):Bool:=match o.op with | .defer _=>false|_=>true
theorem NzB {o:Oper}(h:lzc o=true):∀c,o.op≠.defer c:=fun c e=>by simp[lzc,e]at h
theorem Oper.wp_in (hF:FOk z F){o:Oper}(hd:lzc o=true){K:Act->World->Prop}(h:o.wp P a w K Q):o.wpIn F n P a w K Q:=by
 unfold Oper.wpIn;refine⟨fun f _=>hF.fn f,?_⟩;have hs:o.semAt F.round a.eval=execOp a.eval o:=by
  rcases hF with rfl|⟨_,l,rfl⟩
  .exact Oper.semAt_none ..
  .exact Oper.semAt_some l a.eval o (NzB hd)
 rw[hs];unfold Oper.wp at h;have hdp:F.depth.isSome=true->1<=n:=fun h=>by rw[hF.depth]at h;cases h
 generalize (execOp a.eval o).run P w=r at h;cases r with
 | ok x w' =>
  cases x with
  | value v=>exact h
  | skip=>exact h
  | defer d=>exact h
  | enter f args=>exact⟨hdp,hF.calls h⟩
  | row row args =>
   refine⟨hdp,fun c cs _=>?_⟩;obtain⟨v,w'',h1,h2⟩:=h c cs;refine⟨v,w'',h1,?_⟩;rcases hF with rfl|⟨_,l,rfl⟩
   .exact stepsIn_wide.2 h2
   .exact stepsIn_wide.2 h2
  | _=>exact h.elim
 | halt x w'=>cases x<;>exact h
theorem IzT (hF:FOk z F)(hl:¬LetsOut Q)(hd:∀o∈ops.toList,lzc o=true){i:Nat}{K:Act->World->Prop}(h:wpOp P ops Q i K a w):wpOpIn F n P ops Q i K a w:=by
 unfold wpOp at h;unfold wpOpIn;split
 .rename_i h0;rw[h0]at h;exact h
 .rename_i o h0;rw[h0]at h;simp only at h;split
  .rename_i hw;rw[if_pos hw]at h;exact Oper.wp_in hF (hd o (by have:=Array.mem_of_getElem? h0;simpa using this)) (h.resolve_right fun c=>hl c.2)
  .rename_i hw;rw[if_neg hw]at h;exact⟨fun f _=>hF.fn f,h⟩
theorem Lz1 (hF:FOk z F)(hl:¬LetsOut Q)(hd:∀o∈ops.toList,lzc o=true):∀{l:List Nat} {a:Act} {w:World},wpOps P ops Q l a w->wpOpsIn F n P ops Q l a w
 | [],_,_,h=>h
 | i::l,a,w,h=>by
  rw[wpOps_cons]at h;rw[wpOpsIn_cons];exact IzT hF hl hd (wpOp_mono (fun _ _ k=>Lz1 hF hl hd k) h)
theorem Ez7 (hF:FOk z F)(hl:¬LetsOut Q)(hd:∀o∈ops.toList,lzc o=true){md:Region.Mode}:∀{fuel:Nat} {listed:Array Bool} {a:Act} {w:World},wpAny P md ops Q fuel listed a w->wpAnyIn F n P md ops Q fuel listed a w
 | 0,_,_,_,h=>h
 | _+1,_,_,_,h=>⟨h.1,fun i hi=>IzT hF hl hd (wpOp_mono (fun _ _ k=>Ez7 hF hl hd k) (h.2 i hi))⟩
section
variable {tb:Tab} {N:Nat} {W:Nat->Prop} {a0:Act} {g0:Gh} {w0:World} {D0:Nat->Prop} {s s':St tb.T} {Γ:List (Nat×FSpec tb)}
theorem Kzm (hnd:∀o∈ops.toList,lzc o=true)(hΓ:∀p∈Γ,ez7 P tb p.1 p.2)(hsl:∀p∈Γ,(azX p.2.ins).map (·.1)=List.range (azX p.2.ins).length)(hd:∀o∈ops.toList,∀d,o.dst=some d->d<N/\W d)
 (h:Sim P tb N W a0 g0 w0 D0 s a w) (he:rzo P tb Γ ops ops.toList s some=some s') (hQ:∀a w,Sim P tb N W a0 g0 w0 D0 s' a w->Q .normal a w) {id:Nat}:wpF z P (.region id ops false) Q a w:=fun _ _ hF=>by
 refine wpIn_mono (Q:=fun e a w=>e≠.outgrown/\Q e a w) (wpIn_region (Lz1 hF noOut hnd ?_)) fun _ _ _ h=>h.2
 have:=Dzd (Q:=fun e a w=>e≠.outgrown/\Q e a w) hΓ hsl hd ops.toList 0 s a w (fun j=>by simp) h he fun a w h=>⟨by simp,hQ a w h⟩
 simpa[List.range_eq_range']using this
theorem IzS (hnd:∀o∈ops.toList,lzc o=true)(hm:P.follows .mixedOrders=true)(hΓ:∀p∈Γ,ez7 P tb p.1 p.2)(hsl:∀p∈Γ,(azX p.2.ins).map (·.1)=List.range (azX p.2.ins).length)(hd:∀o∈ops.toList,∀d,o.dst=some d->d<N/\W d)(hbk:ozF ops.toList 0=true)
 (h:Sim P tb N W a0 g0 w0 D0 s a w) (he:kz6 P tb Γ ops ops.toList (pzW ops.toList []) [] s some=some s') (hQ:∀a w,Sim P tb N W a0 g0 w0 D0 s' a w->Q .normal a w) {id:Nat}:wpF z P (.region id ops true) Q a w:=fun _ _ hF =>
 wpIn_mono (Q:=fun e a w=>e≠.outgrown/\Q e a w) (wpIn_region_any hm (Ez7 hF noOut hnd (JzG hΓ hsl hd hbk h he fun a w h=>⟨by simp,hQ a w h⟩))) fun _ _ _ h=>h.2
end
end Go.Ev
namespace Go.Ev
open Go
open Go.IntKind (i64 u64 u8 i32 u32 i16 u16)
variable {P:Program} {tb:Tab} {N:Nat} {W:Nat->Prop} {D0:Nat->Prop}
variable {s s':St tb.T} {g g':Gh} {μ μ':Nat->Nat} {τ τ':Nat->Option Nat} {a a':Act} {w w':World}
@[simp] theorem ret_outs {outs:aze}:∀ {rs:aze} (x:XS tb outs) (z:XS tb rs),(Ret.mk x z).outs=x
 | [],_,_=>rfl
 | _::_,_,_=>rfl
theorem ret_refs {outs:aze}:∀{rs:aze} (x:XS tb outs) (z:XS tb rs),(Ret.mk x z).refs=z
 | [],_,()=>rfl
 | _::_,_,_=>rfl
theorem nzL {q:Nat×Pat}{l:aze}{x:XS tb (q::l)}{v:Value}{vs:List Value}{b:Option Nat}{bs:List (Option Nat)}(h:bzd P tb g w (q::l) x (v::vs) (b::bs)):
 (∃y,hzR P tb g w q.2 y v b)/\∃ys,bzd P tb g w l ys vs bs:=by
 cases l with
 | nil =>
  cases vs with
  | nil=>cases bs with
   | nil=>exact⟨⟨x,h⟩,(():Unit),trivial⟩
   | cons _ _=>exact h.elim
  | cons _ _=>cases bs<;>exact h.elim
 | cons c l=>obtain⟨x,xs⟩:=x;exact⟨⟨x,h.1⟩,xs,h.2⟩
theorem lzN {x:XS tb []}{vs:List Value}{bs:List (Option Nat)}(h:bzd P tb g w [] x vs bs):vs=[]/\bs=[]:=by
 cases vs<;>cases bs<;>first|exact⟨rfl,rfl⟩|exact h.elim
theorem ezP {q:Nat×Pat}{l:aze}{x:XS tb (q::l)}{vs:List Value}{bs:List (Option Nat)}(h:bzd P tb g w (q::l) x vs bs):∃v vs' b bs',vs=v::vs'/\bs=b::bs':=by
 cases l with
 | nil=>cases vs with
  | nil=>exact h.elim
  | cons v vs=>cases bs with
   | nil=>cases vs<;>exact h.elim
   | cons b bs=>exact⟨_,_,_,_,rfl,rfl⟩
 | cons c l=>cases vs with
  | nil=>exact h.elim
  | cons v vs=>cases bs with
   | nil=>exact h.elim
   | cons b bs=>exact⟨_,_,_,_,rfl,rfl⟩
theorem FzK {p:Pat}{y:X tb p}{v:Value}{b:Option Nat}(hr:p.isRef=true)(h:hzR P tb g w p y v b):∃k,b=some k/\kOfV (some v)=some k:=by
 cases p with
 | val e=>cases hr
 | own e=>cases hr
 | ro e=>cases hr
 | ref e=>obtain⟨k,h1,rfl,_⟩:=h;exact⟨k,h1,rfl⟩
 | iter=>obtain⟨k,h1,rfl,_⟩:=h;exact⟨k,h1,rfl⟩
 | fnp f n=>cases hr
 | mp kt vt=>obtain⟨k,h1,rfl,_⟩:=h;exact⟨k,h1,rfl⟩
 | wr e=>cases hr
 | vw e=>cases hr
 | box n=>obtain⟨k,h1,rfl,_⟩:=h;exact⟨k,h1,rfl⟩
theorem rzR:∀{l:aze} {x:XS tb l} {vs:List Value} {bs:List (Option Nat)} {z:XS tb (azm l)} {val:Nat->Value} {cs:List (Option Nat)},
 bzd P tb g w l x vs bs->fzo a w l vs->bzd P tb g' w' (azm l) z ((azm l).map fun q=>val q.1) cs->(∀q∈azm l,vval w (fun i=>a.tmps[i]?) q.1=some (val q.1)) ->
 (azm l).map (fun q=>val q.1)=bzL l vs/\cs=bzL l bs
 | [],x,vs,bs,z,val,cs,h,_,hz,_=>by
  obtain⟨rfl,rfl⟩:=lzN h;obtain⟨_,rfl⟩:=lzN (x:=z) hz;exact⟨rfl,rfl⟩
 | (t,p)::l,x,vs,bs,z,val,cs,h,hi,hz,hv=>by
  obtain⟨v,vs,b,bs,rfl,rfl⟩:=ezP h;obtain⟨⟨y,hy⟩,ys,hys⟩:=nzL h;obtain⟨i1,i2⟩:=hi;cases hr:p.isRef with
  | false =>
   have e:azm ((t,p)::l)=azm l:=by simp[azm,hr]
   have e1:∀{α:Type} (u:α) (us:List α),bzL ((t,p)::l) (u::us)=bzL l us:=fun u us=>by simp[bzL,hr]
   rw[e1,e1];revert z hz hv;rw[e];intro z hz hv;exact rzR hys i2 hz hv
  | true =>
   have e:azm ((t,p)::l)=(t,p)::azm l:=by simp[azm,hr]
   have e1:∀{α:Type} (u:α) (us:List α),bzL ((t,p)::l) (u::us)=u::bzL l us:=fun u us=>by simp[bzL,hr]
   rw[e1,e1];revert z hz hv;rw[e];intro z hz hv;rw[List.map_cons]at hz ⊢;obtain⟨_,_,c,cs',hz1,rfl⟩:=ezP hz;obtain⟨⟨y2,hy2⟩,zs,hzs⟩:=nzL hz;obtain⟨r1,r2⟩:=rzR hys i2 hzs fun q hq=>hv q (by simp[hq])
   obtain⟨k,hk1,hk2⟩:=FzK hr hy;obtain⟨k',hk3,hk4⟩:=FzK hr hy2;have hvt:=hv (t,p) (by simp);simp only at hvt hk4;rw[hvt]at i1;simp only[sE0]at i1;rw[r1,r2,i1];refine⟨rfl,?_⟩;rw[i1,hk2]at hk4;rw[hk1,hk3];rw[hk4]
theorem Dzh {base:Nat->Option Value}:∀{l:aze} {x:XS tb l} {vs:List Value} {bs:List (Option Nat)},At w base l vs->bzd P tb g w l x vs bs->∀q∈l,∃v b y,vval w base q.1=some v/\hzR P tb g w q.2 y v b
 | [],x,vs,bs,_,_,q,hq=>by simp at hq
 | p::l,x,vs,bs,ha,h,q,hq=>by
  obtain⟨v,vs,b,bs,rfl,rfl⟩:=ezP h;obtain⟨⟨y,hy⟩,ys,hys⟩:=nzL h;rcases List.mem_cons.1 hq with rfl|hq
  .exact⟨v,b,y,ha.1,hy⟩
  .exact Dzh ha.2 hys q hq
theorem nzZ:∀{l:aze},∀q∈azm l,q∈l
 | [],q,h=>by simp[azm]at h
 | p::l,q,h=>by
  simp only[azm]at h;cases hr:p.2.isRef with
  | true =>
   simp only[hr,cond_true]at h;rcases List.mem_cons.1 h with rfl|h
   .simp
   .exact List.mem_cons_of_mem _ (nzZ q h)
  | false=>simp only[hr,cond_false]at h;exact List.mem_cons_of_mem _ (nzZ q h)
theorem Dzk (h:SimAt P tb N W a g w D0 s g' μ τ a' w'){get:Nat->Option (SV tb.T)}:∀{l:aze} {cs:List (Option Nat)},aze.plainOwn l=true->BlkL s μ τ get l cs->∀k∈azl cs,w.heap.size<=k\/D0 k
 | [],[],_,_,k,hk=>by simp[azl]at hk
 | (t,p)::l,c::cs,hp,⟨⟨v,_,hb⟩,h2⟩,k,hk=>by
  simp only[aze.plainOwn,List.all_cons,Bool.and_eq_true]at hp;rcases azA.1 hk with e|hk
  .subst e;cases p with
   | val e=>simp only[czs]at hb;cases hb
   | own e =>
    rcases v with ac|Nz0|ts<;>first|(cases ac<;>simp only[czs,reduceCtorEq]at hb)|(simp only[czs,reduceCtorEq]at hb)
    obtain⟨h1,h2⟩:=hb;obtain⟨_,h3⟩:=h.tokv _ h2;exact(h3 k h1.symm).2.2
   | wr e =>
    rcases v with ac|Nz0|ts<;>first|(cases ac<;>simp only[czs,reduceCtorEq]at hb)|(simp only[czs,reduceCtorEq]at hb)
    obtain⟨h1,e,xs,h2⟩:=hb;exact ozD h (.inr ⟨e,xs,h2⟩) h1.symm
   | ref e=>simp at hp
   | ro e=>simp at hp
   | iter=>simp at hp
   | fnp f n=>simp at hp
   | mp kt vt=>simp at hp
   | box n=>simp at hp
   | vw e=>simp at hp
  .exact Dzk h (l:=l) hp.2 h2 k hk
 | [],_::_,_,h,_,_=>h.elim
 | _::_,[],_,h,_,_=>h.elim
theorem rzh {rs:aze}{t:Nat}{v:SV tb.T}(hv:dzh s rs t=some v):vget s s.env t=some v:=by
 unfold dzh at hv;cases hm:memB t (rs.map (·.1))with
 | false=>simpa[hm]using hv
 | true =>
  simp only[hm,cond_true]at hv;split at hv
  .rename_i i he;cases hb:Nat.beq i t with
   | false=>simp[hb]at hv
   | true =>
    simp only[hb,cond_true]at hv;have:=Nat.eq_of_beq_eq_true hb;subst this;rw[he];exact hv
  .rename_i i he;cases hb:Nat.beq i t with
   | false=>simp[hb]at hv
   | true =>
    simp only[hb,cond_true]at hv;have:=Nat.eq_of_beq_eq_true hb;subst this;rw[he];exact hv
  .cases hv
theorem yza {a0:Act}{g0:Gh}{w0:World}(h:SimAt P tb N W a0 g0 w0 D0 s g' μ τ a' w'){t:Nat}{v:SV tb.T}(hv:vget s s.env t=some v):∃u,vval w' (fun i=>a'.tmps[i]?) t=some u/\RepV P tb g' w' μ τ s.tok v u :=
 Ez4 h (fun t v _ hv=>h.env t v hv) hv
theorem vzf {a0:Act}{g0:Gh}{w0:World}(h:SimAt P tb N W a0 g0 w0 D0 s g' μ τ a' w'){rs:aze}{t:Nat}{v:SV tb.T}(hv:dzh s rs t=some v):∃u,vval w' (fun i=>a'.tmps[i]?) t=some u/\RepV P tb g' w' μ τ s.tok v u :=
 yza h (rzh hv)
def izr (w:World)(a:Act)(t:Nat):Value:=(vval w (fun i=>a.tmps[i]?) t).getD undef
theorem rzX {a0:Act}{g0:Gh}{w0:World}(h:SimAt P tb N W a0 g0 w0 D0 s g' μ τ a' w'){t:Nat}{v:SV tb.T}(hv:vget s s.env t=some v):RepV P tb g' w' μ τ s.tok v (izr w' a' t):=by
 obtain⟨u,hu,hr⟩:=yza h hv;unfold izr;rw[hu];exact hr
theorem AzX {ins:aze}{x:XS tb ins}{vs:List Value}{bs:List (Option Nat)}(hh:bzd P tb g w ins x vs bs)(hi:fzo a w ins vs)(hg:hangs ins=true)(hf:∀q∈azm ins,a'.tmps[q.1%4294967296]?=a.tmps[q.1%4294967296]?):
 ∀q∈azm ins,vval w' (fun i=>a'.tmps[i]?) q.1=vval w (fun i=>a.tmps[i]?) q.1:=fun q hq=>by
 have hfq:=hf q hq;by_cases ht:q.1<4294967296
 .rw[fzA ht,fzA ht];rw[Nat.mod_eq_of_lt ht]at hfq;exact hfq
 .have h1:=List.all_eq_true.1 hg q hq;simp only[Bool.or_eq_true]at h1;rcases h1 with h1|h1
  .exact absurd (izd.1 h1) ht
  .simp only[isFnp,List.any_eq_true,Bool.and_eq_true]at h1;obtain⟨p,hp,h1,h2⟩:=h1;have e1:=Nat.eq_of_beq_eq_true h1;clear h1;obtain⟨v,b,y,h3,h4⟩:=Dzh hi hh p hp;obtain⟨t,pt⟩:=p;simp only at e1 h2 h3 h4;cases pt with
   | fnp f n =>
    obtain⟨_,ks,_,rfl⟩:=h4;have hlt:t<4294967296:=by rw[e1];exact Nat.mod_lt _ (by omega)
    rw[fzA hlt,e1]at h3;unfold vval;simp only[ht,if_false];rw[hfq,h3]
   | _=>simp at h2
theorem KzE {ins outs:aze}{x:XS tb ins}{vs:List Value}{bs:List (Option Nat)}(hh:bzd P tb g w ins x vs bs)(hi:fzo a w ins vs)(hW:∀q∈azm ins,¬W (q.1%4294967296))(hg:hangs ins=true)(hpo:aze.plainOwn outs=true)
 (h:SimAt P tb N W a g w (fun b=>b∈bzK ins bs) s g' μ τ a' w') {get:Nat->Option (SV tb.T)} {val:Nat->Value} {y:XS tb outs} {z:XS tb (azm ins)} (hy:extS P tb s get outs=some y)
 (hval:∀q∈outs,∀v,get q.1=some v->RepV P tb g' w' μ τ s.tok v (val q.1)) (hz:extS P tb s (dzh s (azm ins)) (azm ins)=some z) (hn:czl (idsS get outs++idsS (dzh s (azm ins)) (azm ins))=true) :
 ∃cs,Left P tb g w ins outs vs bs (Ret.mk y z) (outs.map fun q=>val q.1) cs g' w'/\BlkL s μ τ get outs cs:=by
 obtain⟨cs,k1,k2⟩:=pzk h hy hval;obtain⟨ds,m1,m2⟩:=pzk h (val:=izr w' a') hz (fun q hq v hv=>rzX h (rzh hv));have hst:=AzX (a':=a') (w':=w') hh hi hg fun q hq=>h.frame _ (hW q hq)
 obtain⟨r1,r2⟩:=rzR (val:=izr w' a') hh hi m1 fun q hq=>by
  obtain⟨v,hv⟩:=zzo hi q (nzZ q hq);unfold izr;rw[hst q hq,hv];rfl
 have hn:=List.nodup_append.1 (fzi.1 hn);have hnd:=pzf h k2 hn.1;have hbl:=Dzk h hpo k2;refine⟨cs,⟨h.ext,by rw[ret_outs];exact k1,by rw[ret_refs,<-r1,<-r2];exact m1,hnd,fun k hk=>⟨hbl k hk,fun hm=>?_⟩⟩,k2⟩;rw[<-r2]at hm;obtain⟨i,hi,hi'⟩:=vzV k2 k hk;obtain⟨j,hj,hj'⟩:=vzV m2 k hm;have:=vzW h hi' hj';subst this;exact hn.2.2 i hi i hj rfl
end Go.Ev
namespace Go.Ev
open Go
open Go.IntKind (i64 u64 u8 i32 u32 i16 u16)
variable {P:Program} {tb:Tab} {N:Nat} {W:Nat->Prop} {a0:Act} {g0:Gh} {w0:World} {D0:Nat->Prop}
variable {s s' s1 s2:St tb.T} {g g':Gh} {μ μ':Nat->Nat} {τ τ':Nat->Option Nat} {a a':Act} {w w':World}
variable {Γ:List (Nat×FSpec tb)} {Δ:List (CutSpec tb)} {R:Type}
theorem frz_ids {T:Nat->Type}{i e:Nat}{xs:List (T e)}(ac:AC T):∀j∈(ac.frz i e xs).ids,j∈ac.ids\/j=i+1152921504606846976:=by
 cases ac<;>simp only[AC.frz]<;>intro q hq
 case vsl e' j =>
  cases h:(Nat.beq j i&&Nat.beq e' e)with
  | false=>rw[h]at hq;exact .inl hq
  | true=>rw[h]at hq;simp only[cond_true,AC.ids,List.mem_singleton]at hq;exact .inr hq
 all_goals exact .inl hq
theorem Nzi {T:Nat->Type}{i e:Nat}{xs:List (T e)}(v:SV T):∀j∈(v.frz i e xs).ids,j∈v.ids\/j=i+1152921504606846976:=by
 intro j hj;cases v with
 | c a=>exact Ev.frz_ids a j hj
 | agg Nz0 =>
  simp only[SV.frz,SV.ids,List.mem_flatMap,List.mem_map]at hj;obtain⟨_,⟨a,ha,rfl⟩,hj⟩:=hj;exact(Ev.frz_ids a j hj).imp (fun h=>by simp only[SV.ids,List.mem_flatMap];exact⟨a,ha,h⟩) id
 | tup ts =>
  simp only[SV.frz,SV.ids,List.mem_flatMap]at hj;obtain⟨p',hp',ac',hac',hj⟩:=hj;obtain⟨p,hp,rfl⟩:=List.mem_map.1 hp';obtain⟨a,ha,rfl⟩:=List.mem_map.1 hac';exact(Ev.frz_ids a j hj).imp (fun h=>by simp only[SV.ids,List.mem_flatMap];exact⟨p,hp,a,ha,h⟩) id
theorem tzk {α β γ:Type}{R:α->β->Prop}{S:γ->β->Prop}{f:α->γ}:∀{Nz0:List α} {bs:List β},All2 R Nz0 bs->(∀a∈Nz0,∀b,R a b->S (f a) b)->All2 S (Nz0.map f) bs
 | [],[],_,_=>trivial
 | a::Nz0,b::bs,⟨h1,h2⟩,h=>⟨h a (by simp) b h1,tzk h2 fun a ha b hb=>h a (by simp[ha]) b hb⟩
 | [],_::_,h,_=>h.elim
 | _::_,[],h,_=>h.elim
theorem SimAt.freeze (h:SimAt P tb N W a0 g0 w0 D0 s g μ τ a w)(i:Nat):∃g' τ',SimAt P tb N W a0 g0 w0 D0 (s.frz i) g' μ τ' a w:=by
 unfold St.frz;split
 .rename_i o e xs hi;generalize hf:i+1152921504606846976=f;cases hu:(s.used f||!o)with
  | true=>exact⟨g,τ,h⟩
  | false =>
  simp only[cond_false];obtain⟨hu,ho⟩:s.used f=false/\o=true:=by simpa using hu
  subst ho;obtain⟨ha,hiu,hio,hia⟩:=h.arr i _ e xs hi;obtain⟨hm,hw0⟩:=hio rfl;have hne:∀j,s.used j=true->j≠f:=fun j hj e=>by subst e;rw[hj]at hu;cases hu
  have hus:∀j,s.used j=true->upd s.used f true j=true:=fun j hj=>by rw[azo _ _ (hne j hj)];exact hj
  have hg0:∀b,τ i=some b->g b = .ar 0/\b<w.heap.size:=fun b hb=>by rw[hb]at ha;exact ha.at
  obtain⟨G,hG⟩:∃G:Gh,G=fun b=>if τ i=some b then .ar (xs.length*P.cellsOf e)else g b:=⟨_,rfl⟩
  have hgo:∀b,τ i≠some b->G b=g b:=fun b hb=>by rw[hG];exact if_neg hb
  have hgi:∀b,τ i=some b->G b = .ar (xs.length*P.cellsOf e):=fun b hb=>by rw[hG];exact if_pos hb
  have he:Ext g w G w (fun b=>τ i=some b) :=
   ⟨rfl,rfl,rfl,Nat.le_refl _,fun b _ hb=>⟨rfl,hgo b hb⟩,fun b _ hb=>⟨rfl,by rw[hgo b (fun e=>by rw[(hg0 b e).1]at hb;cases hb)];exact hb⟩,fun b n _ hb=>by
    by_cases c:τ i=some b
    .rw[(hg0 b c).1]at hb;injection hb with hb;subst hb;exact⟨_,Nat.zero_le _,hgi b c,fun _ _=>rfl⟩
    .exact⟨n,Nat.le_refl _,by rw[hgo b c];exact hb,fun _ _=>rfl⟩,Shp.refl w⟩
  have hkeep:=he.keeps;have htkb:∀t b,s.tok t=true->τ t=some b->τ i≠some b:=fun t b ht hb e'=>(hia t b hb e').1 ht
  have carry:Carry g w μ τ s.tok G w μ (upd τ f (τ i)) (upd s.tok f true) (fun j=>s.used j=true) :=
   ⟨hkeep,fun j hj=>⟨rfl,azo τ _ (hne j hj)⟩,fun j hj ht=>by rw[azo _ _ (hne j hj)]at ht;exact ht,fun j b hj ht hb=>by
    rw[azo _ _ (hne j hj)]at ht;exact⟨hgo b (htkb j b ht hb),rfl⟩⟩
  have hcell:∀(ac:AC tb.T),(∀j∈ac.ids,s.used j=true)->∀v,RepC P tb g w μ τ s.tok ac v->RepC P tb G w μ (upd τ f (τ i)) (upd s.tok f true) (ac.frz i e xs) v:=by
   intro ac hids v hr;cases ac with
   | vsl e' j =>
    simp only[AC.frz];cases hb:(Nat.beq j i&&Nat.beq e' e)with
    | false=>exact RepC.carry carry hids hr
    | true =>
     simp only[Bool.and_eq_true]at hb;have h1:=Nat.eq_of_beq_eq_true hb.1;have h2:=Nat.eq_of_beq_eq_true hb.2;subst h1;subst h2;simp only[cond_true];rw[hf];have hr:fzh P w (τ j) e' (μ j) v:=hr;rw[hm]at hr;rcases hr with⟨q1,q2,rfl⟩|⟨b,cap,us,fz,q1,rfl,q3,q4,q5,q6⟩
     .have:xs=[]:=List.eq_nil_of_length_eq_zero q2;subst this;exact⟨.slnil e',fun _=>.inl ⟨rfl,by rw[azh];exact q1,rfl⟩⟩
     .rcases ha with⟨a1,_⟩|⟨b',us',fz',a1,a2,a3,a4,a5,a6,a7,a8⟩
      .rw[q1]at a1;cases a1
      .rw[q1]at a1;injection a1 with a1;subst a1;rw[q5]at a3;cases a3;refine⟨?_,fun _=>.inr ⟨b,0,cap,us,e',fz,by rw[azh];exact q1,rfl,by rw[hgi b q1,Nat.zero_add],q5,by omega,q3,a4,rfl,rfl⟩⟩;refine .sl e' xs b 0 cap (fun p c=>(w.cell? ⟨b,0+p*P.cellsOf e'+c,none⟩).getD undef) q3 q4 (fun p x hx=>a7 x (List.mem_of_getElem? hx)) (fun _=>⟨(Array.getElem?_eq_some_iff.1 q5).1,.inr ⟨_,hgi b q1,by omega⟩⟩) (fun p x c cv hx hc=>?_) (fun p x c cv hx hc=>?_)
       .obtain⟨u,hu,_⟩:=a8 p x c cv hx hc;have:w.cell? ⟨b,0+p*P.cellsOf e'+c,none⟩=some u:=by unfold World.cell?;simp only[q5];rw[Nat.zero_add];exact hu
        rw[this];rfl
       .obtain⟨u,hu,hr⟩:=a8 p x c cv hx hc;have:w.cell? ⟨b,0+p*P.cellsOf e'+c,none⟩=some u:=by unfold World.cell?;simp only[q5];rw[Nat.zero_add];exact hu
        rw[this];exact hr.mono hkeep
   | d c=>exact RepC.carry carry hids hr
   | own e' ys t=>exact RepC.carry carry hids hr
   | ptr j o=>exact RepC.carry carry hids hr
   | cptr cs=>exact RepC.carry carry hids hr
   | fn f caps=>exact RepC.carry carry hids hr
   | any=>exact RepC.carry carry hids hr
   | ubool m e=>exact RepC.carry carry hids hr
   | np=>exact RepC.carry carry hids hr
   | map i=>exact RepC.carry carry hids hr
   | yl i=>exact RepC.carry carry hids hr
   | slf t n i=>exact RepC.carry carry hids hr
   | vw e' j o n=>exact RepC.carry carry hids hr
   | elp j e' k o=>exact RepC.carry carry hids hr
  have hval:∀(v:SV tb.T),(∀j∈v.ids,s.used j=true)->∀u,RepV P tb g w μ τ s.tok v u->RepV P tb G w μ (upd τ f (τ i)) (upd s.tok f true) (v.frz i e xs) u:=by
   intro v hids u hr;cases v with
   | c ac=>exact hcell ac hids u hr
   | agg Nz0 =>
    obtain⟨us',rfl,h2⟩:=hr;exact⟨us',rfl,tzk h2 fun ac hac b hb=>hcell ac (fun j hj=>hids j (by simp only[SV.ids,List.mem_flatMap];exact⟨ac,hac,hj⟩)) b hb⟩
   | tup ts =>
    obtain⟨us',rfl,h2⟩:=hr;refine⟨us',rfl,tzk h2 fun p hp b hb=>?_⟩;have hids':∀ac∈p.2,∀j∈ac.ids,s.used j=true:=fun ac hac j hj=>hids j (by simp only[SV.ids,List.mem_flatMap];exact⟨p,hp,ac,hac,hj⟩)
    unfold RepT at hb ⊢;obtain⟨pb,pas⟩:=p;cases pb
    .simp only[Bool.false_eq_true,if_false]at hb ⊢;obtain⟨ac,rfl,h3⟩:=hb;exact⟨_,rfl,hcell ac (hids' ac (by simp)) b h3⟩
    .simp only[if_true]at hb ⊢;obtain⟨us2,rfl,h3⟩:=hb;exact⟨us2,rfl,tzk h3 fun ac hac b hb=>hcell ac (hids' ac hac) b hb⟩
  have hlv:∀j,((s.blk j).map (List.map (AC.frz i e xs))≠none\/s.itr j≠none)->azn s j:=fun j hj=>by
   refine hj.imp (fun hj hb=>hj (by rw[hb];rfl)) id
  have hτ:∀j,s.used j=true->upd τ f (τ i) j=τ j:=fun j hj=>azo τ _ (hne j hj)
  refine⟨G,upd τ f (τ i),?_,h.size,h.defers.mono he,h.frame,fun t v hv=>?_,fun j cs hc=>?_,fun j o hj=>?_,fun j hj=>?_,fun j k hj hk e'=>h.inj j k (hlv j hj) (hlv k hk) e',fun t ht=>?_,fun t u b ht hu' e1 e2=>?_,fun j hj=>?_,fun j hj=>hus j (h.rou j hj),fun t v hv j hj=>?_,fun j cs hc y hy q hq'=>?_,fun j o' e' ys hj=>?_,h.inv0⟩
  .exact h.ext.trans he (fun _ _ x=>x) (fun b hb hd=>(hw0 b hd).resolve_left (by omega))
  .simp only at hv;cases hev:s.env t with
   | none=>simp[hev]at hv
   | some v0 =>
    simp only[hev,Option.map_some,sE0]at hv;subst hv;obtain⟨u,hu',hr⟩:=h.env t v0 hev;exact⟨u,hu',hval v0 (fun j hj=>h.uenv t v0 hev j hj) u hr⟩
  .simp only at hc;cases hbv:s.blk j with
   | none=>simp[hbv]at hc
   | some Nz0 =>
    simp only[hbv,Option.map_some,sE0]at hc;subst hc;obtain⟨us',el',fz',b1,b2,b3⟩:=h.blk j Nz0 hbv;exact⟨us',el',fz',b1,b2,tzk b3 fun ac hac b hb=>hcell ac (fun q hq'=>h.ublk j Nz0 hbv ac hac q hq') b hb⟩
  .exact(h.itr j o hj).mono hkeep rfl
  .obtain⟨q1,q2,q3,q4⟩:=h.live j (hlv j hj);exact⟨hus j q1,by rw[hgo _ (fun e'=>by rw[(hg0 _ e').1]at q2;cases q2)];exact q2,q3,q4⟩
  .have ht:upd s.tok f true t=true:=ht;by_cases e':t=f
   .subst e';refine⟨azh _ _ _,fun b hb=>?_⟩;rw[azh]at hb;exact⟨⟨_,hgi b hb⟩,(hg0 b hb).2,hw0 b hb⟩
   .rw[azo _ _ e']at ht;obtain⟨q1,q2⟩:=h.tokv t ht;refine⟨hus t q1,fun b hb=>?_⟩;rw[azo _ _ e']at hb;obtain⟨⟨n,r1⟩,r2⟩:=q2 b hb;exact⟨⟨n,by rw[hgo b (htkb t b ht hb)];exact r1⟩,r2⟩
  .have ht:upd s.tok f true t=true:=ht;have hu2:upd s.tok f true u=true:=hu';by_cases c1:t=f<;>by_cases c2:u=f
   .rw[c1,c2]
   .subst c1;rw[azh]at e1;rw[azo _ _ c2]at hu2 e2;exact absurd e1 (htkb u b hu2 e2)
   .subst c2;rw[azh]at e2;rw[azo _ _ c1]at ht e1;exact absurd e2 (htkb t b ht e1)
   .rw[azo _ _ c1]at ht e1;rw[azo _ _ c2]at hu2 e2;exact h.tinj t u b ht hu2 e1 e2
  .obtain⟨q1,q2⟩:=h.excl j hj;exact⟨by simp only[q1];rfl,q2⟩
  .simp only at hv;cases hev:s.env t with
   | none=>simp[hev]at hv
   | some v0 =>
    simp only[hev,Option.map_some,sE0]at hv;subst hv;rcases Nzi v0 j hj with c|c
    .exact hus j (h.uenv t v0 hev j c)
    .rw[hf]at c;subst c;exact azh _ _ _
  .simp only at hc;cases hbv:s.blk j with
   | none=>simp[hbv]at hc
   | some Nz0 =>
    simp only[hbv,Option.map_some,sE0]at hc;subst hc;obtain⟨ac,hac,rfl⟩:=List.mem_map.1 hy;rcases Ev.frz_ids ac q hq' with c|c
    .exact hus q (h.ublk j Nz0 hbv ac hac q c)
    .rw[hf]at c;subst c;exact azh _ _ _
  .have hj:upd s.arr i none j=some (.mk o' e' ys):=hj;have hji:j≠i:=fun c=>by rw[c,azh]at hj;cases hj
   rw[azo _ _ hji]at hj;obtain⟨q1,q2,q3,q4⟩:=h.arr j o' e' ys hj;have hij:∀b,τ j=some b->τ i≠some b:=fun b hb hi'=>hji ((hia j b hb hi').2 (by rw[hj];simp))
   rw[hτ j q2];refine⟨q1.mono hkeep fun b hb=>⟨hgo b (hij b hb),rfl⟩,hus j q2,q3,fun t b ht hb=>?_⟩;by_cases c:t=f
   .rw[c,azh]at ht;exact absurd ht (hij b hb)
   .rw[azo _ _ c]at ht;refine⟨fun k=>(q4 t b ht hb).1 (by rw[<-azo s.tok true c];exact k),fun k=>(q4 t b ht hb).2 fun k'=>?_⟩;have k:upd s.arr i none t≠none:=k;by_cases ct:t=i
    .rw[ct,azh]at k;exact k rfl
    .rw[azo _ _ ct]at k;exact k k'
 .exact⟨g,τ,h⟩
theorem SimAt.stop (h:SimAt P tb N W a0 g0 w0 D0 s g μ τ a w)(I:Nat->Prop)[DecidablePred I](hI:∀i,I i->s.blk i≠none/\s.ro i=false){E:Nat->Option (SV tb.T)}
 (hE:∀g':Gh,Keeps g w g' w->(∀i,I i->g' (μ i) = .con)->(∀t v,E t=some v->∃u,a.tmps[t]?=some u/\((∃v0,s.env t=some v0/\v=v0)\/(RepV P tb g' w μ τ s.tok v u/\v.ids=[])))) :
 ∃g',SimAt P tb N W a0 g0 w0 D0 {s with env:=E,blk:=fun i=>if I i then none else s.blk i} g' μ τ a w:=by
 classical
 obtain⟨G,hG⟩:∃G:Gh,G=fun b=>if ∃i,I i/\μ i=b then .con else g b:=⟨_,rfl⟩
 have hl:∀i,I i->azn s i:=fun i hi=>.inl (hI i hi).1
 have hGi:∀i,I i->G (μ i) = .con:=fun i hi=>by rw[hG];exact if_pos ⟨i,hi,rfl⟩
 have hGo:∀b,(∀i,I i->μ i≠b)->G b=g b:=fun b hb=>by rw[hG];exact if_neg fun⟨i,h1,h2⟩=>hb i h1 h2
 have hGv:∀b,g b≠.var->G b=g b:=fun b hb=>hGo b fun i hi e=>hb (by rw[<-e];exact(h.live i (hl i hi)).2.1)
 have he:Ext g w G w (fun b=>∃i,I i/\μ i=b) :=
  ⟨rfl,rfl,rfl,Nat.le_refl _,fun b _ hb=>⟨rfl,hGo b fun i h1 h2=>hb ⟨i,h1,h2⟩⟩,fun b _ hb=>⟨rfl,(hGv b (by rw[hb];simp)).trans hb⟩,fun b n _ hb=>⟨n,Nat.le_refl _,(hGv b (by rw[hb];simp)).trans hb,fun _ _=>rfl⟩,Shp.refl w⟩
 have hkeep:=he.keeps;have carry:Carry g w μ τ s.tok G w μ τ s.tok (fun _=>True):=⟨hkeep,fun _ _=>⟨rfl,rfl⟩,fun _ _ h=>h,fun i b _ hi hb=>⟨hGv b (by
  obtain⟨⟨n,hn⟩,_⟩:=(h.tokv i hi).2 b hb;rw[hn];simp),rfl⟩⟩
 have hlv:∀i,((if I i then none else s.blk i)≠none\/s.itr i≠none)->azn s i/\¬I i:=fun i hi=>by
  rcases hi with hi|hi
  .by_cases c:I i
   .rw[if_pos c]at hi;exact absurd rfl hi
   .rw[if_neg c]at hi;exact⟨.inl hi,c⟩
  .exact⟨.inr hi,fun c=>(hI i c).1 (h.excl i hi).1⟩
 have hE':=hE G hkeep hGi;refine⟨G,h.ext.trans he (fun _ _ x=>x) (fun b hb ⟨i,h1,h2⟩=>?_),h.size,h.defers.mono he,h.frame,fun t v hv=>?_,fun i cs hc=>?_,fun i o hi=>(h.itr i o hi).mono hkeep rfl,fun i hi=>?_,fun i j hi hj=>h.inj i j (hlv i hi).1 (hlv j hj).1,fun t ht=>?_,h.tinj,fun i hi=>⟨by
  show(if I i then none else s.blk i)=none
  split
  .rfl
  .exact(h.excl i hi).1,(h.excl i hi).2⟩,h.rou,fun t v hv i hi=>?_,fun i cs hc=>?_,fun i o e xs hi=>?_,h.inv0⟩
 .subst h2;exact((h.live i (hl i h1)).2.2.2.resolve_left (by rw[(hI i h1).2];simp)).resolve_left (by omega)
 .obtain⟨u,hu,k|⟨k,_⟩⟩:=hE' t v hv
  .obtain⟨v0,hv0,rfl⟩:=k;obtain⟨u',hu',hr⟩:=h.env t v hv0;exact⟨u',hu',hr.carry carry fun _ _=>trivial⟩
  .exact⟨u,hu,k⟩
 .have hc:(if I i then none else s.blk i)=some cs:=hc;by_cases c:I i
  .rw[if_pos c]at hc;cases hc
  .rw[if_neg c]at hc;obtain⟨us,el,fz,e1,e2,e3⟩:=h.blk i cs hc;exact⟨us,el,fz,e1,e2,All2.mono (fun _ _ _ hr=>hr.carry carry fun _ _=>trivial) e3⟩
 .obtain⟨k1,k2⟩:=hlv i hi;obtain⟨q1,q2,q3⟩:=h.live i k1;exact⟨q1,(hGo _ fun j hj e=>k2 (h.inj j i (hl j hj) k1 e▸hj)).trans q2,q3⟩
 .obtain⟨k1,k2⟩:=h.tokv t ht;refine⟨k1,fun b hb=>?_⟩;obtain⟨⟨n,q1⟩,q2⟩:=k2 b hb;exact⟨⟨n,(hGv b (by rw[q1];simp)).trans q1⟩,q2⟩
 .obtain⟨u,_,k|⟨_,k⟩⟩:=hE' t v hv
  .obtain⟨v0,hv0,rfl⟩:=k;exact h.uenv t v hv0 i hi
  .rw[k]at hi;cases hi
 .have hc:(if I i then none else s.blk i)=some cs:=hc;by_cases c:I i
  .rw[if_pos c]at hc;cases hc
  .rw[if_neg c]at hc;exact h.ublk i cs hc
 .obtain⟨k1,k2,k3,k4⟩:=h.arr i o e xs hi;refine⟨k1.mono hkeep fun b hb=>⟨hGv b ?_,rfl⟩,k2,k3,k4⟩;rw[hb]at k1;rw[k1.at.1];simp
theorem Ezi {c:CV tb.T}{us:Array Value}(h:All2 (RepC P tb g w μ τ s.tok) [.d c] us.toList):∃u,us[0]?=some u/\RepD P tb g w c u:=by
 obtain⟨u,h1,h2⟩:=h.get (i:=0) rfl;exact⟨u,by simpa using h1,h2⟩
theorem SimAt.stopF (h:SimAt P tb N W a0 g0 w0 D0 s g μ τ a w)(f:Nat)(caps:List (Nat×Nat)):∃g',SimAt P tb N W a0 g0 w0 D0 (s.frzF f caps) g' μ τ a w:=by
 unfold St.frzF;have hold:∀(t:Nat) (v:SV tb.T) (c:CV tb.T) (g':Gh),(s.env t).map (SV.frzF f caps c)=some v->(∀u,RepC P tb g w μ τ s.tok (.fn f caps) u->RepD P tb g' w c u) ->
  ∃u,a.tmps[t]?=some u/\((∃v0,s.env t=some v0/\v=v0)\/(RepV P tb g' w μ τ s.tok v u/\v.ids=[])):=fun t v c g' hv hc=>by
  cases he:s.env t with
  | none=>simp[he]at hv
  | some v0 =>
   simp only[he,Option.map_some,sE0]at hv;obtain⟨u,hu,hr⟩:=h.env t v0 he;refine⟨u,hu,?_⟩;unfold SV.frzF at hv;split at hv
   .rename_i f' caps';cases hb:(Nat.beq f' f&&decide (caps'=caps))with
    | false=>rw[hb]at hv;exact .inl ⟨_,rfl,hv.symm⟩
    | true =>
     rw[hb]at hv;simp only[Bool.and_eq_true,decide_eq_true_eq]at hb;obtain⟨h1,rfl⟩:=hb;have:=Nat.eq_of_beq_eq_true h1;subst this;have hv:v = .c (.d c):=hv.symm;subst hv;exact .inr ⟨hc u hr,rfl⟩
   .exact .inl ⟨_,rfl,hv.symm⟩
 split
 .rename_i i;split
  .rename_i e xs hb;cases hro:s.ro i with
   | true=>exact⟨g,h⟩
   | false =>
    simp only[cond_false];have hu:(fun k=>if k=i then none else s.blk k)=upd s.blk i none:=funext fun k=>by rw[azu]
    rw[<-hu];refine h.stop (fun k=>k=i) (fun k hk=>by subst hk;exact⟨by rw[hb];simp,hro⟩) fun g' hk hg t v hv=>hold t v _ g' hv fun u hr=>?_
    obtain⟨us,el,fz,e1,e2,e3⟩:=h.blk i _ hb;obtain⟨u0,k1,k2⟩:=Ezi e3;have hr:u = .func (.func f) #[] ([(i,0)].map fun p=>Value.pointer (some ⟨μ p.1,p.2,none⟩)).toArray:=hr;subst hr;exact .itf f e xs (μ i) u0 ⟨(Array.getElem?_eq_some_iff.1 e1).1,.inl (hg i rfl)⟩ (by unfold World.cell?;simp only[e1];exact k1) (k2.mono hk)
  .exact⟨g,h⟩
 .rename_i i j;split
  .rename_i e xs k hb hb2;cases hro:(s.ro i||s.ro j||Nat.beq i j)with
   | true=>exact⟨g,h⟩
   | false =>
    simp only[cond_false];simp only[Bool.or_eq_false_iff]at hro;obtain⟨⟨r1,r2⟩,r4⟩:=hro;have hu:(fun q=>if q=i\/q=j then none else s.blk q)=upd (upd s.blk i none) j none:=funext fun q=>by
     rw[azu,azu];by_cases c1:q=j
     .simp[c1]
     .by_cases c2:q=i
      .simp[c2]
      .simp[c1,c2]
    rw[<-hu];refine h.stop (fun q=>q=i\/q=j) (fun q hq=>by
     rcases hq with rfl|rfl
     .exact⟨by rw[hb];simp,r1⟩
     .exact⟨by rw[hb2];simp,r2⟩) fun g' hk hg t v hv=>hold t v _ g' hv fun u hr=>?_
    obtain⟨us,el,fz,e1,e2,e3⟩:=h.blk i _ hb;obtain⟨u0,k1,k2⟩:=Ezi e3;obtain⟨us2,el2,fz2,f1,f2,f3⟩:=h.blk j _ hb2;obtain⟨u2,m1,m2⟩:=Ezi f3;have hr:u = .func (.func f) #[] ([(i,0),(j,0)].map fun p=>Value.pointer (some ⟨μ p.1,p.2,none⟩)).toArray:=hr;subst hr;obtain⟨hk0,hu2⟩:inR .i64 k/\u2 = .int .i64 k:=by cases m2;exact⟨by assumption,rfl⟩
    subst hu2;exact .itf2 f k hk0 e xs (μ i) (μ j) u0 ⟨(Array.getElem?_eq_some_iff.1 e1).1,.inl (hg i (.inl rfl))⟩ (by unfold World.cell?;simp only[e1];exact k1) (k2.mono hk) ⟨(Array.getElem?_eq_some_iff.1 f1).1,.inl (hg j (.inr rfl))⟩ (by unfold World.cell?;simp only[f1];exact m1)
  .exact⟨g,h⟩
 .exact⟨g,h⟩
theorem SimAt.freezeL:∀(Nz0:List (AC tb.T)) {s:St tb.T} {g:Gh} {τ:Nat->Option Nat},SimAt P tb N W a0 g0 w0 D0 s g μ τ a w->∃g' τ',SimAt P tb N W a0 g0 w0 D0 (s.frzL Nz0) g' μ τ' a w
 | [],s,g,τ,h=>⟨g,τ,h⟩
 | ac::Nz0,s,g,τ,h=>by
  unfold St.frzL;split
  .rename_i he;cases he
  .rename_i he;simp only[List.cons.injEq]at he;obtain⟨rfl,rfl⟩:=he;obtain⟨g',τ',h'⟩:=h.freeze _;exact SimAt.freezeL Nz0 h'
  .rename_i he;simp only[List.cons.injEq]at he;obtain⟨rfl,rfl⟩:=he;exact SimAt.freezeL Nz0 h
theorem SimAt.prep {get:Nat->Option (SV tb.T)}:∀(l:aze) {s:St tb.T} {g:Gh} {τ:Nat->Option Nat},SimAt P tb N W a0 g0 w0 D0 s g μ τ a w->∃g' τ',SimAt P tb N W a0 g0 w0 D0 (St.prep get l s) g' μ τ' a w
 | [],s,g,τ,h=>⟨g,τ,h⟩
 | (t,p)::l,s,g,τ,h=>by
  cases p with
  | own e =>
   simp only[St.prep];split
   .obtain⟨g',τ',h'⟩:=h.freeze _;exact SimAt.prep l h'
   .exact SimAt.prep l h
  | val e =>
   simp only[St.prep];split
   .obtain⟨g',h'⟩:=h.stopF _ _;exact SimAt.prep l h'
   .obtain⟨g',τ',h'⟩:=h.freeze _;exact SimAt.prep l h'
   .obtain⟨g',τ',h'⟩:=h.freezeL _;exact SimAt.prep l h'
   .exact SimAt.prep l h
  | _=>exact SimAt.prep l h
end Go.Ev