import Derived.Test.YtkafbjodbjkieaaGreatDoorEvA
import Derived.Lib.ConvBytes
import Derived.Great.BuildSlice
import Derived.Laws.IdiomStrings
/- EvB -/
namespace Go.Ev
open Go
open Go.IntKind (i64 u64 u8 i32 u32 i16 u16)
def tzj (P:Program)(tb:Tab)(g:Gh)(w:World)(e:Nat)(x:tb.T e)(k:Nat):Prop:=k<w.heap.size/\g k = .var/\∃us el fz,w.heap[k]?=some (.cells us el fz)/\(∀j,j<us.size->¬(fz.1<=j/\j<fz.2))/\All2 (RepD P tb g w) (tb.enc e x) us.toList
def HoldsI (g:Gh)(w:World)(x:List UInt8×Nat)(k:Nat):Prop:=k<w.heap.size/\g k = .var/\w.heap[k]?=some (.stringIter ⟨x.1.toArray⟩ x.2)/\x.1.length<=bz6/\x.2<=x.1.length
def HoldsM (P:Program)(tb:Tab)(g:Gh)(w:World)(kt vt:Nat)(x:List (tb.T kt×tb.T vt))(k:Nat):Prop:=k<w.heap.size/\g k = .var/\∃es clock,w.heap[k]?=some (.map es clock)/\jz5 P tb g w kt vt x es.toList
def Bzk (w:World)(n k:Nat):Prop:=∃us el fz,w.heap[k]?=some (.cells us el fz)/\(∀j,j<us.size->¬(fz.1<=j/\j<fz.2))/\us.size=boxN n/\(∀u∈us.toList,Value.one u=true)/\(bldB n=true->el=boxT n/\∃u,us.toList[0]?=some u/\(u = .pointer none\/u = .pointer (some ⟨k,0,none⟩)))
theorem Bzk.rep {P:Program}{tb:Tab}{g:Gh}{w:World}{μ:Nat->Nat}{τ:Nat->Option Nat}{tok:Nat->Bool}{n i:Nat}(h:Bzk w n (μ i)):
 ∃us el fz,w.heap[μ i]?=some (.cells us el fz)/\(∀j,j<us.size->¬(fz.1<=j/\j<fz.2))/\All2 (RepC P tb g w μ τ tok) (pzz i n) us.toList:=by
 obtain⟨us,el,fz,h1,h2,h3,h4,h5⟩:=h;have rest:∀(m:Nat) (vs:List Value),vs.length=m->(∀u∈vs,Value.one u=true)->All2 (RepC P tb g w μ τ tok) (List.replicate m .any) vs:=fun m vs hm hv =>
  All2.of_get (by simp[hm]) fun j x v hx hy=>by
   have:x = .any:=(List.mem_replicate.1 (List.mem_of_getElem? hx)).2;subst this;exact hv v (List.mem_of_getElem? hy)
 refine⟨us,el,fz,h1,h2,?_⟩;unfold pzz;cases hb:bldB n with
 | false=>exact rest _ _ (by simpa using h3) h4
 | true =>
  obtain⟨he,u,hu,hs⟩:=h5 hb;cases hl:us.toList with
  | nil=>rw[hl]at hu;simp at hu
  | cons u' us' =>
   rw[hl]at hu h4;simp only[List.getElem?_cons_zero,sE0]at hu;subst hu;have hz:us.size=us'.length+1:=by rw[<-Array.length_toList,hl];rfl
   refine⟨⟨hs,us,fz,by rw[<-he];exact h1,h3⟩,rest _ _ (by omega) fun x hx=>h4 x (List.mem_cons_of_mem _ hx)⟩
theorem Iz1 {T:Nat->Type}{i n:Nat}:∀y∈(pzz i n:List (AC T)),∀j∈y.ids,j=i:=fun y hy j hj=>by
 unfold pzz at hy;have rest:∀m,y∈List.replicate m (AC.any:AC T)->j=i:=fun m hy=>by
  have:=(List.mem_replicate.1 hy).2;subst this;simp[AC.ids]at hj
 cases hb:bldB n with
 | false=>rw[hb]at hy;exact rest _ hy
 | true =>
  rw[hb]at hy;rcases List.mem_cons.1 hy with rfl|hy
  .simpa[AC.ids]using hj
  .exact rest _ hy
def hzR (P:Program)(tb:Tab)(g:Gh)(w:World):(p:Pat)->X tb p->Value->Option Nat->Prop
 | .val e,x,v,b=>czf P tb g w e x v/\b=none
 | .own e,x,v,b=>RepD P tb g w (.sl e x) v/\Bzm P g w b e (List.length (α:=tb.T e) x) v
 | .ref e,x,v,b=>∃k,b=some k/\v = .pointer (some ⟨k,0,none⟩)/\tzj P tb g w e x k
 | .ro e,x,v,b=>∃k,b=some k/\v = .pointer (some ⟨k,0,none⟩)/\tzj P tb g w e x k
 | .iter,x,v,b=>∃k,b=some k/\v = .pointer (some ⟨k,0,none⟩)/\HoldsI g w x k
 | .mp kt vt,x,v,b=>∃k,b=some k/\v = .map (some k)/\HoldsM P tb g w kt vt x k
 | .wr e,x,v,b=>fzh P w b e (List.length (α:=tb.T e) x) v/\fzB P tb g w b e x
 | .vw e,x,v,b=>fzB P tb g w b e x.1/\((x.2.2=0/\∃q,v = .slice q 0 0/\q.map Addr.block=b)\/∃k cap,b=some k/\v = .slice (some ⟨k,x.2.1*P.cellsOf e,none⟩) x.2.2 cap/\x.2.2<=cap/\cap<=bz6)
 | .box n,_,v,b=>∃k,b=some k/\v = .pointer (some ⟨k,0,none⟩)/\k<w.heap.size/\g k = .var/\Bzk w n k
 | .fnp f n,_,v,b=>b=none/\∃ks:List Nat,ks.length=n/\v = .func (.func f) #[] (ks.map fun k=>Value.pointer (some ⟨k,0,none⟩)).toArray
def bzd (P:Program)(tb:Tab)(g:Gh)(w:World):(l:aze)->XS tb l->List Value->List (Option Nat)->Prop
 | [],_,[],[]=>True
 | [a],x,[v],[b]=>hzR P tb g w a.2 x v b
 | a::c::l,(x,xs),v::vs,b::bs=>hzR P tb g w a.2 x v b/\bzd P tb g w (c::l) xs vs bs
 | _,_,_,_=>False
def vval (w:World)(base:Nat->Option Value)(v:Nat):Option Value :=
 if v<4294967296 then base v else match base (v%4294967296)with
  | some (.pointer (some ⟨k,0,none⟩))=>match w.heap[k]? with
   | some (.cells us _ _)=>us[v/4294967296-1]?
   | _=>none
  | some (.agg us)=>us[v/4294967296-1]?
  | some (.func _ _ caps)=>caps[v/4294967296-1]?
  | some (.slice o n c)=>if v/4294967296-1=rzw then some (.slice o n c)else none
  | _=>none
def At (w:World)(base:Nat->Option Value):aze->List Value->Prop
 | [],[]=>True
 | p::l,v::vs=>vval w base p.1=some v/\At w base l vs
 | _,_=>False
def fzV (rs args:List Value)(i:Nat):Option Value:=if i<32768 then rs[i]? else args[i-32768]?
theorem zzo {w:World}{base:Nat->Option Value}:∀{l:aze} {vs:List Value},At w base l vs->∀q∈l,∃v,vval w base q.1=some v
 | [],[],_,q,hq=>by simp at hq
 | _::_,_::_,⟨h1,h2⟩,q,hq=>by
  rcases List.mem_cons.1 hq with rfl|hq
  .exact⟨_,h1⟩
  .exact zzo h2 q hq
 | [],_::_,h,_,_=>h.elim
 | _::_,[],h,_,_=>h.elim
theorem izd {v:Nat}:ezu v=true↔v<4294967296:=by
 unfold ezu;exact⟨Nat.le_of_ble_eq_true,Nat.ble_eq_true_of_le⟩
theorem lzR {v:Nat}:ezu v=false↔¬v<4294967296:=by
 rw[<-izd];simp
theorem fzA {w:World}{base:Nat->Option Value}{v:Nat}(h:v<4294967296):vval w base v=base v:=by simp[vval,h]
theorem tzO {α:Type}(val:Nat->α):∀l:aze,bzv l (l.map fun q=>val q.1)=(azX l).map fun q=>val q.1
 | []=>rfl
 | a::l=>by
  have ih:=tzO val l;simp only[List.map_cons,bzv,azX,List.filter_cons];cases h:ezu a.1<;>simp[ih,azX]
theorem pz0 {α:Type}:∀{l:aze} {vs:List α},cz3 l=true->l.length=vs.length->bzv l vs=vs
 | [],[],_,_=>rfl
 | a::l,v::vs,h,hl=>by
  simp only[cz3,List.all_cons,Bool.and_eq_true]at h;simp only[bzv,h.1,cond_true];rw[pz0 h.2 (by simpa using hl)]
 | [],_::_,_,h=>by simp at h
 | _::_,[],_,h=>by simp at h
theorem Azt:∀{l:aze},cz3 l=true->azX l=l
 | [],_=>rfl
 | a::l,h=>by
  simp only[cz3,List.all_cons,Bool.and_eq_true]at h;simp only[azX,List.filter_cons,h.1,if_true];rw[show l.filter (fun a=>ezu a.1)=azX l from rfl,Azt h.2]
theorem uzX {α:Type}:∀{l:aze} {vs:List α},l.length=vs.length->(bzv l vs).length=(azX l).length
 | [],[],_=>rfl
 | a::l,v::vs,h=>by
  have ih:=uzX (l:=l) (vs:=vs) (by simpa using h);simp only[bzv,azX,List.filter_cons];cases hr:ezu a.1<;>simp[ih,azX]
 | [],_::_,h=>by simp at h
 | _::_,[],h=>by simp at h
def bzK:aze->List (Option Nat)->List Nat
 | a::l,b::bs=>(match a.2 with | .ro _=>[] | .vw _=>[]|_=>b.toList)++bzK l bs
 | _,_=>[]
def azl (bs:List (Option Nat)):List Nat:=bs.filterMap id
def bzL {α:Type}:aze->List α->List α
 | a::l,b::bs=>bif a.2.isRef then b::bzL l bs else bzL l bs
 | _,_=>[]
def RetV (l:aze)(vs:List Value)(v:Value):Prop :=
 match l,vs with
 | [],[]=>v = .tuple #[]
 | [_],[u]=>v=u
 | _::_::_,us=>v = .tuple us.toArray
 | _,_=>False
def Left (P:Program)(tb:Tab)(g:Gh)(w:World)(ins outs:aze)(vs:List Value)(bs:List (Option Nat))(y:Ret tb outs (azm ins))(us:List Value)(cs:List (Option Nat))(g':Gh)(w':World):Prop:=Ext g w g' w' (fun b=>b∈bzK ins bs)/\bzd P tb g' w' outs y.outs us cs/\bzd P tb g' w' (azm ins) y.refs (bzL ins vs) (bzL ins bs)/\(azl cs).Nodup/\(∀k∈azl cs,(w.heap.size<=k\/k∈bzK ins bs)/\k ∉ azl (bzL ins bs))
def vzQ (P:Program)(f:Nat):Prop:=∀(args:Array Value) (w:World),(callFunc f args).run P w = .ok (.enter f args) w
def azy (P:Program)(tb:Tab)(f:Nat)(sp:FSpec tb):Prop:=vzQ P f/\∀(g:Gh) (w:World) (x:XS tb sp.ins) (vs:List Value) (bs:List (Option Nat)) (y:Ret tb sp.outs (azm sp.ins)),sp.f x=some y->tb.inv g w->At w (fun i=>(bzv sp.ins vs)[i]?) sp.ins vs->bzd P tb g w sp.ins x vs bs->(azl bs).Nodup->Calls P f (bzv sp.ins vs).toArray w fun e w'=>∃v us cs g',e = .returned v/\RetV (azX sp.outs) (bzv sp.outs us) v/\At w' (fzV (bzv sp.outs us) (bzv sp.ins vs)) sp.outs us/\Left P tb g w sp.ins sp.outs vs bs y us cs g' w'
def Called (P:Program)(f:Nat)(args:Array Value)(w:World)(Q:Ending->World->Prop):Prop:=((callFunc f args).run P w = .ok (.enter f args) w/\Calls P f args w Q)\/∃v w',(callFunc f args).run P w = .ok (.value v) w'/\Q (.returned v) w'
def ez7 (P:Program)(tb:Tab)(f:Nat)(sp:FSpec tb):Prop:=∀(g:Gh) (w:World) (x:XS tb sp.ins) (vs:List Value) (bs:List (Option Nat)) (y:Ret tb sp.outs (azm sp.ins)),sp.f x=some y->tb.inv g w->At w (fun i=>(bzv sp.ins vs)[i]?) sp.ins vs->bzd P tb g w sp.ins x vs bs->(azl bs).Nodup->Called P f (bzv sp.ins vs).toArray w fun e w'=>∃v us cs g',e = .returned v/\RetV (azX sp.outs) (bzv sp.outs us) v/\At w' (fzV (bzv sp.outs us) (bzv sp.ins vs)) sp.outs us/\Left P tb g w sp.ins sp.outs vs bs y us cs g' w'
theorem azy.keeps {P:Program}{tb:Tab}{f:Nat}{sp:FSpec tb}(h:azy P tb f sp):ez7 P tb f sp:=fun g w x vs bs y hy hi ha hh hn=>.inl ⟨h.1 _ _,h.2 g w x vs bs y hy hi ha hh hn⟩
variable {P:Program} {tb:Tab} {g:Gh} {w:World} {μ:Nat->Nat} {τ:Nat->Option Nat}
def czs {T:Nat->Type}(s:St T)(μ:Nat->Nat)(τ:Nat->Option Nat)(p:Pat)(v:SV T)(b:Option Nat):Prop :=
 match p,v with
 | .own _,.c (.own _ _ t)=>b=τ t/\s.tok t=true
 | .ref _,.c (.ptr i _)=>b=some (μ i)/\azn s i/\s.ro i=false
 | .ro _,.c (.ptr i _)=>b=some (μ i)/\azn s i
 | .iter,.c (.ptr i _)=>b=some (μ i)/\azn s i/\s.ro i=false
 | .wr _,.c (.vsl _ i)=>b=τ i/\∃e xs,s.arr i=some (.mk true e xs)
 | .vw _,.c (.vw _ i _ _)=>b=τ i/\s.arr i≠none
 | .mp _ _,.c (.map i)=>b=some (μ i)/\azn s i/\s.ro i=false
 | .box _,.c (.ptr i _)=>b=some (μ i)/\azn s i/\s.ro i=false
 | _,_=>b=none
variable {N:Nat} {W:Nat->Prop} {a0:Act} {g0:Gh} {w0:World} {D0:Nat->Prop} {s:St tb.T} {a:Act}
theorem all_d:∀{Nz0:List (AC tb.T)} {cs:List (CV tb.T)},cvs Nz0=some cs->Nz0.length=cs.length
 | [],cs,h=>by simp only[cvs,sE0]at h;subst h;rfl
 | a::Nz0,cs,h=>by
  simp only[cvs]at h;cases ha:a.cv with
  | none=>simp[ha]at h
  | some c =>
   cases hs:cvs Nz0 with
   | none=>simp[ha,hs]at h
   | some cs'=>simp only[ha,hs,sE0]at h;subst h;simp[all_d hs]
theorem Nza {e:Nat}{v:SV tb.T}{x:tb.T e}(hx:wzg tb s e v=some x):∃i Nz0 cs,v = .c (.ptr i 0)/\s.blk i=some Nz0/\cvs Nz0=some cs/\tb.dec e cs=some x:=by
 unfold wzg at hx;rcases v with ac|Nz0|ts
 .cases ac with
  | ptr i o =>
   cases o with
   | zero =>
    simp only at hx;cases hb:s.blk i with
    | none=>simp[hb]at hx
    | some Nz0 =>
     simp only[hb]at hx;cases hc:cvs Nz0 with
     | none=>simp[hc]at hx
     | some cs=>exact⟨i,Nz0,cs,rfl,hb,hc,by simpa[hc]using hx⟩
   | succ o=>simp at hx
  | _=>simp at hx
 .simp at hx
 .simp at hx
theorem Nzg {e:Nat}{v:SV tb.T}{x:List (tb.T e)}(hx:extOwn tb s e v=some x):(v = .c (.d .nil)/\x=[])\/∃t,v = .c (.own e x t)/\s.tok t=true:=by
 unfold extOwn at hx;rcases v with ac|Nz0|ts
 .cases ac with
  | own e' xs t =>
   simp only at hx;by_cases he:e'=e
   .subst he;simp only[dite_true]at hx;cases ht:s.tok t with
    | false=>simp[ht]at hx
    | true =>
     simp only[ht,cond_true,sE0]at hx;subst hx;exact .inr ⟨t,rfl,ht⟩
   .simp[he]at hx
  | d c =>
   cases c with
   | nil=>simp only[sE0]at hx;subst hx;exact .inl ⟨rfl,rfl⟩
   | _=>simp at hx
  | _=>simp at hx
 .simp at hx
 .simp at hx
theorem Nzc {v:SV tb.T}{x:List UInt8×Nat}(hx:extItr s v=some x):∃i,v = .c (.ptr i 0)/\s.itr i=some (.it x.1 x.2):=by
 unfold extItr at hx;split at hx
 .split at hx
  .rename_i h;simp only[sE0]at hx;subst hx;exact⟨_,rfl,h⟩
  .cases hx
 .cases hx
theorem Nzf {e:Nat}{v:SV tb.T}{x:List (tb.T e)}(hx:extMut tb s e v=some x):(v = .c (.d .nil)/\x=[])\/∃i,v = .c (.vsl e i)/\s.arr i=some (.mk true e x):=by
 unfold extMut at hx;split at hx
 .simp only[sE0]at hx;subst hx;exact .inl ⟨rfl,rfl⟩
 .rename_i e1 i;split at hx
  .rename_i o e' xs h;by_cases he:e'=e
   .subst he;cases hk:(o&&Nat.beq e1 e')with
    | false=>simp[hk]at hx
    | true =>
     simp only[hk,dite_true,cond_true,sE0]at hx;subst hx;simp only[Bool.and_eq_true]at hk;obtain⟨k1,k2⟩:=hk;have:=Nat.eq_of_beq_eq_true k2;subst this;subst k1;exact .inr ⟨_,rfl,h⟩
   .simp[he]at hx
  .cases hx
 .cases hx
theorem Mzv {e:Nat}{v:SV tb.T}{x:List (tb.T e)×Nat×Nat}(hx:HzO tb s e v=some x):∃i o,v = .c (.vw e i x.2.1 x.2.2)/\s.arr i=some (.mk o e x.1):=by
 unfold HzO at hx;split at hx
 .rename_i e1 i o n;split at hx
  .rename_i o' e' xs h;by_cases he:e'=e
   .subst he;cases hk:Nat.beq e1 e' with
    | false=>simp[hk]at hx
    | true =>
     simp only[hk,dite_true,cond_true,sE0]at hx;subst hx;have:=Nat.eq_of_beq_eq_true hk;subst this;exact⟨_,_,rfl,h⟩
   .simp[he]at hx
  .cases hx
 .cases hx
theorem Nzb {n:Nat}{v:SV tb.T}{x:Unit}(hx:extBox s n v=some x):∃i Nz0,v = .c (.ptr i 0)/\s.blk i=some Nz0/\Nz0.length=boxN n/\slfOk i n Nz0=true/\s.ro i=false:=by
 unfold extBox at hx;split at hx
 .rename_i i;cases hr:s.ro i with
  | true=>simp[hr]at hx
  | false =>
   simp only[hr,cond_false]at hx;split at hx
   .rename_i Nz0 h;cases hn:(Nat.beq Nz0.length (boxN n)&&slfOk i n Nz0)with
    | false=>simp[hn]at hx
    | true =>
     simp only[Bool.and_eq_true]at hn;exact⟨i,Nz0,rfl,h,Nat.eq_of_beq_eq_true hn.1,hn.2,hr⟩
   .cases hx
 .cases hx
theorem Nze {k v:Nat}{sv:SV tb.T}{x:List (tb.T k×tb.T v)}(hx:extMap tb s k v sv=some x):∃i,sv = .c (.map i)/\s.itr i=some (.mp k v x)/\s.ro i=false:=by
 unfold extMap at hx;split at hx
 .rename_i i;cases hr:s.ro i with
  | true=>simp[hr]at hx
  | false =>
   simp only[hr,cond_false]at hx;split at hx
   .rename_i k' v' l hi;split at hx
    .rename_i h;subst h;split at hx
     .rename_i h;subst h;simp only[sE0]at hx;subst hx;exact⟨i,rfl,hi,hr⟩
     .cases hx
    .cases hx
   .cases hx
 .cases hx
theorem HzP (h:SimAt P tb N W a0 g0 w0 D0 s g μ τ a w){p:Pat}{v:SV tb.T}{u:Value}{x:X tb p}(hx:extP P tb s p v=some x)(hr:RepV P tb g w μ τ s.tok v u):
 ∃b,hzR P tb g w p x u b/\czs s μ τ p v b:=by
 have blkCase:∀{e:Nat} {x:tb.T e},wzg tb s e v=some x->∃i,v = .c (.ptr i 0)/\azn s i/\u = .pointer (some ⟨μ i,0,none⟩)/\tzj P tb g w e x (μ i):=by
  intro e x hx;obtain⟨i,Nz0,cs,rfl,hb,hc,hx⟩:=Nza hx;have hl:azn s i:=.inl (by rw[hb];simp);obtain⟨us,el,fz,e1,e2,e3⟩:=h.blk i Nz0 hb;obtain⟨k1,k2,k3,_⟩:=h.live i hl;exact⟨i,rfl,hl,hr,k3,k2,us,el,fz,e1,e2,jz9 hx (iz6 hc e3)⟩
 cases p with
 | val e =>
  refine⟨none,⟨?_,rfl⟩,by cases v<;>rfl⟩;have hx:tzv P tb e v=some x:=hx;unfold tzv at hx;cases v with
  | c ac =>
   simp only at hx;cases ha:bzw P e with
   | true=>simp[ha]at hx
   | false =>
    simp only[ha,cond_false]at hx;cases hc:ac.cv with
    | none=>simp[hc]at hx
    | some c =>
     simp only[hc]at hx;have hd:=jz9 hx (vs:=[u]) ⟨xzl hc hr,trivial⟩;unfold czf;simp only[ha,Bool.false_eq_true,if_false];cases he:tb.enc e x with
     | nil=>rw[he]at hd;exact hd.elim
     | cons c' cs =>
      rw[he]at hd;obtain⟨d1,d2⟩:=hd;cases cs with
      | nil=>exact⟨c',rfl,d1⟩
      | cons _ _=>exact d2.elim
  | agg Nz0 =>
   simp only at hx;cases ha:bzw P e with
   | false=>simp[ha]at hx
   | true =>
    simp only[ha,cond_true]at hx;cases hc:cvs Nz0 with
    | none=>simp[hc]at hx
    | some cs =>
     simp only[hc]at hx;obtain⟨us,rfl,hus⟩:=hr;unfold czf;simp only[ha,if_true];exact⟨us,rfl,jz9 hx (iz6 hc hus)⟩
  | tup _=>simp at hx
 | own e =>
  rcases Nzg (x:=x) hx with⟨rfl,e0⟩|⟨t,rfl,ht⟩
  .have e0:x=([]:List (tb.T e)):=e0;subst e0;cases hr;exact⟨none,⟨.slnil e,.inl ⟨rfl,rfl,rfl⟩⟩,rfl⟩
  .exact⟨τ t,⟨hr.1,hr.2 ht⟩,rfl,ht⟩
 | ref e =>
  have hx:(bif isRo s v then none else wzg tb s e v)=some x:=hx;cases hro:isRo s v with
  | true=>simp[hro]at hx
  | false =>
   simp only[hro,cond_false]at hx;obtain⟨i,rfl,hl,hu,hb⟩:=blkCase hx;exact⟨some (μ i),⟨μ i,rfl,hu,hb⟩,rfl,hl,hro⟩
 | ro e =>
  obtain⟨i,rfl,hl,hu,hb⟩:=blkCase (x:=x) hx;exact⟨some (μ i),⟨μ i,rfl,hu,hb⟩,rfl,hl⟩
 | iter =>
  obtain⟨i,rfl,hx'⟩:=Nzc (x:=x) hx;obtain⟨l,p⟩:=x;clear hx;have hx:=hx';have hl:azn s i:=.inr (by rw[hx];simp);obtain⟨e1,e2,e3⟩:=h.itr i _ hx;obtain⟨k1,k2,k3,_⟩:=h.live i hl;exact⟨some (μ i),⟨μ i,rfl,hr,k3,k2,e1,e2,e3⟩,rfl,hl,(h.excl i (by rw[hx];simp)).2⟩
 | mp kt vt =>
  obtain⟨i,rfl,hi,hro⟩:=Nze (x:=x) hx;have hl:azn s i:=.inr (by rw[hi];simp);obtain⟨es,clock,e1,e2⟩:=h.itr i _ hi;obtain⟨k1,k2,k3,_⟩:=h.live i hl;exact⟨some (μ i),⟨μ i,rfl,hr,k3,k2,es,clock,e1,e2⟩,rfl,hl,hro⟩
 | wr e =>
  rcases Nzf (x:=x) hx with⟨rfl,e0⟩|⟨i,rfl,hi⟩
  .have e0:x=([]:List (tb.T e)):=e0;subst e0;cases hr;exact⟨none,⟨.inl ⟨rfl,rfl,rfl⟩,.inl ⟨rfl,rfl⟩⟩,rfl⟩
  .obtain⟨k1,_,k3,_⟩:=h.arr i _ e x hi;have hr:fzh P w (τ i) e (μ i) u:=hr;rw[(k3 rfl).1]at hr;exact⟨τ i,⟨hr,k1⟩,rfl,e,x,hi⟩
 | vw e =>
  obtain⟨i,o,rfl,hi⟩:=Mzv (x:=x) hx;exact⟨τ i,⟨(h.arr i o e x.1 hi).1,hr⟩,rfl,by rw[hi];simp⟩
 | box n =>
  obtain⟨i,Nz0,rfl,hi,hn,hok,hro⟩:=Nzb (x:=x) hx;have hl:azn s i:=.inl (by rw[hi];simp);obtain⟨us,el,fz,e1,e2,e3⟩:=h.blk i Nz0 hi;obtain⟨k1,k2,k3,_⟩:=h.live i hl;refine⟨some (μ i),⟨μ i,rfl,hr,k3,k2,us,el,fz,e1,e2,by rw[<-hn,e3.length];simp,fun u hu=>?_,fun hb=>?_⟩,rfl,hl,hro⟩
  rotate_left
  .unfold slfOk at hok;rw[hb]at hok;split at hok
   .rename_i t m j Nz0;simp only[Bool.not_true,Bool.false_or,Bool.and_eq_true]at hok;obtain⟨⟨o1,o2⟩,o3⟩:=hok;have o1:=Nat.eq_of_beq_eq_true o1;have o3:=Nat.eq_of_beq_eq_true o3;subst o3;cases hul:us.toList with
    | nil=>rw[hul]at e3;exact e3.elim
    | cons u us' =>
     rw[hul]at e3;obtain⟨⟨r1,us2,fz2,r2,_⟩,_⟩:=e3;rw[e1]at r2;injection r2 with r2;injection r2 with _ r2 _;exact⟨by rw[r2,o1],u,rfl,r1⟩
   .simp at hok
  obtain⟨j,hj,hju⟩:=List.getElem_of_mem hu;have hj':j<Nz0.length:=by rw[e3.length];exact hj
  obtain⟨u',hu',hr'⟩:=e3.get (List.getElem?_eq_getElem hj');rw[List.getElem?_eq_getElem hj,hju]at hu';injection hu' with hu';subst hu';exact hr'.one
 | fnp f n =>
  simp only[extP]at hx;split at hx
  .rename_i f' caps;cases hc:(Nat.beq f' f&&Nat.beq caps.length n&&caps.all fun p=>Nat.beq p.2 0)with
   | false=>simp[hc]at hx
   | true =>
    simp only[Bool.and_eq_true]at hc;obtain⟨⟨c1,c2⟩,c3⟩:=hc;have c1:=Nat.eq_of_beq_eq_true c1;have c2:=Nat.eq_of_beq_eq_true c2;subst c1;refine⟨none,⟨rfl,caps.map fun p=>μ p.1,by simpa using c2,?_⟩,rfl⟩;have hr:u = .func (.func f') #[] (caps.map fun p=>Value.pointer (some ⟨μ p.1,p.2,none⟩)).toArray:=hr;rw[hr,List.map_map];congr 2;refine List.map_congr_left fun p hp=>?_
    have:=Nat.eq_of_beq_eq_true (List.all_eq_true.1 c3 p hp);simp[this]
  .cases hx
def BlkL {T:Nat->Type}(s:St T)(μ:Nat->Nat)(τ:Nat->Option Nat)(get:Nat->Option (SV T)):aze->List (Option Nat)->Prop
 | [],[]=>True
 | a::l,b::bs=>(∃v,get a.1=some v/\czs s μ τ a.2 v b)/\BlkL s μ τ get l bs
 | _,_=>False
theorem pzk (h:SimAt P tb N W a0 g0 w0 D0 s g μ τ a w){get:Nat->Option (SV tb.T)}{val:Nat->Value}:
 ∀{l:aze} {x:XS tb l},extS P tb s get l=some x->(∀a∈l,∀v,get a.1=some v->RepV P tb g w μ τ s.tok v (val a.1)) ->
  ∃bs,bzd P tb g w l x (l.map fun a=>val a.1) bs/\BlkL s μ τ get l bs
 | [],x,_,_=>⟨[],trivial,trivial⟩
 | [a],x,hx,hr=>by
  simp only[extS]at hx;cases hg:get a.1 with
  | none=>simp[hg]at hx
  | some v =>
   simp only[hg]at hx;obtain⟨b,k1,k2⟩:=HzP h hx (hr a (by simp) v hg);exact⟨[b],k1,⟨v,hg,k2⟩,trivial⟩
 | a::c::l,x,hx,hr=>by
  simp only[extS]at hx;cases hg:get a.1 with
  | none=>simp[hg]at hx
  | some v =>
   simp only[hg]at hx;cases he:extP P tb s a.2 v with
   | none=>simp[he]at hx
   | some x1 =>
    simp only[he]at hx;cases hs:extS P tb s get (c::l)with
    | none=>simp[hs]at hx
    | some xs =>
     simp only[hs]at hx;have hx:=Option.some.inj hx;subst hx;obtain⟨b,k1,k2⟩:=HzP h he (hr a (by simp) v hg);obtain⟨bs,k3,k4⟩:=pzk h hs (fun a' ha'=>hr a' (by simp[ha']));exact⟨b::bs,⟨k1,k3⟩,⟨v,hg,k2⟩,k4⟩
theorem dzX {i:Nat}:∀{l:List Nat},memB i l=true↔i∈l
 | []=>by simp[memB]
 | j::l=>by
  simp only[memB,Bool.or_eq_true,List.mem_cons];rw[dzX];constructor
  .rintro(h|h)
   .exact .inl (Nat.eq_of_beq_eq_true h)
   .exact .inr h
  .rintro(h|h)
   .subst h;exact .inl (by simp)
   .exact .inr h
theorem fzi:∀{l:List Nat},czl l=true↔l.Nodup
 | []=>by simp[czl]
 | i::l=>by
  simp only[czl,Bool.and_eq_true,Bool.not_eq_true',List.nodup_cons];rw[fzi,<-dzX];simp
def Mine (s:St tb.T)(μ:Nat->Nat)(τ:Nat->Option Nat)(i k:Nat):Prop:=((s.tok i=true\/s.arr i≠none)/\τ i=some k)\/(azn s i/\μ i=k)
theorem Kzs {p:Pat}{v:SV tb.T}{k:Nat}(h:czs s μ τ p v (some k)):∃i∈idsP p v,Mine s μ τ i k:=by
 cases p<;>rcases v with ac|Nz0|ts<;>first|(cases ac<;>simp only[czs,reduceCtorEq]at h)|(simp only[czs,reduceCtorEq]at h)
 .exact⟨_,by simp[idsP],.inl ⟨.inl h.2,h.1.symm⟩⟩
 .exact⟨_,by simp[idsP],.inr ⟨h.2.1,(Option.some.inj h.1).symm⟩⟩
 .exact⟨_,by simp[idsP],.inr ⟨h.2,(Option.some.inj h.1).symm⟩⟩
 .exact⟨_,by simp[idsP],.inr ⟨h.2.1,(Option.some.inj h.1).symm⟩⟩
 .obtain⟨h1,_,_,h2⟩:=h;exact⟨_,by simp[idsP],.inl ⟨.inr (by rw[h2];simp),h1.symm⟩⟩
 .exact⟨_,by simp[idsP],.inl ⟨.inr h.2,h.1.symm⟩⟩
 .exact⟨_,by simp[idsP],.inr ⟨h.2.1,(Option.some.inj h.1).symm⟩⟩
 .exact⟨_,by simp[idsP],.inr ⟨h.2.1,(Option.some.inj h.1).symm⟩⟩
theorem vzV {get:Nat->Option (SV tb.T)}:∀{l:aze} {bs:List (Option Nat)},BlkL s μ τ get l bs->∀k∈azl bs,∃i∈idsS get l,Mine s μ τ i k
 | [],[],_,k,hk=>by simp[azl]at hk
 | a::l,b::bs,⟨⟨v,hg,hb⟩,h2⟩,k,hk=>by
  have hsplit:(b=some k)\/k∈azl bs:=by
   simp only[azl,List.filterMap_cons]at hk;cases b with
   | none=>exact .inr (by simpa[azl]using hk)
   | some k' =>
    simp only[id_eq,List.mem_cons]at hk;rcases hk with e|e
    .subst e;exact .inl rfl
    .exact .inr (by simpa[azl]using e)
  rcases hsplit with e|e
  .subst e;obtain⟨i,hi,h⟩:=Kzs hb;exact⟨i,by simp only[idsS,hg,List.mem_append];exact .inl hi,h⟩
  .obtain⟨i,hi,h⟩:=vzV h2 k e;exact⟨i,by simp only[idsS,List.mem_append];exact .inr hi,h⟩
theorem Mine.apart (h:SimAt P tb N W a0 g0 w0 D0 s g μ τ a w){i k:Nat}(hi:(s.tok i=true\/s.arr i≠none)/\τ i=some k):∃n,g k = .ar n:=by
 obtain⟨h1|h1,h2⟩:=hi
 .exact((h.tokv i h1).2 k h2).1
 .cases ha:s.arr i with
  | none=>exact absurd ha h1
  | some z =>
   obtain⟨o,e,xs⟩:=z;have:=(h.arr i o e xs ha).1;rw[h2]at this;exact⟨0,this.at.1⟩
theorem vzW (h:SimAt P tb N W a0 g0 w0 D0 s g μ τ a w){i j k:Nat}(hi:Mine s μ τ i k)(hj:Mine s μ τ j k):i=j:=by
 have arrs:∀{i j:Nat},s.arr i≠none->τ i=some k->τ j=some k->(s.tok j=true->False)/\(s.arr j≠none->j=i):=fun {i j} h1 h2 h4=>by
  cases ha:s.arr i with
  | none=>exact absurd ha h1
  | some z=>obtain⟨o,e,xs⟩:=z;exact(h.arr i o e xs ha).2.2.2 j k h4 h2
 rcases hi with hi|⟨h1,h2⟩<;>rcases hj with hj|⟨h3,h4⟩
 .obtain⟨h1|h1,h2⟩:=hi
  .obtain⟨h3|h3,h4⟩:=hj
   .exact h.tinj i j k h1 h3 h2 h4
   .exact((arrs h3 h4 h2).1 h1).elim
  .obtain⟨h3|h3,h4⟩:=hj
   .exact((arrs h1 h2 h4).1 h3).elim
   .exact((arrs h1 h2 h4).2 h3).symm
 .obtain⟨n,hn⟩:=Mine.apart h hi;have:=(h.live j h3).2.1;rw[h4,hn]at this;cases this
 .obtain⟨n,hn⟩:=Mine.apart h hj;have:=(h.live i h1).2.1;rw[h2,hn]at this;cases this
 .exact h.inj i j h1 h3 (h2.trans h4.symm)
theorem pzf (h:SimAt P tb N W a0 g0 w0 D0 s g μ τ a w){get:Nat->Option (SV tb.T)}:∀{l:aze} {bs:List (Option Nat)},BlkL s μ τ get l bs->(idsS get l).Nodup->(azl bs).Nodup
 | [],[],_,_=>by simp[azl]
 | a::l,b::bs,hb@⟨⟨v,hg,hb1⟩,h2⟩,hn=>by
  have hn':=hn;simp only[idsS,hg]at hn';obtain⟨n1,n2,n3⟩:=List.nodup_append.1 hn';have ih:=pzf h h2 n2;cases b with
  | none=>simpa[azl]using ih
  | some k =>
   simp only[azl,List.filterMap_cons,id_eq];refine List.nodup_cons.2 ⟨fun hk=>?_,ih⟩;obtain⟨j,hj,hj'⟩:=vzV h2 k hk;obtain⟨i,hi,hi'⟩:=Kzs hb1;have:=vzW h hi' hj';subst this;exact n3 i hi i hj rfl
theorem Ez4 (h:SimAt P tb N W a0 g0 w0 D0 s g μ τ a w){get:Nat->Option (SV tb.T)}{base:Nat->Option Value}(hg:∀t v,t<4294967296->get t=some v->∃u,base t=some u/\RepV P tb g w μ τ s.tok v u)
 {t:Nat} {v:SV tb.T} (hv:vget s get t=some v):∃u,vval w base t=some u/\RepV P tb g w μ τ s.tok v u:=by
 unfold vget at hv;unfold vval;by_cases ht:t<4294967296
 .have:Nat.blt t 4294967296=true:=Nat.ble_eq_true_of_le ht;simp only[this,cond_true]at hv;simp only[ht,if_true];exact hg t v ht hv
 .have:Nat.blt t 4294967296=false:=by
   cases hb:Nat.blt t 4294967296 with
   | false=>rfl
   | true=>exact absurd (Nat.le_of_ble_eq_true hb) ht
  simp only[this,cond_false]at hv;simp only[ht,if_false];have hlt:t%4294967296<4294967296:=Nat.mod_lt _ (by omega);split at hv
  .rename_i i hi;obtain⟨u,hu,hr⟩:=hg _ _ hlt hi;have hr:u = .pointer (some ⟨μ i,0,none⟩):=hr;subst hr;split at hv
   .rename_i Nz0 hb;split at hv
    .rename_i ac ha;simp only[sE0]at hv;subst hv;obtain⟨us,el,fz,e1,_,e3⟩:=h.blk i Nz0 hb;obtain⟨u',hu',hr'⟩:=e3.get ha;rw[hu];simp only[e1];exact⟨u',by simpa using hu',hr'⟩
    .cases hv
   .cases hv
  .rename_i Nz0 hi;obtain⟨u,hu,us,hr,h2⟩:=hg _ _ hlt hi;subst hr;split at hv
   .rename_i ac ha;simp only[sE0]at hv;subst hv;obtain⟨u',hu',hr'⟩:=h2.get ha;rw[hu];exact⟨u',by simpa using hu',hr'⟩
   .cases hv
  .rename_i f caps hi;obtain⟨u,hu,hr⟩:=hg _ _ hlt hi;have hr:u = .func (.func f) #[] (caps.map fun p=>Value.pointer (some ⟨μ p.1,p.2,none⟩)).toArray:=hr;subst hr;split at hv
   .rename_i p hp;simp only[sE0]at hv;subst hv;rw[hu];refine⟨.pointer (some ⟨μ p.1,p.2,none⟩),?_,rfl⟩;simp only[List.getElem?_toArray,List.getElem?_map,hp,Option.map_some]
   .cases hv
  .rename_i e i hi;obtain⟨u,hu,hr⟩:=hg _ _ hlt hi;cases hb:Nat.beq (t/4294967296-1) rzw with
   | false=>simp[hb]at hv
   | true =>
    have hb:=Nat.eq_of_beq_eq_true hb;simp only[hb]at hv;rw[show Nat.beq rzw rzw=true from rfl]at hv;simp only[cond_true,sE0]at hv;subst hv;rw[hu];have hr':fzh P w (τ i) e (μ i) u:=hr;rcases hr' with⟨_,_,rfl⟩|⟨_,_,_,_,_,rfl,_⟩
    .exact⟨_,by simp only[hb];rfl,hr⟩
    .exact⟨_,by simp only[hb];rfl,hr⟩
  .cases hv
theorem xzd {get:Nat->Option (SV tb.T)}{base:Nat->Option Value}(hg:∀t v,get t=some v->∃u,vval w base t=some u):∀{l:aze} {bs:List (Option Nat)},BlkL s μ τ get l bs->At w base l (l.map fun q=>(vval w base q.1).getD undef)
 | [],[],_=>trivial
 | q::l,b::bs,⟨⟨v,hv,_⟩,h2⟩=>by
  obtain⟨u,hu⟩:=hg q.1 v hv;exact⟨by simp[hu],xzd hg h2⟩
 | [],_::_,h=>h.elim
 | _::_,[],h=>h.elim
end Go.Ev
namespace Go.Ev
open Go
open Go.IntKind (i64 u64 u8 i32 u32 i16 u16)
variable {P:Program} {tb:Tab} {g:Gh} {w:World} {μ:Nat->Nat} {τ:Nat->Option Nat} {tok:Nat->Bool}
theorem pzt {cs:List (CV tb.T)}{us:List Value}(h:All2 (RepD P tb g w) cs us):All2 (RepC P tb g w μ τ tok) (cs.map AC.d) us :=
 All2.map_left AC.d (h.mono fun _ _ _ h=>h)
theorem rzC {e:Nat}{x:tb.T e}{v:Value}(h:czf P tb g w e x v):RepV P tb g w μ τ tok (qzu P e (tb.enc e x)) v/\(qzu P e (tb.enc e x)).ids=[]:=by
 unfold czf at h;unfold qzu;cases ha:bzw P e with
 | true =>
  simp only[ha,if_true]at h;obtain⟨us,rfl,h⟩:=h;refine⟨⟨us,rfl,pzt h⟩,?_⟩;simp only[cond_true,SV.ids,List.flatMap_eq_nil_iff,List.mem_map];rintro a ⟨c,_,rfl⟩;rfl
 | false =>
  simp only[ha,Bool.false_eq_true,if_false]at h;obtain⟨c,hc,hd⟩:=h;simp only[hc,cond_false];exact⟨hd,rfl⟩
def Pat.isTok:Pat->Bool | .own _=>true | .wr _=>true | .vw _=>true|_=>false
def Pat.still:Pat->Bool | .ro _=>true | .vw _=>true|_=>false
def FitP (μ:Nat->Nat)(τ:Nat->Option Nat)(q:Nat×Pat)(v:Value)(b:Option Nat):Prop:=(q.2.isTok=false->∀k,b=some k->μ q.1=k)/\(q.2.isTok=true->τ q.1=b)/\(∀e,q.2 = .wr e->∀o n c,v = .slice o n c->μ q.1=n)/\∀f n,q.2 = .fnp f n->ezu q.1=true->v = .func (.func f) #[] ((behind q.1 n).map fun i=>Value.pointer (some ⟨μ i,0,none⟩)).toArray
def Fit (μ:Nat->Nat)(τ:Nat->Option Nat):aze->List Value->List (Option Nat)->Prop
 | [],[],[]=>True
 | a::l,v::vs,b::bs=>FitP μ τ a v b/\Fit μ τ l vs bs
 | _,_,_=>False
def fzo (a:Act)(w:World)(l:aze)(vs:List Value):Prop:=At w (fun i=>a.tmps[i]?) l vs
structure Begun (P:Program) (tb:Tab) (N:Nat) (W:Nat->Prop) (D0:Nat->Prop) (l:aze) (bs:List (Option Nat)) (s:St tb.T) (g:Gh) (μ:Nat->Nat) (τ:Nat->Option Nat) (a:Act) (w:World):Prop where
 sim:SimAt P tb N W a g w D0 s g μ τ a w
 slots:∀i,s.used i=true->i∈l.map (·.1)\/4294967296<=i
 free:∀i,azn s i->i∈l.map (·.1)
 freet:∀i,(s.tok i=true\/s.arr i≠none)->i∈l.map (·.1)
 freer:∀i,s.ro i=true->i∈l.map (·.1)
 toks:∀u k,(s.tok u=true\/s.arr u≠none)->τ u=some k->k∈azl bs
 lives:∀i,azn s i->μ i∈azl bs
variable {N:Nat} {W:Nat->Prop} {D0:Nat->Prop} {a0 a:Act} {g0:Gh} {w0:World} {s s':St tb.T}
theorem SimAt.see (h:SimAt P tb N W a0 g0 w0 D0 s g μ τ a w){t:Nat}{v:SV tb.T}{u:Value}(hu:a.tmps[t]?=some u)(hr:RepV P tb g w μ τ s.tok v u)(hi:∀i∈v.ids,s.used i=true):
 SimAt P tb N W a0 g0 w0 D0 (s.put t v) g μ τ a w:=by
 refine⟨h.ext,h.size,h.defers,h.frame,?_,h.blk,h.itr,h.live,h.inj,h.tokv,h.tinj,h.excl,h.rou,?_,h.ublk,h.arr,h.inv0⟩
 .intro t' v' hv;simp only[St.put,azu]at hv;by_cases e:t'=t
  .subst e;simp at hv;subst hv;exact⟨u,hu,hr⟩
  .simp only[e,if_false]at hv;exact h.env t' v' hv
 .intro t' v' hv;simp only[St.put,azu]at hv ⊢;by_cases e:t'=t
  .subst e;simp at hv;subst hv;exact hi
  .simp only[e,if_false]at hv;exact h.uenv t' v' hv
theorem qzD {α β:Type}{R:α->β->Prop}:∀{Nz0:List α} {bs:List β} {j:Nat} {x:α} {y:β},All2 R Nz0 bs->bs[j]?=some y->R x y->All2 R (Nz0.set j x) bs
 | [],[],j,x,y,_,h,_=>by simp at h
 | a::Nz0,b::bs,0,x,y,⟨_,h2⟩,h,hr=>by simp at h;subst h;exact⟨hr,h2⟩
 | a::Nz0,b::bs,j+1,x,y,⟨h1,h2⟩,h,hr=>⟨h1,qzD h2 (by simpa using h) hr⟩
 | [],_::_,_,_,_,h,_,_=>h.elim
 | _::_,[],_,_,_,h,_,_=>h.elim
theorem wzn {α:Type}{Nz0:List α}{j:Nat}{x y:α}(h:y∈Nz0.set j x):y=x\/y∈Nz0:=by
 rcases List.mem_or_eq_of_mem_set h with h|h
 .exact .inr h
 .exact .inl h
theorem SimAt.seeBlk (h:SimAt P tb N W a0 g0 w0 D0 s g μ τ a w){i j:Nat}{Nz0:List (AC tb.T)}(hb:s.blk i=some Nz0){us:Array Value}{el:Nat}{fz:Nat×Nat}(hw:w.heap[μ i]?=some (.cells us el fz)){ac:AC tb.T}{u:Value}(hu:us[j]?=some u)
 (hr:RepC P tb g w μ τ s.tok ac u) (hi:∀i∈ac.ids,s.used i=true):SimAt P tb N W a0 g0 w0 D0 {s with blk:=upd s.blk i (some (Nz0.set j ac))} g μ τ a w:=by
 have hl:∀k,azn {s with blk:=upd s.blk i (some (Nz0.set j ac))} k↔azn s k:=fun k=>by
  by_cases e:k=i
  .subst e;simp[azn,azh,hb]
  .simp[azn,azu,e]
 refine⟨h.ext,h.size,h.defers,h.frame,h.env,?_,h.itr,fun k hk=>h.live k ((hl k).1 hk),fun k k' hk hk'=>h.inj k k' ((hl k).1 hk) ((hl k').1 hk'),h.tokv,h.tinj,?_,h.rou,h.uenv,?_,h.arr,h.inv0⟩
 .intro k cs hc;simp only[azu]at hc;by_cases e:k=i
  .subst e;simp at hc;subst hc;obtain⟨us',el',fz',e1,e2,e3⟩:=h.blk k Nz0 hb;rw[hw]at e1;injection e1 with e1;injection e1 with e1 e1' e1'';subst e1;subst e1';subst e1'';exact⟨us,el,fz,hw,e2,qzD e3 (by simpa using hu) hr⟩
  .simp only[e,if_false]at hc;exact h.blk k cs hc
 .intro k hk;have e:k≠i:=fun e=>by subst e;have:=(h.excl k hk).1;rw[hb]at this;cases this
  simp only[azu,e,if_false];exact h.excl k hk
 .intro k cs hc y hy q hq;simp only[azu]at hc;by_cases e:k=i
  .subst e;simp at hc;subst hc;rcases wzn hy with e'|hy
   .subst e';exact hi q hq
   .exact h.ublk k Nz0 hb y hy q hq
  .simp only[e,if_false]at hc;exact h.ublk k cs hc y hy q hq
theorem SimAt.setCell (h:SimAt P tb N W a0 g0 w0 D0 s g μ τ a w){t:Nat}{ac:AC tb.T}(hs:setCell s s.env t ac=some s'){v:Value}(ht:¬t<4294967296)(hv:vval w (fun i=>a.tmps[i]?) t=some v)
 (hr:RepC P tb g w μ τ s.tok ac v) (hi:∀i∈ac.ids,s.used i=true):SimAt P tb N W a0 g0 w0 D0 s' g μ τ a w:=by
 unfold Ev.setCell at hs;unfold vval at hv;simp only[ht,if_false]at hv;split at hs
 .rename_i i he;obtain⟨u,hu,hru⟩:=h.env _ _ he;have hru:u = .pointer (some ⟨μ i,0,none⟩):=hru;subst hru;split at hs
  .rename_i Nz0 hb;cases hj:Nat.blt (t/4294967296-1) Nz0.length with
   | false=>simp[hj]at hs
   | true =>
    simp only[hj,cond_true,sE0]at hs;subst hs;obtain⟨us,el,fz,e1,e2,e3⟩:=h.blk i Nz0 hb;rw[hu]at hv;simp only[e1]at hv;exact h.seeBlk hb e1 hv hr hi
  .cases hs
 .rename_i Nz0 he;obtain⟨u,hu,us,hru,h2⟩:=h.env _ _ he;subst hru;cases hj:Nat.blt (t/4294967296-1) Nz0.length with
  | false=>simp[hj]at hs
  | true =>
   simp only[hj,cond_true,sE0]at hs;subst hs;rw[hu]at hv;refine h.see hu (v:=.agg (Nz0.set (t/4294967296-1) ac)) ⟨us,rfl,qzD h2 (by simpa using hv) hr⟩ ?_;intro q hq;simp only[SV.ids,List.mem_flatMap]at hq;obtain⟨y,hy,hq⟩:=hq;rcases wzn hy with e'|hy
   .subst e';exact hi q hq
   .exact h.uenv _ _ he q (by simp only[SV.ids,List.mem_flatMap];exact⟨y,hy,hq⟩)
 .cases hs
theorem SimAt.more (h:SimAt P tb N W a0 g0 w0 D0 s g μ τ a w)(f:Nat->Bool):SimAt P tb N W a0 g0 w0 D0 {s with used:=fun i=>f i||s.used i} g μ τ a w:=by
 have hm:∀i,s.used i=true->(f i||s.used i)=true:=fun i hi=>by simp[hi]
 exact⟨h.ext,h.size,h.defers,h.frame,h.env,h.blk,h.itr,fun i hi=>⟨hm i (h.live i hi).1,(h.live i hi).2⟩,h.inj,fun t ht=>⟨hm t (h.tokv t ht).1,(h.tokv t ht).2⟩,h.tinj,h.excl,fun i hi=>hm i (h.rou i hi),fun t v hv i hi=>hm i (h.uenv t v hv i hi),fun i cs hc y hy j hj=>hm j (h.ublk i cs hc y hy j hj),fun i o e xs hi=>(h.arr i o e xs hi).imp id fun q=>q.imp (hm i) id,h.inv0⟩
theorem Begun.empty (hinv:tb.inv g w)(hN:a.tmps.size=N):Begun P tb N W D0 [] [] (St.empty:St tb.T) g μ τ a w:=by
 refine⟨⟨Ext.refl _ _ _,hN,izg.refl _ _ _ _,fun _ _=>rfl,?_,?_,?_,?_,?_,?_,?_,?_,?_,?_,?_,?_,hinv⟩,?_,?_,?_,?_,?_,?_⟩<;>simp[St.empty,azn]
theorem fzM {b:Option Nat}{bs:List (Option Nat)}{k:Nat}(hk:k∈azl bs):k∈azl (b::bs):=by
 unfold azl at *;rw[List.filterMap_cons];cases b with
 | none=>exact hk
 | some k'=>exact List.mem_cons_of_mem _ hk
theorem rzi {b:Option Nat}{bs:List (Option Nat)}{k:Nat}(hk:b=some k):k∈azl (b::bs):=by
 subst hk;simp[azl]
theorem Begun.wk {t:Nat}{p:Pat}{l:aze}{bs:List (Option Nat)}{b:Option Nat}(h:Begun P tb N W D0 l bs s g μ τ a w):Begun P tb N W D0 ((t,p)::l) (b::bs) s g μ τ a w :=
 have m:∀{i},i∈l.map (·.1)->i∈((t,p)::l).map (·.1):=fun h=>by rw[List.map_cons];exact List.mem_cons_of_mem _ h
 ⟨h.sim,fun i hi=>(h.slots i hi).imp m id,fun i hi=>m (h.free i hi),fun i hi=>m (h.freet i hi),fun i hi=>m (h.freer i hi),fun u k hu hk=>fzM (h.toks u k hu hk),fun i hi=>fzM (h.lives i hi)⟩
theorem Begun.see {l:aze}{bs:List (Option Nat)}(h:Begun P tb N W D0 l bs s g μ τ a w){t:Nat}{v:SV tb.T}{u:Value}(hu:a.tmps[t]?=some u)(hr:RepV P tb g w μ τ s.tok v u)(hi:∀i∈v.ids,s.used i=true):
 Begun P tb N W D0 l bs (s.put t v) g μ τ a w:=⟨h.sim.see hu hr hi,h.slots,h.free,h.freet,h.freer,h.toks,h.lives⟩
theorem Begun.tokG {t:Nat}{p:Pat}{l:aze}{bs:List (Option Nat)}{b:Option Nat}{A:Nat->Option (Ar tb.T)}{r:Bool}
 (h:Begun P tb N W D0 l bs s g μ τ a w) (hun:s.used t=false) (hnew:∀k,b=some k->(∃n,g k = .ar n)/\k<w.heap.size) (hb:∀k,b=some k->k ∉ azl bs) (hτ:τ t=b) (hD:r=true->∀k,b=some k->D0 k)
 (hA:∀i,i≠t->A i=s.arr i) (hAt:∀o e xs,A t=some (.mk o e xs)->r=false/\fzB P tb g w b e xs/\(o=true->μ t=xs.length/\∀k,b=some k->D0 k)) :
 Begun P tb N W D0 ((t,p)::l) (b::bs) {s with arr:=A,tok:=bif r then upd s.tok t true else s.tok,used:=upd s.used t true} g μ τ a w:=by
 obtain⟨hs,h1,h4,h5,h6,h2,h3⟩:=h;have husmono:∀i,s.used i=true->upd s.used t true i=true:=fun i hi=>by rw[azu];split<;>simp_all
 have hne:∀i,s.used i=true->i≠t:=fun i hi e=>by subst e;rw[hi]at hun;cases hun
 have m:∀{i},i∈l.map (·.1)->i∈((t,p)::l).map (·.1):=fun h=>by rw[List.map_cons];exact List.mem_cons_of_mem _ h
 have htok:∀u,u≠t->(bif r then upd s.tok t true else s.tok) u=s.tok u:=fun u hu=>by
  cases r
  .rfl
  .exact azo _ _ hu
 have hold:∀u,u≠t->((bif r then upd s.tok t true else s.tok) u=true\/A u≠none)->s.tok u=true\/s.arr u≠none:=fun u hu c=>by rwa[htok u hu,hA u hu]at c
 have carry:Carry g w μ τ s.tok g w μ τ (bif r then upd s.tok t true else s.tok) (fun i=>s.used i=true):=⟨Keeps.refl _ _,fun _ _=>⟨rfl,rfl⟩,fun i hi ht=>by rw[htok i (hne i hi)]at ht;exact ht,fun _ _ _ _ _=>⟨rfl,rfl⟩⟩;refine⟨⟨hs.ext,hs.size,hs.defers,hs.frame,?_,?_,hs.itr,?_,hs.inj,?_,?_,hs.excl,fun i hi=>husmono i (hs.rou i hi),fun t v hv i hi=>husmono i (hs.uenv t v hv i hi),fun i cs hc y hy j hj=>husmono j (hs.ublk i cs hc y hy j hj),?_,hs.inv0⟩,?_,fun i hi=>m (h4 i hi),?_,fun i hi=>m (h6 i hi),?_,fun i hi=>fzM (h3 i hi)⟩
 .intro t' v' hv';obtain⟨u,hu,hru⟩:=hs.env t' v' hv';exact⟨u,hu,RepV.carry carry (fun i hi=>hs.uenv t' v' hv' i hi) hru⟩
 .intro i cs hc;obtain⟨us,el,fz,e1,e2,e3⟩:=hs.blk i cs hc;exact⟨us,el,fz,e1,e2,e3.mono fun y hy u hu=>RepC.carry carry (fun j hj=>hs.ublk i cs hc y hy j hj) hu⟩
 .intro i hi;obtain⟨k1,k2⟩:=hs.live i hi;exact⟨husmono i k1,k2⟩
 .intro u hu;have hu:(bif r then upd s.tok t true else s.tok) u=true:=hu;by_cases e':u=t
  .subst e';refine⟨azh _ _ _,fun b' hb'=>?_⟩;rw[hτ]at hb';have hr:r=true:=by
    cases r
    .have:=(hs.tokv u hu).1;rw[this]at hun;cases hun
    .rfl
   exact⟨(hnew b' hb').1,(hnew b' hb').2,.inr (hD hr b' hb')⟩
  .rw[htok u e']at hu;obtain⟨k1,k2⟩:=hs.tokv u hu;exact⟨husmono u k1,k2⟩
 .intro u u' b' hu hu' e1 e2;have hu:(bif r then upd s.tok t true else s.tok) u=true:=hu;have hu':(bif r then upd s.tok t true else s.tok) u'=true:=hu';by_cases c1:u=t
  .by_cases c2:u'=t
   .rw[c1,c2]
   .subst c1;exact absurd (h2 u' b' (hold u' c2 (.inl hu')) e2) (hb b' (hτ.symm.trans e1))
  .by_cases c2:u'=t
   .subst c2;exact absurd (h2 u b' (hold u c1 (.inl hu)) e1) (hb b' (hτ.symm.trans e2))
   .rw[htok u c1]at hu;rw[htok u' c2]at hu';exact hs.tinj u u' b' hu hu' e1 e2
 .intro i o e xs hi;have hi:A i=some (.mk o e xs):=hi;by_cases c1:i=t
  .subst c1;obtain⟨k0,k1,k2⟩:=hAt o e xs hi;refine⟨by rw[hτ];exact k1,azh _ _ _,fun ho=>⟨(k2 ho).1,fun k hk=>.inr ((k2 ho).2 k (hτ.symm.trans hk))⟩,fun u b' e1 e2=>?_⟩;have hx:u≠i->¬(s.tok u=true\/s.arr u≠none):=fun c2 hu=>absurd (h2 u b' hu e1) (hb b' (hτ.symm.trans e2))
   refine⟨fun hu=>?_,fun hu=>Classical.byContradiction fun c2=>hx c2 (hold u c2 (.inr hu))⟩;have hu:(bif r then upd s.tok i true else s.tok) u=true:=hu;rw[k0]at hu;have hu:s.tok u=true:=hu;by_cases c2:u=i
   .subst c2;have:=(hs.tokv u hu).1;rw[this]at hun;cases hun
   .exact hx c2 (.inl hu)
  .have hi:s.arr i=some (.mk o e xs):=by rw[<-hA i c1];exact hi
   obtain⟨k1,k2,k3,k4⟩:=hs.arr i o e xs hi;refine⟨k1,husmono i k2,k3,fun u b' e1 e2=>?_⟩;by_cases c2:u=t
   .subst c2;exact absurd (h2 i b' (.inr (by simp_all)) e2) (hb b' (hτ.symm.trans e1))
   .refine⟨fun hu=>?_,fun hu=>?_⟩
    .have hu:(bif r then upd s.tok t true else s.tok) u=true:=hu;rw[htok u c2]at hu;exact(k4 u b' e1 e2).1 hu
    .have hu:A u≠none:=hu;rw[hA u c2]at hu;exact(k4 u b' e1 e2).2 hu
 .intro i hi;have hi:upd s.used t true i=true:=hi;rw[azu]at hi;by_cases e:i=t
  .subst e;exact .inl (by simp)
  .simp only[e,if_false]at hi;exact(h1 i hi).imp m id
 .intro i hi;by_cases e:i=t
  .subst e;simp
  .exact m (h5 i (hold i e hi))
 .intro u k hu hk;by_cases c1:u=t
  .subst c1;exact rzi (hτ.symm.trans hk)
  .exact fzM (h2 u k (hold u c1 hu) hk)
theorem MzX (h:SimAt P tb N W a0 g0 w0 D0 s g μ τ a w){t:Nat}(hun:s.used t=false):s.arr t=none:=by
 cases ha:s.arr t with
 | none=>rfl
 | some z=>obtain⟨o,e,xs⟩:=z;have:=(h.arr t o e xs ha).2.1;rw[hun]at this;cases this
theorem Begun.own {t e:Nat}{p:Pat}{l:aze}{bs:List (Option Nat)}{b:Option Nat}{x:List (tb.T e)}{v:Value}
 (h:Begun P tb N W D0 l bs s g μ τ a w) (hun:s.used t=false) (hp:RepD P tb g w (.sl e x) v/\Bzm P g w b e x.length v) (hb:∀k,b=some k->k ∉ azl bs) (hτ:τ t=b) (hD:∀k,b=some k->D0 k) :
 Begun P tb N W D0 ((t,p)::l) (b::bs) {s with tok:=upd s.tok t true,used:=upd s.used t true} g μ τ a w/\RepC P tb g w μ τ (upd s.tok t true) (.own e x t) v:=by
 refine⟨h.tokG (A:=s.arr) (r:=true) hun (fun k hk=>?_) hb hτ (fun _=>hD) (fun _ _=>rfl) (fun o e xs ha=>by rw[MzX h.sim hun]at ha;cases ha),hp.1,fun _=>by rw[hτ];exact hp.2⟩;rcases hp.2 with⟨_,e2,_⟩|⟨k',off,cap,cells,el,fz,e1,e2,e3,e4,_⟩
 .rw[e2]at hk;cases hk
 .rw[e1]at hk;injection hk with hk;subst hk;exact⟨⟨_,e3⟩,(Array.getElem?_eq_some_iff.1 e4).1⟩
theorem ar_new {b:Option Nat}{e:Nat}{xs:List (tb.T e)}(h:fzB P tb g w b e xs):∀k,b=some k->(∃n,g k = .ar n)/\k<w.heap.size:=fun k hk=>by
 subst hk;exact⟨⟨0,h.at.1⟩,h.at.2⟩
theorem vsl_rep {e t:Nat}{n:Nat}{b:Option Nat}{v:Value}{tok:Nat->Bool}(h:fzh P w b e n v)(hτ:τ t=b)(hμ:∀o n c,v = .slice o n c->μ t=n):RepC P tb g w μ τ tok (.vsl e t) v:=by
 show fzh P w (τ t) e (μ t) v
 have:μ t=n:=by
  rcases h with⟨_,h2,h3⟩|⟨_,_,_,_,_,h2,_⟩
  .rw[h2];exact hμ _ _ _ h3
  .exact hμ _ _ _ h2
 rw[hτ,this];exact h
theorem Begun.arr {t e:Nat}{p:Pat}{l:aze}{bs:List (Option Nat)}{b:Option Nat}{x:List (tb.T e)}{o:Bool}
 (h:Begun P tb N W D0 l bs s g μ τ a w) (hun:s.used t=false) (hp:fzB P tb g w b e x) (hb:∀k,b=some k->k ∉ azl bs) (hτ:τ t=b) (ho:o=true->μ t=x.length/\∀k,b=some k->D0 k) :
 Begun P tb N W D0 ((t,p)::l) (b::bs) {s with arr:=upd s.arr t (some (.mk o e x)),used:=upd s.used t true} g μ τ a w:=by
 refine h.tokG (A:=upd s.arr t (some (.mk o e x))) (r:=false) hun (ar_new hp) hb hτ (fun c=>by cases c) (fun i hi=>azo _ _ hi) (fun o' e' xs ha=>?_);rw[azh]at ha;injection ha with ha;injection ha with h1 h2 h3;subst h1;subst h2;have h3:=eq_of_heq h3;subst h3;exact⟨rfl,hp,ho⟩
theorem vsl_len {b:Option Nat}{e n m:Nat}{v:Value}(h:fzh P w b e n v)(hμ:∀o k c,v = .slice o k c->m=k):m=n:=by
 rcases h with⟨_,h2,h3⟩|⟨_,_,_,_,_,h2,_⟩
 .rw[h2];exact hμ _ _ _ h3
 .exact hμ _ _ _ h2
theorem Begun.block {t e k:Nat}{p:Pat}{l:aze}{bs:List (Option Nat)}{b:Option Nat}{x:tb.T e}{r:Bool}
 (h:Begun P tb N W D0 l bs s g μ τ a w) (ht:t ∉ l.map (·.1)) (hbk:b=some k) (hp:tzj P tb g w e x k) (hb:∀k,b=some k->k ∉ azl bs) (hk:μ t=k) (hD:r=true\/D0 k) :
 Begun P tb N W D0 ((t,p)::l) (b::bs) {s with blk:=upd s.blk t (some ((tb.enc e x).map .d)),used:=upd s.used t true,ro:=bif r then upd s.ro t true else s.ro} g μ τ a w:=by
 obtain⟨hs,h1,h4,h5,h6,h2,h3⟩:=h;obtain⟨k1,k2,us,el,fz,k3,k4,k5⟩:=hp;have hnl:¬azn s t:=fun hl=>ht (h4 t hl)
 have husmono:∀i,s.used i=true->upd s.used t true i=true:=fun i hi=>by rw[azu];split<;>simp_all
 have m:∀{i},i∈l.map (·.1)->i∈((t,p)::l).map (·.1):=fun h=>by rw[List.map_cons];exact List.mem_cons_of_mem _ h
 have hlive:∀i,azn {s with blk:=upd s.blk t (some ((tb.enc e x).map .d)),used:=upd s.used t true,ro:=bif r then upd s.ro t true else s.ro} i->i=t\/azn s i:=fun i hi=>by
  by_cases e':i=t
  .exact .inl e'
  .right;simpa[azn,azu,e']using hi
 have hro:∀i,s.ro i=true->(bif r then upd s.ro t true else s.ro) i=true:=fun i hi=>by
  cases r
  .exact hi
  .simp only[cond_true,azu];split<;>simp_all
 refine⟨⟨hs.ext,hs.size,hs.defers,hs.frame,hs.env,?_,hs.itr,?_,?_,fun u hu=>⟨husmono u (hs.tokv u hu).1,(hs.tokv u hu).2⟩,hs.tinj,?_,?_,fun t v hv i hi=>husmono i (hs.uenv t v hv i hi),?_,fun i o e xs hi=>(hs.arr i o e xs hi).imp id fun q=>q.imp (husmono i) id,hs.inv0⟩,?_,?_,fun i hi=>m (h5 i hi),?_,fun u k' hu hk'=>fzM (h2 u k' hu hk'),?_⟩
 .intro i cs hc;simp only[azu]at hc;by_cases e':i=t
  .subst e';simp at hc;subst hc;rw[hk];exact⟨us,el,fz,k3,k4,pzt k5⟩
  .simp only[e',if_false]at hc;exact hs.blk i cs hc
 .intro i hi;rcases hlive i hi with e'|hl
  .subst e';refine⟨azh _ _ _,by rw[hk];exact k2,by rw[hk];exact k1,?_⟩;rcases hD with hr|hd
   .left;simp[hr,azh]
   .right;right;rw[hk];exact hd
  .obtain⟨q1,q2,q3,q4⟩:=hs.live i hl;exact⟨husmono i q1,q2,q3,q4.imp (hro i) id⟩
 .intro i j hi hj e';rcases hlive i hi with c1|c1<;>rcases hlive j hj with c2|c2
  .rw[c1,c2]
  .subst c1;rw[hk]at e';exact absurd (e'▸h3 j c2) (hb k hbk)
  .subst c2;rw[hk]at e';exact absurd (e'▸h3 i c1) (hb k hbk)
  .exact hs.inj i j c1 c2 e'
 .intro i hi;have hi':s.itr i≠none:=hi;have e':i≠t:=fun e'=>by subst e';exact hnl (.inr hi')
  obtain⟨q1,q2⟩:=hs.excl i hi';refine⟨by simp only[azu,e',if_false];exact q1,?_⟩;cases r
  .exact q2
  .simp only[cond_true,azu,e',if_false];exact q2
 .intro i hi;cases r
  .exact husmono i (hs.rou i hi)
  .simp only[cond_true,azu]at hi ⊢;by_cases e':i=t
   .simp[e']
   .simp only[e',if_false]at hi ⊢;exact hs.rou i hi
 .intro i cs hc y hy j hj;simp only[azu]at hc;by_cases e':i=t
  .subst e';simp at hc;subst hc;simp only[List.mem_map]at hy;obtain⟨_,_,rfl⟩:=hy;simp[AC.ids]at hj
  .simp only[e',if_false]at hc;exact husmono j (hs.ublk i cs hc y hy j hj)
 .intro i hi;have hi:upd s.used t true i=true:=hi;rw[azu]at hi;by_cases e':i=t
  .subst e';exact .inl (by simp)
  .simp only[e',if_false]at hi;exact(h1 i hi).imp m id
 .intro i hi;rcases hlive i hi with e'|hl
  .subst e';simp
  .exact m (h4 i hl)
 .intro i hi;by_cases e':i=t
  .subst e';simp
  .refine m (h6 i ?_);cases r
   .exact hi
   .simpa[azu,e']using hi
 .intro i hi;rcases hlive i hi with c1|c1
  .subst c1;rw[hk];exact rzi hbk
  .exact fzM (h3 i c1)
theorem Begun.itr {t k:Nat}{p:Pat}{l:aze}{bs:List (Option Nat)}{b:Option Nat}{o:Ob tb.T}
 (h:Begun P tb N W D0 l bs s g μ τ a w) (ht:t ∉ l.map (·.1)) (hbk:b=some k) (hp:k<w.heap.size/\g k = .var/\ObAt P tb g w k o) (hb:∀k,b=some k->k ∉ azl bs) (hk:μ t=k) (hD:D0 k) :
 Begun P tb N W D0 ((t,p)::l) (b::bs) {s with itr:=upd s.itr t (some o),used:=upd s.used t true} g μ τ a w:=by
 obtain⟨hs,h1,h4,h5,h6,h2,h3⟩:=h;obtain⟨k1,k2,k3⟩:=hp;have hnl:¬azn s t:=fun hl=>ht (h4 t hl)
 have husmono:∀i,s.used i=true->upd s.used t true i=true:=fun i hi=>by rw[azu];split<;>simp_all
 have m:∀{i},i∈l.map (·.1)->i∈((t,p)::l).map (·.1):=fun h=>by rw[List.map_cons];exact List.mem_cons_of_mem _ h
 have hro:s.ro t=false:=by
  cases hr:s.ro t with
  | false=>rfl
  | true=>exact absurd (h6 t hr) ht
 have hlive:∀i,azn {s with itr:=upd s.itr t (some o),used:=upd s.used t true} i->i=t\/azn s i:=fun i hi=>by
  by_cases e':i=t
  .exact .inl e'
  .right;simpa[azn,azu,e']using hi
 refine⟨⟨hs.ext,hs.size,hs.defers,hs.frame,hs.env,hs.blk,?_,?_,?_,fun u hu=>⟨husmono u (hs.tokv u hu).1,(hs.tokv u hu).2⟩,hs.tinj,?_,fun i hi=>husmono i (hs.rou i hi),fun t v hv i hi=>husmono i (hs.uenv t v hv i hi),fun i cs hc y hy j hj=>husmono j (hs.ublk i cs hc y hy j hj),fun i o e xs hi=>(hs.arr i o e xs hi).imp id fun q=>q.imp (husmono i) id,hs.inv0⟩,?_,?_,fun i hi=>m (h5 i hi),fun i hi=>m (h6 i hi),fun u k' hu hk'=>fzM (h2 u k' hu hk'),?_⟩
 .intro i o' hc;simp only[azu]at hc;by_cases e':i=t
  .subst e';simp only[if_true]at hc;have hc:=Option.some.inj hc;subst hc;rw[hk];exact k3
  .simp only[e',if_false]at hc;exact hs.itr i o' hc
 .intro i hi;rcases hlive i hi with e'|hl
  .subst e';exact⟨azh _ _ _,by rw[hk];exact k2,by rw[hk];exact k1,.inr (.inr (by rw[hk];exact hD))⟩
  .obtain⟨q1,q2⟩:=hs.live i hl;exact⟨husmono i q1,q2⟩
 .intro i j hi hj e';rcases hlive i hi with c1|c1<;>rcases hlive j hj with c2|c2
  .rw[c1,c2]
  .subst c1;rw[hk]at e';exact absurd (e'▸h3 j c2) (hb k hbk)
  .subst c2;rw[hk]at e';exact absurd (e'▸h3 i c1) (hb k hbk)
  .exact hs.inj i j c1 c2 e'
 .intro i hi;simp only[azu]at hi;by_cases e':i=t
  .subst e';refine⟨?_,hro⟩;cases hbk':s.blk i with
   | none=>rfl
   | some cs=>exact absurd (.inl (by rw[hbk'];simp)) hnl
  .simp only[e',if_false]at hi;exact hs.excl i hi
 .intro i hi;have hi:upd s.used t true i=true:=hi;rw[azu]at hi;by_cases e':i=t
  .subst e';exact .inl (by simp)
  .simp only[e',if_false]at hi;exact(h1 i hi).imp m id
 .intro i hi;rcases hlive i hi with e'|hl
  .subst e';simp
  .exact m (h4 i hl)
 .intro i hi;rcases hlive i hi with c1|c1
  .subst c1;rw[hk];exact rzi hbk
  .exact fzM (h3 i c1)
theorem Kze {t:Nat}{ac:AC tb.T}{get:Nat->Option (SV tb.T)}(hs:setCell s get t ac=some s')(f h:Nat->Bool):s'.tok=s.tok/\s'.used=s.used/\setCell {s with tok:=f,used:=h} get t ac=some {s' with tok:=f,used:=h}:=by
 unfold setCell at hs ⊢;split at hs
 .split at hs
  .rename_i Nz0 hb;cases hj:Nat.blt (t/4294967296-1) Nz0.length with
   | false=>simp[hj]at hs
   | true =>
    simp only[hj,cond_true,sE0]at hs;subst hs;refine⟨rfl,rfl,?_⟩;simp only[hb,hj,cond_true]
  .cases hs
 .rename_i Nz0 he;cases hj:Nat.blt (t/4294967296-1) Nz0.length with
  | false=>simp[hj]at hs
  | true =>
   simp only[hj,cond_true,sE0]at hs;subst hs;exact⟨rfl,rfl,by simp only[cond_true]⟩
 .cases hs
theorem sze {t:Nat}{ac:AC tb.T}{get:Nat->Option (SV tb.T)}(hs:setCell s get t ac=some s'):(∀i,azn s' i->azn s i)/\s'.ro=s.ro:=by
 unfold setCell at hs;split at hs
 .rename_i i he;split at hs
  .rename_i Nz0 hb;cases hj:Nat.blt (t/4294967296-1) Nz0.length with
   | false=>simp[hj]at hs
   | true =>
    simp only[hj,cond_true,sE0]at hs;subst hs;refine⟨fun k hk=>?_,rfl⟩;by_cases e:k=i
    .subst e;exact .inl (by rw[hb];simp)
    .simpa[azn,azu,e]using hk
  .cases hs
 .rename_i Nz0 he;cases hj:Nat.blt (t/4294967296-1) Nz0.length with
  | false=>simp[hj]at hs
  | true =>
   simp only[hj,cond_true,sE0]at hs;subst hs;exact⟨fun _ h=>h,rfl⟩
 .cases hs
theorem mzI {t:Nat}{ac:AC tb.T}{get:Nat->Option (SV tb.T)}(hs:setCell s get t ac=some s')(A:Nat->Option (Ar tb.T))(f h:Nat->Bool):s'.arr=s.arr/\s'.tok=s.tok/\s'.used=s.used/\setCell {s with arr:=A,tok:=f,used:=h} get t ac=some {s' with arr:=A,tok:=f,used:=h}:=by
 unfold setCell at hs ⊢;split at hs
 .split at hs
  .rename_i Nz0 hb;cases hj:Nat.blt (t/4294967296-1) Nz0.length with
   | false=>simp[hj]at hs
   | true =>
    simp only[hj,cond_true,sE0]at hs;subst hs;refine⟨rfl,rfl,rfl,?_⟩;simp only[hb,hj,cond_true]
  .cases hs
 .rename_i Nz0 he;cases hj:Nat.blt (t/4294967296-1) Nz0.length with
  | false=>simp[hj]at hs
  | true =>
   simp only[hj,cond_true,sE0]at hs;subst hs;exact⟨rfl,rfl,rfl,rfl⟩
 .cases hs
theorem MzO {t:Nat}{ac:AC tb.T}{get:Nat->Option (SV tb.T)}(hs:setCell s get t ac=some s'):s'.tok=s.tok/\s'.used=s.used:=by
 obtain⟨h1,h2,_⟩:=Kze hs s.tok s.used;exact⟨h1,h2⟩
theorem Begun.box {t n k:Nat}{p:Pat}{l:aze}{bs:List (Option Nat)}{b:Option Nat}
 (h:Begun P tb N W D0 l bs s g μ τ a w) (ht:t ∉ l.map (·.1)) (hbk:b=some k) (hp:k<w.heap.size/\g k = .var/\Bzk w n k)
 (hb:∀k,b=some k->k ∉ azl bs) (hk:μ t=k) (hD:D0 k) :
 Begun P tb N W D0 ((t,p)::l) (b::bs) {s with blk:=upd s.blk t (some (pzz t n)),used:=upd s.used t true} g μ τ a w:=by
 obtain⟨hs,h1,h4,h5,h6,h2,h3⟩:=h;obtain⟨k1,k2,k3⟩:=hp;have hnl:¬azn s t:=fun hl=>ht (h4 t hl)
 have husmono:∀i,s.used i=true->upd s.used t true i=true:=fun i hi=>by rw[azu];split<;>simp_all
 have m:∀{i},i∈l.map (·.1)->i∈((t,p)::l).map (·.1):=fun h=>by rw[List.map_cons];exact List.mem_cons_of_mem _ h
 have hlive:∀i,azn {s with blk:=upd s.blk t (some (pzz t n)),used:=upd s.used t true} i->i=t\/azn s i:=fun i hi=>by
  by_cases e':i=t
  .exact .inl e'
  .right;simpa[azn,azu,e']using hi
 refine⟨⟨hs.ext,hs.size,hs.defers,hs.frame,hs.env,?_,hs.itr,?_,?_,fun u hu=>⟨husmono u (hs.tokv u hu).1,(hs.tokv u hu).2⟩,hs.tinj,?_,fun i hi=>husmono i (hs.rou i hi),fun t v hv i hi=>husmono i (hs.uenv t v hv i hi),?_,fun i o e xs hi=>(hs.arr i o e xs hi).imp id fun q=>q.imp (husmono i) id,hs.inv0⟩,?_,?_,fun i hi=>m (h5 i hi),fun i hi=>m (h6 i hi),fun u k' hu hk'=>fzM (h2 u k' hu hk'),?_⟩
 .intro i cs hc;simp only[azu]at hc;by_cases e':i=t
  .subst e';simp at hc;subst hc;exact Bzk.rep (by rw[hk];exact k3)
  .simp only[e',if_false]at hc;exact hs.blk i cs hc
 .intro i hi;rcases hlive i hi with e'|hl
  .subst e';exact⟨azh _ _ _,by rw[hk];exact k2,by rw[hk];exact k1,.inr (.inr (by rw[hk];exact hD))⟩
  .obtain⟨q1,q2⟩:=hs.live i hl;exact⟨husmono i q1,q2⟩
 .intro i j hi hj e';rcases hlive i hi with c1|c1<;>rcases hlive j hj with c2|c2
  .rw[c1,c2]
  .subst c1;rw[hk]at e';exact absurd (e'▸h3 j c2) (hb k hbk)
  .subst c2;rw[hk]at e';exact absurd (e'▸h3 i c1) (hb k hbk)
  .exact hs.inj i j c1 c2 e'
 .intro i hi;have hi':s.itr i≠none:=hi;have e':i≠t:=fun e'=>by subst e';exact hnl (.inr hi')
  obtain⟨q1,q2⟩:=hs.excl i hi';exact⟨by simp only[azu,e',if_false];exact q1,q2⟩
 .intro i cs hc y hy j hj;simp only[azu]at hc;by_cases e':i=t
  .subst e';simp at hc;subst hc;rw[Iz1 y hy j hj];exact azh _ _ _
  .simp only[e',if_false]at hc;exact husmono j (hs.ublk i cs hc y hy j hj)
 .intro i hi;have hi:upd s.used t true i=true:=hi;rw[azu]at hi;by_cases e':i=t
  .subst e';exact .inl (by simp)
  .simp only[e',if_false]at hi;exact(h1 i hi).imp m id
 .intro i hi;rcases hlive i hi with e'|hl
  .subst e';simp
  .exact m (h4 i hl)
 .intro i hi;rcases hlive i hi with c1|c1
  .subst c1;rw[hk];exact rzi hbk
  .exact fzM (h3 i c1)
theorem Begun.cons {t : Nat} {p : Pat} {l : aze} {bs : List (Option Nat)} {b : Option Nat} {x : X tb p} {v : Value}
    (h:Begun P tb N W D0 l bs s g μ τ a w) (hv:vval w (fun i=>a.tmps[i]?) t=some v) (hp:hzR P tb g w p x v b) (ht:t ∉ l.map (·.1)) (hb:∀k,b=some k->k ∉ azl bs)
    (hf:FitP μ τ (t,p) v b) (hD:∀k,b=some k->p.still=true\/D0 k) :
    Begun P tb N W D0 ((t,p)::l) (b::bs) (putA P tb s t p x) g μ τ a w:=by
  obtain⟨f1,f2,f4,f3⟩:=hf
  have hD:∀k,b=some k->p.still=false->D0 k:=fun k hk hp=>(hD k hk).resolve_left (by rw[hp];simp)
  cases hr:ezu t with
  | true =>
    have ht':=izd.1 hr
    rw[fzA ht']at hv
    have hun:s.used t=false:=by
      cases hu:s.used t with
      | false=>rfl
      | true => rcases h.slots t hu with c | c
                . exact absurd c ht
                . omega
    simp only[putA,hr,cond_true]
    cases p with
    | val e =>
      obtain⟨hp,rfl⟩:=hp
      obtain⟨r1,r2⟩:=rzC (μ:=μ) (τ:=τ) (tok:=s.tok) hp
      exact(h.wk).see hv r1 (by rw[r2];simp)
    | own e =>
      obtain⟨k1,k2⟩:=h.own (p:=.own e) hun hp hb (f2 rfl) (fun k hk=>hD k hk rfl)
      exact k1.see hv (v:=.c (.own e x t)) k2 (by simp[SV.ids,AC.ids,azh])
    | ref e =>
      obtain⟨k,hbk,rfl,hp⟩:=hp
      have:=h.block (p:=.ref e) (r:=false) ht hbk hp hb (f1 rfl k hbk) (.inr (hD k hbk rfl))
      exact this.see hv (v:=.c (.ptr t 0)) (by simp[RepV,RepC,f1 rfl k hbk]) (by simp[SV.ids,AC.ids,azh])
    | ro e =>
      obtain⟨k,hbk,rfl,hp⟩:=hp
      have:=h.block (p:=.ro e) (r:=true) ht hbk hp hb (f1 rfl k hbk) (.inl rfl)
      exact this.see hv (v:=.c (.ptr t 0)) (by simp[RepV,RepC,f1 rfl k hbk]) (by simp[SV.ids,AC.ids,azh])
    | iter =>
      obtain⟨k,hbk,rfl,hp⟩:=hp
      obtain⟨k1,k2,k3⟩:=hp
      have:=h.itr (p:=.iter) (o:=.it x.1 x.2) ht hbk ⟨k1,k2,k3⟩ hb (f1 rfl k hbk) (hD k hbk rfl)
      exact this.see hv (v:=.c (.ptr t 0)) (by simp[RepV,RepC,f1 rfl k hbk]) (by simp[SV.ids,AC.ids,azh])
    | mp kt vt =>
      obtain⟨k,hbk,rfl,hp⟩:=hp
      obtain⟨k1,k2,k3⟩:=hp
      have:=h.itr (p:=.mp kt vt) (o:=.mp kt vt x) ht hbk ⟨k1,k2,k3⟩ hb (f1 rfl k hbk) (hD k hbk rfl)
      exact this.see hv (v:=.c (.map t)) (by simp[RepV,RepC,f1 rfl k hbk]) (by simp[SV.ids,AC.ids,azh])
    | wr e =>
      have:=h.arr (p:=.wr e) (o:=true) hun hp.2 hb (f2 rfl) (fun _=>⟨vsl_len hp.1 (f4 e rfl),fun k hk=>hD k hk rfl⟩)
      exact this.see hv (v:=.c (.vsl e t)) (vsl_rep (tb:=tb) (g:=g) (tok:=s.tok) hp.1 (f2 rfl) (f4 e rfl)) (by simp[SV.ids,AC.ids,azh])
    | vw e =>
      have:=h.arr (p:=.vw e) (o:=false) hun hp.1 hb (f2 rfl) (fun c=>by cases c)
      refine this.see hv (v:=.c (.vw e t x.2.1 x.2.2)) ?_ (by simp[SV.ids,AC.ids,azh])
      have e1:τ t=b:=f2 rfl
      simp only[RepV,RepC]
      rw[e1];exact hp.2
    | box n =>
      obtain⟨k,hbk,rfl,hp⟩:=hp
      have:=h.box (p:=.box n) ht hbk hp hb (f1 rfl k hbk) (hD k hbk rfl)
      exact this.see hv (v:=.c (.ptr t 0)) (by simp[RepV,RepC,f1 rfl k hbk]) (by simp[SV.ids,AC.ids,azh])
    | fnp f n =>
      have e1:=f3 f n rfl hr
      have hw:=h.wk (t:=t) (p:=.fnp f n) (b:=b)
      have:Begun P tb N W D0 ((t,.fnp f n)::l) (b::bs) {s with used:=fun i=>memB i (behind t n)||s.used i} g μ τ a w:=by
        refine⟨hw.sim.more _,fun i hi=>?_,hw.free,hw.freet,hw.freer,hw.toks,hw.lives⟩
        have hi:(memB i (behind t n)||s.used i)=true:=hi
        simp only[Bool.or_eq_true]at hi
        rcases hi with hi|hi
        . have hm:i∈behind t n:=dzX.1 hi
          simp only[behind,List.mem_map]at hm
          obtain⟨j,_,rfl⟩:=hm
          exact .inr (by omega)
        . exact hw.slots i hi
      refine this.see hv (v:=.c (.fn f ((behind t n).map fun i=>(i,0)))) ?_ ?_
      . simp only[RepV,RepC,List.map_map]
        exact e1
      . intro i hi
        simp only[SV.ids,AC.ids,List.map_map,List.mem_map]at hi
        obtain⟨j,hj,rfl⟩:=hi
        simp[dzX.2 hj]
  | false =>
    have ht':=lzR.1 hr
    simp only[putA,hr,cond_false]
    cases p with
    | val e =>
      show Begun P tb N W D0 ((t,Pat.val e)::l) (b::bs) (bif bzw P e then s else(match tb.enc e x with
        | [c]=>(match setCell s s.env t (.d c)with|some s'=>s'|none=>s)
        | _=>s)) g μ τ a w
      obtain⟨hp,rfl⟩:=hp
      unfold czf at hp
      cases ha:bzw P e with
      | true=>exact h.wk
      | false =>
        simp only[ha,Bool.false_eq_true,if_false,cond_false]at hp ⊢
        obtain⟨c,hc,hd⟩:=hp
        simp only[hc]
        split
        . rename_i s' hs'
          obtain⟨c1,c2⟩:=MzO hs'
          obtain⟨c4,c5⟩:=sze hs'
          have hw:=h.wk (t:=t) (p:=.val e) (b:=none)
          obtain⟨c6,_⟩:=mzI hs' s.arr s.tok s.used
          exact⟨hw.sim.setCell hs' ht' hv hd (by simp[AC.ids]),fun i hi=>hw.slots i (by rw[<-c2];exact hi),fun i hi=>hw.free i (c4 i hi),fun i hi=>hw.freet i (by rw[<-c1,<-c6];exact hi),fun i hi=>hw.freer i (by rw[<-c5];exact hi),fun u k hu hk=>hw.toks u k (by rw[<-c1,<-c6];exact hu) hk,fun i hi=>hw.lives i (c4 i hi)⟩
        . exact h.wk
    | fnp f n=>exact h.wk
    | mp kt vt=>exact h.wk
    | box n=>exact h.wk
    | vw e=>exact h.wk
    | wr e =>
      show Begun P tb N W D0 ((t,Pat.wr e)::l) (b::bs) (bif s.used t then s else(match setCell s s.env t (.vsl e t)with
        | some s'=>{s' with arr:=upd s'.arr t (some (.mk true e x)),used:=upd s'.used t true}
        | none=>s)) g μ τ a w
      cases hun:s.used t with
      | true=>exact h.wk
      | false =>
        simp only[cond_false]
        split
        . rename_i s' hs'
          obtain⟨c1,c2,c0,c3⟩:=mzI hs' (upd s.arr t (some (.mk true e x))) s.tok (upd s.used t true)
          have hb1:=h.arr (p:=.wr e) (o:=true) hun hp.2 hb (f2 rfl) (fun _=>⟨vsl_len hp.1 (f4 e rfl),fun k hk=>hD k hk rfl⟩)
          obtain⟨c4,c5⟩:=sze c3
          rw[c1,c0]
          have hsim:=hb1.sim.setCell c3 ht' hv (vsl_rep (tok:=s.tok) hp.1 (f2 rfl) (f4 e rfl)) (by simp[AC.ids,azh])
          rw[<-c2]at hsim
          exact⟨hsim,hb1.slots,fun i hi=>hb1.free i (c4 i hi),fun i hi=>hb1.freet i (by rwa[<-c2]),fun i hi=>hb1.freer i (by
            have hi:s'.ro i=true:=hi
            have c5':s'.ro=s.ro:=c5
            rw[c5']at hi;exact hi),fun u k hu hk=>hb1.toks u k (by rwa[<-c2]) hk,fun i hi=>hb1.lives i (c4 i hi)⟩
        . exact h.wk
    | own e =>
      show Begun P tb N W D0 ((t,Pat.own e)::l) (b::bs) (bif s.used t then s else(match setCell s s.env t (.own e x t)with
        | some s'=>{s' with tok:=upd s'.tok t true,used:=upd s'.used t true}
        | none=>s)) g μ τ a w
      cases hun:s.used t with
      | true=>exact h.wk
      | false =>
        simp only[cond_false]
        split
        . rename_i s' hs'
          obtain⟨c0,c1,c2,c3⟩:=mzI hs' s.arr (upd s.tok t true) (upd s.used t true)
          obtain⟨c4,c5⟩:=sze hs'
          obtain⟨k1,k2⟩:=h.own (p:=.own e) hun hp hb (f2 rfl) (fun k hk=>hD k hk rfl)
          rw[c1,c2]
          have hsim:=k1.sim.setCell c3 ht' hv k2 (by simp[AC.ids,azh])
          rw[<-c0]at hsim k1
          refine⟨hsim,k1.slots,fun i hi=>k1.free i (c4 i hi),k1.freet,fun i hi=>k1.freer i ?_,k1.toks,fun i hi=>k1.lives i (c4 i hi)⟩
          have hi:s'.ro i=true:=hi
          rw[c5]at hi;exact hi
        . exact h.wk
    | ref e =>
      obtain⟨k,hbk,rfl,hp⟩:=hp
      exact h.block (p:=.ref e) (r:=false) ht hbk hp hb (f1 rfl k hbk) (.inr (hD k hbk rfl))
    | ro e =>
      obtain⟨k,hbk,rfl,hp⟩:=hp
      exact h.block (p:=.ro e) (r:=true) ht hbk hp hb (f1 rfl k hbk) (.inl rfl)
    | iter =>
      obtain⟨k,hbk,rfl,k1,k2,k3⟩:=hp
      exact h.itr (p:=.iter) (o:=.it x.1 x.2) ht hbk ⟨k1,k2,k3⟩ hb (f1 rfl k hbk) (hD k hbk rfl)
theorem rzk (hinv:tb.inv g w):∀{l:aze} {x:XS tb l} {vs:List Value} {bs:List (Option Nat)},bzd P tb g w l x vs bs->(azl bs).Nodup->(l.map (·.1)).Nodup->fzo a w l vs->Fit μ τ l vs bs->a.tmps.size=N->(∀k∈bzK l bs,D0 k) ->
 Begun P tb N W D0 l bs (lzT P tb l x) g μ τ a w
 | [],_,[],[],_,_,_,_,_,hN,_=>Begun.empty hinv hN
 | [p],x,[v],[b],hl,hn,hs,hi,hf,hN,hD=>by
  refine Begun.cons (Begun.empty hinv hN) hi.1 hl (by simp) (by simp[azl]) hf.1 (fun k hk=>?_);cases hro:p.2.still with
  | true=>exact .inl rfl
  | false =>
   refine .inr (hD k ?_);subst hk;simp only[bzK];split
   .rename_i e he;rw[he]at hro;cases hro
   .rename_i e he;rw[he]at hro;cases hro
   .simp
 | p::q::l,(x,xs),v::vs,b::bs,hl,hn,hs,hi,hf,hN,hD=>by
  have hn':(azl bs).Nodup/\∀k,b=some k->k ∉ azl bs:=by
   unfold azl at *;rw[List.filterMap_cons]at hn;cases b with
   | none=>exact⟨hn,by simp⟩
   | some k =>
    simp only[id_eq]at hn;exact⟨(List.nodup_cons.1 hn).2,fun k' hk'=>by injection hk' with hk';subst hk';exact(List.nodup_cons.1 hn).1⟩
  rw[List.map_cons]at hs;refine Begun.cons (rzk hinv hl.2 hn'.1 (List.nodup_cons.1 hs).2 hi.2 hf.2 hN (fun k hk=>hD k ?_)) hi.1 hl.1 (List.nodup_cons.1 hs).1 hn'.2 hf.1 (fun k hk=>?_)
  .simp only[bzK]at hk ⊢;exact List.mem_append.2 (.inr hk)
  .cases hro:p.2.still with
   | true=>exact .inl rfl
   | false =>
    refine .inr (hD k ?_);subst hk;rw[bzK];refine List.mem_append.2 (.inl ?_);split
    .rename_i e he;rw[he]at hro;cases hro
    .rename_i e he;rw[he]at hro;cases hro
    .simp
end Go.Ev
namespace Go.Ev
open Go
open Go.IntKind (i64 u64 u8 i32 u32 i16 u16)
variable {P:Program} {tb:Tab} {N:Nat} {W:Nat->Prop} {a0:Act} {g0:Gh} {w0:World} {D0:Nat->Prop}
variable {s s':St tb.T} {g g':Gh} {μ μ':Nat->Nat} {τ τ':Nat->Option Nat} {a:Act} {w w':World} {D:Nat->Prop}
def kOfV:Option Value->Option Nat
 | some (.pointer (some ⟨k,_,_⟩))=>some k
 | some (.slice (some ⟨k,_,_⟩) _ _)=>some k
 | some (.map (some k))=>some k
 | _=>none
def nOfV:Option Value->Option Nat
 | some (.slice _ n _)=>some n
 | _=>none
def tauOf (w:World)(base:Nat->Option Value)(i:Nat):Option Nat:=kOfV (vval w base i)
def muOf (w:World)(base:Nat->Option Value)(i:Nat):Nat:=match nOfV (vval w base i)with|some n=>n|none=>(kOfV (vval w base i)).getD 0
theorem fit_one {base:Nat->Option Value}{q:Nat×Pat}{x:X tb q.2}{v:Value}{b:Option Nat}(hv:vval w base q.1=some v)(h:hzR P tb g w q.2 x v b):FitP (muOf w base) (tauOf w base) q v b:=by
 obtain⟨t,p⟩:=q;simp only at hv;have hmu:nOfV (some v)=none->∀k,kOfV (some v)=some k->muOf w base t=k:=fun h1 k h2=>by unfold muOf;rw[hv,h1,h2];rfl
 have hnw:∀{p':Pat},p=p'->(∀e,p'≠.wr e)->∀e,p = .wr e->∀o n c,v = .slice o n c->muOf w base t=n:=fun h1 h2 e h3=>absurd (h1▸h3) (h2 e)
 have hnf:(∀f n,p≠.fnp f n)->∀f n,p = .fnp f n->ezu t=true->v = .func (.func f) #[] ((behind t n).map fun i=>Value.pointer (some ⟨muOf w base i,0,none⟩)).toArray:=fun h1 f n h2=>absurd h2 (h1 f n)
 have htau:tauOf w base t=kOfV (some v):=by unfold tauOf;rw[hv]
 have hptr:∀k,b=some k->v = .pointer (some ⟨k,0,none⟩)->∀k,b=some k->muOf w base t=k:=fun k h1 h2 k' h3=>by
  rw[h1]at h3;injection h3 with h3;subst h3;exact hmu (by rw[h2];rfl) _ (by rw[h2];rfl)
 have htk:Pat.isTok p=false->Pat.isTok p=true->tauOf w base t=b:=fun h1 h2=>by rw[h1]at h2;cases h2
 cases p with
 | val e=>obtain⟨_,rfl⟩:=h;exact⟨fun _ k hk=>(by cases hk),htk rfl,hnw rfl (by simp),hnf (by simp)⟩
 | own e =>
  obtain⟨_,h⟩:=h;rcases h with⟨rfl,rfl,_⟩|⟨k,off,cap,cells,el,fz,rfl,rfl,_⟩
  .exact⟨fun h=>(by cases h),fun _=>htau,hnw rfl (by simp),hnf (by simp)⟩
  .exact⟨fun h=>(by cases h),fun _=>htau,hnw rfl (by simp),hnf (by simp)⟩
 | ref e=>obtain⟨k,h1,h2,_⟩:=h;exact⟨fun _=>hptr k h1 h2,htk rfl,hnw rfl (by simp),hnf (by simp)⟩
 | ro e=>obtain⟨k,h1,h2,_⟩:=h;exact⟨fun _=>hptr k h1 h2,htk rfl,hnw rfl (by simp),hnf (by simp)⟩
 | iter=>obtain⟨k,h1,h2,_⟩:=h;exact⟨fun _=>hptr k h1 h2,htk rfl,hnw rfl (by simp),hnf (by simp)⟩
 | box n=>obtain⟨k,h1,h2,_⟩:=h;exact⟨fun _=>hptr k h1 h2,htk rfl,hnw rfl (by simp),hnf (by simp)⟩
 | mp kt vt=>obtain⟨k,h1,h2,_⟩:=h;exact⟨fun _ k' h3=>(by rw[h1]at h3;injection h3 with h3;subst h3;exact hmu (by rw[h2];rfl) _ (by rw[h2];rfl)),htk rfl,hnw rfl (by simp),hnf (by simp)⟩
 | wr e =>
  refine⟨fun h=>(by cases h),fun _=>?_,fun e _ o n c hs=>?_,hnf (by simp)⟩
  .rcases h.1 with⟨h1,_,rfl⟩|⟨k,cap,us,fz,h1,rfl,_⟩
   .rw[h1];exact htau
   .rw[h1];exact htau
  .unfold muOf;rw[hv,hs];rfl
 | vw e =>
  refine⟨fun h=>(by cases h),fun _=>?_,hnw rfl (by simp),hnf (by simp)⟩;rcases h.2 with⟨_,q,rfl,h1⟩|⟨k,cap,h1,rfl,_⟩
  .rw[<-h1,htau];cases q<;>rfl
  .rw[h1];exact htau
 | fnp f n =>
  obtain⟨rfl,ks,h1,h2⟩:=h;refine⟨fun _ k hk=>(by cases hk),htk rfl,hnw rfl (by simp),fun f' n' (h:_=_) hr=>?_⟩;injection h with e1 e2;subst e1;subst e2;have ht:=izd.1 hr;rw[h2];congr 2;apply List.ext_getElem?;intro j;simp only[List.getElem?_map,behind];rcases Nat.lt_or_ge j ks.length with c|c
  .have c':j<n:=by omega
   have e0:(4294967296*(j+1)+t)%4294967296=t:=by omega
   have e1:(4294967296*(j+1)+t)/4294967296-1=j:=by omega
   have e2:¬(4294967296*(j+1)+t)<4294967296:=by omega
   have hb:base t=some v:=(fzA (w:=w) (base:=base) (v:=t) ht).symm.trans hv;have:vval w base (4294967296*(j+1)+t)=some (.pointer (some ⟨ks[j],0,none⟩)):=by
    unfold vval;rw[if_neg e2,e0,hb,h2,e1];simp[c]
   simp[c,c',muOf,nOfV,this,kOfV]
  .have c':¬j<n:=by omega
   simp[c',Nat.not_lt.2 c]
theorem szL {base:Nat->Option Value}:∀{l:aze} {x:XS tb l} {vs:List Value} {bs:List (Option Nat)},At w base l vs->bzd P tb g w l x vs bs->Fit (muOf w base) (tauOf w base) l vs bs
 | [],_,[],[],_,_=>trivial
 | [_],_,[_],[_],ha,h=>⟨fit_one ha.1 h,trivial⟩
 | _::_::_,(_,_),_::_,_::_,ha,h=>⟨fit_one ha.1 h.1,szL ha.2 h.2⟩
 | [],_,[],_::_,_,h=>h.elim
 | [],_,_::_,_,h,_=>h.elim
 | [_],_,[],_,h,_=>h.elim
 | [_],_,[_],[],_,h=>h.elim
 | [_],_,[_],_::_::_,_,h=>h.elim
 | [_],_,_::_::_,_,h,_=>h.2.elim
 | _::_::_,_,[],_,h,_=>h.elim
 | _::_::_,_,_::_,[],_,h=>h.elim
theorem bzd.length:∀{l:aze} {x:XS tb l} {vs:List Value} {bs:List (Option Nat)},bzd P tb g w l x vs bs->l.length=vs.length/\l.length=bs.length
 | [],_,[],[],_=>⟨rfl,rfl⟩
 | [_],_,[_],[_],_=>⟨rfl,rfl⟩
 | _::q::l,(_,xs),_::vs,_::bs,h=>by
  obtain⟨h1,h2⟩:=bzd.length h.2;exact⟨by simp only[List.length_cons]at h1 ⊢;omega,by simp only[List.length_cons]at h2 ⊢;omega⟩
 | [],_,[],_::_,h=>h.elim
 | [],_,_::_,_,h=>h.elim
 | [_],_,[],_,h=>h.elim
 | [_],_,[_],[],h=>h.elim
 | [_],_,[_],_::_::_,h=>h.elim
 | [_],_,_::_::_,_,h=>h.elim
 | _::_::_,_,[],_,h=>h.elim
 | _::_::_,_,_::_,[],h=>h.elim
theorem kzI {get:Nat->Option (SV tb.T)}:∀{l:aze} {bs:List (Option Nat)},BlkL s μ τ get l bs->∀k∈bzK l bs,
 k∈azl bs/\((∃i∈idsS get (nvOf l),(s.tok i=true\/∃e xs,s.arr i=some (.mk true e xs))/\τ i=some k)\/(∃i∈idsS get (tkOf l),azn s i/\μ i=k/\s.ro i=false))
 | [],[],_,k,hk=>by simp[bzK]at hk
 | q::l,b::bs,⟨⟨v,hg,hb⟩,h2⟩,k,hk=>by
  simp only[bzK]at hk;have hmem:k∈azl bs->k∈azl (b::bs):=fun hm=>by
   unfold azl at hm ⊢;rw[List.filterMap_cons];cases b with
   | none=>exact hm
   | some k'=>exact List.mem_cons_of_mem _ hm
  rcases List.mem_append.1 hk with hk|hk
  .have hbk:b=some k/\q.2.still=false:=by
    split at hk
    .simp at hk
    .simp at hk
    .rename_i hne hne';cases b with
     | none=>simp at hk
     | some k' =>
      simp at hk;subst hk;refine⟨rfl,?_⟩;cases hq:q.2<;>first|rfl|exact absurd hq (hne _)|exact absurd hq (hne' _)
   obtain⟨rfl,hne⟩:=hbk;refine⟨by simp[azl],?_⟩;obtain⟨t,p⟩:=q;cases p with
   | val e=>rcases v with ac|Nz0|ts<;>simp[czs]at hb
   | own e =>
    rcases v with ac|Nz0|ts
    .cases ac<;>simp only[czs,reduceCtorEq]at hb;rename_i t';exact .inl ⟨t',by simp[nvOf,Pat.isVw,idsS,hg,idsP],.inl hb.2,hb.1.symm⟩
    .simp[czs]at hb
    .simp[czs]at hb
   | ref e =>
    rcases v with ac|Nz0|ts
    .cases ac<;>simp only[czs,reduceCtorEq]at hb;rename_i i _;exact .inr ⟨i,by simp[tkOf,Pat.taken,idsS,hg,idsP],hb.2.1,(Option.some.inj hb.1).symm,hb.2.2⟩
    .simp[czs]at hb
    .simp[czs]at hb
   | ro e=>cases hne
   | vw e=>cases hne
   | fnp f n=>rcases v with ac|Nz0|ts<;>simp[czs]at hb
   | mp kt vt =>
    rcases v with ac|Nz0|ts
    .cases ac<;>simp only[czs,reduceCtorEq]at hb;rename_i i;exact .inr ⟨i,by simp[tkOf,Pat.taken,idsS,hg,idsP],hb.2.1,(Option.some.inj hb.1).symm,hb.2.2⟩
    .simp[czs]at hb
    .simp[czs]at hb
   | wr e =>
    rcases v with ac|Nz0|ts
    .cases ac<;>simp only[czs,reduceCtorEq]at hb;rename_i i;obtain⟨h1,_,_,h2⟩:=hb;exact .inl ⟨i,by simp[nvOf,Pat.isVw,idsS,hg,idsP],.inr ⟨_,_,h2⟩,h1.symm⟩
    .simp[czs]at hb
    .simp[czs]at hb
   | box n =>
    rcases v with ac|Nz0|ts
    .cases ac<;>simp only[czs,reduceCtorEq]at hb;rename_i i _;exact .inr ⟨i,by simp[tkOf,Pat.taken,idsS,hg,idsP],hb.2.1,(Option.some.inj hb.1).symm,hb.2.2⟩
    .simp[czs]at hb
    .simp[czs]at hb
   | iter =>
    rcases v with ac|Nz0|ts
    .cases ac<;>simp only[czs,reduceCtorEq]at hb;rename_i i _;exact .inr ⟨i,by simp[tkOf,Pat.taken,idsS,hg,idsP],hb.2.1,(Option.some.inj hb.1).symm,hb.2.2⟩
    .simp[czs]at hb
    .simp[czs]at hb
  .obtain⟨m,ih⟩:=kzI h2 k hk;refine⟨hmem m,ih.imp (fun⟨i,hi,h⟩=>⟨i,by
    simp only[nvOf];cases q.2.isVw
    .simp only[cond_false,idsS,List.mem_append];exact .inr hi
    .exact hi,h⟩) (fun⟨i,hi,h⟩=>⟨i,?_,h⟩)⟩
   simp only[tkOf];cases q.2.taken
   .exact hi
   .simp only[cond_true,idsS,List.mem_append];exact .inr hi
theorem ozD (h:SimAt P tb N W a0 g0 w0 D0 s g μ τ a w){j b:Nat}(h1:s.tok j=true\/∃e xs,s.arr j=some (.mk true e xs))(h2:τ j=some b):w0.heap.size<=b\/D0 b:=by
 rcases h1 with h1|⟨e,xs,h1⟩
 .exact((h.tokv j h1).2 b h2).2.2
 .exact((h.arr j _ e xs h1).2.2.1 rfl).2 b h2
theorem SimAt.take {get:Nat->Option (SV tb.T)}{ins:aze}{bs:List (Option Nat)}(h:SimAt P tb N W a0 g0 w0 D0 s g μ τ a w)(hb:BlkL s μ τ get ins bs)
 (he:Ext g w g' w' (fun b=>b∈bzK ins bs)) :
 SimAt P tb N W a0 g0 w0 D0 (s.take get ins) g' μ τ a w'/\(∀t k,((s.take get ins).tok t=true\/(s.take get ins).arr t≠none)->τ t=some k->k ∉ bzK ins bs/\k<w.heap.size) /\
  (∀i,azn (s.take get ins) i->azn s i/\i ∉ idsS get (tkOf ins)):=by
 have htk:∀t,((s.take get ins).tok t=true->s.tok t=true/\t ∉ idsS get (nvOf ins))/\∀z,(s.take get ins).arr t=some z->s.arr t=some z/\t ∉ idsS get (nvOf ins):=fun t=>by
  simp only[St.take];cases hm:memB t (idsS get (nvOf ins))with
  | true=>simp
  | false =>
   simp only[cond_false];have hni:t ∉ idsS get (nvOf ins):=fun hi=>by rw[dzX.2 hi]at hm;cases hm
   exact⟨fun ht=>⟨ht,hni⟩,fun z hz=>⟨hz,hni⟩⟩
 have hlv:∀i,azn (s.take get ins) i->azn s i/\i ∉ idsS get (tkOf ins):=fun i hi=>by
  have hm:memB i (idsS get (tkOf ins))=false:=by
   cases hm:memB i (idsS get (tkOf ins))with
   | false=>rfl
   | true=>simp[azn,St.take,hm]at hi
  exact⟨by simpa[azn,St.take,hm]using hi,fun hi'=>by rw[dzX.2 hi']at hm;cases hm⟩
 have hmine:∀t,((s.take get ins).tok t=true\/(s.take get ins).arr t≠none)->(s.tok t=true\/s.arr t≠none)/\t ∉ idsS get (nvOf ins):=fun t ht=>by
  rcases ht with ht|ht
  .exact⟨.inl ((htk t).1 ht).1,((htk t).1 ht).2⟩
  .cases ha:(s.take get ins).arr t with
   | none=>exact absurd ha ht
   | some z=>exact⟨.inr (by rw[((htk t).2 z ha).1];simp),((htk t).2 z ha).2⟩
 have htb:∀t k,((s.take get ins).tok t=true\/(s.take get ins).arr t≠none)->τ t=some k->k ∉ bzK ins bs:=fun t k ht hk hm=>by
  obtain⟨h1,h2⟩:=hmine t ht;rcases(kzI hb k hm).2 with⟨j,hj,hj1,hj2⟩|⟨j,hj,hj1,hj2,_⟩
  .have:=vzW h (.inl ⟨h1,hk⟩) (.inl ⟨hj1.imp id fun⟨_,_,c⟩=>by rw[c];simp,hj2⟩);exact h2 (this▸hj)
  .obtain⟨n,hn⟩:=Mine.apart h ⟨h1,hk⟩;rw[<-hj2,(h.live j hj1).2.1]at hn;cases hn
 have hlb:∀i,azn (s.take get ins) i->μ i ∉ bzK ins bs:=fun i hi hm=>by
  obtain⟨h1,h2⟩:=hlv i hi;rcases(kzI hb _ hm).2 with⟨j,hj,hj1,hj2⟩|⟨j,hj,hj1,hj2,_⟩
  .obtain⟨n,hn⟩:=Mine.apart h ⟨hj1.imp id fun⟨_,_,c⟩=>by rw[c];simp,hj2⟩;rw[(h.live i h1).2.1]at hn;cases hn
  .have:=h.inj i j h1 hj1 hj2.symm;exact h2 (this▸hj)
 refine⟨h.move he ?_ rfl (fun _ h=>h) rfl (fun _ _=>⟨rfl,rfl⟩) (fun i hi ht=>⟨((htk i).1 ht).1,fun b hb' hm=>htb i b (.inl ht) hb' hm⟩) ?_ ?_ (fun i hi=>.inl (hlv i hi).1) (fun i j hi _ li=>absurd (hlv i hi).1 li) ?_ ?_ ?_ (fun i _ hi hd=>absurd hd (hlb i hi)) (fun i o e xs hi=>.inl ⟨((htk i).2 _ hi).1,fun b hb'=>htb i b (.inr (by rw[hi];simp)) hb',fun t b ht hu=>?_⟩),fun t k ht hk=>⟨htb t k ht hk,?_⟩,hlv⟩
 .intro b hb' hm;rcases(kzI hb b hm).2 with⟨j,hj,hj1,hj2⟩|⟨j,hj,hj1,hj2,hj3⟩
  .exact ozD h hj1 hj2
  .have:=(h.live j hj1).2.2.2;rw[hj2,hj3]at this;exact this.resolve_left (by simp)
 .intro i cs hc;have hi:azn (s.take get ins) i:=.inl (by rw[hc];simp);refine .inl ⟨?_,hlb i hi⟩;simp only[St.take]at hc;cases hm:memB i (idsS get (tkOf ins))<;>simp[hm]at hc;exact hc
 .intro i o hc;have hi:azn (s.take get ins) i:=.inr (by rw[hc];simp);refine .inl ⟨?_,hlb i hi⟩;simp only[St.take]at hc;cases hm:memB i (idsS get (tkOf ins))<;>simp[hm]at hc;exact hc
 .intro i hi;simp only[St.take]at hi ⊢;cases hm:memB i (idsS get (tkOf ins))<;>simp only[hm,cond_true,cond_false,ne_eq,not_true_eq_false]at hi ⊢;exact h.excl i hi
 .intro t ht hu;have:=(h.tokv t ((htk t).1 ht).1).1;rw[this]at hu;cases hu
 .intro t u b ht _ hu;have:=(h.tokv t ((htk t).1 ht).1).1;rw[this]at hu;cases hu
 .have:s.used t=true:=by
   rcases(hmine t ht).1 with c|c
   .exact(h.tokv t c).1
   .cases ha:s.arr t with
    | none=>exact absurd ha c
    | some z=>obtain⟨o3,e3,xs3⟩:=z;exact(h.arr t o3 e3 xs3 ha).2.1
  rw[this]at hu;cases hu
 .rcases(hmine t ht).1 with c|c
  .exact((h.tokv t c).2 k hk).2.1
  .cases ha:s.arr t with
   | none=>exact absurd ha c
   | some z =>
    obtain⟨o3,e3,xs3⟩:=z;have:=(h.arr t o3 e3 xs3 ha).1;rw[hk]at this;exact this.at.2
theorem SimAt.addBlk (h:SimAt P tb N W a0 g0 w0 D0 s g μ τ a w){i e:Nat}{x:tb.T e}(hn:¬azn s i)(hu:s.used i=true)(hb:tzj P tb g w e x (μ i))(hw:w0.heap.size<=μ i\/D0 (μ i))(hd:∀j,azn s j->μ j≠μ i):
 SimAt P tb N W a0 g0 w0 D0 {s with blk:=upd s.blk i (some ((tb.enc e x).map .d))} g μ τ a w:=by
 obtain⟨k1,k2,us,el,fz,k3,k4,k5⟩:=hb;have hlv:∀j,azn {s with blk:=upd s.blk i (some ((tb.enc e x).map .d))} j->j=i\/azn s j:=fun j hj=>by
  by_cases e':j=i
  .exact .inl e'
  .right;simpa[azn,azu,e']using hj
 refine⟨h.ext,h.size,h.defers,h.frame,h.env,?_,h.itr,?_,?_,h.tokv,h.tinj,?_,h.rou,h.uenv,?_,h.arr,h.inv0⟩
 .intro j cs hc;simp only[azu]at hc;by_cases e':j=i
  .subst e';simp at hc;subst hc;exact⟨us,el,fz,k3,k4,pzt k5⟩
  .simp only[e',if_false]at hc;exact h.blk j cs hc
 .intro j hj;rcases hlv j hj with c|c
  .subst c;exact⟨hu,k2,k1,.inr hw⟩
  .exact h.live j c
 .intro j j' hj hj' e';rcases hlv j hj with c|c<;>rcases hlv j' hj' with c'|c'
  .rw[c,c']
  .subst c;exact absurd e'.symm (hd j' c')
  .subst c';exact absurd e' (hd j c)
  .exact h.inj j j' c c' e'
 .intro j hj;have hj':s.itr j≠none:=hj;have e':j≠i:=fun e'=>by subst e';exact hn (.inr hj')
  simp only[azu,e',if_false];exact h.excl j hj'
 .intro j cs hc y hy k hk;simp only[azu]at hc;by_cases e':j=i
  .subst e';simp at hc;subst hc;simp only[List.mem_map]at hy;obtain⟨_,_,rfl⟩:=hy;simp[AC.ids]at hk
  .simp only[e',if_false]at hc;exact h.ublk j cs hc y hy k hk
theorem SimAt.addItr (h:SimAt P tb N W a0 g0 w0 D0 s g μ τ a w){i:Nat}{o:Ob tb.T}(hn:¬azn s i)(hu:s.used i=true)(hr:s.ro i=false)(hb:μ i<w.heap.size/\g (μ i) = .var/\ObAt P tb g w (μ i) o)(hw:w0.heap.size<=μ i\/D0 (μ i))(hd:∀j,azn s j->μ j≠μ i):
 SimAt P tb N W a0 g0 w0 D0 {s with itr:=upd s.itr i (some o)} g μ τ a w:=by
 obtain⟨k1,k2,k3⟩:=hb;have hlv:∀j,azn {s with itr:=upd s.itr i (some o)} j->j=i\/azn s j:=fun j hj=>by
  by_cases e':j=i
  .exact .inl e'
  .right;simpa[azn,azu,e']using hj
 refine⟨h.ext,h.size,h.defers,h.frame,h.env,h.blk,?_,?_,?_,h.tokv,h.tinj,?_,h.rou,h.uenv,h.ublk,h.arr,h.inv0⟩
 .intro j o' hc;simp only[azu]at hc;by_cases e':j=i
  .subst e';simp only[if_true]at hc;have hc:=Option.some.inj hc;subst hc;exact k3
  .simp only[e',if_false]at hc;exact h.itr j o' hc
 .intro j hj;rcases hlv j hj with c|c
  .subst c;exact⟨hu,k2,k1,.inr hw⟩
  .exact h.live j c
 .intro j j' hj hj' e';rcases hlv j hj with c|c<;>rcases hlv j' hj' with c'|c'
  .rw[c,c']
  .subst c;exact absurd e'.symm (hd j' c')
  .subst c';exact absurd e' (hd j c)
  .exact h.inj j j' c c' e'
 .intro j hj;simp only[azu]at hj;by_cases e':j=i
  .subst e';refine⟨?_,hr⟩;cases hbk:s.blk j with
   | none=>rfl
   | some cs=>exact absurd (.inl (by rw[hbk];simp)) hn
  .simp only[e',if_false]at hj;exact h.excl j hj
theorem SimAt.addBox (h:SimAt P tb N W a0 g0 w0 D0 s g μ τ a w){i n:Nat}(hn:¬azn s i)(hu:s.used i=true)(hb:μ i<w.heap.size/\g (μ i) = .var/\Bzk w n (μ i))
 (hw:w0.heap.size<=μ i\/D0 (μ i)) (hd:∀j,azn s j->μ j≠μ i) :
 SimAt P tb N W a0 g0 w0 D0 {s with blk:=upd s.blk i (some (pzz i n))} g μ τ a w:=by
 obtain⟨k1,k2,k3⟩:=hb;have hlv:∀j,azn {s with blk:=upd s.blk i (some (pzz i n))} j->j=i\/azn s j:=fun j hj=>by
  by_cases e':j=i
  .exact .inl e'
  .right;simpa[azn,azu,e']using hj
 refine⟨h.ext,h.size,h.defers,h.frame,h.env,?_,h.itr,?_,?_,h.tokv,h.tinj,?_,h.rou,h.uenv,?_,h.arr,h.inv0⟩
 .intro j cs hc;simp only[azu]at hc;by_cases e':j=i
  .subst e';simp at hc;subst hc;exact k3.rep
  .simp only[e',if_false]at hc;exact h.blk j cs hc
 .intro j hj;rcases hlv j hj with c|c
  .subst c;exact⟨hu,k2,k1,.inr hw⟩
  .exact h.live j c
 .intro j j' hj hj' e';rcases hlv j hj with c|c<;>rcases hlv j' hj' with c'|c'
  .rw[c,c']
  .subst c;exact absurd e'.symm (hd j' c')
  .subst c';exact absurd e' (hd j c)
  .exact h.inj j j' c c' e'
 .intro j hj;have hj':s.itr j≠none:=hj;have e':j≠i:=fun e'=>by subst e';exact hn (.inr hj')
  simp only[azu,e',if_false];exact h.excl j hj'
 .intro j cs hc y hy k hk;simp only[azu]at hc;by_cases e':j=i
  .subst e';simp at hc;subst hc;rw[Iz1 y hy k hk];exact hu
  .simp only[e',if_false]at hc;exact h.ublk j cs hc y hy k hk
end Go.Ev
namespace Go.Ev
open Go
open Go.IntKind (i64 u64 u8 i32 u32 i16 u16)
variable {P:Program} {tb:Tab} {N:Nat} {W:Nat->Prop} {a0:Act} {g0:Gh} {w0:World} {D0:Nat->Prop}
variable {s s':St tb.T} {g g':Gh} {μ μ':Nat->Nat} {τ τ':Nat->Option Nat} {a:Act} {w w':World}
theorem szD {get:Nat->Option (SV tb.T)}:∀{l:aze} {bs:List (Option Nat)},BlkL s μ τ get l bs->BlkL s μ τ get (azm l) (bzL l bs)
 | [],[],_=>trivial
 | q::l,b::bs,⟨h1,h2⟩=>by
  simp only[azm,bzL];cases q.2.isRef
  .exact szD h2
  .exact⟨h1,szD h2⟩
theorem xzb {α:Type}:∀{l:aze} {bs:List α},(bzL l bs).Sublist bs
 | [],_=>by simp[bzL]
 | q::l,[]=>by simp[bzL]
 | q::l,b::bs=>by
  simp only[bzL];cases q.2.isRef
  .exact(xzb (l:=l)).cons _
  .exact(xzb (l:=l)).cons_cons _
theorem tz8:∀{l:aze},∀q∈azm l,q.2.isRef=true
 | [],_,h=>by simp[azm]at h
 | p::l,q,h=>by
  simp only[azm]at h;cases hp:p.2.isRef with
  | false=>rw[hp]at h;exact tz8 q h
  | true =>
   rw[hp]at h;rcases List.mem_cons.1 h with e|e
   .subst e;exact hp
   .exact tz8 q e
theorem ref_one {get:Nat->Option (SV tb.T)}{q:Nat×Pat}{x:X tb q.2}{v:SV tb.T}{u:Value}{b:Option Nat}{so:St tb.T}
 (h:SimAt P tb N W a0 g0 w0 D0 s g μ τ a w) (hq:q.2.isRef=true) (hg:get q.1=some v) (hb:czs so μ τ q.2 v b) (hp:hzR P tb g w q.2 x u b)
 (hso:∀i,azn so i->so.ro i=false->s.used i=true/\s.ro i=false/\(w0.heap.size<=μ i\/D0 (μ i))) (hdis:∀j k,azn s j->b=some k->μ j≠k) :
 SimAt P tb N W a0 g0 w0 D0 (bzT.one tb get s q x) g μ τ a w/\(∀j,azn (bzT.one tb get s q x) j->azn s j\/b=some (μ j)) /\
  (bzT.one tb get s q x).tok=s.tok/\(bzT.one tb get s q x).used=s.used/\(bzT.one tb get s q x).ro=s.ro/\(bzT.one tb get s q x).env=s.env:=by
 obtain⟨t,p⟩:=q;cases p with
 | val e=>cases hq
 | own e=>cases hq
 | ro e=>cases hq
 | fnp f n=>cases hq
 | wr e=>cases hq
 | vw e=>cases hq
 | mp kt vt =>
  rcases v with ac|Nz0|ts
  .cases ac<;>simp only[czs]at hb
   case map i =>
    obtain⟨k,hk,_,hB⟩:=hp;obtain⟨hbi,hl,hro⟩:=hb;obtain⟨hu,hr,hw⟩:=hso i hl hro;have hki:μ i=k:=by rw[hk]at hbi;exact(Option.some.inj hbi).symm
    subst hki;have hone:bzT.one tb get s (t,.mp kt vt) x={s with itr:=upd s.itr i (some (.mp kt vt x))}:=by
     simp only[bzT.one];simp only at hg;rw[hg]
    rw[hone];refine⟨h.addItr (o:=.mp kt vt x) (fun hl=>hdis i _ hl hk rfl) hu hr hB hw (fun j hj=>hdis j _ hj hk),fun j hj=>?_,rfl,rfl,rfl,rfl⟩;by_cases e':j=i
    .subst e';exact .inr hk
    .left;simpa[azn,azu,e']using hj
   all_goals (obtain⟨k,hk,_⟩:=hp;rw[hb]at hk;cases hk)
  .obtain⟨k,hk,_⟩:=hp;simp only[czs]at hb;rw[hb]at hk;cases hk
  .obtain⟨k,hk,_⟩:=hp;simp only[czs]at hb;rw[hb]at hk;cases hk
 | box n =>
  rcases v with ac|Nz0|ts
  .cases ac<;>simp only[czs]at hb
   case ptr i o =>
    obtain⟨k,hk,_,hB⟩:=hp;obtain⟨hbi,hl,hro⟩:=hb;obtain⟨hu,hr,hw⟩:=hso i hl hro;have hki:μ i=k:=by rw[hk]at hbi;exact(Option.some.inj hbi).symm
    subst hki;have hone:bzT.one tb get s (t,.box n) x={s with blk:=upd s.blk i (some (pzz i n))}:=by
     simp only[bzT.one];simp only at hg;rw[hg]
    rw[hone];refine⟨h.addBox (fun hl=>hdis i _ hl hk rfl) hu hB hw (fun j hj=>hdis j _ hj hk),fun j hj=>?_,rfl,rfl,rfl,rfl⟩;by_cases e':j=i
    .subst e';exact .inr hk
    .left;simpa[azn,azu,e']using hj
   all_goals (obtain⟨k,hk,_⟩:=hp;rw[hb]at hk;cases hk)
  .obtain⟨k,hk,_⟩:=hp;simp only[czs]at hb;rw[hb]at hk;cases hk
  .obtain⟨k,hk,_⟩:=hp;simp only[czs]at hb;rw[hb]at hk;cases hk
 | ref e =>
  rcases v with ac|Nz0|ts
  .cases ac<;>simp only[czs]at hb
   case d=>obtain⟨k,hk,_⟩:=hp;subst hk;cases hb
   case own=>obtain⟨k,hk,_⟩:=hp;subst hk;cases hb
   case cptr=>obtain⟨k,hk,_⟩:=hp;subst hk;cases hb
   case fn=>obtain⟨k,hk,_⟩:=hp;subst hk;cases hb
   case any=>obtain⟨k,hk,_⟩:=hp;subst hk;cases hb
   case ubool=>obtain⟨k,hk,_⟩:=hp;subst hk;cases hb
   case np=>obtain⟨k,hk,_⟩:=hp;subst hk;cases hb
   case map=>obtain⟨k,hk,_⟩:=hp;subst hk;cases hb
   case yl=>obtain⟨k,hk,_⟩:=hp;subst hk;cases hb
   case slf=>obtain⟨k,hk,_⟩:=hp;subst hk;cases hb
   case vsl=>obtain⟨k,hk,_⟩:=hp;subst hk;cases hb
   case vw=>obtain⟨k,hk,_⟩:=hp;subst hk;cases hb
   case elp=>obtain⟨k,hk,_⟩:=hp;subst hk;cases hb
   case ptr i o =>
    obtain⟨k,hk,_,hB⟩:=hp;obtain⟨hbi,hl,hro⟩:=hb;obtain⟨hu,hr,hw⟩:=hso i hl hro;have hki:μ i=k:=by rw[hk]at hbi;exact(Option.some.inj hbi).symm
    subst hki;have hone:bzT.one tb get s (t,.ref e) x={s with blk:=upd s.blk i (some ((tb.enc e x).map .d))}:=by
     simp only[bzT.one];simp only at hg;rw[hg]
    rw[hone];refine⟨h.addBlk (fun hl=>hdis i _ hl hk rfl) hu hB hw (fun j hj=>hdis j _ hj hk),fun j hj=>?_,rfl,rfl,rfl,rfl⟩;by_cases e':j=i
    .subst e';exact .inr hk
    .left;simpa[azn,azu,e']using hj
  .obtain⟨k,hk,_⟩:=hp;simp only[czs]at hb;rw[hb]at hk;cases hk
  .obtain⟨k,hk,_⟩:=hp;simp only[czs]at hb;rw[hb]at hk;cases hk
 | iter =>
  rcases v with ac|Nz0|ts
  .cases ac<;>simp only[czs]at hb
   case d=>obtain⟨k,hk,_⟩:=hp;subst hk;cases hb
   case own=>obtain⟨k,hk,_⟩:=hp;subst hk;cases hb
   case cptr=>obtain⟨k,hk,_⟩:=hp;subst hk;cases hb
   case fn=>obtain⟨k,hk,_⟩:=hp;subst hk;cases hb
   case any=>obtain⟨k,hk,_⟩:=hp;subst hk;cases hb
   case ubool=>obtain⟨k,hk,_⟩:=hp;subst hk;cases hb
   case np=>obtain⟨k,hk,_⟩:=hp;subst hk;cases hb
   case map=>obtain⟨k,hk,_⟩:=hp;subst hk;cases hb
   case yl=>obtain⟨k,hk,_⟩:=hp;subst hk;cases hb
   case slf=>obtain⟨k,hk,_⟩:=hp;subst hk;cases hb
   case vsl=>obtain⟨k,hk,_⟩:=hp;subst hk;cases hb
   case vw=>obtain⟨k,hk,_⟩:=hp;subst hk;cases hb
   case elp=>obtain⟨k,hk,_⟩:=hp;subst hk;cases hb
   case ptr i o =>
    obtain⟨k,hk,_,hB⟩:=hp;obtain⟨hbi,hl,hro⟩:=hb;obtain⟨hu,hr,hw⟩:=hso i hl hro;have hki:μ i=k:=by rw[hk]at hbi;exact(Option.some.inj hbi).symm
    subst hki;have hone:bzT.one tb get s (t,.iter) x={s with itr:=upd s.itr i (some (.it x.1 x.2))}:=by
     simp only[bzT.one];simp only at hg;rw[hg]
    rw[hone];refine⟨h.addItr (fun hl=>hdis i _ hl hk rfl) hu hr hB hw (fun j hj=>hdis j _ hj hk),fun j hj=>?_,rfl,rfl,rfl,rfl⟩;by_cases e':j=i
    .subst e';exact .inr hk
    .left;simpa[azn,azu,e']using hj
  .obtain⟨k,hk,_⟩:=hp;simp only[czs]at hb;rw[hb]at hk;cases hk
  .obtain⟨k,hk,_⟩:=hp;simp only[czs]at hb;rw[hb]at hk;cases hk
theorem azA {b:Option Nat}{bs:List (Option Nat)}{k:Nat}:k∈azl (b::bs)↔b=some k\/k∈azl bs:=by
 unfold azl;rw[List.filterMap_cons];cases b with
 | none=>simp
 | some k'=>simp only[id_eq,List.mem_cons,sE0];constructor<;>(rintro(h|h);exact .inl h.symm;exact .inr h)
theorem kzQ {b:Option Nat}{bs:List (Option Nat)}(h:(azl (b::bs)).Nodup):(azl bs).Nodup/\∀k,b=some k->k ∉ azl bs:=by
 unfold azl at *;rw[List.filterMap_cons]at h;cases b with
 | none=>exact⟨h,by simp⟩
 | some k=>exact⟨(List.nodup_cons.1 h).2,fun k' hk'=>by injection hk' with hk';subst hk';exact(List.nodup_cons.1 h).1⟩
theorem Dzq {get:Nat->Option (SV tb.T)}{so:St tb.T}:∀{rs:aze} {x:XS tb rs} {us:List Value} {bs:List (Option Nat)} {s:St tb.T},
 SimAt P tb N W a0 g0 w0 D0 s g μ τ a w->(∀q∈rs,q.2.isRef=true)->BlkL so μ τ get rs bs->bzd P tb g w rs x us bs->(azl bs).Nodup ->
 (∀i,azn so i->so.ro i=false->s.used i=true/\s.ro i=false/\(w0.heap.size<=μ i\/D0 (μ i)))->(∀j,azn s j->μ j ∉ azl bs) ->
 SimAt P tb N W a0 g0 w0 D0 (bzT tb s get rs x) g μ τ a w/\(∀j,azn (bzT tb s get rs x) j->azn s j\/μ j∈azl bs) /\
  (bzT tb s get rs x).tok=s.tok/\(bzT tb s get rs x).used=s.used/\(bzT tb s get rs x).ro=s.ro/\(bzT tb s get rs x).env=s.env
 | [],x,us,bs,s,h,_,_,_,_,_,_=>⟨h,fun j hj=>.inl hj,rfl,rfl,rfl,rfl⟩
 | [q],x,us,[b],s,h,hq,⟨⟨v,hg,hb⟩,_⟩,hl,hn,hso,hdis=>by
  cases us with
  | nil=>exact hl.elim
  | cons u us =>
   cases us with
   | cons _ _=>exact hl.elim
   | nil =>
    obtain⟨k1,k2,k3⟩:=ref_one h (hq q (by simp)) hg hb hl hso (fun j k hj hk e=>hdis j hj (by rw[e];exact azA.2 (.inl hk)));exact⟨k1,fun j hj=>(k2 j hj).imp id (fun hk=>azA.2 (.inl hk)),k3⟩
 | q::q'::rs,(x,xs),us,b::bs,s,h,hq,⟨⟨v,hg,hb⟩,hbl⟩,hl,hn,hso,hdis=>by
  cases us with
  | nil=>exact hl.elim
  | cons u us =>
   obtain⟨hl1,hl2⟩:=hl;obtain⟨n1,n2⟩:=kzQ hn;obtain⟨k1,k2,k3,k4,k5,k6⟩:=ref_one h (hq q (by simp)) hg hb hl1 hso (fun j k hj hk e=>hdis j hj (by rw[e];exact azA.2 (.inl hk)));obtain⟨m1,m2,m3,m4,m5,m6⟩:=Dzq (rs:=q'::rs) k1 (fun p hp=>hq p (by simp[hp])) hbl hl2 n1 (fun i hi hr=>by rw[k4,k5];exact hso i hi hr) (fun j hj hm=>by
    rcases k2 j hj with c|c
    .exact hdis j c (azA.2 (.inr hm))
    .exact n2 _ c hm)
   refine⟨m1,fun j hj=>?_,m3.trans k3,m4.trans k4,m5.trans k5,m6.trans k6⟩;rcases m2 j hj with c|c
   .exact(k2 j c).imp id (fun hk=>azA.2 (.inl hk))
   .exact .inr (azA.2 (.inr c))
 | [_],_,_,[],_,_,_,hb,_,_,_,_=>hb.elim
 | [_],_,_,_::_::_,_,_,_,hb,_,_,_,_=>hb.2.elim
 | _::_::_,_,_,[],_,_,_,hb,_,_,_,_=>hb.elim
def kzX (_P:Program)(tb:Tab)(w0:World)(D0:Nat->Prop)(s:St tb.T)(τ:Nat->Option Nat)(k:Nat):Prop:=(w0.heap.size<=k\/D0 k)/\∀t,(s.tok t=true\/s.arr t≠none)->τ t≠some k
theorem own_block {e len:Nat}{b:Option Nat}{v:Value}{k:Nat}(h:Bzm P g w b e len v)(hb:b=some k):(∃n,g k = .ar n)/\k<w.heap.size:=by
 rcases h with⟨_,h,_⟩|⟨k',off,cap,cells,el,fz,h1,_,h3,h4,_⟩
 .rw[hb]at h;cases h
 .rw[hb]at h1;injection h1 with h1;subst h1;exact⟨⟨_,h3⟩,(Array.getElem?_eq_some_iff.1 h4).1⟩
theorem SimAt.tok1 (h:SimAt P tb N W a0 g0 w0 D0 s g μ τ a w){d e:Nat}{xs:List (tb.T e)}{v:Value}{b:Option Nat}(hun:s.used d=false)(hp:hzR P tb g w (.own e) xs v b)(hb:∀k,b=some k->kzX P tb w0 D0 s τ k):
 SimAt P tb N W a0 g0 w0 D0 {s with tok:=upd s.tok d true,used:=upd s.used d true} g μ (upd τ d b) a w/\RepC P tb g w μ (upd τ d b) (upd s.tok d true) (.own e xs d) v:=by
 refine⟨h.newTok (D:=fun _=>False) (Ext.refl _ _ _) [] hun (fun _ _ f=>f.elim) (fun _ _ _ _ _ f=>f) (fun _ _ f=>f) (fun k hk=>?_) (fun i hi k hk c=>?_),hp.1,fun _=>by rw[azh];exact hp.2⟩
 .obtain⟨h1,h2⟩:=own_block hp.2 hk;exact⟨h1,h2,(hb k hk).1,fun t ht _=>(hb k hk).2 t (.inl ht)⟩
 .exact(hb k (c.resolve_left (fun f=>f))).2 i (.inr hi) hk
theorem SimAt.ar1 (h:SimAt P tb N W a0 g0 w0 D0 s g μ τ a w){d e:Nat}{xs:List (tb.T e)}{v:Value}{b:Option Nat}(hun:s.used d=false)(hp:hzR P tb g w (.wr e) xs v b)(hb:∀k,b=some k->kzX P tb w0 D0 s τ k):
 SimAt P tb N W a0 g0 w0 D0 {s with arr:=upd s.arr d (some (.mk true e xs)),used:=upd s.used d true} g (upd μ d xs.length) (upd τ d b) a w/\RepC P tb g w (upd μ d xs.length) (upd τ d b) s.tok (.vsl e d) v:=by
 refine⟨h.newAT (D:=fun _=>False) (Ext.refl _ _ _) hun (fun _ _ f=>f.elim) (fun _ _ _ _ f=>f) (fun _ _ f=>f) (fun k hk=>⟨(hb k hk).1,fun t ht=>(hb k hk).2 t (.inl ht)⟩) (A:=s.arr) (fun i hi=>⟨rfl,fun k hk=>⟨fun f=>f,fun c=>(hb k c).2 i (.inr hi) hk⟩⟩) hp.2,?_⟩
 show fzh P w (upd τ d b d) e (upd μ d xs.length d) v
 rw[azh,azh];exact hp.1
structure Later (s s':St tb.T) (μ μ':Nat->Nat) (τ τ':Nat->Option Nat) (bs:List (Option Nat)):Prop where
 used:∀i,s.used i=true->s'.used i=true/\μ' i=μ i/\τ' i=τ i
 toks:∀t k,(s'.tok t=true\/s'.arr t≠none)->τ' t=some k->((s.tok t=true\/s.arr t≠none)/\τ t=some k)\/k∈azl bs
theorem Later.refl {bs:List (Option Nat)}(s:St tb.T):Later s s μ μ τ τ bs:=⟨fun _ hi=>⟨hi,rfl,rfl⟩,fun _ _ ht hk=>.inl ⟨ht,hk⟩⟩
theorem Later.new {d:Nat}{b:Option Nat}{bs:List (Option Nat)}(hun:s.used d=false)(hA:∀i,i≠d->s'.arr i=s.arr i)(hb:∀k,b=some k->k∈azl bs)(ht:∀i,i≠d->s'.tok i=s.tok i)(hu:∀i,i≠d->s'.used i=s.used i){μ':Nat->Nat}(hμ:∀i,i≠d->μ' i=μ i):Later s s' μ μ' τ (upd τ d b) bs:=by
 have hne:∀i,s.used i=true->i≠d:=fun i hi e=>by subst e;rw[hi]at hun;cases hun
 refine⟨fun i hi=>⟨by rw[hu i (hne i hi)];exact hi,hμ i (hne i hi),azo _ _ (hne i hi)⟩,fun t k hk e=>?_⟩;by_cases c:t=d
 .subst c;rw[azh]at e;exact .inr (hb k e)
 .rw[azo _ _ c]at e;rw[ht t c,hA t c]at hk;exact .inl ⟨hk,e⟩
theorem Later.put {d:Option Nat}{v:SV tb.T}{bs:List (Option Nat)}(h:Later s s' μ μ' τ τ' bs):Later s (s'.putO d v) μ μ' τ τ' bs:=by
 cases d<;>exact⟨h.used,h.toks⟩
theorem Later.carry {bs:List (Option Nat)}(h:Later s s' μ μ' τ τ' bs)(ht:∀i,s.used i=true->s'.tok i=s.tok i):Carry g w μ τ s.tok g w μ' τ' s'.tok (fun i=>s.used i=true) :=
 ⟨Keeps.refl _ _,fun i hi=>(h.used i hi).2,fun i hi e=>by rw[ht i hi]at e;exact e,fun _ _ _ _ _=>⟨rfl,rfl⟩⟩
theorem Later.trans {s'':St tb.T}{μ'':Nat->Nat}{τ'':Nat->Option Nat}{bs cs ds:List (Option Nat)}(h:Later s s' μ μ' τ τ' bs)(k:Later s' s'' μ' μ'' τ' τ'' cs)(hb:∀k,k∈azl bs->k∈azl ds)(hc:∀k,k∈azl cs->k∈azl ds):Later s s'' μ μ'' τ τ'' ds :=
 ⟨fun i hi=>⟨(k.used i (h.used i hi).1).1,((k.used i (h.used i hi).1).2.1).trans (h.used i hi).2.1,((k.used i (h.used i hi).1).2.2).trans (h.used i hi).2.2⟩,
  fun t q ht hq=>by
   rcases k.toks t q ht hq with⟨c1,c2⟩|c
   .exact(h.toks t q c1 c2).imp id (hb q)
   .exact .inr (hc q c)⟩
theorem Later.newblk {bs:List (Option Nat)}(h:Later s s' μ μ' τ τ' bs){k:Nat}(hk:kzX P tb w0 D0 s τ k)(hn:k ∉ azl bs):kzX P tb w0 D0 s' τ' k :=
 ⟨hk.1,fun t ht he=>by
  rcases h.toks t k ht he with⟨c1,c2⟩|c
  .exact hk.2 t c1 c2
  .exact hn c⟩
theorem Jzr {d j:Nat}{q:Nat×Pat}{x:X tb q.2}{v:Value}{b:Option Nat}{p:Bool×List (AC tb.T)}(h:SimAt P tb N W a0 g0 w0 D0 s g μ τ a w)(hp:hzR P tb g w q.2 x v b)
 (hb:∀k,b=some k->kzX P tb w0 D0 s τ k) (ho:dzF.part1 P tb d s j q x=some (p,s')) :
 ∃μ' τ',SimAt P tb N W a0 g0 w0 D0 s' g μ' τ' a w/\RepT P tb g w μ' τ' s'.tok p v/\(∀y∈p.2,∀i∈y.ids,s'.used i=true)/\Later s s' μ μ' τ τ' [b]/\∀i,s.used i=true->s'.tok i=s.tok i:=by
 have hbb:∀k,b=some k->k∈azl [b]:=fun k hk=>by simp[azl,hk]
 obtain⟨t,pt⟩:=q;cases pt with
 | val e =>
  obtain⟨hv,rfl⟩:=hp;have ho:(bif bzw P e then some ((true,(tb.enc e x).map AC.d),s)else(match tb.enc e x with | [c]=>some ((false,[AC.d c]),s)|_=>none))=some (p,s'):=ho;unfold czf at hv;have hl:Later s s μ μ τ τ [none]:=Later.refl s;cases ha:bzw P e with
  | true =>
   simp only[ha,cond_true,sE0,Prod.mk.injEq,if_true]at ho hv;obtain⟨rfl,rfl⟩:=ho;obtain⟨us,rfl,hr⟩:=hv;refine⟨μ,τ,h,⟨us,rfl,pzt hr⟩,?_,hl,fun _ _=>rfl⟩;intro y hy i hi;simp only[List.mem_map]at hy;obtain⟨_,_,rfl⟩:=hy;simp[AC.ids]at hi
  | false =>
   simp only[ha,Bool.false_eq_true,if_false,cond_false]at ho hv;obtain⟨c,hc,hd⟩:=hv;rw[hc]at ho;simp only[sE0,Prod.mk.injEq]at ho;obtain⟨rfl,rfl⟩:=ho;exact⟨μ,τ,h,⟨_,rfl,hd⟩,by simp[AC.ids],hl,fun _ _=>rfl⟩
 | own e =>
  have ho:(bif s.used (d+65536*j)then none else some ((false,[AC.own e x (d+65536*j)]),{s with tok:=upd s.tok (d+65536*j) true,used:=upd s.used (d+65536*j) true}))=some (p,s'):=ho;cases hu:s.used (d+65536*j)with
  | true=>simp[hu]at ho
  | false =>
   simp only[hu,cond_false,sE0,Prod.mk.injEq]at ho;obtain⟨rfl,rfl⟩:=ho;obtain⟨k1,k2⟩:=h.tok1 hu hp hb;have hne:∀i,s.used i=true->i≠d+65536*j:=fun i hi e'=>by rw[<-e',hi]at hu;cases hu
   exact⟨μ,_,k1,⟨_,rfl,k2⟩,by simp[AC.ids,azh],Later.new (s':={s with tok:=upd s.tok (d+65536*j) true,used:=upd s.used (d+65536*j) true}) hu (fun _ _=>rfl) hbb (fun i hi=>azo _ _ hi) (fun i hi=>azo _ _ hi) (fun _ _=>rfl),fun i hi=>azo _ _ (hne i hi)⟩
 | wr e =>
  have ho:(bif s.used (d+65536*j)then none else some ((false,[AC.vsl e (d+65536*j)]),{s with arr:=upd s.arr (d+65536*j) (some (.mk true e x)),used:=upd s.used (d+65536*j) true}))=some (p,s'):=ho;cases hu:s.used (d+65536*j)with
  | true=>simp[hu]at ho
  | false =>
   simp only[hu,cond_false,sE0,Prod.mk.injEq]at ho;obtain⟨rfl,rfl⟩:=ho;obtain⟨k1,k2⟩:=h.ar1 hu hp hb;exact⟨_,_,k1,⟨_,rfl,k2⟩,by simp[AC.ids,azh],Later.new (s':={s with arr:=upd s.arr (d+65536*j) (some (.mk true e x)),used:=upd s.used (d+65536*j) true}) hu (fun i hi=>azo _ _ hi) hbb (fun _ _=>rfl) (fun i hi=>azo _ _ hi) (fun i hi=>azo _ _ hi),fun _ _=>rfl⟩
 | vw e=>cases ho
 | ref e=>cases ho
 | ro e=>cases ho
 | iter=>cases ho
 | fnp f n=>cases ho
 | mp kt vt=>cases ho
 | box n=>cases ho
theorem Gzi {d:Nat}:∀{l:aze} {j:Nat} {x:XS tb l} {us:List Value} {bs:List (Option Nat)} {s s':St tb.T} {μ:Nat->Nat} {τ:Nat->Option Nat} {ps:List (Bool×List (AC tb.T))},
 SimAt P tb N W a0 g0 w0 D0 s g μ τ a w->bzd P tb g w l x us bs->(azl bs).Nodup->(∀k∈azl bs,kzX P tb w0 D0 s τ k)->dzF P tb d s j l x=some (ps,s') ->
 ∃μ' τ',SimAt P tb N W a0 g0 w0 D0 s' g μ' τ' a w/\All2 (RepT P tb g w μ' τ' s'.tok) ps us/\(∀p∈ps,∀y∈p.2,∀i∈y.ids,s'.used i=true)/\Later s s' μ μ' τ τ' bs/\∀i,s.used i=true->s'.tok i=s.tok i
 | [],j,x,us,bs,s,s',μ,τ,ps,h,hl,_,_,ho=>by
  simp only[dzF,sE0,Prod.mk.injEq]at ho;obtain⟨rfl,rfl⟩:=ho;cases us with
  | cons _ _=>exact hl.elim
  | nil=>exact⟨μ,τ,h,trivial,by simp,Later.refl s,fun _ _=>rfl⟩
 | [q],j,x,us,bs,s,s',μ,τ,ps,h,hl,hn,hb,ho=>by
  simp only[dzF]at ho;cases hp:dzF.part1 P tb d s j q x with
  | none=>simp[hp]at ho
  | some r =>
   obtain⟨p,s1⟩:=r;simp only[hp,sE0,Prod.mk.injEq]at ho;obtain⟨rfl,rfl⟩:=ho
   match us,bs,hl with
   | [u],[b],hl =>
    obtain⟨μ',τ',k1,k2,k3,k4,k5⟩:=Jzr h hl (fun k hk=>hb k (azA.2 (.inl hk))) hp;exact⟨μ',τ',k1,⟨k2,trivial⟩,by simpa using k3,k4,k5⟩
 | q::q'::l,j,(x,xs),us,bs,s,s',μ,τ,ps,h,hl,hn,hb,ho=>by
  simp only[dzF]at ho;cases hp:dzF.part1 P tb d s j q x with
  | none=>simp[hp]at ho
  | some r =>
   obtain⟨p,s1⟩:=r;simp only[hp]at ho;cases hr:dzF P tb d s1 (j+1) (q'::l) xs with
   | none=>simp[hr]at ho
   | some r' =>
    obtain⟨ps',s2⟩:=r';simp only[hr,sE0,Prod.mk.injEq]at ho;obtain⟨rfl,rfl⟩:=ho
    match us,bs,hl with
    | u::us,b::bs,hl =>
     obtain⟨n1,n2⟩:=kzQ hn;have hbk:∀k,k∈azl [b]->b=some k:=fun k hk=>by
      rcases azA.1 hk with c|c
      .exact c
      .simp[azl]at c
     obtain⟨μ1,τ1,k1,k2,k3,k4,k5⟩:=Jzr h hl.1 (fun k hk=>hb k (azA.2 (.inl hk))) hp;obtain⟨μ2,τ2,m1,m2,m3,m4,m5⟩:=Gzi k1 hl.2 n1 (fun k hk=>k4.newblk (hb k (azA.2 (.inr hk))) fun c=>n2 k (hbk k c) hk) hr;refine⟨μ2,τ2,m1,⟨RepT.carry (m4.carry m5) k3 k2,m2⟩,?_,k4.trans m4 (fun k hk=>azA.2 (.inl (hbk k hk))) (fun k hk=>azA.2 (.inr hk)),fun i hi=>(m5 i (k4.used i hi).1).trans (k5 i hi)⟩;intro p' hp' y hy i hi;rcases List.mem_cons.1 hp' with e|e
     .subst e;exact(m4.used i (k3 y hy i hi)).1
     .exact m3 p' e y hy i hi
theorem rzr {dst:Option Nat}{l:aze}{x:XS tb l}{us:List Value}{bs:List (Option Nat)}{v:Value}(h:SimAt P tb N W a0 g0 w0 D0 s g μ τ a w)(hl:bzd P tb g w l x us bs)(hn:(azl bs).Nodup)
 (hb:∀k∈azl bs,kzX P tb w0 D0 s τ k) (hv:RetV l us v) (hd:∀d,dst=some d->d<N/\W d) (ho:dzG P tb dst s l x=some s') :
 ∃μ' τ',SimAt P tb N W a0 g0 w0 D0 s' g μ' τ' (a.put dst v) w/\Later s s' μ μ' τ τ' bs:=by
 match l,x,ho with
 | [],x,ho =>
  simp only[dzG,sE0]at ho;subst ho
  match us,bs,hl with
  | [],[],_ =>
   simp only[RetV]at hv;subst hv;exact⟨μ,τ,h.putO hd (v:=.tup []) ⟨[],rfl,trivial⟩ (by simp[SV.ids]),(Later.refl s).put⟩
 | [q],x,ho =>
  match us,bs,hl with
  | [u],[b],hl =>
   simp only[RetV]at hv;subst hv;cases dst with
   | none=>simp only[dzG,sE0]at ho;subst ho;exact⟨μ,τ,h,Later.refl s⟩
   | some d =>
    simp only[dzG]at ho;obtain⟨t,p⟩:=q;cases p with
    | val e =>
     have ho:some (s.put d (qzu P e (tb.enc e x)))=some s':=ho;simp only[sE0]at ho;subst ho;obtain⟨k1,k2⟩:=rzC (μ:=μ) (τ:=τ) (tok:=s.tok) hl.1;exact⟨μ,τ,h.put (hd d rfl).1 (hd d rfl).2 k1 (by rw[k2];simp),(Later.refl s).put (d:=some d)⟩
    | own e =>
     have ho:(bif s.used d then none else some {s with env:=upd s.env d (some (.c (.own e x d))),tok:=upd s.tok d true,used:=upd s.used d true})=some s':=ho;cases hu:s.used d with
     | true=>simp[hu]at ho
     | false =>
      simp only[hu,cond_false,sE0]at ho;subst ho;obtain⟨k1,k2⟩:=h.tok1 hu hl (fun k hk=>hb k (azA.2 (.inl hk)));exact⟨μ,_,k1.put (hd d rfl).1 (hd d rfl).2 (v:=.c (.own e x d)) k2 (by simp[SV.ids,AC.ids,azh]),(Later.new (s':={s with tok:=upd s.tok d true,used:=upd s.used d true}) hu (fun _ _=>rfl) (fun k hk=>azA.2 (.inl hk)) (fun i hi=>azo _ _ hi) (fun i hi=>azo _ _ hi) (fun _ _=>rfl):Later s {s with tok:=upd s.tok d true,used:=upd s.used d true} μ μ τ _ [b]).put (d:=some d)⟩
    | wr e =>
     have ho:(bif s.used d then none else some {s with env:=upd s.env d (some (.c (.vsl e d))),arr:=upd s.arr d (some (.mk true e x)),used:=upd s.used d true})=some s':=ho;cases hu:s.used d with
     | true=>simp[hu]at ho
     | false =>
      simp only[hu,cond_false,sE0]at ho;subst ho;obtain⟨k1,k2⟩:=h.ar1 hu hl (fun k hk=>hb k (azA.2 (.inl hk)));exact⟨_,_,k1.put (hd d rfl).1 (hd d rfl).2 (v:=.c (.vsl e d)) k2 (by simp[SV.ids,AC.ids,azh]),(Later.new (s':={s with arr:=upd s.arr d (some (.mk true e x)),used:=upd s.used d true}) hu (fun i hi=>azo _ _ hi) (fun k hk=>azA.2 (.inl hk)) (fun _ _=>rfl) (fun i hi=>azo _ _ hi) (fun i hi=>azo _ _ hi):Later s {s with arr:=upd s.arr d (some (.mk true e x)),used:=upd s.used d true} μ _ τ _ [b]).put (d:=some d)⟩
    | vw e=>cases ho
    | ref e=>cases ho
    | ro e=>cases ho
    | iter=>cases ho
    | fnp f n=>cases ho
    | mp kt vt=>cases ho
    | box n=>cases ho
 | q::q'::l,x,ho =>
  have hv:v = .tuple us.toArray:=by
   match us,hl,hv with
   | [],hl,_=>exact hl.elim
   | [u],_,hv=>exact hv
   | u::u'::us,_,hv=>exact hv
  subst hv;cases dst with
  | none=>simp only[dzG,sE0]at ho;subst ho;exact⟨μ,τ,h,Later.refl s⟩
  | some d =>
   simp only[dzG]at ho;cases hr:dzF P tb d s 0 (q::q'::l) x with
   | none=>simp[hr]at ho
   | some r =>
    obtain⟨ps,s1⟩:=r;simp only[hr,sE0]at ho;subst ho;obtain⟨μ1,τ1,k1,k2,k3,k4,_⟩:=Gzi h hl hn hb hr;exact⟨μ1,τ1,k1.put (hd d rfl).1 (hd d rfl).2 (v:=.tup ps) ⟨us,rfl,k2⟩ (by
     intro i hi;simp only[SV.ids,List.mem_flatMap]at hi;obtain⟨p,hp,y,hy,hi⟩:=hi;exact k3 p hp y hy i hi),k4.put (d:=some d)⟩
theorem xz5 {dst:Option Nat}{arg:Nat->Option (SV tb.T)}{l:aze}{R args:List Value}{v u:Value}{t:Nat}{ac:AC tb.T}(h:SimAt P tb N W a0 g0 w0 D0 s g μ τ (a.put dst v) w)(hd:∀d,dst=some d->d<a.tmps.size)(hv:RetV l R v)(ht:¬t<4294967296)
 (ha:vval w (fzV R args) t=some u) (harg:∀i j o,arg i=some (.c (.ptr j o))->args[i]?=some (.pointer (some ⟨μ j,o,none⟩))) (hr:RepC P tb g w μ τ s.tok ac u) (hi:∀i∈ac.ids,s.used i=true) (ho:mzv dst arg s t ac=some s') :
 SimAt P tb N W a0 g0 w0 D0 s' g μ τ (a.put dst v) w:=by
 unfold mzv at ho;unfold vval at ha;simp only[ht,if_false]at ha;cases hlt:Nat.blt (t%4294967296) 32768 with
 | true =>
  have hlt':t%4294967296<32768:=Nat.le_of_ble_eq_true hlt;simp only[hlt,cond_true]at ho;simp only[fzV,hlt',if_true]at ha;cases dst with
  | none=>simp only[sE0]at ho;subst ho;exact h
  | some d =>
   simp only at ho;have hget:(a.put (some d) v).tmps[d]?=some v:=by rw[tzy _ _ _ _ (hd d rfl)];simp
   split at ho
   .rename_i Nz0 he;cases hc:(Nat.beq (t%4294967296) 0&&Nat.blt (t/4294967296-1) Nz0.length)with
    | false=>simp[hc]at ho
    | true =>
     simp only[hc,cond_true,sE0]at ho;subst ho;simp only[Bool.and_eq_true]at hc;have hz:=Nat.eq_of_beq_eq_true hc.1;obtain⟨u0,hu0,us,hr0,h2⟩:=h.env d _ he;rw[hget]at hu0;injection hu0 with hu0;subst hu0;subst hr0;have hR:R=[.agg us.toArray]:=by
      match l,R,hv with
      | [],[],hv=>simp[RetV]at hv
      | [_],[u],hv=>simp only[RetV]at hv;rw[hv]
      | _::_::_,R,hv=>simp[RetV]at hv
     rw[hz,hR]at ha;simp only[List.getElem?_cons_zero]at ha;refine h.see hget (v:=.agg (Nz0.set (t/4294967296-1) ac)) ⟨us,rfl,qzD h2 (by simpa using ha) hr⟩ ?_;intro q hq;simp only[SV.ids,List.mem_flatMap]at hq;obtain⟨y,hy,hq⟩:=hq;rcases wzn hy with e'|hy
     .subst e';exact hi q hq
     .exact h.uenv _ _ he q (by simp only[SV.ids,List.mem_flatMap];exact⟨y,hy,hq⟩)
   .rename_i ps he;split at ho
    .rename_i Nz0 hps;cases hc:Nat.blt (t/4294967296-1) Nz0.length with
     | false=>simp[hc]at ho
     | true =>
      simp only[hc,cond_true,sE0]at ho;subst ho;obtain⟨u0,hu0,us,hr0,h2⟩:=h.env d _ he;rw[hget]at hu0;injection hu0 with hu0;subst hu0;subst hr0;have hR:R=us:=by
       match l,R,hv with
       | [],[],hv=>simp only[RetV]at hv;injection hv with hv;have:=congrArg Array.toList hv;simpa using this.symm
       | [_],[u],hv =>
        simp only[RetV]at hv;subst hv;cases hz:t%4294967296 with
        | zero=>rw[hz]at ha;simp at ha
        | succ n=>rw[hz]at ha;simp at ha
       | _::_::_,R,hv=>simp only[RetV]at hv;injection hv with hv;have:=congrArg Array.toList hv;simpa using this.symm
      subst hR;obtain⟨u1,hu1,hr1⟩:=h2.get hps;unfold RepT at hr1;simp only[if_true]at hr1;obtain⟨us1,rfl,h3⟩:=hr1;rw[hu1]at ha;simp only at ha;refine h.see hget (v:=.tup (ps.set (t%4294967296) (true,Nz0.set (t/4294967296-1) ac))) ⟨R,rfl,qzD h2 hu1 ?_⟩ ?_
      .unfold RepT;simp only[if_true];exact⟨us1,rfl,qzD h3 (by simpa using ha) hr⟩
      .intro q hq;simp only[SV.ids,List.mem_flatMap]at hq;obtain⟨z,hz,y,hy,hq⟩:=hq;have hold:∀z∈ps,∀y∈z.2,∀q∈y.ids,s.used q=true:=fun z hz y hy q hq=>h.uenv _ _ he q (by simp only[SV.ids,List.mem_flatMap];exact⟨z,hz,y,hy,hq⟩)
       rcases wzn hz with e'|hz
       .subst e';rcases wzn hy with e'|hy
        .subst e';exact hi q hq
        .exact hold _ (List.mem_of_getElem? hps) y hy q hq
       .exact hold z hz y hy q hq
    .cases ho
   .cases ho
 | false =>
  have hlt':¬t%4294967296<32768:=fun hc=>by rw[show Nat.blt (t%4294967296) 32768=true from Nat.ble_eq_true_of_le hc]at hlt;cases hlt
  simp only[hlt,cond_false]at ho;simp only[fzV,hlt',if_false]at ha;split at ho
  .rename_i i hg;rw[harg _ _ _ hg]at ha;simp only at ha;split at ho
   .rename_i Nz0 hb;cases hj:Nat.blt (t/4294967296-1) Nz0.length with
    | false=>simp[hj]at ho
    | true =>
     simp only[hj,cond_true,sE0]at ho;subst ho;obtain⟨us,el,fz,e1,e2,e3⟩:=h.blk i Nz0 hb;simp only[e1]at ha;exact h.seeBlk hb e1 ha hr hi
   .cases ho
  .cases ho
theorem xz4 {dst:Option Nat}{arg:Nat->Option (SV tb.T)}{t:Nat}{ac:AC tb.T}(hs:mzv dst arg s t ac=some s')(A:Nat->Option (Ar tb.T))(f h:Nat->Bool):s'.arr=s.arr/\s'.tok=s.tok/\s'.used=s.used/\mzv dst arg {s with arr:=A,tok:=f,used:=h} t ac=some {s' with arr:=A,tok:=f,used:=h}:=by
 unfold mzv at hs ⊢;cases hlt:Nat.blt (t%4294967296) 32768 with
 | true =>
  simp only[hlt,cond_true]at hs ⊢;cases dst with
  | none=>simp only[sE0]at hs;subst hs;exact⟨rfl,rfl,rfl,rfl⟩
  | some d =>
   simp only at hs ⊢;split at hs
   .rename_i Nz0 he;cases hc:(Nat.beq (t%4294967296) 0&&Nat.blt (t/4294967296-1) Nz0.length)with
    | false=>simp[hc]at hs
    | true=>simp only[hc,cond_true,sE0]at hs;subst hs;simp_all
   .rename_i ps he;split at hs
    .rename_i Nz0 hps;cases hc:Nat.blt (t/4294967296-1) Nz0.length with
     | false=>simp[hc]at hs
     | true=>simp only[hc,cond_true,sE0]at hs;subst hs;simp_all
    .cases hs
   .cases hs
 | false =>
  simp only[hlt,cond_false]at hs ⊢;split at hs
  .rename_i i hg;split at hs
   .rename_i Nz0 hb;cases hj:Nat.blt (t/4294967296-1) Nz0.length with
    | false=>simp[hj]at hs
    | true=>simp only[hj,cond_true,sE0]at hs;subst hs;simp_all
   .cases hs
  .cases hs
theorem vsl_inj {b b':Option Nat}{e n n':Nat}{u:Value}(h:fzh P w b e n u)(h':fzh P w b' e n' u):b=b'/\n=n':=by
 rcases h with⟨h1,h2,rfl⟩|⟨k,cap,us,fz,h1,rfl,_⟩<;>rcases h' with⟨k1,k2,k3⟩|⟨k',cap',us',fz',k1,k2,_⟩
 .exact⟨h1.trans k1.symm,h2.trans k2.symm⟩
 .cases k2
 .cases k3
 .simp only[Value.slice.injEq,sE0,Addr.mk.injEq,and_true]at k2;exact⟨by rw[h1,k1,k2.1],k2.2.1⟩
theorem Lzp {dst:Option Nat}{arg:Nat->Option (SV tb.T)}{l:aze}{R args:List Value}{v u:Value}{q:Nat×Pat}{x:X tb q.2}{b:Option Nat}(h:SimAt P tb N W a0 g0 w0 D0 s g μ τ (a.put dst v) w)(hd:∀d,dst=some d->d<a.tmps.size)(hv:RetV l R v)(ht:ezu q.1=false)
 (hp:hzR P tb g w q.2 x u b) (hb:∀k,b=some k->kzX P tb w0 D0 s τ k)
 (ha:vval w (fzV R args) q.1=some u) (harg:∀i j o,arg i=some (.c (.ptr j o))->args[i]?=some (.pointer (some ⟨μ j,o,none⟩))/\s.used j=true) (harg2:∀i e j,arg i=some (.c (.vsl e j))->∃u,args[i]?=some u/\fzh P w (τ j) e (μ j) u/\s.used j=true) (ho:outV P tb dst arg s q x=some s') :
 ∃μ' τ',SimAt P tb N W a0 g0 w0 D0 s' g μ' τ' (a.put dst v) w/\Later s s' μ μ' τ τ' [b]:=by
 have hbb:∀k,b=some k->k∈azl [b]:=fun k hk=>by simp[azl,hk]
 obtain⟨t,p⟩:=q;cases p with
 | own e =>
  generalize hid:fresh s.used 281474976710656 64 (t+281474976710656)=d;have ho:(bif s.used (fresh s.used 281474976710656 64 (t+281474976710656))then none else
   (match mzv dst arg s t (.own e x (fresh s.used 281474976710656 64 (t+281474976710656)))with
   | some s'=>some {s' with tok:=upd s'.tok (fresh s.used 281474976710656 64 (t+281474976710656)) true,used:=upd s'.used (fresh s.used 281474976710656 64 (t+281474976710656)) true}
   | none=>none))=some s':=ho
  rw[hid]at ho;cases hu:s.used d with
  | true=>simp[hu]at ho
  | false =>
   simp only[hu,cond_false]at ho;split at ho
   .rename_i s1 hs1;simp only[sE0]at ho;subst ho;obtain⟨c0,c1,c2,c3⟩:=xz4 hs1 s.arr (upd s.tok d true) (upd s.used d true);obtain⟨k1,k2⟩:=h.tok1 hu hp hb;have:=xz5 k1 hd hv (lzR.1 ht) ha (fun i j o hi=>(harg i j o hi).1) k2 (by simp[AC.ids,azh]) c3;rw[<-c0]at this;rw[c1,c2];exact⟨μ,_,this,Later.new (s':={s1 with tok:=upd s.tok d true,used:=upd s.used d true}) hu (fun i _=>congrFun c0 i) hbb (fun i hi=>azo _ _ hi) (fun i hi=>azo _ _ hi) (fun _ _=>rfl)⟩
   .cases ho
 | wr e =>
  cases hself:Nat.beq (t/4294967296-1) rzw with
  | true =>
   have ho:(bif Nat.beq (t/4294967296-1) rzw then(bif Nat.blt (t%4294967296) 32768 then none else match arg (t%4294967296-32768)with
    | some (.c (.vsl e' i))=>bif Nat.beq e' e&&(s.arr i).isNone then some {s with arr:=upd s.arr i (some (.mk true e x))}else none
    | _=>none)else
    bif s.used (fresh s.used 281474976710656 64 (t+281474976710656))then none else
    (match mzv dst arg s t (.vsl e (fresh s.used 281474976710656 64 (t+281474976710656)))with
    | some s'=>some {s' with arr:=upd s'.arr (fresh s.used 281474976710656 64 (t+281474976710656)) (some (.mk true e x)),used:=upd s'.used (fresh s.used 281474976710656 64 (t+281474976710656)) true}
    | none=>none))=some s':=ho
   simp only[hself,cond_true]at ho;cases hlt:Nat.blt (t%4294967296) 32768 with
   | true=>simp[hlt]at ho
   | false =>
    simp only[hlt,cond_false]at ho;split at ho
    .rename_i e' i hai;cases hk:(Nat.beq e' e&&(s.arr i).isNone)with
     | false=>simp[hk]at ho
     | true =>
      simp only[hk,cond_true,sE0]at ho;subst ho;simp only[Bool.and_eq_true]at hk;have he:=Nat.eq_of_beq_eq_true hk.1;subst he;obtain⟨u0,hu0,hv0,hui⟩:=harg2 _ _ _ hai;have hge:¬t%4294967296<32768:=fun c=>by
       have:Nat.blt (t%4294967296) 32768=true:=Nat.ble_eq_true_of_le c;rw[this]at hlt;cases hlt
      have hsl:∃o n c,u0 = .slice o n c:=by
       rcases hv0 with⟨_,_,rfl⟩|⟨_,_,_,_,_,rfl,_⟩<;>exact⟨_,_,_,rfl⟩
      have huu:u=u0:=by
       obtain⟨o,n,c,rfl⟩:=hsl;unfold vval at ha;rw[if_neg (lzR.1 ht)]at ha;have hb0:fzV R args (t%4294967296)=some (.slice o n c):=by unfold fzV;rw[if_neg hge];exact hu0
       rw[hb0]at ha;simp only at ha;rw[if_pos (Nat.eq_of_beq_eq_true hself)]at ha;exact(Option.some.inj ha).symm
      subst huu;obtain⟨hp1,hp2⟩:=hp;obtain⟨hτ,hμ⟩:=vsl_inj hv0 hp1;refine⟨μ,τ,⟨h.ext,h.size,h.defers,h.frame,h.env,h.blk,h.itr,h.live,h.inj,h.tokv,h.tinj,h.excl,h.rou,h.uenv,h.ublk,fun j o e2 ys hj=>?_,h.inv0⟩,⟨fun j hj=>⟨hj,rfl,rfl⟩,fun t' k hk' hq=>?_⟩⟩
      .have hj:upd s.arr i (some (.mk true e' x)) j=some (.mk o e2 ys):=hj;by_cases c:j=i
       .subst c;rw[azh]at hj;cases hj;refine⟨by rw[hτ];exact hp2,hui,fun _=>⟨hμ,fun k hk'=>(hb k (by rw[<-hτ];exact hk')).1⟩,fun t' k h1 h2=>⟨fun h3=>(hb k (by rw[<-hτ];exact h2)).2 t' (.inl h3) h1,fun h3=>?_⟩⟩;have h3:upd s.arr j (some (.mk true e' x)) t'≠none:=h3;by_cases c:t'=j
        .exact c
        .rw[azo _ _ c]at h3;exact absurd h1 ((hb k (by rw[<-hτ];exact h2)).2 t' (.inr h3))
       .rw[azo _ _ c]at hj;have hj2:=hj;obtain⟨q1,q2,q3,q4⟩:=h.arr j o e2 ys hj2;refine⟨q1,q2,q3,fun t' k h1 h2=>⟨(q4 t' k h1 h2).1,fun h3=>?_⟩⟩;have h3:upd s.arr i (some (.mk true e' x)) t'≠none:=h3;by_cases c':t'=i
        .subst c';exact absurd h2 ((hb k (by rw[<-hτ];exact h1)).2 j (.inr (by rw[hj2];simp)))
        .rw[azo _ _ c']at h3;exact(q4 t' k h1 h2).2 h3
      .by_cases c:t'=i
       .subst c;exact .inr (hbb k (by rw[<-hτ];exact hq))
       .refine .inl ⟨hk'.imp id fun h3=>?_,hq⟩;have h3:upd s.arr i (some (.mk true e' x)) t'≠none:=h3;rw[azo _ _ c]at h3;exact h3
    .cases ho
  | false =>
  generalize hid:fresh s.used 281474976710656 64 (t+281474976710656)=d;have ho:(bif Nat.beq (t/4294967296-1) rzw then(bif Nat.blt (t%4294967296) 32768 then none else match arg (t%4294967296-32768)with
   | some (.c (.vsl e' i))=>bif Nat.beq e' e&&(s.arr i).isNone then some {s with arr:=upd s.arr i (some (.mk true e x))}else none
   | _=>none)else
   bif s.used (fresh s.used 281474976710656 64 (t+281474976710656))then none else
   (match mzv dst arg s t (.vsl e (fresh s.used 281474976710656 64 (t+281474976710656)))with
   | some s'=>some {s' with arr:=upd s'.arr (fresh s.used 281474976710656 64 (t+281474976710656)) (some (.mk true e x)),used:=upd s'.used (fresh s.used 281474976710656 64 (t+281474976710656)) true}
   | none=>none))=some s':=ho
  rw[hself]at ho;simp only[cond_false]at ho;rw[hid]at ho;cases hu:s.used d with
  | true=>simp[hu]at ho
  | false =>
   simp only[hu,cond_false]at ho;split at ho
   .rename_i s1 hs1;simp only[sE0]at ho;subst ho;have hne:∀i,s.used i=true->i≠d:=fun i hi e=>by subst e;rw[hi]at hu;cases hu
    obtain⟨c0,c1,c2,c3⟩:=xz4 hs1 (upd s.arr d (some (.mk true e x))) s.tok (upd s.used d true);obtain⟨k1,k2⟩:=h.ar1 hu hp hb;have:=xz5 k1 hd hv (lzR.1 ht) ha (fun i j o hi=>by rw[azo _ _ (hne j (harg i j o hi).2)];exact(harg i j o hi).1) k2 (by simp[AC.ids,azh]) c3;rw[<-c1]at this;rw[c0,c2];exact⟨_,_,this,Later.new (s':={s1 with arr:=upd s.arr d (some (.mk true e x)),used:=upd s.used d true}) hu (fun i hi=>azo _ _ hi) hbb (fun i _=>congrFun c1 i) (fun i hi=>azo _ _ hi) (fun i hi=>azo _ _ hi)⟩
   .cases ho
 | val e =>
  have ho:(bif bzw P e then none else(match tb.enc e x with
   | [c]=>mzv dst arg s t (.d c)
   | _=>none))=some s':=ho
  obtain⟨hp,rfl⟩:=hp;unfold czf at hp;cases ha':bzw P e with
  | true=>simp[ha']at ho
  | false =>
   simp only[ha',Bool.false_eq_true,if_false,cond_false]at hp ho;obtain⟨c,hc,hd'⟩:=hp;simp only[hc]at ho;obtain⟨c0,c1,c2,_⟩:=xz4 ho s.arr s.tok s.used;refine⟨μ,τ,xz5 (ac:=.d c) h hd hv (lzR.1 ht) ha (fun i j o hi=>(harg i j o hi).1) hd' (by simp[AC.ids]) ho,fun i hi=>⟨by rw[c2];exact hi,rfl,rfl⟩,fun t' k hk e'=>.inl ⟨by rwa[c0,c1]at hk,e'⟩⟩
 | ref e=>cases ho
 | ro e=>cases ho
 | iter=>cases ho
 | fnp f n=>cases ho
 | mp kt vt=>cases ho
 | vw e=>cases ho
 | box n=>cases ho
theorem tzN {dst:Option Nat}{arg:Nat->Option (SV tb.T)}{args:List Value}{v:Value}(hd:∀d,dst=some d->d<N/\W d)(harg:∀i j o,arg i=some (.c (.ptr j o))->args[i]?=some (.pointer (some ⟨μ j,o,none⟩))/\s.used j=true)(harg2:∀i e j,arg i=some (.c (.vsl e j))->∃u,args[i]?=some u/\fzh P w (τ j) e (μ j) u/\s.used j=true)(h:SimAt P tb N W a0 g0 w0 D0 s g μ τ a w):
 ∀{l:aze} {x:XS tb l} {us:List Value} {bs:List (Option Nat)} {s':St tb.T},bzd P tb g w l x us bs->(azl bs).Nodup->(∀k∈azl bs,kzX P tb w0 D0 s τ k) ->
  RetV (azX l) (bzv l us) v->At w (fzV (bzv l us) args) l us->lzX P tb dst arg s l x=some s' ->
  ∃μ' τ',SimAt P tb N W a0 g0 w0 D0 s' g μ' τ' (a.put dst v) w/\Later s s' μ μ' τ τ' bs
 | [],x,us,bs,s',hl,hn,hb,hv,ha,ho=>by
  match us,bs,hl with
  | [],[],hl=>exact rzr h hl hn hb hv hd ho
 | [q],x,us,bs,s',hl,hn,hb,hv,ha,ho=>by
  match us,bs,hl with
  | [u],[b],hl =>
   simp only[lzX]at ho;cases hr:ezu q.1 with
   | true =>
    simp only[hr,cond_true]at ho;have hv:RetV [q] [u] v:=by simpa[azX,bzv,hr]using hv
    exact rzr h hl hn hb hv hd ho
   | false =>
    simp only[hr,cond_false]at ho;split at ho
    .rename_i s1 hs1;have hv:RetV [] [] v:=by simpa[azX,bzv,hr]using hv
     have ha':=ha.1;simp only[bzv,hr,cond_false]at ha';obtain⟨μ1,τ1,k1,k2⟩:=rzr (l:=[]) (x:=()) (us:=[]) (bs:=[]) h trivial (by simp[azl]) (by simp[azl]) hv hd hs1;obtain⟨μ2,τ2,m1,m2⟩:=Lzp k1 (fun d hd'=>by rw[h.size];exact(hd d hd').1) hv hr hl (fun k hk=>k2.newblk (hb k (azA.2 (.inl hk))) (by simp[azl])) ha' (fun i j o hi=>by
      obtain⟨q1,q2⟩:=harg i j o hi;obtain⟨q3,q4,_⟩:=k2.used j q2;exact⟨by rw[q4];exact q1,q3⟩) (fun i e j hi=>by
      obtain⟨u,q1,q2,q5⟩:=harg2 i e j hi;obtain⟨q3,q4,q6⟩:=k2.used j q5;exact⟨u,q1,by rw[q4,q6];exact q2,q3⟩) ho
     exact⟨μ2,τ2,m1,k2.trans m2 (by simp[azl]) (fun _ hk=>hk)⟩
    .cases ho
 | q::q'::l,(x,xs),us,bs,s',hl,hn,hb,hv,ha,ho=>by
  match us,bs,hl with
  | u::us,b::bs,hl =>
   simp only[lzX]at ho;cases hr:ezu q.1 with
   | true =>
    simp only[hr,cond_true]at ho;cases hall:cz3 (q'::l)with
    | false=>simp[hall]at ho
    | true =>
     simp only[hall,cond_true]at ho;have hall':cz3 (q::q'::l)=true:=by
      simp only[cz3,List.all_cons]at hall ⊢;simp only[hr,Bool.true_and];exact hall
     rw[Azt hall',pz0 hall' hl.length.1]at hv;exact rzr h hl hn hb hv hd ho
   | false =>
    simp only[hr,cond_false]at ho;split at ho
    .rename_i s1 hs1;have er:azX (q::q'::l)=azX (q'::l):=by simp[azX,List.filter_cons,hr]
     have ev:bzv (q::q'::l) (u::us)=bzv (q'::l) us:=by simp[bzv,hr]
     rw[er,ev]at hv;rw[ev]at ha;obtain⟨n1,n2⟩:=kzQ hn;obtain⟨μ1,τ1,k1,k2⟩:=tzN hd harg harg2 h hl.2 n1 (fun k hk=>hb k (azA.2 (.inr hk))) hv ha.2 hs1;obtain⟨μ2,τ2,m1,m2⟩:=Lzp k1 (fun d hd'=>by rw[h.size];exact(hd d hd').1) hv hr hl.1 (fun k hk=>k2.newblk (hb k (azA.2 (.inl hk))) (n2 k hk)) ha.1 (fun i j o hi=>by
      obtain⟨q1,q2⟩:=harg i j o hi;obtain⟨q3,q4,_⟩:=k2.used j q2;exact⟨by rw[q4];exact q1,q3⟩) (fun i e j hi=>by
      obtain⟨u,q1,q2,q5⟩:=harg2 i e j hi;obtain⟨q3,q4,q6⟩:=k2.used j q5;exact⟨u,q1,by rw[q4,q6];exact q2,q3⟩) ho
     refine⟨μ2,τ2,m1,k2.trans m2 (fun k hk=>azA.2 (.inr hk)) (fun k hk=>?_)⟩;rcases azA.1 hk with c|c
     .exact azA.2 (.inl c)
     .simp[azl]at c
    .cases ho
end Go.Ev
namespace Go.Ev
open Go
open Go.IntKind (i64 u64 u8 i32 u32 i16 u16)
variable {P:Program} {tb:Tab} {N:Nat} {W:Nat->Prop} {a0:Act} {g0:Gh} {w0:World} {D0:Nat->Prop}
variable {s s':St tb.T} {g g':Gh} {μ μ':Nat->Nat} {τ τ':Nat->Option Nat} {a:Act} {w w':World}
theorem bzu (h:SimAt P tb N W a0 g0 w0 D0 s g μ τ a w)(x:Operand)(v:SV tb.T)(hx:s.val x=some v):RepV P tb g w μ τ s.tok v (a.eval x)/\∀i∈v.ids,s.used i=true:=by
 cases x with
 | tmp t =>
  obtain⟨u,hu,hr⟩:=h.env t v hx;refine⟨?_,h.uenv t v hx⟩;simp only[Act.eval];rw[Array.getD_eq_getD_getElem?,hu];exact hr
 | const c =>
  simp only[St.val]at hx;cases hc:(gzv c:Option (AC tb.T))with
  | none=>simp[hc]at hx
  | some ac =>
   simp only[hc,sE0]at hx;subst hx;obtain⟨k1,k2⟩:=pzD (P:=P) (g:=g) (w:=w) (μ:=μ) (τ:=τ) (tok:=s.tok) hc;exact⟨k1,by simp[SV.ids,k2]⟩
 | global _=>simp[St.val]at hx
 | func f =>
  simp only[St.val,sE0]at hx;subst hx;exact⟨by simp[RepV,RepC,Act.eval],by simp[SV.ids,AC.ids]⟩
theorem pzV (h:SimAt P tb N W a0 g0 w0 D0 s g μ τ a w)(x:Operand)(v:SV tb.T)(hx:s.look x=some v):RepV P tb g w μ τ s.tok v (a.eval x)/\∀i∈v.ids,s.used i=true:=by
 have h0:=bzu h x;unfold St.look St.seen at hx;split at hx
 .rename_i e i hv;obtain⟨r1,r2⟩:=h0 _ hv;split at hx
  .rename_i o e' xs hi;cases o with
   | false=>simp only[cond_false,sE0]at hx;subst hx;exact⟨r1,r2⟩
   | true =>
    simp only[cond_true,sE0]at hx;subst hx;obtain⟨k1,k2,k3,_⟩:=h.arr i _ e' xs hi;refine⟨?_,fun j hj=>r2 j hj⟩;have r1:fzh P w (τ i) e (μ i) (a.eval x):=r1;rw[(k3 rfl).1]at r1;rcases r1 with⟨c1,c2,c3⟩|⟨b,cap,us,fz,c1,c2,c3,c4,_⟩
    .exact .inl ⟨c2,none,by rw[c3],c1.symm⟩
    .exact .inr ⟨b,cap,c1,by rw[c2,Nat.zero_mul],c3,c4⟩
  .simp only[sE0]at hx;subst hx;exact⟨r1,r2⟩
 .exact h0 v hx
abbrev Goes (P:Program)(tb:Tab)(N:Nat)(W:Nat->Prop)(a0:Act)(g0:Gh)(w0:World)(D0:Nat->Prop)(s':St tb.T):Act->World->Prop:=fun a' w'=>Sim P tb N W a0 g0 w0 D0 s' a' w'
theorem czQ {o:Oper}{u:Value}{K:Act->World->Prop}{Q:Exit->Act->World->Prop}(hr:(execOp a.eval o).run P w = .ok (.value u) w')(hk:K (a.put o.dst u) w'):o.wp P a w K Q:=by
 unfold Oper.wp;rw[hr];exact hk
theorem Ez8 {o:Oper}{K:Act->World->Prop}{Q:Exit->Act->World->Prop}(hr:(execOp a.eval o).run P w = .ok .skip w')(hk:K (a.put o.dst undef) w'):o.wp P a w K Q:=by
 unfold Oper.wp;rw[hr];exact hk
def bzD (tb:Tab)(e:Nat)(xs:List (tb.T e)):List (CV tb.T):=xs.flatMap (tb.enc e)
theorem qzL {e n:Nat}:∀{xs:List (tb.T e)},(∀x∈xs,(tb.enc e x).length=n)->∀(i:Nat) x (j:Nat),xs[i]?=some x->j<n->(bzD tb e xs)[i*n+j]?=(tb.enc e x)[j]?
 | [],_,i,x,j,hx,_=>by simp at hx
 | y::ys,h,0,x,j,hx,hj=>by
  simp at hx;subst hx;simp only[bzD,List.flatMap_cons,Nat.zero_mul,Nat.zero_add];rw[List.getElem?_append_left (by rw[h y (by simp)];exact hj)]
 | y::ys,h,i+1,x,j,hx,hj=>by
  simp only[List.getElem?_cons_succ]at hx;have ih:=qzL (fun z hz=>h z (by simp[hz])) i x j hx hj;simp only[bzD,List.flatMap_cons]at ih ⊢;rw[List.getElem?_append_right (by rw[h y (by simp),Nat.add_mul];omega),h y (by simp)];rw[<-ih];congr 1;rw[Nat.add_mul];omega
theorem izu {e n:Nat}:∀{xs:List (tb.T e)},(∀x∈xs,(tb.enc e x).length=n)->(bzD tb e xs).length=xs.length*n
 | [],_=>by simp[bzD]
 | y::ys,h=>by
  have ih:=izu (xs:=ys) (fun z hz=>h z (by simp[hz]));simp only[bzD,List.flatMap_cons,List.length_append,List.length_cons]at ih ⊢;rw[ih,h y (by simp),Nat.add_mul];omega
theorem DzF {e:Nat}{xs:List (tb.T e)}{b off cap:Nat}(hr:RepD P tb g w (.sl e xs) (.slice (some ⟨b,off,none⟩) xs.length cap)):
 ∃us:List Value,us.length=xs.length*P.cellsOf e/\All2 (RepD P tb g w) (bzD tb e xs) us/\(∀j v,us[j]?=some v->w.cell? ⟨b,off+j,none⟩=some v)/\∀x∈xs,(tb.enc e x).length=P.cellsOf e:=by
 obtain⟨_,hc⟩:=fzf hr;rcases hc with⟨_,rfl⟩|⟨b',off',cap',hv,h1,h2,h3,h4,val,h5,h6⟩
 .exact⟨[],by simp,trivial,by simp,by simp⟩
 injection hv with hv _ hv';injection hv with hv;injection hv with e1 e2;subst e1;subst e2;have hall:∀x∈xs,(tb.enc e x).length=P.cellsOf e:=fun x hx=>by
  obtain⟨i,hi,hx⟩:=List.getElem_of_mem hx;exact h3 i x (by rw[List.getElem?_eq_getElem hi,hx])
 let us:List Value:=(List.range (xs.length*P.cellsOf e)).map fun k=>val (k/P.cellsOf e) (k%P.cellsOf e)
 have hul:us.length=xs.length*P.cellsOf e:=by simp[us]
 have hdm:∀k,k<xs.length*P.cellsOf e->0<P.cellsOf e/\k/P.cellsOf e<xs.length/\k%P.cellsOf e<P.cellsOf e/\k/P.cellsOf e*P.cellsOf e+k%P.cellsOf e=k:=fun k hk=>by
  have hpos:0<P.cellsOf e:=by
   rcases Nat.eq_zero_or_pos (P.cellsOf e)with z|z
   .rw[z]at hk;simp at hk
   .exact z
  refine⟨hpos,Nat.div_lt_of_lt_mul (by rw[Nat.mul_comm];exact hk),Nat.mod_lt _ hpos,?_⟩;have:=Nat.div_add_mod k (P.cellsOf e);rw[Nat.mul_comm]at this;exact this
 have hget:∀k,k<xs.length*P.cellsOf e->us[k]?=some (val (k/P.cellsOf e) (k%P.cellsOf e)):=fun k hk=>by
  simp[us,hk]
 refine⟨us,hul,All2.of_get (by rw[izu hall,hul]) (fun k c v hc hv=>?_),fun j v hv=>?_,hall⟩
 .have hk:k<xs.length*P.cellsOf e:=by rw[<-hul];exact(List.getElem?_eq_some_iff.1 hv).1
  obtain⟨p0,p1,p2,p3⟩:=hdm k hk;rw[hget k hk]at hv;simp only[sE0]at hv;subst hv;have hx:xs[k/P.cellsOf e]?=some xs[k/P.cellsOf e]:=List.getElem?_eq_getElem p1;have:=qzL hall _ _ _ hx p2;rw[p3,hc]at this;exact h6 _ _ _ _ hx this.symm
 .have hk:j<xs.length*P.cellsOf e:=by rw[<-hul];exact(List.getElem?_eq_some_iff.1 hv).1
  obtain⟨p0,p1,p2,p3⟩:=hdm j hk;rw[hget j hk]at hv;simp only[sE0]at hv;subst hv;have hx:xs[j/P.cellsOf e]?=some xs[j/P.cellsOf e]:=List.getElem?_eq_getElem p1;have hlen:=h3 _ _ hx;have:=h5 _ _ (j%P.cellsOf e) _ hx (List.getElem?_eq_getElem (by rw[hlen];exact p2));rw[Nat.add_assoc,p3]at this;exact this
theorem DzE {e:Nat}{xs:List (tb.T e)}{b off cap:Nat}{us:List Value}(hlen:∀x∈xs,(tb.enc e x).length=P.cellsOf e)(hcap:xs.length<=cap)(hm:cap<=bz6)
 (hf:0<xs.length*P.cellsOf e->Fz g w b (off+xs.length*P.cellsOf e)) (hr:All2 (RepD P tb g w) (bzD tb e xs) us) (hc:∀j v,us[j]?=some v->w.cell? ⟨b,off+j,none⟩=some v) :
 RepD P tb g w (.sl e xs) (.slice (some ⟨b,off,none⟩) xs.length cap):=by
 have hkey:∀(i:Nat) x (j:Nat) c,xs[i]?=some x->(tb.enc e x)[j]?=some c->∃v,us[i*P.cellsOf e+j]?=some v/\RepD P tb g w c v:=fun i x j c hx hj=>by
  have hlt:j<P.cellsOf e:=by rw[<-hlen x (List.mem_of_getElem? hx)];exact(List.getElem?_eq_some_iff.1 hj).1
  have:=qzL hlen i x j hx hlt;rw[hj]at this;exact hr.get this
 refine .sl e xs b off cap (fun i j=>us.getD (i*P.cellsOf e+j) (.bool false)) hcap hm (fun i x hx=>hlen x (List.mem_of_getElem? hx)) hf (fun i x j c hx hj=>?_) (fun i x j c hx hj=>?_)
 .obtain⟨v,hv,_⟩:=hkey i x j c hx hj;have:=hc _ v hv;rw[Nat.add_assoc,this];simp[hv]
 .obtain⟨v,hv,hd⟩:=hkey i x j c hx hj;simpa[hv]using hd
end Go.Ev
namespace Go.Ev
open Go
open Go.IntKind (i64 u64 u8 i32 u32 i16 u16)
variable {P:Program} {tb:Tab} {N:Nat} {W:Nat->Prop} {a0:Act} {g0:Gh} {w0:World} {D0:Nat->Prop}
variable {s s':St tb.T} {g g':Gh} {μ μ':Nat->Nat} {τ τ':Nat->Option Nat} {a:Act} {w w':World}
variable {K:Act->World->Prop} {Q:Exit->Act->World->Prop}
theorem DzA (o:Obj)(w:World):(newObj o).run P w = .ok w.heap.size {w with heap:=w.heap.push o}:=rfl
theorem SimAt.sim (h:SimAt P tb N W a0 g0 w0 D0 s g μ τ a w):Sim P tb N W a0 g0 w0 D0 s a w:=⟨g,μ,τ,h⟩
theorem go_Pρ (h:SimAt P tb N W a0 g0 w0 D0 s g μ τ a w){ρ:Operand->Option (SV tb.T)}(hρ:∀x v,ρ x=some v->RepV P tb g w μ τ s.tok v (a.eval x)/\∀i∈v.ids,s.used i=true){o:Oper}(hd:∀d,o.dst=some d->d<N/\W d)(he:(evP P tb o.op ρ fun v=>some (s.putO o.dst v))=some s'):
 o.wp P a w (Goes P tb N W a0 g0 w0 D0 s') Q:=by
 rw[nzG]at he;obtain⟨v,hv,he⟩:=azp.1 he;simp only[sE0]at he;subst he;obtain⟨u,h1,h2,h3⟩:=evP_sound hρ o hv;exact czQ h1 (h.putO hd h2 h3).sim
theorem go_P (h:SimAt P tb N W a0 g0 w0 D0 s g μ τ a w){o:Oper}(hd:∀d,o.dst=some d->d<N/\W d)(he:(evP P tb o.op s.val fun v=>some (s.putO o.dst v))=some s'):
 o.wp P a w (Goes P tb N W a0 g0 w0 D0 s') Q:=by
 exact go_Pρ h (bzu h) hd he
theorem go_alloc (h:SimAt P tb N W a0 g0 w0 D0 s g μ τ a w){o:Oper}{e d:Nat}{z:List (AC tb.T)}(ho:o.op = .alloc e)(hdst:o.dst=some d)(hd:d<N/\W d)(hz:jzQ P e=some z)(he:newVar s d (BzM e d z) some=some s'):
 o.wp P a w (Goes P tb N W a0 g0 w0 D0 s') Q:=by
 unfold newVar at he;cases hu:s.used d with
 | true=>simp[hu]at he
 | false =>
  simp only[hu,cond_false,sE0]at he;subst he;obtain⟨i,zv,hi,hz',hr,hids⟩:=nzC (P:=P) (g:=g) (w:=w) (μ:=μ) (τ:=τ) (tok:=s.tok) hz;have hrun:(execOp a.eval o).run P w = .ok (.value (.pointer (some ⟨w.heap.size,0,none⟩))) {w with heap:=w.heap.push (.cells zv.cells e)}:=by
   simp[execOp,ho,Instr.alloc,zeroValue,jzG hi,hz',Go.newVar,newRow]
  refine czQ hrun ?_;rw[hdst];exact(h.newVarS hd.1 hd.2 hu hr (fun x hx i hi=>by rw[hids x hx]at hi;simp at hi) (.inr rfl)).sim
theorem go_box (h:SimAt P tb N W a0 g0 w0 D0 s g μ τ a w){o:Oper}{e d:Nat}{x:Operand}{v:SV tb.T}{Nz0:List (AC tb.T)}(ho:o.op = .box e x)(hdst:o.dst=some d)(hd:d<N/\W d)
 (hv:s.val x=some v) (hc:v.cells=some Nz0) (he:newVar s d Nz0 some=some s'):o.wp P a w (Goes P tb N W a0 g0 w0 D0 s') Q:=by
 unfold newVar at he;cases hu:s.used d with
 | true=>simp[hu]at he
 | false =>
  simp only[hu,cond_false,sE0]at he;subst he;obtain⟨r1,r2⟩:=bzu h x v hv;have hr:=ozp hc r1;have hrun:(execOp a.eval o).run P w = .ok (.value (.pointer (some ⟨w.heap.size,0,none⟩))) {w with heap:=w.heap.push (.cells (a.eval x).cells e)}:=by
   simp[execOp,ho,Instr.box,Go.newVar,newRow]
  refine czQ hrun ?_;rw[hdst];refine(h.newVar hd.1 hd.2 hu hr (fun y hy i hi=>r2 i ?_)).sim;cases v with
  | c a'=>simp only[SV.cells,sE0]at hc;subst hc;simp at hy;subst hy;exact hi
  | agg as'=>simp only[SV.cells,sE0]at hc;subst hc;exact List.mem_flatMap.2 ⟨y,hy,hi⟩
  | tup _=>simp[SV.cells]at hc
theorem kzV {t:Nat}{b off:Nat}{v:SV tb.T}{cells:List (AC tb.T)}{us:List Value}{tok:Nat->Bool}(hc:cut1 P t cells off=some v)(hr:All2 (RepC P tb g w μ τ tok) cells us)
 {b0:Nat} (hm:∀j u,us[off+j]?=some u->w.cell? ⟨b,b0+j,none⟩=some u) :
 ∃u,(loadVar t ⟨b,b0,none⟩).run P w = .ok u w/\RepV P tb g w μ τ tok v u:=by
 unfold cut1 at hc;cases ha:ezO P t with
 | none=>simp[ha]at hc
 | some ag =>
  cases ag with
  | true =>
   simp only[ha]at hc;cases hb:Nat.ble (off+P.cellsOf t) cells.length with
   | false=>simp[hb]at hc
   | true =>
    simp only[hb,cond_true,sE0]at hc;subst hc;have hle:off+P.cellsOf t<=cells.length:=Nat.le_of_ble_eq_true hb;have hlen:=hr.length;have hl:((us.drop off).take (P.cellsOf t)).length=P.cellsOf t:=by simp;omega
    have hload:=gz1 (P:=P) (w:=w) ⟨b,b0,none⟩ ((us.drop off).take (P.cellsOf t)) (fun j u hu=>by
     rw[ezm];have hj:j<P.cellsOf t:=by rw[<-hl];exact(List.getElem?_eq_some_iff.1 hu).1
     rw[List.getElem?_take_of_lt hj,List.getElem?_drop]at hu;exact hm j u hu)
    rw[hl]at hload;obtain⟨d,hd⟩:=ozo ha;refine⟨_,by simp only[loadVar,Sem.run_bind,qzj ha,Result.andThen_ok,if_true,czj (rzI hd),hload,Sem.run_pure],⟨_,rfl,(hr.drop off).take _⟩⟩
  | false =>
   simp only[ha]at hc;cases hg:cells[off]? with
   | none=>simp[hg]at hc
   | some ac =>
    simp only[hg,sE0]at hc;subst hc;obtain⟨u,hu,hru⟩:=hr.get hg;have:=hm 0 u (by simpa using hu);refine⟨u,?_,hru⟩;simp only[loadVar,Sem.run_bind,qzj ha,Result.andThen_ok,Bool.false_eq_true,if_false];rw[Nat.add_zero]at this;simp[load,Sem.run,this]
theorem row_of {e:Nat}{xs:List (tb.T e)}{b?:Option Nat}(ha:fzB P tb g w b? e xs){k:Nat}{y:tb.T e}(hy:xs[k]?=some y):
 ∃b us fz,b?=some b/\w.heap[b]?=some (.cells us e fz)/\(∀j,j<us.size->¬(fz.1<=j/\j<fz.2))/\k*P.cellsOf e+P.cellsOf e<=us.size/\(tb.enc e y).length=P.cellsOf e /\
  All2 (RepD P tb g w) (tb.enc e y) ((us.toList.drop (k*P.cellsOf e)).take (P.cellsOf e)):=by
 have hk:k<xs.length:=(List.getElem?_eq_some_iff.1 hy).1;rcases ha with⟨_,h2⟩|⟨b,us,fz,h0,h1,h2,h3,h4,h5,h6,h8⟩
 .rw[h2]at hk;simp at hk
 have hle:k*P.cellsOf e+P.cellsOf e<=us.size:=by
  have:=Nat.mul_le_mul_right (P.cellsOf e) (show k+1<=xs.length by omega);rw[Nat.add_mul,Nat.one_mul]at this;omega
 have hl:=h6 y (List.mem_of_getElem? hy);refine⟨b,us,fz,h0,h2,h3,hle,hl,All2.of_get (by rw[hl];simp;omega) fun j c u hc hu=>?_⟩;have hj:j<P.cellsOf e:=by rw[<-hl];exact(List.getElem?_eq_some_iff.1 hc).1
 obtain⟨u',hu',hr⟩:=h8 k y j c hy hc;rw[List.getElem?_take_of_lt hj,List.getElem?_drop]at hu;rw[<-Array.getElem?_toList,hu]at hu';injection hu' with hu';subst hu';exact hr
theorem go_load (h:SimAt P tb N W a0 g0 w0 D0 s g μ τ a w){Γ:List (Nat×FSpec tb)}{o:Oper}{t:Nat}{x:Operand}(ho:o.op = .load t x)(hd:∀d,o.dst=some d->d<N/\W d)
 (he:evOp P tb Γ o s some=some s'):o.wp P a w (Goes P tb N W a0 g0 w0 D0 s') Q:=by
 unfold evOp at he;rw[ho]at he;simp only at he;have hexec:∀u ad,a.eval x = .pointer (some ad)->(loadVar t ad).run P w = .ok u w->(execOp a.eval o).run P w = .ok (.value u) w:=fun u ad hx hl=>by
  simp[execOp,ho,Instr.loadAt,hx,Instr.sureAddr,hl]
 split at he
 .rename_i i off hv;obtain⟨r1,r2⟩:=bzu h x _ hv;have hx:a.eval x = .pointer (some ⟨μ i,off,none⟩):=r1;cases hb:s.blk i with
  | none=>simp[hb]at he
  | some cells =>
   simp only[hb]at he;cases hc:cut1 P t cells off with
   | none=>simp[hc]at he
   | some v =>
    simp only[hc,sE0]at he;subst he;obtain⟨us,el,fz,e1,e2,e3⟩:=h.blk i cells hb;obtain⟨u,hu,hru⟩:=kzV (b:=μ i) (b0:=off) hc e3 (fun j u hu=>by
     unfold World.cell?;simp only[e1];simpa using hu)
    refine czQ (hexec u _ hx hu) (h.putO hd hru (fun j hj=>?_)).sim;obtain⟨⟨_,_,_⟩,hids⟩:=szE (us:=us) hc e3;obtain⟨y,hy,hjy⟩:=hids j hj;exact h.ublk i cells hb y hy j hjy
 .rename_i cs hv;obtain⟨r1,r2⟩:=bzu h x _ hv;obtain⟨b,off,hx,h1,h2⟩:=r1;cases hc:cut1 P t (cs.map AC.d) 0 with
  | none=>simp[hc]at he
  | some v =>
   simp only[hc,sE0]at he;subst he;have hus:∃us:List Value,All2 (RepD P tb g w) cs us/\∀j u,us[j]?=some u->w.cell? ⟨b,off+j,none⟩=some u:=by
    refine⟨(List.range cs.length).map fun j=>(w.cell? ⟨b,off+j,none⟩).getD (.bool false),All2.of_get (by simp) (fun j c u hc hu=>?_),fun j u hu=>?_⟩
    .have hj:j<cs.length:=(List.getElem?_eq_some_iff.1 hc).1;obtain⟨u',hu',hd'⟩:=h2 j c hc;simp[hj,hu']at hu;subst hu;exact hd'
    .have hj:j<cs.length:=by have:=(List.getElem?_eq_some_iff.1 hu).1;simpa using this
     obtain⟨u',hu',hd'⟩:=h2 j _ (List.getElem?_eq_getElem hj);simp[hj,hu']at hu;subst hu;exact hu'
   obtain⟨us,hr,hm⟩:=hus;obtain⟨u,hu,hru⟩:=kzV (b:=b) (b0:=off) (μ:=μ) (τ:=τ) (tok:=s.tok) hc (pzt hr) (fun j u hu=>hm j u (by simpa using hu));refine czQ (hexec u _ hx hu) (h.putO hd hru (fun j hj=>?_)).sim;obtain⟨⟨_,_,_⟩,hids⟩:=szE (P:=P) (g:=g) (w:=w) (μ:=μ) (τ:=τ) (tok:=s.tok) (us:=us.toArray) hc (by simpa using pzt hr);obtain⟨y,hy,hjy⟩:=hids j hj;simp only[List.mem_map]at hy;obtain⟨_,_,rfl⟩:=hy;simp[AC.ids]at hjy
 .
  rename_i i e k off hv;obtain⟨r1,r2⟩:=bzu h x _ hv;obtain⟨b0,hb0,hx⟩:=r1;split at he
  .rename_i o' e' xs hi;cases hee:Nat.beq e' e with
   | false=>simp[hee]at he
   | true =>
    simp only[hee,cond_true]at he;have hee:=Nat.eq_of_beq_eq_true hee;subst hee;obtain⟨y,hy,he⟩:=azp.1 he;have hy:xs[k]?=some y:=hy;cases hc:cut1 P t ((tb.enc e' y).map AC.d) off with
    | none=>simp[hc]at he
    | some v =>
     simp only[hc,sE0]at he;subst he;have ha:=(h.arr i _ _ _ hi).1;obtain⟨b,us,fz,e0,e1,e2,e3,e4,e5⟩:=row_of ha hy;rw[hb0]at e0;injection e0 with e0;subst e0;obtain⟨u,hu,hru⟩:=kzV (b:=b0) (b0:=k*P.cellsOf e'+off) (μ:=μ) (τ:=τ) (tok:=s.tok) (us:=((us.toList.drop (k*P.cellsOf e')).take (P.cellsOf e'))) hc (pzt e5) (fun j u hu=>by
      unfold World.cell?;simp only[e1];have hlt:=(List.getElem?_eq_some_iff.1 hu).1;rw[List.length_take]at hlt;rw[List.getElem?_take_of_lt (Nat.lt_of_lt_of_le hlt (Nat.min_le_left _ _)),List.getElem?_drop]at hu;rw[Nat.add_assoc,<-Array.getElem?_toList];exact hu)
     refine czQ (hexec u _ hx hu) (h.putO hd hru (fun j hj=>?_)).sim;obtain⟨⟨_,_,_⟩,hids⟩:=szE (P:=P) (g:=g) (w:=w) (μ:=μ) (τ:=τ) (tok:=s.tok) (us:=((us.toList.drop (k*P.cellsOf e')).take (P.cellsOf e')).toArray) hc (by simpa using pzt e5);obtain⟨z,hz,hjz⟩:=hids j hj;simp only[List.mem_map]at hz;obtain⟨_,_,rfl⟩:=hz;simp[AC.ids]at hjz
  .cases he
 .cases he
theorem row_other {i k j sz off n:Nat}(hj:j<sz)(hne:i≠k)(hn:off+n<=sz):¬(k*sz+off<=i*sz+j/\i*sz+j<k*sz+off+n):=by
 rintro⟨h1,h2⟩;rcases Nat.lt_trichotomy i k with c|c|c
 .have:=Nat.mul_le_mul_right sz (show i+1<=k from c);rw[Nat.add_mul]at this;omega
 .exact hne c
 .have:=Nat.mul_le_mul_right sz (show k+1<=i from c);rw[Nat.add_mul]at this;omega
theorem fzB.put {w':World}{e b:Nat}{xs:List (tb.T e)}(ha:fzB P tb g w (some b) e xs){k off:Nat}{y y':tb.T e}(hy:xs[k]?=some y){us c':Array Value}{fz:Nat×Nat}{vs:List Value}(hb:w.heap[b]?=some (.cells us e fz))(hk:Keeps g w g w')
 (hw:w'.heap[b]?=some (.cells c' e fz)) (hc:c'.toList=ez3 us.toList vs (k*P.cellsOf e+off)) (hle:off+vs.length<=P.cellsOf e)
 (hr:∀row,All2 (RepD P tb g w) (tb.enc e y) row->All2 (RepD P tb g w') (tb.enc e y') (ez3 row vs off)):fzB P tb g w' (some b) e (xs.set k y'):=by
 obtain⟨b1,us1,fz1,r0,r1,r2,r3,r4,r5⟩:=row_of ha hy;injection r0 with r0;subst r0;rw[hb]at r1;injection r1 with r1;injection r1 with r1 _ r1'';subst r1;subst r1'';have hkl:k<xs.length:=(List.getElem?_eq_some_iff.1 hy).1;rcases ha with⟨h,_⟩|⟨b2,us2,fz2,h0,h1,h2,h3,h4,h5,h6,h8⟩
 .cases h
 injection h0 with h0;subst h0;rw[hb]at h2;injection h2 with h2;injection h2 with h2 _ h2'';subst h2;subst h2'';have hsz:c'.size=us.size:=by
  have:=congrArg List.length hc;rw[jzH _ _ _ (by simp;omega)]at this;simpa using this
 have hrow:=hr _ r5;have hrl:((us.toList.drop (k*P.cellsOf e)).take (P.cellsOf e)).length=P.cellsOf e:=by simp;omega
 have hyl:(tb.enc e y').length=P.cellsOf e:=by
  rw[hrow.length,jzH _ _ _ (by rw[hrl];exact hle),hrl]
 have hget:∀n,c'[n]?=if n<k*P.cellsOf e+off then us[n]? else if n<k*P.cellsOf e+off+vs.length then vs[n-(k*P.cellsOf e+off)]? else us[n]?:=fun n=>by
  rw[<-Array.getElem?_toList,hc,nzq _ _ _ _ (by simp;omega)];simp
 refine .inr ⟨b,c',fz,rfl,h1,hw,fun j hj=>h3 j (by omega),h4,by rw[List.length_set];omega,fun x hx=>?_,fun i x j c hx hcx=>?_⟩
 .rcases List.mem_or_eq_of_mem_set hx with hx|rfl
  .exact h6 x hx
  .exact hyl
 .by_cases hik:i=k
  .subst hik;rw[List.getElem?_set_self hkl]at hx;injection hx with hx;subst hx;obtain⟨u,hu,hru⟩:=hrow.get hcx;refine⟨u,?_,hru⟩;have hj:j<P.cellsOf e:=by rw[<-hyl];exact(List.getElem?_eq_some_iff.1 hcx).1
   rw[nzq _ _ _ _ (by rw[hrl];exact hle)]at hu;rw[hget];by_cases c1:j<off
   .rw[if_pos c1,List.getElem?_take_of_lt hj,List.getElem?_drop]at hu;rw[if_pos (by omega),<-Array.getElem?_toList];exact hu
   .rw[if_neg c1]at hu;rw[if_neg (by omega)];by_cases c2:j<off+vs.length
    .rw[if_pos c2]at hu;rw[if_pos (by omega),<-hu];congr 1;omega
    .rw[if_neg c2,List.getElem?_take_of_lt hj,List.getElem?_drop]at hu;rw[if_neg (by omega),<-Array.getElem?_toList];exact hu
  .rw[List.getElem?_set_ne (fun e=>hik e.symm)]at hx;obtain⟨u,hu,hru⟩:=h8 i x j c hx hcx;have hj:j<P.cellsOf e:=by rw[<-h6 x (List.mem_of_getElem? hx)];exact(List.getElem?_eq_some_iff.1 hcx).1
   refine⟨u,?_,hru.mono hk⟩;rw[hget];have:=row_other (off:=off) (n:=vs.length) hj hik hle;by_cases c1:i*P.cellsOf e+j<k*P.cellsOf e+off
   .rw[if_pos c1];exact hu
   .rw[if_neg c1,if_neg (by omega)];exact hu
theorem go_store (h:SimAt P tb N W a0 g0 w0 D0 s g μ τ a w){Γ:List (Nat×FSpec tb)}{o:Oper}{t:Nat}{x y:Operand}(ho:o.op = .store t x y)
 (he:evOp P tb Γ o s some=some s'):o.wp P a w (Goes P tb N W a0 g0 w0 D0 s') Q:=by
 unfold evOp at he;rw[ho]at he;simp only at he;cases hdst:o.dst with
 | some _=>simp[hdst]at he
 | none =>
  simp only[hdst]at he;split at he
  .rename_i i off hv;obtain⟨r1,_⟩:=bzu h x _ hv;have hx:a.eval x = .pointer (some ⟨μ i,off,none⟩):=r1;cases hro:s.ro i with
   | true=>simp[hro]at he
   | false =>
    simp only[hro,cond_false]at he;cases hb:s.blk i with
    | none=>simp[hb]at he
    | some cells =>
     simp only[hb]at he;cases hvy:s.val y with
     | none=>simp[hvy]at he
     | some v =>
      simp only[hvy]at he;cases hc:v.cells with
      | none=>simp[hc]at he
      | some Nz0 =>
       simp only[hc]at he;cases hk:(czR P t&&Nat.beq Nz0.length (P.cellsOf t)&&Nat.ble (off+Nz0.length) cells.length)with
       | false=>simp[hk]at he
       | true =>
        simp only[hk,cond_true,sE0]at he;subst he;simp only[Bool.and_eq_true]at hk;obtain⟨⟨hs,hl⟩,hle⟩:=hk;have hl:=Nat.eq_of_beq_eq_true hl;have hle:=Nat.le_of_ble_eq_true hle;obtain⟨q1,q2⟩:=bzu h y v hvy;have hr:=ozp hc q1;have hrl:=hr.length;obtain⟨us,el,fz,e1,e2,e3⟩:=h.blk i cells hb;have hul:us.size=cells.length:=by rw[<-Array.length_toList];exact e3.length.symm
        have hone:∀u∈(a.eval y).cells.toList,Value.one u=true:=fun u hu=>by
         obtain⟨j,hj,hu⟩:=List.getElem_of_mem hu;have hj':j<Nz0.length:=by rw[hrl];exact hj
         obtain⟨u',hu',hru⟩:=hr.get (List.getElem?_eq_getElem hj');rw[List.getElem?_eq_getElem hj,hu]at hu';simp only[sE0]at hu';subst hu';exact hru.one
        obtain⟨w1,c',h1,h2,h3⟩:=kzv P (b:=μ i) (o:=off) (el:=el) (fz:=fz) (a.eval y).cells.toList 0 us w e1 (by rw[<-hrl];omega) e2 hone;have hlive:azn s i:=.inl (by rw[hb];simp);have hni:s.itr i=none:=by
         cases hi:s.itr i with
         | none=>rfl
         | some z=>have:=(h.excl i (by rw[hi];simp)).1;rw[hb]at this;cases this
        have hsz:c'.size=us.size:=by
         have:=congrArg List.length h3;rw[jzH _ _ _ (by rw[Array.length_toList (xs:=us),<-hrl];omega)]at this;simpa using this
        have hrun:(execOp a.eval o).run P w = .ok .skip w1:=by
         have hsize:(a.eval y).cells.size=P.cellsOf t:=by rw[<-hl,hrl];simp
         simp[execOp,ho,Instr.storeAt,hx,Instr.sureAddr,storeVar,czj (dz4 hs),hsize,h1]
        refine Ez8 hrun ?_;rw[hdst];refine(h.setBlk hlive h2 (fun j hj=>e2 j (by rw[<-hsz];exact hj)) ?_ (fun z hz j hj=>?_) hni hro (fun us2 T fz2 e=>by rw[e1]at e;injection e with e;injection e with e1 e2 _;exact⟨e2.symm,by rw[hsz,e1]⟩)).sim
        .rw[h3,Nat.add_zero];exact xz3 e3 hr
        .unfold ez3 at hz;rcases List.mem_append.1 hz with hz|hz
         .rcases List.mem_append.1 hz with hz|hz
          .exact h.ublk i cells hb z (List.mem_of_mem_take hz) j hj
          .refine q2 j ?_;cases v with
           | c a'=>simp only[SV.cells,sE0]at hc;subst hc;simp at hz;subst hz;exact hj
           | agg as'=>simp only[SV.cells,sE0]at hc;subst hc;exact List.mem_flatMap.2 ⟨z,hz,hj⟩
           | tup _=>simp[SV.cells]at hc
         .exact h.ublk i cells hb z (List.mem_of_mem_drop hz) j hj
  .
   rename_i i e k off hv;obtain⟨r1,_⟩:=bzu h x _ hv;obtain⟨b0,hb0,hx⟩:=r1;split at he
   .rename_i o' e' xs hi;cases hee:(Nat.beq e' e&&o')with
    | false=>simp[hee]at he
    | true =>
     simp only[hee,cond_true]at he;simp only[Bool.and_eq_true]at hee;obtain⟨hee,ho'⟩:=hee;have hee:=Nat.eq_of_beq_eq_true hee;subst hee;subst ho';cases hvy:s.val y with
     | none=>simp[hvy]at he
     | some v =>
      simp only[hvy]at he;cases hc:v.cells with
      | none=>simp[hc]at he
      | some Nz0 =>
       simp only[hc]at he;cases hcv:cvs Nz0 with
       | none=>simp[hcv]at he
       | some cs =>
        simp only[hcv]at he;obtain⟨z,hz,he⟩:=azp.1 he;have hz:xs[k]?=some z:=hz;cases hk:(czR P t&&Nat.beq cs.length (P.cellsOf t)&&Nat.ble (off+cs.length) (tb.enc e' z).length)with
        | false=>simp[hk]at he
        | true =>
         simp only[hk,cond_true]at he;cases hdec:tb.dec e' (ez3 (tb.enc e' z) cs off)with
         | none=>simp[hdec]at he
         | some z' =>
          simp only[hdec,sE0]at he;subst he;simp only[Bool.and_eq_true]at hk;obtain⟨⟨hs,hl⟩,hle⟩:=hk;have hl:=Nat.eq_of_beq_eq_true hl;have hle:=Nat.le_of_ble_eq_true hle;obtain⟨q1,q2⟩:=bzu h y v hvy;have hr:=ozp hc q1;have hrd:=iz6 hcv hr;have hrl:=hrd.length;have ha:=(h.arr i _ _ _ hi).1;obtain⟨b1,us,fz,e0,e1,e2,e3,e4,e5⟩:=row_of ha hz;rw[hb0]at e0;injection e0 with e0;subst e0;rw[hb0]at ha;have hone:∀u∈(a.eval y).cells.toList,Value.one u=true:=fun u hu=>by
           obtain⟨j,hj,hu⟩:=List.getElem_of_mem hu;have hj':j<Nz0.length:=by rw[hr.length];exact hj
           obtain⟨u',hu',hru⟩:=hr.get (List.getElem?_eq_getElem hj');rw[List.getElem?_eq_getElem hj,hu]at hu';simp only[sE0]at hu';subst hu';exact hru.one
          obtain⟨w1,c',h1,h2,h3⟩:=kzv P (b:=b0) (o:=k*P.cellsOf e'+off) (el:=e') (fz:=fz) (a.eval y).cells.toList 0 us w e1 (by rw[<-hrl];omega) e2 hone;rw[Nat.add_zero]at h3;have hrun:(execOp a.eval o).run P w = .ok .skip w1:=by
           have hsize:(a.eval y).cells.size=P.cellsOf t:=by rw[<-hl,hrl];simp
           simp[execOp,ho,Instr.storeAt,hx,Instr.sureAddr,storeVar,czj (dz4 hs),hsize,h1]
          have hsz:c'.size=us.size:=by
           have:=congrArg List.length h3;rw[jzH _ _ _ (by rw[Array.length_toList (xs:=us),<-hrl];omega)]at this;simpa using this
          have hkp:Keeps g w g w1:=by
           have e6:=(Ext.arr1 (g:=g) (n:=0) (n':=0) e1 h2 ha.at.1 (Nat.le_refl _) (fun i hi=>by omega) hsz).keeps;have e7:upd g b0 (.ar 0)=g:=funext fun j=>by
            by_cases c:j=b0
            .subst c;rw[azh,ha.at.1]
            .exact azo _ _ c
           rwa[e7]at e6
          refine Ez8 hrun ?_;rw[hdst];refine(h.setArr hi hb0 e1 h2 hsz (ha.put hz e1 hkp h2.new h3 (by rw[<-hrl];omega) fun row hrow=>?_) (List.length_set ..)).sim;exact jz9 hdec (xz3 (hrow.mono fun _ _ _ q=>q.mono hkp) (hrd.mono fun _ _ _ q=>q.mono hkp))
   .cases he
  .cases he
theorem go_range (h:SimAt P tb N W a0 g0 w0 D0 s g μ τ a w){Γ:List (Nat×FSpec tb)}{o:Oper}{t:Nat}{x:Operand}(ho:o.op = .range t x)(hd:∀d,o.dst=some d->d<N/\W d)
 (he:evOp P tb Γ o s some=some s'):o.wp P a w (Goes P tb N W a0 g0 w0 D0 s') Q:=by
 unfold evOp at he;rw[ho]at he;simp only at he;cases hdst:o.dst with
 | none=>simp[hdst]at he
 | some d =>
  simp only[hdst]at he;split at he
  .rename_i l hu hv;obtain⟨r1,_⟩:=bzu h x _ hv;have hx:RepD P tb g w (.str l) (a.eval x):=r1;generalize hux:a.eval x=ux at hx;cases hx;rename_i hl;cases hus:s.used d with
   | true=>simp[hus]at he
   | false =>
    simp only[hus,cond_false,sE0]at he;subst he;have hrun:(execOp a.eval o).run P w = .ok (.value (.pointer (some ⟨w.heap.size,0,none⟩))) {w with heap:=w.heap.push (.stringIter ⟨l.toArray⟩ 0)}:=by
     simp[execOp,ho,Instr.range,run_underlying hu,hux]
    refine czQ hrun ?_;rw[hdst];exact(h.newItr (hd d hdst).1 (hd d hdst).2 hus hl).sim
  .cases he
theorem Fzs (s:ByteArray)(i:Nat):(Utf8.decode s i).1<=0x10FFFF:=by
 unfold Utf8.decode;simp only[];have hb:∀k,(s.get! k).toNat<256:=fun k=>(s.get! k).toNat_lt
 have h0:=hb (i+0);have h1:=hb (i+1);have h2:=hb (i+2);have h3:=hb (i+3)
 repeat' split
 all_goals simp only[Utf8.runeError,Utf8.valid,Bool.or_eq_true,Bool.and_eq_true,decide_eq_true_eq]at *
 all_goals omega
theorem Mz2 (s:ByteArray)(i:Nat)(hi:i<s.size):1<=(Utf8.decode s i).2/\i+(Utf8.decode s i).2<=s.size:=by
 unfold Utf8.decode;simp only[]
 repeat' split
 all_goals simp only[Bool.and_eq_true,decide_eq_true_eq]at *
 all_goals omega
theorem go_next (h:SimAt P tb N W a0 g0 w0 D0 s g μ τ a w){Γ:List (Nat×FSpec tb)}{o:Oper}{str:Bool}{x:Operand}(ho:o.op = .next x str)(hd:∀d,o.dst=some d->d<N/\W d)
 (he:evOp P tb Γ o s some=some s'):o.wp P a w (Goes P tb N W a0 g0 w0 D0 s') Q:=by
 unfold evOp at he;rw[ho]at he;simp only at he;cases str with
 | false=>simp at he
 | true =>
  simp only[cond_true]at he;cases hdst:o.dst with
  | none=>simp[hdst]at he
  | some d =>
   simp only[hdst]at he;split at he
   .rename_i i hv;obtain⟨r1,_⟩:=bzu h x _ hv;have hx:a.eval x = .pointer (some ⟨μ i,0,none⟩):=r1;split at he
    rotate_left
    .cases he
    .rename_i l p hi;obtain⟨e1,e2,e3⟩:=h.itr i _ hi;have hlt:μ i<w.heap.size:=(Array.getElem?_eq_some_iff.1 e1).1;have hgo:(getObj (μ i)).run P w = .ok (.stringIter ⟨l.toArray⟩ p) w:=by simp[getObj,Sem.run,e1]
     by_cases hp:p<l.length
     .simp only[hp,decide_true,azd,sE0]at he;subst he;have hd2:=Mz2 ⟨l.toArray⟩ p (by rw[lzI];exact hp);rw[lzI]at hd2;have hd1:=Fzs ⟨l.toArray⟩ p
      let w1:World:={w with heap:=w.heap.setIfInBounds (μ i) (.stringIter ⟨l.toArray⟩ (p+(rune l p).2))}
      have hset:(setObj (μ i) (.stringIter ⟨l.toArray⟩ (p+(rune l p).2))).run P w = .ok () w1:=by simp[setObj,Sem.run,e1,w1]
      have ho1:OneBlock w w1 (μ i) (.stringIter ⟨l.toArray⟩ (p+(rune l p).2)):=⟨rfl,rfl,rfl,by simp[w1],by simp[w1,hlt],fun b' hb'=>by
       simp only[w1];rw[Array.getElem?_setIfInBounds_ne (by omega)]⟩
      have hrun:(execOp a.eval o).run P w = .ok (.value (.tuple #[.bool true,goInt p,.int .i32 ((rune l p).1:Int)])) w1:=by
       have hsz:p<(⟨l.toArray⟩:ByteArray).size:=by rw[lzI];exact hp
       simp only[rune]at hset ⊢;simp[execOp,ho,Instr.next,hx,hgo,hsz,hset]
      refine czQ hrun ?_;rw[hdst];have h1:=h.setOb hi (o':=.it l (p+(rune l p).2)) ho1 ⟨ho1.new,e2,by simp only[rune];exact hd2.2⟩ (fun us T fz e=>by rw[e1]at e;cases e);refine(h1.put (hd d hdst).1 (hd d hdst).2 (v:=.tup [(false,[.d (.bool true)]),(false,[.d (.int .i64 (p:Int))]),(false,[.d (.int .i32 ((rune l p).1:Int))])]) ?_ (by simp[SV.ids,AC.ids])).sim;refine⟨[.bool true,goInt p,.int .i32 ((rune l p).1:Int)],rfl,⟨_,rfl,.bool true⟩,⟨_,rfl,.int _ _ ?_⟩,⟨_,rfl,.int _ _ ?_⟩,trivial⟩
      .unfold inR lo Ev.hi;unfold bz6 at e2;simp only[];omega
      .unfold inR lo Ev.hi;simp only[rune];omega
     .simp only[hp,decide_false,azc,sE0]at he;subst he;have hrun:(execOp a.eval o).run P w = .ok (.value (.tuple #[.bool false])) w:=by
       have hsz:¬p<(⟨l.toArray⟩:ByteArray).size:=by rw[lzI];exact hp
       simp[execOp,ho,Instr.next,hx,hgo,hsz]
      refine czQ hrun ?_;rw[hdst];exact(h.put (hd d hdst).1 (hd d hdst).2 (v:=.tup [(false,[.d (.bool false)])]) ⟨[.bool false],rfl,⟨_,rfl,.bool false⟩,trivial⟩ (by simp[SV.ids,AC.ids])).sim
   .cases he
end Go.Ev
namespace Go.Ev
open Go
open Go.IntKind (i64 u64 u8 i32 u32 i16 u16)
variable {P:Program} {tb:Tab} {N:Nat} {W:Nat->Prop} {a0:Act} {g0:Gh} {w0:World} {D0:Nat->Prop}
variable {s s':St tb.T} {g g':Gh} {μ μ':Nat->Nat} {τ τ':Nat->Option Nat} {a:Act} {w w':World}
variable {K:Act->World->Prop} {Q:Exit->Act->World->Prop}
theorem Ext.push' (g:Gh){w w':World}{o:Obj}(k:BK)(D:Nat->Prop)(hh:w'.heap=w.heap.push o)(ho:w'.os=w.os)(ht:w'.tape=w.tape)(hp:w'.output=w.output):Ext g w (upd g w.heap.size k) w' D:=by
 have e:=Ext.push g w o k D;refine⟨ho,ht,hp,by rw[hh];exact e.size,fun b hb hd=>?_,fun b hb hg=>?_,fun b n hb hg=>?_,Shp.old fun b hb=>by rw[hh];exact pzq w o b hb⟩
 .rw[hh];exact e.keep b hb hd
 .rw[hh];exact e.con b hb hg
 .obtain⟨n',h1,h2,h3⟩:=e.ar b n hb hg;exact⟨n',h1,h2,fun i hi=>by
   rw[<-h3 i hi];exact czK (w:={w with heap:=w.heap.push o}) (by rw[hh])⟩
theorem arr_lt (h:SimAt P tb N W a0 g0 w0 D0 s g μ τ a w){i b:Nat}(hi:s.arr i≠none)(hb:τ i=some b):b<w.heap.size:=by
 cases ha:s.arr i with
 | none=>exact absurd ha hi
 | some z=>obtain⟨o,e,xs⟩:=z;have:=(h.arr i o e xs ha).1;rw[hb]at this;exact this.at.2
theorem own_new (h:SimAt P tb N W a0 g0 w0 D0 s g μ τ a w)(ids:List Nat){d e:Nat}(hd:d<N)(hW:W d)(hun:s.used d=false){xs:List (tb.T e)}{us:List Value}{c:Array Value}{fz:Nat×Nat}{cap:Nat}
 (hh:w'.heap=w.heap.push (.cells c e fz)) (ho:w'.os=w.os) (ht:w'.tape=w.tape) (hp:w'.output=w.output)
 (hlen:∀x∈xs,(tb.enc e x).length=P.cellsOf e) (hcap:xs.length<=cap) (hm:cap<=bz6) (hr:All2 (RepD P tb g w) (bzD tb e xs) us) (hus:∀(j:Nat) v,us[j]?=some v->c[j]?=some v)
 (hc:cap*P.cellsOf e<=c.size) (hf:∀i,i<c.size->¬(fz.1<=i/\i<fz.2)) :
 Sim P tb N W a0 g0 w0 D0 {s.drop ids with env:=upd s.env d (some (.c (.own e xs d))),tok:=upd (s.drop ids).tok d true,used:=upd s.used d true}
  (a.put (some d) (.slice (some ⟨w.heap.size,0,none⟩) xs.length cap)) w':=by
 have hnew:w'.heap[w.heap.size]?=some (.cells c e fz):=by rw[hh];exact oz4 w _
 have he:=Ext.push' g (.ar (xs.length*P.cellsOf e)) (fun _=>False) hh ho ht hp;have hsz:w.heap.size<w'.heap.size:=by rw[hh];simp
 refine(h.own (b?:=some w.heap.size) he ids hd hW hun (fun _ _ f=>f.elim) (fun _ _ _ _ _ f=>f) (fun _ _ f=>f) (fun b hb=>?_) ?_ ?_ ?_).sim
 .injection hb with hb;subst hb;refine⟨⟨_,azh _ _ _⟩,hsz,.inl h.ext.size,fun t ht _ e=>?_⟩;have:=((h.tokv t ht).2 _ e).2.1;omega
 .intro i hi b hb c;have:=arr_lt h hi hb;have c:=Option.some.inj (c.resolve_left fun f=>f);omega
 .refine DzE hlen hcap hm (fun _=>⟨hsz,.inr ⟨_,azh _ _ _,by omega⟩⟩) (hr.mono fun _ _ _ q=>q.mono he.keeps) (fun j v hv=>?_);unfold World.cell?;simp only[hnew,Nat.zero_add];simpa using hus j v hv
 .exact .inr ⟨w.heap.size,0,cap,c,e,fz,rfl,rfl,by rw[azh,Nat.zero_add],hnew,by omega,hcap,hf,rfl,rfl⟩
theorem ar_new' (h:SimAt P tb N W a0 g0 w0 D0 s g μ τ a w){d e:Nat}(hd:d<N)(hW:W d)(hun:s.used d=false){xs:List (tb.T e)}{us:List Value}{c:Array Value}{fz:Nat×Nat}{cap:Nat}{A:Nat->Option (Ar tb.T)}(hA:∀i,A i≠none->A i=s.arr i)
 (hh:w'.heap=w.heap.push (.cells c e fz)) (ho:w'.os=w.os) (ht:w'.tape=w.tape) (hp:w'.output=w.output) (hpos:0<P.cellsOf e)
 (hlen:∀x∈xs,(tb.enc e x).length=P.cellsOf e) (hcap:xs.length<=cap) (hm:cap<=bz6) (hr:All2 (RepD P tb g w) (bzD tb e xs) us) (hus:∀(j:Nat) v,us[j]?=some v->c[j]?=some v)
 (hc:cap*P.cellsOf e<=c.size) (hf:∀i,i<c.size->¬(fz.1<=i/\i<fz.2)) :
 Sim P tb N W a0 g0 w0 D0 {s with env:=upd s.env d (some (.c (.vsl e d))),arr:=upd A d (some (.mk true e xs)),used:=upd s.used d true}
  (a.put (some d) (.slice (some ⟨w.heap.size,0,none⟩) xs.length cap)) w':=by
 have hnew:w'.heap[w.heap.size]?=some (.cells c e fz):=by rw[hh];exact oz4 w _
 have he:=Ext.push' g (.ar 0) (fun _=>False) hh ho ht hp;refine(h.arT (b?:=some w.heap.size) he hd hW hun (fun _ _ f=>f.elim) (fun _ _ _ _ f=>f) (fun _ _ f=>f) (fun b hb=>?_) (A:=A) (fun i hi=>⟨hA i hi,fun b hb=>⟨fun f=>f,fun c=>?_⟩⟩) (.inr ⟨w.heap.size,c,fz,rfl,azh _ _ _,hnew,hf,hpos,Nat.le_trans (Nat.mul_le_mul_right _ hcap) hc,hlen,fun i x j cv hx hcv=>?_⟩) (.inr ⟨w.heap.size,cap,c,fz,rfl,rfl,hcap,hm,hnew,hc⟩)).sim
 .injection hb with hb;subst hb;refine⟨.inl h.ext.size,fun t ht e=>?_⟩;have:=((h.tokv t ht).2 _ e).2.1;omega
 .have:=arr_lt h (by rw[<-hA i hi];exact hi) hb;have c:=Option.some.inj c;omega
 .have hj:j<P.cellsOf e:=by rw[<-hlen x (List.mem_of_getElem? hx)];exact(List.getElem?_eq_some_iff.1 hcv).1
  have hfl:=qzL hlen _ _ _ hx hj;rw[hcv]at hfl;obtain⟨v,hv,hrv⟩:=hr.get hfl;exact⟨v,hus _ _ hv,hrv.mono he.keeps⟩
theorem Bzc (h:SimAt P tb N W a0 g0 w0 D0 s g μ τ a w){Γ:List (Nat×FSpec tb)}{d e:Nat}(hd:d<N)(hW:W d){xs:List (tb.T e)}(he:hzk tb Γ s d e xs some=some s'){us:List Value}{c:Array Value}{fz:Nat×Nat}{cap:Nat}
 (hh:w'.heap=w.heap.push (.cells c e fz)) (ho:w'.os=w.os) (ht:w'.tape=w.tape) (hp:w'.output=w.output) (hpos:0<P.cellsOf e)
 (hlen:∀x∈xs,(tb.enc e x).length=P.cellsOf e) (hcap:xs.length<=cap) (hm:cap<=bz6) (hr:All2 (RepD P tb g w) (bzD tb e xs) us) (hus:∀(j:Nat) v,us[j]?=some v->c[j]?=some v)
 (hc:cap*P.cellsOf e<=c.size) (hf:∀i,i<c.size->¬(fz.1<=i/\i<fz.2)):Sim P tb N W a0 g0 w0 D0 s' (a.put (some d) (.slice (some ⟨w.heap.size,0,none⟩) xs.length cap)) w':=by
 unfold hzk at he;cases hmut:uzI Γ d with
 | false =>
  simp only[hmut,cond_false,jzt]at he;cases hun:s.used d with
  | true=>simp[hun]at he
  | false =>
   simp only[hun,cond_false,sE0]at he;subst he;exact own_new h [] hd hW hun hh ho ht hp hlen hcap hm hr hus hc hf
 | true =>
  simp only[hmut,cond_true,lzW]at he;cases hun:s.used d with
  | true=>simp[hun]at he
  | false =>
   simp only[hun,cond_false,sE0]at he;subst he;exact ar_new' h hd hW hun (A:=s.arr) (fun _ _=>rfl) hh ho ht hp hpos hlen hcap hm hr hus hc hf
def yzf:Nat->List (Nat×Value)->Option Value
 | _,[]=>none
 | i,(j,v)::ps=>bif Nat.beq i j then some v else yzf i ps
theorem JzD (ν:Operand->Value)(i:Nat):∀ps:List (Nat×Operand),yzf i (ps.map fun p=>(p.1,ν p.2))=(kzh i ps).map ν
 | []=>rfl
 | (j,x)::ps=>by
  simp only[List.map_cons,yzf,kzh];cases Nat.beq i j
  .exact JzD ν i ps
  .rfl
theorem Hzm {i:Nat}:∀{ps:List (Nat×Value)},i ∉ ps.map (·.1)->yzf i ps=none
 | [],_=>rfl
 | (j,v)::ps,h=>by
  simp only[List.map_cons,List.mem_cons,not_or]at h;have:Nat.beq i j=false:=by
   cases hb:Nat.beq i j with
   | false=>rfl
   | true=>exact absurd (Nat.eq_of_beq_eq_true hb) h.1
  simp only[yzf,this,cond_false];exact Hzm h.2
theorem Gzk:∀{ps:List (Nat×Operand)} {q:Nat×Operand},(ps.map (·.1)).Nodup->q∈ps->kzh q.1 ps=some q.2
 | [],q,_,hq=>by simp at hq
 | (pi,px)::ps,q,hn,hq=>by
  rw[List.map_cons]at hn;obtain⟨m1,m2⟩:=List.nodup_cons.1 hn;rcases List.mem_cons.1 hq with e'|e'
  .subst e';simp[kzh]
  .have hne:Nat.beq q.1 pi=false:=by
    cases hb:Nat.beq q.1 pi with
    | false=>rfl
    | true =>
     have:=Nat.eq_of_beq_eq_true hb;exact absurd (List.mem_map.2 ⟨q,e',this⟩) m1
   simp only[kzh,hne,cond_false];exact Gzk m2 e'
theorem row_index {i i0 j sz:Nat}(hj:j<sz):(i0*sz<=i*sz+j/\i*sz+j<i0*sz+sz)↔i=i0:=by
 constructor
 .rintro⟨h1,h2⟩;rcases Nat.lt_trichotomy i i0 with c|c|c
  .have:=Nat.mul_le_mul_right sz (show i+1<=i0 from c);rw[Nat.add_mul]at this;omega
  .exact c
  .have:=Nat.mul_le_mul_right sz (show i0+1<=i from c);rw[Nat.add_mul]at this;omega
 .rintro rfl;omega
theorem KzO {sz n:Nat}:∀(ps:List (Nat×Value)) (c:Array Value),(∀p∈ps,p.1<n/\p.2.cells.size=sz)->(ps.map (·.1)).Nodup->n*sz<=c.size ->
 ∃c',Instr.fill (fun i=>some (i*sz,sz)) c ps=some c'/\c'.size=c.size/\∀i j,i<n->j<sz->c'[i*sz+j]?=match yzf i ps with|some v=>v.cells[j]?|none=>c[i*sz+j]?
 | [],c,_,_,_=>⟨c,rfl,rfl,fun _ _ _ _=>rfl⟩
 | (i0,v)::ps,c,hp,hn,hc=>by
  obtain⟨h1,h2⟩:=hp (i0,v) (by simp);simp only at h1 h2;rw[List.map_cons]at hn;obtain⟨n1,n2⟩:=List.nodup_cons.1 hn;have hle:i0*sz+sz<=c.size:=by
   have:=Nat.mul_le_mul_right sz (show i0+1<=n from h1);rw[Nat.add_mul]at this;omega
  have hfold:=zzS v.cells.toList 0 (i0*sz) c (by rw[Array.length_toList,h2];omega)
  let c1:Array Value:=v.cells.zipIdx.foldl (fun cs (x:Value×Nat)=>cs.setIfInBounds (i0*sz+x.2) x.1) c
  have hc1:c1.toList=ez3 c.toList v.cells.toList (i0*sz):=by
   simp only[c1];rw[<-Array.foldl_toList,Array.toList_zipIdx];exact hfold
  have hs1:c1.size=c.size:=by
   have:=congrArg List.length hc1;rw[jzH _ _ _ (by simp[h2];omega)]at this;simpa using this
  obtain⟨c',k1,k2,k3⟩:=KzO ps c1 (fun p hp'=>hp p (by simp[hp'])) n2 (by rw[hs1];exact hc);refine⟨c',?_,k2.trans hs1,fun i j hi hj=>?_⟩
  .simp only[Instr.fill];have hcond:(decide (v.cells.size≠sz)||decide (i0*sz+v.cells.size>c.size))=false:=by
    rw[h2];simp;omega
   simp only[hcond,Bool.false_eq_true,if_false];exact k1
  .rw[k3 i j hi hj];have hget:c1[i*sz+j]?=if i=i0 then v.cells[j]? else c[i*sz+j]?:=by
    rw[<-Array.getElem?_toList,hc1,nzq _ _ _ _ (by simp[h2];omega)];have hr:=row_index (i:=i) (i0:=i0) hj;simp only[Array.length_toList,h2];by_cases e:i=i0
    .subst e;rw[if_neg (by omega),if_pos (by omega),if_pos rfl,show i*sz+j-i*sz=j by omega];simp
    .rw[if_neg e];by_cases c1:i*sz+j<i0*sz
     .rw[if_pos c1];simp
     .rw[if_neg c1,if_neg (fun c2=>e (hr.1 ⟨by omega,c2⟩))];simp
   simp only[yzf];by_cases e:i=i0
   .subst e;rw[Hzm n1];simp[hget]
   .have:Nat.beq i i0=false:=by
     cases hb:Nat.beq i i0 with
     | false=>rfl
     | true=>exact absurd (Nat.eq_of_beq_eq_true hb) e
    simp only[this,cond_false,hget,if_neg e]
theorem yzk {e:Nat}{ρ:Operand->Option (SV tb.T)}{parts:List (Nat×Operand)}:∀{n i0:Nat} {xs:List (tb.T e)},izt P tb e ρ parts n i0=some xs ->
 xs.length=n/\∀(k:Nat) x,xs[k]?=some x->∃Nz0 cs,qzK P e ρ parts (i0+k)=some Nz0/\cvs Nz0=some cs/\cs.length=P.cellsOf e/\tb.dec e cs=some x
 | 0,i0,xs,h=>by simp only[izt,sE0]at h;subst h;simp
 | n+1,i0,xs,h=>by
  simp only[izt]at h;cases h1:qzK P e ρ parts i0 with
  | none=>simp[h1]at h
  | some Nz0 =>
   cases h2:cvs Nz0 with
   | none=>simp[h1,h2]at h
   | some cs =>
    cases h3:Nat.beq cs.length (P.cellsOf e)with
    | false=>simp[h1,h2,h3]at h
    | true =>
     cases h4:tb.dec e cs with
     | none=>simp[h1,h2,h3,h4]at h
     | some x0 =>
      cases h5:izt P tb e ρ parts n (i0+1)with
      | none=>simp[h1,h2,h3,h4,h5]at h
      | some xs' =>
       simp only[h1,h2,h3,h4,h5,cond_true,sE0]at h;subst h;obtain⟨k1,k2⟩:=yzk h5;refine⟨by simp[k1],fun k x hx=>?_⟩;cases k with
       | zero=>simp at hx;subst hx;exact⟨Nz0,cs,h1,h2,Nat.eq_of_beq_eq_true h3,h4⟩
       | succ k =>
        simp only[List.getElem?_cons_succ]at hx;obtain⟨as',cs',q⟩:=k2 k x hx;exact⟨as',cs',by rw[show i0+(k+1)=i0+1+k by omega];exact q.1,q.2⟩
theorem Jzu {e:Nat}{xs:List (tb.T e)}{c:Array Value}(hpos:0<P.cellsOf e)(hc:c.size=xs.length*P.cellsOf e)(hlen:∀x∈xs,(tb.enc e x).length=P.cellsOf e)
 (h:∀(i:Nat) x,xs[i]?=some x->∀j cv,(tb.enc e x)[j]?=some cv->∃v,c[i*P.cellsOf e+j]?=some v/\RepD P tb g w cv v):All2 (RepD P tb g w) (bzD tb e xs) c.toList:=by
 refine All2.of_get (by rw[izu hlen];simp[hc]) (fun k cv v hk hv=>?_);have hkl:k<xs.length*P.cellsOf e:=by rw[<-izu hlen];exact(List.getElem?_eq_some_iff.1 hk).1
 have h1:k/P.cellsOf e<xs.length:=Nat.div_lt_of_lt_mul (by rw[Nat.mul_comm];exact hkl);have h2:k%P.cellsOf e<P.cellsOf e:=Nat.mod_lt _ hpos;have h3:k/P.cellsOf e*P.cellsOf e+k%P.cellsOf e=k:=by have:=Nat.div_add_mod k (P.cellsOf e);rw[Nat.mul_comm]at this;exact this
 have hx:=List.getElem?_eq_getElem h1;have hf:=qzL hlen _ _ _ hx h2;rw[h3,hk]at hf;obtain⟨v',hv',hd⟩:=h _ _ hx _ _ hf.symm;rw[h3]at hv';have hvv:v'=v:=by
  rw[<-Array.getElem?_toList,hv]at hv';exact(Option.some.inj hv').symm
 subst hvv;exact hd
theorem JzP (h:SimAt P tb N W a0 g0 w0 D0 s g μ τ a w){Γ:List (Nat×FSpec tb)}{o:Oper}{t n:Nat}{parts:Array (Nat×Operand)}(ho:o.op = .buildSlice t n parts)(hd:∀d,o.dst=some d->d<N/\W d)
 (he:evOp P tb Γ o s some=some s'):o.wp P a w (Goes P tb N W a0 g0 w0 D0 s') Q:=by
 unfold evOp at he;rw[ho]at he;simp only at he;cases hdst:o.dst with
 | none=>simp[hdst]at he
 | some d =>
  simp only[hdst]at he;cases hel:izG P t with
  | none=>simp[hel]at he
  | some e =>
   simp only[hel]at he;have hu:=iz7 hel;cases hk:(czl (parts.toList.map (·.1))&&parts.toList.all (fun p=>Nat.blt p.1 n)&&Nat.ble (n*P.cellsOf e) 16777216&&Nat.blt 0 (P.cellsOf e)&&jz1 P e)with
   | false=>simp only[hk,cond_false]at he;cases he
   | true =>
    simp only[hk,cond_true]at he;simp only[Bool.and_eq_true]at hk;obtain⟨⟨⟨⟨hnd,hall⟩,hbig⟩,hpos⟩,hhz⟩:=hk;have hnd:=fzi.1 hnd;have hbig:n*P.cellsOf e<=16777216:=Nat.le_of_ble_eq_true hbig;have hpos:0<P.cellsOf e:=Nat.le_of_ble_eq_true hpos;cases hb:izt P tb e s.val parts.toList n 0 with
    | none=>simp[hb]at he
    | some xs =>
     simp only[hb]at he
     .obtain⟨hxl,hxs⟩:=yzk hb;have hρ:=bzu h;obtain⟨ie,hie⟩:=dz4 (P:=P) (t:=e) (by unfold czR;exact Nat.ble_eq_true_of_le hpos);have hsz:ie.size=P.cellsOf e:=by simp[Program.cellsOf,hie]
      have hpd:∀p∈parts.toList.map (fun p=>(p.1,a.eval p.2)),p.1<n:=fun p hp=>by
       simp only[List.mem_map]at hp;obtain⟨q,hq,rfl⟩:=hp;have:=List.all_eq_true.1 hall q hq;exact Nat.le_of_ble_eq_true this
      have hel':∀(k:Nat) x,xs[k]?=some x->∃us:List Value,us.length=P.cellsOf e/\All2 (RepD P tb g w) (tb.enc e x) us /\
       ((∃y,kzh k parts.toList=some y/\(a.eval y).cells.toList=us)\/(kzh k parts.toList=none/\∃z,ie.zero=some z/\z.cells.toList=us)):=fun k x hx=>by
       obtain⟨Nz0,cs,q1,q2,q3,q4⟩:=hxs k x hx;rw[Nat.zero_add]at q1;unfold qzK at q1;cases hp:kzh k parts.toList with
       | some y =>
        simp only[hp]at q1;cases hv:s.val y with
        | none=>simp[hv]at q1
        | some v =>
         simp only[hv]at q1;have hr:=ozp q1 (hρ y v hv).1;have hd':=jz9 q4 (iz6 q2 hr);refine⟨(a.eval y).cells.toList,?_,hd',.inl ⟨y,rfl,rfl⟩⟩;rw[<-q3,<-all_d q2];exact hr.length.symm
       | none =>
        simp only[hp]at q1;obtain⟨i,z,hi,hz,hr,_⟩:=nzC (P:=P) (g:=g) (w:=w) (μ:=μ) (τ:=τ) (tok:=s.tok) q1;rw[hie]at hi;injection hi with hi;subst hi;have hd':=jz9 q4 (iz6 q2 hr);refine⟨z.cells.toList,?_,hd',.inr ⟨rfl,z,hz,rfl⟩⟩;rw[<-q3,<-all_d q2];exact hr.length.symm
      have hlen:∀x∈xs,(tb.enc e x).length=P.cellsOf e:=fun x hx=>by
       obtain⟨i,hi,hx⟩:=List.getElem_of_mem hx;obtain⟨us,q1,q2,_⟩:=hel' i x (by rw[List.getElem?_eq_getElem hi,hx]);rw[q2.length,q1]
      have hpsz:∀p∈parts.toList.map (fun p=>(p.1,a.eval p.2)),p.2.cells.size=P.cellsOf e:=fun p hp=>by
       have hlt:=hpd p hp;simp only[List.mem_map]at hp;obtain⟨q,hq,rfl⟩:=hp;have hpa:=Gzk hnd hq;simp only at hlt;have hx:∃x,xs[q.1]?=some x:=⟨_,List.getElem?_eq_getElem (by rw[hxl];exact hlt)⟩;obtain⟨x,hx⟩:=hx;obtain⟨us,q1,q2,q3⟩:=hel' q.1 x hx;rcases q3 with⟨y,hy,hy'⟩|⟨hy,_⟩
       .rw[hpa]at hy;injection hy with hy;subst hy;rw[<-q1,<-hy'];simp
       .rw[hpa]at hy;cases hy
      rcases Nat.eq_zero_or_pos n with hn0|hn0
      .
       subst hn0;have hxs0:xs=[]:=List.eq_nil_of_length_eq_zero hxl;subst hxs0;have hp0:parts.map (fun p=>(p.1,a.eval p.2)) = #[]:=by
        apply Array.ext';rw[Array.toList_map];cases hpl:parts.toList.map (fun p=>(p.1,a.eval p.2))with
        | nil=>rfl
        | cons p ps=>have:=hpd p (by rw[hpl];simp);omega
       have hrun:(execOp a.eval o).run P w = .ok (.value (.slice (some ⟨w.heap.size,0,none⟩) 0 0)) {w with heap:=w.heap.push (.cells #[] e)}:=by
        have hp0':(Array.map (fun(x:Nat×Operand)=>match x with|(i,y)=>(i,a.eval y)) parts) = #[]:=hp0;have hr0:Array.range 0 = #[]:=rfl;simp[execOp,ho,Instr.buildSlice,run_underlying hu,czj ⟨ie,hie⟩,hp0',Instr.fill,newRow,hr0]
       refine czQ hrun ?_;rw[hdst];exact Bzc h (hd d hdst).1 (hd d hdst).2 he (us:=[]) rfl rfl rfl rfl hpos hlen (Nat.le_refl _) (Nat.zero_le _) trivial (by simp) (by simp) (by simp)
      .
       have hz:∃z,ie.zero=some z:=by
        simp only[jz1,hie]at hhz;cases hz:ie.zero with
        | none=>simp[hz]at hhz
        | some z=>exact⟨z,rfl⟩
       obtain⟨z,hz⟩:=hz;have hmul:0<n*P.cellsOf e:=Nat.mul_pos hn0 hpos
       let c0:Array Value:=(Array.range (n*P.cellsOf e)).map (z.cells[· % z.cells.size]!)
       have hc0:c0.size=n*P.cellsOf e:=by simp[c0]
       obtain⟨c',k1,k2,k3⟩:=KzO (sz:=P.cellsOf e) (n:=n) (parts.toList.map fun p=>(p.1,a.eval p.2)) c0 (fun p hp=>⟨hpd p hp,hpsz p hp⟩) (by rw[List.map_map];exact hnd) (by rw[hc0];exact Nat.le_refl _);have hrun:(execOp a.eval o).run P w = .ok (.value (.slice (some ⟨w.heap.size,0,none⟩) n n)) {w with heap:=w.heap.push (.cells c' e)}:=by
        have:=run_buildSlice (P:=P) w t e n (parts.map fun p=>(p.1,a.eval p.2)) c' ie z hu hie hz (by rw[hsz];omega) (by rw[hsz];omega) (by rw[hsz,Array.toList_map];exact k1);simp[execOp,ho,this]
       refine czQ hrun ?_;rw[hdst];have hc':c'.size=xs.length*P.cellsOf e:=by rw[k2,hc0,hxl]
       have hrows:All2 (RepD P tb g w) (bzD tb e xs) c'.toList:=Jzu hpos hc' hlen (fun i x hx j cv hj=>by
        have hi:i<n:=by rw[<-hxl];exact(List.getElem?_eq_some_iff.1 hx).1
        obtain⟨us,q1,q2,q3⟩:=hel' i x hx;have hj':j<P.cellsOf e:=by rw[<-hlen x (List.mem_of_getElem? hx)];exact(List.getElem?_eq_some_iff.1 hj).1
        obtain⟨v,hv,hd'⟩:=q2.get hj;refine⟨v,?_,hd'⟩;rw[k3 i j hi hj',JzD];rcases q3 with⟨y,hy,hy'⟩|⟨hy,z',hz',hy'⟩
        .rw[hy];simp only[Option.map_some];rw[<-Array.getElem?_toList,hy'];exact hv
        .rw[hy];simp only[Option.map_none];rw[hz]at hz';injection hz' with hz';subst hz';have hzs:z.cells.size=P.cellsOf e:=by rw[<-Array.length_toList,hy',q1]
         have hlt:i*P.cellsOf e+j<n*P.cellsOf e:=by
          have:=Nat.mul_le_mul_right (P.cellsOf e) (show i+1<=n from hi);rw[Nat.add_mul]at this;omega
         have hmod:(i*P.cellsOf e+j)%P.cellsOf e=j:=by rw[Nat.mul_comm,Nat.mul_add_mod];exact Nat.mod_eq_of_lt hj'
         simp only[c0,Array.getElem?_map,Array.getElem?_range,hlt,if_true,Option.map_some,hzs,hmod];rw[<-hy',Array.getElem?_toList]at hv;rw[getElem!_def,hv])
       have:=Bzc h (hd d hdst).1 (hd d hdst).2 he (us:=c'.toList) (c:=c') (fz:=(0,0)) (cap:=n) (w':={w with heap:=w.heap.push (.cells c' e)}) rfl rfl rfl rfl hpos hlen (by rw[hxl];exact Nat.le_refl _) (by unfold bz6;have:=Nat.le_mul_of_pos_right n hpos;omega) hrows (fun j v hv=>by simpa using hv) (by rw[hc',hxl];exact Nat.le_refl _) (by simp);rw[hxl]at this;exact this
end Go.Ev
namespace Go.Ev
open Go
open Go.IntKind (i64 u64 u8 i32 u32 i16 u16)
variable {P:Program} {tb:Tab} {N:Nat} {W:Nat->Prop} {a0:Act} {g0:Gh} {w0:World} {D0:Nat->Prop}
variable {s s':St tb.T} {g g':Gh} {μ μ':Nat->Nat} {τ τ':Nat->Option Nat} {a:Act} {w w':World}
variable {K:Act->World->Prop} {Q:Exit->Act->World->Prop}
theorem Jzv {e:Nat}{xs:List (tb.T e)}{c:Array Value}(hpos:0<P.cellsOf e)(hc:xs.length*P.cellsOf e<=c.size)(hlen:∀x∈xs,(tb.enc e x).length=P.cellsOf e)
 (h:∀(i:Nat) x,xs[i]?=some x->∀j cv,(tb.enc e x)[j]?=some cv->∃v,c[i*P.cellsOf e+j]?=some v/\RepD P tb g w cv v):All2 (RepD P tb g w) (bzD tb e xs) (c.toList.take (xs.length*P.cellsOf e)):=by
 have hl:(c.toList.take (xs.length*P.cellsOf e)).length=xs.length*P.cellsOf e:=by simp;omega
 have:=Jzu (P:=P) (tb:=tb) (g:=g) (w:=w) (e:=e) (xs:=xs) (c:=(c.toList.take (xs.length*P.cellsOf e)).toArray) hpos (by simp;omega) hlen (fun i x hx j cv hj=>by
  obtain⟨v,hv,hd⟩:=h i x hx j cv hj;refine⟨v,?_,hd⟩;have hi:i<xs.length:=(List.getElem?_eq_some_iff.1 hx).1;have hj':j<P.cellsOf e:=by rw[<-hlen x (List.mem_of_getElem? hx)];exact(List.getElem?_eq_some_iff.1 hj).1
  have hlt:i*P.cellsOf e+j<xs.length*P.cellsOf e:=by
   have:=Nat.mul_le_mul_right (P.cellsOf e) (show i+1<=xs.length from hi);rw[Nat.add_mul]at this;omega
  rw[List.getElem?_toArray,List.getElem?_take_of_lt hlt];simpa using hv)
 simpa using this
theorem MzD {α:Type}{B:Nat}{z:α}{l c:Int}{xs:List α}(h:tzI B z l c=some xs):0<=l/\l<=c/\c*B<=140737488355328/\xs=List.replicate l.toNat z:=by
 unfold tzI at h;cases hc:(decide (0<=l)&&decide (l<=c)&&decide (c*B<=140737488355328))with
 | false=>simp[hc]at h
 | true =>
  simp only[hc,cond_true,sE0]at h;simp only[Bool.and_eq_true,decide_eq_true_eq]at hc;exact⟨hc.1.1,hc.1.2,hc.2,h.symm⟩
theorem KzT (h:SimAt P tb N W a0 g0 w0 D0 s g μ τ a w){Γ:List (Nat×FSpec tb)}{o:Oper}{t:Nat}{ol oc:Operand}(ho:o.op = .makeSlice t ol oc)(hd:∀d,o.dst=some d->d<N/\W d)
 (he:evOp P tb Γ o s some=some s'):o.wp P a w (Goes P tb N W a0 g0 w0 D0 s') Q:=by
 unfold evOp at he;rw[ho]at he;simp only at he;cases hdst:o.dst with
 | none=>simp[hdst]at he
 | some d =>
  cases hel:izG P t with
  | none=>simp[hdst,hel]at he
  | some e =>
   cases hz:jzQ (T:=tb.T) P e with
   | none=>simp[hdst,hel,hz]at he
   | some z =>
    cases hcv:cvs z with
    | none=>simp[hdst,hel,hz,hcv]at he
    | some cs =>
     cases hk:(czR P e&&Nat.beq cs.length (P.cellsOf e))with
     | false=>simp only[hdst,hel,hz,hcv,hk,cond_false]at he;cases he
     | true =>
      cases hdec:tb.dec e cs with
      | none=>simp only[hdst,hel,hz,hcv,hk,cond_true,hdec]at he;cases he
      | some x =>
       simp only[hdst,hel,hz,hcv,hk,cond_true,hdec]at he;simp only[Bool.and_eq_true]at hk;obtain⟨hs,hcl⟩:=hk;have hpos:0<P.cellsOf e:=by unfold czR at hs;exact Nat.le_of_ble_eq_true hs
       have hcl:=Nat.eq_of_beq_eq_true hcl;split at he
       .rename_i li ci hl hc;have r1:=(bzu h ol _ hl).1;have r2:=(bzu h oc _ hc).1;generalize hul:a.eval ol=ul at r1;generalize huc:a.eval oc=uc at r2;cases r1;rename_i i1;cases r2;rename_i i2;obtain⟨xs,hx,he⟩:=azp.1 he;obtain⟨m0,m1,m2,rfl⟩:=MzD hx
        .have hu:=iz7 hel;obtain⟨ie,zv,hie,hzv,hzr,_⟩:=nzC (P:=P) (g:=g) (w:=w) (μ:=μ) (τ:=τ) (tok:=s.tok) hz;have hsz:ie.size=P.cellsOf e:=by simp[Program.cellsOf,hie]
         have hby:ie.bytes=P.bytesOf e:=by simp[Program.bytesOf,hie]
         have hzd:=jz9 hdec (iz6 hcv hzr);have hzs:zv.cells.size=P.cellsOf e:=by rw[<-Array.length_toList,<-hcl,<-all_d hcv];exact hzr.length.symm
         have hxl:(tb.enc e x).length=P.cellsOf e:=by rw[hzd.length,Array.length_toList,hzs]
         let c':Array Value:=(Array.range (ci.toNat*P.cellsOf e)).map (zv.cells[· % zv.cells.size]!)
         have hc':c'.size=ci.toNat*P.cellsOf e:=by simp[c']
         have hw1:i64.wrap li=li:=mzK i1;have hw2:i64.wrap ci=ci:=mzK i2;have hmul:(ie.bytes:Int)*ci<=140737488355328:=by rw[hby,Int.mul_comm];exact m2
         have htl:∀n:Int,0<=n->n<=ci->¬(n<0\/(ie.bytes:Int)*n>281474976710656):=fun n h0 h1=>by
          have:=Int.mul_le_mul_of_nonneg_left h1 (show(0:Int)<=(ie.bytes:Int) by omega);omega
         have hroom:¬(ci.toNat*ie.bytes>roomBytes):=by
          unfold roomBytes;have:((ci.toNat*ie.bytes:Nat):Int)=ci*ie.bytes:=by rw[Int.natCast_mul,Int.toNat_of_nonneg (by omega)]
          rw[Int.mul_comm]at hmul;omega
         have hrun:(execOp a.eval o).run P w = .ok (.value (.slice (some ⟨w.heap.size,0,none⟩) li.toNat ci.toNat)) {w with heap:=w.heap.push (.cells c' e)}:=by
          have hcond:(decide (ci<0)||decide ((ie.bytes:Int)*ci>2^48))=false:=by
           have:=htl ci (by omega) (by omega);simp;omega
          simp only[execOp,ho,Instr.makeSlice,Sem.run_bind,run_underlying hu,Result.andThen_ok,hul,huc,asInt,asIntOf,Sem.run_pure,jzG hie,hw1,hw2,hcond,Bool.false_or];rw[if_neg (by simp;omega)];simp only[askRoom,hroom,if_false,Sem.run_bind,Sem.run_pure,Result.andThen_ok,czj ⟨ie,hie⟩];by_cases h0:ci.toNat*P.cellsOf e=0
          .have hr0:Array.range 0 = #[]:=rfl;have hc0:c' = #[]:=by simp only[c',h0,hr0,Array.map_empty]
           simp only[h0,if_true,hr0,Array.map_empty,newRow,Sem.run_bind,DzA,Sem.run_pure,Result.andThen_ok,hc0]
          .simp only[h0,if_false,zeroValue,Sem.run_bind,jzG hie,hzv,newRow,DzA,Sem.run_pure,Result.andThen_ok];rfl
         refine czQ hrun ?_;rw[hdst];have hlr:(List.replicate li.toNat x).length=li.toNat:=by simp
         have hall:∀y∈List.replicate li.toNat x,(tb.enc e y).length=P.cellsOf e:=fun y hy=>by
          rw[(List.mem_replicate.1 hy).2];exact hxl
         have hle:li.toNat<=ci.toNat:=by omega
         have hle':=Nat.mul_le_mul_right (P.cellsOf e) hle;have:=Bzc h (hd d hdst).1 (hd d hdst).2 he (xs:=List.replicate li.toNat x) (us:=c'.toList.take (li.toNat*P.cellsOf e)) (c:=c') (fz:=(0,0)) (cap:=ci.toNat) (w':={w with heap:=w.heap.push (.cells c' e)}) rfl rfl rfl rfl hpos hall (by rw[hlr];exact hle) (by unfold bz6;unfold inR Ev.hi at i2;simp only[]at i2;omega)
          (by
           have:=Jzv (P:=P) (tb:=tb) (g:=g) (w:=w) (xs:=List.replicate li.toNat x) (c:=c') hpos (by rw[hlr,hc'];exact hle') hall (fun i y hy j cv hj=>by
            have hi:i<li.toNat:=by have:=(List.getElem?_eq_some_iff.1 hy).1;rwa[hlr]at this
            have hyx:y=x:=(List.mem_replicate.1 (List.mem_of_getElem? hy)).2;subst hyx;have hj':j<P.cellsOf e:=by rw[<-hxl];exact(List.getElem?_eq_some_iff.1 hj).1
            obtain⟨v,hv,hdv⟩:=hzd.get hj;refine⟨v,?_,hdv⟩;have hlt:i*P.cellsOf e+j<ci.toNat*P.cellsOf e:=by
             have:=Nat.mul_le_mul_right (P.cellsOf e) (show i+1<=ci.toNat by omega);rw[Nat.add_mul]at this;omega
            have hmod:(i*P.cellsOf e+j)%P.cellsOf e=j:=by rw[Nat.mul_comm,Nat.mul_add_mod];exact Nat.mod_eq_of_lt hj'
            simp only[c',Array.getElem?_map,Array.getElem?_range,hlt,if_true,Option.map_some,hzs,hmod];rw[Array.getElem?_toList]at hv;rw[getElem!_def,hv])
           rw[hlr]at this;exact this)
          (fun j v hv=>by
           have hj:j<li.toNat*P.cellsOf e:=by have:=(List.getElem?_eq_some_iff.1 hv).1;simp at this;omega
           rw[List.getElem?_take_of_lt hj]at hv;simpa using hv) (by rw[hc'];exact Nat.le_refl _) (by simp)
         rw[hlr]at this;exact this
       .cases he
end Go.Ev
namespace Go.Ev
open Go
open Go.IntKind (i64 u64 u8 i32 u32 i16 u16)
variable {P:Program} {tb:Tab} {N:Nat} {W:Nat->Prop} {a0:Act} {g0:Gh} {w0:World} {D0:Nat->Prop}
variable {s s':St tb.T} {g g':Gh} {μ μ':Nat->Nat} {τ τ':Nat->Option Nat} {a:Act} {w w':World}
variable {K:Act->World->Prop} {Q:Exit->Act->World->Prop}
theorem Cz7 {e:Nat}(he:e=tb.b8)(hl:tb.T e=UInt8)(ht:List UInt8=List (tb.T e))(l:List UInt8):
 (cast ht l:List (tb.T e)).length=l.length/\(∀x∈(cast ht l:List (tb.T e)),(tb.enc e x).length=1)/\bzD tb e (cast ht l)=l.map fun b=>CV.int .u8 (b.toNat:Int):=by
 have hb:=fun x=>b8_of he (l:=hl) x
 have key:∀(t:Type) (h1:t=UInt8) (h2:List UInt8=List t) (enc:t->List (CV tb.T)) (_:∀x:t,enc x=[.int .u8 ((cast h1 x).toNat:Int)]),
  (cast h2 l:List t).length=l.length/\(∀x∈(cast h2 l:List t),(enc x).length=1)/\(cast h2 l:List t).flatMap enc=l.map fun b=>CV.int .u8 (b.toNat:Int):=by
  intro t h1 h2 enc henc;subst h1;refine⟨rfl,fun x _=>by rw[henc];rfl,?_⟩
  show l.flatMap enc=_
  have:enc=fun b=>[CV.int .u8 (b.toNat:Int)]:=funext fun x=>by rw[henc];rfl
  rw[this];induction l with
  | nil=>rfl
  | cons b l ih=>simpa using ih
 exact key (tb.T e) hl ht (tb.enc e) hb
theorem Fzm (l:List UInt8):All2 (RepD P tb g w) (l.map fun b=>CV.int .u8 (b.toNat:Int)) (l.map fun b=>Value.int .u8 (b.toNat:Int)):=by
 induction l with
 | nil=>trivial
 | cons b l ih =>
  refine⟨.int _ _ ?_,ih⟩;have:=b.toNat_lt;unfold inR lo hi;simp only[];omega
theorem Bzr {need t:Nat}(h:need<2^63):need<=need+t%(2^63-need)/\need+t%(2^63-need)<2^63:=by
 have:=Nat.mod_lt t (show 2^63-need>0 by omega);omega
theorem go_bytes (h:SimAt P tb N W a0 g0 w0 D0 s g μ τ a w){Γ:List (Nat×FSpec tb)}{o:Oper}{src dst e d:Nat}{x:Operand}{l:List UInt8}(ho:o.op = .convert src dst x)(hdst:o.dst=some d)(hd:d<N/\W d)
 {ud:TypeDesc} (hs:P.underlying src=some ud) (hu:P.underlying dst=some (.slice e)) (hue:P.underlying e=some (.int .u8)) (hv:s.val x=some (.c (.d (.str l)))) (he:e=tb.b8) (hsz:P.cellsOf e=1) (ht:List UInt8=List (tb.T e))
 (hn:hzk tb Γ s d e (cast ht l) some=some s'):o.wp P a w (Goes P tb N W a0 g0 w0 D0 s') Q:=by
 .have r1:=(bzu h x _ hv).1;generalize hx:a.eval x=ux at r1;cases r1;rename_i hl;have hl8:tb.T e=UInt8:=by rw[he,tb.hb]
  obtain⟨b1,b2,b3⟩:=Cz7 he hl8 ht l;have hrun:=Lib.run_convert_string_bytes (P:=P) w src dst e ⟨l.toArray⟩ hs hu hue;rw[lzI]at hrun;have hcap:=Bzr (need:=l.length) (t:=w.tape w.drawn (.appendCap l.length 0 e)) (by unfold bz6 at hl;omega);have hg:grownCap w l.length 0 e=l.length+w.tape w.drawn (.appendCap l.length 0 e)%(2^63-l.length):=rfl;rw[<-hg]at hcap;have hexec:(execOp a.eval o).run P w = .ok (.value (.slice (some ⟨w.heap.size,0,none⟩) l.length (grownCap w l.length 0 e))) (Lib.bytesWorld w e ⟨l.toArray⟩):=by
   simp[execOp,ho,hx,hrun]
  refine czQ hexec ?_;rw[hdst];have hcs:(Lib.bytesCells w e ⟨l.toArray⟩).size=grownCap w l.length 0 e:=by
   simp only[Lib.bytesCells,lzI,Array.size_append,Array.size_map,Array.size_replicate]
   show l.toArray.size+_=_
   simp;omega
  have hheap:(Lib.bytesWorld w e ⟨l.toArray⟩).heap=w.heap.push (.cells (Lib.bytesCells w e ⟨l.toArray⟩) e ((Lib.bytesCells w e ⟨l.toArray⟩).size,(Lib.bytesCells w e ⟨l.toArray⟩).size+1)):=by
   apply Array.ext_getElem?;intro i;rcases Nat.lt_trichotomy i w.heap.size with c|c|c
   .rw[Lib.bytesWorld_at_old _ _ _ _ c,pzq _ _ _ c]
   .subst c;rw[Lib.bytesWorld_at_new,oz4]
   .rw[Array.getElem?_eq_none (by rw[Lib.bytesWorld_size];omega),Array.getElem?_eq_none (by simp;omega)]
  have hw3:(Lib.bytesWorld w e ⟨l.toArray⟩).os=w.os/\(Lib.bytesWorld w e ⟨l.toArray⟩).tape=w.tape/\(Lib.bytesWorld w e ⟨l.toArray⟩).output=w.output:=by
   unfold Lib.bytesWorld World.freeze;split<;>exact⟨rfl,rfl,rfl⟩
  have:=Bzc h hd.1 hd.2 hn (xs:=(cast ht l:List (tb.T e))) (us:=l.map fun b=>Value.int .u8 (b.toNat:Int)) (cap:=grownCap w l.length 0 e) hheap hw3.1 hw3.2.1 hw3.2.2
   (by omega) (fun y hy=>by rw[hsz];exact b2 y hy) (by rw[b1];exact hcap.1) (by unfold bz6;omega) (by rw[b3];exact Fzm l) (fun j v hv=>by
    simp only[Lib.bytesCells];rw[Array.getElem?_append_left (by
     have:=(List.getElem?_eq_some_iff.1 hv).1;simpa using this)]
    simpa using hv) (by rw[hsz,Nat.mul_one,hcs];exact Nat.le_refl _) (by intro i hi;simp only;omega)
  rw[b1]at this;exact this
theorem uzc (l:List UInt8):∀(n i:Nat) (acc:Array Value),Conv.runesFrom ⟨l.toArray⟩ n i acc=acc++((mzu l n i).map (Value.int .i32)).toArray
 | 0,_,acc=>by simp[Conv.runesFrom,mzu]
 | n+1,i,acc=>by
  unfold Conv.runesFrom mzu;have hsz:(⟨l.toArray⟩:ByteArray).size=l.length:=by simp[ByteArray.size]
  rw[hsz];by_cases h:i<l.length
  .have hb:Nat.blt i l.length=true:=Nat.ble_eq_true_of_le h;rw[if_pos h,hb,cond_true]
   show Conv.runesFrom _ _ (i+(rune l i).2) (acc.push (.int .i32 (Int.ofNat (rune l i).1)))=_
   rw[uzc l n];simp
  .have hb:Nat.blt i l.length=false:=by
    cases hb:Nat.blt i l.length with
    | false=>rfl
    | true=>exact absurd (Nat.le_of_ble_eq_true hb) h
   rw[if_neg h,hb,cond_false];simp
theorem yzH (l:List UInt8):∀(n i:Nat),(mzu l n i).length<=n
 | 0,_=>by simp[mzu]
 | n+1,i=>by
  unfold mzu;have:=yzH l n (i+(rune l i).2);cases Nat.blt i l.length<;>simp<;>omega
theorem Jzx (l:List UInt8):∀(n i:Nat),∀r∈mzu l n i,inR .i32 r
 | 0,_,r,h=>by simp[mzu]at h
 | n+1,i,r,h=>by
  unfold mzu at h;cases hb:Nat.blt i l.length with
  | false=>simp[hb]at h
  | true =>
   simp only[hb,cond_true,List.mem_cons]at h;rcases h with rfl|h
   .have:=Fzs ⟨l.toArray⟩ i;unfold inR lo Ev.hi;simp only[rune];omega
   .exact Jzx l n _ r h
theorem NzO {l:List UInt8}{rs:List Int}(h:BzL l=some rs):l.length<=70368744177664/\rs=mzu l l.length 0:=by
 unfold BzL at h;cases hb:Nat.ble l.length 70368744177664 with
 | false=>simp[hb]at h
 | true=>simp only[hb,cond_true,sE0]at h;exact⟨Nat.le_of_ble_eq_true hb,h.symm⟩
theorem MzN {e:Nat}(he:tb.r4=some e)(ht:List Int=List (tb.T e))(l:List Int):
 (cast ht l:List (tb.T e)).length=l.length/\(∀x∈(cast ht l:List (tb.T e)),(tb.enc e x).length=1)/\bzD tb e (cast ht l)=l.map fun r=>CV.int .i32 r:=by
 have key:∀(t:Type) (h1:t=Int) (h2:List Int=List t) (enc:t->List (CV tb.T)) (_:∀x:t,enc x=[.int .i32 (cast h1 x)]),
  (cast h2 l:List t).length=l.length/\(∀x∈(cast h2 l:List t),(enc x).length=1)/\(cast h2 l:List t).flatMap enc=l.map fun r=>CV.int .i32 r:=by
  intro t h1 h2 enc henc;subst h1;refine⟨rfl,fun x _=>by rw[henc];rfl,?_⟩
  show l.flatMap enc=_
  have:enc=fun b=>[CV.int .i32 b]:=funext fun x=>by rw[henc];rfl
  rw[this];induction l with
  | nil=>rfl
  | cons b l ih=>simpa using ih
 exact key (tb.T e) (tb.hr e he) ht (tb.enc e) (tb.hre e he)
theorem NzN {l:List Int}(h:∀r∈l,inR .i32 r):All2 (RepD P tb g w) (l.map fun r=>CV.int .i32 r) (l.map (Value.int .i32)):=by
 induction l with
 | nil=>trivial
 | cons b l ih=>exact⟨.int _ _ (h b (List.mem_cons_self ..)),ih fun r hr=>h r (List.mem_cons_of_mem _ hr)⟩
theorem go_runes (h:SimAt P tb N W a0 g0 w0 D0 s g μ τ a w){Γ:List (Nat×FSpec tb)}{o:Oper}{src dst e d:Nat}{x:Operand}{l:List UInt8}{rs:List Int}(ho:o.op = .convert src dst x)(hdst:o.dst=some d)(hd:d<N/\W d)
 (hs:P.underlying src=some .string) (hu:P.underlying dst=some (.slice e)) (hue:P.underlying e=some (.int .i32)) (hv:s.val x=some (.c (.d (.str l)))) (he:tb.r4=some e) (hsz:P.cellsOf e=1) (hrs:BzL l=some rs)
 (ht:List Int=List (tb.T e)) (hn:hzk tb Γ s d e (cast ht rs) some=some s'):o.wp P a w (Goes P tb N W a0 g0 w0 D0 s') Q:=by
 .have r1:=(bzu h x _ hv).1;generalize hx:a.eval x=ux at r1;cases r1;rename_i hl;obtain⟨hlen,hre⟩:=NzO hrs;obtain⟨b1,b2,b3⟩:=MzN he ht rs;have hrl:rs.length<=l.length:=by rw[hre];exact yzH l _ _
  have hin:∀r∈rs,inR .i32 r:=by rw[hre];exact Jzx l _ _
  have hfrom:Conv.runesFrom ⟨l.toArray⟩ (⟨l.toArray⟩:ByteArray).size 0 #[]=(rs.map (Value.int .i32)).toArray:=by
   have hsz:(⟨l.toArray⟩:ByteArray).size=l.length:=by simp[ByteArray.size]
   rw[uzc,hsz,<-hre];simp
  have hrun:=run_runes_of_string (P:=P) w src dst e ⟨l.toArray⟩ hs hu hue (by rw[hfrom];simp;omega);rw[hfrom]at hrun;have hsize:(rs.map (Value.int .i32)).toArray.size=rs.length:=by simp
  rw[hsize]at hrun;have hcap:=Bzr (need:=rs.length) (t:=w.tape w.drawn (.appendCap rs.length 0 e)) (by omega);have hg:grownCap w rs.length 0 e=rs.length+w.tape w.drawn (.appendCap rs.length 0 e)%(2^63-rs.length):=rfl;rw[<-hg]at hcap;have hexec:(execOp a.eval o).run P w = .ok (.value (.slice (some ⟨w.heap.size,0,none⟩) rs.length (grownCap w rs.length 0 e)))
   (w.drew.alloc (.cells ((rs.map (Value.int .i32)).toArray++Array.replicate (grownCap w rs.length 0 e-rs.length) (.int .i32 0)) e)):=by
   simp[execOp,ho,hx,hrun]
  refine czQ hexec ?_;rw[hdst];have hcs:((rs.map (Value.int .i32)).toArray++Array.replicate (grownCap w rs.length 0 e-rs.length) (Value.int .i32 0)).size=grownCap w rs.length 0 e:=by
   simp;omega
  have:=Bzc h hd.1 hd.2 hn (xs:=(cast ht rs:List (tb.T e))) (us:=rs.map (Value.int .i32)) (cap:=grownCap w rs.length 0 e)
   (w':=w.drew.alloc (.cells ((rs.map (Value.int .i32)).toArray++Array.replicate (grownCap w rs.length 0 e-rs.length) (.int .i32 0)) e)) rfl rfl rfl rfl
   (by omega) (fun y hy=>by rw[hsz];exact b2 y hy) (by rw[b1];exact hcap.1) (by unfold bz6;omega) (by rw[b3];exact NzN hin) (fun j v hv=>by
    rw[Array.getElem?_append_left (by
     have:=(List.getElem?_eq_some_iff.1 hv).1;simpa using this)]
    simpa using hv) (by rw[hsz,Nat.mul_one,hcs];exact Nat.le_refl _) (by intro i hi;simp)
  rw[b1]at this;exact this
theorem DzL {α:Type}{B:Nat}{xs ys zs:List α}(h:app B xs ys=some zs):(xs.length+ys.length)*B<=140737488355328/\zs=xs++ys:=by
 unfold app at h;cases hc:Nat.ble ((xs.length+ys.length)*B) 140737488355328 with
 | false=>simp[hc]at h
 | true=>simp only[hc,cond_true,sE0]at h;exact⟨Nat.le_of_ble_eq_true hc,h.symm⟩
def Src (P:Program)(tb:Tab)(g:Gh)(w:World)(e:Nat)(ys:List (tb.T e))(v:Value)(us:List Value):Prop:=us.length=ys.length*P.cellsOf e/\All2 (RepD P tb g w) (bzD tb e ys) us/\(∀x∈ys,(tb.enc e x).length=P.cellsOf e)/\(∀w1:World,w1.heap=w.heap->(Builtin.lenOf v).run P w1 = .ok ys.length w1/\(Builtin.firstCells (P.cellsOf e) ys.length v).run P w1 = .ok us.toArray w1)
theorem JzB {e:Nat}{ys:List (tb.T e)}{v:Value}(hr:RepD P tb g w (.sl e ys) v):∃us,Src P tb g w e ys v us:=by
 rcases(fzf hr).2 with⟨hv,rfl⟩|⟨b,off,cap,rfl,_⟩
 .rcases hv with rfl|⟨x,cap,rfl,_⟩
  .exact⟨[],by simp,trivial,by simp,fun w1 _=>⟨by simp[Builtin.lenOf],by simp[Builtin.firstCells]⟩⟩
  .exact⟨[],by simp,trivial,by simp,fun w1 _=>⟨by simp[Builtin.lenOf],by simpa[Builtin.firstCells]using gz1 (P:=P) (w:=w1) x [] (by simp)⟩⟩
 .obtain⟨us,h1,h2,h3,h4⟩:=DzF hr;refine⟨us,h1,h2,h4,fun w1 hw=>⟨by simp[Builtin.lenOf],?_⟩⟩;have:=gz1 (P:=P) (w:=w1) ⟨b,off,none⟩ us (fun j v hv=>by
   rw[ezm,czK (w:=w) (by rw[hw])];exact h3 j v hv)
  rw[h1]at this;simp[Builtin.firstCells,this]
theorem src_str {e:Nat}(he:e=tb.b8)(hl:tb.T e=UInt8)(ht:List UInt8=List (tb.T e))(hsz:P.cellsOf e=1)(l:List UInt8):∃us,Src P tb g w e (cast ht l) (.string ⟨l.toArray⟩) us:=by
 obtain⟨b1,b2,b3⟩:=Cz7 he hl ht l;refine⟨l.map fun b=>Value.int .u8 (b.toNat:Int),by simp[b1,hsz],by rw[b3];exact Fzm l,fun x hx=>by rw[hsz];exact b2 x hx,fun w1 _=>⟨by simp[Builtin.lenOf,lzI,b1],?_⟩⟩;rw[b1];simp only[Builtin.firstCells,Sem.run_pure];congr 1;have:(⟨l.toArray⟩:ByteArray).extract 0 l.length=⟨l.toArray⟩:=by
  rw[Lib.extract_eq];simp
 rw[this];simp
theorem src_win {e o n:Nat}{xs ys:List (tb.T e)}{v:Value}{b?:Option Nat}(ha:fzB P tb g w b? e xs)(hw:win xs o n=some ys)(hv:(n=0/\∃q,v = .slice q 0 0)\/∃k cap,b?=some k/\v = .slice (some ⟨k,o*P.cellsOf e,none⟩) n cap/\n<=cap):
 ys.length=n/\ys=(xs.drop o).take n/\∃us,Src P tb g w e ys v us:=by
 unfold win at hw;cases hb:Nat.ble (o+n) xs.length with
 | false=>simp[hb]at hw
 | true =>
  simp only[hb,cond_true,sE0]at hw;subst hw;have hle:=Nat.le_of_ble_eq_true hb;have hlen:((xs.drop o).take n).length=n:=by simp;omega
  refine⟨hlen,rfl,?_⟩;rcases hv with⟨rfl,q,rfl⟩|⟨k,cap,hk,rfl,hc⟩
  .have e0:(xs.drop o).take 0=[]:=by simp
   rw[e0];refine⟨[],by simp,trivial,by simp,fun w1 _=>⟨by simp[Builtin.lenOf],?_⟩⟩;cases q with
   | none=>simp[Builtin.firstCells]
   | some q=>simpa[Builtin.firstCells]using gz1 (P:=P) (w:=w1) q [] (by simp)
  .subst hk;rcases ha with⟨h,_⟩|⟨b,us,fz,h0,h1,h2,h3,h4,h5,h6,h8⟩
   .cases h
   injection h0 with h0;subst h0;have hmul:(o+n)*P.cellsOf e<=us.size:=Nat.le_trans (Nat.mul_le_mul_right _ hle) h5;rw[Nat.add_mul]at hmul;have hall:∀x∈(xs.drop o).take n,(tb.enc e x).length=P.cellsOf e:=fun x hx=>h6 x (List.mem_of_mem_drop (List.mem_of_mem_take hx))
   have hrows:=Jzv (P:=P) (tb:=tb) (g:=g) (w:=w) (xs:=(xs.drop o).take n) (c:=(us.toList.drop (o*P.cellsOf e)).toArray) h4 (by rw[hlen];simp;omega) hall (fun i x hx j cv hj=>by
    have hi:i<n:=by have:=(List.getElem?_eq_some_iff.1 hx).1;omega
    rw[List.getElem?_take_of_lt hi,List.getElem?_drop]at hx;obtain⟨u,hu,hr⟩:=h8 (o+i) x j cv hx hj;refine⟨u,?_,hr⟩;rw[List.getElem?_toArray,List.getElem?_drop];rw[Nat.add_mul,Nat.add_assoc]at hu;simpa using hu)
   rw[hlen]at hrows;refine⟨(us.toList.drop (o*P.cellsOf e)).take (n*P.cellsOf e),?_,by simpa using hrows,hall,fun w1 hw1=>⟨by simp only[Builtin.lenOf,hlen,Sem.run_pure],?_⟩⟩
   .rw[hlen];simp;omega
   .have hl:((us.toList.drop (o*P.cellsOf e)).take (n*P.cellsOf e)).length=n*P.cellsOf e:=by simp;omega
    have:=gz1 (P:=P) (w:=w1) ⟨k,o*P.cellsOf e,none⟩ ((us.toList.drop (o*P.cellsOf e)).take (n*P.cellsOf e)) (fun j v hv=>by
     have hj:j<n*P.cellsOf e:=by rw[<-hl];exact(List.getElem?_eq_some_iff.1 hv).1
     rw[List.getElem?_take_of_lt hj,List.getElem?_drop]at hv;rw[ezm,czK (w:=w) (by rw[hw1])];unfold World.cell?;simp only[h2];simpa using hv)
    rw[hl]at this;rw[hlen];simp[Builtin.firstCells,this]
theorem Jzd (need:Nat):∀(r c:Nat),c<=need+(need+768)/4->Builtin.growBy need r c<=need+(need+768)/4
 | 0,c,h=>h
 | r+1,c,h=>by
  simp only[Builtin.growBy];split
  .exact h
  .refine Jzd need r _ ?_;omega
theorem Gzg {need old:Nat}(h:old<need):Builtin.nextslicecap need old<=2*need:=by
 unfold Builtin.nextslicecap;split
 .omega
 .split
  .omega
  .have:=Jzd need 4 old (by omega);omega
theorem wz7 (z:Array Value)(n:Nat):(Builtin.zeroCells z n).size=n*z.size:=by simp[Builtin.zeroCells]
theorem mz1 {st xt e ty n sLen sCap:Nat}{base:Option Addr}{xv:Value}{us:Array Value}(hel:P.underlying st=some (.slice e))(hxt:(∃e2,P.underlying xt=some (.slice e2))\/P.underlying xt=some .string)
 (hi:∃i,P.info? e=some i) (hlen:(Builtin.lenOf xv).run P w = .ok n w) (hfc:(Builtin.firstCells (P.cellsOf e) n xv).run P w = .ok us w) (hroom:sLen+n<=sCap)
 (hst:(match base with|some a=>storeCells (a.add (sLen*P.cellsOf e)) us.toList|none=>pure ()).run P w = .ok () w') :
 (Builtin.append_ #[st,xt] ty #[.slice base sLen sCap,xv]).run P w = .ok (.slice base (sLen+n) sCap) w':=by
 unfold Builtin.append_;rcases hxt with⟨e2,hx⟩|hx
 .simp only[List.getElem?_toArray,List.getElem?_cons_zero,List.getElem?_cons_succ,Sem.run_bind,run_underlying hel,run_underlying hx,Result.andThen_ok,czj hi,hlen,Bool.false_eq_true,if_false,Sem.run_pure,hroom,if_true];cases base with
  | none=>simp only[]at hst;simp only[Sem.run_pure]at hst;simp[hfc];injection hst
  | some a=>simp only[]at hst;simp[hfc,hst]
 .simp only[List.getElem?_toArray,List.getElem?_cons_zero,List.getElem?_cons_succ,Sem.run_bind,run_underlying hel,run_underlying hx,Result.andThen_ok,czj hi,hlen,Bool.false_eq_true,if_false,Sem.run_pure,hroom,if_true];cases base with
  | none=>simp only[]at hst;simp only[Sem.run_pure]at hst;simp[hfc];injection hst
  | some a=>simp only[]at hst;simp[hfc,hst]
theorem uz5 {st xt e ty n sLen sCap:Nat}{base:Option Addr}{xv z:Value}{us os:Array Value}{ie:TypeInfo}(hel:P.underlying st=some (.slice e))(hxt:(∃e2,P.underlying xt=some (.slice e2))\/P.underlying xt=some .string)
 (hie:P.info? e=some ie) (hz:ie.zero=some z) (hlen:(Builtin.lenOf xv).run P w = .ok n w) (hroom:¬sLen+n<=sCap) (hby:ie.bytes≠0) (hlim:Builtin.nextslicecap (sLen+n) sCap*ie.bytes<=2^48) (_hneed:sLen+n<2^63)
 (hold:(Builtin.firstCells (P.cellsOf e) sLen (.slice base sLen sCap)).run P w.drew = .ok os w.drew) (hfc:(Builtin.firstCells (P.cellsOf e) n xv).run P w.drew = .ok us w.drew) :
 (Builtin.append_ #[st,xt] ty #[.slice base sLen sCap,xv]).run P w =
  .ok (.slice (some ⟨w.heap.size,0,none⟩) (sLen+n) (grownCap w (sLen+n) sCap e)) {w.drew with heap:=w.heap.push (.cells (os++us++Builtin.zeroCells z.cells (grownCap w (sLen+n) sCap e-(sLen+n))) e)}:=by
 have hl1:¬(Builtin.nextslicecap (sLen+n) sCap*ie.bytes>2^48):=by omega
 have hch:(choose (.appendCap (sLen+n) sCap e)).run P w = .ok (grownCap w (sLen+n) sCap e) w.drew:=by
  simp[choose,Sem.run,Question.forced];rfl
 have hask:∀(k:Nat) (w1:World),(askRoom k).run P w1 = .ok () w1:=fun k w1=>by
  unfold askRoom;split<;>simp[mark,Sem.run]
 unfold Builtin.append_;rcases hxt with⟨e2,hx⟩|hx
 .simp only[List.getElem?_toArray,List.getElem?_cons_zero,List.getElem?_cons_succ,Sem.run_bind,run_underlying hel,run_underlying hx,Result.andThen_ok,czj ⟨ie,hie⟩,hlen,Bool.false_eq_true,if_false,Sem.run_pure,hroom,jzG hie,hby,false_or,and_false,hl1,hch,hask,hold,zeroValue,hz];simp[hfc,newRow];rw[<-Array.append_assoc];rfl
 .simp only[List.getElem?_toArray,List.getElem?_cons_zero,List.getElem?_cons_succ,Sem.run_bind,run_underlying hel,run_underlying hx,Result.andThen_ok,czj ⟨ie,hie⟩,hlen,Bool.false_eq_true,if_false,Sem.run_pure,hroom,jzG hie,hby,false_or,and_false,hl1,hch,hask,hold,zeroValue,hz];simp[hfc,newRow];rw[<-Array.append_assoc];rfl
theorem yzq (h:SimAt P tb N W a0 g0 w0 D0 s g μ τ a w){o:Oper}{st xt e d:Nat}{args:Array Operand}(ho:o.op = .call {callee:=.builtin .append,args:=args,argTypes:=#[st,xt]})(hdst:o.dst=some d)(hd:d<N/\W d)
 (hel:P.underlying st=some (.slice e)) (hxt:(∃e2,P.underlying xt=some (.slice e2))\/P.underlying xt=some .string) (hs:czR P e=true) (hz:jz1 P e=true) (hb:0<P.bytesOf e)
 {ids:List Nat} {xs ys:List (tb.T e)} {sv xv:Value} {b?:Option Nat} {us:List Value} (hargs:args.map a.eval = #[sv,xv]) (hsv:RepD P tb g w (.sl e xs) sv) (how:Bzm P g w b? e xs.length sv) (hsrc:Src P tb g w e ys xv us)
 (hlim:(xs.length+ys.length)*P.bytesOf e<=140737488355328) (hus:s.used d=false)
 (hbo:∀b,b?=some b->(w0.heap.size<=b\/D0 b)/\(∀t,s.tok t=true->memB t ids=false->τ t≠some b)/\∀i,s.arr i≠none->τ i≠some b) :
 o.wp P a w (Goes P tb N W a0 g0 w0 D0 {s.drop ids with env:=upd s.env d (some (.c (.own e (xs++ys) d))),tok:=upd (s.drop ids).tok d true,used:=upd s.used d true}) Q:=by
 obtain⟨u1,u2,u3,u4⟩:=hsrc;obtain⟨ie,hie⟩:=dz4 hs;have hpos:0<P.cellsOf e:=by unfold czR at hs;exact Nat.le_of_ble_eq_true hs
 have hisz:ie.size=P.cellsOf e:=by simp[Program.cellsOf,hie]
 have hiby:ie.bytes=P.bytesOf e:=by simp[Program.bytesOf,hie]
 obtain⟨z,hzv,hzs⟩:∃z,ie.zero=some z/\z.cells.size=P.cellsOf e:=by
  simp only[jz1,hie]at hz;cases hq:ie.zero with
  | none=>simp[hq]at hz
  | some z=>simp only[hq]at hz;exact⟨z,rfl,by rw[<-hisz];exact Nat.eq_of_beq_eq_true hz⟩
 have hneed:xs.length+ys.length<=140737488355328:=Nat.le_trans (Nat.le_mul_of_pos_right _ hb) hlim;obtain⟨⟨y0,cap,hsve,hcap1,hcap2⟩,hsc⟩:=fzf hsv;have hall:∀x∈xs++ys,(tb.enc e x).length=P.cellsOf e:=fun x hx=>by
  rcases List.mem_append.1 hx with hx|hx
  .rcases hsc with⟨_,rfl⟩|⟨b,off,cap',hv,q1,q2,q3,_⟩
   .simp at hx
   .obtain⟨i,hi,hx⟩:=List.getElem_of_mem hx;exact q3 i x (by rw[List.getElem?_eq_getElem hi,hx])
  .exact u3 x hx
 have hcells:bzD tb e (xs++ys)=bzD tb e xs++bzD tb e ys:=by simp[bzD]
 have hexec:∀r w1,(Builtin.append_ #[st,xt] o.type #[sv,xv]).run P w = .ok r w1->(execOp a.eval o).run P w = .ok (.value r) w1:=fun r w1 hr=>by
  simp[execOp,ho,resolve,invoke,builtin,hargs,hr]
 obtain⟨hlen,hfc⟩:=u4 w rfl;by_cases hroom:xs.length+ys.length<=cap
 .
  rcases how with⟨hsv0,hb0,hl0⟩|⟨b,off,cap',cells,el,fz,hbs,hsvo,hgb,hheap,hcs,hlc,hfz,hoff0,hele⟩
  .
   rw[hsv0]at hsve;injection hsve with e1 e2 e3;have hx0:xs=[]:=List.eq_nil_of_length_eq_zero hl0;subst hx0;have hy0:ys=[]:=List.eq_nil_of_length_eq_zero (by simp at hroom;omega);subst hy0;have hu0:us=[]:=List.eq_nil_of_length_eq_zero (by rw[u1];simp);subst hu0;have hr:(Builtin.append_ #[st,xt] o.type #[sv,xv]).run P w = .ok (.slice none 0 0) w:=by
    rw[hsv0];exact mz1 hel hxt ⟨ie,hie⟩ hlen hfc (Nat.le_refl _) (by simp)
   refine czQ (hexec _ _ hr) ?_;rw[hdst];exact(h.own (D:=fun _=>False) (b?:=none) (Ext.refl _ _ _) ids hd.1 hd.2 hus (fun _ _ f=>f.elim) (fun _ _ _ _ _ f=>f) (fun _ _ f=>f) (by simp) (fun _ _ _ _ c=>by simp at c) (xs:=([]++[]:List (tb.T e))) (.slnil e) (.inl ⟨rfl,rfl,rfl⟩)).sim
  .
   rw[hsvo]at hsve;injection hsve with e1 e2 e3;subst e3;subst hsvo;have hblt:b<w.heap.size:=(Array.getElem?_eq_some_iff.1 hheap).1;have hmul:(xs.length+ys.length)*P.cellsOf e<=cap'*P.cellsOf e:=Nat.mul_le_mul_right _ hroom;have hadd:(xs.length+ys.length)*P.cellsOf e=xs.length*P.cellsOf e+ys.length*P.cellsOf e:=Nat.add_mul _ _ _;have hone:∀u∈us,Value.one u=true:=fun u hu=>by
    obtain⟨j,hj,hu⟩:=List.getElem_of_mem hu;have hj':j<(bzD tb e ys).length:=by rw[u2.length];exact hj
    obtain⟨u',hu',hd'⟩:=u2.get (List.getElem?_eq_getElem hj');rw[List.getElem?_eq_getElem hj,hu]at hu';simp only[sE0]at hu';subst hu';revert hd';generalize (bzD tb e ys)[j]=cc;intro hd';cases hd'<;>rfl
   obtain⟨w1,c',k1,k2,k3⟩:=kzv P (b:=b) (o:=off+xs.length*P.cellsOf e) (el:=el) (fz:=fz) us 0 cells w hheap (by rw[u1];omega) hfz hone;rw[Nat.add_zero]at k3;have hrun:=mz1 (P:=P) (ty:=o.type) (base:=some ⟨b,off,none⟩) (us:=us.toArray) hel hxt ⟨ie,hie⟩ hlen hfc hroom (w':=w1) (by simp only[ezm];exact k1);refine czQ (hexec _ _ hrun) ?_;rw[hdst];have hc'len:c'.size=cells.size:=by
    have:=congrArg List.length k3;rw[jzH _ _ _ (by rw[u1];simp;omega)]at this;simpa using this
   have hget:∀i,c'[i]?=if i<off+xs.length*P.cellsOf e then cells[i]? else if i<off+xs.length*P.cellsOf e+us.length then us[i-(off+xs.length*P.cellsOf e)]? else cells[i]?:=fun i=>by
    rw[<-Array.getElem?_toList,k3,nzq _ _ _ _ (by rw[u1];simp;omega)];simp
   have hext:=Ext.arr1 (g:=g) (n':=off+(xs.length+ys.length)*P.cellsOf e) hheap k2 hgb (by omega) (fun i hi=>by rw[hget,if_pos hi]) hc'len;have hold:∃os:List Value,os.length=xs.length*P.cellsOf e/\All2 (RepD P tb g w) (bzD tb e xs) os/\(∀(j:Nat) v,os[j]?=some v->w.cell? ⟨b,off+j,none⟩=some v):=by
    obtain⟨os,q1,q2,q3,_⟩:=DzF hsv;exact⟨os,q1,q2,q3⟩
   obtain⟨os,q1,q2,q3⟩:=hold;refine(h.own (D:=fun i=>i=b) (b?:=some b) hext ids hd.1 hd.2 hus (fun b' _ hb'=>by subst hb';exact(hbo b' hbs).1) (fun t b' ht hm hb' e'=>(hbo b hbs).2.1 t ht hm (by rw[hb',e'])) (fun i hi e'=>by
    have:=(h.live i hi).2.1;rw[e',hgb]at this;cases this) (fun b' hb'=>?_) (fun i hi b' hb' c=>(hbo b hbs).2.2 i hi (by
     rcases c with c|c
     .rw[hb',c]
     .rw[hb',<-c])) (xs:=xs++ys) ?_ ?_).sim
   .injection hb' with hb';subst hb';exact⟨⟨_,azh _ _ _⟩,by rw[k2.size];exact hblt,(hbo b hbs).1,fun t ht hm=>(hbo b hbs).2.1 t ht hm⟩
   .have hll:(xs++ys).length=xs.length+ys.length:=by simp
    have:=DzE (P:=P) (tb:=tb) (g:=upd g b (.ar (off+(xs.length+ys.length)*P.cellsOf e))) (w:=w1) (xs:=xs++ys) (b:=b) (off:=off) (cap:=cap') (us:=os++us) hall (by rw[hll];exact hroom) hcap2
     (fun _=>⟨by rw[k2.size];exact hblt,.inr ⟨_,azh _ _ _,by rw[hll];exact Nat.le_refl _⟩⟩)
     (by rw[hcells];exact(q2.append u2).mono fun _ _ _ r=>r.mono hext.keeps)
     (fun j v hv=>by
      unfold World.cell?;simp only[k2.new];rw[if_neg (by simp),hget];rcases Nat.lt_or_ge j os.length with c1|c1
      .rw[List.getElem?_append_left c1]at hv;rw[if_pos (by omega)];have:=q3 j v hv;unfold World.cell? at this;simp only[hheap]at this;simpa using this
      .rw[List.getElem?_append_right c1]at hv;have:j-os.length<us.length:=(List.getElem?_eq_some_iff.1 hv).1;rw[if_neg (by omega),if_pos (by omega)];rw[<-hv];congr 1;omega)
    rw[hll]at this;exact this
   .refine .inr ⟨b,off,cap',c',el,fz,rfl,by simp,by rw[azh];simp,k2.new,by rw[hc'len];exact hcs,by simpa using hroom,fun i hi=>hfz i (by rw[<-hc'len];exact hi),hoff0,hele⟩
 .
  have hbn:ie.bytes≠0:=by rw[hiby];omega
  have hnc:Builtin.nextslicecap (xs.length+ys.length) cap*ie.bytes<=2^48:=by
   have h1:=Gzg (need:=xs.length+ys.length) (old:=cap) (by omega);have h2:=Nat.mul_le_mul_right ie.bytes h1;rw[hiby]at h2 ⊢;rw[Nat.mul_assoc]at h2;omega
  have hneed':xs.length+ys.length<2^63:=by omega
  have hold:∃os:List Value,os.length=xs.length*P.cellsOf e/\All2 (RepD P tb g w) (bzD tb e xs) os/\∃base,sv = .slice base xs.length cap/\(Builtin.firstCells (P.cellsOf e) xs.length (.slice base xs.length cap)).run P w.drew = .ok os.toArray w.drew:=by
   obtain⟨os,q1,q2,q3,q4⟩:=JzB hsv;exact⟨os,q1,q2,y0,hsve,by rw[<-hsve];exact(q4 w.drew rfl).2⟩
  obtain⟨os,q1,q2,base,q3,q4⟩:=hold;have hrun:=uz5 (P:=P) (ty:=o.type) (base:=base) (us:=us.toArray) (os:=os.toArray) hel hxt hie hzv hlen hroom hbn hnc hneed' q4 (u4 w.drew rfl).2;rw[<-q3]at hrun;refine czQ (hexec _ _ hrun) ?_;rw[hdst];have hcap:=Bzr (need:=xs.length+ys.length) (t:=w.tape w.drawn (.appendCap (xs.length+ys.length) cap e)) hneed';have hg:grownCap w (xs.length+ys.length) cap e=xs.length+ys.length+w.tape w.drawn (.appendCap (xs.length+ys.length) cap e)%(2^63-(xs.length+ys.length)):=rfl;rw[<-hg]at hcap;have hll:(xs++ys).length=xs.length+ys.length:=by simp
  have hadd:(xs.length+ys.length)*P.cellsOf e=xs.length*P.cellsOf e+ys.length*P.cellsOf e:=Nat.add_mul _ _ _;have hsub:(grownCap w (xs.length+ys.length) cap e-(xs.length+ys.length))*P.cellsOf e+(xs.length+ys.length)*P.cellsOf e=grownCap w (xs.length+ys.length) cap e*P.cellsOf e:=by
   rw[<-Nat.add_mul];congr 1;omega
  have:=own_new h ids hd.1 hd.2 hus (xs:=xs++ys) (us:=os++us) (c:=os.toArray++us.toArray++Builtin.zeroCells z.cells (grownCap w (xs.length+ys.length) cap e-(xs.length+ys.length))) (fz:=(0,0)) (cap:=grownCap w (xs.length+ys.length) cap e)
   (w':={w.drew with heap:=w.heap.push (.cells (os.toArray++us.toArray++Builtin.zeroCells z.cells (grownCap w (xs.length+ys.length) cap e-(xs.length+ys.length))) e)}) rfl rfl rfl rfl hall (by rw[hll];exact hcap.1) (by unfold bz6;omega)
   (by rw[hcells];exact q2.append u2) (fun j v hv=>by
    have hj:=(List.getElem?_eq_some_iff.1 hv).1;rw[Array.getElem?_append_left (by simpa using hj)];simpa using hv) (by simp only[Array.size_append,List.size_toArray,wz7,hzs,q1,u1];omega) (by simp)
  rw[hll]at this;exact this
theorem zzT (h:SimAt P tb N W a0 g0 w0 D0 s g μ τ a w){o:Oper}{st xt e d:Nat}{args:Array Operand}(ho:o.op = .call {callee:=.builtin .append,args:=args,argTypes:=#[st,xt]})(hdst:o.dst=some d)(hd:d<N/\W d)
 (hel:P.underlying st=some (.slice e)) (hxt:(∃e2,P.underlying xt=some (.slice e2))\/P.underlying xt=some .string) (hs:czR P e=true) (hz:jz1 P e=true) (hb:0<P.bytesOf e)
 {xs ys:List (tb.T e)} {sv xv:Value} {b?:Option Nat} {us:List Value} (hargs:args.map a.eval = #[sv,xv]) (har:fzB P tb g w b? e xs) (hsv:fzh P w b? e xs.length sv) (hsrc:Src P tb g w e ys xv us)
 (hlim:(xs.length+ys.length)*P.bytesOf e<=140737488355328) (hus:s.used d=false) {A:Nat->Option (Ar tb.T)} (hA:∀i,A i≠none->A i=s.arr i/\∀b,b?=some b->τ i≠some b)
 (hbo:∀b,b?=some b->(w0.heap.size<=b\/D0 b)/\∀t,s.tok t=true->τ t≠some b) :
 o.wp P a w (Goes P tb N W a0 g0 w0 D0 {s with env:=upd s.env d (some (.c (.vsl e d))),arr:=upd A d (some (.mk true e (xs++ys))),used:=upd s.used d true}) Q:=by
 obtain⟨u1,u2,u3,u4⟩:=hsrc;obtain⟨ie,hie⟩:=dz4 hs;have hpos:0<P.cellsOf e:=by unfold czR at hs;exact Nat.le_of_ble_eq_true hs
 have hisz:ie.size=P.cellsOf e:=by simp[Program.cellsOf,hie]
 have hiby:ie.bytes=P.bytesOf e:=by simp[Program.bytesOf,hie]
 obtain⟨z,hzv,hzs⟩:∃z,ie.zero=some z/\z.cells.size=P.cellsOf e:=by
  simp only[jz1,hie]at hz;cases hq:ie.zero with
  | none=>simp[hq]at hz
  | some z=>simp only[hq]at hz;exact⟨z,rfl,by rw[<-hisz];exact Nat.eq_of_beq_eq_true hz⟩
 have hneed:xs.length+ys.length<=140737488355328:=Nat.le_trans (Nat.le_mul_of_pos_right _ hb) hlim;have hxall:∀x∈xs,(tb.enc e x).length=P.cellsOf e:=by
  rcases har with⟨_,rfl⟩|⟨_,_,_,_,_,_,_,_,_,h6,_⟩
  .simp
  .exact h6
 have hall:∀x∈xs++ys,(tb.enc e x).length=P.cellsOf e:=fun x hx=>(List.mem_append.1 hx).elim (hxall x) (u3 x)
 have hcells:bzD tb e (xs++ys)=bzD tb e xs++bzD tb e ys:=by simp[bzD]
 have hll:(xs++ys).length=xs.length+ys.length:=by simp
 have hexec:∀r w1,(Builtin.append_ #[st,xt] o.type #[sv,xv]).run P w = .ok r w1->(execOp a.eval o).run P w = .ok (.value r) w1:=fun r w1 hr=>by
  simp[execOp,ho,resolve,invoke,builtin,hargs,hr]
 obtain⟨hlen,hfc⟩:=u4 w rfl;obtain⟨base,cap,hsve,hcap1,hcap2⟩:∃base cap,sv = .slice base xs.length cap/\xs.length<=cap/\cap<=bz6:=by
  rcases hsv with⟨_,h2,rfl⟩|⟨b,cap,_,_,_,rfl,h3,h4,_⟩
  .exact⟨none,0,by rw[h2],by omega,Nat.zero_le _⟩
  .exact⟨_,cap,rfl,h3,h4⟩
 by_cases hroom:xs.length+ys.length<=cap
 .rcases hsv with⟨hb0,hl0,hsv0⟩|⟨b,cap',cells,fz,hbs,hsvo,hlc,hcm,hheap,hcs⟩
  .rw[hsv0]at hsve;injection hsve with e1 e2 e3;have hx0:xs=[]:=List.eq_nil_of_length_eq_zero hl0;subst hx0;have hy0:ys=[]:=List.eq_nil_of_length_eq_zero (by simp at hroom;omega);subst hy0;have hu0:us=[]:=List.eq_nil_of_length_eq_zero (by rw[u1];simp);subst hu0;have hr:(Builtin.append_ #[st,xt] o.type #[sv,xv]).run P w = .ok (.slice none 0 0) w:=by
    rw[hsv0];exact mz1 hel hxt ⟨ie,hie⟩ hlen hfc (Nat.le_refl _) (by simp)
   refine czQ (hexec _ _ hr) ?_;rw[hdst];exact(h.arT (D:=fun _=>False) (b?:=none) (Ext.refl _ _ _) hd.1 hd.2 hus (fun _ _ f=>f.elim) (fun _ _ _ _ f=>f) (fun _ _ f=>f) (by simp) (A:=A) (fun i hi=>⟨(hA i hi).1,fun _ _=>⟨fun f=>f,by simp⟩⟩) (xs:=([]++[]:List (tb.T e))) (.inl ⟨rfl,rfl⟩) (.inl ⟨rfl,rfl,rfl⟩)).sim
  .rw[hsvo]at hsve;injection hsve with e1 e2 e3;subst e3;subst hsvo;subst hbs;have hg:=har.at.1;have hblt:=har.at.2;rcases har with⟨h,_⟩|⟨b',cells',fz',h0,h1,h2,h3,h4,h5,h6,h8⟩
   .cases h
   injection h0 with h0;subst h0;rw[hheap]at h2;injection h2 with h2;injection h2 with h2 _ h2'';subst h2;subst h2'';have hmul:(xs.length+ys.length)*P.cellsOf e<=cap'*P.cellsOf e:=Nat.mul_le_mul_right _ hroom;have hadd:(xs.length+ys.length)*P.cellsOf e=xs.length*P.cellsOf e+ys.length*P.cellsOf e:=Nat.add_mul _ _ _;have hone:∀u∈us,Value.one u=true:=fun u hu=>by
    obtain⟨j,hj,hu⟩:=List.getElem_of_mem hu;have hj':j<(bzD tb e ys).length:=by rw[u2.length];exact hj
    obtain⟨u',hu',hd'⟩:=u2.get (List.getElem?_eq_getElem hj');rw[List.getElem?_eq_getElem hj,hu]at hu';simp only[sE0]at hu';subst hu';revert hd';generalize (bzD tb e ys)[j]=cc;intro hd';cases hd'<;>rfl
   obtain⟨w1,c',k1,k2,k3⟩:=kzv P (b:=b) (o:=xs.length*P.cellsOf e) (el:=e) (fz:=fz) us 0 cells w hheap (by rw[u1];omega) h3 hone;rw[Nat.add_zero]at k3;have hrun:=mz1 (P:=P) (ty:=o.type) (base:=some ⟨b,0,none⟩) (us:=us.toArray) hel hxt ⟨ie,hie⟩ hlen hfc hroom (w':=w1) (by simp only[ezm,Nat.zero_add];exact k1);refine czQ (hexec _ _ hrun) ?_;rw[hdst];have hc'len:c'.size=cells.size:=by
    have:=congrArg List.length k3;rw[jzH _ _ _ (by rw[u1];simp;omega)]at this;simpa using this
   have hget:∀i,c'[i]?=if i<xs.length*P.cellsOf e then cells[i]? else if i<xs.length*P.cellsOf e+us.length then us[i-xs.length*P.cellsOf e]? else cells[i]?:=fun i=>by
    rw[<-Array.getElem?_toList,k3,nzq _ _ _ _ (by rw[u1];simp;omega)];simp
   have hext:Ext g w g w1 (fun j=>j=b):=by
    have:=Ext.arr1 (g:=g) (n:=0) (n':=0) hheap k2 hg (Nat.le_refl _) (fun i hi=>by omega) hc'len;have e1:upd g b (.ar 0)=g:=funext fun j=>by
     by_cases c:j=b
     .subst c;rw[azh,hg]
     .exact azo _ _ c
    rwa[e1]at this
   refine(h.arT (D:=fun i=>i=b) (b?:=some b) hext hd.1 hd.2 hus (fun b' _ hb'=>by subst hb';exact(hbo b' rfl).1) (fun t b' ht hb' e'=>(hbo b rfl).2 t ht (by rw[hb',e'])) (fun i hi e'=>by
    have:=(h.live i hi).2.1;rw[e',hg]at this;cases this) (fun b' hb'=>by injection hb' with hb';subst hb';exact hbo b rfl) (A:=A) (fun i hi=>⟨(hA i hi).1,fun b' hb'=>⟨fun c=>(hA i hi).2 b rfl (by rw[hb',c]),fun c=>(hA i hi).2 b rfl (by rw[hb',<-c])⟩⟩) (xs:=xs++ys) ?_ ?_).sim
   .refine .inr ⟨b,c',fz,rfl,hg,k2.new,fun j hj=>h3 j (by omega),hpos,by rw[hll,hc'len];omega,hall,fun i x j c hx hc=>?_⟩;have hj:j<P.cellsOf e:=by rw[<-hall x (List.mem_of_getElem? hx)];exact(List.getElem?_eq_some_iff.1 hc).1
    rcases Nat.lt_or_ge i xs.length with ci|ci
    .rw[List.getElem?_append_left ci]at hx;obtain⟨u,hu,hr⟩:=h8 i x j c hx hc;refine⟨u,?_,hr.mono hext.keeps⟩;have:=Nat.mul_le_mul_right (P.cellsOf e) (show i+1<=xs.length from ci);rw[Nat.add_mul]at this;rw[hget,if_pos (by omega)];exact hu
    .rw[List.getElem?_append_right ci]at hx;have hfl:=qzL u3 _ _ _ hx hj;rw[hc]at hfl;obtain⟨u,hu,hr⟩:=u2.get hfl;refine⟨u,?_,hr.mono hext.keeps⟩;have hlt:=(List.getElem?_eq_some_iff.1 hu).1;have e1:i*P.cellsOf e=xs.length*P.cellsOf e+(i-xs.length)*P.cellsOf e:=by rw[<-Nat.add_mul];congr 1;omega
     rw[hget,if_neg (by omega),if_pos (by omega),<-hu];congr 1;omega
   .rw[hll];exact .inr ⟨b,cap',c',fz,rfl,rfl,hroom,hcm,k2.new,by rw[hc'len];exact hcs⟩
 .
  have hbn:ie.bytes≠0:=by rw[hiby];omega
  have hnc:Builtin.nextslicecap (xs.length+ys.length) cap*ie.bytes<=2^48:=by
   have h1:=Gzg (need:=xs.length+ys.length) (old:=cap) (by omega);have h2:=Nat.mul_le_mul_right ie.bytes h1;rw[hiby]at h2 ⊢;rw[Nat.mul_assoc]at h2;omega
  have hneed':xs.length+ys.length<2^63:=by omega
  obtain⟨_,_,os,q1,q2,_,q4⟩:=src_win (o:=0) (n:=xs.length) (ys:=xs) (v:=sv) har (by simp[win,Nat.ble_eq_true_of_le]) (by
   rcases hsv with⟨_,h2,rfl⟩|⟨b,cap,_,_,h1,rfl,h3,_⟩
   .exact .inl ⟨h2,none,rfl⟩
   .exact .inr ⟨b,cap,h1,by rw[Nat.zero_mul],h3⟩)
  have q5:=(q4 w.drew rfl).2;rw[hsve]at q5;have hrun:=uz5 (P:=P) (ty:=o.type) (base:=base) (us:=us.toArray) (os:=os.toArray) hel hxt hie hzv hlen hroom hbn hnc hneed' q5 (u4 w.drew rfl).2;rw[<-hsve]at hrun;refine czQ (hexec _ _ hrun) ?_;rw[hdst];have hcap:=Bzr (need:=xs.length+ys.length) (t:=w.tape w.drawn (.appendCap (xs.length+ys.length) cap e)) hneed';have hg:grownCap w (xs.length+ys.length) cap e=xs.length+ys.length+w.tape w.drawn (.appendCap (xs.length+ys.length) cap e)%(2^63-(xs.length+ys.length)):=rfl;rw[<-hg]at hcap;have hadd:(xs.length+ys.length)*P.cellsOf e=xs.length*P.cellsOf e+ys.length*P.cellsOf e:=Nat.add_mul _ _ _;have hsub:(grownCap w (xs.length+ys.length) cap e-(xs.length+ys.length))*P.cellsOf e+(xs.length+ys.length)*P.cellsOf e=grownCap w (xs.length+ys.length) cap e*P.cellsOf e:=by
   rw[<-Nat.add_mul];congr 1;omega
  have:=ar_new' h hd.1 hd.2 hus (A:=A) (fun i hi=>(hA i hi).1) (xs:=xs++ys) (us:=os++us) (c:=os.toArray++us.toArray++Builtin.zeroCells z.cells (grownCap w (xs.length+ys.length) cap e-(xs.length+ys.length))) (fz:=(0,0)) (cap:=grownCap w (xs.length+ys.length) cap e)
   (w':={w.drew with heap:=w.heap.push (.cells (os.toArray++us.toArray++Builtin.zeroCells z.cells (grownCap w (xs.length+ys.length) cap e-(xs.length+ys.length))) e)}) rfl rfl rfl rfl hpos hall (by rw[hll];exact hcap.1) (by unfold bz6;omega)
   (by rw[hcells];exact q2.append u2) (fun j v hv=>by
    have hj:=(List.getElem?_eq_some_iff.1 hv).1;rw[Array.getElem?_append_left (by simpa using hj)];simpa using hv) (by simp only[Array.size_append,List.size_toArray,wz7,hzs,q1,u1];omega) (by simp)
  rw[hll]at this;exact this
end Go.Ev
namespace Go.Ev
open Go
open Go.IntKind (i64 u64 u8 i32 u32 i16 u16)
variable {P:Program} {tb:Tab} {N:Nat} {W:Nat->Prop} {a0:Act} {g0:Gh} {w0:World} {D0:Nat->Prop}
variable {s s':St tb.T} {g g':Gh} {μ μ':Nat->Nat} {τ τ':Nat->Option Nat} {a:Act} {w w':World}
variable {K:Act->World->Prop} {Q:Exit->Act->World->Prop}
theorem xzG {t k v:Nat}(h:uzU P t=some (k,v)):P.underlying t=some (.map k v):=by
 unfold uzU at h;split at h
 .rename_i hu;injection h with h;injection h with h1 h2;subst h1;subst h2;exact hu
 .cases h
theorem SimAt.newMap (h:SimAt P tb N W a0 g0 w0 D0 s g μ τ a w){d k v:Nat}(hd:d<N)(hW:W d)(hu:s.used d=false):
 SimAt P tb N W a0 g0 w0 D0 {s with env:=upd s.env d (some (.c (.map d))),itr:=upd s.itr d (some (.mp k v [])),used:=upd s.used d true}
  (upd g w.heap.size .var) (upd μ d w.heap.size) τ (a.put (some d) (.map (some w.heap.size))) {w with heap:=w.heap.push (.map #[] 0)}:=by
 have hus:∀i,s.used i=true->upd s.used d true i=true:=fun i hi=>by
  rw[azu];split<;>simp_all
 have hne:∀i,s.used i=true->i≠d:=fun i hi e=>by subst e;rw[hi]at hu;cases hu
 have he:=Ext.push g w (.map #[] 0) .var (fun _=>False);have h1:SimAt P tb N W a0 g0 w0 D0 {s with itr:=upd s.itr d (some (.mp k v [])),used:=upd s.used d true}
  (upd g w.heap.size .var) (upd μ d w.heap.size) τ a {w with heap:=w.heap.push (.map #[] 0)}:=by
  refine h.move he (fun _ _ f=>f.elim) rfl hus rfl (fun i hi=>⟨azo μ _ (hne i hi),rfl⟩) (fun _ _ h=>⟨h,fun _ _ f=>f⟩) (fun i cs hb=>.inl ⟨hb,fun f=>f⟩) ?_ ?_ ?_ ?_ ?_ ?_ (fun _ _ _ f=>f.elim) (fun i o e xs hi=>.inl (h.arrs rfl (fun _ _ f=>f) (fun t ht=>(h.tokv t ht).1) i o e xs hi))
  .intro i o hb;simp only[azu]at hb;by_cases e:i=d
   .subst e;simp at hb;subst hb;exact .inr ⟨#[],0,by rw[azh];exact oz4 w _,trivial⟩
   .simp[e]at hb;exact .inl ⟨hb,fun f=>f⟩
  .intro i hl;by_cases e:i=d
   .subst e;exact .inr ⟨hu,azh _ _ _,by rw[azh,azh],by rw[azh];exact Nat.le_refl _,by rw[azh];simp⟩
   .left;simpa[azn,azu,e]using hl
  .intro i j hi hj li lj _;have hx:∀q,azn {s with itr:=upd s.itr d (some (.mp k v [])),used:=upd s.used d true} q->¬azn s q->q=d:=fun q hk nk=>by
    apply Classical.byContradiction;intro e;exact nk (by simpa[azn,azu,e]using hk)
   rw[hx i hi li,hx j hj lj]
  .intro i hi;simp only[azu]at hi ⊢;by_cases e:i=d
   .subst e;refine⟨?_,?_⟩
    .cases hb:s.blk i with
     | none=>rfl
     | some cs=>exact absurd (.inl (by rw[hb];simp)) (nzg h hu)
    .cases hr:s.ro i with
     | false=>rfl
     | true=>have:=h.rou i hr;rw[this]at hu;cases hu
   .simp only[e,if_false]at hi ⊢;exact h.excl i hi
  .intro t ht hu';have:=(h.tokv t ht).1;rw[this]at hu';cases hu'
  .intro t u b ht _ hu';have:=(h.tokv t ht).1;rw[this]at hu';cases hu'
 exact h1.put hd hW (v:=.c (.map d)) (u:=.map (some w.heap.size)) (by simp[RepV,RepC,azh]) (by simp[SV.ids,AC.ids,azh])
theorem Nzk (h:SimAt P tb N W a0 g0 w0 D0 s g μ τ a w){o:Oper}{t d k v:Nat}(ho:o.op = .makeMap t none)(hdst:o.dst=some d)(hd:d<N/\W d)(hu:s.used d=false):
 o.wp P a w (Goes P tb N W a0 g0 w0 D0 {s with env:=upd s.env d (some (.c (.map d))),itr:=upd s.itr d (some (.mp k v [])),used:=upd s.used d true}) Q:=by
 have hrun:(execOp a.eval o).run P w = .ok (.value (.map (some w.heap.size))) {w with heap:=w.heap.push (.map #[] 0)}:=by
  simp[execOp,ho,Instr.makeMap,newObj,Sem.run]
 refine czQ hrun ?_;rw[hdst];exact(h.newMap hd.1 hd.2 hu).sim
theorem NzC {k:Nat}(h:xzI P tb k=true):∃ls,cz8 P 20 k=some ls/\∀x y:tb.T k,Kin ls (tb.enc k x) (tb.enc k y):=by
 unfold xzI at h;split at h
 .rename_i ls ms h3 h4;have:ls=ms:=of_decide_eq_true h;subst this;exact⟨ls,h3,tb.hkey k ls h4⟩
 .cases h
theorem GzZ {d o:Nat}{f:Field}{l1:List Nat}(hl1:cz8 P d f.type=some l1)(hsz:l1.length=P.cellsOf f.type)(hoff:f.offset=o)(w:World)(zs:List Value)(hz:((zs.drop o).take l1.length).length=l1.length):
 ∃p,(part f.type zs.toArray f.offset).run P w = .ok p w/\Bzn P f.type ((zs.drop o).take l1.length) p:=by
 obtain⟨b,hb1,hb2⟩:=pzT hl1;cases b with
 | true =>
  refine⟨_,uzb hb1 _ _ _,.inl ⟨hb1,?_⟩⟩;rw[hoff,<-hsz];apply congrArg;apply Array.ext';simp[List.take_drop]
 | false =>
  have h1:=hb2 rfl;rw[h1]at hz ⊢;cases hz':zs.drop o with
  | nil=>rw[hz']at hz;simp at hz
  | cons z zr =>
   refine⟨z,szd hb1 (by
    rw[hoff];have:(zs.drop o)[0]?=some z:=by rw[hz'];rfl
    rw[List.getElem?_drop]at this;simpa using this) _,.inr ⟨hb1,by simp⟩⟩
theorem FzE {w:World}{B:Field->PUnit->Sem (ForInStep PUnit)}:∀fl:List Field,(∀f∈fl,∀r,(B f r).run P w = .ok (.yield ⟨⟩) w)->(forIn fl PUnit.unit B).run P w = .ok ⟨⟩ w
 | [],_=>by simp
 | f::fl,h=>by
  rw[List.forIn_cons];simp[Sem.run_bind,h f (by simp),FzE fl fun f hf=>h f (by simp[hf])]
theorem zzh {w:World}{e:Bool}:∀(d t:Nat) (ls:List Nat),cz8 P d t=some ls->∀(D:Nat),d<=D->∀(us:List Value) (u:Value),us.length=ls.length->Bzn P t us u ->
 (Instr.checkKey e D t u).run P w = .ok () w:=by
 intro d;induction d with
 | zero=>intro t ls h;simp[cz8]at h
 | succ d ih =>
  intro t ls h D hD us u hlen hs;obtain⟨D,rfl⟩:∃D',D=D'+1:=⟨D-1,by omega⟩;simp only[cz8]at h;rw[Instr.checkKey];cases hu:P.underlying t with
  | none=>simp[hu]at h
  | some ty =>
   simp only[Sem.run_bind,run_underlying hu,Result.andThen_ok];cases ty<;>simp only[hu,sE0,reduceCtorEq]at h
   case int k=>rfl
   case bool=>rfl
   case string=>rfl
   case struct fs =>
    have ha:ezO P t=some true:=by simp[ezO,hu]
    rcases hs with⟨_,hs⟩|⟨h1,_⟩
    .subst hs;cases hst:P.stoodInHeld t with
     | true=>simp[hst]at h
     | false =>
      simp only[hst,cond_false]at h;have key:∀(fl:List Field) (o:Nat) (ls:List Nat),cz8.leavesF (cz8 P d) P fl o=some ls->(us.drop o).length=ls.length ->
       ∀f∈fl,f.name ≠ "_"/\∃p,(part f.type us.toArray f.offset).run P w = .ok p w/\(Instr.checkKey e D f.type p).run P w = .ok () w:=by
       intro fl;induction fl with
       | nil=>intro o ls _ _ f hf;simp at hf
       | cons f fl ihf =>
        intro o ls hl hln f' hf';simp only[cz8.leavesF]at hl;cases hnm:(f.name == "_"||!Nat.beq f.offset o)with
        | true=>simp[hnm]at hl
        | false =>
         simp only[hnm,cond_false]at hl;simp only[Bool.or_eq_false_iff]at hnm;obtain⟨hn1,hn2⟩:=hnm;have hoff:f.offset=o:=by
          have:Nat.beq f.offset o=true:=by simpa using hn2
          exact Nat.eq_of_beq_eq_true this
         have hname:f.name ≠ "_":=by intro e;rw[e]at hn1;simp at hn1
         cases hl1:cz8 P d f.type with
         | none=>simp[hl1]at hl
         | some l1 =>
          simp only[hl1]at hl;cases hb:Nat.beq l1.length (P.cellsOf f.type)with
          | false=>simp[hb]at hl
          | true =>
           simp only[hb,cond_true]at hl;cases hl2:cz8.leavesF (cz8 P d) P fl (o+l1.length)with
           | none=>simp[hl2]at hl
           | some l2 =>
            simp only[hl2,sE0]at hl;subst hl;rcases List.mem_cons.1 hf' with rfl|hf'
            .have hz:((us.drop o).take l1.length).length=l1.length:=by
              rw[List.length_take,hln];simp
             obtain⟨p,hp,sp⟩:=GzZ hl1 (Nat.eq_of_beq_eq_true hb) hoff w us hz;exact⟨hname,p,hp,ih _ l1 hl1 D (by omega) _ _ hz sp⟩
            .exact ihf (o+l1.length) l2 hl2 (by rw[<-List.drop_drop,List.length_drop,hln];simp) f' hf'
      have hall:=key fs.toList 0 ls h (by simpa using hlen);simp only[<-Array.forIn_toList];have bnd:∀m:Sem PUnit,m.run P w = .ok ⟨⟩ w->(do m;pure ():Sem Unit).run P w = .ok () w:=fun m hm=>by rw[Sem.run_bind,hm];simp
      refine bnd _ (FzE fs.toList fun f hf r=>?_);obtain⟨h1,p,h2,h3⟩:=hall f hf;simp only[h1,ne_eq,not_false_eq_true,if_true,Sem.run_bind,h2,Result.andThen_ok,h3,Sem.run_pure]
    .rw[ha]at h1;cases h1
theorem Kz1:∀{ls:List Nat} {cs ds:List (CV tb.T)} {us vs:List Value},Kin ls cs ds->All2 (RepD P tb g w) cs us->All2 (RepD P tb g w) ds vs->eqB cs ds=true->us=vs
 | [],[],[],[],[],_,_,_,_=>rfl
 | l::ls,c::cs,d::ds,u::us,v::vs,⟨h1,h2⟩,⟨r1,r2⟩,⟨q1,q2⟩,e=>by
  simp only[eqB,Bool.and_eq_true]at e;have:=Kz1 h2 r2 q2 e.2;subst this;have e1:=e.1;congr 1;cases c<;>cases d<;>simp only[eq1,Bool.false_eq_true,decide_eq_true_eq]at e1
  all_goals (try subst e1);try cases r1;try cases q1
  all_goals first
   | rfl
   | (rcases l with _|_|_|l<;>simp_all [kin])
 | [],[],[],_::_,_,_,h,_,_=>h.elim
 | [],[],[],[],_::_,_,_,h,_=>h.elim
 | [],[],_::_,_,_,h,_,_,_=>h.elim
 | [],_::_,_,_,_,h,_,_,_=>h.elim
 | _::_,[],_,_,_,h,_,_,_=>h.elim
 | _::_,_::_,[],_,_,h,_,_,_=>h.elim
 | _::_,_::_,_::_,[],_,_,h,_,_=>h.elim
 | _::_,_::_,_::_,_::_,[],_,_,h,_=>h.elim
theorem Dz6 {n:Nat}:∀{ls:List Nat} {cs ds:List (CV tb.T)} {us:List Value},Kin ls cs ds->All2 (RepD P tb g w) cs us->∀u∈us,Instr.sameBits n u u=true
 | [],[],[],[],_,_,_,h=>by simp at h
 | l::ls,c::cs,d::ds,u::us,⟨h1,h2⟩,⟨r1,r2⟩,x,hx=>by
  rcases List.mem_cons.1 hx with rfl|hx
  .rcases l with _|_|_|l<;>cases c<;>cases d<;>simp only[kin]at h1<;>cases r1<;>cases n<;>simp[Instr.sameBits]
   all_goals exact beq_self_eq_true (α:=Array UInt8) _
  .exact Dz6 h2 r2 x hx
 | [],[],[],_::_,_,h,_,_=>h.elim
 | [],[],_::_,_,h,_,_,_=>h.elim
 | [],_::_,_,_,h,_,_,_=>h.elim
 | _::_,[],_,_,h,_,_,_=>h.elim
 | _::_,_::_,[],_,h,_,_,_=>h.elim
 | _::_,_::_,_::_,[],_,h,_,_=>h.elim
theorem Kzn {f:Value×Value->Bool}:∀{us:List Value},(∀u∈us,f (u,u)=true)->(us.zip us).all f=true
 | [],_=>rfl
 | u::us,h=>by
  rw[List.zip_cons_cons,List.all_cons,h u (by simp),Kzn (us:=us) fun v hv=>h v (List.mem_cons_of_mem _ hv)];rfl
theorem zzW {k:Nat}{ls:List Nat}(hl:cz8 P 20 k=some ls){x:tb.T k}{u:Value}(h:czf P tb g w k x u):∃us,Bzn P k us u/\All2 (RepD P tb g w) (tb.enc k x) us:=by
 obtain⟨b,hb,_⟩:=pzT hl;unfold czf bzw at h;rw[hb]at h;cases b with
 | true =>
  obtain⟨us,h1,h2⟩:=h;exact⟨us,.inl ⟨hb,h1⟩,h2⟩
 | false =>
  obtain⟨c,h1,h2⟩:=h;exact⟨[u],.inr ⟨hb,rfl⟩,by rw[h1];exact⟨h2,trivial⟩⟩
theorem key_eqs {k:Nat}{ls:List Nat}(hl:cz8 P 20 k=some ls)(hk:∀x y:tb.T k,Kin ls (tb.enc k x) (tb.enc k y)){x y:tb.T k}{u v:Value}(hx:czf P tb g w k x u)(hy:czf P tb g w k y v):
 (Op.equal k u v).run P w = .ok (keq tb k x y) w/\(keq tb k x y=true->u=v):=by
 obtain⟨us,su,ru⟩:=zzW hl hx;obtain⟨vs,sv,rv⟩:=zzW hl hy;refine⟨uza 20 k ls hl Op.maxDepth (by decide) _ _ us vs u v (hk x y) ru rv su sv,fun e=>?_⟩;have:=Kz1 (hk x y) ru rv e;subst this;rcases su with⟨a1,rfl⟩|⟨a1,rfl⟩<;>rcases sv with⟨b1,b2⟩|⟨b1,b2⟩
 .rw[b2]
 .rw[a1]at b1;cases b1
 .rw[a1]at b1;cases b1
 .simpa using b2
def ozP {K V:Type}(eq:K->K->Bool)(k:K):List (K×V)->Option Nat
 | []=>none
 | p::l=>bif eq k p.1 then some 0 else(ozP eq k l).map (·+1)
theorem Azk {K V:Type}(eq:K->K->Bool)(k:K):∀l:List (K×V),kzO eq k l=(ozP eq k l).isSome
 | []=>rfl
 | p::l=>by
  simp only[kzO,ozP];cases eq k p.1 with
  | true=>rfl
  | false=>simp[Azk eq k l]
theorem uzG {k v:Nat}{ls:List Nat}(hl:cz8 P 20 k=some ls)(hk:∀x y:tb.T k,Kin ls (tb.enc k x) (tb.enc k y)){x:tb.T k}{u:Value}(hx:czf P tb g w k x u)(z:tb.T v):
 ∀{l:List (tb.T k×tb.T v)} {es:List MapEntry} (i:Nat),jz5 P tb g w k v l es ->
  (ozP (keq tb k) x l=none/\(Instr.findAsking k u es i).run P w = .ok none w/\ezU (keq tb k) z x l=z) \/
  (∃p e,ozP (keq tb k) x l=some p/\es[p]?=some e/\(Instr.findAsking k u es i).run P w = .ok (some (i+p,e.val)) w/\e.key=u/\czf P tb g w v (ezU (keq tb k) z x l) e.val)
 | [],[],_,_=>.inl ⟨rfl,by simp[Instr.findAsking],rfl⟩
 | q::l,e::es,i,⟨h1,h2,h3⟩=>by
  obtain⟨s1,s2⟩:=key_eqs hl hk hx h1;simp only[ozP,Instr.findAsking,Sem.run_bind,s1,ezU,Result.andThen_ok,Sem.run_ite];cases hq:keq tb k x q.1 with
  | true=>exact .inr ⟨0,e,rfl,rfl,by simp,(s2 hq).symm,h2⟩
  | false =>
   simp only[cond_false,Bool.false_eq_true,if_false];rcases uzG hl hk hx z (i+1) h3 with⟨r1,r2,r3⟩|⟨p,e',r1,r2,r3,r4,r5⟩
   .exact .inl ⟨by rw[r1];rfl,r2,r3⟩
   .exact .inr ⟨p+1,e',by rw[r1];rfl,by simpa using r2,by rw[r3,show i+1+p=i+(p+1) by omega],r4,r5⟩
 | [],_::_,_,h=>h.elim
 | _::_,[],_,h=>h.elim
theorem wzh {ty:TypeDesc}{k:Nat}{u:Value}(hs:∀v r,Instr.sameNow ty u v=some r->(Op.equal k u v).run P w = .ok r w):
 ∀{es:List MapEntry} (i:Nat) {r},Instr.findNow ty u es i=some r->(Instr.findAsking k u es i).run P w = .ok r w
 | [],i,r,h=>by simp only[Instr.findNow,sE0]at h;subst h;simp[Instr.findAsking]
 | e::es,i,r,h=>by
  simp only[Instr.findNow]at h;split at h
  .rename_i h1;simp only[sE0]at h;subst h;simp[Instr.findAsking,Sem.run_bind,hs _ _ h1]
  .rename_i h1;have:=wzh hs (i+1) h;simp[Instr.findAsking,Sem.run_bind,hs _ _ h1,this]
  .cases h
theorem Kzd {k:Nat}{ty:TypeDesc}(hu:P.underlying k=some ty){u v:Value}{r:Bool}(h:Instr.sameNow ty u v=some r):(Op.equal k u v).run P w = .ok r w:=by
 have hm:Op.maxDepth=(Op.maxDepth-1)+1:=by decide
 unfold Op.equal;rw[hm];unfold Instr.sameNow at h;split at h
 .split at h
  .rename_i e;subst e;simp only[sE0]at h;subst h;rw[run_equalIn_int _ _ _ _ _ _ _ hu]
  .cases h
 .simp only[sE0]at h;subst h;rename_i a b;obtain⟨a⟩:=a;obtain⟨b⟩:=b;rw[run_equalIn_string _ _ _ _ _ hu]
  show Result.ok ((⟨a⟩:ByteArray).toList == (⟨b⟩:ByteArray).toList) w=Result.ok (a == b) w
  obtain⟨a⟩:=a;obtain⟨b⟩:=b;rw[toList_mk,toList_mk];by_cases e:a=b
  .subst e;simp
  .have e2:¬(⟨a⟩:Array UInt8)=⟨b⟩:=fun h=>e (by injection h)
   rw[beq_eq_false_iff_ne.2 e,beq_eq_false_iff_ne.2 e2]
 .simp only[sE0]at h;subst h;rw[run_equalIn_bool' _ _ _ _ _ hu]
 .cases h
theorem zzR {k v:Nat}(hok:xzI P tb k=true){x:tb.T k}{u:Value}(hx:czf P tb g w k x u)(z:tb.T v){l:List (tb.T k×tb.T v)}{es:List MapEntry}(hm:jz5 P tb g w k v l es):
 (∀e,(Instr.checkKey e 10000 k u).run P w = .ok () w)/\Instr.sameBits 10000 u u=true /\
  ((ozP (keq tb k) x l=none/\(Instr.findKey k u es).run P w = .ok none w/\ezU (keq tb k) z x l=z) \/
  (∃p e,ozP (keq tb k) x l=some p/\es[p]?=some e/\(Instr.findKey k u es).run P w = .ok (some (p,e.val)) w/\e.key=u/\czf P tb g w v (ezU (keq tb k) z x l) e.val)):=by
 obtain⟨ls,hl,hk⟩:=NzC hok;obtain⟨us,su,ru⟩:=zzW hl hx;have hkl:=(Kin.length (hk x x)).1;refine⟨fun e=>zzh 20 k ls hl 10000 (by decide) us u (by rw[<-hkl,ru.length]) su,?_,?_⟩
 .rcases su with⟨_,rfl⟩|⟨_,rfl⟩
  .simp only[Instr.sameBits,BEq.rfl,Bool.true_and];exact Kzn fun u hu=>Dz6 (hk x x) ru u hu
  .exact Dz6 (hk x x) ru u (by simp)
 .obtain⟨b,hb,_⟩:=pzT hl;obtain⟨ty,hty⟩:=ozo hb;have e1:∀r,(Instr.findAsking k u es).run P w = .ok r w->(Instr.findKey k u es).run P w = .ok r w:=fun r hr=>by
   simp only[Instr.findKey,Sem.run_bind,run_underlying hty,Result.andThen_ok];cases hf:Instr.findNow ty u es 0 with
   | none=>exact hr
   | some r' =>
    have:=wzh (w:=w) (fun v r h=>Kzd hty h) 0 hf;rw[hr]at this;simp only[Result.ok.injEq,and_true]at this;rw[this];simp
  rcases uzG hl hk hx z 0 hm with⟨r1,r2,r3⟩|⟨p,e,r1,r2,r3,r4,r5⟩
  .exact .inl ⟨r1,e1 _ r2,r3⟩
  .exact .inr ⟨p,e,r1,r2,by simpa using e1 _ r3,r4,r5⟩
theorem jz5.put {k v:Nat}{x:tb.T k}{y:tb.T v}{u r:Value}(hx:czf P tb g w k x u)(hy:czf P tb g w v y r):
 ∀{l:List (tb.T k×tb.T v)} {es:List MapEntry},jz5 P tb g w k v l es ->
  (∀p,ozP (keq tb k) x l=some p->jz5 P tb g w k v (kzP (keq tb k) x y l) (es.modify p fun e=>{e with key:=u,val:=r})) /\
  (ozP (keq tb k) x l=none->∀c,jz5 P tb g w k v (kzP (keq tb k) x y l) (es++[{key:=u,val:=r,born:=c}]))
 | [],[],_=>⟨fun p hp=>(by simp[ozP]at hp),fun _ c=>⟨hx,hy,trivial⟩⟩
 | q::l,e::es,⟨h1,h2,h3⟩=>by
  simp only[ozP,kzP];obtain⟨i1,i2⟩:=jz5.put hx hy h3;cases hq:keq tb k x q.1 with
  | true =>
   refine⟨fun p hp=>?_,fun hn=>by cases hn⟩;simp only[cond_true,sE0]at hp;subst hp;exact⟨hx,hy,h3⟩
  | false =>
   simp only[cond_false,Option.map_eq_some_iff,Option.map_eq_none_iff];refine⟨fun p hp=>?_,fun hn c=>⟨h1,h2,i2 hn c⟩⟩;obtain⟨p',hp',rfl⟩:=hp;exact⟨h1,h2,i1 p' hp'⟩
 | [],_::_,h=>h.elim
 | _::_,[],h=>h.elim
theorem tzw {e:Nat}{sv:SV tb.T}{x:tb.T e}{u:Value}(h:SimAt P tb N W a0 g0 w0 D0 s g μ τ a w)(hx:tzv P tb e sv=some x)(hr:RepV P tb g w μ τ s.tok sv u):czf P tb g w e x u:=by
 obtain⟨b,h1,_⟩:=HzP (p:=.val e) h hx hr;exact h1.1
theorem go_put (h:SimAt P tb N W a0 g0 w0 D0 s g μ τ a w){o:Oper}{t:Nat}{m kx x:Operand}(ho:o.op = .mapUpdate t m kx x\/o.op = .insert t m kx x)(he:xzo P tb t m kx x o.dst s some=some s'):
 o.wp P a w (Goes P tb N W a0 g0 w0 D0 s') Q:=by
 unfold xzo at he;cases hdst:o.dst with
 | some d=>simp[hdst]at he
 | none =>
  simp only[hdst]at he;split at he
  rotate_left
  .cases he
  .rename_i k' v' hmo;split at he
   rotate_left
   .cases he
   .rename_i i hm;split at he
    rotate_left
    .cases he
    .rename_i k v l hi;cases hkv:(Nat.beq k k'&&Nat.beq v v')with
     | false=>simp[hkv]at he
     | true =>
      simp only[hkv,cond_true]at he;simp only[Bool.and_eq_true]at hkv;have e1:=Nat.eq_of_beq_eq_true hkv.1;have e2:=Nat.eq_of_beq_eq_true hkv.2;subst e1;subst e2;split at he
      rotate_left
      .cases he
      .rename_i sk hsk;split at he
       rotate_left
       .cases he
       .rename_i ka hka;split at he
        rotate_left
        .cases he
        .rename_i sx hsx;split at he
         rotate_left
         .cases he
         .rename_i b hb;cases hok:xzI P tb k with
          | false=>simp[hok]at he
          | true =>
           simp only[hok,cond_true,sE0]at he;subst he;have hu:=xzG hmo;obtain⟨r1,_⟩:=bzu h m _ hm;have hmv:a.eval m = .map (some (μ i)):=r1;obtain⟨q1,_⟩:=bzu h kx _ hsk;obtain⟨p1,_⟩:=bzu h x _ hsx;have hkey:=tzw h hka q1;have hval:=tzw h hb p1;obtain⟨es,clock,hob,hma⟩:=h.itr i _ hi;obtain⟨hck,hsb,hfk⟩:=zzR hok hkey b hma;have hlt:μ i<w.heap.size:=(Array.getElem?_eq_some_iff.1 hob).1;have hgo:(getObj (μ i)).run P w = .ok (.map es clock) w:=by simp[getObj,Sem.run,hob]
           have hchk:(Instr.checkKey false 10000 k (a.eval kx)).run P w = .ok () w:=hck _;obtain⟨m1,m2⟩:=hma.put hkey hval;have fin:∀es' clock',(Instr.mapUpdate t (a.eval m) (a.eval kx) (a.eval x)).run P w = .ok () {w with heap:=w.heap.setIfInBounds (μ i) (.map es' clock')}->jz5 P tb g w k v (kzP (keq tb k) ka b l) es'.toList ->
            o.wp P a w (Goes P tb N W a0 g0 w0 D0 {s with itr:=upd s.itr i (some (.mp k v (kzP (keq tb k) ka b l)))}) Q:=fun es' clock' hrun hat=>by
            have ho1:OneBlock w {w with heap:=w.heap.setIfInBounds (μ i) (.map es' clock')} (μ i) (.map es' clock'):=⟨rfl,rfl,rfl,by simp,by simp[hlt],fun b' hb'=>by
             simp only[];rw[Array.getElem?_setIfInBounds_ne (by omega)]⟩
            have hshp:∀us T fz,w.heap[μ i]?=some (.cells us T fz)->∃us' fz',(Obj.map es' clock') = .cells us' T fz'/\us'.size=us.size:=fun us T fz e=>by rw[hob]at e;cases e
            have hlive:azn s i:=.inr (by rw[hi];simp);have hkp:=(Ext.var1 ho1 (h.live i hlive).2.1 hshp).keeps;have hex:(execOp a.eval o).run P w = .ok .skip {w with heap:=w.heap.setIfInBounds (μ i) (.map es' clock')}:=by
             rcases ho with ho|ho<;>simp only[execOp,ho,Sem.run_bind,hrun,Result.andThen_ok,Sem.run_pure]
            refine Ez8 hex ?_;rw[hdst];exact(h.setOb hi (o':=.mp k v (kzP (keq tb k) ka b l)) ho1 ⟨es',clock',ho1.new,hat.mono hkp⟩ hshp).sim
           rcases hfk with⟨f1,f2,_⟩|⟨p,e,f1,f2,f3,f4,f5⟩
           .refine fin (es.push {key:=a.eval kx,val:=a.eval x,born:=clock}) (clock+1) ?_ (by simpa using m2 f1 clock);simp[Instr.mapUpdate,run_underlying hu,hmv,hgo,hchk,f2,setObj,Sem.run,hob]
           .refine fin (es.modify p fun e=>{e with key:=a.eval kx,val:=a.eval x}) clock ?_ (by simpa using m1 p f1);have f2':es[p]?=some e:=by simpa using f2
            simp[Instr.mapUpdate,run_underlying hu,hmv,hgo,hchk,f3,setObj,Sem.run,hob,f2',f4,Instr.keyThatStays,hsb]
theorem NzZ {v:Nat}{z:List (AC tb.T)}{zc:List (CV tb.T)}{zv:tb.T v}(hz:jzQ P v=some z)(hc:cvs z=some zc)(hd:tb.dec v zc=some zv)(hk:yzi P v=true):
 ∃u,(∀w,(zeroValue v).run P w = .ok u w)/\czf P tb g w v zv u:=by
 obtain⟨i,u,hi,hu,hr,_⟩:=nzC (P:=P) (g:=g) (w:=w) (μ:=fun i=>i) (τ:=fun _=>none) (tok:=fun _=>false) hz;have hrd:=jz9 hd (iz6 hc hr);refine⟨u,fun w=>by simp[zeroValue,jzG hi,hu],?_⟩;unfold yzi at hk;rw[hi]at hk;simp only[hu]at hk;unfold czf;cases u with
 | agg cs =>
  simp only at hk;rw[if_pos hk];exact⟨cs.toList,by simp,by simpa[Value.cells]using hrd⟩
 | tuple _=>simp at hk
 | _ =>
  simp only[Bool.not_eq_true']at hk;rw[if_neg (by rw[hk];decide)];simp only[Value.cells]at hrd;generalize tb.enc v zv=cs at hrd;cases cs with
  | nil=>exact hrd.elim
  | cons c cs =>
   cases cs with
   | nil=>exact⟨c,rfl,hrd.1⟩
   | cons _ _=>exact hrd.2.elim
theorem go_lookup (h:SimAt P tb N W a0 g0 w0 D0 s g μ τ a w){Γ:List (Nat×FSpec tb)}{o:Oper}{t:Nat}{m kx:Operand}{ok:Bool}(ho:o.op = .lookup t m kx ok)(hd:∀d,o.dst=some d->d<N/\W d)
 (he:evOp P tb Γ o s some=some s'):o.wp P a w (Goes P tb N W a0 g0 w0 D0 s') Q:=by
 unfold evOp at he;rw[ho]at he;simp only at he;cases hdst:o.dst with
 | none=>simp[hdst]at he
 | some d =>
  simp only[hdst]at he;split at he
  rotate_left
  .cases he
  .rename_i k' v' hmo;split at he
   rotate_left
   .cases he
   .rename_i i hm;split at he
    rotate_left
    .cases he
    .rename_i k v l hi;cases hkv:(Nat.beq k k'&&Nat.beq v v')with
     | false=>simp[hkv]at he
     | true =>
      simp only[hkv,cond_true]at he;simp only[Bool.and_eq_true]at hkv;have e1:=Nat.eq_of_beq_eq_true hkv.1;have e2:=Nat.eq_of_beq_eq_true hkv.2;subst e1;subst e2;split at he
      rotate_left
      .cases he
      .rename_i sk hsk;split at he
       rotate_left
       .cases he
       .rename_i ka hka;split at he
        rotate_left
        .cases he
        .rename_i z hz;split at he
         rotate_left
         .cases he
         .rename_i zc hzc;split at he
          rotate_left
          .cases he
          .rename_i zv hzv;cases hok:(xzI P tb k&&yzi P v)with
           | false=>simp[hok]at he
           | true =>
            simp only[hok,cond_true,sE0]at he;subst he;simp only[Bool.and_eq_true]at hok;have hu:=xzG hmo;obtain⟨r1,_⟩:=bzu h m _ hm;have hmv:a.eval m = .map (some (μ i)):=r1;obtain⟨q1,_⟩:=bzu h kx _ hsk;have hkey:=tzw h hka q1;obtain⟨es,clock,hob,hma⟩:=h.itr i _ hi;obtain⟨hck,_,hfk⟩:=zzR hok.1 hkey zv hma;have hgo:(getObj (μ i)).run P w = .ok (.map es clock) w:=by simp[getObj,Sem.run,hob]
            have hchk:=hck;obtain⟨uz,hz1,hz2⟩:=NzZ (g:=g) (w:=w) hz hzc hzv hok.2;have fin:∀u b,kzO (keq tb k) ka l=b->czf P tb g w v (ezU (keq tb k) zv ka l) u->(Instr.lookup t (a.eval m) (a.eval kx) ok).run P w = .ok (if ok then .tuple #[u,.bool b]else u) w ->
             o.wp P a w (Goes P tb N W a0 g0 w0 D0 (s.put d (bif ok then .tup [(bzw P v,(tb.enc v (ezU (keq tb k) zv ka l)).map .d),(false,[.d (.bool (kzO (keq tb k) ka l))])]else qzu P v (tb.enc v (ezU (keq tb k) zv ka l))))) Q:=fun u b hb hh hrun=>by
             have hex:(execOp a.eval o).run P w = .ok (.value (if ok then .tuple #[u,.bool b]else u)) w:=by
              simp only[execOp,ho,Sem.run_bind,hrun,Result.andThen_ok,Sem.run_pure]
             refine czQ hex ?_;rw[hdst];obtain⟨v1,v2⟩:=rzC (μ:=μ) (τ:=τ) (tok:=s.tok) hh;cases ok with
             | false=>exact(h.put (hd d hdst).1 (hd d hdst).2 v1 (fun j hj=>by rw[v2]at hj;cases hj)).sim
             | true =>
              have hrt:RepV P tb g w μ τ s.tok (.tup [(bzw P v,(tb.enc v (ezU (keq tb k) zv ka l)).map .d),(false,[.d (.bool (kzO (keq tb k) ka l))])]) (.tuple #[u,.bool b]):=by
               refine⟨[u,.bool b],rfl,?_,⟨_,rfl,by rw[<-hb];exact .bool _⟩,trivial⟩;unfold czf at hh;unfold RepT;simp only;cases ha:bzw P v with
               | true =>
                rw[ha,if_pos rfl]at hh;rw[if_pos rfl];obtain⟨us,h1,h2⟩:=hh;exact⟨us,h1,pzt h2⟩
               | false =>
                rw[ha,if_neg (by decide)]at hh;rw[if_neg (by decide)];obtain⟨c,h1,h2⟩:=hh;exact⟨.d c,by rw[h1];rfl,h2⟩
              refine(h.put (hd d hdst).1 (hd d hdst).2 hrt ?_).sim;intro j hj;simp only[SV.ids,List.mem_flatMap]at hj;obtain⟨p,hp,q,hq,hj⟩:=hj;rcases List.mem_cons.1 hp with rfl|hp
              .obtain⟨c,_,rfl⟩:=List.mem_map.1 hq;cases hj
              .rw[List.mem_singleton.1 hp]at hq;rw[List.mem_singleton.1 hq]at hj;cases hj
            rcases hfk with⟨f1,f2,f3⟩|⟨p,e,f1,f2,f3,f4,f5⟩
            .refine fin uz false (by rw[Azk,f1];rfl) (by rw[f3];exact hz2) ?_;simp[Instr.lookup,run_underlying hu,hmv,hgo,hchk,f2,hz1]
            .refine fin e.val true (by rw[Azk,f1];rfl) f5 ?_;simp[Instr.lookup,run_underlying hu,hmv,hgo,hchk,f3]
theorem jz5.length {k v:Nat}:∀{l:List (tb.T k×tb.T v)} {es:List MapEntry},jz5 P tb g w k v l es->l.length=es.length
 | [],[],_=>rfl
 | _::_,_::_,⟨_,_,h⟩=>by simp[jz5.length h]
 | [],_::_,h=>h.elim
 | _::_,[],h=>h.elim
theorem go_mapLen (h:SimAt P tb N W a0 g0 w0 D0 s g μ τ a w){o:Oper}{args:Array Operand}{t i k v:Nat}{kv:Nat×Nat}{l:List (tb.T k×tb.T v)}(ho:o.op = .call ⟨.builtin .len,args,#[t]⟩)(hd:∀d,o.dst=some d->d<N/\W d)
 (hv:vals s.val args.toList=some [.c (.map i)]) (hm:uzU P t=some kv) (hi:s.itr i=some (.mp k v l)) (hf:fits l.length=true):o.wp P a w (Goes P tb N W a0 g0 w0 D0 (s.putO o.dst (.c (.d (.int .i64 l.length))))) Q:=by
 obtain⟨k',v'⟩:=kv;have hu:=xzG hm;obtain⟨q1,_⟩:=iz4 (bzu h) hv;obtain⟨es,clock,hob,hma⟩:=h.itr i _ hi;have hlen:=hma.length;have hfl:l.length<=bz6:=Nat.le_of_ble_eq_true hf;have hgo:(getObj (μ i)).run P w = .ok (.map es clock) w:=by simp[getObj,Sem.run,hob]
 have hus:args.map a.eval = #[.map (some (μ i))]:=by
  apply Array.ext';rw[Array.toList_map];generalize args.toList.map a.eval=us at q1
  match us,q1 with
  | [u],⟨h1,_⟩=>rw[show u = .map (some (μ i)) from h1]
 have hr:RepD P tb g w (.int .i64 (l.length:Int)) (goInt es.size):=by
  have:(es.size:Int)=l.length:=by rw[hlen];simp
  unfold goInt;rw[this];refine .int _ _ ⟨?_,?_⟩
  .show(-9223372036854775808:Int)<=_;omega
  .show _<=(9223372036854775807:Int);unfold bz6 at hfl;omega
 have hr':RepV P tb g w μ τ s.tok (.c (.d (.int .i64 (l.length:Int)))) (goInt es.size):=hr;refine czQ (u:=goInt es.size) ?_ (h.putO hd hr' (by simp[SV.ids,AC.ids])).sim;simp[execOp,ho,resolve,invoke,builtin,hus,Builtin.len_,run_underlying hu,hgo]
end Go.Ev
namespace Go.Ev
open Go
open Go.IntKind (i64 u64 u8 i32 u32 i16 u16)
variable {P:Program} {tb:Tab} {N:Nat} {W:Nat->Prop} {a0:Act} {g0:Gh} {w0:World} {D0:Nat->Prop}
variable {s s':St tb.T} {g g':Gh} {μ μ':Nat->Nat} {τ τ':Nat->Option Nat} {a:Act} {w w':World}
variable {K:Act->World->Prop} {Q:Exit->Act->World->Prop}
theorem Mzp (h:SimAt P tb N W a0 g0 w0 D0 s g μ τ a w){R:Type}{xt e:Nat}{xv:SV tb.T}{v:Value}{κ:List (tb.T e)->Option R}{r:R}(he:szH P tb xt e (s.seen (some xv)) s κ=some r)(hv:∀u,s.seen (some xv)=some u->RepV P tb g w μ τ s.tok u v):
 ((∃e2,P.underlying xt=some (.slice e2))\/P.underlying xt=some .string)/\∃ys zs,Src P tb g w e ys v zs/\κ ys=some r:=by
 unfold szH at he;split at he
 .rename_i e2 e1 i o n hx hs;have rx:=hv _ hs;split at he
  .rename_i o' e' xs hi;by_cases hee:e'=e
   .subst hee;cases hb:Nat.beq e1 e' with
    | false=>simp[hb]at he
    | true =>
     simp only[hb,dite_true,cond_true]at he;have hb:=Nat.eq_of_beq_eq_true hb;subst hb;obtain⟨ys,hys,he⟩:=azp.1 he;obtain⟨_,_,us,hsrc⟩:=src_win (h.arr i _ _ _ hi).1 hys (by
      rcases rx with⟨c1,q,c2,_⟩|⟨b,cap,c1,c2,c3,_⟩
      .exact .inl ⟨c1,q,c2⟩
      .exact .inr ⟨b,cap,c1,c2,c3⟩)
     exact⟨.inl ⟨e2,hx⟩,ys,us,hsrc,he⟩
   .simp[hee]at he
  .cases he
 .rename_i e2 ac _ hx hs;have rx:=hv _ hs;split at he
  .rename_i ys hys;obtain⟨us,hsrc⟩:=JzB (ozW hys rx);exact⟨.inl ⟨e2,hx⟩,ys,us,hsrc,he⟩
  .cases he
 .rename_i l hx hs;have rx:RepD P tb g w (.str l) v:=hv _ hs;cases rx;by_cases hb:e=tb.b8
  .simp only[hb,dite_true]at he;cases hc:Nat.beq (P.cellsOf tb.b8) 1 with
   | false=>simp[hc]at he
   | true =>
    simp only[hc,cond_true]at he;have hsz:=Nat.eq_of_beq_eq_true hc;subst hb;obtain⟨us,hsrc⟩:=src_str (P:=P) (g:=g) (w:=w) rfl tb.hb (by rw[tb.hb]) hsz l;exact⟨.inr hx,_,us,hsrc,he⟩
  .simp[hb]at he
 .cases he
theorem NzP (h:SimAt P tb N W a0 g0 w0 D0 s g μ τ a w){v u:SV tb.T}{x:Value}(hv:RepV P tb g w μ τ s.tok v x)(hs:s.seen (some v)=some u):RepV P tb g w μ τ s.tok u x:=by
 unfold St.seen at hs;split at hs
 .rename_i e i hv';injection hv' with hv';subst hv';split at hs
  .rename_i o e' xs hi;cases o with
   | false=>simp only[cond_false,sE0]at hs;subst hs;exact hv
   | true =>
    simp only[cond_true,sE0]at hs;subst hs;obtain⟨k1,k2,k3,_⟩:=h.arr i _ e' xs hi;have r1:fzh P w (τ i) e (μ i) x:=hv;rw[(k3 rfl).1]at r1;rcases r1 with⟨c1,c2,c3⟩|⟨b,cap,us,fz,c1,c2,c3,c4,_⟩
    .exact .inl ⟨c2,none,by rw[c3],c1.symm⟩
    .exact .inr ⟨b,cap,c1,by rw[c2,Nat.zero_mul],c3,c4⟩
  .simp only[sE0]at hs;subst hs;exact hv
 .simp only[sE0]at hs;subst hs;exact hv
theorem go_append (h:SimAt P tb N W a0 g0 w0 D0 s g μ τ a w){Γ:List (Nat×FSpec tb)}{o:Oper}{st xt:Nat}{args:Array Operand}{sv xv:SV tb.T}(ho:o.op = .call {callee:=.builtin .append,args:=args,argTypes:=#[st,xt]})(hd:∀d,o.dst=some d->d<N/\W d)
 (hv:vals s.val args.toList=some [sv,xv]) (he:jzs P tb Γ o.dst st xt sv xv s some=some s'):o.wp P a w (Goes P tb N W a0 g0 w0 D0 s') Q:=by
 unfold jzs at he;cases hdst:o.dst with
 | none=>simp[hdst]at he
 | some d =>
  simp only[hdst]at he;cases hel:izG P st with
  | none=>simp[hel]at he
  | some e =>
   simp only[hel]at he;obtain⟨r1,r2⟩:=iz4 (bzu h) hv;obtain⟨us,hargs,ru,rx⟩:∃us:Value×Value,args.map a.eval = #[us.1,us.2]/\RepV P tb g w μ τ s.tok sv us.1/\RepV P tb g w μ τ s.tok xv us.2:=by
    match hm:args.toList.map a.eval,r1 with
    | [u,x],⟨q1,q2,_⟩=>exact⟨(u,x),by apply Array.ext';simpa using hm,q1,q2⟩
   obtain⟨uv,xvv⟩:=us;simp only at hargs ru rx;cases hk:(czR P e&&jz1 P e&&Nat.blt 0 (P.bytesOf e))with
   | false=>simp[hk]at he
   | true =>
    simp only[hk,Bool.not_true,cond_false]at he;simp only[Bool.and_eq_true]at hk;obtain⟨⟨hs,hz⟩,hby⟩:=hk;have hby:0<P.bytesOf e:=Nat.le_of_ble_eq_true hby
    obtain⟨hxt,ys,zs,hsrc,he⟩:=Mzp h he fun u hu=>NzP h rx hu
    split at he
    .
     obtain⟨all,hall,he2⟩:=azp.1 he;clear he;obtain⟨hlim,hal⟩:=DzL hall;clear hall;subst hal;have ru':RepD P tb g w .nil uv:=ru;cases ru';unfold hzk at he2;cases hmut:uzI Γ d with
     | false =>
      simp only[hmut,cond_false,jzt]at he2;cases hus:s.used d with
      | true=>simp[hus]at he2
      | false =>
       simp only[hus,cond_false,sE0]at he2;subst he2;exact yzq h ho hdst (hd d hdst) (iz7 hel) hxt hs hz hby (ids:=[]) (xs:=[]) (b?:=none) hargs (.slnil e) (.inl ⟨rfl,rfl,rfl⟩) hsrc hlim hus (by simp)
     | true =>
      simp only[hmut,cond_true,lzW]at he2;cases hus:s.used d with
      | true=>simp[hus]at he2
      | false =>
       simp only[hus,cond_false,sE0]at he2;subst he2;exact zzT h ho hdst (hd d hdst) (iz7 hel) hxt hs hz hby (xs:=[]) (b?:=none) hargs (.inl ⟨rfl,rfl⟩) (.inl ⟨rfl,rfl,rfl⟩) hsrc hlim hus (A:=s.arr) (fun _ _=>⟨rfl,by simp⟩) (by simp)
    .rename_i e' xs t _;by_cases hee:e'=e
     .subst hee;simp only[dite_true]at he;cases ht:s.tok t with
      | false=>simp[ht]at he
      | true =>
       simp only[ht,cond_true]at he;obtain⟨all,hall,he2⟩:=azp.1 he;clear he;obtain⟨hlim,hal⟩:=DzL hall;clear hall;subst hal;unfold jzt at he2;cases hus:s.used d with
       | true=>simp[St.drop,hus]at he2
       | false =>
        have hus':(s.drop [t]).used d=false:=hus;simp only[hus',cond_false,sE0]at he2;subst he2;obtain⟨q1,q2⟩:=ru;refine yzq h ho hdst (hd d hdst) (iz7 hel) hxt hs hz hby (ids:=[t]) (b?:=τ t) hargs q1 (q2 ht) hsrc hlim hus (fun b hb=>⟨((h.tokv t ht).2 b hb).2.2,fun t' ht' hm e=>?_,fun i hi e=>?_⟩)
        .have:=h.tinj t' t b ht' ht e hb;subst this;simp[memB]at hm
        .cases ha:s.arr i with
         | none=>exact hi ha
         | some z=>obtain⟨o3,e3,xs3⟩:=z;exact((h.arr i o3 e3 xs3 ha).2.2.2 t b hb e).1 ht
     .simp[hee]at he
    .rename_i e1 i _;split at he
     .rename_i o' e' xs hi;by_cases hee:e'=e
      .subst hee;cases hk:(o'&&Nat.beq e1 e')with
       | false=>simp[hk]at he
       | true =>
        simp only[hk,dite_true,cond_true]at he;simp only[Bool.and_eq_true]at hk;obtain⟨ho',he1⟩:=hk;have he1:=Nat.eq_of_beq_eq_true he1;subst ho';subst he1;obtain⟨all,hall,he2⟩:=azp.1 he;clear he;obtain⟨hlim,hal⟩:=DzL hall;clear hall;subst hal;unfold tzJ lzW at he2;cases hus:s.used d with
        | true=>simp[hus]at he2
        | false =>
         simp only[hus,cond_false,sE0]at he2;subst he2;obtain⟨k1,k2,k3,k4⟩:=h.arr i _ _ _ hi;have ru:fzh P w (τ i) e1 (μ i) uv:=ru;rw[(k3 rfl).1]at ru;refine zzT h ho hdst (hd d hdst) (iz7 hel) hxt hs hz hby (b?:=τ i) hargs k1 ru hsrc hlim hus (A:=upd s.arr i none) (fun j hj=>?_) (fun b hb=>⟨(k3 rfl).2 b hb,fun t ht e=>(k4 t b e hb).1 ht⟩);by_cases c:j=i
         .subst c;rw[azh]at hj;exact absurd rfl hj
         .rw[azo _ _ c]at hj ⊢;exact⟨rfl,fun b hb e=>c ((k4 j b e hb).2 hj)⟩
      .simp[hee]at he
     .cases he
    .cases he
theorem refs_tk {get:Nat->Option (SV tb.T)}{i:Nat}:∀{l:aze},i∈idsS get (azm l)->i∈idsS get (tkOf l)
 | [],h=>h
 | q::l,h=>by
  obtain⟨t,p⟩:=q;simp only[azm,tkOf]at h ⊢;have ih:=refs_tk (get:=get) (i:=i) (l:=l);cases p<;>simp only[Pat.isRef,Pat.taken,cond_true,cond_false,idsS,List.mem_append]at h ⊢
  all_goals first
   | exact ih h
   | exact h.imp id ih
   | exact .inr (ih h)
theorem MzG {get:Nat->Option (SV tb.T)}:∀{rs:aze} {x:XS tb rs} {s:St tb.T},(bzT tb s get rs x).arr=s.arr:=by
 have one:∀(s:St tb.T) (q:Nat×Pat) (x:X tb q.2),(bzT.one tb get s q x).arr=s.arr:=fun s q x=>by
  unfold bzT.one;split
  .split<;>rfl
  .split<;>rfl
  .rfl
 intro rs;induction rs with
 | nil=>intro x s;rfl
 | cons q rs ih =>
  intro x s;cases rs with
  | nil=>exact one s q x
  | cons q' rs =>
   obtain⟨x,xs⟩:=x;exact(ih (x:=xs) (s:=bzT.one tb get s q x)).trans (one s q x)
theorem xza (h:SimAt P tb N W a0 g0 w0 D0 s g μ τ a w){get:Nat->Option (SV tb.T)}{ins outs:aze}{vs:List Value}{bs:List (Option Nat)}{y:Ret tb outs (azm ins)}{us:List Value}{cs:List (Option Nat)}
 (hb:BlkL s μ τ get ins bs) (hn:(azl bs).Nodup) (hl:Left P tb g w ins outs vs bs y us cs g' w') :
 SimAt P tb N W a0 g0 w0 D0 (bzT tb (s.take get ins) get (azm ins) y.refs) g' μ τ a w'/\(∀k∈azl cs,kzX P tb w0 D0 (bzT tb (s.take get ins) get (azm ins) y.refs) τ k) /\
  (∀k∈azl cs,∀j,azn (bzT tb (s.take get ins) get (azm ins) y.refs) j->μ j≠k)/\(bzT tb (s.take get ins) get (azm ins) y.refs).used=s.used:=by
 obtain⟨l1,l2,l3,l4,l5⟩:=hl;obtain⟨t1,t2,t3⟩:=h.take hb l1;have hsub:(azl (bzL ins bs)).Sublist (azl bs):=(xzb (l:=ins) (bs:=bs)).filterMap _;have hdis:∀j,azn (s.take get ins) j->μ j ∉ azl (bzL ins bs):=fun j hj hm=>by
  obtain⟨k1,k2⟩:=t3 j hj;obtain⟨i,hi,hi'⟩:=vzV (szD hb) _ hm;have:=vzW h (.inr ⟨k1,rfl⟩) hi';exact k2 (refs_tk (this▸hi))
 obtain⟨p1,p2,p3,p4,p5,p6⟩:=Dzq t1 (tz8 (l:=ins)) (so:=s) (szD hb) l3 (hn.sublist hsub) (fun i hi hr=>by
  obtain⟨q1,q2,q3,q4⟩:=h.live i hi;exact⟨q1,hr,q4.resolve_left (by rw[hr];simp)⟩) hdis
 refine⟨p1,fun k hk=>?_,fun k hk j hj e=>?_,p4⟩
 rotate_left
 .obtain⟨m1,m2⟩:=l5 k hk;rcases p2 j hj with c|c
  .obtain⟨q1,q2⟩:=t3 j c;rcases m1 with m1|m1
   .have:=(h.live j q1).2.2.1;omega
   .rcases(kzI hb k m1).2 with⟨i,_,hi1,hi2⟩|⟨i,hi,hi1,hi2,_⟩
    .obtain⟨n,hn⟩:=Mine.apart h ⟨hi1.imp id fun⟨_,_,c⟩=>by rw[c];simp,hi2⟩;rw[<-e,(h.live j q1).2.1]at hn;cases hn
    .have:=h.inj j i q1 hi1 (e.trans hi2.symm);exact q2 (this▸hi)
  .exact m2 (e▸c)
 obtain⟨m1,m2⟩:=l5 k hk;refine⟨?_,fun t ht e=>?_⟩
 .rcases m1 with c|c
  .exact .inl (Nat.le_trans h.ext.size c)
  .rcases(kzI hb k c).2 with⟨j,_,hj1,hj2⟩|⟨j,_,hj1,hj2,hj3⟩
   .exact ozD h hj1 hj2
   .have:=(h.live j hj1).2.2.2;rw[hj2,hj3]at this;exact this.resolve_left (by simp)
 .rw[p3,MzG]at ht;obtain⟨q1,q2⟩:=t2 t k ht e;rcases m1 with c|c
  .omega
  .exact q1 c
theorem HzV (h:SimAt P tb N W a0 g0 w0 D0 s g μ τ a w){o:Oper}{fid:Nat}{vs:List (SV tb.T)}{us:List Value}(hexec:(execOp a.eval o).run P w=(callFunc fid us.toArray).run P w)(hd:∀d,o.dst=some d->d<N/\W d)
 (hr:All2 (RepV P tb g w μ τ s.tok) vs us) (hri:∀v∈vs,∀i∈v.ids,s.used i=true):∀{Γ:List (Nat×FSpec tb)},(∀p∈Γ,ez7 P tb p.1 p.2)->(∀p∈Γ,(azX p.2.ins).map (·.1)=List.range (azX p.2.ins).length) ->
 kza P tb fid vs o.dst s some Γ=some s'->o.wp P a w (Goes P tb N W a0 g0 w0 D0 s') Q
 | [],_,_,he=>by simp[kza]at he
 | (f,sp)::Γ,hΓ,hsl,he=>by
  simp only[kza]at he;cases hf:Nat.beq f fid with
  | false =>
   simp only[hf,cond_false]at he;exact HzV h hexec hd hr hri (fun p hp=>hΓ p (by simp[hp])) (fun p hp=>hsl p (by simp[hp])) he
  | true =>
   simp only[hf,cond_true]at he;have hfe:=Nat.eq_of_beq_eq_true hf;cases hx:extS P tb s (vget s fun i=>vs[i]?) sp.ins with
   | none =>
    simp only[hx]at he;exact HzV h hexec hd hr hri (fun p hp=>hΓ p (by simp[hp])) (fun p hp=>hsl p (by simp[hp])) he
   | some x =>
    simp only[hx]at he;cases hk:(czl (idsS (vget s fun i=>vs[i]?) sp.ins)&&Nat.beq (azX sp.ins).length vs.length)with
    | false=>simp[hk]at he
    | true =>
     simp only[hk,cond_true]at he;simp only[Bool.and_eq_true]at hk;obtain⟨hk1,hk2⟩:=hk;have hk1:=fzi.1 hk1;have hk2:=Nat.eq_of_beq_eq_true hk2;obtain⟨y,hy,he⟩:=azp.1 he;cases hp:lzX P tb o.dst (fun i=>vs[i]?) (bzT tb (s.take (vget s fun i=>vs[i]?) sp.ins) (vget s fun i=>vs[i]?) (azm sp.ins) y.refs) sp.outs y.outs with
     | none=>simp[hp]at he
     | some s2 =>
      simp only[hp,sE0]at he;subst he;have hct:=hΓ (f,sp) (by simp);simp only at hct;have hslots:=hsl (f,sp) (by simp);simp only at hslots;have hul:=hr.length;have hrep:∀t v,vget s (fun i=>vs[i]?) t=some v->∃u,vval w (fun i=>us[i]?) t=some u/\RepV P tb g w μ τ s.tok v u:=fun t v hv=>Ez4 h (fun t v _ hv=>hr.get hv) hv
      obtain⟨bs,hh,hbl⟩:=pzk h (val:=fun i=>(vval w (fun i=>us[i]?) i).getD undef) hx (fun q hq v hv=>by
       obtain⟨u,hu,hru⟩:=hrep q.1 v hv;simpa[hu]using hru)
      have hat:=xzd (base:=fun i=>us[i]?) (fun t v hv=>by obtain⟨u,hu,_⟩:=hrep t v hv;exact⟨u,hu⟩) hbl;have hmap:bzv sp.ins (sp.ins.map fun q=>(vval w (fun i=>us[i]?) q.1).getD undef)=us:=by
       rw[tzO (fun i=>(vval w (fun i=>us[i]?) i).getD undef)];have:((azX sp.ins).map fun q=>(vval w (fun i=>us[i]?) q.1).getD undef)=((azX sp.ins).map (·.1)).map fun i=>us.getD i undef:=by
        rw[List.map_map];refine List.map_congr_left fun q hq=>?_
        have hq':ezu q.1=true:=by simp only[azX,List.mem_filter]at hq;exact hq.2
        rw[fzA (izd.1 hq')];simp[List.getD_eq_getElem?_getD]
       rw[this,hslots,hk2,hul];apply List.ext_getElem?;intro i;rcases Nat.lt_or_ge i us.length with c|c
       .simp[c]
       .simp[c]
      have hn:=pzf h hbl hk1;have harg:∀(i j o:Nat),(fun i:Nat=>vs[i]?) i=some (SV.c (.ptr j o))->us[i]?=some (Value.pointer (some ⟨μ j,o,none⟩))/\s.used j=true:=fun i j o hv=>by
       obtain⟨u,hu,hru⟩:=hr.get hv;have hru:u = .pointer (some ⟨μ j,o,none⟩):=hru;exact⟨by rw[hu,hru],hri _ (List.mem_of_getElem? hv) j (by simp[SV.ids,AC.ids])⟩
      have harg2:∀(i e j:Nat),(fun i:Nat=>vs[i]?) i=some (SV.c (.vsl e j))->∃u,us[i]?=some u/\fzh P w (τ j) e (μ j) u/\s.used j=true:=fun i e j hv=>by
       obtain⟨u,hu,hru⟩:=hr.get hv;exact⟨u,hu,hru,hri _ (List.mem_of_getElem? hv) j (by simp[SV.ids,AC.ids])⟩
      have key:=hct g w x _ bs y hy (tb.invk h.ext h.inv0) (by rw[hmap];exact hat) hh hn;rw[hmap]at key;rcases key with⟨hent,hcall⟩|⟨v,w',hval,v',us',cs,g',hve,hv,hat',hleft⟩
      .unfold Oper.wp;rw[hexec,<-hfe,hent];refine Calls.mono hcall ?_;rintro e w' ⟨v,us',cs,g',rfl,hv,hat',hleft⟩;obtain⟨k1,k2,_,k4⟩:=xza h hbl hn hleft;obtain⟨μ',τ',k3,_⟩:=tzN (dst:=o.dst) hd (fun i j o hv=>⟨(harg i j o hv).1,by rw[k4];exact(harg i j o hv).2⟩) (fun i e j hv=>by
        obtain⟨u,q1,q2,q3⟩:=harg2 i e j hv;exact⟨u,q1,q2.mono hleft.1.shp,by rw[k4];exact q3⟩) k1 hleft.2.1 hleft.2.2.2.1 k2 hv hat' hp
       exact k3.sim
      .injection hve with hve;subst hve;refine czQ (by rw[hexec,<-hfe];exact hval) ?_;obtain⟨k1,k2,_,k4⟩:=xza h hbl hn hleft;obtain⟨μ',τ',k3,_⟩:=tzN (dst:=o.dst) hd (fun i j o hv=>⟨(harg i j o hv).1,by rw[k4];exact(harg i j o hv).2⟩) (fun i e j hv=>by
        obtain⟨u,q1,q2,q3⟩:=harg2 i e j hv;exact⟨u,q1,q2.mono hleft.1.shp,by rw[k4];exact q3⟩) k1 hleft.2.1 hleft.2.2.2.1 k2 hv hat' hp
       exact k3.sim
theorem go_cut (h:SimAt P tb N W a0 g0 w0 D0 s g μ τ a w){Γ:List (Nat×FSpec tb)}{o:Oper}{t:Nat}{x:Operand}{l hh m:Option Operand}{q:Nat×Nat×Nat}(ho:o.op = .slice t x l hh m)(hd:∀d,o.dst=some d->d<N/\W d)
 (hq:cutOf Γ m l o.dst (s.val x)=some q)
 (he:(match s.arr q.2.2,dzt s.look hh 0,izG P t with
  | some (.mk o e xs),some hi,some e'=>bif o&&Nat.beq q.2.1 e&&Nat.beq e' e&&czR P e&&hh.isSome then obnd (sub xs 0 hi) fun zs=>tzJ tb s q.2.2 q.1 e zs some else none
  | _,_,_=>none)=some s'):o.wp P a w (Goes P tb N W a0 g0 w0 D0 s') Q:=by
 unfold cutOf at hq;split at hq
 .rename_i d e1 i hdst hv;cases hmut:uzI Γ d with
  | false=>simp[hmut]at hq
  | true =>
   simp only[hmut,cond_true,sE0]at hq;subst hq;simp only at he;split at he
   .rename_i o' e xs hi e' ha hb hel;cases hk:(o'&&Nat.beq e1 e&&Nat.beq e' e&&czR P e&&hh.isSome)with
    | false=>simp[hk]at he
    | true =>
     simp only[hk,cond_true]at he;simp only[Bool.and_eq_true]at hk;obtain⟨⟨⟨⟨h1,h2⟩,h3⟩,hs⟩,h4⟩:=hk;have h2:=Nat.eq_of_beq_eq_true h2;have h3:=Nat.eq_of_beq_eq_true h3;subst h1;subst h2;subst h3;obtain⟨zs,hz,he⟩:=azp.1 he;obtain⟨a0',a1,a2,hzs⟩:=Ez1 hz;have hzs:zs=xs.take hi.toNat:=by rw[hzs];simp
     clear hz;subst hzs;unfold tzJ lzW at he;cases hus:s.used d with
     | true=>simp[hus]at he
     | false =>
      simp only[hus,cond_false,sE0]at he;subst he;obtain⟨k1,k2,k3,k4⟩:=h.arr i _ _ _ ha;have ru:fzh P w (τ i) e' (μ i) (a.eval x):=(bzu h x _ hv).1;rw[(k3 rfl).1]at ru;have hu:=iz7 hel;have hlen:(xs.take hi.toNat).length=hi.toNat:=by simp;omega
      have hbb:hh.map a.eval=none/\hi=0\/∃k,hh.map a.eval=some (.int k hi):=fzN (pzV h) hb;have hbk:∃k,hh.map a.eval=some (.int k hi):=by
       rcases hbb with⟨c,_⟩|c
       .cases hh with
        | none=>cases h4
        | some y=>cases c
       .exact c
      have hsb:=fun cap (hc:xs.length<=cap)=>mz2 (P:=P) (w:=w) (isSlice:=true) (len:=xs.length) (cap:=cap) (lo':=none) (hi':=hh.map a.eval) (l:=0) (h:=hi) (.inl ⟨rfl,rfl⟩) (.inr hbk) (Int.le_refl _) a1 a2 hc
      have hsz:=fun w=>czj (P:=P) (dz4 hs) w
      have hA:∀j,upd s.arr i none j≠none->upd s.arr i none j=s.arr j/\∀b,τ j=some b->¬False/\τ i≠some b:=fun j hj=>by
       by_cases c:j=i
       .subst c;rw[azh]at hj;exact absurd rfl hj
       .rw[azo _ _ c]at hj ⊢;exact⟨rfl,fun b hb=>⟨fun f=>f,fun e=>c ((k4 j b hb e).2 hj)⟩⟩
      have har:fzB P tb g w (τ i) e' (xs.take hi.toNat):=by
       rcases k1 with⟨c1,rfl⟩|⟨b,us,fz,c1,c2,c3,c4,c5,c6,c7,c8⟩
       .exact .inl ⟨c1,by simp⟩
       .refine .inr ⟨b,us,fz,c1,c2,c3,c4,c5,Nat.le_trans (Nat.mul_le_mul_right _ (by rw[hlen];omega)) c6,fun x hx=>c7 x (List.mem_of_mem_take hx),fun j x k c hx hc=>?_⟩;have hj:j<hi.toNat:=by have:=(List.getElem?_eq_some_iff.1 hx).1;omega
        rw[List.getElem?_take_of_lt hj]at hx;exact c8 j x k c hx hc
      have fin:∀{v:Value},(execOp a.eval o).run P w = .ok (.value v) w->fzh P w (τ i) e' (xs.take hi.toNat).length v->o.wp P a w (Goes P tb N W a0 g0 w0 D0 {s with env:=upd s.env d (some (.c (.vsl e' d))),arr:=upd (upd s.arr i none) d (some (.mk true e' (xs.take hi.toNat))),used:=upd s.used d true}) Q:=fun hrun hvs=>by
       refine czQ hrun ?_;rw[hdst];exact(h.arT (D:=fun _=>False) (b?:=τ i) (Ext.refl _ _ _) (hd d hdst).1 (hd d hdst).2 hus (fun _ _ f=>f.elim) (fun _ _ _ _ f=>f) (fun _ _ f=>f) (fun b hb=>⟨(k3 rfl).2 b hb,fun t ht e=>(k4 t b e hb).1 ht⟩) hA har hvs).sim
      rcases ru with⟨c1,c2,c3⟩|⟨b,cap,us,fz,c1,c2,c3,c4,c5,c6⟩
      .have hsb0:=hsb 0 (by omega);have e2:hi.toNat=0:=by omega
       refine fin (v:=.slice none 0 0) ?_ (.inl ⟨c1,by rw[hlen];exact e2,rfl⟩);have hx0:xs.length=0:=c2;rw[hx0]at hsb0;simp only[execOp,ho,c3,Option.map_none,Instr.sliceAt,Instr.slice,Sem.run_bind,run_underlying hu,Result.andThen_ok,hsb0,hsz,e2];simp
      .have hsb0:=hsb cap c3;refine fin (v:=.slice (some ⟨b,0,none⟩) hi.toNat cap) ?_ (.inr ⟨b,cap,us,fz,c1,by rw[hlen],by rw[hlen];omega,c4,c5,c6⟩);simp only[execOp,ho,c2,Option.map_none,Instr.sliceAt,Instr.slice,Sem.run_bind,run_underlying hu,Result.andThen_ok,hsb0,hsz,Sem.run_pure];simp[ezm]
   .cases he
 .cases hq
theorem Mz7 {Γ:List (Nat×FSpec tb)}(hΓ:∀p∈Γ,ez7 P tb p.1 p.2)(hsl:∀p∈Γ,(azX p.2.ins).map (·.1)=List.range (azX p.2.ins).length)(h:SimAt P tb N W a0 g0 w0 D0 s g μ τ a w)(o:Oper)(hd:∀d,o.dst=some d->d<N/\W d)
 (he:evOp P tb Γ o s some=some s'):o.wp P a w (Goes P tb N W a0 g0 w0 D0 s') Q:=by
 have he':=he;unfold evOp at he;split at he
 .
  rename_i e ho;cases hdst:o.dst with
  | none=>simp[hdst]at he
  | some d =>
   cases hz:jzQ (T:=tb.T) P e with
   | none=>simp[hdst,hz]at he
   | some z =>
    simp only[hdst,hz]at he;exact go_alloc h ho hdst (hd d hdst) hz he
 .
  rename_i e x ho;cases hdst:o.dst with
  | none=>simp[hdst]at he
  | some d =>
   cases hv:s.val x with
   | none=>simp[hdst,hv]at he
   | some v =>
    cases hc:v.cells with
    | none=>simp[hdst,hv,hc]at he
    | some Nz0 =>
     simp only[hdst,hv,hc]at he;exact go_box h ho hdst (hd d hdst) hv hc he
 .rename_i t x ho;exact go_load h ho hd he'
 .rename_i t x y ho;exact go_store h ho he'
 .rename_i t n parts ho;exact JzP h ho hd he'
 .rename_i t l c ho;exact KzT h ho hd he'
 .
  rename_i src dst x ho;split at he
  .rename_i e l d hs hu hv hdst;split at he
   .rename_i hue;by_cases hb:e=tb.b8
    .simp only[hb,dite_true]at he;cases hc:Nat.beq (P.cellsOf tb.b8) 1 with
     | false=>simp[hc]at he
     | true =>
      simp only[hc,cond_true]at he;subst hb;exact go_bytes h ho hdst (hd d hdst) hs hu hue hv rfl (Nat.eq_of_beq_eq_true hc) _ he
    .simp[hb]at he
   .rename_i hue;by_cases hb:tb.r4=some e
    .simp only[hb,dite_true]at he;cases hc:Nat.beq (P.cellsOf e) 1 with
     | false=>simp[hc]at he
     | true =>
      simp only[hc,cond_true]at he;obtain⟨rs,hrs,he⟩:=azp.1 he;exact go_runes h ho hdst (hd d hdst) hs hu hue hv hb (Nat.eq_of_beq_eq_true hc) hrs _ he
    .simp[hb]at he
   .cases he
  .exact go_P h hd (by rw[ho];rw[ho]at he;exact he)
 .rename_i t x ho;exact go_range h ho hd he'
 .rename_i x str ho;exact go_next h ho hd he'
 .
  rename_i t r ho;split at he
  .cases he
  .split at he
   .rename_i d hdst;split at he
    .cases hu:s.used d with
     | true=>simp[hu]at he
     | false =>
      simp only[hu,cond_false,sE0]at he;subst he;exact Nzk h ho hdst (hd d hdst) hu
    .cases he
   .cases he
 .rename_i ho;exact go_put h (.inr ho) he
 .rename_i ho;exact go_put h (.inl ho) he
 .rename_i ho;exact go_lookup h ho hd he'
 .
  rename_i args argTypes ho;split at he
  .rename_i sv xv st xt hv ht;have:argTypes = #[st,xt]:=by apply Array.ext';simpa using ht
   subst this;exact go_append h ho hd hv he
  .cases he
 .
  rename_i args argTypes ho;split at he
  .rename_i i t hv ht;have:argTypes = #[t]:=by apply Array.ext';simpa using ht
   subst this;split at he
   .rename_i kv k v l hm hi;cases hf:fits l.length with
    | false=>simp[hf]at he
    | true =>
     simp only[hf,azd,sE0]at he;subst he;exact go_mapLen h ho hd hv hm hi hf
   .cases he
  .rw[ho]at he;exact go_Pρ h (pzV h) hd (by rw[ho];exact he)
 .
  rename_i t x l hh m ho;split at he
  .rename_i q hq;exact go_cut h ho hd hq he
  .rw[ho]at he;exact go_Pρ h (pzV h) hd (by rw[ho];exact he)
 .rename_i ho;rw[ho]at he;exact go_Pρ h (pzV h) hd (by rw[ho];exact he)
 .rename_i ho;rw[ho]at he;exact go_Pρ h (pzV h) hd (by rw[ho];exact he)
 .
  rename_i f args argTypes ho;split at he
  .rename_i fid caps hf;split at he
   .rename_i vs hv;obtain⟨r1,r2⟩:=bzu h f _ hf;obtain⟨q1,q2⟩:=iz4 (bzu h) hv;have hfe:a.eval f = .func (.func fid) #[] (caps.map fun p=>Value.pointer (some ⟨μ p.1,p.2,none⟩)).toArray:=r1;refine HzV (us:=args.toList.map a.eval++caps.map fun p=>Value.pointer (some ⟨μ p.1,p.2,none⟩)) h ?_ hd (q1.append ?_) (fun v hv' i hi=>?_) hΓ hsl he
    .simp only[execOp,ho,resolve,hfe,Deferred.ofValue,Sem.run_bind,Sem.run_pure,Result.andThen_ok,invoke];congr 1;congr 1;apply Array.ext';simp
    .clear he hf r1 r2 hfe;induction caps with
     | nil=>trivial
     | cons p ps ih=>exact⟨rfl,ih⟩
    .rcases List.mem_append.1 hv' with c|c
     .exact q2 v c i hi
     .obtain⟨p,hp,rfl⟩:=List.mem_map.1 c;refine r2 i ?_;simp only[SV.ids,AC.ids,List.mem_singleton]at hi;subst hi;exact List.mem_map.2 ⟨p,hp,rfl⟩
   .cases he
  .cases he
 .exact go_P h hd he
end Go.Ev