import Derived.Test.YtdgpkbnnljblmaaGreatDoorY1
/- Y2 -/
namespace Go.Proofs.YtdgpkbnnljblmaaGreatDoor
open Go Go.Ev Go.Lib
def numR (v:Val):Dec×Val×Bool:=(az4 v).getD (⟨0,0⟩,v0,false)
def truR (v:Val):Bool×Val×Bool:=(bzV v).getD (false,v0,false)
def worR (v:Val):List UInt8×Val×Bool:=(cz2 v).getD ([],v0,false)
theorem jzq {v:Val}(h:okW v):az4 v=some (numR v)∧True:=by
 obtain⟨r,h1,h2⟩:=number_eq h.1 h.2.1;unfold numR;rw[h1];exact⟨rfl,h2⟩
theorem xzL {v:Val}(h:okW v):bzV v=some (truR v)∧True:=by
 obtain⟨r,h1,h2⟩:=truth_eq h.1;unfold truR;rw[h1];exact⟨rfl,h2⟩
theorem wor_eq {v:Val}(h:okW v):cz2 v=some (worR v)∧True:=by
 obtain⟨r,h1,h2⟩:=words_eq h.1 h.2.2;unfold worR;rw[h1];exact⟨rfl,h2⟩
theorem parse_ok (x:List UInt8):okD (fz7 x).1∧I64 (fz7 x).1.M:=by
 have z:okD ⟨0,0⟩∧I64 (⟨0,0⟩:Dec).M:=⟨ok0,I0⟩;unfold fz7;generalize (cutW (czx x)).1=w;generalize (cutW (czx x)).2.1=b;generalize (cutW (czx x)).2.2=p;generalize hzL x=m;split
 ·exact z
 ·rename_i hc;have hd:(w++b).all isD=true:=by
   cases h:(w++b).all isD with
   | true=>rfl
   | false=>rw[h]at hc;simp at hc
  unfold kz1;by_cases h1:(if m then 9223372036854775808<valB (w++b) 0 else 9223372036854775808≤valB (w++b) 0)
  ·rw[if_pos h1];exact z
  rw[if_neg h1];by_cases h2:9<b.length∨b.getLast?=some 48
  ·rw[if_pos h2];exact z
  rw[if_neg h2];simp only[not_or]at h2;refine⟨⟨by simp,by simp only;omega,fun h3 hm=>?_⟩,?_⟩
  ·simp only at h3 hm;rcases List.eq_nil_or_concat b with rfl|⟨l,c,rfl⟩
   ·simp at h3
   ·simp only[List.concat_eq_append]at hd h2 hm;have hc:isD c=true:=by
     rw[List.all_eq_true]at hd;exact hd c (by simp)
    have hne:c≠48:=fun e=>h2.2 (by simp[e])
    have hv:valB (w++(l++[c])) 0%10=c.toNat-48:=by
     rw[←List.append_assoc,ozh];unfold isD at hc;simp only[Bool.and_eq_true,decide_eq_true_eq]at hc;simp only[valB];omega
    have hc48:c.toNat≠48:=fun e=>hne (UInt8.toNat_inj.1 (by simpa using e))
    unfold isD at hc;simp only[Bool.and_eq_true,decide_eq_true_eq]at hc;generalize valB (w++(l++[c])) 0=n at hv hm;cases m
    ·simp at hm;omega
    ·simp at hm;omega
  ·unfold I64;generalize valB (w++b) 0=n at h1;cases m
   ·simp at h1 ⊢;omega
   ·simp at h1 ⊢;omega
theorem mzy {v:Val}(h:okW v):okD (numR v).1∧I64 (numR v).1.M:=by
 have z:okD ⟨0,0⟩∧I64 (⟨0,0⟩:Dec).M:=⟨ok0,I0⟩;obtain⟨h,hl,hm⟩:=h;rcases h with rfl|⟨d,rfl,hd⟩|⟨s,rfl,hs⟩|⟨t,rfl⟩|⟨e,rfl⟩
 ·exact z
 ·exact⟨hd,hm⟩
 ·have hl:s.length≤3000:=hl;unfold numR az4 vS azn;simp[vzj (x:=s) (by omega)];by_cases h:(fz7 s).2=0<;>simp[h]
  ·exact parse_ok s
  ·exact z
 ·cases t
  ·exact z
  ·exact⟨okInt 1,by unfold I64;decide⟩
 ·exact z
def pz7 (area:Bool)(v:Val):Bool:=area&&(!decide (v.Kind=1)&&!decide (v.Kind=4))
def dz2 (area:Bool)(acc:List Dec)(v:Val):List Dec⊕(List Dec⊕Val) :=
 bif pz7 area v then .inl acc else bif (numR v).2.2 then .inl (acc++[(numR v).1])else .inr (.inr (numR v).2.1)
def numL (area:Bool)(acc:List Dec)(l:List Val):List Dec⊕Val:=azy (dz2 area) .inl acc l
def rz2:List Dec⊕Val→((List Dec)×Val)⊕((List Dec×Bool)×Val)
 | .inl acc=>.inl (acc,v0)
 | .inr v=>.inr (([],false),v)
theorem tz3 {area:Bool}{acc acc':List Dec}{v:Val}(h:dz2 area acc v = .inl acc'):acc'.length≤acc.length+1:=by
 unfold dz2 at h;cases hk:pz7 area v with
 | true=>rw[hk,cond_true]at h;injection h with h;subst h;omega
 | false =>
  rw[hk,cond_false]at h;cases hn:(numR v).2.2 with
  | true=>rw[hn,cond_true]at h;injection h with h;subst h;simp
  | false=>rw[hn,cond_false]at h;cases h
theorem vzi {area:Bool}:∀{l:List Val} {acc acc':List Dec},numL area acc l = .inl acc'→acc'.length≤acc.length+l.length
 | [],acc,acc',h=>by simp only[numL,azy]at h;injection h with h;subst h;simp
 | v::l,acc,acc',h=>by
  simp only[numL,azy]at h;cases hs:dz2 area acc v with
  | inl a =>
   rw[hs]at h;have:=vzi (l:=l) h;have:=tz3 hs;simp only[List.length_cons];omega
  | inr y =>
   rw[hs]at h;have h:y = .inl acc':=h;subst h;unfold dz2 at hs;cases h1:pz7 area v<;>cases h2:(numR v).2.2<;>simp[h1,h2]at hs
theorem DzK {a:Arg}{acc:List Dec}(hL:a.L.length≤5000)(hv:∀v∈a.L,okW v)(ha:acc.length≤1000000):
 jzg (v0,acc,a,a.L,(a.L.length:Int),0)=some (rz2 (numL a.Area acc a.L)):=by
 refine azR (F:=ezZ) (fun s i=>(v0,s,a,a.L,(a.L.length:Int),(i:Int))) rz2 a.L (dz2 a.Area) .inl (fun s i=>s.length≤acc.length+i) (by omega) ?_ ?_ ?_ acc (by simp)
 ·intro back s i hi hs;unfold ezZ;simp only;have hn:=(jzq (hv a.L[i] (List.getElem_mem hi))).1;rw[ltT hi,azc,idxG hi,aza,wr1 (by omega)];unfold dz2 pz7;have e:obnd (az4 a.L[i]) (fun y=>brn (!y.2.snd) (some (Sum.inr (([],false),y.2.fst))) (obnd (app 16 s [y.fst]) fun zs=>back (v0,zs,a,a.L,(a.L.length:Int),((i+1:Nat):Int)))) =
   kzD (fun s'=>back (v0,s',a,a.L,(a.L.length:Int),((i+1:Nat):Int))) rz2 (bif (numR a.L[i]).2.2 then(.inl (s++[(numR a.L[i]).1]):List Dec⊕(List Dec⊕Val))else .inr (.inr (numR a.L[i]).2.1)):=by
   rw[hn,aza,appN (by simp;omega)];cases(numR a.L[i]).2.2<;>rfl
  cases a.Area with
  | false=>simp only[azb,Bool.false_and,cond_false];exact e
  | true =>
   simp only[azc,Bool.true_and];by_cases h1:(a.L[i]).Kind=1
   ·rw[dT0 h1];simp only[Bool.not_true,azb,Bool.false_and,cond_false];exact e
   ·rw[dF0 h1];simp only[Bool.not_false,azc,Bool.true_and];by_cases h4:(a.L[i]).Kind=4
    ·rw[dT0 h4];simp only[Bool.not_true,azb,cond_false];exact e
    ·rw[dF0 h4];rfl
 ·intro s i hi s' hs hst;have:=tz3 hst;omega
 ·intro back s hs;unfold ezZ;simp only;rw[ltF,azb];rfl
def numA (acc:List Dec)(l:List Arg):List Dec⊕Val:=azy (fun acc a=>match numL a.Area acc a.L with | .inl x=>.inl x | .inr v=>.inr (.inr v)) .inl acc l
theorem DzJ {l:List Arg}(h:okA l):jze l=some (match numA [] l with | .inl x=>(x,v0,true) | .inr v=>([],v,false)):=by
 unfold jze;have:=azR (F:=ezY) (fun s i=>(v0,s,l,(l.length:Int),(i:Int))) rz2 l (fun acc a=>match numL a.Area acc a.L with | .inl x=>.inl x | .inr v=>.inr (.inr v)) .inl (fun s i=>s.length≤5000*i) (by have:=h.1;omega)
  (fun back s i hi hs=>by
   have hai:=h.2 l[i] (List.getElem_mem hi);have hl:=h.1;unfold ezY;simp only;rw[ltT hi,azc,idxG hi,aza,wr1 (by omega),DzK hai.1 hai.2 (by omega),aza];cases numL (l[i]).Area s (l[i]).L<;>rfl)
  (fun s i hi s' hs hst=>by
   have hai:=h.2 l[i] (List.getElem_mem hi);cases hn:numL (l[i]).Area s (l[i]).L with
   | inl x =>
    rw[hn]at hst;simp only at hst;injection hst with hst;subst hst;have:=vzi hn;omega
   | inr v=>rw[hn]at hst;cases hst)
  (fun back s hs=>by
   unfold ezY;simp only;rw[ltF,azb];rfl) [] (by simp)
 have this:gzS (v0,[],l,(l.length:Int),0)=some (rz2 (numA [] l)):=this
 show(obnd (gzS (v0,[],l,(l.length:Int),0)) _)=_
 rw[this,aza];cases numA [] l<;>rfl
def okd (d:Dec):Prop:=okD d∧I64 d.M
theorem okd0:okd ⟨0,0⟩:=⟨ok0,I0⟩
theorem okdI {n:Int}(h:I64 n):okd ⟨n,0⟩:=⟨okInt n,h⟩
def okR (r:Dec×Int):Prop:=(r.2=0→okd r.1)∧(r.2≠0→r.1=⟨0,0⟩)
theorem gza (v:Int){p:Nat}(hp:p≤9):okR (decV v p):=by
 have h:=@decV_ok v p;unfold decV at h ⊢;by_cases hc:I64 (azI v p).1
 ·rw[if_pos hc]at h ⊢;exact⟨fun _=>(by obtain⟨h1,h2,_⟩:=h hp rfl;exact⟨h1,h2⟩),fun e=>absurd rfl e⟩
 ·rw[if_neg hc];exact⟨fun e=>by simp at e,fun _=>rfl⟩
theorem natS {d:Dec}(h:okD d):∃s:Nat,d=⟨d.M,(s:Int)⟩∧s≤9:=by
 obtain⟨M,S⟩:=d;obtain⟨s,rfl⟩:=Int.eq_ofNat_of_zero_le h.1;have:=h.2.1;exact⟨s,rfl,by simp only at this;omega⟩
theorem add_eq {a b:Dec}(ha:okd a)(hb:okd b):∃r,jz0 (a,b)=some r∧True∧okR r∧r=decV (V a+V b) 9:=⟨_,Add_is ha.2 hb.2 ha.1 hb.1,trivial,gza _ (by omega),rfl⟩
theorem sub_eq {a b:Dec}(ha:okd a)(hb:okd b):∃r,gzd (a,b)=some r∧True∧okR r∧r=decV (V a-V b) 9:=⟨_,Sub_is ha.2 hb.2 ha.1 hb.1,trivial,gza _ (by omega),rfl⟩
theorem mul_eq {a b:Dec}(ha:okd a)(hb:okd b):∃r,fzh (a,b)=some r∧True∧okR r:=by
 obtain⟨s,es,hs⟩:=natS ha.1;obtain⟨t,et,ht⟩:=natS hb.1;have hm:=ha.2;have hn:=hb.2;generalize a.M=M at *;generalize b.M=N at *;subst es;subst et;refine⟨_,DzQ hm hn hs ht,trivial,?_⟩;unfold prodV;split
 ·exact gza _ (by omega)
 ·exact gza _ (by omega)
theorem rzf {a b:Dec}(ha:okd a)(hb:okd b):∃r,dzE (a,b)=some r∧True∧okR r:=by
 by_cases h0:b.M=0
 ·refine⟨(⟨0,0⟩,9),?_,trivial,fun e=>by simp at e,fun _=>rfl⟩
  ·unfold dzE;simp only;rw[dT0 h0,azc]
 obtain⟨s,es,hs⟩:=natS ha.1;obtain⟨t,et,ht⟩:=natS hb.1;have hm:=ha.2;have hn:=hb.2;generalize a.M=M at *;generalize b.M=N at *;subst es;subst et;exact⟨_,DzP hm hn hs ht h0,trivial,gza _ (by omega)⟩
theorem round_eq {a:Dec}{t:Int}(ha:okd a):∃r,dzS (a,t)=some r∧True∧okR r:=by
 refine⟨_,nz0 ha.2 ha.1,trivial,?_⟩;unfold szI;split
 ·exact⟨fun e=>by simp at e,fun _=>rfl⟩
 ·split
  ·exact⟨fun _=>ha,fun e=>absurd rfl e⟩
  ·split
   ·exact gza _ (by omega)
   ·exact gza _ (by omega)
theorem I64_floor {m:Int}{k:Nat}(h:I64 m):I64 (m/10^k):=by
 unfold I64 at *;have hp:(0:Int)<10^k:=Int.pow_pos (by decide);generalize (10:Int)^k=p at hp;rcases Int.le_total 0 m with hm|hm
 ·have h1:=Int.ediv_nonneg hm (Int.le_of_lt hp);have h2:=Int.ediv_le_self p hm;omega
 ·have h1:m≤m/p:=by
   refine Int.le_ediv_of_mul_le hp ?_;have h3:(-m)*1≤(-m)*p:=Int.mul_le_mul_of_nonneg_left (by omega) (by omega);rw[Int.neg_mul,Int.neg_mul,Int.mul_one]at h3;omega
  have h2:m/p<1:=Int.ediv_lt_of_lt_mul hp (by omega);omega
theorem AzP {a:Dec}(ha:okd a):∃r,gzc a=some r∧True∧okR r :=
 ⟨_,Floor_is ha.2 ha.1.1 ha.1.2.1,trivial,fun _=>okdI (I64_floor ha.2),fun e=>absurd rfl e⟩
theorem vz3 {a b:Dec}(ha:okd a)(hb:okd b):czS (a,b)=some (cmpV (V a) (V b))∧True:=szr ha.1 hb.1 ha.2 hb.2
def numV (r:Dec×Int):Val:=if r.2=0 then vN r.1 else if r.2=9 then vE 7 else vE 36
theorem bz8 (r:Dec×Int):az3 r=some (numV r):=by
 unfold az3 numV;by_cases h:r.2=0
 ·simp[h,vN]
 ·by_cases h9:r.2=9<;>simp[h,h9,czC]
theorem int_is (n:Int):bzs n=some (vN ⟨n,0⟩):=by
 unfold bzs;rw[show bzr n=some ⟨n,0⟩ from rfl,aza,bz8];rfl
def cnt1 (area:Bool)(n:Nat)(v:Val):Nat:=bif (numR v).2.2&&(!area||decide (v.Kind=1))then n+1 else n
theorem czd {A S Y:Type}(f:S→A→S)(fin:S→Y):∀(l:List A) (s:S),azy (fun s a=>.inl (f s a)) fin s l=fin (l.foldl f s)
 | [],_=>rfl
 | a::l,s=>by simp only[azy,List.foldl_cons];exact czd f fin l _
def cntL (area:Bool)(n:Nat)(l:List Val):Nat:=l.foldl (cnt1 area) n
theorem cnt1_le (area:Bool)(n:Nat)(v:Val):cnt1 area n v≤n+1:=by unfold cnt1;cases(numR v).2.2&&(!area||decide (v.Kind=1))<;>simp
theorem xzY (area:Bool):∀(l:List Val) (n:Nat),cntL area n l≤n+l.length
 | [],n=>by simp[cntL]
 | v::l,n=>by
  have:=xzY area l (cnt1 area n v);have:=cnt1_le area n v;simp only[cntL,List.foldl_cons,List.length_cons]at *;omega
theorem Cz2 {a:Arg}{n:Nat}(hL:a.L.length≤5000)(hv:∀v∈a.L,okW v)(hn:n≤1000000):
 jzb ((n:Int),a,a.L,(a.L.length:Int),0)=some ((cntL a.Area n a.L:Nat):Int):=by
 have:=azR (F:=ezX) (fun s i=>(((s:Nat):Int),a,a.L,(a.L.length:Int),(i:Int))) (fun s:Nat=>(s:Int)) a.L (fun s v=>.inl (cnt1 a.Area s v)) id (fun s i=>s≤n+i) (by omega)
  (fun back s i hi hs=>by
   unfold ezX;simp only;rw[ltT hi,azc,idxG hi,aza,(jzq (hv _ (List.getElem_mem hi))).1,aza,wr1 (i:=i) (by omega)];have w:IntKind.i64.wrap ((s:Int)+1)=((s+1:Nat):Int):=wr1 (by omega);unfold cnt1;simp only[kzD];rw[w];cases(numR a.L[i]).2.2 with
   | false=>rfl
   | true =>
    cases a.Area with
    | false=>rfl
    | true =>
     by_cases h1:(a.L[i]).Kind=1
     ·rw[dT0 h1];rfl
     ·rw[dF0 h1];rfl)
  (fun s i hi s' hs hst=>by
   injection hst with hst;have:=cnt1_le a.Area s a.L[i];omega)
  (fun back s hs=>by
   unfold ezX;simp only;rw[ltF,azb];rfl) n (by simp)
 rw[czd]at this;exact this
def cntA (n:Nat)(l:List Arg):Nat:=l.foldl (fun n a=>cntL a.Area n a.L) n
theorem Cz1 {l:List Arg}(h:okA l):iz8 l=some ((cntA 0 l:Nat):Int):=by
 have:=azR (F:=ezW) (fun s i=>(((s:Nat):Int),l,(l.length:Int),(i:Int))) (fun s:Nat=>(s:Int)) l (fun s a=>.inl (cntL a.Area s a.L)) id (fun s i=>s≤5000*i) (by have:=h.1;omega)
  (fun back s i hi hs=>by
   have hai:=h.2 l[i] (List.getElem_mem hi);have hl:=h.1;unfold ezW;simp only;rw[ltT hi,azc,idxG hi,aza,wr1 (by omega),Cz2 hai.1 hai.2 (by omega),aza];rfl)
  (fun s i hi s' hs hst=>by
   have hai:=h.2 l[i] (List.getElem_mem hi);injection hst with hst;have:=xzY (l[i]).Area (l[i]).L s;omega)
  (fun back s hs=>by
   unfold ezW;simp only;rw[ltF,azb];rfl) 0 (by simp)
 rw[czd]at this;have this:jza (0,l,(l.length:Int),0)=some ((cntA 0 l:Nat):Int):=this;unfold iz8;rw[this];rfl
theorem DzI {area:Bool}{acc acc':List Dec}{v:Val}(hv:okW v)(ha:∀d∈acc,okd d)(h:dz2 area acc v = .inl acc'):∀d∈acc',okd d:=by
 unfold dz2 at h;cases hk:pz7 area v with
 | true=>rw[hk,cond_true]at h;injection h with h;subst h;exact ha
 | false =>
  rw[hk,cond_false]at h;cases hn:(numR v).2.2 with
  | true =>
   rw[hn,cond_true]at h;injection h with h;subst h;intro d hd;rcases List.mem_append.1 hd with hd|hd
   ·exact ha d hd
   ·rw[List.mem_singleton.1 hd];exact mzy hv
  | false=>rw[hn,cond_false]at h;cases h
theorem numL_ok {area:Bool}:∀{l:List Val} {acc acc':List Dec},(∀v∈l,okW v)→(∀d∈acc,okd d)→numL area acc l = .inl acc'→∀d∈acc',okd d
 | [],acc,acc',_,ha,h=>by simp only[numL,azy]at h;injection h with h;subst h;exact ha
 | v::l,acc,acc',hv,ha,h=>by
  simp only[numL,azy]at h;cases hs:dz2 area acc v with
  | inl a =>
   rw[hs]at h;exact numL_ok (l:=l) (fun v hv'=>hv v (List.mem_cons_of_mem _ hv')) (DzI (hv v (List.mem_cons_self ..)) ha hs) h
  | inr y =>
   rw[hs]at h;have h:y = .inl acc':=h;subst h;unfold dz2 at hs;cases h1:pz7 area v<;>cases h2:(numR v).2.2<;>simp[h1,h2]at hs
theorem yzI:∀{l:List Arg} {acc acc':List Dec},(∀a∈l,∀v∈a.L,okW v)→(∀d∈acc,okd d)→numA acc l = .inl acc'→∀d∈acc',okd d
 | [],acc,acc',_,ha,h=>by simp only[numA,azy]at h;injection h with h;subst h;exact ha
 | a::l,acc,acc',hv,ha,h=>by
  simp only[numA,azy]at h;cases hs:numL a.Area acc a.L with
  | inl x =>
   rw[hs]at h;exact yzI (l:=l) (fun b hb=>hv b (List.mem_cons_of_mem _ hb)) (numL_ok (hv a (List.mem_cons_self ..)) ha hs) h
  | inr y=>rw[hs]at h;cases h
theorem vzh:∀{l:List Arg} {acc acc':List Dec},(∀a∈l,a.L.length≤5000)→numA acc l = .inl acc'→acc'.length≤acc.length+5000*l.length
 | [],acc,acc',_,h=>by simp only[numA,azy]at h;injection h with h;subst h;simp
 | a::l,acc,acc',hv,h=>by
  simp only[numA,azy]at h;cases hs:numL a.Area acc a.L with
  | inl x =>
   rw[hs]at h;have:=vzh (l:=l) (fun b hb=>hv b (List.mem_cons_of_mem _ hb)) h;have:=vzi hs;have:=hv a (List.mem_cons_self ..);simp only[List.length_cons];omega
  | inr y=>rw[hs]at h;cases h
def minD (m y:Dec):Dec:=if V y<V m then y else m
def maxD (m y:Dec):Dec:=if V m<V y then y else m
theorem Azw (a b:Int):decide (cmpV a b<0)=decide (a<b):=by
 unfold cmpV;by_cases h:a<b
 ·simp[h]
 ·by_cases h':b<a<;>simp[h,h']
theorem cmpV_gt0 (a b:Int):decide (0<cmpV a b)=decide (b<a):=by
 unfold cmpV;by_cases h:a<b
 ·have:¬b<a:=by omega
  simp[h,this]
 ·by_cases h':b<a<;>simp[h,h']
theorem minD_ok {m y:Dec}(hm:okd m)(hy:okd y):okd (minD m y):=by unfold minD;split<;>assumption
theorem maxD_ok {m y:Dec}(hm:okd m)(hy:okd y):okd (maxD m y):=by unfold maxD;split<;>assumption
theorem min_is {x:Dec}{xs:List Dec}(hx:okd x)(hl:xs.length≤1000000)(h:∀d∈xs,okd d):bzh (x::xs,())=some (xs.foldl minD x):=by
 have:=azR (F:=azU) (fun s i=>(x::xs,(),s,((i+1:Nat):Int))) (fun s:Dec=>((),s)) xs (fun s y=>.inl (minD s y)) id (fun s _=>okd s) (by omega)
  (fun back s i hi hs=>by
   have hy:=h _ (List.getElem_mem hi);have hi':i+1<(x::xs).length:=by simpa using hi
   unfold azU;simp only;rw[ltT hi',azc,idxG hi',aza,List.getElem_cons_succ,(vz3 hy hs).1,aza,aza,wr1 (by omega),Azw];simp only[kzD,minD];by_cases c:V xs[i]<V s
   ·rw[dT0 c,if_pos c];rfl
   ·rw[dF0 c,if_neg c];rfl)
  (fun s i hi s' hs hst=>by
   injection hst with hst;subst hst;exact minD_ok hs (h _ (List.getElem_mem hi)))
  (fun back s hs=>by
   unfold azU;simp only;rw[show((xs.length+1:Nat):Int)=((x::xs).length:Int) by simp,ltF,azb];rfl) x hx
 rw[czd]at this;have this:bzA (x::xs,(),x,1)=some ((),xs.foldl minD x):=this;unfold bzh;simp only;rw[dF0 (by simp;omega),azb,idxZ,aza,this];rfl
theorem max_is {x:Dec}{xs:List Dec}(hx:okd x)(hl:xs.length≤1000000)(h:∀d∈xs,okd d):azZ (x::xs,())=some (xs.foldl maxD x):=by
 have:=azR (F:=azT) (fun s i=>(x::xs,(),s,((i+1:Nat):Int))) (fun s:Dec=>((),s)) xs (fun s y=>.inl (maxD s y)) id (fun s _=>okd s) (by omega)
  (fun back s i hi hs=>by
   have hy:=h _ (List.getElem_mem hi);have hi':i+1<(x::xs).length:=by simpa using hi
   unfold azT;simp only;rw[ltT hi',azc,idxG hi',aza,List.getElem_cons_succ,(vz3 hy hs).1,aza,aza,wr1 (by omega),cmpV_gt0];simp only[kzD,maxD];by_cases c:V s<V xs[i]
   ·rw[dT0 c,if_pos c];rfl
   ·rw[dF0 c,if_neg c];rfl)
  (fun s i hi s' hs hst=>by
   injection hst with hst;subst hst;exact maxD_ok hs (h _ (List.getElem_mem hi)))
  (fun back s hs=>by
   unfold azT;simp only;rw[show((xs.length+1:Nat):Int)=((x::xs).length:Int) by simp,ltF,azb];rfl) x hx
 rw[czd]at this;have this:bzz (x::xs,(),x,1)=some ((),xs.foldl maxD x):=this;unfold azZ;simp only;rw[dF0 (by simp;omega),azb,idxZ,aza,this];rfl
def addR (t d:Dec):Dec×Int:=decV (V t+V d) 9
def kzv (t d:Dec):Dec⊕(Dec×Int):=if(addR t d).2=0 then .inl (addR t d).1 else .inr (⟨0,0⟩,(addR t d).2)
def sumD (t:Dec)(l:List Dec):Dec×Int:=azy kzv (fun t=>(t,0)) t l
theorem addR_ok (t d:Dec):okR (addR t d):=gza _ (by omega)
theorem xzK {t d t':Dec}(h:kzv t d = .inl t'):okd t':=by
 unfold kzv at h;by_cases c:(addR t d).2=0
 ·rw[if_pos c]at h;injection h with h;subst h;exact(addR_ok t d).1 c
 ·rw[if_neg c]at h;cases h
theorem yzS:∀{l:List Dec} {t:Dec},okd t→okR (sumD t l)
 | [],t,h=>⟨fun _=>h,fun e=>absurd rfl e⟩
 | d::l,t,h=>by
  unfold sumD;simp only[azy];cases hs:kzv t d with
  | inl t'=>exact yzS (l:=l) (xzK hs)
  | inr y =>
   unfold kzv at hs;by_cases c:(addR t d).2=0
   ·rw[if_pos c]at hs;cases hs
   ·rw[if_neg c]at hs;injection hs with hs;subst hs;exact⟨fun e=>absurd e c,fun _=>rfl⟩
def xzJ (r:Dec×Int):((Unit)×(Val×Dec))⊕((Unit)×(Val×Dec)):=if r.2=0 then .inl ((),v0,r.1)else .inr ((),numV r,r.1)
theorem many_l5 {l:List Dec}(hl:l.length≤1000000)(h:∀d∈l,okd d):mzh (v0,⟨0,0⟩,l,(l.length:Int),0)=some (xzJ (sumD ⟨0,0⟩ l)):=by
 refine azR (F:=hza) (fun s i=>(v0,s,l,(l.length:Int),(i:Int))) xzJ l kzv (fun t=>(t,0)) (fun s _=>okd s) (by omega) ?_ ?_ ?_ ⟨0,0⟩ okd0
 ·intro back s i hi hs;have hy:=h _ (List.getElem_mem hi);obtain⟨r,h1,_,hr,h3⟩:=add_eq hs hy;unfold hza;simp only;rw[ltT hi,azc,idxG hi,aza,h1,aza,wr1 (by omega),bz8,aza];unfold kzv addR;rw[←h3];by_cases c:r.2=0
  ·rw[dT0 c,if_pos c];rfl
  ·rw[dF0 c,if_neg c];obtain⟨d,e⟩:=r;have:=hr.2 c;simp only at this c;subst this;simp only[kzD,xzJ,if_neg c];rfl
 ·intro s i hi s' hs hst;exact xzK hst
 ·intro back s hs;unfold hza;simp only;rw[ltF,azb];rfl
theorem Cz7 {a b:List UInt8}(ha:a≠[])(hg:good a):decodeL (a++b)=decodeL a:=by
 have hl:0<a.length:=List.length_pos_iff.2 ha;have hget:∀j,j<a.length→(a++b).getD j 0=a.getD j 0:=fun j hj=>by simp[List.getD_eq_getElem?_getD,List.getElem?_append_left hj]
 unfold good at hg;rw[decodeL_N]at hg ⊢;rw[decodeL_N,hget 0 hl,List.length_append];have k0:=(a.getD 0 0).toNat_lt;rcases decodeN_shape a.length (a.getD 0 0).toNat (a.getD 1 0).toNat (a.getD 2 0).toNat (a.getD 3 0).toNat with⟨c,e⟩|⟨c1,c2,c3,cv,e⟩|⟨c1,c2,c3,c4,cv,cs,e⟩|⟨c1,c2,c3,c4,c5,cv,cw,e⟩|e
 ·rw[e];unfold decodeN;rw[if_pos c]
 ·rw[e,hget 1 c2];unfold decodeN;rw[if_neg (by omega),if_pos ⟨c1,by omega,c3⟩,if_pos cv]
 ·rw[e,hget 1 (by omega),hget 2 c2];unfold decodeN;rw[if_neg (by omega),if_neg (by omega),if_pos ⟨c1,⟨by omega,c3⟩,by omega,c4⟩];rw[if_pos (by omega)]
 ·rw[e,hget 1 (by omega),hget 2 (by omega),hget 3 c2];unfold decodeN;rw[if_neg (by omega),if_neg (by omega),if_neg (by omega),if_pos ⟨c1,⟨by omega,c3⟩,⟨by omega,c4⟩,by omega,c5⟩];rw[if_pos (by omega)]
 ·rw[e]at hg;exact absurd ⟨rfl,rfl⟩ hg
theorem ozN {a:List UInt8}(ha:a≠[])(h:validD a=true):good a∧validD (a.drop (decodeL a).2)=true:=by
 rw[validD_step a ha]at h;unfold good;by_cases c:(decodeL a).1=65533∧(decodeL a).2=1
 ·rw[if_pos c]at h;cases h
 ·rw[if_neg c]at h;exact⟨c,h⟩
theorem xzS:∀(n:Nat) (a b:List UInt8),a.length≤n→validD a=true→validD (a++b)=validD b∧rs (a++b)=rs a++rs b
 | n,[],b,_,_=>⟨rfl,rfl⟩
 | 0,c::a,b,h,_=>by simp at h
 | n+1,c::a,b,h,hv=>by
  have hne:c::a≠[]:=by simp
  obtain⟨hg,hv'⟩:=ozN hne hv;have hne2:(c::a)++b≠[]:=by simp
  have hd:=Cz7 (b:=b) hne hg;have hw:=decodeL_width (c::a);have hle:=decodeL_le (c::a) hne;have hdr:((c::a)++b).drop (decodeL (c::a)).2=(c::a).drop (decodeL (c::a)).2++b:=List.drop_append_of_le_length hle;obtain⟨i1,i2⟩:=xzS n ((c::a).drop (decodeL (c::a)).2) b (by rw[List.length_drop];simp only[List.length_cons]at *;omega) hv';refine⟨?_,?_⟩
  ·rw[validD_step _ hne2,hd,hdr,if_neg hg,i1]
  ·rw[eza hne2,hd,hdr,i2,eza hne];rfl
theorem valid_app {a b:List UInt8}(ha:validD a=true):validD (a++b)=validD b:=(xzS _ a b (Nat.le_refl _) ha).1
theorem rs_app {a b:List UInt8}(ha:validD a=true):rs (a++b)=rs a++rs b:=(xzS _ a b (Nat.le_refl _) ha).2
def encs (l:List Int):List UInt8:=l.flatMap Lib.encodeRune
theorem szu:∀(n:Nat) (a:List UInt8),a.length≤n→validD a=true→encs (rs a)=a
 | _,[],_,_=>rfl
 | 0,c::a,h,_=>by simp at h
 | n+1,c::a,h,hv=>by
  have hne:c::a≠[]:=by simp
  obtain⟨hg,hv'⟩:=ozN hne hv;have hw:=decodeL_width (c::a);have ih:=szu n ((c::a).drop (decodeL (c::a)).2) (by rw[List.length_drop];simp only[List.length_cons]at *;omega) hv';rw[eza hne];unfold encs at *;rw[List.flatMap_cons,ih,encode_decode _ hne hg,List.take_append_drop]
theorem yzJ:∀(i:Nat) (a:List UInt8),validD a=true→i≤(rs a).length→∃x y,a=x++y∧validD x=true∧validD y=true∧rs x=(rs a).take i∧rs y=(rs a).drop i
 | 0,a,hv,_=>⟨[],a,rfl,rfl,hv,rfl,rfl⟩
 | i+1,[],_,h=>by simp[mzN]at h
 | i+1,c::a,hv,h=>by
  have hne:c::a≠[]:=by simp
  obtain⟨hg,hv'⟩:=ozN hne hv;have hle:=decodeL_le (c::a) hne;rw[eza hne]at h ⊢;simp only[List.length_cons]at h;obtain⟨x,y,h1,h2,h3,h4,h5⟩:=yzJ i _ hv' (by omega);have hw:=decodeL_width (c::a);have he:(c::a).take (decodeL (c::a)).2≠[]:=fun e=>by
   have:=congrArg List.length e;simp only[List.length_take,List.length_nil]at this;simp only[List.length_cons]at *;omega
  have hd:decodeL ((c::a).take (decodeL (c::a)).2)=decodeL (c::a):=by
   have hs:=decodeN_shape (c::a).length ((c::a).getD 0 0).toNat ((c::a).getD 1 0).toNat ((c::a).getD 2 0).toNat ((c::a).getD 3 0).toNat
   unfold good at hg;have hN:=decodeL_N (c::a);have hget:∀k j,j<k→((c::a).take k).getD j 0=(c::a).getD j 0:=fun k j hj=>by simp[List.getD_eq_getElem?_getD,hj]
   rw[hN]at hg;rcases hs with⟨c1,e⟩|⟨c1,c2,c3,cv,e⟩|⟨c1,c2,c3,c4,cv,cs,e⟩|⟨c1,c2,c3,c4,c5,cv,cw,e⟩|e
   ·rw[hN,e];rw[decodeL_N,hget 1 0 (by omega)];unfold decodeN;rw[if_pos c1]
   ·rw[hN,e];rw[decodeL_N,hget 2 0 (by omega),hget 2 1 (by omega),List.length_take];unfold decodeN;rw[if_neg (by omega),if_pos ⟨c1,by omega,c3⟩,if_pos cv]
   ·rw[hN,e];rw[decodeL_N,hget 3 0 (by omega),hget 3 1 (by omega),hget 3 2 (by omega),List.length_take];unfold decodeN;rw[if_neg (by omega),if_neg (by omega),if_pos ⟨c1,⟨by omega,c3⟩,by omega,c4⟩];rw[if_pos (by omega)]
   ·rw[hN,e];rw[decodeL_N,hget 4 0 (by omega),hget 4 1 (by omega),hget 4 2 (by omega),hget 4 3 (by omega),List.length_take];unfold decodeN;rw[if_neg (by omega),if_neg (by omega),if_neg (by omega),if_pos ⟨c1,⟨by omega,c3⟩,⟨by omega,c4⟩,by omega,c5⟩];rw[if_pos (by omega)]
   ·rw[e]at hg;exact absurd ⟨rfl,rfl⟩ hg
  have hdn:((c::a).take (decodeL (c::a)).2).drop (decodeL (c::a)).2=[]:=by
   rw[List.drop_eq_nil_iff,List.length_take];omega
  have hvt:validD ((c::a).take (decodeL (c::a)).2)=true:=by
   rw[validD_step _ he,hd,if_neg hg,hdn];rfl
  have hrt:rs ((c::a).take (decodeL (c::a)).2)=[((decodeL (c::a)).1:Int)]:=by
   rw[eza he,hd,hdn];rfl
  refine⟨(c::a).take (decodeL (c::a)).2++x,y,?_,?_,h3,?_,h5⟩
  ·rw[List.append_assoc,←h1,List.take_append_drop]
  ·rw[valid_app hvt,h2]
  ·rw[rs_app hvt,hrt,h4];rfl
theorem slice_rs {a:List UInt8}(hv:validD a=true){i k:Nat}(h:i+k≤(rs a).length):validD (encs (((rs a).drop i).take k))=true∧rs (encs (((rs a).drop i).take k))=((rs a).drop i).take k∧(encs (((rs a).drop i).take k)).length≤a.length:=by
 obtain⟨x,y,h1,h2,h3,h4,h5⟩:=yzJ i a hv (by omega);obtain⟨x',y',k1,k2,k3,k4,k5⟩:=yzJ k y h3 (by rw[h5,List.length_drop];omega);rw[←h5,←k4,szu _ x' (Nat.le_refl _) k2];refine⟨k2,rfl,?_⟩;rw[h1,k1];simp;omega
theorem or8:(∀x:Fin 32,azp .or .u8 192 (x.val:Int)=192+x.val)∧(∀x:Fin 16,azp .or .u8 224 (x.val:Int)=224+x.val)∧(∀x:Fin 8,azp .or .u8 240 (x.val:Int)=240+x.val) ∧
 (∀x:Fin 64,azp .or .u8 128 (x.val:Int)=128+x.val)∧(∀x:Fin 256,azp .and .u8 (x.val:Int) 63=((x.val%64:Nat):Int)):=by decide +kernel
theorem u8w (n:Nat):IntKind.u8.wrap (n:Int)=((n%256:Nat):Int):=by simp[IntKind.wrap,IntKind.bits,IntKind.signed]
theorem fdivN (n k:Nat):(n:Int).fdiv (k:Int)=((n/k:Nat):Int):=by
 rw[Int.fdiv_eq_ediv_of_nonneg _ (by omega)];rfl
theorem lo6 (n:Nat):azp .or .u8 128 (azp .and .u8 (IntKind.u8.wrap (n:Int)) 63)=((128+n%64:Nat):Int):=by
 rw[u8w];have h1:=or8.2.2.2.2 ⟨n%256,by omega⟩;simp only at h1;rw[h1];have h2:=or8.2.2.2.1 ⟨n%256%64,by omega⟩;simp only at h2;rw[h2];omega
theorem hi5 {n:Nat}(h:n<32):azp .or .u8 192 (IntKind.u8.wrap (n:Int))=((192+n:Nat):Int):=by
 rw[u8w,Nat.mod_eq_of_lt (by omega)];have:=or8.1 ⟨n,h⟩;simp only at this;rw[this];omega
theorem hi4 {n:Nat}(h:n<16):azp .or .u8 224 (IntKind.u8.wrap (n:Int))=((224+n:Nat):Int):=by
 rw[u8w,Nat.mod_eq_of_lt (by omega)];have:=or8.2.1 ⟨n,h⟩;simp only at this;rw[this];omega
theorem hi3 {n:Nat}(h:n<8):azp .or .u8 240 (IntKind.u8.wrap (n:Int))=((240+n:Nat):Int):=by
 rw[u8w,Nat.mod_eq_of_lt (by omega)];have:=or8.2.2.1 ⟨n,h⟩;simp only at this;rw[this];omega
def bz3 (r:Int):Prop:=0≤r∧r≤1114111∧(r<55296∨57343<r)
theorem tzM (l:List UInt8):bz3 ((decodeL l).1:Int):=by
 rw[decodeL_N];have h:=decodeN_shape l.length (l.getD 0 0).toNat (l.getD 1 0).toNat (l.getD 2 0).toNat (l.getD 3 0).toNat
 have k0:=(l.getD 0 0).toNat_lt;unfold bz3;rcases h with⟨c,e⟩|⟨c1,c2,c3,cv,e⟩|⟨c1,c2,c3,c4,cv,cs,e⟩|⟨c1,c2,c3,c4,c5,cv,cw,e⟩|e
 all_goals rw[e];simp only;omega
theorem vzN:∀(n:Nat) (l:List UInt8),l.length≤n→∀r∈rs l,bz3 r
 | _,[],_,r,h=>by simp[mzN]at h
 | 0,c::l,h,_,_=>by simp at h
 | n+1,c::l,hl,r,h=>by
  have hw:=decodeL_width (c::l);rw[eza (by simp)]at h;rcases List.mem_cons.1 h with rfl|h
  ·exact tzM _
  ·exact vzN n _ (by rw[List.length_drop];simp only[List.length_cons]at *;omega) r h
theorem u32in {r:Int}(h:bz3 r):IntKind.u32.wrap r=r:=by
 unfold bz3 at h;have:IntKind.u32.wrap r=r%4294967296:=by simp[IntKind.wrap,IntKind.bits,IntKind.signed]
 rw[this];omega
theorem encZ (r:Nat)(h:bz3 r):Lib.encodeRune (r:Int)=if r<128 then [UInt8.ofNat r]else if r<2048 then [UInt8.ofNat (192+r/64),UInt8.ofNat (128+r%64)]else if r<65536 then [UInt8.ofNat (224+r/4096),UInt8.ofNat (128+r/64%64),UInt8.ofNat (128+r%64)]else
 [UInt8.ofNat (240+r/262144),UInt8.ofNat (128+r/4096%64),UInt8.ofNat (128+r/64%64),UInt8.ofNat (128+r%64)]:=by
 unfold bz3 at h;unfold Lib.encodeRune;have b:∀z:Int,∀n:Nat,z=(n:Int)→z.toNat.toUInt8=UInt8.ofNat n:=fun z n e=>by subst e;rfl
 by_cases h1:r<128
 ·rw[if_pos h1,encodeRuneZ_one (by omega) (by omega)];simp only[List.map_cons,List.map_nil];rw[b _ r rfl]
 rw[if_neg h1];by_cases h2:r<2048
 ·rw[if_pos h2,encodeRuneZ_two (by omega) (by omega)];simp only[List.map_cons,List.map_nil];rw[b _ (192+r/64) (by omega),b _ (128+r%64) (by omega)]
 rw[if_neg h2];by_cases h3:r<65536
 ·rw[if_pos h3,encodeRuneZ_three (by omega)];simp only[List.map_cons,List.map_nil];rw[b _ (224+r/4096) (by omega),b _ (128+r/64%64) (by omega),b _ (128+r%64) (by omega)]
 rw[if_neg h3,encodeRuneZ_four (by omega) (by omega)];simp only[List.map_cons,List.map_nil];rw[b _ (240+r/262144) (by omega),b _ (128+r/4096%64) (by omega),b _ (128+r/64%64) (by omega),b _ (128+r%64) (by omega)]
theorem uzi:∀{l:List UInt8},(∀c∈l,c.toNat<128)→validD l=true
 | [],_=>rfl
 | c::l,h=>by
  have hc:=h c (by simp);have hd:decodeL (c::l)=(c.toNat,1):=by
   rw[decodeL_N];unfold decodeN;rw[if_pos (by simpa using hc)];rfl
  rw[validD_step _ (by simp),hd,if_neg (by simp only;omega)];exact uzi (l:=l) (fun d hd=>h d (List.mem_cons_of_mem _ hd))
theorem ozi {D:List Int}(h:fzt D):∀c∈bzd D,c.toNat<128:=by
 intro c hc;unfold bzd at hc;simp only[List.mem_reverse,List.mem_map]at hc;obtain⟨d,hd,rfl⟩:=hc;have:=h d hd;unfold chr;rw[show(UInt8.ofNat (48+d.toNat)).toNat=(48+d.toNat)%256 from rfl];omega
theorem nz1 {M:Int}{s:Nat}(hM:I64 M)(hs:s≤9):(gzb M s).length≤45∧∀c∈gzb M s,c.toNat<128:=by
 have l1:=len19 hM;have hp:=xzh M.natAbs s;have hd:=DzM M.natAbs s;have w:∀D:List Int,(bzd D).length=D.length:=fun D=>by unfold bzd;simp
 unfold gzb dotted;constructor
 ·have hs1:(if M<0 then [(45:UInt8)]else []).length≤1:=by split<;>simp
  have hp30:(dzO M.natAbs s).length≤20:=by rw[hp];omega
  rw[List.length_append];by_cases h0:s=0
  ·rw[if_pos h0,w];omega
  ·rw[if_neg h0];simp only[List.length_append,List.length_cons,w,List.length_drop,List.length_take];omega
 ·intro c hc;rcases List.mem_append.1 hc with hc|hc
  ·split at hc
   ·simp only[List.mem_singleton]at hc;subst hc;decide
   ·simp at hc
  ·split at hc
   ·exact ozi hd c hc
   ·rcases List.mem_append.1 hc with hc|hc
    ·exact ozi (Dzu hd _) c hc
    ·rcases List.mem_cons.1 hc with rfl|hc
     ·decide
     ·exact ozi (Dzv hd _) c hc
def texR (v:Val):List UInt8:=(cz8 v).getD []
theorem tex_eq {v:Val}(h:okW v):cz8 v=some (texR v)∧True:=by
 obtain⟨r,h1,h2⟩:=text_eq h.1 h.2.2;unfold texR;rw[h1];exact⟨rfl,h2⟩
theorem pzf {v:Val}(h:okW v)(h4:v.Kind≠4):(texR v).length≤3000∧validD (texR v)=true:=by
 obtain⟨h,hl,hm⟩:=h;rcases h with rfl|⟨d,rfl,hd⟩|⟨s,rfl,hs⟩|⟨t,rfl⟩|⟨e,rfl⟩
 ·exact⟨by decide,rfl⟩
 ·obtain⟨M,S⟩:=d;have hm':I64 M:=hm;obtain⟨s,rfl⟩:=Int.eq_ofNat_of_zero_le hd.1;have hs:s≤9:=by have:=hd.2.1;simp only at this;omega
  have e:texR (vN ⟨M,(s:Int)⟩)=gzb M s:=by
   unfold texR cz8 vN;simp[lzF hm' hs]
  have:=nz1 hm' hs;rw[e];exact⟨by omega,uzi this.2⟩
 ·exact⟨hl,hs⟩
 ·cases t<;>exact⟨by decide,by decide +kernel⟩
 ·exact absurd rfl h4
def dzB (x:List UInt8):Val:=if(bzx x).2=0 then vS x else vE 15
theorem kzw {x:List UInt8}(hl:x.length≤900000000):czt x=some (dzB x):=by
 unfold czt dzB;rw[lz2 hl,aza];by_cases h:(bzx x).2=0
 ·rw[if_pos h,h];rfl
 ·rw[if_neg h,dF0 h];rfl
def mulR (a b:Dec):Dec×Int:=(fzh (a,b)).getD (⟨0,0⟩,0)
theorem yzG {a b:Dec}(ha:okd a)(hb:okd b):fzh (a,b)=some (mulR a b)∧True∧okR (mulR a b):=by
 obtain⟨r,h1,h2,h3⟩:=mul_eq ha hb;unfold mulR;rw[h1];exact⟨rfl,h2,h3⟩
def powS (a:Dec)(s:Dec)(_:Unit):Dec⊕(Dec⊕((Dec×Int)×Dec)):=let r:=mulR s a;bif decide (r.2=0)then .inl r.1 else .inr (.inr (r,s))
theorem yzK {a s s':Dec}{u:Unit}(ha:okd a)(hs:okd s)(h:powS a s u = .inl s'):okd s':=by
 unfold powS at h;simp only at h;by_cases h0:(mulR s a).2=0
 ·rw[dT0 h0,cond_true]at h;cases h;exact(yzG hs ha).2.2.1 h0
 ·rw[dF0 h0,cond_false]at h;cases h
def powX (a:Dec)(n:Nat):Dec⊕((Dec×Int)×Dec):=azy (powS a) .inl ⟨1,0⟩ (List.replicate n ())
theorem pow_l1 {a:Dec}(v:Val){n:Nat}(ha:okd a)(hn:n≤1000):lzk (a,v,⟨1,0⟩,(n:Int),0)=some ((fun(r:Dec⊕((Dec×Int)×Dec))=>match r with | .inl d=>.inl ((),v,d) | .inr (r,_)=>.inr ((),numV r,r.1)) (powX a n)) :=
 azR (F:=gzx) (fun(s:Dec) (i:Nat)=>(a,v,s,(n:Int),(i:Int))) (fun(r:Dec⊕((Dec×Int)×Dec))=>match r with | .inl d=>.inl ((),v,d) | .inr (r,_)=>.inr ((),numV r,r.1)) (List.replicate n ()) (powS a) .inl (fun s _=>okd s) (by rw[List.length_replicate];omega)
  (fun back s i hi hs=>by
   rw[List.length_replicate]at hi;unfold gzx powS;simp only;rw[ltT hi,azc,(yzG hs ha).1,aza,wr1 (by omega),bz8,aza];cases decide ((mulR s a).2=0)<;>rfl)
  (fun s i hi s' hs h=>yzK ha hs h)
  (fun back s hs=>by
   rw[List.length_replicate];unfold gzx;simp only;rw[ltF,azb]) _ (okdI (by unfold I64;omega))
theorem fold_ok {a:Dec}(ha:okd a):∀(l:List Unit) (s d:Dec),okd s→azy (powS a) (.inl:Dec→Dec⊕((Dec×Int)×Dec)) s l = .inl d→okd d
 | [],s,d,hs,h=>by simp only[azy]at h;cases h;exact hs
 | u::l,s,d,hs,h=>by
  simp only[azy]at h;cases hst:powS a s u with
  | inl s'=>rw[hst]at h;exact fold_ok ha l s' d (yzK ha hs hst) h
  | inr y =>
   rw[hst]at h;unfold powS at hst;simp only at hst;by_cases h0:(mulR s a).2=0
   ·rw[dT0 h0,cond_true]at hst;cases hst
   ·rw[dF0 h0,cond_false]at hst;cases hst;cases h
theorem okW_of {v:Val}(hl:v.S.length≤3000)(hm:I64 v.N.M)(h:jzH v=some 0):okW v:=by
 obtain⟨e,h1,_,h3⟩:=lz7 hl;rw[h1]at h;exact⟨h3 (Option.some.inj h),hl,hm⟩
def fnT:List Function:=(gz6 ()).getD []
theorem allT_is:gz6 ()=some fnT:=rfl
theorem yzg:fnT.length=30:=by decide +kernel
def core (k:Int)(l:List Arg):Option Val :=
 obnd (dzF (k,l,v0,k)) fun y =>
  osum y
   (fun y =>
    obnd (dzY l) fun y_2 =>
     brn (!y_2) (some (vE 15))
      (obnd (gzv ([],l,(l.length:Int),0)) fun y_3 =>
       obnd (czy (k,y.2,y_3,k)) fun y=>osum y (fun _=>obnd (bzM (k,y_3)) fun y=>some y) fun y=>some y.2))
   fun y=>some y.2
def arLo (k:Nat):Int:=((fnT[k]?).map (·.lo)).getD 0
def arHi (k:Nat):Int:=((fnT[k]?).map (·.hi)).getD 0
theorem Azo {k:Nat}(hk:k<30)(l:List Arg):bzR ((k:Int),l) =
 brn (decide ((l.length:Int)<arLo k)) (some (vE 15)) (brn (decide (arHi k<(l.length:Int))) (some (vE 15)) (core k l)):=by
 have h1:k<fnT.length:=by rw[yzg];exact hk
 unfold bzR arLo arHi;rw[allT_is,aza,dF0 (show ¬(k:Int)<0 by omega),azb,dF0 (show ¬(fnT.length:Int)≤(k:Int) by rw[yzg];omega),azb,idxG h1,List.getElem?_eq_getElem h1];simp only[czC,aza];rfl
theorem Azp {k:Nat}(hk:k<30){l:List Arg}(h1:arLo k≤l.length)(h2:(l.length:Int)≤arHi k):bzR ((k:Int),l)=core k l:=by
 rw[Azo hk,dF0 (by omega),azb,dF0 (by omega),azb]
theorem apply_bad {k:Nat}(hk:k<30){l:List Arg}(h:(l.length:Int)<arLo k∨arHi k<l.length):bzR ((k:Int),l)=some (vE 15):=by
 rw[Azo hk];by_cases h1:(l.length:Int)<arLo k
 ·rw[dT0 h1,azc]
 ·rw[dF0 h1,azb,dT0 (by omega),azc]
theorem apply_out {op:Int}{l:List Arg}(h:op<0∨30≤op):bzR (op,l)=some (vE 15):=by
 unfold bzR;rw[allT_is,aza];simp only[czC,aza];rcases h with h|h
 ·rw[dT0 h];rfl
 ·rw[dF0 (show ¬op<0 by omega),azb,dT0 (show(fnT.length:Int)≤op by rw[yzg];omega)];rfl
theorem core_many {k:Int}{l:List Arg}(h:k=0∨k=1∨k=2∨k=3∨k=4∨k=11∨k=12∨k=18):core k l=bzi (k,l):=by
 unfold core dzF bzC;rcases h with rfl|rfl|rfl|rfl|rfl|rfl|rfl|rfl
 ·cases bzi (0,l)<;>simp[osum]
 ·cases bzi (1,l)<;>simp[osum]
 ·cases bzi (2,l)<;>simp[osum]
 ·cases bzi (3,l)<;>simp[osum]
 ·cases bzi (4,l)<;>simp[osum]
 ·cases bzi (11,l)<;>simp[osum]
 ·cases bzi (12,l)<;>simp[osum]
 ·cases bzi (18,l)<;>simp[osum]
theorem kzE {k:Int}{l:List Arg}(h:k=10∨k=23∨k=24∨k=25):core k l=bzj (k,l):=by
 unfold core dzF bzC;rcases h with rfl|rfl|rfl|rfl
 ·cases bzj (10,l)<;>simp[osum]
 ·cases bzj (23,l)<;>simp[osum]
 ·cases bzj (24,l)<;>simp[osum]
 ·cases bzj (25,l)<;>simp[osum]
theorem core_na {l:List Arg}:core 28 l=some (vE 42):=by
 unfold core dzF bzC;simp[czC,osum]
def fst1 (a:Arg):Val:=a.L.headD v0
def gzD (k:Int)(vs:List Val):Option Val:=obnd (czy (k,v0,vs,k)) fun y=>osum y (fun _=>bzM (k,vs)) fun y=>some y.2
theorem firsts_is {l:List Arg}(hl:l.length≤1000)(hb:l.any badB=false):gzv ([],l,(l.length:Int),0)=some (l.map fst1):=by
 have this:gzv ([],l,(l.length:Int),0)=some (id _):=azR (F:=gzu) (fun(s:List Val) (i:Nat)=>(s,l,(l.length:Int),(i:Int))) id l (fun s a=>.inl (s++[fst1 a])) id (fun s i=>s.length=i) (by omega)
  (fun back s i hi hs=>by
   have hb':badB l[i]=false:=by
    rw[List.any_eq_false]at hb;simpa using hb _ (List.getElem_mem hi)
   unfold badB at hb';simp only[Bool.or_eq_false_iff,Bool.not_eq_false',decide_eq_true_eq]at hb';have e:idx (l[i]).L 0=some (fst1 l[i]):=by
    unfold fst1;obtain⟨_,h1⟩:=hb'
    match h:(l[i]).L,h1 with
    | [v],_=>rfl
   unfold gzu;simp only;rw[ltT hi,azc,idxG hi,aza,e,aza,appN (by simp only[List.length_singleton];omega),aza,wr1 (by omega)];rfl)
  (fun s i hi s' hs h=>by cases h;simp[hs])
  (fun back s hs=>by
   unfold gzu;simp only;rw[ltF,azb];rfl) [] rfl
 rw[this,czd];have:∀(l:List Arg) (s:List Val),l.foldl (fun s a=>s++[fst1 a]) s=s++l.map fst1:=by
  intro l;induction l with
  | nil=>intro s;simp
  | cons a l ih=>intro s;simp only[List.foldl_cons,List.map_cons];rw[ih];simp
 rw[id,id,this];rfl
theorem rza {k:Int}{l:List Arg}(hl:l.length≤1000)(h:k≠0∧k≠1∧k≠2∧k≠3∧k≠4∧k≠11∧k≠12∧k≠18∧k≠10∧k≠23∧k≠24∧k≠25∧k≠28):core k l=if l.any badB then some (vE 15)else gzD k (l.map fst1):=by
 unfold core dzF bzC;obtain⟨h0,h1,h2,h3,h4,h5,h6,h7,h8,h9,h10,h11,h12⟩:=h;simp only[h0,h1,h2,h3,h4,h5,h6,h7,h8,h9,h10,h11,h12,decide_false,azb,osum,aza];rw[zzx hl,aza];cases hb:l.any badB with
 | true=>rfl
 | false =>
  simp only[Bool.not_false,Bool.not_true,azb,Bool.false_eq_true,if_false];rw[firsts_is hl hb,aza];unfold gzD;cases czy (k,v0,l.map fst1,k)with
  | none=>rfl
  | some y =>
   cases y with
   | inl _=>simp only[aza];cases bzM (k,l.map fst1)<;>rfl
   | inr _=>rfl
theorem BzH (v:Val)(vs:List Val):gzD 21 (v::vs)=some (vT (decide (v.Kind=0))):=rfl
theorem DzY (v:Val)(vs:List Val):gzD 22 (v::vs)=some (vT (decide (v.Kind=4))):=rfl
def typeN (k:Int):Int:=if k=2 then 2 else if k=3 then 4 else if k=4 then 16 else 1
theorem CzP {v:Val}(vs:List Val)(h:v.Kind=0∨v.Kind=1∨v.Kind=2∨v.Kind=3∨v.Kind=4):gzD 29 (v::vs)=some (vN ⟨typeN v.Kind,0⟩):=by
 unfold gzD czy;simp only[idxZ,aza,decide_true,azc];rcases h with h|h|h|h|h<;>(rw[h];kernel_rfl)
theorem DzZ {v:Val}(vs:List Val)(h:okW v):gzD 13 (v::vs)=some (bif (truR v).2.2 then vT (!(truR v).1)else(truR v).2.1):=by
 unfold gzD czy;simp only[idxZ,aza];rw[(xzL h).1];rcases truR v with⟨t,f,b⟩;cases b<;>rfl
theorem CzO {k:Int}(vs:List Val)(h:k=5∨k=6∨k=7∨k=8∨k=9):gzD k vs=bzp (k,vs):=by
 unfold gzD czy;rcases h with rfl|rfl|rfl|rfl|rfl
 ·cases bzp (5,vs)<;>simp[osum]
 ·cases bzp (6,vs)<;>simp[osum]
 ·cases bzp (7,vs)<;>simp[osum]
 ·cases bzp (8,vs)<;>simp[osum]
 ·cases bzp (9,vs)<;>simp[osum]
theorem CzQ {k:Int}(vs:List Val)(h:k≠21∧k≠22∧k≠29∧k≠13∧k≠5∧k≠6∧k≠7∧k≠8∧k≠9):gzD k vs=bzM (k,vs):=by
 unfold gzD czy;obtain⟨h0,h1,h2,h3,h4,h5,h6,h7,h8⟩:=h;simp only[h0,h1,h2,h3,h4,h5,h6,h7,h8,decide_false,azb,osum,aza]
theorem kinds_of {v:Val}(h:okW v):v.Kind=0∨v.Kind=1∨v.Kind=2∨v.Kind=3∨v.Kind=4:=by
 rcases h.1 with rfl|⟨d,rfl,_⟩|⟨s,rfl,_⟩|⟨t,rfl⟩|⟨e,rfl⟩<;>simp[vB,vN,vS,vT,vE]
def up (d:Dec)(p:Nat):Int:=d.M*10^(p-d.S.toNat)
theorem pow_big {M:Int}(k:Nat)(h:¬I64 (M*10)):¬I64 (M*10*10^k):=by
 intro hh;refine h ?_;have h1:(1:Int)≤10^k:=by
  have:0<(10:Int)^k:=Int.pow_pos (by decide);omega
 unfold I64 at *;generalize (10:Int)^k=e at *;generalize M*10=z at *;rcases Int.le_total 0 z with hz|hz
 ·have:z*1≤z*e:=Int.mul_le_mul_of_nonneg_left h1 hz;omega
 ·have:(-z)*1≤(-z)*e:=Int.mul_le_mul_of_nonneg_left h1 (by omega);rw[Int.neg_mul,Int.neg_mul]at this;omega
theorem check10 {M:Int}(h:I64 M):decide (IntKind.i64.wrap ((IntKind.i64.wrap (M*10)).tdiv 10)=M)=decide (I64 (M*10)):=by
 by_cases hb:I64 (M*10)
 ·rw[dT0 hb,azG (n:=M*10) hb.1 hb.2,Int.mul_tdiv_cancel _ (by decide),azG h.1 h.2,dT0 rfl]
 ·rw[dF0 hb];refine dF0 fun e=>hb ?_
  have hr:-9223372036854775808≤IntKind.i64.wrap (M*10)∧IntKind.i64.wrap (M*10)≤9223372036854775807:=by rw[i64];omega
  generalize IntKind.i64.wrap (M*10)=w at *;have ht:-922337203685477580≤w.tdiv 10∧w.tdiv 10≤922337203685477580:=by
   rcases Int.le_total 0 w with hw|hw
   ·rw[Int.tdiv_eq_ediv_of_nonneg hw];omega
   ·rw[show w.tdiv 10 = -((-w).tdiv 10) by rw[Int.neg_tdiv,Int.neg_neg],Int.tdiv_eq_ediv_of_nonneg (by omega)];omega
  rw[azG (by omega) (by omega)]at e;unfold I64;omega
theorem up_step {M:Int}{k:Nat}:M*10^(k+1)=M*10*10^k:=by rw[Int.pow_succ,Int.mul_comm (10^k) 10,Int.mul_assoc]
theorem zzv:∀(k n:Nat) (M S:Int),k<n→I64 M→0≤S→S+k≤9→∃y,iter fzG n (S+k,⟨M,S⟩)=some y ∧
 (I64 (M*10^k)→y = .inl ((),⟨M*10^k,S+k⟩))∧(¬I64 (M*10^k)→∃d,y = .inr ((0,false),d))
 | 0,n+1,M,S,_,hM,h0,h9=>by
  rw[azH];unfold fzG;simp only;rw[dF0 (show ¬S<S+((0:Nat):Int) by omega),azb];refine⟨_,rfl,fun _=>?_,fun h=>?_⟩
  ·simp
  ·exact absurd (by simpa using hM) h
 | k+1,n+1,M,S,hn,hM,h0,h9=>by
  rw[azH];unfold fzG;simp only;rw[dT0 (show S<S+((k+1:Nat):Int) by omega),azc,check10 hM,up_step];by_cases hb:I64 (M*10)
  ·rw[dT0 hb,Bool.not_true,azb,azG (n:=M*10) hb.1 hb.2,azG (n:=S+1) (by omega) (by omega)];obtain⟨y,h1,h2,h3⟩:=zzv k n (M*10) (S+1) (by omega) hb (by omega) (by omega);rw[show S+((k+1:Nat):Int)=S+1+(k:Int) by omega];exact⟨y,h1,h2,h3⟩
  ·rw[dF0 hb,Bool.not_false,azc];exact⟨_,rfl,fun h=>absurd h (pow_big k hb),fun _=>⟨_,rfl⟩⟩
theorem xzz {d:Dec}{p:Nat}(hd:okd d)(hp:d.S≤(p:Int))(h9:p≤9):hz5 (d,(p:Int))=some (if I64 (up d p)then(up d p,true)else(0,false)):=by
 have h0:=hd.1.1;obtain⟨y,h1,h2,h3⟩:=zzv (p-d.S.toNat) big d.M d.S (by rw[bz7];omega) hd.2 h0 (by omega);unfold hz5 up;simp only;have e:jz3 ((p:Int),d)=some y:=by
  rw[←h1,show d.S+((p-d.S.toNat:Nat):Int)=(p:Int) by omega];rfl
 rw[e,aza];by_cases hb:I64 (d.M*10^(p-d.S.toNat))
 ·rw[h2 hb,if_pos hb];rfl
 ·obtain⟨d',h⟩:=h3 hb;rw[h,if_neg hb];rfl
def fm (X Y:Int):Int:=let r:=X.tmod Y;if ¬r=0∧¬(decide (r<0)=decide (Y<0))then r+Y else r
theorem fm_ok (X:Int){Y:Int}(h:Y≠0):(fm X Y).natAbs<Y.natAbs∧(fm X Y≠0→(fm X Y<0↔Y<0))∧∃k,X-fm X Y=k*Y:=by
 have hr:(X.tmod Y).natAbs<Y.natAbs:=by
  rw[Int.natAbs_tmod];exact Nat.mod_lt _ (by omega)
 have hq:=Int.mul_tdiv_add_tmod X Y;unfold fm;simp only;generalize X.tmod Y=r at *;generalize hk:X.tdiv Y=k at *;by_cases h0:r=0
 ·subst h0;rw[if_neg (by simp)];exact⟨by omega,fun h=>absurd rfl h,k,by rw[Int.mul_comm k Y];omega⟩
 ·by_cases h1:decide (r<0)=decide (Y<0)
  ·rw[if_neg (fun c=>c.2 h1)];refine⟨hr,fun _=>?_,k,by rw[Int.mul_comm k Y];omega⟩;simpa using h1
  ·rw[if_pos ⟨h0,h1⟩];have h2:¬(r<0↔Y<0):=by simpa using h1
   refine⟨by omega,fun _=>by omega,k-1,?_⟩;rw[Int.sub_mul,Int.one_mul,Int.mul_comm k Y];omega
def modV (a b:Dec):Dec×Int :=
 if b.M=0 then(⟨0,0⟩,9)else
  let p:=max a.S.toNat b.S.toNat
  if I64 (up a p)∧I64 (up b p)then(⟨(azI (fm (up a p) (up b p)) p).1,((azI (fm (up a p) (up b p)) p).2:Int)⟩,0)else(⟨0,0⟩,8)
theorem up_zero {d:Dec}{p:Nat}(h:d.M≠0):up d p≠0:=by
 unfold up;intro e;have:(10:Int)^(p-d.S.toNat)≠0:=by
  have:0<(10:Int)^(p-d.S.toNat):=Int.pow_pos (by decide);omega
 rcases Int.mul_eq_zero.1 e with h1|h1
 ·exact h h1
 ·exact this h1
theorem fm_I64 {X Y:Int}(hY:I64 Y)(h:Y≠0):I64 (fm X Y):=by
 have:=(fm_ok X h).1;unfold I64 at *;omega
theorem cond_max {a b:Dec}(ha:0≤a.S)(hb:0≤b.S):(bif decide (a.S<b.S)then b.S else a.S)=((max a.S.toNat b.S.toNat:Nat):Int):=by
 by_cases h:a.S<b.S
 ·rw[dT0 h,cond_true];omega
 ·rw[dF0 h,cond_false];omega
theorem fm_cases {α:Type}(X Y:Int)(f:Int→α)(g:Int→α)(hg:∀r,I64 (r+Y)→g (r+Y)=f (r+Y))(hi:I64 (fm X Y)):
 brn (!decide (X.tmod Y=0)) (brn (!decide (decide (X.tmod Y<0)=decide (Y<0))) (some (g (X.tmod Y+Y))) (some (f (X.tmod Y)))) (some (f (X.tmod Y)))=some (f (fm X Y)):=by
 unfold fm at hi ⊢;simp only at hi ⊢;by_cases h0:X.tmod Y=0
 ·rw[dT0 h0,if_neg (fun c=>c.1 h0)];rfl
 ·by_cases h1:decide (X.tmod Y<0)=decide (Y<0)
  ·rw[dF0 h0,dT0 h1,if_neg (fun c=>c.2 h1)];rfl
  ·rw[if_pos ⟨h0,h1⟩]at hi;rw[dF0 h0,dF0 h1,if_pos ⟨h0,h1⟩,←hg _ hi];rfl
theorem rest_is4 {a b:Dec}(ha:okd a)(hb:okd b):nzl (a,b)=some (numV (modV a b)):=by
 unfold nzl modV;simp only[czC,aza];by_cases h0:b.M=0
 ·rw[dT0 h0,if_pos h0];rfl
 rw[dF0 h0,if_neg h0,azb,cond_max ha.1.1 hb.1.1];have p9:max a.S.toNat b.S.toNat≤9:=by have:=ha.1.2.1;have:=hb.1.2.1;omega
 have pa:a.S≤((max a.S.toNat b.S.toNat:Nat):Int):=by omega
 have pb:b.S≤((max a.S.toNat b.S.toNat:Nat):Int):=by omega
 generalize max a.S.toNat b.S.toNat=p at *;rw[xzz ha pa p9,xzz hb pb p9];simp only[aza];by_cases c1:I64 (up a p)
 ·rw[if_pos c1];by_cases c2:I64 (up b p)
  ·have hz:=up_zero (p:=p) h0;rw[if_pos c2,if_pos ⟨c1,c2⟩];simp only[Bool.not_true,azb];rw[dF0 hz,azb];have hi:=fm_I64 (X:=up a p) c2 hz;have n1:∀m:Int,I64 m→(obnd (fz5 ⟨m,(p:Int)⟩) fun y=>obnd (az3 (y,0)) fun y=>some y)=some (numV (⟨(azI m p).1,((azI m p).2:Int)⟩,0)):=fun m hm=>by
    rw[Norm_is hm p9,aza,bz8,aza]
   have t1:I64 ((up a p).tmod (up b p)):=by
    have h1:=Int.natAbs_tmod (up a p) (up b p);have h2:=Nat.mod_le (up a p).natAbs (up b p).natAbs;have h3:(up a p).tmod (up b p)≤(up a p).natAbs:=by omega
    unfold I64 at c1 c2 ⊢;have h4:((up a p).tmod (up b p)).natAbs<(up b p).natAbs:=by rw[h1];exact Nat.mod_lt _ (by omega)
    omega
   rw[n1 _ t1];have hw:∀(x:Option Val),(obnd (fz5 ⟨IntKind.i64.wrap ((up a p).tmod (up b p)+up b p),(p:Int)⟩) fun y=>obnd (az3 (y,0)) fun y=>some y)=some (numV (⟨(azI (IntKind.i64.wrap ((up a p).tmod (up b p)+up b p)) p).1,((azI (IntKind.i64.wrap ((up a p).tmod (up b p)+up b p)) p).2:Int)⟩,0)):=fun _=>n1 _ (by unfold I64;rw[i64];omega)
   rw[hw none];exact fm_cases (up a p) (up b p) (fun r=>numV (⟨(azI r p).1,((azI r p).2:Int)⟩,0)) (fun r=>numV (⟨(azI (IntKind.i64.wrap r) p).1,((azI (IntKind.i64.wrap r) p).2:Int)⟩,0)) (fun r hr=>by rw[azG hr.1 hr.2]) hi
  ·rw[if_neg c2,if_neg (show ¬(I64 (up a p)∧I64 (up b p)) from fun c=>c2 c.2)];rfl
 ·rw[if_neg c1,if_neg (show ¬(I64 (up a p)∧I64 (up b p)) from fun c=>c1 c.1)];rfl
def one (v:Val):Arg:=⟨false,[v]⟩
def redS (s:List Dec)(v:Val):List Dec⊕(List Dec⊕Val):=bif (numR v).2.2 then .inl (s++[(numR v).1])else .inr (.inr (numR v).2.1)
def redG:List Dec⊕Val→(List Dec×Val)⊕(Unit×Val)
 | .inl ds=>.inl (ds,v0)
 | .inr f=>.inr ((),f)
theorem reck_l1 {vs:List Val}(hv:∀v∈vs,okW v)(hl:vs.length≤1000):izy (v0,[],vs,(vs.length:Int),0)=some (redG (azy redS .inl [] vs)) :=
 azR (F:=ezi) (fun(s:List Dec) (i:Nat)=>(v0,s,vs,(vs.length:Int),(i:Int))) redG vs redS .inl (fun s i=>s.length=i) (by omega)
  (fun back s i hi hs=>by
   unfold ezi redS;simp only;rw[ltT hi,azc,idxG hi,aza,(jzq (hv _ (List.getElem_mem hi))).1,aza,appN (by simp only[List.length_singleton];omega),aza,wr1 (by omega)];cases(numR vs[i]).2.2<;>rfl)
  (fun s i hi s' hs h=>by
   unfold redS at h;revert h;cases(numR vs[i]).2.2<;>intro h<;>cases h;simp[hs])
  (fun back s hs=>by
   unfold ezi;simp only;rw[ltF,azb];rfl) [] rfl
theorem okW_N {d:Dec}(h:okd d):okW (vN d):=⟨.inr (.inl ⟨d,rfl,h.1⟩),by simp[vN],h.2⟩
def divR (a b:Dec):Dec×Int:=(dzE (a,b)).getD (⟨0,0⟩,0)
theorem divR_eq {a b:Dec}(ha:okd a)(hb:okd b):dzE (a,b)=some (divR a b)∧True:=by
 obtain⟨r,h1,h2,_⟩:=rzf ha hb;unfold divR;rw[h1];exact⟨rfl,h2⟩
def lzJ (op:Int)(l:List Dec):Val :=
 if op=1 then(match l with | []=>vN ⟨0,0⟩|x::xs=>vN (xs.foldl minD x))
 else if op=2 then(match l with | []=>vN ⟨0,0⟩|x::xs=>vN (xs.foldl maxD x))
 else if(sumD ⟨0,0⟩ l).2=0 then(if op=0 then vN (sumD ⟨0,0⟩ l).1 else numV (divR (sumD ⟨0,0⟩ l).1 ⟨l.length,0⟩))else numV (sumD ⟨0,0⟩ l)
theorem vzg {op:Int}{l:List Arg}(hl:l.length≤1000)(hb:l.any badA=true):bzi (op,l)=some (vE 15):=by
 unfold bzi;simp only;rw[gzs hl,hb];rfl
theorem DzF {l:List Arg}(h:okA l)(hb:l.any badA=false):bzi (3,l)=some (vN ⟨(cntA 0 l:Nat),0⟩):=by
 unfold bzi czV;simp only;rw[gzs (by have:=h.1;omega),hb,aza,azb,Cz1 h];simp only[decide_true,azc,aza];rw[int_is];rfl
theorem b4_one {x:List Dec}(hx:∀d∈x,okd d)(hl:x.length≤1000000):dzn (1,v0,x)=some (.inr ((),lzJ 1 x)):=by
 unfold dzn lzJ;simp only[decide_true,azc,if_true];cases x with
 | nil=>rfl
 | cons d xs =>
  rw[dT0 (show 0<((d::xs).length:Int) by simp only[List.length_cons];omega),azc,min_is (hx d (by simp)) (by simp only[List.length_cons]at hl;omega) (fun e he=>hx e (by simp[he])),aza,bz8];rfl
theorem b4_two {x:List Dec}(hx:∀d∈x,okd d)(hl:x.length≤1000000):dzn (2,v0,x)=some (.inr ((),lzJ 2 x)):=by
 unfold dzn lzJ;simp only;rw[show decide ((2:Int)=1)=false from rfl,azb,if_neg (by decide)];simp only[decide_true,azc,if_true];cases x with
 | nil=>rfl
 | cons d xs =>
  rw[dT0 (show 0<((d::xs).length:Int) by simp only[List.length_cons];omega),azc,max_is (hx d (by simp)) (by simp only[List.length_cons]at hl;omega) (fun e he=>hx e (by simp[he])),aza,bz8];rfl
theorem many_num {op:Int}{l:List Arg}(hop:op=0∨op=1∨op=2∨op=4)(h:okA l)(hb:l.any badA=false):
 bzi (op,l)=some (match numA [] l with | .inl x=>lzJ op x | .inr v=>v):=by
 have hb1:czV (op,l,v0,op)=some (.inl ((),v0)):=by
  unfold czV;rcases hop with rfl|rfl|rfl|rfl<;>rfl
 unfold bzi;simp only;rw[gzs (by have:=h.1;omega),hb,aza,azb,show(⟨0,⟨0,0⟩,[],false,0⟩:Val)=v0 from rfl,hb1,DzJ h];simp only[aza,osum];cases hn:numA [] l with
 | inr v=>rfl
 | inl x =>
  have hx:=yzI (fun a ha=>(h.2 a ha).2) (by simp) hn;have hl:=vzh (fun a ha=>(h.2 a ha).1) hn;have h40:=h.1;simp only[List.length_nil]at hl;simp only[Bool.not_true,azb];rcases(show op=1∨op=2∨(op=0∨op=4) by omega)with rfl|rfl|ho
  ·rw[b4_one hx (by omega)];rfl
  ·rw[b4_two hx (by omega)];rfl
  ·have hb4:dzn (op,v0,x)=some (.inl ((),v0)):=by
    unfold dzn;rcases ho with rfl|rfl<;>rfl
   rw[hb4,show bzr 0=some ⟨0,0⟩ from rfl];simp only[aza];rw[many_l5 (by omega) hx,aza];unfold xzJ lzJ;rw[if_neg (show ¬op=1 by omega),if_neg (show ¬op=2 by omega)];by_cases hs:(sumD ⟨0,0⟩ x).2=0
   ·rw[if_pos hs,if_pos hs];simp only;by_cases h0:op=0
    ·rw[dT0 h0,azc,if_pos h0,bz8];rfl
    ·have so:=(yzS (l:=x) okd0).1 hs;rw[dF0 h0,azb,if_neg h0,show bzr (x.length:Int)=some ⟨x.length,0⟩ from rfl,aza,(divR_eq so (okdI (by unfold I64;omega))).1,aza,bz8,aza]
   ·rw[if_neg hs,if_neg hs]
theorem pzq {k:Nat}{l:List Arg}(hl:l.length≤1000)(h:k=0∨k=1∨k=2∨k=3∨k=4∨k=11∨k=12∨k=18):bzR ((k:Int),l)=bzi ((k:Int),l):=by
 have ha:arLo k=0∧arHi k=9223372036854775807:=by
  rcases h with rfl|rfl|rfl|rfl|rfl|rfl|rfl|rfl<;>decide +kernel
 rw[Azp (by omega) (by rw[ha.1];omega) (by rw[ha.2];omega),core_many (by omega)]
theorem tru_bad {v:Val}(h:okW v)(e:(truR v).2.2=false):(truR v).2.1.Kind=4:=by
 rcases h.1 with rfl|⟨d,rfl,hd⟩|⟨s,rfl,hs⟩|⟨t,rfl⟩|⟨c,rfl⟩
 ·cases e
 ·cases e
 ·revert e;unfold truR bzV vS;simp[czC];generalize decide (s=[84,82,85,69])=p;generalize decide (s=U8s [70,65,76,83,69])=q;cases p<;>cases q<;>simp[vE]
 ·cases t<;>cases e
 ·rfl
def szL (area:Bool)(v:Val):Bool:=area&&(!decide (v.Kind=1)&&(!decide (v.Kind=3)&&!decide (v.Kind=4)))
def truS (area:Bool)(acc:List Bool)(v:Val):List Bool⊕(List Bool⊕Val):=bif szL area v then .inl acc else bif (truR v).2.2 then .inl (acc++[(truR v).1])else .inr (.inr (truR v).2.1)
def truL (area:Bool)(acc:List Bool)(l:List Val):List Bool⊕Val:=azy (truS area) .inl acc l
def truG:List Bool⊕Val→((List Bool)×Val)⊕((List Bool×Bool)×Val)
 | .inl acc=>.inl (acc,v0)
 | .inr v=>.inr (([],false),v)
theorem BzQ {area:Bool}{acc acc':List Bool}{v:Val}(h:truS area acc v = .inl acc'):acc'.length≤acc.length+1:=by
 unfold truS at h;revert h;cases szL area v<;>cases(truR v).2.2<;>intro h<;>cases h<;>simp
theorem vzQ {area:Bool}:∀{l:List Val} {acc acc':List Bool},truL area acc l = .inl acc'→acc'.length≤acc.length+l.length
 | [],acc,acc',h=>by simp only[truL,azy]at h;cases h;simp
 | v::l,acc,acc',h=>by
  simp only[truL,azy]at h;cases hs:truS area acc v with
  | inl x =>
   rw[hs]at h;have h1:=BzQ hs;have h2:=vzQ (l:=l) h;simp only[List.length_cons];omega
  | inr y =>
   rw[hs]at h;unfold truS at hs;revert hs;cases szL area v<;>cases(truR v).2.2<;>intro hs<;>cases hs;cases h
theorem truths_l2 {a:Arg}{acc:List Bool}(hL:a.L.length≤5000)(hv:∀v∈a.L,okW v)(ha:acc.length≤1000000):
 jz6 (v0,acc,a,a.L,(a.L.length:Int),0)=some (truG (truL a.Area acc a.L)):=by
 refine azR (F:=fzI) (fun s i=>(v0,s,a,a.L,(a.L.length:Int),(i:Int))) truG a.L (truS a.Area) .inl (fun s i=>s.length≤acc.length+i) (by omega) ?_ ?_ ?_ acc (by simp)
 ·intro back s i hi hs;unfold fzI;simp only;have hn:=(xzL (hv a.L[i] (List.getElem_mem hi))).1;rw[ltT hi,azc,idxG hi,aza,wr1 (by omega)];unfold truS szL;have e:obnd (bzV a.L[i]) (fun y=>brn (!y.2.snd) (some (Sum.inr (([],false),y.2.fst))) (obnd (app 1 s [y.fst]) fun zs=>back (v0,zs,a,a.L,(a.L.length:Int),((i+1:Nat):Int)))) =
   kzD (fun s'=>back (v0,s',a,a.L,(a.L.length:Int),((i+1:Nat):Int))) truG (bif (truR a.L[i]).2.2 then(.inl (s++[(truR a.L[i]).1]):List Bool⊕(List Bool⊕Val))else .inr (.inr (truR a.L[i]).2.1)):=by
   rw[hn,aza,appN (by simp;omega)];cases(truR a.L[i]).2.2<;>rfl
  cases a.Area with
  | false=>simp only[azb,Bool.false_and,cond_false];exact e
  | true =>
   simp only[azc,Bool.true_and];by_cases h1:(a.L[i]).Kind=1
   ·rw[dT0 h1];simp only[Bool.not_true,azb,Bool.false_and,cond_false];exact e
   ·rw[dF0 h1];simp only[Bool.not_false,azc,Bool.true_and];by_cases h3:(a.L[i]).Kind=3
    ·rw[dT0 h3];simp only[Bool.not_true,azb,Bool.false_and,cond_false];exact e
    ·rw[dF0 h3];simp only[Bool.not_false,azc,Bool.true_and];by_cases h4:(a.L[i]).Kind=4
     ·rw[dT0 h4];simp only[Bool.not_true,azb,cond_false];exact e
     ·rw[dF0 h4];rfl
 ·intro s i hi s' hs hst;have:=BzQ hst;omega
 ·intro back s hs;unfold fzI;simp only;rw[ltF,azb];rfl
def truA (acc:List Bool)(l:List Arg):List Bool⊕Val:=azy (fun acc a=>match truL a.Area acc a.L with | .inl x=>.inl x | .inr v=>.inr (.inr v)) .inl acc l
theorem truths_is {l:List Arg}(h:okA l):gzL l=some (match truA [] l with | .inl x=>(x,v0,decide (0<(x.length:Int))) | .inr v=>([],v,false)):=by
 unfold gzL;have:=azR (F:=fzH) (fun s i=>(v0,s,l,(l.length:Int),(i:Int))) truG l (fun acc a=>match truL a.Area acc a.L with | .inl x=>.inl x | .inr v=>.inr (.inr v)) .inl (fun s i=>s.length≤5000*i) (by have:=h.1;omega)
  (fun back s i hi hs=>by
   have hai:=h.2 l[i] (List.getElem_mem hi);have hl:=h.1;unfold fzH;simp only;rw[ltT hi,azc,idxG hi,aza,wr1 (by omega),truths_l2 hai.1 hai.2 (by omega),aza];cases truL (l[i]).Area s (l[i]).L<;>rfl)
  (fun s i hi s' hs hst=>by
   have hai:=h.2 l[i] (List.getElem_mem hi);cases hn:truL (l[i]).Area s (l[i]).L with
   | inl x =>
    rw[hn]at hst;simp only at hst;injection hst with hst;subst hst;have:=vzQ hn;omega
   | inr v=>rw[hn]at hst;cases hst)
  (fun back s hs=>by
   unfold fzH;simp only;rw[ltF,azb];rfl) [] (by simp)
 have this:hzI (v0,[],l,(l.length:Int),0)=some (truG (truA [] l)):=this
 show(obnd (hzI (v0,[],l,(l.length:Int),0)) _)=_
 rw[this,aza];cases truA [] l<;>rfl
theorem BzP {area:Bool}:∀{l:List Val} {acc:List Bool} {f:Val},(∀v∈l,okW v)→truL area acc l = .inr f→f.Kind=4
 | [],acc,f,_,h=>by simp only[truL,azy]at h;cases h
 | v::l,acc,f,hv,h=>by
  simp only[truL,azy]at h;cases hs:truS area acc v with
  | inl x=>rw[hs]at h;exact BzP (l:=l) (fun w hw=>hv w (by simp[hw])) h
  | inr y =>
   rw[hs]at h;unfold truS at hs;cases hk:szL area v with
   | true=>rw[hk]at hs;cases hs
   | false =>
    rw[hk,cond_false]at hs;cases hb:(truR v).2.2 with
    | true=>rw[hb]at hs;cases hs
    | false =>
     rw[hb]at hs;cases hs;cases h;exact tru_bad (hv v (by simp)) hb
theorem BzN:∀{l:List Arg} {acc:List Bool} {f:Val},(∀a∈l,∀v∈a.L,okW v)→truA acc l = .inr f→f.Kind=4
 | [],acc,f,_,h=>by simp only[truA,azy]at h;cases h
 | a::l,acc,f,hv,h=>by
  simp only[truA,azy]at h;cases hs:truL a.Area acc a.L with
  | inl x=>rw[hs]at h;exact BzN (l:=l) (fun b hb=>hv b (by simp[hb])) h
  | inr y=>rw[hs]at h;cases h;exact BzP (hv a (by simp)) hs
theorem BzO:∀{l:List Arg} {acc acc':List Bool},(∀a∈l,a.L.length≤5000)→truA acc l = .inl acc'→acc'.length≤acc.length+5000*l.length
 | [],acc,acc',_,h=>by simp only[truA,azy]at h;cases h;simp
 | a::l,acc,acc',hv,h=>by
  simp only[truA,azy]at h;cases hs:truL a.Area acc a.L with
  | inl x =>
   rw[hs]at h;have h1:=vzQ hs;have h2:=BzO (l:=l) (fun b hb=>hv b (by simp[hb])) h;have:=hv a (by simp);simp only[List.length_cons];omega
  | inr y=>rw[hs]at h;cases h
theorem has_is {l:List Bool}{t:Bool}(hl:l.length≤1000000):azY (l,t)=some (l.any (fun b=>decide (t=b))):=by
 unfold azY ezG;have this:dzL (l,t,(l.length:Int),0)=some ((fun(r:Option Nat)=>match r with|some i=>.inr (i:Int)|none=>.inl ()) _):=nzf (F:=bzY) (fun i=>(l,t,(l.length:Int),(i:Int))) (fun r=>match r with|some i=>.inr (i:Int)|none=>.inl ()) l (fun b=>decide (t=b)) (by omega)
  (fun back i hi=>by
   unfold bzY;simp only;rw[ltT hi,azc,idxG hi,aza,wr1 (by omega)];cases decide (t=l[i])<;>rfl)
  (fun back=>by
   unfold bzY;simp only;rw[ltF,azb])
 simp only;rw[this,aza,←nzW];cases l.findIdx? (fun b=>decide (t=b))with
 | none=>rfl
 | some i =>
  simp only[osum,aza,Option.isSome_some];rw[dT0 (show(0:Int)≤(i:Int) by omega)]
def outT (op:Int)(s:List Bool):Bool:=if op=11 then s.all id else s.any id
def truV (op:Int)(l:List Arg):Val:=match truA [] l with
 | .inl s=>if s=[]then vE 15 else vT (outT op s)
 | .inr f=>f
theorem many_tru {op:Int}{l:List Arg}(hop:op=11∨op=12)(h:okA l)(hb:l.any badA=false):bzi (op,l)=some (truV op l):=by
 have hl:=h.1;have hm:(obnd (gzL l) fun y =>
  brn (!y.2.snd)
   (brn (!decide (y.2.fst.Kind=4)) (obnd (azn 15) fun y=>some (Sum.inr ((),y)))
    (brn (!y.2.snd) (some (Sum.inr ((),y.2.fst)))
     (obnd (azY (y.fst,decide (op=12))) fun y=>obnd (bzS (decide (y=decide (op=12)))) fun y=>some (Sum.inr ((),y)))))
   (brn (!y.2.snd) (some (Sum.inr ((),y.2.fst)))
    (obnd (azY (y.fst,decide (op=12))) fun y=>obnd (bzS (decide (y=decide (op=12)))) fun y=>some (Sum.inr ((),y)))))=(some (Sum.inr ((),truV op l)):Option ((Unit×Val)⊕(Unit×Val))):=by
  rw[truths_is h,aza];unfold truV;cases ht:truA [] l with
  | inr f =>
   have:=BzN (fun a ha=>(h.2 a ha).2) ht;simp only[Bool.not_false,azc];rw[dT0 this];rfl
  | inl s =>
   have hsl:=BzO (fun a ha=>(h.2 a ha).1) ht;simp only[List.length_nil]at hsl;simp only;by_cases h0:s=[]
   ·subst h0;rfl
   ·have hp:0<s.length:=List.length_pos_iff.2 h0;rw[dT0 (show 0<(s.length:Int) by omega)];simp only[Bool.not_true,azb];rw[if_neg h0,has_is (by omega),aza];have:decide (s.any (fun b=>decide (decide (op=12)=b))=decide (op=12))=outT op s:=by
     unfold outT;rcases hop with rfl|rfl
     ·rw[if_pos rfl,show decide ((11:Int)=12)=false from rfl];clear hsl ht h0 hp;induction s with
      | nil=>rfl
      | cons b s ih=>cases b<;>simp_all
     ·rw[if_neg (by decide),show decide ((12:Int)=12)=true from rfl];clear hsl ht h0 hp;induction s with
      | nil=>rfl
      | cons b s ih=>cases b<;>simp_all
    rw[this];rfl
 have hb1:czV (op,l,v0,op)=some (.inr ((),truV op l)):=by
  unfold czV;rcases hop with rfl|rfl
  ·exact hm
  ·exact hm
 unfold bzi;simp only;rw[gzs (by omega),hb,aza,azb,show(⟨0,⟨0,0⟩,[],false,0⟩:Val)=v0 from rfl,hb1];rfl
def fzr {S:Type}(step:S→Nat→Int→S):S→Nat→List Int→S
 | st,_,[]=>st
 | st,i,r::l=>fzr step (step st i r) (i+1) l
theorem zzs {S X Z:Type}{F:(X→Option Z)→X→Option Z}(mk:S→Nat→Nat→X)(g:S→Nat→Z)(s:List UInt8)(step:S→Nat→Int→S)(Pre:S→Nat→Prop)(hl:s.length≤100000000)
 (h:∀back st i p,p<s.length→i≤p→Pre st i→bz3 ((rune s p).1:Int)→F back (mk st i p)=back (mk (step st i ((rune s p).1:Int)) (i+1) (p+(rune s p).2)))
 (hp:∀st i r,bz3 r→Pre st i→Pre (step st i r) (i+1))
 (hend:∀back st i p,s.length≤p→Pre st i→F back (mk st i p)=some (g st p)) (st:S) (h0:Pre st 0):∃p,iter F big (mk st 0 0)=some (g (fzr step st 0 (rs s)) p):=by
 have key:∀k n p i st,s.length-p≤k→k<n→i≤p→Pre st i→∃q,iter F n (mk st i p)=some (g (fzr step st i (rs (s.drop p))) q):=by
  intro k;induction k with
  | zero =>
   intro n p i st hk hn hi hpre;obtain⟨m,rfl⟩:∃m,n=m+1:=⟨n-1,by omega⟩;refine⟨p,?_⟩;rw[azH,hend _ _ _ _ (by omega) hpre,List.drop_eq_nil_of_le (by omega)];rfl
  | succ k ih =>
   intro n p i st hk hn hi hpre;obtain⟨m,rfl⟩:∃m,n=m+1:=⟨n-1,by omega⟩;by_cases hlt:p<s.length
   ·obtain⟨e,hw⟩:=rs_at hlt;have hr:bz3 ((rune s p).1:Int):=by rw[lza];exact tzM _
    rw[azH,h _ _ _ _ hlt hi hpre hr,e];exact ih m (p+(rune s p).2) (i+1) _ (by omega) (by omega) (by omega) (hp _ _ _ hr hpre)
   ·refine⟨p,?_⟩;rw[azH,hend _ _ _ _ (by omega) hpre,List.drop_eq_nil_of_le (by omega)];rfl
 have:=key s.length big 0 0 st (by omega) (by rw[bz7];omega) (by omega) h0;simpa using this
theorem enc_len {r:Int}(h:bz3 r):(Lib.encodeRune r).length≤4:=by
 obtain⟨n,rfl⟩:=Int.eq_ofNat_of_zero_le h.1;rw[encZ n h];split
 ·simp
 ·split
  ·simp
  ·split<;>simp
theorem ofNat_u8 (n:Nat):UInt8.ofNat (IntKind.u8.wrap (n:Int)).toNat=UInt8.ofNat n:=by
 rw[u8w];apply UInt8.toNat_inj.1;simp[UInt8.toNat_ofNat'];omega
theorem zzJ {out:List UInt8}{r:Int}(h:bz3 r)(hl:out.length≤100000000):gzr (out,r)=some (out++Lib.encodeRune r):=by
 have hu:=u32in h;obtain⟨n,rfl⟩:=Int.eq_ofNat_of_zero_le h.1;have h':=h;unfold bz3 at h';rw[encZ n h];have ha:∀ys:List UInt8,ys.length≤4→app 1 out ys=some (out++ys):=fun ys hy=>appN (by omega)
 unfold gzr;simp only;rw[hu];by_cases c1:n<128
 ·rw[dT0 (show(n:Int)≤127 by omega),azc,if_pos c1,ofNat_u8,ha _ (by simp),aza]
 rw[dF0 (show ¬(n:Int)≤127 by omega),azb,if_neg c1];unfold ezt dzx;simp only;rw[hu];have d6:=fdivN n 64;have d12:=fdivN n 4096;have d18:=fdivN n 262144;simp only[Int.cast_ofNat_Int]at d6 d12 d18;rw[d6,d12,d18,lo6,lo6,lo6];simp only[Int.toNat_natCast];by_cases c2:n<2048
 ·rw[dT0 (show(n:Int)≤2047 by omega),azc,if_pos c2,hi5 (by omega),Int.toNat_natCast,ha _ (by simp),aza,aza]
 rw[dF0 (show ¬(n:Int)≤2047 by omega),azb,if_neg c2];by_cases c3:n<65536
 ·rw[if_pos c3,hi4 (by omega),Int.toNat_natCast];by_cases c4:(n:Int)<55296
  ·rw[dT0 c4,azc,aza,azc,ha _ (by simp),aza,aza]
  ·rw[dF0 c4,azb,dT0 (show 57343<(n:Int) by omega),azc,dT0 (show(n:Int)≤65535 by omega),aza,azc,ha _ (by simp),aza,aza]
 ·rw[if_neg c3,hi3 (by omega),Int.toNat_natCast,dF0 (show ¬(n:Int)<55296 by omega),azb,dT0 (show 57343<(n:Int) by omega),azc,dF0 (show ¬(n:Int)≤65535 by omega),aza,azb,
   dT0 (show 65535<(n:Int) by omega),azc,dT0 (show(n:Int)≤1114111 by omega),azc,ha _ (by simp),aza,aza]
theorem mzW {out:List UInt8}{r:Int}(h:bz3 r)(hl:out.length≤100000000):∃k,azw (out,(),r)=some ((out++Lib.encodeRune r,k,()),()):=by
 unfold azw;simp only;rw[show fzA (out,())=some (out,()) from rfl,aza,zzJ h hl,aza];exact⟨_,rfl⟩
def selS (f n:Int)(out:List UInt8)(i:Nat)(r:Int):List UInt8:=if f≤(i:Int)∧(i:Int)-f<n then out++Lib.encodeRune r else out
theorem part_is {s:List UInt8}{f n:Int}(hl:s.length≤2000000)(hf:0≤f)(hf2:f≤9223372036854775807):hzb (s,f,n)=some (fzr (selS f n) [] 0 (rs s)):=by
 obtain⟨p,e⟩:=zzs (F:=hze) (fun(out:List UInt8) (i p:Nat)=>(out,f,n,(),(i:Int),s,p)) (fun(out:List UInt8) p=>(out,(),s,p)) s (selS f n) (fun out i=>out.length≤4*i) (by omega)
  (fun back out i p hp hi hpre hr=>by
   obtain⟨k,hk⟩:=mzW (out:=out) hr (by omega);unfold hze selS;simp only;rw[dT0 hp,azc,hk,aza,wr1 (by omega)];by_cases c1:f≤(i:Int)
   ·rw[dT0 c1,azc,azG (by omega) (by omega)];by_cases c2:(i:Int)-f<n
    ·rw[dT0 c2,if_pos ⟨c1,c2⟩];rfl
    ·rw[dF0 c2,if_neg (fun c=>c2 c.2)];rfl
   ·rw[dF0 c1,if_neg (fun c=>c1 c.1)];rfl)
  (fun out i r hr hpre=>by
   have:=enc_len hr;unfold selS;split
   ·rw[List.length_append];omega
   ·omega)
  (fun back out i p hp hpre=>by
   unfold hze;simp only;rw[dF0 (by omega),azb]) [] (by simp)
 unfold hzb;simp only;rw[show mzj ([],f,n,(),0,s,0)=_ from e,aza];rfl
theorem BzE {f n:Int}:∀(l:List Int) (i:Nat) (out:List UInt8),f+n≤(i:Int)→fzr (selS f n) out i l=out
 | [],_,_,_=>rfl
 | r::l,i,out,h=>by
  simp only[fzr];have e:selS f n out i r=out:=by unfold selS;rw[if_neg (by omega)]
  rw[e];exact BzE l (i+1) out (by omega)
theorem BzF {f:Nat}{n:Int}:∀(l:List Int) (i:Nat) (out:List UInt8),f≤i→fzr (selS (f:Int) n) out i l=out++encs (l.take ((f:Int)+n-i).toNat)
 | [],_,_,_=>by simp[fzr,encs]
 | r::l,i,out,h=>by
  simp only[fzr];by_cases c:(i:Int)-f<n
  ·have e:selS (f:Int) n out i r=out++Lib.encodeRune r:=by unfold selS;rw[if_pos ⟨by omega,c⟩]
   rw[e,BzF l (i+1) _ (by omega)];have e2:((f:Int)+n-(i:Nat)).toNat=((f:Int)+n-((i+1:Nat):Int)).toNat+1:=by omega
   rw[e2,List.take_succ_cons];unfold encs;rw[List.flatMap_cons,List.append_assoc]
  ·have e:=BzE (f:=(f:Int)) (n:=n) (r::l) i out (by omega);simp only[fzr]at e;rw[e,show((f:Int)+n-(i:Nat)).toNat=0 by omega];simp[encs]
theorem sel_is {f:Nat}{n:Int}:∀(l:List Int) (i:Nat) (out:List UInt8),i≤f→fzr (selS (f:Int) n) out i l=out++encs ((l.drop (f-i)).take n.toNat)
 | [],_,_,_=>by simp[fzr,encs]
 | r::l,i,out,h=>by
  by_cases c:i=f
  ·subst c;rw[BzF (r::l) i out (Nat.le_refl _),Nat.sub_self,List.drop_zero,show((i:Int)+n-(i:Nat)).toNat=n.toNat by omega]
  ·simp only[fzr];have e:selS (f:Int) n out i r=out:=by unfold selS;rw[if_neg (by omega)]
   rw[e,sel_is l (i+1) out (by omega),show f-i=(f-(i+1))+1 by omega,List.drop_succ_cons]
theorem rz3 {s:List UInt8}{f:Nat}{n:Int}(hl:s.length≤2000000)(hf2:f≤9223372036854775807):hzb (s,(f:Int),n)=some (encs (((rs s).drop f).take n.toNat)):=by
 rw[part_is hl (by omega) (by omega),sel_is _ _ _ (by omega)];rfl
def czQ (up:Bool)(r:Int):Int:=if up then(if 97≤r∧r≤122 then r-32 else r)else(if 65≤r∧r≤90 then r+32 else r)
theorem pzu {up:Bool}{r:Int}(h:bz3 r):bz3 (czQ up r):=by
 unfold bz3 at h ⊢;unfold czQ;split<;>split<;>omega
theorem Azv {s:List UInt8}{up:Bool}(hl:s.length≤2000000):iz7 (s,up)=some (encs ((rs s).map (czQ up))):=by
 obtain⟨p,e⟩:=zzs (F:=gzw) (fun(out:List UInt8) (_ p:Nat)=>(out,up,(),s,p)) (fun(out:List UInt8) p=>(out,(),s,p)) s (fun out _ r=>out++Lib.encodeRune (czQ up r)) (fun out i=>out.length≤4*i) (by omega)
  (fun back out i p hp hi hpre hr=>by
   have hc:=pzu (up:=up) hr;obtain⟨k,hk⟩:=mzW (out:=out) hc (by omega);obtain⟨k',hk'⟩:=mzW (out:=out) hr (by omega);unfold gzw;simp only;rw[dT0 hp,azc];generalize ((rune s p).1:Int)=r at *;have hr':=hr;unfold bz3 at hr';rw[i32_in (n:=r+-32) (by omega) (by omega),i32_in (n:=r+32) (by omega) (by omega)];unfold czQ at hk hc;cases up with
   | true =>
    simp only[if_true,Bool.not_true,azc,azb]at hk ⊢;by_cases c1:97≤r
    ·rw[dT0 c1,azc];by_cases c2:r≤122
     ·rw[if_pos ⟨c1,c2⟩]at hk;rw[dT0 c2,azc,show r+-32=r-32 by omega,hk,aza];simp only[czQ,if_true];rw[if_pos ⟨c1,c2⟩]
     ·rw[dF0 c2,azb,hk',aza];simp only[czQ,if_true];rw[if_neg (fun c=>c2 c.2)]
    ·rw[dF0 c1,azb,hk',aza];simp only[czQ,if_true];rw[if_neg (fun c=>c1 c.1)]
   | false =>
    simp only[Bool.false_eq_true,if_false,Bool.not_false,azc,azb]at hk ⊢;by_cases c1:65≤r
    ·rw[dT0 c1,azc];by_cases c2:r≤90
     ·rw[if_pos ⟨c1,c2⟩]at hk;rw[dT0 c2,azc,hk,aza];simp only[czQ,Bool.false_eq_true,if_false];rw[if_pos ⟨c1,c2⟩]
     ·rw[dF0 c2,azb,hk',aza];simp only[czQ,Bool.false_eq_true,if_false];rw[if_neg (fun c=>c2 c.2)]
    ·rw[dF0 c1,azb,hk',aza];simp only[czQ,Bool.false_eq_true,if_false];rw[if_neg (fun c=>c1 c.1)])
  (fun out i r hr hpre=>by
   have:=enc_len (pzu (up:=up) hr);rw[List.length_append];omega)
  (fun back out i p hp hpre=>by
   unfold gzw;simp only;rw[dF0 (by omega),azb]) [] (by simp)
 unfold iz7;simp only;rw[show lzj ([],up,(),s,0)=_ from e,aza];have:∀(l:List Int) (i:Nat) (out:List UInt8),fzr (fun out _ r=>out++Lib.encodeRune (czQ up r)) out i l=out++encs (l.map (czQ up)):=by
  intro l;induction l with
  | nil=>intro i out;simp[fzr,encs]
  | cons r l ih =>
   intro i out;simp only[fzr];rw[ih];unfold encs;rw[List.map_cons,List.flatMap_cons,List.append_assoc]
 rw[this];rfl
theorem bifI2 {α:Type}(p:Prop)[Decidable p](x y:α):(bif decide p then x else y)=if p then x else y:=by by_cases h:p<;>simp[h]
theorem subG {A:Type}{D:List A}{i k:Nat}(h:i≤k)(h2:k≤D.length):sub D (i:Int) (k:Int)=some ((D.take k).drop i):=by
 have hd:(decide ((0:Int)≤(i:Int))&&decide ((i:Int)≤(k:Int))&&decide ((k:Int)≤(D.length:Int)))=true:=by
  simp;omega
 simp only[sub,hd,cond_true,Int.toNat_natCast]
 try rfl
def amt (v:Val)(lo:Int):Int⊕Val:=if(numR v).2.2=true then(if(numR v).1.S=0∧lo≤(numR v).1.M then .inl (numR v).1.M else .inr (vE 15))else .inr (numR v).2.1
theorem amount_is {v:Val}{lo:Int}(h:okW v):gzK (v,lo)=some (match amt v lo with | .inl m=>(m,v0,true) | .inr f=>(0,f,false)):=by
 unfold gzK amt;simp only[czC,aza];rw[(jzq h).1,aza];rcases numR v with⟨⟨M,S⟩,f,b⟩;cases b with
 | false=>rfl
 | true =>
  simp only[Bool.not_true,azb,if_true];by_cases c1:S=0
  ·rw[dT0 c1];by_cases c2:M<lo
   ·rw[dT0 c2,if_neg (by omega)];rfl
   ·rw[dF0 c2,if_pos ⟨c1,by omega⟩];rfl
  ·rw[dF0 c1,if_neg (fun c=>c1 c.1)];rfl
def izk (k:Int)(i:Nat):Int:=if k=17∧i=0 then 1 else 0
def amtS (k:Int)(x:List Int×Nat)(v:Val):(List Int×Nat)⊕(List Int⊕Val):=match amt v (izk k x.2)with
 | .inl m=>.inl (x.1.set x.2 m,x.2+1)
 | .inr f=>.inr (.inr f)
def ezQ (k:Int)(vs:List Val):List Int⊕Val:=azy (amtS k) (fun x=>.inl x.1) ([1,1],0) vs
def amtG:List Int⊕Val→(List Int×Val)⊕(Unit×Val)
 | .inl ns=>.inl (ns,v0)
 | .inr f=>.inr ((),f)
theorem inb_is {n i:Nat}(h:i<n):inb n (i:Int)=some i:=by
 simp[inb,h]
theorem nth_is {A:Type}{l:List A}{i:Nat}(h:i<l.length):nth l i=some l[i]:=by
 simp[nth,h]
theorem zzH {k:Int}{vs:List Val}(hv:∀v∈vs,okW v)(hl:vs.length≤2):jz8 (k,v0,[1,1],vs,(vs.length:Int),0)=some (amtG (ezQ k vs)) :=
 azR (F:=fzJ) (fun(x:List Int×Nat) (i:Nat)=>(k,v0,x.1,vs,(vs.length:Int),(i:Int))) amtG vs (amtS k) (fun x=>.inl x.1) (fun x i=>x.2=i∧x.1.length=2) (by omega)
  (fun back x i hi hp=>by
   obtain⟨ns,j⟩:=x;simp only at hp;obtain⟨rfl,h2⟩:=hp;unfold fzJ amtS;simp only;have ha:=fun lo=>amount_is (lo:=lo) (hv _ (List.getElem_mem hi))
   have hb:=inb_is (show j<ns.length by omega);have hn:=nth_is (show j<ns.length by omega);rw[ltT hi,azc,idxG hi,aza,wr1 (by omega)];simp only[ha,hb,hn,aza];by_cases c1:k=17
   ·rw[dT0 c1,azc];by_cases c2:(j:Int)=0
    ·rw[dT0 c2,azc,show izk k j=1 from if_pos ⟨c1,by omega⟩];cases amt vs[j] 1<;>rfl
    ·rw[dF0 c2,azb,show izk k j=0 from if_neg (by omega)];cases amt vs[j] 0<;>rfl
   ·rw[dF0 c1,azb,show izk k j=0 from if_neg (fun c=>c1 c.1)];cases amt vs[j] 0<;>rfl)
  (fun x i hi x' hp h=>by
   obtain⟨ns,j⟩:=x;simp only at hp;obtain⟨rfl,h2⟩:=hp;unfold amtS at h;simp only at h;revert h;cases amt vs[j] (izk k j)<;>intro h<;>cases h;simp[h2])
  (fun back x hp=>by
   unfold fzJ;simp only;rw[ltF,azb];rfl) ([1,1],0) ⟨rfl,rfl⟩
def hzl (k:Int)(s:List UInt8)(ns:List Int):Val :=
 let l:=rs s
 if k=15 then dzB (encs (l.take (ns.getD 0 0).toNat))
 else if k=16 then dzB (encs ((l.drop (l.length-(ns.getD 0 0).toNat)).take (ns.getD 0 0).toNat))
 else dzB (encs ((l.drop (ns.getD 0 0-1).toNat).take (ns.getD 1 0).toNat))
theorem pieceV_15 (s:List UInt8)(a b:Int):hzl 15 s [a,b]=dzB (encs (((rs s).drop 0).take a.toNat)):=by simp[hzl]
theorem pieceV_16 (s:List UInt8)(a b:Int):hzl 16 s [a,b]=dzB (encs (((rs s).drop ((rs s).length-a.toNat)).take a.toNat)):=by simp[hzl]
theorem pieceV_17 (s:List UInt8)(a b:Int):hzl 17 s [a,b]=dzB (encs (((rs s).drop (a-1).toNat).take b.toNat)):=by simp[hzl]
theorem dzC {v:Val}(h:okW v):(v.Kind=4→worR v=([],v,false))∧(v.Kind≠4→worR v=(texR v,v0,true)):=by
 unfold worR cz2;rw[(tex_eq h).1];constructor
 ·intro h4;rw[dT0 h4];rfl
 ·intro h4;rw[dF0 h4];rfl
theorem amt_ok {v:Val}{lo m:Int}(h:okW v)(e:amt v lo = .inl m):lo≤m∧m≤9223372036854775807:=by
 have:=(mzy h).2;unfold I64 at this;unfold amt at e;split at e
 ·split at e
  ·rename_i hc;cases e;exact⟨hc.2,this.2⟩
  ·cases e
 ·cases e
theorem lzh {s:List UInt8}(hv:validD s=true){i k:Nat}:(encs (((rs s).drop i).take k)).length≤s.length:=by
 by_cases h:i≤(rs s).length
 ·have:=(slice_rs hv (i:=i) (k:=min k ((rs s).length-i)) (by omega)).2.2;rw[show((rs s).drop i).take k=((rs s).drop i).take (min k ((rs s).length-i)) from by
   rw[List.take_eq_take_iff,List.length_drop];omega]
  exact this
 ·rw[List.drop_eq_nil_of_le (by omega)];simp[encs]
theorem amts_ok {k:Int}:∀{vs:List Val} {ns:List Int},vs.length≤2→(∀v∈vs,okW v)→ezQ k vs = .inl ns→∃a b:Int,ns=[a,b]∧0≤a∧a≤9223372036854775807∧0≤b∧b≤9223372036854775807∧(k=17→1≤a)
 | [],ns,_,_,e=>by
  cases e;exact⟨1,1,rfl,by omega,by omega,by omega,by omega,fun _=>by omega⟩
 | [v],ns,_,hv,e=>by
  unfold ezQ at e;simp only[azy,amtS]at e;cases h:amt v (izk k 0)with
  | inr f=>rw[h]at e;cases e
  | inl m =>
   rw[h]at e;cases e;have:=amt_ok (hv v (by simp)) h;unfold izk at this;refine⟨m,1,rfl,?_,this.2,by omega,by omega,fun hk=>?_⟩
   ·have:=this.1;split at this<;>omega
   ·rw[if_pos ⟨hk,rfl⟩]at this;exact this.1
 | [v,w],ns,_,hv,e=>by
  unfold ezQ at e;simp only[azy,amtS]at e;cases h:amt v (izk k 0)with
  | inr f=>rw[h]at e;cases e
  | inl m =>
   rw[h]at e;simp only at e;have h1:=amt_ok (hv v (by simp)) h;unfold izk at h1;cases h':amt w (izk k (0+1))with
   | inr f=>rw[h']at e;cases e
   | inl m' =>
    rw[h']at e;cases e;have h2:=amt_ok (hv w (by simp)) h';unfold izk at h2;rw[if_neg (by omega)]at h2;refine⟨m,m',rfl,?_,h1.2,h2.1,h2.2,fun hk=>?_⟩
    ·have:=h1.1;split at this<;>omega
    ·rw[if_pos ⟨hk,rfl⟩]at h1;exact h1.1
 | _::_::_::_,_,h,_,_=>by simp only[List.length_cons]at h;omega
theorem lz1 {v:Val}(h:okW v):cz2 v=some (worR v):=(wor_eq h).1
theorem BzV {k:Int}(hk:k=15∨k=16∨k=17){v:Val}{vs:List Val}(h:okW v)(hv:∀w∈vs,okW w)(hl:vs.length≤2):
 bzM (k,v::vs)=some (if v.Kind=4 then v else match ezQ k vs with | .inl ns=>hzl k (texR v) ns | .inr f=>f):=by
 unfold bzM;simp only;rw[idxZ,aza,lz1 h,aza];by_cases h4:v.Kind=4
 ·rw[(dzC h).1 h4,if_pos h4];rfl
 rw[(dzC h).2 h4,if_neg h4];simp only[Bool.not_true,azb];have hb:czk (k,v::vs,v0,texR v,k)=some (.inl ((),v0)):=by
  unfold czk;rcases hk with rfl|rfl|rfl<;>rfl
 rw[show(⟨0,⟨0,0⟩,[],false,0⟩:Val)=v0 from rfl,hb];simp only[aza,osum];have hs:sub (v::vs) 1 (((v::vs).length:Nat):Int)=some vs:=by
  have:=subG (D:=v::vs) (i:=1) (k:=(v::vs).length) (by simp) (by simp);rw[List.take_length]at this;simpa using this
 rw[hs,aza,zzH hv hl,aza];cases e:ezQ k vs with
 | inr f=>rfl
 | inl ns =>
  obtain⟨a,b,rfl,a0,a1,b0,b1,ha⟩:=amts_ok hl hv e;obtain⟨tl,tv⟩:=pzf h h4;rw[show amtG (.inl [a,b]) = .inl ([a,b],v0) from rfl];simp only;have i1:idx [a,b] 1=some b:=rfl;have hrl:=nzM (texR v);have ht:∀x:List UInt8,x.length≤3000→(obnd (czt x) fun y=>some y)=some (dzB x):=fun x hx=>by rw[kzw (by omega),aza]
  rcases hk with rfl|rfl|rfl
  ·have hp:=rz3 (s:=texR v) (f:=0) (n:=a) (by omega) (by omega);rw[show decide ((15:Int)=15)=true from rfl,azc,idxZ,aza,show(0:Int)=((0:Nat):Int) from rfl,hp,aza,ht _ (by have:=lzh tv (i:=0) (k:=a.toNat);omega),pieceV_15]
  ·rw[show decide ((16:Int)=15)=false from rfl,azb,show decide ((16:Int)=16)=true from rfl,azc];rw[idxZ];have hr:=BzD (s:=texR v) (by omega);unfold lzT at hr;rw[hr,aza,aza,aza,azG (by omega) (by omega),bifI2,show(if((rs (texR v)).length:Int)-a<0 then 0 else((rs (texR v)).length:Int)-a)=(((rs (texR v)).length-a.toNat:Nat):Int) from by split<;>omega];rw[rz3 (by omega) (by omega),aza,ht _ (by have:=lzh tv (i:=(rs (texR v)).length-a.toNat) (k:=a.toNat);omega),pieceV_16]
  ·rw[show decide ((17:Int)=15)=false from rfl,azb,show decide ((17:Int)=16)=false from rfl,azb,show decide ((17:Int)=17)=true from rfl,azc];have:=ha rfl;rw[idxZ,aza,i1,aza,azG (by omega) (by omega),show a-1=(((a-1).toNat:Nat):Int) by omega,rz3 (by omega) (by omega),aza,ht _ (by have:=lzh tv (i:=(a-1).toNat) (k:=b.toNat);omega),pieceV_17]
theorem yzW {out w:List UInt8}(h:out.length+w.length≤100000000000):∃k,czl (out,(),w)=some ((out++w,k,()),()):=by
 unfold czl;simp only;rw[show fzA (out,())=some (out,()) from rfl,aza];simp only;rw[appN (by omega),aza];exact⟨_,rfl⟩
theorem BzU {v:Val}(h:okW v):(worR v).1.length≤3000∧validD (worR v).1=true:=by
 by_cases h4:v.Kind=4
 ·rw[(dzC h).1 h4];exact⟨by simp,rfl⟩
 ·rw[(dzC h).2 h4];exact pzf h h4
def conS (s:List UInt8)(v:Val):List UInt8⊕(List UInt8⊕(List UInt8×Val)):=bif (worR v).2.2 then .inl (s++(worR v).1)else .inr (.inr (s,(worR v).2.1))
def conL (s:List UInt8)(l:List Val):List UInt8⊕(List UInt8×Val):=azy conS .inl s l
def conG:List UInt8⊕(List UInt8×Val)→(List UInt8×(Val×Unit))⊕(List UInt8×(Val×Unit))
 | .inl s=>.inl (s,v0,())
 | .inr (s,f)=>.inr (s,f,())
theorem AzA {s s':List UInt8}{v:Val}(h:okW v)(e:conS s v = .inl s'):s'.length≤s.length+3000:=by
 have:=(BzU h).1;unfold conS at e;revert e;cases(worR v).2.2<;>intro e<;>cases e;rw[List.length_append];omega
theorem uzs:∀{l:List Val} {s s':List UInt8},(∀v∈l,okW v)→conL s l = .inl s'→s'.length≤s.length+3000*l.length
 | [],s,s',_,e=>by simp only[conL,azy]at e;cases e;simp
 | v::l,s,s',h,e=>by
  simp only[conL,azy]at e;cases hs:conS s v with
  | inr y =>
   rw[hs]at e;unfold conS at hs;revert hs;cases(worR v).2.2<;>intro hs<;>cases hs;cases e
  | inl s1 =>
   rw[hs]at e;have h1:=AzA (h v (by simp)) hs;have h2:=uzs (l:=l) (fun w hw=>h w (by simp[hw])) e;simp only[List.length_cons];omega
theorem step3 {x y z i:Nat}(h1:y≤z+3000*i)(h2:x≤y+3000):x≤z+3000*(i+1):=by
 rw[Nat.mul_add,Nat.mul_one,←Nat.add_assoc];exact Nat.le_trans h2 (Nat.add_le_add_right h1 _)
theorem many_l3 {l:List Val}{s:List UInt8}(hl:l.length≤5000)(h:∀v∈l,okW v)(hs:s.length≤1000000000):mzg (s,v0,(),l,(l.length:Int),0)=some (conG (conL s l)) :=
 azR (F:=gz9) (fun(s:List UInt8) (i:Nat)=>(s,v0,(),l,(l.length:Int),(i:Int))) conG l conS .inl (fun s' i=>s'.length≤s.length+3000*i) (by omega)
  (fun back s' i hi hp=>by
   have ho:=h _ (List.getElem_mem hi);have hw:=(BzU ho).1;obtain⟨k,hk⟩:=yzW (out:=s') (w:=(worR l[i]).1) (by omega);unfold gz9 conS;simp only;rw[ltT hi,azc,idxG hi,aza,lz1 ho,aza,hk,aza,wr1 (by omega)];cases(worR l[i]).2.2<;>rfl)
  (fun s' i hi s'' hp e=>by
   exact step3 hp (AzA (h _ (List.getElem_mem hi)) e))
  (fun back s' hp=>by
   unfold gz9;simp only;rw[ltF,azb];rfl) s (by simp)
def conA (s:List UInt8)(l:List Arg):List UInt8⊕(List UInt8×Val):=azy (fun s a=>match conL s a.L with | .inl x=>.inl x | .inr y=>.inr (.inr y)) .inl s l
theorem many_l2 {l:List Arg}(h:okA l):jzd ([],v0,(),l,(l.length:Int),0)=some (conG (conA [] l)) :=
 azR (F:=gz8) (fun(s:List UInt8) (i:Nat)=>(s,v0,(),l,(l.length:Int),(i:Int))) conG l (fun s a=>match conL s a.L with | .inl x=>.inl x | .inr y=>.inr (.inr y)) .inl (fun s i=>s.length≤15000000*i) (by have:=h.1;omega)
  (fun back s i hi hp=>by
   have h40:=h.1;obtain⟨h1,h2⟩:=h.2 _ (List.getElem_mem hi);unfold gz8;simp only;rw[ltT hi,azc,idxG hi,aza,many_l3 h1 h2 (by omega),aza,wr1 (by omega)];cases conL s (l[i]).L with
   | inl x=>rfl
   | inr y=>rfl)
  (fun s i hi s' hp e=>by
   obtain⟨h1,h2⟩:=h.2 _ (List.getElem_mem hi);cases hc:conL s (l[i]).L with
   | inl x =>
    rw[hc]at e;cases e;have:=uzs h2 hc;omega
   | inr y=>rw[hc]at e;cases e)
  (fun back s hp=>by
   unfold gz8;simp only;rw[ltF,azb];rfl) [] (by simp)
theorem Azy:∀{l:List Arg} {s s':List UInt8},(∀a∈l,a.L.length≤5000∧∀v∈a.L,okW v)→conA s l = .inl s'→s'.length≤s.length+15000000*l.length
 | [],s,s',_,e=>by simp only[conA,azy]at e;cases e;simp
 | a::l,s,s',h,e=>by
  simp only[conA,azy]at e;cases hc:conL s a.L with
  | inr y=>rw[hc]at e;cases e
  | inl s1 =>
   rw[hc]at e;obtain⟨h1,h2⟩:=h a (by simp);have h3:=uzs h2 hc;have h4:=Azy (l:=l) (fun b hb=>h b (by simp[hb])) e;simp only[List.length_cons];omega
theorem CzD {l:List Arg}(h:okA l)(hb:l.any badA=false):bzi (18,l)=some (match conA [] l with | .inl s=>dzB s | .inr y=>y.2):=by
 have hl:=h.1;have hb1:czV (18,l,v0,18)=some (.inr ((),match conA [] l with | .inl s=>dzB s | .inr y=>y.2)):=by
  unfold czV;simp only;rw[show decide ((18:Int)=3)=false from rfl,show decide ((18:Int)=11)=false from rfl,show decide ((18:Int)=12)=false from rfl,azb,azb,azb];simp only[decide_true,azc];rw[many_l2 h,aza];cases hc:conA [] l with
  | inr y=>rfl
  | inl s =>
   have:=Azy h.2 hc;rw[show conG (.inl s) = .inl (s,v0,()) from rfl];simp only[osum];rw[show gzI (s,())=some (s,()) from rfl,aza];simp only;rw[kzw (by simp only[List.length_nil]at this;omega),aza]
 unfold bzi;simp only;rw[gzs (by omega),hb,aza,azb,show(⟨0,⟨0,0⟩,[],false,0⟩:Val)=v0 from rfl,hb1];rfl
def foldA (op:Int)(l:List Arg):Val:=if op=3 then vN ⟨(cntA 0 l:Nat),0⟩else match numA [] l with | .inl x=>lzJ op x | .inr v=>v
theorem units_ok {s:List UInt8}(hv:validD s=true):(bzx s).2=0↔ulen (rs s)≤1000:=by
 unfold bzx;rw[if_pos hv];by_cases h:1000<ulen (rs s)
 ·rw[if_pos h];simp;omega
 ·rw[if_neg h];simp;omega
structure CS where
 T:List UInt8
 s:List UInt8
 b:Bool
def CS.ok (x:CS):Prop:=validD x.T=true∧x.s.length≤6000∧(x.b=false→x.s=x.T∧(bzx x.T).2=0)∧(x.b=true→¬(bzx x.T).2=0)
def sing (a:Arg):Val:=if badB a=true then vE 15 else fst1 a
theorem ozZ {a:Arg}(h:badB a=false):idx a.L 0=some (fst1 a):=by
 unfold badB at h;simp only[Bool.or_eq_false_iff,Bool.not_eq_false',decide_eq_true_eq]at h;unfold fst1;obtain⟨_,h1⟩:=h
 match h:a.L,h1 with
 | [v],_=>rfl
theorem sing_is (a:Arg):bzw a=some (sing a):=by
 unfold bzw sing;simp only[czC,aza];cases hb:badB a with
 | false =>
  rw[ozZ hb];unfold badB at hb;simp only[Bool.or_eq_false_iff,Bool.not_eq_false',decide_eq_true_eq]at hb;rw[hb.1,dT0 (show((a.L.length:Nat):Int)=1 by omega)];rfl
 | true =>
  unfold badB at hb;cases ha:a.Area with
  | true=>rfl
  | false =>
   rw[ha]at hb;have:¬(a.L.length:Int)=1:=by
    intro e;have:a.L.length=1:=by omega
    simp[this]at hb
   rw[dF0 this];rfl
theorem shaped1 (a:Arg):dzY [a]=some (!badB a):=by rw[zzx (by simp)];simp
theorem sub0 (a:Arg)(l:List Arg):sub (a::l) 0 1=some [a]:=by
 have:=subG (D:=a::l) (i:=0) (k:=1) (by omega) (by simp);simpa using this
def wzQ (a b:Arg):Val :=
 if a.Area=true then(if badB b=true then vE 15 else if(numR (fst1 b)).2.2=true then
  (if(numR (fst1 b)).1.S=0 then(if 1≤(numR (fst1 b)).1.M∧(numR (fst1 b)).1.M≤a.L.length then a.L.getD ((numR (fst1 b)).1.M-1).toNat v0 else vE 23)else vE 15)else(numR (fst1 b)).2.1)else vE 15
theorem sub12 (a b:Arg):sub [a,b] 1 (([a,b]:List Arg).length:Int)=some [b]:=subG (D:=[a,b]) (i:=1) (k:=2) (by omega) (by simp)
theorem idx1 (a b:Arg)(l:List Arg):idx (a::b::l) 1=some b:=idxG (l:=a::b::l) (i:=1) (by simp)
theorem index_is {a b:Arg}(hb:∀v∈b.L,okW v):jzc [a,b]=some (wzQ a b):=by
 unfold jzc wzQ;simp only[czC,aza];rw[idxZ,aza];cases ha:a.Area with
 | false=>rfl
 | true =>
  rw[sub12,aza,shaped1,aza,idx1,aza];simp only[Bool.not_true,azb,if_true];cases hbb:badB b with
  | true=>rfl
  | false =>
   have hm:fst1 b∈b.L:=by
    have:=ozZ hbb;unfold fst1
    match h:b.L with
    | []=>rw[h]at this;cases this
    | v::_=>simp
   rw[ozZ hbb,aza,(jzq (hb _ hm)).1,aza];simp only[Bool.not_false,Bool.not_true,azb,Bool.false_eq_true,if_false];have ho:=(mzy (hb _ hm)).2;generalize numR (fst1 b)=r at *;obtain⟨⟨M,S⟩,f,ok⟩:=r;cases ok with
   | false=>rfl
   | true =>
    simp only[Bool.not_true,azb,if_true];by_cases c1:S=0
    ·rw[dT0 c1,if_pos c1];simp only[Bool.not_true,azb];by_cases c2:M<1
     ·rw[dT0 c2,if_neg (by omega)];rfl
     ·rw[dF0 c2,azb,aza];by_cases c3:(a.L.length:Int)<M
      ·rw[dT0 c3,if_neg (by omega)];rfl
      ·rw[dF0 c3,azb,if_pos ⟨by omega,by omega⟩,aza];have hk:(M-1).toNat<a.L.length:=by omega
       unfold I64 at ho;simp only at ho;rw[azG (by omega) (by omega),show M-1=(((M-1).toNat:Nat):Int) by omega,idxG hk,aza,Int.toNat_natCast,List.getD_eq_getElem?_getD,List.getElem?_eq_getElem hk];rfl
    ·rw[dF0 c1,if_neg c1];rfl
theorem szD {a:Arg}(h:badB a=false):fst1 a∈a.L:=by
 have:=ozZ h;unfold fst1
 match h:a.L with
 | []=>rw[h]at this;cases this
 | v::_=>simp
theorem kzB {op:Int}{a:Arg}{l:List Arg}(hop:¬op=24):bzj (op,a::l)=if badB a=true then some (vE 15)else
 (brn (decide (op=23)) (brn (decide ((fst1 a).Kind=4)) (obnd (idx (a::l) 1) fun y=>obnd (bzw y) fun y=>some y) (some (fst1 a)))
  (brn (decide (op=10))
   (obnd (bzV (fst1 a)) fun y =>
    brn (!y.2.snd) (some y.2.fst)
     (brn y.fst (obnd (idx (a::l) 1) fun y=>obnd (bzw y) fun y=>some y)
      (brn (decide (((a::l).length:Int)=2)) (obnd (bzS false) fun y=>some y) (obnd (idx (a::l) 2) fun y=>obnd (bzw y) fun y=>some y))))
   (obnd (az4 (fst1 a)) fun y =>
    brn (!y.2.snd) (some y.2.fst)
     (brn (!decide (y.fst.S=0)) (obnd (azn 15) fun y=>some y)
      (brn (decide (y.fst.M<1)) (obnd (azn 15) fun y=>some y)
       (brn (decide (((a::l).length:Int)≤y.fst.M)) (obnd (azn 15) fun y=>some y)
        (obnd (idx (a::l) y.fst.M) fun y=>obnd (bzw y) fun y=>some y))))))):=by
 unfold bzj;simp only;rw[dF0 hop,azb,sub0,aza,shaped1,aza];cases hb:badB a with
 | true=>rfl
 | false=>rw[idxZ,aza,ozZ hb,aza];rfl
theorem pickP {l:List Arg}{k:Nat}(h:k<l.length):(obnd (idx l (k:Int)) fun y=>obnd (bzw y) fun y=>some y)=some (sing l[k]):=by
 rw[idxG h,aza,sing_is,aza]
def wzP (a b:Arg):Val:=if badB a=true then vE 15 else if(fst1 a).Kind=4 then sing b else fst1 a
theorem iferr_is (a b:Arg):bzj (23,[a,b])=some (wzP a b)∧True:=by
 rw[kzB (by decide)];unfold wzP;cases hb:badB a with
 | true=>exact⟨rfl,trivial⟩
 | false =>
  simp only[Bool.false_eq_true,if_false];have p1:(obnd (idx [a,b] 1) fun y=>obnd (bzw y) fun y=>some y)=some (sing b):=pickP (l:=[a,b]) (k:=1) (by simp);rw[decide_true,azc,p1];by_cases h:(fst1 a).Kind=4
  ·rw[dT0 h,azc,if_pos h];exact⟨rfl,trivial⟩
  ·rw[dF0 h,azb,if_neg h];exact⟨rfl,trivial⟩
def ifV (a b:Arg)(c:Val):Val:=if badB a=true then vE 15 else if(truR (fst1 a)).2.2=true then(if(truR (fst1 a)).1=true then sing b else c)else(truR (fst1 a)).2.1
theorem if2_is {a b:Arg}(ha:∀v∈a.L,okW v):bzj (10,[a,b])=some (ifV a b (vT false))∧True:=by
 rw[kzB (by decide)];unfold ifV;cases hb:badB a with
 | true=>exact⟨rfl,trivial⟩
 | false =>
  simp only[Bool.false_eq_true,if_false];obtain⟨t1,_⟩:=xzL (ha _ (szD hb));have p1:(obnd (idx [a,b] 1) fun y=>obnd (bzw y) fun y=>some y)=some (sing b):=pickP (l:=[a,b]) (k:=1) (by simp);rw[show decide ((10:Int)=23)=false from rfl,azb,decide_true,azc,t1,aza,p1];rcases truR (fst1 a)with⟨t,f,ok⟩;cases ok with
  | false=>exact⟨rfl,trivial⟩
  | true=>cases t<;>exact⟨rfl,trivial⟩
theorem if3_is {a b c:Arg}(ha:∀v∈a.L,okW v):bzj (10,[a,b,c])=some (ifV a b (sing c))∧True:=by
 rw[kzB (by decide)];unfold ifV;cases hb:badB a with
 | true=>exact⟨rfl,trivial⟩
 | false =>
  simp only[Bool.false_eq_true,if_false];obtain⟨t1,_⟩:=xzL (ha _ (szD hb));have p1:(obnd (idx [a,b,c] 1) fun y=>obnd (bzw y) fun y=>some y)=some (sing b):=pickP (l:=[a,b,c]) (k:=1) (by simp);have p2:(obnd (idx [a,b,c] 2) fun y=>obnd (bzw y) fun y=>some y)=some (sing c):=pickP (l:=[a,b,c]) (k:=2) (by simp);rw[show decide ((10:Int)=23)=false from rfl,azb,decide_true,azc,t1,aza,p1,p2,show decide ((([a,b,c]:List Arg).length:Int)=2)=false from rfl,azb];rcases truR (fst1 a)with⟨t,f,ok⟩;cases ok with
  | false=>exact⟨rfl,trivial⟩
  | true=>cases t<;>exact⟨rfl,trivial⟩
def noA:Arg:=⟨false,[]⟩
def szq (a:Arg)(l:List Arg):Val:=if badB a=true then vE 15 else if(numR (fst1 a)).2.2=true then
 (if(numR (fst1 a)).1.S=0∧1≤(numR (fst1 a)).1.M∧(numR (fst1 a)).1.M<l.length then sing (l.getD (numR (fst1 a)).1.M.toNat noA)else vE 15)else(numR (fst1 a)).2.1
theorem choose_is {a:Arg}{l:List Arg}(ha:∀v∈a.L,okW v)(_:(a::l).length≤1000)(_:1≤l.length):bzj (25,a::l)=some (szq a (a::l))∧True:=by
 rw[kzB (by decide)];unfold szq;by_cases hb':badB a=true
 ·simp[hb']
 ·have hb:badB a=false:=by simpa using hb'
  simp only[hb,Bool.false_eq_true,if_false];obtain⟨t1,_⟩:=jzq (ha _ (szD hb));simp only[czC,aza];rw[show decide ((25:Int)=23)=false from rfl,show decide ((25:Int)=10)=false from rfl];simp only[azb];rw[t1,aza];generalize numR (fst1 a)=r;obtain⟨⟨M,S⟩,f,ok⟩:=r;cases ok with
  | false=>exact⟨rfl,trivial⟩
  | true =>
   simp only[Bool.not_true,azb,if_true];by_cases c1:S=0
   ·rw[dT0 c1];simp only[Bool.not_true,azb];by_cases c2:M<1
    ·rw[dT0 c2,if_neg (by omega)];exact⟨rfl,trivial⟩
    ·rw[dF0 c2,azb];by_cases c3:((a::l).length:Int)≤M
     ·rw[dT0 c3,if_neg (by omega)];exact⟨rfl,trivial⟩
     ·rw[dF0 c3,azb,if_pos ⟨c1,by omega,by omega⟩];obtain⟨k,rfl⟩:=Int.eq_ofNat_of_zero_le (show 0≤M by omega);have hk:k<(a::l).length:=by omega
      have e:(a::l).getD k noA=(a::l)[k]:=by rw[List.getD_eq_getElem?_getD,List.getElem?_eq_getElem hk];rfl
      rw[pickP hk,Int.toNat_natCast,e];exact⟨rfl,trivial⟩
   ·rw[dF0 c1,if_neg (fun c=>c1 c.1)];exact⟨rfl,trivial⟩
def subR (a b:Dec):Dec×Int:=decV (V a-V b) 9
theorem subR_eq {a b:Dec}(ha:okd a)(hb:okd b):gzd (a,b)=some (subR a b)∧True:=by
 obtain⟨r,h1,h2,_,e⟩:=sub_eq ha hb;subst e;exact⟨h1,h2⟩
def floR (a:Dec):Dec×Int:=(gzc a).getD (⟨0,0⟩,0)
theorem floR_eq {a:Dec}(ha:okd a):gzc a=some (floR a)∧True:=by
 obtain⟨r,h1,h2,_⟩:=AzP ha;unfold floR;rw[h1];exact⟨rfl,h2⟩
def recV (k:Int)(x y:Dec):Val :=
 if k=5 then(if V x<0 then numV (subR ⟨0,0⟩ x)else vN x)
 else if k=6 then vN ⟨cmpV (V x) 0,0⟩
 else if k=7 then numV (floR x)
 else if k=8 then numV (modV x y)
 else if y.S=0 then numV (szI x y.M)else vE 36
def recL (k:Int)(vs:List Val):Val:=match azy redS .inl [] vs with
 | .inl [x]=>recV k x ⟨0,0⟩
 | .inl (x::y::_)=>recV k x y
 | .inl []=>v0
 | .inr f=>f
theorem yzL:∀{vs:List Val} {s ds:List Dec},(∀v∈vs,okW v)→(∀d∈s,okd d)→azy redS (.inl:List Dec→List Dec⊕Val) s vs = .inl ds→(∀d∈ds,okd d)∧ds.length=s.length+vs.length
 | [],s,ds,_,hs,e=>by simp only[azy]at e;cases e;exact⟨hs,rfl⟩
 | v::vs,s,ds,hv,hs,e=>by
  simp only[azy]at e;cases hr:redS s v with
  | inr y =>
   rw[hr]at e;unfold redS at hr;revert hr;cases(numR v).2.2<;>intro hr<;>cases hr;cases e
  | inl s' =>
   rw[hr]at e;have e2:s'=s++[(numR v).1]:=by
    unfold redS at hr;revert hr;cases(numR v).2.2<;>intro hr<;>cases hr;rfl
   subst e2;obtain⟨h1,h2⟩:=yzL (vs:=vs) (fun w hw=>hv w (by simp[hw])) (fun d hd=>by
    rcases List.mem_append.1 hd with hd|hd
    ·exact hs d hd
    ·simp only[List.mem_singleton]at hd;subst hd;exact mzy (hv v (by simp))) e
   refine⟨h1,?_⟩;simp only[List.length_append,List.length_cons,List.length_nil]at h2 ⊢;omega
theorem V00:V ⟨0,0⟩=0:=by unfold V;simp
theorem cmp_lt (x:Int):decide (cmpV x 0<0)=decide (x<0):=Azw x 0
theorem reck_is {k:Int}{vs:List Val}(hk:k=5∨k=6∨k=7∨k=8∨k=9)(hv:∀v∈vs,okW v)(hl:if k≤7 then vs.length=1 else vs.length=2):bzp (k,vs)=some (recL k vs):=by
 have hl2:vs.length≤2:=by split at hl<;>omega
 unfold bzp recL;simp only[czC,aza];rw[show(⟨0,⟨0,0⟩,[],false,0⟩:Val)=v0 from rfl,reck_l1 hv (by omega),aza];cases e:azy redS .inl [] vs with
 | inr f=>rfl
 | inl ds =>
  obtain⟨ho,hd⟩:=yzL hv (by simp) e;rw[List.length_nil,Nat.zero_add]at hd;simp only[redG,osum]
  match ds,ho,hd with
  | [],_,hd=>simp only[List.length_nil]at hd;split at hl<;>omega
  | [x],ho,hd =>
   have ox:=ho x (by simp);simp only[List.length_singleton]at hd;have hk7:k≤7:=by
    by_cases h:k≤7
    ·exact h
    ·rw[if_neg h]at hl;omega
   rw[idxZ,aza,show bzr 0=some ⟨0,0⟩ from rfl,aza,(vz3 ox okd0).1,aza,V00];simp only[aza];unfold recV;rcases(show k=5∨k=6∨k=7 by omega)with rfl|rfl|rfl
   ·rw[show decide ((5:Int)=5)=true from rfl,azc,if_pos rfl,cmp_lt];by_cases hm:V x<0
    ·rw[dT0 hm,azc,(subR_eq okd0 ox).1,aza,bz8,aza,if_pos hm]
    ·rw[dF0 hm,azb,bz8,aza,if_neg hm];rfl
   ·rw[show decide ((6:Int)=5)=false from rfl,azb,show decide ((6:Int)=6)=true from rfl,azc,if_neg (by decide),if_pos rfl,int_is,aza]
   ·rw[show decide ((7:Int)=5)=false from rfl,azb,show decide ((7:Int)=6)=false from rfl,azb,show decide ((7:Int)=7)=true from rfl,azc,if_neg (by decide),if_neg (by decide),if_pos rfl,(floR_eq ox).1,aza,bz8,aza]
  | x::y::r,ho,hd =>
   have ox:=ho x (by simp);have oy:=ho y (by simp);simp only[List.length_cons]at hd;have hk8:¬k≤7:=by
    intro h;rw[if_pos h]at hl;omega
   have i1:idx (x::y::r) 1=some y:=idxG (l:=x::y::r) (i:=1) (by simp);rw[idxZ,aza,show bzr 0=some ⟨0,0⟩ from rfl,aza,(vz3 ox okd0).1,aza,i1]
   show _=some (recV k x y)
   unfold recV;rcases(show k=8∨k=9 by omega)with rfl|rfl
   ·rw[show decide ((8:Int)=5)=false from rfl,azb,show decide ((8:Int)=6)=false from rfl,azb,show decide ((8:Int)=7)=false from rfl,azb,show decide ((8:Int)=8)=true from rfl,azc,if_neg (by decide),if_neg (by decide),if_neg (by decide),if_pos rfl,aza,aza,rest_is4 ox oy,aza]
   ·rw[show decide ((9:Int)=5)=false from rfl,azb,show decide ((9:Int)=6)=false from rfl,azb,show decide ((9:Int)=7)=false from rfl,azb,show decide ((9:Int)=8)=false from rfl,azb,if_neg (by decide),if_neg (by decide),if_neg (by decide),if_neg (by decide),aza];by_cases hs:y.S=0
    ·rw[dT0 hs,Bool.not_true,azb,if_pos hs,aza,aza,nz0 ox.2 ox.1,aza,bz8,aza]
    ·rw[dF0 hs,if_neg hs];rfl
def arN (k:Int):Nat:=if k≤7 then 1 else 2
def askV (k:Int)(v:Val):Val:=if k=13 then(if(truR v).2.2=true then vT (!(truR v).1)else(truR v).2.1)else if k=21 then vT (decide (v.Kind=0))else if k=22 then vT (decide (v.Kind=4))else vN ⟨typeN v.Kind,0⟩
def lzD (up:Bool)(c:UInt8):UInt8:=if up then(if 97≤c.toNat∧c.toNat≤122 then UInt8.ofNat (c.toNat-32)else c)else(if 65≤c.toNat∧c.toNat≤90 then UInt8.ofNat (c.toNat+32)else c)
theorem enc_case {r:Int}{up:Bool}(h:bz3 r):(Lib.encodeRune r).map (lzD up)=Lib.encodeRune (czQ up r):=by
 have hc:=pzu (up:=up) h;obtain⟨n,rfl⟩:=Int.eq_ofNat_of_zero_le h.1;have big:∀m:Nat,128≤m%256→lzD up (UInt8.ofNat m)=UInt8.ofNat m:=fun m hm=>by
  have e:(UInt8.ofNat m).toNat=m%256:=rfl;unfold lzD;rw[e];split
  ·rw[if_neg (by omega)]
  ·rw[if_neg (by omega)]
 by_cases h1:n<128
 ·have e:(UInt8.ofNat n).toNat=n:=by
   show n%256=n
   omega
  rw[encZ n h,if_pos h1];unfold czQ at hc ⊢;cases up with
  | true =>
   simp only[if_true]at hc ⊢;by_cases c:97≤n∧n≤122
   ·rw[if_pos (show 97≤(n:Int)∧(n:Int)≤122 by omega)]at hc ⊢;rw[show(n:Int)-32=((n-32:Nat):Int) by omega]at hc ⊢;rw[encZ _ hc,if_pos (by omega)];simp only[List.map_cons,List.map_nil,lzD,if_true];rw[e,if_pos c]
   ·rw[if_neg (show ¬(97≤(n:Int)∧(n:Int)≤122) by omega)]at hc ⊢;rw[encZ _ hc,if_pos h1];simp only[List.map_cons,List.map_nil,lzD,if_true];rw[e,if_neg c]
  | false =>
   simp only[Bool.false_eq_true,if_false]at hc ⊢;by_cases c:65≤n∧n≤90
   ·rw[if_pos (show 65≤(n:Int)∧(n:Int)≤90 by omega)]at hc ⊢;rw[show(n:Int)+32=((n+32:Nat):Int) by omega]at hc ⊢;rw[encZ _ hc,if_pos (by omega)];simp only[List.map_cons,List.map_nil,lzD,Bool.false_eq_true,if_false];rw[e,if_pos c]
   ·rw[if_neg (show ¬(65≤(n:Int)∧(n:Int)≤90) by omega)]at hc ⊢;rw[encZ _ hc,if_pos h1];simp only[List.map_cons,List.map_nil,lzD,Bool.false_eq_true,if_false];rw[e,if_neg c]
 ·have hcr:czQ up (n:Int)=(n:Int):=by
   unfold czQ;split
   ·rw[if_neg (by omega)]
   ·rw[if_neg (by omega)]
  have h':=h;unfold bz3 at h';rw[hcr,encZ n h,if_neg h1];split
  ·simp only[List.map_cons,List.map_nil];rw[big _ (by omega),big _ (by omega)]
  ·split
   ·simp only[List.map_cons,List.map_nil];rw[big _ (by omega),big _ (by omega),big _ (by omega)]
   ·simp only[List.map_cons,List.map_nil];rw[big _ (by omega),big _ (by omega),big _ (by omega),big _ (by omega)]
theorem CzY {s:List UInt8}{up:Bool}(hv:validD s=true):s.map (lzD up)=encs ((rs s).map (czQ up)):=by
 have h1:=szu s.length s (Nat.le_refl _) hv;have h2:=vzN s.length s (Nat.le_refl _);have key:∀l:List Int,(∀r∈l,bz3 r)→(encs l).map (lzD up)=encs (l.map (czQ up)):=by
  intro l;induction l with
  | nil=>intro _;rfl
  | cons r l ih =>
   intro h;have ih:=ih (fun x hx=>h x (by simp[hx]));unfold encs at ih ⊢;rw[List.map_cons,List.flatMap_cons,List.flatMap_cons,List.map_append,enc_case (h r (by simp)),ih]
 have:=key _ h2;rw[h1]at this;exact this
def okU (v:Val):Prop:=okW v∧(v.Kind≠4→(bzx (texR v)).2=0)
theorem tzH {l:List UInt8}(h:∀c∈l,c.toNat<128)(hl:l.length≤400):(bzx l).2=0:=by
 rw[units_ok (uzi h)];have h1:=ulen_le (rs l);have h2:=nzM l;omega
theorem okU_of {v:Val}(hl:v.S.length≤3000)(hm:I64 v.N.M)(h:jzH v=some 0):okU v:=by
 have hw:=okW_of hl hm h;refine⟨hw,fun h4=>?_⟩;rcases hw.1 with rfl|⟨d,rfl,hd⟩|⟨s,rfl,hs⟩|⟨t,rfl⟩|⟨e,rfl⟩
 ·rfl
 ·obtain⟨M,S⟩:=d;have hm':I64 M:=hm;obtain⟨s,rfl⟩:=Int.eq_ofNat_of_zero_le hd.1;have hs:s≤9:=by have:=hd.2.1;simp only at this;omega
  have e:texR (vN ⟨M,(s:Int)⟩)=gzb M s:=by
   unfold texR cz8 vN;simp[lzF hm' hs]
  have:=nz1 hm' hs;rw[e];exact tzH this.2 (by omega)
 ·have hl':s.length≤3000:=hl;have hun:=lz2 (x:=s) (by omega);unfold jzH izI vS at h;simp[hun]at h;exact h
 ·cases t<;>decide +kernel
 ·exact absurd rfl h4
def reptV (s:List UInt8)(n:Int):Val:=if(bzx s).1=0 then dzB []else if Int.tdiv 1000 (bzx s).1<n then vE 15 else dzB (Lib.repeatL s n.toNat)
def dzj (k:Int)(v:Val)(vs:List Val):Val :=
 if v.Kind=4 then v else
  if k=14 then vN ⟨(bzx (texR v)).1,0⟩
  else if k=19∨k=20 then dzB (encs ((rs (texR v)).map (czQ (decide (k=19)))))
  else if k=26 then(if(vs.headD v0).Kind=4 then vs.headD v0 else vT (decide (texR v=texR (vs.headD v0))))
  else if k=27 then(match ezQ k vs with | .inl ns=>reptV (texR v) (ns.headD 0) | .inr f=>f)
  else(match ezQ k vs with | .inl ns=>hzl k (texR v) ns | .inr f=>f)
theorem szk {k:Int}{v:Val}{vs:List Val}(h:v.Kind=4):dzj k v vs=v:=if_pos h
theorem wordV_14 {v:Val}{vs:List Val}(h:¬v.Kind=4):dzj 14 v vs=vN ⟨(bzx (texR v)).1,0⟩:=by simp[dzj,h]
theorem wordV_19 {v:Val}{vs:List Val}(h:¬v.Kind=4):dzj 19 v vs=dzB (encs ((rs (texR v)).map (czQ true))):=by simp[dzj,h]
theorem wordV_20 {v:Val}{vs:List Val}(h:¬v.Kind=4):dzj 20 v vs=dzB (encs ((rs (texR v)).map (czQ false))):=by simp[dzj,h]
theorem wordV_26 {v w:Val}(h:¬v.Kind=4):dzj 26 v [w]=if w.Kind=4 then w else vT (decide (texR v=texR w)):=by simp[dzj,h]
theorem wordV_27 {v:Val}{vs:List Val}(h:¬v.Kind=4):dzj 27 v vs=match ezQ 27 vs with | .inl ns=>reptV (texR v) (ns.headD 0) | .inr f=>f:=by simp[dzj,h]
theorem wordV_p {k:Int}{v:Val}{vs:List Val}(hk:k=15∨k=16∨k=17):dzj k v vs=if v.Kind=4 then v else match ezQ k vs with | .inl ns=>hzl k (texR v) ns | .inr f=>f:=by
 unfold dzj;rcases hk with rfl|rfl|rfl<;>simp
theorem BzR (s:List UInt8):0≤(bzx s).1∧(bzx s).1≤1000:=by
 unfold bzx;split
 ·split
  ·simp
  ·simp only;omega
 ·simp
theorem Azu {s:List UInt8}{up:Bool}(hv:validD s=true):(encs ((rs s).map (czQ up))).length=s.length:=by rw[←CzY hv,List.length_map]
theorem subTail (v:Val)(vs:List Val):sub (v::vs) 1 (((v::vs).length:Nat):Int)=some vs:=by
 have:=subG (D:=v::vs) (i:=1) (k:=(v::vs).length) (by simp) (by simp);rw[List.take_length]at this;simpa using this
theorem rept_len {s:List UInt8}(hl:s.length≤3000){n:Int}(h0:0≤n)(h:n≤1000):(Lib.repeatL s n.toNat).length≤3000000:=by
 rw[Lib.repeatL_length];have:n.toNat*s.length≤1000*3000:=Nat.mul_le_mul (by omega) hl;omega
theorem Dz4 {k:Int}(hk:k=14∨k=19∨k=20){v:Val}(h:okW v):bzM (k,[v])=some (dzj k v []):=by
 unfold bzM;simp only;rw[idxZ,aza,lz1 h,aza];by_cases h4:v.Kind=4
 ·rw[(dzC h).1 h4,szk h4];rfl
 rw[(dzC h).2 h4];simp only[Bool.not_true,azb];obtain⟨tl,tv⟩:=pzf h h4;have hb:czk (k,[v],v0,texR v,k)=some (.inr ((),dzj k v [])):=by
  unfold czk;simp only;rcases hk with rfl|rfl|rfl
  ·rw[wordV_14 h4];simp only[decide_true,azc];rw[lz2 (by omega),aza,int_is,aza]
  ·rw[wordV_19 h4,show decide ((19:Int)=14)=false from rfl,azb];simp only[decide_true,azc];rw[Azv (by omega),aza,kzw (by rw[Azu tv];omega),aza]
  ·rw[wordV_20 h4,show decide ((20:Int)=14)=false from rfl,show decide ((20:Int)=19)=false from rfl,azb,azb];simp only[decide_true,azc];rw[Azv (by omega),aza,kzw (by rw[Azu tv];omega),aza]
 rw[show(⟨0,⟨0,0⟩,[],false,0⟩:Val)=v0 from rfl,hb,aza];rfl
theorem Dz5 {v w:Val}(h:okW v)(hw:okW w):bzM (26,[v,w])=some (dzj 26 v [w]):=by
 unfold bzM;simp only;rw[idxZ,aza,lz1 h,aza];by_cases h4:v.Kind=4
 ·rw[(dzC h).1 h4,szk h4];rfl
 rw[(dzC h).2 h4];simp only[Bool.not_true,azb];have hb:czk (26,[v,w],v0,texR v,26)=some (.inr ((),dzj 26 v [w])):=by
  unfold czk;simp only;rw[wordV_26 h4,show decide ((26:Int)=14)=false from rfl,show decide ((26:Int)=19)=false from rfl,show decide ((26:Int)=20)=false from rfl,azb,azb,azb];simp only[decide_true,azc];rw[show idx [v,w] 1=some w from rfl,aza,lz1 hw,aza];by_cases w4:w.Kind=4
  ·rw[(dzC hw).1 w4,if_pos w4];rfl
  ·rw[(dzC hw).2 w4,if_neg w4];rfl
 rw[show(⟨0,⟨0,0⟩,[],false,0⟩:Val)=v0 from rfl,hb,aza];rfl
theorem CzU {v w:Val}(h:okW v)(hw:okW w):bzM (27,[v,w])=some (dzj 27 v [w]):=by
 unfold bzM;simp only;rw[idxZ,aza,lz1 h,aza];by_cases h4:v.Kind=4
 ·rw[(dzC h).1 h4,szk h4];rfl
 rw[(dzC h).2 h4,wordV_27 h4];simp only[Bool.not_true,azb];obtain⟨tl,tv⟩:=pzf h h4;have hb:czk (27,[v,w],v0,texR v,27)=some (.inl ((),v0)):=rfl;rw[show(⟨0,⟨0,0⟩,[],false,0⟩:Val)=v0 from rfl,hb,aza];simp only[osum];rw[subTail,aza,zzH (by intro x hx;simp only[List.mem_singleton]at hx;subst hx;exact hw) (by simp),aza];cases e:ezQ 27 [w]with
 | inr f=>rfl
 | inl ns =>
  obtain⟨a,b,rfl,a0,a1,_,_,_⟩:=amts_ok (by simp) (by intro x hx;simp only[List.mem_singleton]at hx;subst hx;exact hw) e;rw[show amtG (.inl [a,b]) = .inl ([a,b],v0) from rfl];simp only[List.headD_cons];rw[show decide ((27:Int)=15)=false from rfl,show decide ((27:Int)=16)=false from rfl,show decide ((27:Int)=17)=false from rfl,azb,azb,azb,lz2 (by omega),aza];obtain⟨u0,u1⟩:=BzR (texR v);unfold reptV;by_cases hz:(bzx (texR v)).1=0
  ·rw[dT0 hz,azc,if_pos hz,kzw (by simp),aza]
  ·rw[dF0 hz,azb,if_neg hz,idxZ,aza,azb];have hq:0≤Int.tdiv 1000 (bzx (texR v)).1∧Int.tdiv 1000 (bzx (texR v)).1≤1000:=by
    rw[Int.tdiv_eq_ediv_of_nonneg (by omega)];exact⟨Int.ediv_nonneg (by omega) u0,Int.ediv_le_self _ (by omega)⟩
   rw[azG (by omega) (by omega)];by_cases hc:Int.tdiv 1000 (bzx (texR v)).1<a
   ·rw[dT0 hc,azc,if_pos hc,czC,aza]
   ·rw[dF0 hc,azb,if_neg hc,aza];have hr:bz5 (texR v,a)=some (Lib.repeatL (texR v) a.toNat):=by
     have hm:((texR v).length:Int)*a≤3000*1000:=Int.mul_le_mul (by omega) (by omega) a0 (by omega);unfold bz5;rw[dT0 (show(0:Int)≤(texR v,a).2 from a0),dT0 (show(((texR v,a).1.length:Int))*(texR v,a).2≤140737488355328 by simp only;omega)];rfl
    have:=rept_len tl a0 (show a≤1000 by omega);rw[hr,aza,kzw (by omega),aza]


def arOk (k:Int)(l:List Arg):Bool:=if k=17 then decide (l.length=3)else if k=15∨k=16 then(decide (1≤l.length)&&decide (l.length≤2))else if 26≤k then decide (l.length=2)else decide (l.length=1)
def vz0 (k:Int)(l:List Arg):Val:=if(arOk k l&&!l.any badB)=true then dzj k ((l.map fst1).headD v0) (l.map fst1).tail else vE 15

variable (op:Int) (l:List Arg) (v:Val) (k:Int)
end Go.Proofs.YtdgpkbnnljblmaaGreatDoor
/- QA -/
namespace Go.Proofs.YtdgpkbnnljblmaaGreatDoor
open Go Go.Ev Go.Lib
theorem az6 (e:Int):okU (vE e):=⟨⟨.inr (.inr (.inr (.inr ⟨e,rfl⟩))),by simp[vE],I0⟩,fun h=>absurd rfl h⟩
theorem ez4:okU v0:=⟨⟨.inl rfl,by simp[v0],I0⟩,fun _=>rfl⟩
theorem pzX (b:Bool):okU (vT b):=⟨⟨.inr (.inr (.inr (.inl ⟨b,rfl⟩))),by simp[vT],I0⟩,fun _=>by cases b<;>decide +kernel⟩
theorem nzy {d:Dec}(h:okd d):okU (vN d):=by
 refine⟨okW_N h,fun _=>?_⟩;obtain⟨M,S⟩:=d;have hm':I64 M:=h.2;obtain⟨s,rfl⟩:=Int.eq_ofNat_of_zero_le h.1.1;have hs:s≤9:=by have:=h.1.2.1;simp only at this;omega
 have e:texR (vN ⟨M,(s:Int)⟩)=gzb M s:=by
  unfold texR cz8 vN;simp[lzF hm' hs]
 have:=nz1 hm' hs;rw[e];exact tzH this.2 (by omega)
theorem fzw {r:Dec×Int}(h:okR r):okU (numV r):=by
 unfold numV;by_cases c:r.2=0
 ·rw[if_pos c];exact nzy (h.1 c)
 ·rw[if_neg c];split<;>exact az6 _
theorem okU_I {n:Int}(h:I64 n):okU (vN ⟨n,0⟩):=nzy (okdI h)
theorem encU_len {r:Int}(h:bz3 r):(Lib.encodeRune r).length≤3*(if r<65536 then 1 else 2):=by
 obtain⟨n,rfl⟩:=Int.eq_ofNat_of_zero_le (show 0≤r by unfold bz3 at h;omega);rw[encZ n h];split
 ·simp only[List.length_singleton];split<;>omega
 split
 ·simp only[List.length_cons,List.length_nil];split<;>omega
 split
 ·simp only[List.length_cons,List.length_nil];split<;>omega
 ·rw[if_neg (by omega)];simp only[List.length_cons,List.length_nil];omega
theorem yz9:∀{l:List Int},(∀r∈l,bz3 r)→(encs l).length≤3*ulen l
 | [],_=>by simp[encs]
 | r::l,h=>by
  have ih:=yz9 (l:=l) (fun x hx=>h x (by simp[hx]));have h1:=encU_len (h r (by simp));unfold encs at ih ⊢;rw[List.flatMap_cons,List.length_append];unfold ulen;omega
theorem okU_S {x:List UInt8}(h:(bzx x).2=0):okU (vS x):=by
 have hv:validD x=true:=by
  cases e:validD x with
  | true=>rfl
  | false=>unfold bzx at h;rw[e]at h;simp at h
 have hu:ulen (rs x)≤1000:=by
  unfold bzx at h;rw[if_pos hv]at h;split at h
  ·simp at h
  ·omega
 have hl:x.length≤3000:=by
  have h1:=yz9 (vzN x.length x (Nat.le_refl _));have h2:=szu x.length x (Nat.le_refl _) hv;rw[h2]at h1;omega
 exact⟨⟨.inr (.inr (.inl ⟨x,rfl,hv⟩)),hl,I0⟩,fun _=>h⟩
theorem mzA (x:List UInt8):okU (dzB x):=by
 unfold dzB;by_cases h:(bzx x).2=0
 ·rw[if_pos h];exact okU_S h
 ·rw[if_neg h];exact az6 _
theorem gzm {v:Val}(h:okU v):okU (numR v).2.1:=by
 have hw:=h.1;obtain⟨hv,hl,hm⟩:=hw;rcases hv with rfl|⟨d,rfl,hd⟩|⟨s,rfl,hs⟩|⟨t,rfl⟩|⟨e,rfl⟩
 ·exact ez4
 ·exact ez4
 ·have hl:s.length≤3000:=hl;unfold numR az4 vS azn;simp[vzj (x:=s) (by omega)];by_cases h:(fz7 s).2=0<;>simp[h]
  ·exact ez4
  ·exact az6 15
 ·cases t<;>exact ez4
 ·exact az6 e
theorem vzR {v:Val}(h:okU v):okU (truR v).2.1:=by
 have hw:=h.1;obtain⟨hv,hl,hm⟩:=hw;rcases hv with rfl|⟨d,rfl,hd⟩|⟨s,rfl,hs⟩|⟨t,rfl⟩|⟨e,rfl⟩
 ·exact ez4
 ·exact ez4
 ·unfold truR bzV vS azn;by_cases h1:s=[84,82,85,69]
  ·simp[h1];exact ez4
  ·by_cases h2:s=U8s [70,65,76,83,69]
   ·simp[h2];exact ez4
   ·simp[h1,h2];exact az6 15
 ·exact ez4
 ·exact az6 e
theorem worR_bad {v:Val}(h:okU v):okU (worR v).2.1:=by
 by_cases h4:v.Kind=4
 ·rw[(dzC h.1).1 h4];exact h
 ·rw[(dzC h.1).2 h4];exact ez4
theorem amt_bad {v:Val}{lo:Int}{f:Val}(h:okU v)(e:amt v lo = .inr f):okU f:=by
 unfold amt at e;by_cases c:(numR v).2.2=true
 ·rw[if_pos c]at e;split at e
  ·cases e
  ·cases e;exact az6 15
 ·rw[if_neg c]at e;cases e;exact gzm h
theorem Azl {k:Int}{vs:List Val}{f:Val}(h:∀v∈vs,okU v)(e:ezQ k vs = .inr f):okU f:=by
 have:∀(vs:List Val) (s:List Int×Nat),(∀v∈vs,okU v)→azy (amtS k) (fun x=>(.inl x.1:List Int⊕Val)) s vs = .inr f→okU f:=by
  intro vs;induction vs with
  | nil=>intro s _ e;simp only[azy]at e;cases e
  | cons v vs ih =>
   intro s hv e;simp only[azy]at e;cases c:amt v (izk k s.2)with
   | inl m=>unfold amtS at e;rw[c]at e;exact ih _ (fun w hw=>hv w (by simp[hw])) e
   | inr g=>unfold amtS at e;rw[c]at e;cases e;exact amt_bad (hv v (by simp)) c
 exact this vs _ h e
theorem okA_of {l:List Arg}(h:∀a∈l,∀v∈a.L,okU v):∀v∈l.map fst1,okU v:=by
 intro v hv;obtain⟨a,ha,rfl⟩:=List.mem_map.1 hv;unfold fst1;cases e:a.L with
 | nil=>exact ez4
 | cons x xs=>exact h a ha x (by rw[e];simp)
theorem kzj {a:Arg}(h:∀v∈a.L,okU v):okU (fst1 a):=okA_of (l:=[a]) (fun b hb v hv=>by rw[List.mem_singleton.1 hb]at hv;exact h v hv) _ (by simp)
theorem Bzk {area:Bool}{f:Val}:∀{l:List Val} {acc:List Dec},(∀v∈l,okU v)→numL area acc l = .inr f→okU f
 | [],_,_,e=>by simp only[numL,azy]at e;cases e
 | v::l,acc,h,e=>by
  simp only[numL,azy]at e;cases c:dz2 area acc v with
  | inl acc'=>rw[c]at e;exact Bzk (l:=l) (fun w hw=>h w (by simp[hw])) e
  | inr y =>
   rw[c]at e;unfold dz2 at c;cases hs:pz7 area v with
   | true=>rw[hs,cond_true]at c;cases c
   | false =>
    rw[hs,cond_false]at c;cases hn:(numR v).2.2 with
    | true=>rw[hn,cond_true]at c;cases c
    | false=>rw[hn,cond_false]at c;cases c;cases e;exact gzm (h v (by simp))
theorem Bzj {f:Val}:∀{l:List Arg} {acc:List Dec},(∀a∈l,∀v∈a.L,okU v)→numA acc l = .inr f→okU f
 | [],_,_,e=>by simp only[numA,azy]at e;cases e
 | a::l,acc,h,e=>by
  simp only[numA,azy]at e;cases c:numL a.Area acc a.L with
  | inl acc'=>rw[c]at e;exact Bzj (l:=l) (fun b hb=>h b (by simp[hb])) e
  | inr y=>rw[c]at e;cases e;exact Bzk (h a (by simp)) c
theorem zzD {area:Bool}{f:Val}:∀{l:List Val} {acc:List Bool},(∀v∈l,okU v)→truL area acc l = .inr f→okU f
 | [],_,_,e=>by simp only[truL,azy]at e;cases e
 | v::l,acc,h,e=>by
  simp only[truL,azy]at e;cases c:truS area acc v with
  | inl acc'=>rw[c]at e;exact zzD (l:=l) (fun w hw=>h w (by simp[hw])) e
  | inr y =>
   rw[c]at e;unfold truS at c;cases hs:szL area v with
   | true=>rw[hs,cond_true]at c;cases c
   | false =>
    rw[hs,cond_false]at c;cases hn:(truR v).2.2 with
    | true=>rw[hn,cond_true]at c;cases c
    | false=>rw[hn,cond_false]at c;cases c;cases e;exact vzR (h v (by simp))
theorem zzC {f:Val}:∀{l:List Arg} {acc:List Bool},(∀a∈l,∀v∈a.L,okU v)→truA acc l = .inr f→okU f
 | [],_,_,e=>by simp only[truA,azy]at e;cases e
 | a::l,acc,h,e=>by
  simp only[truA,azy]at e;cases c:truL a.Area acc a.L with
  | inl acc'=>rw[c]at e;exact zzC (l:=l) (fun b hb=>h b (by simp[hb])) e
  | inr y=>rw[c]at e;cases e;exact zzD (h a (by simp)) c
theorem Azz {f:List UInt8×Val}:∀{l:List Val} {s:List UInt8},(∀v∈l,okU v)→conL s l = .inr f→okU f.2
 | [],_,_,e=>by simp only[conL,azy]at e;cases e
 | v::l,s,h,e=>by
  simp only[conL,azy]at e;cases hn:(worR v).2.2 with
  | true=>rw[show conS s v = .inl (s++(worR v).1) by unfold conS;rw[hn];rfl]at e;exact Azz (l:=l) (fun w hw=>h w (by simp[hw])) e
  | false=>rw[show conS s v = .inr (.inr (s,(worR v).2.1)) by unfold conS;rw[hn];rfl]at e;cases e;exact worR_bad (h v (by simp))
theorem Azx {f:List UInt8×Val}:∀{l:List Arg} {s:List UInt8},(∀a∈l,∀v∈a.L,okU v)→conA s l = .inr f→okU f.2
 | [],_,_,e=>by simp only[conA,azy]at e;cases e
 | a::l,s,h,e=>by
  simp only[conA,azy]at e;cases c:conL s a.L with
  | inl acc'=>rw[c]at e;exact Azx (l:=l) (fun b hb=>h b (by simp[hb])) e
  | inr y=>rw[c]at e;cases e;exact Azz (h a (by simp)) c
theorem uzJ {f:Dec→Dec→Dec}(hf:∀{x y},okd x→okd y→okd (f x y)):∀{l:List Dec} {x:Dec},okd x→(∀d∈l,okd d)→okd (l.foldl f x)
 | [],_,h,_=>h
 | y::l,x,h,hl=>uzJ hf (l:=l) (hf h (hl y (by simp))) (fun d hd=>hl d (by simp[hd]))
theorem divR_ok {a b:Dec}(ha:okd a)(hb:okd b):okR (divR a b):=by
 obtain⟨r,h1,_,h3⟩:=rzf ha hb;unfold divR;rw[h1];exact h3
theorem foldV_ok {op:Int}{x:List Dec}(h:∀d∈x,okd d)(hl:x.length≤1000000):okU (lzJ op x):=by
 unfold lzJ;split
 ·cases x with
  | nil=>exact nzy okd0
  | cons y ys=>exact nzy (uzJ minD_ok (h y (by simp)) fun d hd=>h d (by simp[hd]))
 split
 ·cases x with
  | nil=>exact nzy okd0
  | cons y ys=>exact nzy (uzJ maxD_ok (h y (by simp)) fun d hd=>h d (by simp[hd]))
 have hs:=yzS (l:=x) okd0;by_cases c:(sumD ⟨0,0⟩ x).2=0
 ·rw[if_pos c];split
  ·exact nzy (hs.1 c)
  ·exact fzw (divR_ok (hs.1 c) (okdI (by unfold I64;omega)))
 ·rw[if_neg c];exact fzw hs
theorem foldA_ok {op:Int}{l:List Arg}(h:okA l)(hu:∀a∈l,∀v∈a.L,okU v)(hc:I64 (cntA 0 l)):okU (foldA op l):=by
 unfold foldA;split
 ·exact okU_I hc
 ·cases e:numA [] l with
  | inl x =>
   have h1:=vzh (fun a ha=>(h.2 a ha).1) e;have h40:=h.1;exact foldV_ok (yzI (fun a ha v hv=>(hu a ha v hv).1) (by simp) e) (by simp only[List.length_nil]at h1;omega)
  | inr v=>exact Bzj hu e
theorem truV_ok {op:Int}{l:List Arg}(hu:∀a∈l,∀v∈a.L,okU v):okU (truV op l):=by
 unfold truV;cases e:truA [] l with
 | inl s=>simp only;split;exact az6 _;exact pzX _
 | inr f=>exact zzC hu e
theorem conV_ok {l:List Arg}(hu:∀a∈l,∀v∈a.L,okU v):okU (match conA [] l with | .inl s=>dzB s | .inr y=>y.2):=by
 cases e:conA [] l with
 | inl s=>exact mzA s
 | inr f=>exact Azx hu e
theorem pzY {a:Arg}(h:∀v∈a.L,okU v):okU (sing a):=by
 unfold sing;split
 ·exact az6 _
 ·exact kzj h
theorem cmpV_I (a b:Int):I64 (cmpV a b):=by
 unfold cmpV I64;split
 ·omega
 ·split<;>omega
theorem modV_okR {a b:Dec}(ha:okd a)(hb:okd b):okR (modV a b):=by
 unfold modV;by_cases h0:b.M=0
 ·rw[if_pos h0];exact⟨fun e=>by simp at e,fun _=>rfl⟩
 rw[if_neg h0];simp only;by_cases c:I64 (up a (max a.S.toNat b.S.toNat))∧I64 (up b (max a.S.toNat b.S.toNat))
 ·rw[if_pos c];refine⟨fun _=>⟨Bzl _ _ (by have:=ha.1.2.1;have:=hb.1.2.1;omega),?_⟩,fun e=>absurd rfl e⟩;have h1:=(fm_ok (up a (max a.S.toNat b.S.toNat)) (up_zero (p:=max a.S.toNat b.S.toNat) h0)).1;have h2:=szg (max a.S.toNat b.S.toNat) (fm (up a (max a.S.toNat b.S.toNat)) (up b (max a.S.toNat b.S.toNat)));have h3:=c.2;unfold I64 at h3 ⊢;simp only;omega
 ·rw[if_neg c];exact⟨fun e=>by simp at e,fun _=>rfl⟩
theorem recV_ok {k:Int}{x y:Dec}(hx:okd x)(hy:okd y):okU (recV k x y):=by
 unfold recV;split
 ·split
  ·exact fzw (gza _ (by omega))
  ·exact nzy hx
 split
 ·exact okU_I (cmpV_I _ _)
 split
 ·obtain⟨r,h1,_,h3⟩:=AzP hx;unfold floR;rw[h1];exact fzw h3
 split
 ·exact fzw (modV_okR hx hy)
 split
 ·obtain⟨r,h1,_,h3⟩:=round_eq (t:=y.M) hx;have e:=nz0 (t:=y.M) hx.2 hx.1;rw[h1]at e;cases e;exact fzw h3
 ·exact az6 _
theorem red_bad {f:Val}:∀{vs:List Val} {s:List Dec},(∀v∈vs,okU v)→azy redS (.inl:List Dec→List Dec⊕Val) s vs = .inr f→okU f
 | [],_,_,e=>by simp only[azy]at e;cases e
 | v::l,s,h,e=>by
  simp only[azy]at e;cases hn:(numR v).2.2 with
  | true=>rw[show redS s v = .inl (s++[(numR v).1]) by unfold redS;rw[hn];rfl]at e;exact red_bad (vs:=l) (fun w hw=>h w (by simp[hw])) e
  | false=>rw[show redS s v = .inr (.inr (numR v).2.1) by unfold redS;rw[hn];rfl]at e;cases e;exact gzm (h v (by simp))
theorem recL_ok {k:Int}{vs:List Val}(h:∀v∈vs,okU v):okU (recL k vs):=by
 unfold recL;cases e:azy redS (.inl:List Dec→List Dec⊕Val) [] vs with
 | inr f=>exact red_bad h e
 | inl ds =>
  have hd:=(yzL (fun v hv=>(h v hv).1) (by simp) e).1
  match ds,hd with
  | [],_=>exact ez4
  | [x],hd=>exact recV_ok (hd x (by simp)) okd0
  | x::y::_,hd=>exact recV_ok (hd x (by simp)) (hd y (by simp))
theorem askV_ok {k:Int}{v:Val}(h:okU v):okU (askV k v):=by
 unfold askV;split
 ·split
  ·exact pzX _
  ·exact vzR h
 split
 ·exact pzX _
 split
 ·exact pzX _
 ·refine okU_I ?_;unfold typeN I64
  repeat (split;omega)
  omega
theorem reptV_ok (s:List UInt8)(n:Int):okU (reptV s n):=by
 unfold reptV
 repeat' split
 all_goals first|exact mzA _|exact az6 _
theorem pieceV_ok (k:Int)(s:List UInt8)(ns:List Int):okU (hzl k s ns):=by
 unfold hzl;simp only
 repeat' split
 all_goals exact mzA _
theorem unitsV_I (s:List UInt8):I64 (bzx s).1:=by
 unfold bzx I64;split
 ·split
  ·simp
  ·simp only;omega
 ·simp
theorem wordV_ok {k:Int}{v:Val}{vs:List Val}(h:okU v)(hs:∀w∈vs,okU w):okU (dzj k v vs):=by
 have hh:okU (vs.headD v0):=by
  cases vs with
  | nil=>exact ez4
  | cons w ws=>exact hs w (by simp)
 unfold dzj;split
 ·exact h
 split
 ·exact okU_I (unitsV_I _)
 split
 ·exact mzA _
 split
 ·split
  ·exact hh
  ·exact pzX _
 split
 ·cases e:ezQ k vs with
  | inl ns=>exact reptV_ok _ _
  | inr f=>exact Azl hs e
 ·cases e:ezQ k vs with
  | inl ns=>exact pieceV_ok _ _ _
  | inr f=>exact Azl hs e
theorem yzZ {k:Int}{l:List Arg}(hu:∀a∈l,∀v∈a.L,okU v):okU (vz0 k l):=by
 unfold vz0;have hf:=okA_of hu;split
 ·refine wordV_ok ?_ fun w hw=>hf w (List.mem_of_mem_tail hw)
  cases l with
  | nil=>exact ez4
  | cons a t=>exact hf (fst1 a) (by simp)
 ·exact az6 _
theorem ifV_ok {a b:Arg}{c:Val}(ha:∀v∈a.L,okU v)(hb:∀v∈b.L,okU v)(hc:okU c):okU (ifV a b c):=by
 unfold ifV;split
 ·exact az6 _
 split
 ·split
  ·exact pzY hb
  ·exact hc
 ·exact vzR (kzj ha)
theorem iferrV_ok {a b:Arg}(ha:∀v∈a.L,okU v)(hb:∀v∈b.L,okU v):okU (wzP a b):=by
 unfold wzP;split
 ·exact az6 _
 split
 ·exact pzY hb
 ·exact kzj ha
theorem indexV_ok {a b:Arg}(ha:∀v∈a.L,okU v)(hb:∀v∈b.L,okU v):okU (wzQ a b):=by
 unfold wzQ;split
 ·split
  ·exact az6 _
  split
  ·split
   ·split
    ·rw[List.getD_eq_getElem?_getD];cases e:a.L[((numR (fst1 b)).1.M-1).toNat]? with
     | none=>exact ez4
     | some v=>exact ha v (List.mem_of_getElem? e)
    ·exact az6 _
   ·exact az6 _
  ·exact gzm (kzj hb)
 ·exact az6 _
theorem CzZ {a:Arg}{l:List Arg}(ha:∀v∈a.L,okU v)(hl:∀b∈l,∀v∈b.L,okU v):okU (szq a l):=by
 unfold szq;split
 ·exact az6 _
 split
 ·split
  ·refine pzY ?_;rw[List.getD_eq_getElem?_getD];cases e:l[(numR (fst1 a)).1.M.toNat]? with
   | none=>intro v hv;simp[noA]at hv
   | some b=>exact hl b (List.mem_of_getElem? e)
  ·exact az6 _
 ·exact gzm (kzj ha)
theorem vzk {a:Dec}(ha:okd a):∀{l:List Unit} {s:Dec} {y:(Dec×Int)×Dec},okd s→azy (powS a) (.inl:Dec→Dec⊕((Dec×Int)×Dec)) s l = .inr y→okR y.1
 | [],_,_,_,h=>by simp only[azy]at h;cases h
 | u::l,s,y,hs,h=>by
  simp only[azy]at h;cases hst:powS a s u with
  | inl s'=>rw[hst]at h;exact vzk ha (l:=l) (yzK ha hs hst) h
  | inr z =>
   rw[hst]at h;unfold powS at hst;simp only at hst;by_cases h0:(mulR s a).2=0
   ·rw[dT0 h0,cond_true]at hst;cases hst
   ·rw[dF0 h0,cond_false]at hst;cases hst;cases h;exact(yzG hs ha).2.2
theorem powU_eq {a b:Dec}(ha:okd a):∃v,lzL (a,b)=some v∧okU v:=by
 unfold lzL;simp only[czC,aza];by_cases h0:b.S=0
 ·rw[dT0 h0];simp only[Bool.not_true,azb];by_cases h1:b.M < -64
  ·rw[dT0 h1];exact⟨_,rfl,az6 _⟩
  rw[dF0 h1];simp only[azb];by_cases h2:64<b.M
  ·rw[dT0 h2];exact⟨_,rfl,az6 _⟩
  rw[dF0 h2];simp only[azb];rw[show bzr 1=some ⟨1,0⟩ from rfl,aza,azG (n:=0-b.M) (by omega) (by omega)];have hd:=fold_ok ha (List.replicate b.M.natAbs ()) ⟨1,0⟩;have i1:I64 1:=by unfold I64;omega
  by_cases h3:b.M<0
  ·rw[dT0 (show b.M<0-b.M by omega),dT0 h3];simp only[cond_true,azc];rw[show 0-b.M=((b.M.natAbs:Nat):Int) by omega,pow_l1 _ ha (by omega)];unfold powX;cases hx:azy (powS a) .inl ⟨1,0⟩ (List.replicate b.M.natAbs ())with
   | inl d =>
    obtain⟨r,e1,_,e3⟩:=rzf (okdI i1) (hd d (okdI i1) hx);simp only[aza,osum];rw[e1];simp only[aza];rw[bz8];exact⟨_,rfl,fzw e3⟩
   | inr y=>exact⟨_,rfl,fzw (vzk ha (okdI i1) hx)⟩
  ·rw[dF0 (show ¬b.M<0-b.M by omega),dF0 h3];simp only[cond_false,azb];rw[show b.M=((b.M.natAbs:Nat):Int) by omega,pow_l1 _ ha (by omega)];unfold powX;cases hx:azy (powS a) .inl ⟨1,0⟩ (List.replicate b.M.natAbs ())with
   | inl d =>
    simp only[aza,osum];rw[bz8];exact⟨_,rfl,fzw ⟨fun _=>hd d (okdI i1) hx,fun e=>absurd rfl e⟩⟩
   | inr y=>exact⟨_,rfl,fzw (vzk ha (okdI i1) hx)⟩
 ·rw[dF0 h0];exact⟨_,rfl,az6 _⟩
theorem binU_eq {op:Int}{a b:Val}(ua:okU a)(ub:okU b):∃v,kzI (op,a,b)=some v∧okU v:=by
 unfold kzI jz2;simp only[czC,aza];have ha:=ua.1;have hb:=ub.1;by_cases h1:a.Kind=4
 ·rw[dT0 h1];exact⟨_,rfl,ua⟩
 by_cases h2:b.Kind=4
 ·rw[dF0 h1,dT0 h2];exact⟨_,rfl,ub⟩
 rw[dF0 h1,dF0 h2];by_cases h3:op<1
 ·rw[dT0 h3];exact⟨_,rfl,az6 _⟩
 by_cases h4:12<op
 ·rw[dF0 h3,dT0 h4];exact⟨_,rfl,az6 _⟩
 rw[dF0 h3,dF0 h4];simp only[azb];by_cases h5:op=6
 ·subst h5;obtain⟨x1,_⟩:=tex_eq ha;obtain⟨y1,_⟩:=tex_eq hb;have l1:=(pzf ha h1).1;have l2:=(pzf hb h2).1;rw[x1,y1];simp only[aza];rw[catS (by omega)];simp only[aza];rw[kzw (by rw[List.length_append];omega)];exact⟨_,rfl,mzA _⟩
 rw[dF0 h5,azb];by_cases h6:6<op
 ·obtain⟨r,e1,_⟩:=Cz0 ha.1 hb.1 ha.2.1 hb.2.1 ha.2.2 hb.2.2;rw[dT0 h6,azc,e1];simp only[aza];rcases(show op=7∨op=8∨op=9∨op=10∨op=11∨op=12 by omega)with rfl|rfl|rfl|rfl|rfl|rfl<;>exact⟨_,rfl,pzX _⟩
 rw[dF0 h6,azb];simp only[osum,aza];obtain⟨x1,_⟩:=jzq ha;obtain⟨y1,_⟩:=jzq hb;have o1:=mzy ha;have o2:=mzy hb;rw[x1,y1];simp only[aza];cases(numR a).2.2 with
 | false=>exact⟨_,rfl,gzm ua⟩
 | true =>
  cases(numR b).2.2 with
  | false=>exact⟨_,rfl,gzm ub⟩
  | true =>
   simp only[Bool.not_true,azb];rcases(show op=1∨op=2∨op=3∨op=4∨op=5 by omega)with rfl|rfl|rfl|rfl|rfl
   ·obtain⟨r,e1,_,e3⟩:=add_eq o1 o2;rw[e1];simp only[aza];rw[bz8];exact⟨_,rfl,fzw e3.1⟩
   ·obtain⟨r,e1,_,e3⟩:=sub_eq o1 o2;rw[e1];simp only[aza];rw[bz8];exact⟨_,rfl,fzw e3.1⟩
   ·obtain⟨r,e1,_,e3⟩:=mul_eq o1 o2;rw[e1];simp only[aza];rw[bz8];exact⟨_,rfl,fzw e3⟩
   ·obtain⟨r,e1,_,e3⟩:=rzf o1 o2;rw[e1];simp only[aza];rw[bz8];exact⟨_,rfl,fzw e3⟩
   ·obtain⟨r,e1,e3⟩:=powU_eq (b:=(numR b).1) o1;rw[e1];exact⟨_,rfl,e3⟩
theorem unU_eq {op:Int}{a:Val}(ua:okU a):∃v,lzK (op,a)=some v∧okU v:=by
 unfold lzK;simp only[czC,aza];have ha:=ua.1;by_cases h1:op=2
 ·rw[dT0 h1];exact⟨_,rfl,ua⟩
 rw[dF0 h1,azb];obtain⟨x1,_⟩:=jzq ha;have o1:=mzy ha;rw[x1];simp only[aza];by_cases h2:op=1
 ·subst h2;simp only[decide_true,Bool.not_true,azb,azc];cases(numR a).2.2 with
  | false=>exact⟨_,rfl,gzm ua⟩
  | true =>
   obtain⟨r,e1,_,e3⟩:=sub_eq okd0 o1;rw[show bzr 0=some ⟨0,0⟩ from rfl];simp only[aza];rw[e1];simp only[aza];rw[bz8];exact⟨_,rfl,fzw e3.1⟩
 rw[dF0 h2];simp only[Bool.not_false,azc];by_cases h3:op=3
 ·subst h3;simp only[decide_true,Bool.not_true,azb];cases(numR a).2.2 with
  | false=>exact⟨_,rfl,gzm ua⟩
  | true =>
   obtain⟨r,e1,_,e3⟩:=rzf o1 (okdI (show I64 100 by unfold I64;omega));rw[show bzr 100=some ⟨100,0⟩ from rfl];simp only[Bool.not_true,azb,aza];rw[e1];simp only[aza];rw[bz8];exact⟨_,rfl,fzw e3⟩
 rw[dF0 h3];exact⟨_,rfl,az6 _⟩
end Go.Proofs.YtdgpkbnnljblmaaGreatDoor
/- E1 -/
namespace Go.Proofs.YtdgpkbnnljblmaaGreatDoor
open Go Go.Ev
set_option linter.unusedVariables false
noncomputable section
def pzO (x:Int×Int×Int):Option (Place) :=
 some {Sheet:=x.fst,At:={Row:=x.2.fst,Col:=x.2.snd}}
def Bzd:FSpec tb:=⟨[(0,.val 3),(1,.val 3),(2,.val 3)],[(0,.val 88)],pzO⟩
theorem qzF:azd Tryz.prog tb 51 Bzd:=azo mixed Tryz.func51 (by kernel_rfl) .nil rfl (fun x=>by kernel_rfl)
def fzB (back:Int×List Int×Int×Int→Option ((Unit)⊕(Int)))(x:Int×List Int×Int×Int):Option ((Unit)⊕(Int)) :=
 brn (decide (x.2.2.snd<x.2.2.fst))
  (obnd (idx x.2.fst x.2.2.snd) fun y=>brn (!decide (y=x.fst)) (some (Sum.inr y)) (back (x.fst,x.2.fst,x.2.2.fst,IntKind.i64.wrap (x.2.2.snd+1))))
  (some (Sum.inl PUnit.unit))
def jzY:Int×List Int×Int×Int→Option ((Unit)⊕(Int)):=iter fzB big
def ozr:CutSpec tb:=⟨36,[(3,.val 3),(6,.val 53),(7,.val 3),(8,.val 3)],[((.exit 0),[]),(.ret,[(2,.val 3)])],[9,10,11,5,12,13,14,15,2,16,8],jzY⟩
theorem uzp:azi ([]:List (CutSpec tb)) (azf 36 Tryz.f268)=[]:=by kernel_rfl
theorem szO:azm Tryz.prog tb Tryz.f268.ntmps (.loop (azf 36 Tryz.f268)) (ozr):=azz mixed (by kernel_rfl) .nil rfl uzp .nil fzB (fun back x=>by kernel_rfl) rfl
def kzC (x:List Int):Option (Int) :=
 obnd (jzY (0,x,(↑x.length:Int),0)) fun y=>osum y (fun y=>some 0) fun y=>some y
def Bz7:FSpec tb:=⟨[(0,.val 53)],[(0,.val 3)],kzC⟩
theorem zzN:azi ([ozr]:List (CutSpec tb)) (azA Tryz.f268)=[(36,.loop (azf 36 Tryz.f268))]:=by kernel_rfl
theorem uzq:azd Tryz.prog tb 268 Bz7:=azL mixed Tryz.func268 (by kernel_rfl) .nil rfl zzN (.cons rfl szO rfl .nil) (fun x=>by kernel_rfl)
def pzB (x:Place×Place):Option (Int) :=
 obnd (azV (x.fst.Sheet,x.snd.Sheet)) fun y =>
  obnd (azV (x.fst.At.Row,x.snd.At.Row)) fun y_1=>obnd (azV (x.fst.At.Col,x.snd.At.Col)) fun y_2=>obnd (kzC [y,y_1,y_2]) fun y=>some y
def Dzb:FSpec tb:=⟨[(0,.val 88),(1,.val 88)],[(0,.val 3)],pzB⟩
theorem wzm:azd Tryz.prog tb 249 Dzb:=azo mixed Tryz.func249 (by kernel_rfl) (.cons dzy (.cons uzq .nil)) rfl (fun x=>by kernel_rfl)
def kzX (x:Place×Place):Option (Bool) :=
 obnd (pzB x) fun y=>some (decide (y<0))
def zza:FSpec tb:=⟨[(0,.val 88),(1,.val 88)],[(0,.val 4)],kzX⟩
theorem xz8:azd Tryz.prog tb 212 zza:=azo mixed Tryz.func212 (by kernel_rfl) (.cons wzm .nil) rfl (fun x=>by kernel_rfl)
abbrev env_findG:List (Nat×FSpec tb):=[(212,zza)]
theorem mzc:azv Tryz.prog tb (env_findG):=(.cons xz8 .nil)
def czH (back:List Slot×Place×Int×Int→Option (Int×Bool))(x:List Slot×Place×Int×Int):Option (Int×Bool) :=
 brn (decide (x.2.2.fst=x.2.2.snd))
  (brn (decide (x.2.2.fst<(↑x.fst.length:Int)))
   (obnd (idx x.fst x.2.2.fst) fun y =>
    some
     (x.2.2.fst,
      bif false then !(decide (y.P.Sheet=x.2.fst.Sheet)&&(decide (y.P.At.Row=x.2.fst.At.Row)&&decide (y.P.At.Col=x.2.fst.At.Col)))
      else decide (y.P.Sheet=x.2.fst.Sheet)&&(decide (y.P.At.Row=x.2.fst.At.Row)&&decide (y.P.At.Col=x.2.fst.At.Col))))
   (some (x.2.2.fst,false)))
  (obnd (idx x.fst (IntKind.i64.wrap ((IntKind.i64.wrap (x.2.2.fst+x.2.2.snd)).tdiv 2))) fun y =>
   obnd (kzX (y.P,x.2.fst)) fun y =>
    brn y (obnd (back (x.fst,x.2.fst,IntKind.i64.wrap (IntKind.i64.wrap ((IntKind.i64.wrap (x.2.2.fst+x.2.2.snd)).tdiv 2)+1),x.2.2.snd)) fun y=>some y)
     (obnd (back (x.fst,x.2.fst,x.2.2.fst,IntKind.i64.wrap ((IntKind.i64.wrap (x.2.2.fst+x.2.2.snd)).tdiv 2))) fun y=>some y))
def czI:List Slot×Place×Int×Int→Option (Int×Bool):=iter czH big
def xz9:CutSpec tb:=⟨33,[(0,.val 98),(3,.ro 88),(6,.val 3),(7,.val 3)],[(.ret,[(4,.val 3),(5,.val 4)])],[11,12,13,14,15,16,17,18,19,20,21,22,23,24,25,26,27,4,5,28,29,30,31,8,32,33,34,35,36,37,38,39,40,6,41,7],czI⟩
theorem uzB:azi ([]:List (CutSpec tb)) (restAt (pzd 21 Tryz.f130) 0)=[]:=by kernel_rfl
theorem szQ:dzf Tryz.prog tb Tryz.f130.ntmps (pzd 21 Tryz.f130) 0 xz9:=label_it fun self hself=>label_ev mixed (by kernel_rfl) (by kernel_rfl) mzc rfl uzB .nil (.cons hself rfl .nil) (fun x=>by kernel_rfl)
def izZ (x:List Slot×Place):Option ((Unit)⊕(Int×Bool)) :=
 brn (decide (0=(↑x.fst.length:Int)))
  (brn (decide (0<(↑x.fst.length:Int)))
   (obnd (idx x.fst 0) fun y =>
    some
     (Sum.inr
      (0,
       bif false then !(decide (y.P.Sheet=x.snd.Sheet)&&(decide (y.P.At.Row=x.snd.At.Row)&&decide (y.P.At.Col=x.snd.At.Col)))
       else decide (y.P.Sheet=x.snd.Sheet)&&(decide (y.P.At.Row=x.snd.At.Row)&&decide (y.P.At.Col=x.snd.At.Col)))))
   (some (Sum.inr (0,false))))
  (obnd (idx x.fst (IntKind.i64.wrap ((IntKind.i64.wrap (0+(↑x.fst.length:Int))).tdiv 2))) fun y =>
   obnd (kzX (y.P,x.snd)) fun y =>
    brn y
     (obnd (czI (x.fst,x.snd,IntKind.i64.wrap (IntKind.i64.wrap ((IntKind.i64.wrap (0+(↑x.fst.length:Int))).tdiv 2)+1),(↑x.fst.length:Int))) fun y =>
      some (Sum.inr y))
     (obnd (czI (x.fst,x.snd,0,IntKind.i64.wrap ((IntKind.i64.wrap (0+(↑x.fst.length:Int))).tdiv 2))) fun y=>some (Sum.inr y)))
def rzg:CutSpec tb:=⟨21,[(0,.val 98),(3,.ro 88)],[(.normal,[]),(.ret,[(4,.val 3),(5,.val 4)])],[9,10,6,7,8,11,12,13,14,15,16,17,18,19,20,21,22,23,24,25,26,27,4,5,28,29,30,31,32,33,34,35,36,37,38,39,40,41],izZ⟩
theorem yza:azi ([]:List (CutSpec tb)) (pzd 21 Tryz.f130)=[]:=by kernel_rfl
theorem wzl:azm Tryz.prog tb Tryz.f130.ntmps (.scope (pzd 21 Tryz.f130)) rzg:=scope_ev mixed (by kernel_rfl) mzc rfl yza .nil (.cons szQ rfl .nil) (fun x=>by kernel_rfl)
def fz6 (x:List Slot×Place):Option (Int×Bool) :=
 obnd (izZ x) fun y=>osum y (fun y=>none) fun y=>some y
def env_findS:FSpec tb:=⟨[(0,.val 98),(1,.val 88)],[(0,.val 3),(1,.val 4)],fz6⟩
theorem Czd:azi ([rzg]:List (CutSpec tb)) (azA Tryz.f130)=[(21,.scope (pzd 21 Tryz.f130))]:=by kernel_rfl
theorem ozu:azd Tryz.prog tb 130 env_findS:=azL mixed Tryz.func130 (by kernel_rfl) mzc rfl Czd (.cons rfl wzl rfl .nil) (fun x=>by kernel_rfl)
def bzZ (x:List Slot):Option (List (Slot)) :=
 brn x.isEmpty (agree (some []) (obnd (app 80 [] x) fun zs=>some zs)) (obnd (app 80 [] x) fun zs=>some zs)
def izR:FSpec tb:=⟨[(0,.val 98)],[(0,.own 196)],bzZ⟩
theorem hzy:azd Tryz.prog tb 131 izR:=azo mixed Tryz.func131 (by kernel_rfl) .nil rfl (fun x=>by kernel_rfl)
def ezn (_:List Slot×Int×Int):Option (List (Slot)):=none
def izG:FSpec tb:=⟨[(0,.val 98),(1,.val 3),(2,.val 3)],[(0,.own 196)],ezn⟩
theorem gzX:azd Tryz.prog tb 132 izG:=xzI (ezT Tryz.func132 (by kernel_rfl))
def kzt (_:List Slot×Int):Option (Unit):=none
def kzu:FSpec tb:=⟨[(0,.val 98),(1,.val 3)],[],kzt⟩
theorem izb:azd Tryz.prog tb 214 kzu:=xzI (ezT Tryz.func214 (by kernel_rfl))
def bzU (x:List (Slot)×Int×List Slot):Option (List Slot) :=
 obnd (sub x.fst x.2.fst (↑x.fst.length:Int)) fun z =>
  brn (decide ((↑x.2.snd.length:Int)=0)) (some x.1) (brn (decide (x.2.fst=(↑x.fst.length:Int))) (obnd (app 80 x.fst x.2.snd) fun zs=>some zs) none)
def izH:FSpec tb:=⟨[(0,.own 196),(1,.val 3),(2,.val 98)],[(0,.val 98)],bzU⟩
theorem gzY:azd Tryz.prog tb 133 izH:=azo mixed Tryz.func133 (by kernel_rfl) (.cons izb .nil) rfl (fun x=>by kernel_rfl)
def pzA (x:Env×Place×Val):Option (Env) :=
 obnd (fz6 (x.fst.Slots,x.2.fst)) fun y =>
  obnd (bzZ x.fst.Slots) fun y_1 =>
   brn y.snd
    (brn (decide (x.2.snd.Kind=0))
     (obnd (ezn (y_1,y.fst,IntKind.i64.wrap (y.fst+1))) fun y=>some {Sheets:=x.fst.Sheets,Slots:=y,Names:=x.fst.Names})
     (brn y.snd (obnd (idx y_1 y.fst) fun y=>none)
      (brn (!decide (x.2.snd.Kind=0))
       (obnd (bzU (y_1,y.fst,[{P:=x.2.fst,V:=x.2.snd}])) fun y=>some {Sheets:=x.fst.Sheets,Slots:=y,Names:=x.fst.Names})
       (some {Sheets:=x.fst.Sheets,Slots:=y_1,Names:=x.fst.Names}))))
    (brn y.snd (obnd (idx y_1 y.fst) fun y=>none)
     (brn (!decide (x.2.snd.Kind=0))
      (obnd (bzU (y_1,y.fst,[{P:=x.2.fst,V:=x.2.snd}])) fun y=>some {Sheets:=x.fst.Sheets,Slots:=y,Names:=x.fst.Names})
      (some {Sheets:=x.fst.Sheets,Slots:=y_1,Names:=x.fst.Names})))
def AzH:FSpec tb:=⟨[(0,.val 100),(1,.val 88),(2,.val 32)],[(0,.val 100)],pzA⟩
theorem zzR:azd Tryz.prog tb 50 AzH:=azo mixed Tryz.func50 (by kernel_rfl) (.cons ozu (.cons hzy (.cons gzX (.cons gzY .nil)))) rfl (fun x=>by kernel_rfl)
abbrev zz2:List (Nat×FSpec tb):=[(51,Bzd),(26,law9_NS),(50,AzH)]
theorem mzt:azv Tryz.prog tb (zz2):=(.cons qzF (.cons mzw (.cons zzR .nil)))
def ezj (back:Env×Int→Option ((Unit)×Env))(x:Env×Int):Option ((Unit)×Env) :=
 brn (decide (x.snd<3))
  (obnd (pzO (0,x.snd,0)) fun y=>obnd (hzK (IntKind.i64.wrap (x.snd+1))) fun y_1=>obnd (pzA (x.fst,y,y_1)) fun y=>back (y,IntKind.i64.wrap (x.snd+1)))
  (some ((),x.fst))
def izB:Env×Int→Option ((Unit)×Env):=iter ezj big
def mzu:CutSpec tb:=⟨36,[(1,.ref 100),(2,.val 3)],[((.exit 0),[])],[4,5,8,9,10,11,12,13,14,6,7,2],izB⟩
theorem rzS:azi ([]:List (CutSpec tb)) (azf 36 Tryz.f114)=[]:=by kernel_rfl
theorem qzZ:azm Tryz.prog tb Tryz.f114.ntmps (.loop (azf 36 Tryz.f114)) (mzu):=azz mixed (by kernel_rfl) mzt rfl rzS .nil ezj (fun back x=>by kernel_rfl) rfl
def izj (x:Unit):Option (Env) :=
 obnd (izB ({Sheets:=2,Slots:=[],Names:=[]},0)) fun y=>some y.2
def zz3:FSpec tb:=⟨[],[(0,.val 100)],izj⟩
theorem wz5:azi ([mzu]:List (CutSpec tb)) (azA Tryz.f114)=[(36,.loop (azf 36 Tryz.f114))]:=by kernel_rfl
theorem rzT:azd Tryz.prog tb 114 zz3:=azL mixed Tryz.func114 (by kernel_rfl) mzt rfl wz5 (.cons rfl qzZ rfl .nil) (fun x=>by kernel_rfl)
def nz8 (x:Int×Int×Int):Option (Expr) :=
  some
    { Kind := 3, V := { Kind := 0, N := { M := 0, S := 0 }, S := [], B := false, E := 0 },
      A:={A:={Row:=x.fst,Col:=x.2.snd,RelRow:=false,RelCol:=false},B:={Row:=x.2.fst,Col:=x.2.snd,RelRow:=false,RelCol:=false}},Sheet:=0,
      Op := 0, Kids := [] }
def Czz:FSpec tb:=⟨[(0,.val 3),(1,.val 3),(2,.val 3)],[(0,.val 96)],nz8⟩
theorem uz9:azd Tryz.prog tb 53 Czz:=azo mixed Tryz.func53 (by kernel_rfl) .nil rfl (fun x=>by kernel_rfl)
def tz0 (x:Int×List Expr):Option (Expr) :=
  some
    { Kind := 9, V := { Kind := 0, N := { M := 0, S := 0 }, S := [], B := false, E := 0 },
      A := { A := { Row := 0, Col := 0, RelRow := false, RelCol := false }, B := { Row := 0, Col := 0, RelRow := false, RelCol := false } }, Sheet := 0, Op := x.fst, Kids := x.snd }
def Czy:FSpec tb:=⟨[(0,.val 3),(1,.val 94)],[(0,.val 96)],tz0⟩
theorem uz8:azd Tryz.prog tb 52 Czy:=azo mixed Tryz.func52 (by kernel_rfl) .nil rfl (fun x=>by kernel_rfl)
def wzV (x:Int):Option (Expr) :=
  obnd (hzK x) fun y =>
    some
      { Kind := 1, V := y, A := { A := { Row := 0, Col := 0, RelRow := false, RelCol := false }, B := { Row := 0, Col := 0, RelRow := false, RelCol := false } }, Sheet := 0, Op := 0,
        Kids := [] }
def Dzz:FSpec tb:=⟨[(0,.val 2)],[(0,.val 96)],wzV⟩
theorem wzW:azd Tryz.prog tb 55 Dzz:=azo mixed Tryz.func55 (by kernel_rfl) (.cons mzw .nil) rfl (fun x=>by kernel_rfl)
def wzS (x:Int×Expr×Expr):Option (Expr) :=
  some
    { Kind := 8, V := { Kind := 0, N := { M := 0, S := 0 }, S := [], B := false, E := 0 },
      A:={A:={Row:=0,Col:=0,RelRow:=false,RelCol:=false},B:={Row:=0,Col:=0,RelRow:=false,RelCol:=false}},Sheet:=0,Op:=x.fst,
      Kids := [azC x.2.fst, azC x.2.snd] }
def Dzy:FSpec tb:=⟨[(0,.val 3),(1,.val 96),(2,.val 96)],[(0,.val 96)],wzS⟩
theorem wzT:azd Tryz.prog tb 54 Dzy:=azo mixed Tryz.func54 (by kernel_rfl) .nil rfl (fun x=>by kernel_rfl)
def hzu (x:Int×Int):Option (Int) :=
 brn (decide (x.snd=0)) none (brn (decide (x.snd=0)) none (some ((IntKind.i64.wrap (x.fst.tmod x.snd+x.snd)).tmod x.snd)))
def ref_modS:FSpec tb:=⟨[(0,.val 3),(1,.val 3)],[(0,.val 3)],hzu⟩
theorem qzK:azd Tryz.prog tb 264 ref_modS:=azo mixed Tryz.func264 (by kernel_rfl) .nil rfl (fun x=>by kernel_rfl)
def kzo (x:Int×Int×Int):Option (Int) :=
 obnd (hzu (x.fst,x.2.snd)) fun y=>obnd (hzu x.2) fun y_1=>obnd (hzu (IntKind.i64.wrap (y+y_1),x.2.snd)) fun y=>some y
def ref_sumS:FSpec tb:=⟨[(0,.val 3),(1,.val 3),(2,.val 3)],[(0,.val 3)],kzo⟩
theorem Azf:azd Tryz.prog tb 265 ref_sumS:=azo mixed Tryz.func265 (by kernel_rfl) (.cons qzK .nil) rfl (fun x=>by kernel_rfl)
def hzT (x:Ref×Cell):Option (Cell) :=
 obnd (hzu (x.fst.Row,65536)) fun y =>
  obnd (hzu (x.fst.Col,256)) fun y_1 =>
   brn x.fst.RelRow
    (obnd (kzo (x.fst.Row,x.snd.Row,65536)) fun y =>
     brn x.fst.RelCol (obnd (kzo (x.fst.Col,x.snd.Col,256)) fun y_2=>some {Row:=y,Col:=y_2}) (some {Row:=y,Col:=y_1}))
    (brn x.fst.RelCol (obnd (kzo (x.fst.Col,x.snd.Col,256)) fun y_2=>some {Row:=y,Col:=y_2}) (some {Row:=y,Col:=y_1}))
def ref_AtS:FSpec tb:=⟨[(0,.val 91),(1,.val 86)],[(0,.val 86)],hzT⟩
theorem szd:azd Tryz.prog tb 240 ref_AtS:=azo mixed Tryz.func240 (by kernel_rfl) (.cons qzK (.cons Azf .nil)) rfl (fun x=>by kernel_rfl)
def hzt (x:Cell):Option (Bool) :=
 brn (decide (0≤x.Row)) (brn (decide (x.Row<65536)) (brn (decide (0≤x.Col)) (some (decide (x.Col<256))) (some false)) (some false)) (some false)
def ref_GoodS:FSpec tb:=⟨[(0,.val 86)],[(0,.val 4)],hzt⟩
theorem yzR:azd Tryz.prog tb 279 ref_GoodS:=azo mixed Tryz.func279 (by kernel_rfl) .nil rfl (fun x=>by kernel_rfl)
def ezU (x:Env×Place):Option (Bool) :=
 brn (decide (0≤x.snd.Sheet)) (brn (decide (x.snd.Sheet<x.fst.Sheets)) (obnd (hzt x.snd.At) fun y=>some y) (some false)) (some false)
def env_goodS:FSpec tb:=⟨[(0,.val 100),(1,.val 88)],[(0,.val 4)],ezU⟩
theorem yzb:azd Tryz.prog tb 263 env_goodS:=azo mixed Tryz.func263 (by kernel_rfl) (.cons yzR .nil) rfl (fun x=>by kernel_rfl)
def bz2 (x:Env×Place):Option (Val) :=
 obnd (ezU x) fun y =>
  brn (!y) (obnd (azn 23) fun y=>some y)
   (obnd (fz6 (x.fst.Slots,x.snd)) fun y =>
    brn y.snd (obnd (idx x.fst.Slots y.fst) fun y=>some y.V) (some {Kind:=0,N:={M:=0,S:=0},S:=[],B:=false,E:=0}))
def uzA:FSpec tb:=⟨[(0,.val 100),(1,.val 88)],[(0,.val 32)],bz2⟩
theorem qzm:azd Tryz.prog tb 239 uzA:=azo mixed Tryz.func239 (by kernel_rfl) (.cons yzb (.cons azJ (.cons ozu .nil))) rfl (fun x=>by kernel_rfl)
def gzM (x:Area×Cell):Option (Cell×Cell) :=
 obnd (hzT (x.fst.A,x.snd)) fun y =>
  obnd (hzT (x.fst.B,x.snd)) fun y_1 =>
   some
    ({Row:=bif decide (y_1.Row<y.Row)then y_1.Row else y.Row,Col:=bif decide (y_1.Col<y.Col)then y_1.Col else y.Col},
     {Row:=bif decide (y.Row<y_1.Row)then y_1.Row else y.Row,Col:=bif decide (y.Col<y_1.Col)then y_1.Col else y.Col})
def ozf:FSpec tb:=⟨[(0,.val 93),(1,.val 86)],[(0,.val 86),(1,.val 86)],gzM⟩
theorem mzL:azd Tryz.prog tb 267 ozf:=azo mixed Tryz.func267 (by kernel_rfl) (.cons szd .nil) rfl (fun x=>by kernel_rfl)
abbrev DzS:List (Nat×FSpec tb):=[(267,ozf)]
theorem lzq:azv Tryz.prog tb (DzS):=(.cons mzL .nil)
def gzC (back:Cell×List (Cell)×Int×Int→Option (List (Cell)))(x:Cell×List (Cell)×Int×Int):Option (List (Cell)) :=
 brn (decide (x.2.2.snd≤x.fst.Col)) (obnd (app 16 x.2.fst [{Row:=x.2.2.fst,Col:=x.2.2.snd}]) fun zs=>back (x.fst,zs,x.2.2.fst,IntKind.i64.wrap (x.2.2.snd+1)))
  (some x.2.1)
def izn:Cell×List (Cell)×Int×Int→Option (List (Cell)):=iter gzC big
def qzJ:CutSpec tb:=⟨84,[(6,.ro 86),(7,.own 86),(8,.val 3),(9,.val 3)],[((.exit 2),[(7,.own 86)])],[40,41,42,43,46,47,48,49,50,51,7,44,45,9],izn⟩
theorem xzu:azi ([]:List (CutSpec tb)) (azf 84 Tryz.f266)=[]:=by kernel_rfl
theorem vzM:azm Tryz.prog tb Tryz.f266.ntmps (.loop (azf 84 Tryz.f266)) (qzJ):=azz mixed (by kernel_rfl) lzq rfl xzu .nil gzC (fun back x=>by kernel_rfl) rfl
def gzB (back:Cell×Cell×List (Cell)×Int→Option (List (Cell)))(x:Cell×Cell×List (Cell)×Int):Option (List (Cell)) :=
 brn (decide (x.2.2.snd≤x.2.fst.Row)) (obnd (izn (x.2.fst,x.2.2.fst,x.2.2.snd,x.fst.Col)) fun y=>back (x.fst,x.2.fst,y,IntKind.i64.wrap (x.2.2.snd+1)))
  (some x.2.2.1)
def izm:Cell×Cell×List (Cell)×Int→Option (List (Cell)):=iter gzB big
def qzI:CutSpec tb:=⟨60,[(5,.ro 86),(6,.ro 86),(7,.own 86),(8,.val 3)],[((.exit 0),[(7,.own 86)])],[32,33,34,35,38,39,9,40,41,42,43,46,47,48,49,50,51,7,44,45,36,37,8],izm⟩
theorem xzt:azi ([qzJ]:List (CutSpec tb)) (azf 60 Tryz.f266)=[(84,.loop (azf 84 Tryz.f266))]:=by kernel_rfl
theorem vzL:azm Tryz.prog tb Tryz.f266.ntmps (.loop (azf 60 Tryz.f266)) (qzI):=azz mixed (by kernel_rfl) lzq rfl xzt (.cons rfl vzM rfl .nil) gzB (fun back x=>by kernel_rfl) rfl
def cz1 (x:Area×Cell):Option (List (Cell)) :=
 obnd (gzM x) fun y =>
  brn (decide (4096<IntKind.i64.wrap (IntKind.i64.wrap (IntKind.i64.wrap (y.snd.Row-y.fst.Row)+1)*IntKind.i64.wrap (IntKind.i64.wrap (y.snd.Col-y.fst.Col)+1))))
   (some []) (obnd (izm (y.fst,y.snd,[],y.fst.Row)) fun y=>some y)
def xzs:FSpec tb:=⟨[(0,.val 93),(1,.val 86)],[(0,.own 86)],cz1⟩
theorem BzA:azi ([qzI]:List (CutSpec tb)) (azA Tryz.f266)=[(60,.loop (azf 60 Tryz.f266))]:=by kernel_rfl
theorem xzv:azd Tryz.prog tb 266 xzs:=azL mixed Tryz.func266 (by kernel_rfl) lzq rfl BzA (.cons rfl vzL rfl .nil) (fun x=>by kernel_rfl)
abbrev szT:List (Nat×FSpec tb):=[(266,xzs),(32,dzW),(25,uzQ),(267,ozf),(239,uzA)]
theorem gzi:azv Tryz.prog tb (szT):=(.cons xzv (.cons azJ (.cons qzs (.cons mzL (.cons qzm .nil)))))
def dzT (x:Int×Worker×Area×Arg×List Cell×Bool):Option (((Unit)×Arg)⊕((Unit)×Arg)) :=
 brn x.2.2.2.2.snd
  (obnd (gzM (x.2.2.fst,x.2.fst.at_.At)) fun y =>
   brn (!decide (IntKind.i64.wrap (IntKind.i64.wrap (y.snd.Row-y.fst.Row)+1)=x.2.fst.rows)) (obnd (azn 15) fun y=>obnd (czr y) fun y=>some (Sum.inr ((),y)))
    (brn (!decide (IntKind.i64.wrap (IntKind.i64.wrap (y.snd.Col-y.fst.Col)+1)=x.2.fst.cols))
     (obnd (azn 15) fun y=>obnd (czr y) fun y=>some (Sum.inr ((),y)))
     (obnd (idx x.2.2.2.2.fst x.2.fst.cell) fun y=>obnd (bz2 (x.2.fst.v,{Sheet:=x.fst,At:=y})) fun y=>obnd (czr y) fun y=>some (Sum.inr ((),y)))))
  (some (Sum.inl ((),x.2.2.2.fst)))
def iz4:CutSpec tb:=⟨50,[(1,.val 3),(4,.ro 190),(6,.ro 93),(8,.ref 48),(9,.val 349),(42,.val 4)],[(.normal,[]),(.ret,[])],[44,45,46,47,48,43,49,50,10,11,51,52,53,54,55,56,57,58,59,60,61,62,63,64,65,66,67,68,69,70,71,72,73,74,75,76,77,78,79,80,81,82,83],(dzT)⟩
theorem nz2:azi ([]:List (CutSpec tb)) (azD 50 Tryz.f241)=[]:=by kernel_rfl
theorem mzY:azm Tryz.prog tb Tryz.f241.ntmps (azD 50 Tryz.f241) (iz4):=czF mixed (by kernel_rfl) gzi rfl nz2 .nil (fun x=>by kernel_rfl)
def czT (back:List (Val)×Int×Worker×Arg×List Cell×Int×Int→Option ((List (Val))×Arg))(x:List (Val)×Int×Worker×Arg×List Cell×Int×Int):Option ((List (Val))×Arg) :=
 brn (decide (x.2.2.2.2.2.snd<x.2.2.2.2.2.fst))
  (obnd (idx x.2.2.2.2.fst x.2.2.2.2.2.snd) fun y =>
   obnd (bz2 (x.2.2.fst.v,{Sheet:=x.2.fst,At:=y})) fun y =>
    obnd (app 56 x.fst [y]) fun zs =>
     back (zs,x.2.fst,x.2.2.fst,{Area:=x.2.2.2.fst.Area,L:=zs},x.2.2.2.2.fst,x.2.2.2.2.2.fst,IntKind.i64.wrap (x.2.2.2.2.2.snd+1)))
  (some (x.fst,{Area:=x.2.2.2.fst.Area,L:=x.fst}))
def czU:List (Val)×Int×Worker×Arg×List Cell×Int×Int→Option ((List (Val))×Arg):=iter czT big
def iz5:CutSpec tb:=⟨100,[(8589934604,.own 32),(1,.val 3),(4,.ro 190),(12,.ref 48),(85,.val 349),(86,.val 3),(87,.val 3)],[((.exit 0),[(8589934604,.own 32)])],[88,89,90,14,91,92,93,94,95,96,97,98,99,100,101,102,87],czU⟩
theorem nz3:azi ([]:List (CutSpec tb)) (azf 100 Tryz.f241)=[]:=by kernel_rfl
theorem mzZ:azm Tryz.prog tb Tryz.f241.ntmps (.loop (azf 100 Tryz.f241)) (iz5):=azz mixed (by kernel_rfl) gzi rfl nz3 .nil czT (fun back x=>by kernel_rfl) rfl
def az5 (x:Worker×Int×Area×Bool):Option (Arg) :=
 obnd (cz1 (x.2.2.fst,x.fst.at_.At)) fun y =>
  brn (decide ((↑(List.length y):Int)=0)) (obnd (azn 23) fun y=>obnd (czr y) fun y=>some y)
   (brn (decide (x.2.fst<0)) (obnd (azn 23) fun y=>obnd (czr y) fun y=>some y)
    (brn (decide (x.fst.v.Sheets≤x.2.fst)) (obnd (azn 23) fun y=>obnd (czr y) fun y=>some y)
     (brn (decide (0<x.fst.rows))
      (obnd (dzT (x.2.fst,x.fst,x.2.2.fst,{Area:=false,L:=[]},y,!x.2.2.snd)) fun y_1 =>
       osum y_1
        (fun y_2=>obnd (czU ([],x.2.fst,x.fst,{Area:=true,L:=[]},y,(↑(List.length y):Int),0)) fun y=>some {Area:=y.2.Area,L:=y.1})
        fun y=>some y.2)
      (obnd (dzT (x.2.fst,x.fst,x.2.2.fst,{Area:=false,L:=[]},y,false)) fun y_1 =>
       osum y_1
        (fun y_2=>obnd (czU ([],x.2.fst,x.fst,{Area:=true,L:=[]},y,(↑(List.length y):Int),0)) fun y=>some {Area:=y.2.Area,L:=y.1})
        fun y=>some y.2))))
def lzy:FSpec tb:=⟨[(0,.val 190),(1,.val 3),(2,.val 93),(3,.val 4)],[(0,.val 48)],az5⟩
theorem qzS:azi ([iz4,iz5]:List (CutSpec tb)) (azA Tryz.f241)=[(50,azD 50 Tryz.f241),(100,.loop (azf 100 Tryz.f241))]:=by kernel_rfl
theorem nz4:azd Tryz.prog tb 241 lzy:=azL mixed Tryz.func241 (by kernel_rfl) gzi rfl qzS (.cons rfl mzY rfl (.cons rfl mzZ rfl .nil)) (fun x=>by kernel_rfl)
def gz3 (x:Int):Option (Bool) :=
 obnd (nzg x) fun y =>
  brn (decide (y.fst=[83,85,77])) (brn (decide (y.fst=[83,85,77])) (some true) (some false))
   (brn (decide (y.fst=[77,73,78])) (brn (decide (y.fst=[77,73,78])) (some true) (some false))
    (brn (decide (y.fst=[77,65,88])) (brn (decide (y.fst=[77,65,88])) (some true) (some false))
     (brn (decide (y.fst=U8s [67,79,85,78,84])) (brn (decide (y.fst=U8s [67,79,85,78,84])) (some true) (some false))
      (brn (decide (y.fst=U8s [65,86,69,82,65,71,69])) (brn (decide (y.fst=U8s [65,86,69,82,65,71,69])) (some true) (some false))
       (brn (decide (y.fst=[65,78,68])) (brn (decide (y.fst=[65,78,68])) (some true) (some false))
        (brn (decide (y.fst=[79,82])) (brn (decide (y.fst=[79,82])) (some true) (some false))
         (brn (decide (y.fst=U8s [67,79,78,67,65,84])) (brn (decide (y.fst=U8s [67,79,78,67,65,84])) (some true) (some false))
          (brn (decide (y.fst=U8s [73,78,68,69,88])) (some true) (some false)))))))))
def rzl:FSpec tb:=⟨[(0,.val 3)],[(0,.val 4)],gz3⟩
theorem szS:azd Tryz.prog tb 242 rzl:=azo mixed Tryz.func242 (by kernel_rfl) (.cons yzh .nil) rfl (fun x=>by kernel_rfl)
def bzE (self:Worker×Expr×Bool→Option (Arg)):FSpec tb:=⟨[(0,.val 190),(1,.val 96),(2,.val 4)],[(0,.val 48)],self⟩
abbrev ozD (self:Worker×Expr×Bool→Option (Arg)):List (Nat×FSpec tb):=[(204,(bzE self))]
theorem gz4 (self:Worker×Expr×Bool→Option (Arg))(hself:azd Tryz.prog tb 204 (bzE self)):azv Tryz.prog tb (ozD self):=(.cons hself .nil)
def czc (self:Worker×Expr×Bool→Option (Arg))(back:Worker×List (Val)×Bool×List Expr×Int×Int→Option (List (Val)×Bool))(x:Worker×List (Val)×Bool×List Expr×Int×Int):Option (List (Val)×Bool) :=
 brn (decide (x.2.2.2.2.snd<x.2.2.2.2.fst))
  (obnd (idx x.2.2.2.fst x.2.2.2.2.snd) fun y =>
   obnd (self (x.fst,azC y,false)) fun y =>
    brn y.Area (back (x.fst,x.2.fst,false,x.2.2.2.fst,x.2.2.2.2.fst,IntKind.i64.wrap (x.2.2.2.2.snd+1)))
     (obnd (idx y.L 0) fun y=>obnd (app 56 x.2.fst [y]) fun zs=>back (x.fst,zs,x.2.2.fst,x.2.2.2.fst,x.2.2.2.2.fst,IntKind.i64.wrap (x.2.2.2.2.snd+1))))
  (some (x.2.fst,x.2.2.fst))
def ezh (self:Worker×Expr×Bool→Option (Arg)):Worker×List (Val)×Bool×List Expr×Int×Int→Option (List (Val)×Bool):=iter (czc self) big
def gz5 (self:Worker×Expr×Bool→Option (Arg)):CutSpec tb:=⟨44,[(2,.ro 190),(6,.own 32),(7,.val 4),(11,.val 94),(12,.val 3),(13,.val 3)],[((.exit 0),[(6,.own 32),(7,.val 4)])],[14,15,16,9,17,18,19,10,20,21,7,22,23,24,25,26,27,28,6,29,13],(ezh self)⟩
theorem lzi (self:Worker×Expr×Bool→Option (Arg)):azi ([]:List (CutSpec tb)) (azf 44 Tryz.f243)=[]:=by kernel_rfl
theorem kzY (self:Worker×Expr×Bool→Option (Arg))(hself:azd Tryz.prog tb 204 (bzE self)):azm Tryz.prog tb Tryz.f243.ntmps (.loop (azf 44 Tryz.f243)) (gz5 self):=azz mixed (by kernel_rfl) (gz4 self hself) rfl (lzi self) .nil (czc self) (fun back x=>by kernel_rfl) rfl
def dzA (self:Worker×Expr×Bool→Option (Arg))(x:Worker×List Expr):Option (List (Val)×Bool) :=
 obnd ((ezh self) (x.fst,[],true,x.snd,(↑x.snd.length:Int),0)) fun y=>some y
def izJ (self:Worker×Expr×Bool→Option (Arg)):FSpec tb:=⟨[(0,.val 190),(1,.val 94)],[(0,.own 32),(1,.val 4)],dzA self⟩
theorem mz0 (self:Worker×Expr×Bool→Option (Arg)):azi ([(gz5 self)]:List (CutSpec tb)) (azA Tryz.f243)=[(44,.loop (azf 44 Tryz.f243))]:=by kernel_rfl
theorem lzI (self:Worker×Expr×Bool→Option (Arg))(hself:azd Tryz.prog tb 204 (bzE self)):azd Tryz.prog tb 243 (izJ self):=azL mixed Tryz.func243 (by kernel_rfl) (gz4 self hself) rfl (mz0 self) (.cons rfl (kzY self hself) rfl .nil) (fun x=>by kernel_rfl)
abbrev uzH (self:Worker×Expr×Bool→Option (Arg)):List (Nat×FSpec tb):=[(25,uzQ),(240,ref_AtS),(239,uzA),(241,lzy),(32,dzW),(204,(bzE self)),(242,rzl),(19,wzr),(243,(izJ self)),(40,wzx),(30,tzS)]
theorem jzS (self:Worker×Expr×Bool→Option (Arg))(hself:azd Tryz.prog tb 204 (bzE self)):azv Tryz.prog tb (uzH self):=(.cons qzs (.cons szd (.cons qzm (.cons nz4 (.cons azJ (.cons hself (.cons szS (.cons wzw (.cons (lzI self hself) (.cons wzy (.cons uzP .nil)))))))))))
def dza (self:Worker×Expr×Bool→Option (Arg))(back:Worker×Expr×List (Arg)×List Expr×Int×Int→Option (List (Arg)))(x:Worker×Expr×List (Arg)×List Expr×Int×Int):Option (List (Arg)) :=
 brn (decide (x.2.2.2.2.snd<x.2.2.2.2.fst))
  (obnd (idx x.2.2.2.fst x.2.2.2.2.snd) fun y =>
   obnd (gz3 x.2.fst.Op) fun y_1 =>
    obnd (self (x.fst,azC y,y_1)) fun y =>
     obnd (app 32 x.2.2.fst [y]) fun zs=>back (x.fst,azC x.2.fst,zs,x.2.2.2.fst,x.2.2.2.2.fst,IntKind.i64.wrap (x.2.2.2.2.snd+1)))
  (some x.2.2.1)
def ezv (self:Worker×Expr×Bool→Option (Arg)):Worker×Expr×List (Arg)×List Expr×Int×Int→Option (List (Arg)):=iter (dza self) big
def jzT (self:Worker×Expr×Bool→Option (Arg)):CutSpec tb:=⟨180,[(3,.ro 190),(4,.ro 96),(7,.own 48),(109,.val 94),(110,.val 3),(111,.val 3)],[((.exit 1),[(7,.own 48)])],[112,113,114,9,115,116,117,118,119,120,121,122,123,7,124,111],(ezv self)⟩
theorem ozB (self:Worker×Expr×Bool→Option (Arg)):azi ([]:List (CutSpec tb)) (azf 180 Tryz.f204)=[]:=by kernel_rfl
theorem nz5 (self:Worker×Expr×Bool→Option (Arg))(hself:azd Tryz.prog tb 204 (bzE self)):azm Tryz.prog tb Tryz.f204.ntmps (.loop (azf 180 Tryz.f204)) (jzT self):=azz mixed (by kernel_rfl) (jzS self hself) rfl (ozB self) .nil (dza self) (fun back x=>by kernel_rfl) rfl
def bzc (self:Worker×Expr×Bool→Option (Arg))(x:Worker×Expr×Bool):Option (Arg) :=
 brn (decide (x.2.fst.Kind=1)) (obnd (czr x.2.fst.V) fun y=>some y)
  (brn (decide (x.2.fst.Kind=2))
   (obnd (hzT (x.2.fst.A.A,x.fst.at_.At)) fun y=>obnd (bz2 (x.fst.v,{Sheet:=x.fst.at_.Sheet,At:=y})) fun y=>obnd (czr y) fun y=>some y)
   (brn (decide (x.2.fst.Kind=4))
    (obnd (hzT (x.2.fst.A.A,x.fst.at_.At)) fun y=>obnd (bz2 (x.fst.v,{Sheet:=x.2.fst.Sheet,At:=y})) fun y=>obnd (czr y) fun y=>some y)
    (brn (decide (x.2.fst.Kind=3)) (obnd (az5 (x.fst,x.fst.at_.Sheet,x.2.fst.A,x.2.snd)) fun y=>some y)
     (brn (decide (x.2.fst.Kind=5)) (obnd (az5 (x.fst,x.2.fst.Sheet,x.2.fst.A,x.2.snd)) fun y=>some y)
      (brn (decide (x.2.fst.Kind=6))
       (brn (decide (x.2.fst.Op<0)) (obnd (azn 29) fun y=>obnd (czr y) fun y=>some y)
        (brn (decide ((↑x.fst.v.Names.length:Int)≤x.2.fst.Op)) (obnd (azn 29) fun y=>obnd (czr y) fun y=>some y)
         (obnd (idx x.fst.v.Names x.2.fst.Op) fun y=>obnd (self (x.fst,azC y,x.2.snd)) fun y=>some y)))
       (brn (decide (x.2.fst.Kind=10)) (obnd (idx x.2.fst.Kids 0) fun y=>obnd (self (x.fst,azC y,x.2.snd)) fun y=>some y)
        (brn (decide (x.2.fst.Kind=9))
         (obnd ((ezv self) (x.fst,azC x.2.fst,[],x.2.fst.Kids,(↑x.2.fst.Kids.length:Int),0)) fun y =>
          obnd (bzR (x.2.fst.Op,y)) fun y=>obnd (czr y) fun y=>some y)
         (obnd ((dzA self) (x.fst,x.2.fst.Kids)) fun y =>
          brn (!y.snd) (obnd (azn 15) fun y=>obnd (czr y) fun y=>some y)
           (brn (decide (x.2.fst.Kind=7)) (obnd (idx y.fst 0) fun y=>obnd (lzK (x.2.fst.Op,y)) fun y=>obnd (czr y) fun y=>some y)
            (obnd (idx y.fst 0) fun y_1=>obnd (idx y.fst 1) fun y=>obnd (kzI (x.2.fst.Op,y_1,y)) fun y=>obnd (czr y) fun y=>some y))))))))))
theorem rzm (self:Worker×Expr×Bool→Option (Arg)):azi ([(jzT self)]:List (CutSpec tb)) (azA Tryz.f204)=[(180,.loop (azf 180 Tryz.f204))]:=by kernel_rfl
theorem pzE (self:Worker×Expr×Bool→Option (Arg))(hself:azd Tryz.prog tb 204 (bzE self)):azd Tryz.prog tb 204 (bzE (bzc self)):=azL mixed Tryz.func204 (by kernel_rfl) (jzS self hself) rfl (rzm self) (.cons rfl (nz5 self hself) rfl .nil) (fun x=>by kernel_rfl)
def izw:Worker×Expr×Bool→Option (Arg):=iter bzc big
def uzI:FSpec tb:=bzE izw
theorem ozC:azd Tryz.prog tb 204 uzI:=pzI (ezT Tryz.func204 (by kernel_rfl)) pzE
def ezV (x:Worker×Expr):Option (Val) :=
 obnd (izw (x.fst,azC x.snd,false)) fun y =>
  brn y.Area (obnd (azn 15) fun y=>some y)
   (obnd (idx y.L 0) fun y_1 =>
    brn (decide (y_1.Kind=0)) (obnd (bzr 0) fun y=>some {Kind:=1,N:=y,S:=[],B:=false,E:=0}) (obnd (idx y.L 0) fun y=>some y))
def kzZ:FSpec tb:=⟨[(0,.val 190),(1,.val 96)],[(0,.val 32)],ezV⟩
theorem hzV:azd Tryz.prog tb 123 kzZ:=azo mixed Tryz.func123 (by kernel_rfl) (.cons ozC (.cons azJ (.cons cz4 .nil))) rfl (fun x=>by kernel_rfl)
abbrev Czo:List (Nat×FSpec tb):=[(123,kzZ)]
theorem ozx:azv Tryz.prog tb (Czo):=(.cons hzV .nil)
def ozz (back:Int×Int×Expr×Env×Place×List (Val)×Int×Int→Option (List (Val)))(x:Int×Int×Expr×Env×Place×List (Val)×Int×Int):Option (List (Val)) :=
 brn (decide (x.2.2.2.2.2.2.snd<x.2.2.2.2.2.2.fst))
  (obnd (ezV ({v:=x.2.2.2.fst,at_:=x.2.2.2.2.fst,rows:=x.fst,cols:=x.2.fst,cell:=x.2.2.2.2.2.2.snd},azC x.2.2.fst)) fun y =>
   obnd (app 56 x.2.2.2.2.2.fst [y]) fun zs=>back (x.fst,x.2.fst,azC x.2.2.fst,x.2.2.2.fst,x.2.2.2.2.fst,zs,x.2.2.2.2.2.2.fst,IntKind.i64.wrap (x.2.2.2.2.2.2.snd+1)))
  (some x.2.2.2.2.2.1)
def ozA:Int×Int×Expr×Env×Place×List (Val)×Int×Int→Option (List (Val)):=iter ozz big
def ozy:CutSpec tb:=⟨52,[(3,.val 3),(4,.val 3),(5,.ro 96),(6,.ro 100),(7,.ro 88),(11,.own 32),(27,.val 3),(28,.val 3)],[((.exit 0),[(11,.own 32)])],[29,30,12,31,32,33,34,35,36,37,38,39,40,41,11,42,28],ozA⟩
theorem uzF:azi ([]:List (CutSpec tb)) (azf 52 Tryz.f115)=[]:=by kernel_rfl
theorem szR:azm Tryz.prog tb Tryz.f115.ntmps (.loop (azf 52 Tryz.f115)) (ozy):=azz mixed (by kernel_rfl) ozx rfl uzF .nil ozz (fun back x=>by kernel_rfl) rfl
def kzH (x:Expr×Env×Place×Int×Int):Option (List (Val)) :=
 brn (decide (x.2.2.2.fst<1)) (some [])
  (brn (decide (x.2.2.2.snd<1)) (some [])
   (brn (decide (x.2.2.2.snd=0)) none
    (brn (decide (IntKind.i64.wrap (Int.tdiv 4096 x.2.2.2.snd)<x.2.2.2.fst)) (some [])
     (obnd (ozA (x.2.2.2.fst,x.2.2.2.snd,azC x.fst,x.2.fst,x.2.2.fst,[],IntKind.i64.wrap (x.2.2.2.fst*x.2.2.2.snd),0)) fun y=>some y))))
def Czp:FSpec tb:=⟨[(0,.val 96),(1,.val 100),(2,.val 88),(3,.val 3),(4,.val 3)],[(0,.own 32)],kzH⟩
theorem zzS:azi ([ozy]:List (CutSpec tb)) (azA Tryz.f115)=[(52,.loop (azf 52 Tryz.f115))]:=by kernel_rfl
theorem uzG:azd Tryz.prog tb 115 Czp:=azL mixed Tryz.func115 (by kernel_rfl) ozx rfl zzS (.cons rfl szR rfl .nil) (fun x=>by kernel_rfl)
def dzh (x:Expr×Env×Place):Option (Val) :=
 obnd (ezV ({v:=x.2.fst,at_:=x.2.snd,rows:=0,cols:=0,cell:=0},azC x.fst)) fun y=>some y
def wzo:FSpec tb:=⟨[(0,.val 96),(1,.val 100),(2,.val 88)],[(0,.val 32)],dzh⟩
theorem nzd:azd Tryz.prog tb 44 wzo:=azo mixed Tryz.func44 (by kernel_rfl) (.cons hzV .nil) rfl (fun x=>by kernel_rfl)
def zzh (x:Int×Int):Option (Expr) :=
  some
    { Kind := 2, V := { Kind := 0, N := { M := 0, S := 0 }, S := [], B := false, E := 0 },
      A := { A := { Row := x.fst, Col := x.snd, RelRow := false, RelCol := false }, B := { Row := 0, Col := 0, RelRow := false, RelCol := false } }, Sheet := 0, Op := 0, Kids := [] }
def law10_AtS:FSpec tb:=⟨[(0,.val 3),(1,.val 3)],[(0,.val 96)],zzh⟩
theorem yzw:azd Tryz.prog tb 116 law10_AtS:=azo mixed Tryz.func116 (by kernel_rfl) .nil rfl (fun x=>by kernel_rfl)
end
set_option linter.unusedVariables false
def czZ (self:Expr×Int×Int×Int→Option ((Bool)×Int)):FSpec tb:=⟨[(0,.val 81),(1,.val 3),(2,.val 3),(3,.ref 3)],[(0,.val 4)],self⟩
abbrev pzN (self:Expr×Int×Int×Int→Option ((Bool)×Int)):List (Nat×FSpec tb):=[(197,(czZ self))]
theorem qzC (self:Expr×Int×Int×Int→Option ((Bool)×Int))(hself:azd Tryz.prog tb 197 (czZ self)):azv Tryz.prog tb (pzN self):=(.cons hself .nil)
def ezL (self:Expr×Int×Int×Int→Option ((Bool)×Int))(back:Int×Int×Int×Expr×Int→Option (((Unit)×Int)⊕((Bool)×Int)))(x:Int×Int×Int×Expr×Int):Option (((Unit)×Int)⊕((Bool)×Int)) :=
 brn (decide (x.2.2.2.snd<(↑x.2.2.2.fst.Kids.length:Int)))
  (obnd (idx x.2.2.2.fst.Kids x.2.2.2.snd) fun y =>
   obnd (self (azC y,IntKind.i64.wrap (x.fst-1),x.2.fst,x.2.2.fst)) fun y =>
    brn (!y.1) (some (Sum.inr (false,y.2))) (back (x.fst,x.2.fst,y.2,azC x.2.2.2.fst,IntKind.i64.wrap (x.2.2.2.snd+1))))
  (some (Sum.inl ((),x.2.2.fst)))
def lzm (self:Expr×Int×Int×Int→Option ((Bool)×Int)):Int×Int×Int×Expr×Int→Option (((Unit)×Int)⊕((Bool)×Int)):=iter (ezL self) big
def ezK (self:Expr×Int×Int×Int→Option ((Bool)×Int)):CutSpec tb:=⟨52,[(1,.val 3),(2,.val 3),(3,.ref 3),(4,.ro 81),(9,.val 3)],[((.exit 0),[]),(.ret,[(8,.val 4)])],[32,33,34,35,36,39,40,41,42,43,44,45,46,47,48,49,8,37,38,9],(lzm self)⟩
theorem wzY (self:Expr×Int×Int×Int→Option ((Bool)×Int)):∀back x,fzE Tryz.prog tb (pzN self) [] (azf 52 Tryz.f197) (ezK self).ins (ezK self).outs back x=ezL self back x:=fun back x=>by kernel_rfl
theorem yzz (self:Expr×Int×Int×Int→Option ((Bool)×Int)):cutB Tryz.f197.ntmps (ezK self) (azf 52 Tryz.f197)=true:=by kernel_rfl
theorem wzZ (self:Expr×Int×Int×Int→Option ((Bool)×Int)):azi ([]:List (CutSpec tb)) (azf 52 Tryz.f197)=[]:=by kernel_rfl
theorem vza (self:Expr×Int×Int×Int→Option ((Bool)×Int))(hself:azd Tryz.prog tb 197 (czZ self)):azm Tryz.prog tb Tryz.f197.ntmps (.loop (azf 52 Tryz.f197)) (ezK self):=azz mixed (yzz self) (qzC self hself) rfl (wzZ self) .nil (ezL self) (wzY self) rfl
def czY (self:Expr×Int×Int×Int→Option ((Bool)×Int))(x:Expr×Int×Int×Int):Option ((Bool)×Int) :=
 brn (decide (x.2.fst=0)) (some (false,IntKind.i64.wrap (x.2.2.snd+1)))
  (brn (decide (x.2.2.fst<IntKind.i64.wrap (x.2.2.snd+1))) (some (false,IntKind.i64.wrap (x.2.2.snd+1)))
   (brn (decide (3000<(↑x.fst.V.S.length:Int))) (some (false,IntKind.i64.wrap (x.2.2.snd+1)))
    (obnd ((lzm self) (x.2.fst,x.2.2.fst,IntKind.i64.wrap (x.2.2.snd+1),azC x.fst,0)) fun y=>osum y (fun y=>some (true,y.2)) fun y=>some (y.1,y.2))))
theorem Bza (self:Expr×Int×Int×Int→Option ((Bool)×Int)):∀x,evFn Tryz.prog tb (pzN self) [(ezK self)] Tryz.f197 (czZ (czY self)).ins (czZ (czY self)).outs x=(czZ (czY self)).f x:=fun x=>by kernel_rfl
theorem CzB (self:Expr×Int×Int×Int→Option ((Bool)×Int)):fnK Tryz.f197 (czZ (czY self)).ins (czZ (czY self)).outs=true:=by kernel_rfl
theorem Bzb (self:Expr×Int×Int×Int→Option ((Bool)×Int)):azi ([(ezK self)]:List (CutSpec tb)) (azA Tryz.f197)=[(52,.loop (azf 52 Tryz.f197))]:=by kernel_rfl
theorem yzA (self:Expr×Int×Int×Int→Option ((Bool)×Int))(hself:azd Tryz.prog tb 197 (czZ self)):azd Tryz.prog tb 197 (czZ (czY self)):=azL mixed Tryz.func197 (CzB self) (qzC self hself) rfl (Bzb self) (.cons rfl (vza self hself) rfl .nil) (Bza self)
def pzM:Expr×Int×Int×Int→Option ((Bool)×Int):=iter czY big
def DzA:FSpec tb:=czZ pzM
theorem wz0:azd Tryz.prog tb 197 DzA:=pzI (ezT Tryz.func197 (by kernel_rfl)) yzA
def gzk (x:Expr×Int):Option (Bool) :=
 obnd (pzM (azC x.fst,40,x.snd,0)) fun y=>some y.1
def wzU:FSpec tb:=⟨[(0,.val 81),(1,.val 3)],[(0,.val 4)],gzk⟩
theorem nzp:azd Tryz.prog tb 117 wzU:=azo mixed Tryz.func117 (by kernel_rfl) (.cons wz0 .nil) rfl (fun x=>by kernel_rfl)
abbrev DzB:List (Nat×FSpec tb):=[(117,wzU)]
theorem lzn:azv Tryz.prog tb (DzB):=(.cons nzp .nil)
def gzy (back:Env×Int→Option ((Unit)⊕(Bool)))(x:Env×Int):Option ((Unit)⊕(Bool)) :=
 brn (decide (x.snd<(↑x.fst.Slots.length:Int)))
  (obnd (idx x.fst.Slots x.snd) fun y=>brn (decide (3000<(↑y.V.S.length:Int))) (some (Sum.inr false)) (back (x.fst,IntKind.i64.wrap (x.snd+1))))
  (some (Sum.inl PUnit.unit))
def lzo:Env×Int→Option ((Unit)⊕(Bool)):=iter gzy big
def qzD:CutSpec tb:=⟨44,[(1,.ro 84),(3,.val 3)],[((.exit 0),[]),(.ret,[(2,.val 4)])],[15,16,17,18,19,22,23,24,25,26,27,28,29,30,2,20,21,3],lzo⟩
theorem wz1:azi ([]:List (CutSpec tb)) (azf 44 Tryz.f118)=[]:=by kernel_rfl
theorem vzb:azm Tryz.prog tb Tryz.f118.ntmps (.loop (azf 44 Tryz.f118)) (qzD):=azz mixed (by kernel_rfl) lzn rfl wz1 .nil gzy (fun back x=>by kernel_rfl) rfl
def gzz (back:Env×Int→Option ((Unit)⊕(Bool)))(x:Env×Int):Option ((Unit)⊕(Bool)) :=
 brn (decide (x.snd<(↑x.fst.Names.length:Int)))
  (obnd (idx x.fst.Names x.snd) fun y=>obnd (gzk (azC y,200)) fun y=>brn (!y) (some (Sum.inr false)) (back (x.fst,IntKind.i64.wrap (x.snd+1))))
  (some (Sum.inl PUnit.unit))
def lzp:Env×Int→Option ((Unit)⊕(Bool)):=iter gzz big
def qzE:CutSpec tb:=⟨84,[(1,.ro 84),(4,.val 3)],[((.exit 2),[]),(.ret,[(2,.val 4)])],[31,32,33,34,35,38,39,40,41,42,43,44,2,36,37,4],lzp⟩
theorem wz2:azi ([]:List (CutSpec tb)) (azf 84 Tryz.f118)=[]:=by kernel_rfl
theorem vzc:azm Tryz.prog tb Tryz.f118.ntmps (.loop (azf 84 Tryz.f118)) (qzE):=azz mixed (by kernel_rfl) lzn rfl wz2 .nil gzz (fun back x=>by kernel_rfl) rfl
def lzP (x:Env):Option (Bool) :=
 brn (decide (60<(↑x.Slots.length:Int))) (some false)
  (brn (decide (20<(↑x.Names.length:Int))) (some false)
   (obnd (lzo (x,0)) fun y=>osum y (fun y=>obnd (lzp (x,0)) fun y=>osum y (fun y=>some true) fun y=>some y) fun y=>some y))
def DzC:FSpec tb:=⟨[(0,.val 84)],[(0,.val 4)],lzP⟩
theorem Bzc:azi ([qzD,qzE]:List (CutSpec tb)) (azA Tryz.f118)=[(44,.loop (azf 44 Tryz.f118)),(84,.loop (azf 84 Tryz.f118))]:=by kernel_rfl
theorem wz3:azd Tryz.prog tb 118 DzC:=azL mixed Tryz.func118 (by kernel_rfl) lzn rfl Bzc (.cons rfl vzb rfl (.cons rfl vzc rfl .nil)) (fun x=>by kernel_rfl)
def fzO (self:Expr→Option (Int)):FSpec tb:=⟨[(0,.val 81)],[(0,.val 3)],self⟩
abbrev Bzu (self:Expr→Option (Int)):List (Nat×FSpec tb):=[(198,(fzO self))]
theorem nzF (self:Expr→Option (Int))(hself:azd Tryz.prog tb 198 (fzO self)):azv Tryz.prog tb (Bzu self):=(.cons hself .nil)
def ez7 (self:Expr→Option (Int))(back:Expr×Int×Int→Option (Int))(x:Expr×Int×Int):Option (Int) :=
 brn (decide (x.2.snd<(↑x.fst.Kids.length:Int)))
  (obnd (idx x.fst.Kids x.2.snd) fun y =>
   obnd (self (azC y)) fun y =>
    brn (decide (x.2.fst<y)) (back (azC x.fst,y,IntKind.i64.wrap (x.2.snd+1))) (back (azC x.fst,x.2.fst,IntKind.i64.wrap (x.2.snd+1))))
  (some x.2.1)
def jzw (self:Expr→Option (Int)):Expr×Int×Int→Option (Int):=iter (ez7 self) big
def nzG (self:Expr→Option (Int)):CutSpec tb:=⟨36,[(1,.ro 81),(3,.val 3),(4,.val 3)],[((.exit 0),[(3,.val 3)])],[6,7,8,9,10,13,14,15,16,17,18,5,19,20,21,22,3,11,12,4],(jzw self)⟩
theorem tzi (self:Expr→Option (Int)):azi ([]:List (CutSpec tb)) (azf 36 Tryz.f198)=[]:=by kernel_rfl
theorem rz8 (self:Expr→Option (Int))(hself:azd Tryz.prog tb 198 (fzO self)):azm Tryz.prog tb Tryz.f198.ntmps (.loop (azf 36 Tryz.f198)) (nzG self):=azz mixed (by kernel_rfl) (nzF self hself) rfl (tzi self) .nil (ez7 self) (fun back x=>by kernel_rfl) rfl
def fzN (self:Expr→Option (Int))(x:Expr):Option (Int) :=
 obnd ((jzw self) (azC x,0,0)) fun y=>some (IntKind.i64.wrap (y+1))
theorem yzN (self:Expr→Option (Int)):azi ([(nzG self)]:List (CutSpec tb)) (azA Tryz.f198)=[(36,.loop (azf 36 Tryz.f198))]:=by kernel_rfl
theorem vzm (self:Expr→Option (Int))(hself:azd Tryz.prog tb 198 (fzO self)):azd Tryz.prog tb 198 (fzO (fzN self)):=azL mixed Tryz.func198 (by kernel_rfl) (nzF self hself) rfl (yzN self) (.cons rfl (rz8 self hself) rfl .nil) (fun x=>by kernel_rfl)
def mzG:Expr→Option (Int):=iter fzN big
def Bzv:FSpec tb:=fzO mzG
theorem tzj:azd Tryz.prog tb 198 Bzv:=pzI (ezT Tryz.func198 (by kernel_rfl)) vzm
def fzM (self:Expr→Option (Int)):FSpec tb:=⟨[(0,.val 81)],[(0,.val 3)],self⟩
abbrev Bzs (self:Expr→Option (Int)):List (Nat×FSpec tb):=[(199,(fzM self))]
theorem nzD (self:Expr→Option (Int))(hself:azd Tryz.prog tb 199 (fzM self)):azv Tryz.prog tb (Bzs self):=(.cons hself .nil)
def ez6 (self:Expr→Option (Int))(back:Expr×Int×Int→Option (Int))(x:Expr×Int×Int):Option (Int) :=
 brn (decide (x.2.snd<(↑x.fst.Kids.length:Int)))
  (obnd (idx x.fst.Kids x.2.snd) fun y=>obnd (self (azC y)) fun y=>back (azC x.fst,IntKind.i64.wrap (x.2.fst+y),IntKind.i64.wrap (x.2.snd+1))) (some x.2.1)
def jzv (self:Expr→Option (Int)):Expr×Int×Int→Option (Int):=iter (ez6 self) big
def nzE (self:Expr→Option (Int)):CutSpec tb:=⟨36,[(1,.ro 81),(3,.val 3),(4,.val 3)],[((.exit 0),[(3,.val 3)])],[5,6,7,8,9,12,13,14,15,16,17,18,19,3,10,11,4],(jzv self)⟩
theorem tzg (self:Expr→Option (Int)):azi ([]:List (CutSpec tb)) (azf 36 Tryz.f199)=[]:=by kernel_rfl
theorem rz7 (self:Expr→Option (Int))(hself:azd Tryz.prog tb 199 (fzM self)):azm Tryz.prog tb Tryz.f199.ntmps (.loop (azf 36 Tryz.f199)) (nzE self):=azz mixed (by kernel_rfl) (nzD self hself) rfl (tzg self) .nil (ez6 self) (fun back x=>by kernel_rfl) rfl
def fzL (self:Expr→Option (Int))(x:Expr):Option (Int) :=
 obnd ((jzv self) (azC x,1,0)) fun y=>some y
theorem yzM (self:Expr→Option (Int)):azi ([(nzE self)]:List (CutSpec tb)) (azA Tryz.f199)=[(36,.loop (azf 36 Tryz.f199))]:=by kernel_rfl
theorem vzl (self:Expr→Option (Int))(hself:azd Tryz.prog tb 199 (fzM self)):azd Tryz.prog tb 199 (fzM (fzL self)):=azL mixed Tryz.func199 (by kernel_rfl) (nzD self hself) rfl (yzM self) (.cons rfl (rz7 self hself) rfl .nil) (fun x=>by kernel_rfl)
def mzF:Expr→Option (Int):=iter fzL big
def Bzt:FSpec tb:=fzM mzF
theorem tzh:azd Tryz.prog tb 199 Bzt:=pzI (ezT Tryz.func199 (by kernel_rfl)) vzl
def mzJ (x:Int):Option (Bool×Int×Bool×Bool×Int) :=
 brn (decide (x=1)) (some (true,0,false,false,0))
  (brn (decide (x=2)) (some (false,1,false,false,0))
   (brn (decide (x=3)) (some (false,2,false,false,0))
    (brn (decide (x=4)) (some (false,1,true,false,0))
     (brn (decide (x=5)) (some (false,2,true,false,0))
      (brn (decide (x=6)) (some (false,0,false,true,0))
       (brn (decide (x=7)) (some (false,0,false,true,1))
        (brn (decide (x=8)) (some (false,0,false,true,2)) (brn (decide (x=9)) (some (false,0,false,true,-1)) (some (false,0,false,false,1))))))))))
def sza:FSpec tb:=⟨[(0,.val 3)],[(0,.val 4),(1,.val 3),(2,.val 4),(3,.val 4),(4,.val 3)],mzJ⟩
theorem tzs:azd Tryz.prog tb 261 sza:=azo mixed Tryz.func261 (by kernel_rfl) .nil rfl (fun x=>by kernel_rfl)
def dzi (x:Cell):Option (Bool) :=
 brn (decide (0≤x.Row)) (brn (decide (x.Row<65536)) (brn (decide (0≤x.Col)) (some (decide (x.Col<256))) (some false)) (some false)) (some false)
def CzI:FSpec tb:=⟨[(0,.val 103)],[(0,.val 4)],dzi⟩
theorem mzH:azd Tryz.prog tb 238 CzI:=azo mixed Tryz.func238 (by kernel_rfl) .nil rfl (fun x=>by kernel_rfl)
def cz0 (x:Ref):Option (Int) :=
 obnd (dzi {Row:=x.Row,Col:=x.Col}) fun y=>brn (!y) (some 12) (some 0)
def xzm:FSpec tb:=⟨[(0,.val 76)],[(0,.val 3)],cz0⟩
theorem pz1:azd Tryz.prog tb 278 xzm:=azo mixed Tryz.func278 (by kernel_rfl) (.cons mzH .nil) rfl (fun x=>by kernel_rfl)
def bzT (x:Area):Option (Int) :=
 obnd (cz0 x.A) fun y=>brn (!decide (y=0)) (some 12) (obnd (cz0 x.B) fun y=>some y)
def mzD:FSpec tb:=⟨[(0,.val 78)],[(0,.val 3)],bzT⟩
theorem oz1:azd Tryz.prog tb 262 mzD:=azo mixed Tryz.func262 (by kernel_rfl) (.cons pz1 .nil) rfl (fun x=>by kernel_rfl)
abbrev CzJ:List (Nat×FSpec tb):=[(261,sza),(57,jzt),(262,mzD)]
theorem dz5:azv Tryz.prog tb (CzJ):=(.cons tzs (.cons jzu (.cons oz1 .nil)))
def kzl (x:Expr):Option (Bool) :=
 brn (decide (x.Kind<1)) (some true) (some (decide (10<x.Kind)))
def oz5:CutSpec tb:=⟨16,[(1,.ro 81)],[(.normal,[(18,.val 4)])],[11,12,13,14,15,16,17,18],(kzl)⟩
theorem vzp:azi ([]:List (CutSpec tb)) (azD 16 Tryz.f237)=[]:=by kernel_rfl
theorem tzl:azm Tryz.prog tb Tryz.f237.ntmps (azD 16 Tryz.f237) (oz5):=czF mixed (by kernel_rfl) dz5 rfl vzp .nil (fun x=>by kernel_rfl)
def hzQ (x:Expr×Bool×Int×Bool×Bool×Int):Option (Bool) :=
 brn (!x.2.fst)
  (brn
   (bif true then
    !(decide (x.fst.V.Kind=0) &&
     (decide (x.fst.V.N.M=0)&&(decide (x.fst.V.N.S=0)&&(decide (x.fst.V.S=[])&&(decide (x.fst.V.B=false)&&decide (x.fst.V.E=0))))))
   else
    decide (x.fst.V.Kind=0)&&(decide (x.fst.V.N.M=0)&&(decide (x.fst.V.N.S=0)&&(decide (x.fst.V.S=[])&&(decide (x.fst.V.B=false)&&decide (x.fst.V.E=0))))))
   (some true)
   (brn (decide (x.2.2.fst<1))
    (brn
     (bif true then !(decide (x.fst.A.A.Row=0)&&(decide (x.fst.A.A.Col=0)&&(decide (x.fst.A.A.RelRow=false)&&decide (x.fst.A.A.RelCol=false))))
     else decide (x.fst.A.A.Row=0)&&(decide (x.fst.A.A.Col=0)&&(decide (x.fst.A.A.RelRow=false)&&decide (x.fst.A.A.RelCol=false))))
     (some true)
     (brn (decide (x.2.2.fst<2))
      (brn
       (bif true then !(decide (x.fst.A.B.Row=0)&&(decide (x.fst.A.B.Col=0)&&(decide (x.fst.A.B.RelRow=false)&&decide (x.fst.A.B.RelCol=false))))
       else decide (x.fst.A.B.Row=0)&&(decide (x.fst.A.B.Col=0)&&(decide (x.fst.A.B.RelRow=false)&&decide (x.fst.A.B.RelCol=false))))
       (some true)
       (brn (!x.2.2.2.fst)
        (brn (!decide (x.fst.Sheet=0)) (some true)
         (brn (!x.2.2.2.2.fst) (brn (!decide (x.fst.Op=0)) (some true) (brn (decide (x.2.2.2.2.snd=0)) (some (decide (0<(↑x.fst.Kids.length:Int)))) (some false)))
          (brn (decide (x.2.2.2.2.snd=0)) (some (decide (0<(↑x.fst.Kids.length:Int)))) (some false))))
        (brn (!x.2.2.2.2.fst) (brn (!decide (x.fst.Op=0)) (some true) (brn (decide (x.2.2.2.2.snd=0)) (some (decide (0<(↑x.fst.Kids.length:Int)))) (some false)))
         (brn (decide (x.2.2.2.2.snd=0)) (some (decide (0<(↑x.fst.Kids.length:Int)))) (some false)))))
      (brn (!x.2.2.2.fst)
       (brn (!decide (x.fst.Sheet=0)) (some true)
        (brn (!x.2.2.2.2.fst) (brn (!decide (x.fst.Op=0)) (some true) (brn (decide (x.2.2.2.2.snd=0)) (some (decide (0<(↑x.fst.Kids.length:Int)))) (some false)))
         (brn (decide (x.2.2.2.2.snd=0)) (some (decide (0<(↑x.fst.Kids.length:Int)))) (some false))))
       (brn (!x.2.2.2.2.fst) (brn (!decide (x.fst.Op=0)) (some true) (brn (decide (x.2.2.2.2.snd=0)) (some (decide (0<(↑x.fst.Kids.length:Int)))) (some false)))
        (brn (decide (x.2.2.2.2.snd=0)) (some (decide (0<(↑x.fst.Kids.length:Int)))) (some false))))))
    (brn (decide (x.2.2.fst<2))
     (brn
      (bif true then !(decide (x.fst.A.B.Row=0)&&(decide (x.fst.A.B.Col=0)&&(decide (x.fst.A.B.RelRow=false)&&decide (x.fst.A.B.RelCol=false))))
      else decide (x.fst.A.B.Row=0)&&(decide (x.fst.A.B.Col=0)&&(decide (x.fst.A.B.RelRow=false)&&decide (x.fst.A.B.RelCol=false))))
      (some true)
      (brn (!x.2.2.2.fst)
       (brn (!decide (x.fst.Sheet=0)) (some true)
        (brn (!x.2.2.2.2.fst) (brn (!decide (x.fst.Op=0)) (some true) (brn (decide (x.2.2.2.2.snd=0)) (some (decide (0<(↑x.fst.Kids.length:Int)))) (some false)))
         (brn (decide (x.2.2.2.2.snd=0)) (some (decide (0<(↑x.fst.Kids.length:Int)))) (some false))))
       (brn (!x.2.2.2.2.fst) (brn (!decide (x.fst.Op=0)) (some true) (brn (decide (x.2.2.2.2.snd=0)) (some (decide (0<(↑x.fst.Kids.length:Int)))) (some false)))
        (brn (decide (x.2.2.2.2.snd=0)) (some (decide (0<(↑x.fst.Kids.length:Int)))) (some false)))))
     (brn (!x.2.2.2.fst)
      (brn (!decide (x.fst.Sheet=0)) (some true)
       (brn (!x.2.2.2.2.fst) (brn (!decide (x.fst.Op=0)) (some true) (brn (decide (x.2.2.2.2.snd=0)) (some (decide (0<(↑x.fst.Kids.length:Int)))) (some false)))
        (brn (decide (x.2.2.2.2.snd=0)) (some (decide (0<(↑x.fst.Kids.length:Int)))) (some false))))
      (brn (!x.2.2.2.2.fst) (brn (!decide (x.fst.Op=0)) (some true) (brn (decide (x.2.2.2.2.snd=0)) (some (decide (0<(↑x.fst.Kids.length:Int)))) (some false)))
       (brn (decide (x.2.2.2.2.snd=0)) (some (decide (0<(↑x.fst.Kids.length:Int)))) (some false)))))))
  (brn (decide (x.2.2.fst<1))
   (brn
    (bif true then !(decide (x.fst.A.A.Row=0)&&(decide (x.fst.A.A.Col=0)&&(decide (x.fst.A.A.RelRow=false)&&decide (x.fst.A.A.RelCol=false))))
    else decide (x.fst.A.A.Row=0)&&(decide (x.fst.A.A.Col=0)&&(decide (x.fst.A.A.RelRow=false)&&decide (x.fst.A.A.RelCol=false))))
    (some true)
    (brn (decide (x.2.2.fst<2))
     (brn
      (bif true then !(decide (x.fst.A.B.Row=0)&&(decide (x.fst.A.B.Col=0)&&(decide (x.fst.A.B.RelRow=false)&&decide (x.fst.A.B.RelCol=false))))
      else decide (x.fst.A.B.Row=0)&&(decide (x.fst.A.B.Col=0)&&(decide (x.fst.A.B.RelRow=false)&&decide (x.fst.A.B.RelCol=false))))
      (some true)
      (brn (!x.2.2.2.fst)
       (brn (!decide (x.fst.Sheet=0)) (some true)
        (brn (!x.2.2.2.2.fst) (brn (!decide (x.fst.Op=0)) (some true) (brn (decide (x.2.2.2.2.snd=0)) (some (decide (0<(↑x.fst.Kids.length:Int)))) (some false)))
         (brn (decide (x.2.2.2.2.snd=0)) (some (decide (0<(↑x.fst.Kids.length:Int)))) (some false))))
       (brn (!x.2.2.2.2.fst) (brn (!decide (x.fst.Op=0)) (some true) (brn (decide (x.2.2.2.2.snd=0)) (some (decide (0<(↑x.fst.Kids.length:Int)))) (some false)))
        (brn (decide (x.2.2.2.2.snd=0)) (some (decide (0<(↑x.fst.Kids.length:Int)))) (some false)))))
     (brn (!x.2.2.2.fst)
      (brn (!decide (x.fst.Sheet=0)) (some true)
       (brn (!x.2.2.2.2.fst) (brn (!decide (x.fst.Op=0)) (some true) (brn (decide (x.2.2.2.2.snd=0)) (some (decide (0<(↑x.fst.Kids.length:Int)))) (some false)))
        (brn (decide (x.2.2.2.2.snd=0)) (some (decide (0<(↑x.fst.Kids.length:Int)))) (some false))))
      (brn (!x.2.2.2.2.fst) (brn (!decide (x.fst.Op=0)) (some true) (brn (decide (x.2.2.2.2.snd=0)) (some (decide (0<(↑x.fst.Kids.length:Int)))) (some false)))
       (brn (decide (x.2.2.2.2.snd=0)) (some (decide (0<(↑x.fst.Kids.length:Int)))) (some false))))))
   (brn (decide (x.2.2.fst<2))
    (brn
     (bif true then !(decide (x.fst.A.B.Row=0)&&(decide (x.fst.A.B.Col=0)&&(decide (x.fst.A.B.RelRow=false)&&decide (x.fst.A.B.RelCol=false))))
     else decide (x.fst.A.B.Row=0)&&(decide (x.fst.A.B.Col=0)&&(decide (x.fst.A.B.RelRow=false)&&decide (x.fst.A.B.RelCol=false))))
     (some true)
     (brn (!x.2.2.2.fst)
      (brn (!decide (x.fst.Sheet=0)) (some true)
       (brn (!x.2.2.2.2.fst) (brn (!decide (x.fst.Op=0)) (some true) (brn (decide (x.2.2.2.2.snd=0)) (some (decide (0<(↑x.fst.Kids.length:Int)))) (some false)))
        (brn (decide (x.2.2.2.2.snd=0)) (some (decide (0<(↑x.fst.Kids.length:Int)))) (some false))))
      (brn (!x.2.2.2.2.fst) (brn (!decide (x.fst.Op=0)) (some true) (brn (decide (x.2.2.2.2.snd=0)) (some (decide (0<(↑x.fst.Kids.length:Int)))) (some false)))
       (brn (decide (x.2.2.2.2.snd=0)) (some (decide (0<(↑x.fst.Kids.length:Int)))) (some false)))))
    (brn (!x.2.2.2.fst)
     (brn (!decide (x.fst.Sheet=0)) (some true)
      (brn (!x.2.2.2.2.fst) (brn (!decide (x.fst.Op=0)) (some true) (brn (decide (x.2.2.2.2.snd=0)) (some (decide (0<(↑x.fst.Kids.length:Int)))) (some false)))
       (brn (decide (x.2.2.2.2.snd=0)) (some (decide (0<(↑x.fst.Kids.length:Int)))) (some false))))
     (brn (!x.2.2.2.2.fst) (brn (!decide (x.fst.Op=0)) (some true) (brn (decide (x.2.2.2.2.snd=0)) (some (decide (0<(↑x.fst.Kids.length:Int)))) (some false)))
      (brn (decide (x.2.2.2.2.snd=0)) (some (decide (0<(↑x.fst.Kids.length:Int)))) (some false))))))
def oz6:CutSpec tb:=⟨40,[(1,.ro 81),(3,.val 4),(4,.val 3),(5,.val 4),(6,.val 4),(7,.val 3)],[(.normal,[(85,.val 4)])],[28,29,30,31,32,33,34,35,36,37,38,39,40,41,42,43,44,45,46,47,48,49,50,51,52,53,54,55,56,57,58,59,60,61,62,63,64,65,66,67,68,69,70,71,72,73,74,75,76,77,78,79,80,81,82,83,84,85],(hzQ)⟩
theorem vzq:azi ([]:List (CutSpec tb)) (azD 40 Tryz.f237)=[]:=by kernel_rfl
theorem tzm:azm Tryz.prog tb Tryz.f237.ntmps (azD 40 Tryz.f237) (oz6):=czF mixed (by kernel_rfl) dz5 rfl vzq .nil (fun x=>by kernel_rfl)
def czJ (x:Expr×Bool):Option (Bool) :=
 brn x.snd (brn (decide (x.fst.Sheet<0)) (some true) (some (decide (8≤x.fst.Sheet)))) (some false)
def oz7:CutSpec tb:=⟨120,[(1,.ro 81),(5,.val 4)],[(.normal,[(115,.val 4)])],[105,106,107,108,109,110,111,112,113,114,115],(czJ)⟩
theorem vzr:azi ([]:List (CutSpec tb)) (azD 120 Tryz.f237)=[]:=by kernel_rfl
theorem tzn:azm Tryz.prog tb Tryz.f237.ntmps (azD 120 Tryz.f237) (oz7):=czF mixed (by kernel_rfl) dz5 rfl vzr .nil (fun x=>by kernel_rfl)
def czK (x:Int×Int×Int):Option (Int×Int) :=
 brn (decide (x.2.snd=6)) (some (x.fst,1023))
  (brn (decide (x.2.snd=7)) (some (1,3)) (brn (decide (x.2.snd=8)) (some (1,12)) (brn (decide (x.2.snd=9)) (some (x.fst,29)) (some (x.fst,x.2.fst)))))
def oz8:CutSpec tb:=⟨163,[(9,.val 3),(10,.val 3),(117,.val 3)],[(.normal,[(9,.val 3),(10,.val 3)])],[119,118,10,121,120,9,123,122,125,124],(czK)⟩
theorem vzs:azi ([]:List (CutSpec tb)) (azD 163 Tryz.f237)=[]:=by kernel_rfl
theorem tzo:azm Tryz.prog tb Tryz.f237.ntmps (azD 163 Tryz.f237) (oz8):=czF mixed (by kernel_rfl) dz5 rfl vzs .nil (fun x=>by kernel_rfl)
def bz1 (x:Expr×Int×Int×Int):Option (Bool) :=
 brn (decide (x.fst.Op<x.2.2.fst)) (some true)
  (brn (decide (x.2.2.snd<x.fst.Op)) (some true)
   (brn (decide (0<x.2.fst)) (brn (!decide ((↑x.fst.Kids.length:Int)=x.2.fst)) (some true) (some (decide (30<(↑x.fst.Kids.length:Int)))))
    (some (decide (30<(↑x.fst.Kids.length:Int))))))
def oz9:CutSpec tb:=⟨240,[(1,.ro 81),(7,.val 3),(9,.val 3),(10,.val 3)],[(.normal,[(152,.val 4)])],[126,127,128,129,130,131,132,133,134,135,136,137,138,139,140,141,142,143,144,145,146,147,148,149,150,151,152],(bz1)⟩
theorem vzt:azi ([]:List (CutSpec tb)) (azD 240 Tryz.f237)=[]:=by kernel_rfl
theorem tzp:azm Tryz.prog tb Tryz.f237.ntmps (azD 240 Tryz.f237) (oz9):=czF mixed (by kernel_rfl) dz5 rfl vzt .nil (fun x=>by kernel_rfl)
def kzN (x:Expr):Option (Int) :=
 obnd (kzl (azC x)) fun y =>
  brn y (some 1)
   (obnd (mzJ x.Kind) fun y =>
    obnd (hzQ (azC x,y.fst,y.2.fst,y.2.2.fst,y.2.2.2)) fun y_1 =>
     brn y_1 (some 1)
      (brn y.fst
       (obnd (bz4 x.V) fun y_2 =>
        brn (!decide (y_2=0)) (some y_2)
         (brn (decide (x.V.Kind=0)) (some 1)
          (brn (decide (0<y.2.fst))
           (obnd (bzT x.A) fun y_3 =>
            brn (!decide (y_3=0)) (some 12)
             (obnd (czJ (azC x,y.2.2.fst)) fun y_4 =>
              brn y_4 (some 1) (obnd (czK (0,0,x.Kind)) fun y_5=>obnd (bz1 (azC x,y.2.2.2.snd,y_5)) fun y=>brn y (some 1) (some 0))))
           (obnd (czJ (azC x,y.2.2.fst)) fun y_3 =>
            brn y_3 (some 1) (obnd (czK (0,0,x.Kind)) fun y_4=>obnd (bz1 (azC x,y.2.2.2.snd,y_4)) fun y=>brn y (some 1) (some 0))))))
       (brn (decide (0<y.2.fst))
        (obnd (bzT x.A) fun y_2 =>
         brn (!decide (y_2=0)) (some 12)
          (obnd (czJ (azC x,y.2.2.fst)) fun y_3 =>
           brn y_3 (some 1) (obnd (czK (0,0,x.Kind)) fun y_4=>obnd (bz1 (azC x,y.2.2.2.snd,y_4)) fun y=>brn y (some 1) (some 0))))
        (obnd (czJ (azC x,y.2.2.fst)) fun y_2 =>
         brn y_2 (some 1) (obnd (czK (0,0,x.Kind)) fun y_3=>obnd (bz1 (azC x,y.2.2.2.snd,y_3)) fun y=>brn y (some 1) (some 0))))))
def tz9:FSpec tb:=⟨[(0,.val 81)],[(0,.val 3)],kzN⟩
theorem zz9:azi ([oz5,oz6,oz7,oz8,oz9]:List (CutSpec tb)) (azA Tryz.f237)=[(16,azD 16 Tryz.f237),(40,azD 40 Tryz.f237),(120,azD 120 Tryz.f237),(163,azD 163 Tryz.f237),(240,azD 240 Tryz.f237)]:=by kernel_rfl
theorem vzu:azd Tryz.prog tb 237 tz9:=azL mixed Tryz.func237 (by kernel_rfl) dz5 rfl zz9 (.cons rfl tzl rfl (.cons rfl tzm rfl (.cons rfl tzn rfl (.cons rfl tzo rfl (.cons rfl tzp rfl .nil))))) (fun x=>by kernel_rfl)
def fzQ (self:Expr→Option (Int)):FSpec tb:=⟨[(0,.val 81)],[(0,.val 3)],self⟩
abbrev Bzx (self:Expr→Option (Int)):List (Nat×FSpec tb):=[(237,tz9),(200,(fzQ self))]
theorem nzH (self:Expr→Option (Int))(hself:azd Tryz.prog tb 200 (fzQ self)):azv Tryz.prog tb (Bzx self):=(.cons vzu (.cons hself .nil))
def ez8 (self:Expr→Option (Int))(back:Expr×Int×Int→Option (Int))(x:Expr×Int×Int):Option (Int) :=
 brn (decide (x.2.snd<(↑x.fst.Kids.length:Int)))
  (brn (decide (x.2.fst=0)) (obnd (idx x.fst.Kids x.2.snd) fun y=>obnd (self (azC y)) fun y=>back (azC x.fst,y,IntKind.i64.wrap (x.2.snd+1))) (some x.2.1))
  (some x.2.1)
def jzx (self:Expr→Option (Int)):Expr×Int×Int→Option (Int):=iter (ez8 self) big
def nzI (self:Expr→Option (Int)):CutSpec tb:=⟨36,[(1,.ro 81),(3,.val 3),(4,.val 3)],[((.exit 0),[(3,.val 3)])],[7,8,9,10,11,12,13,14,15,18,19,20,21,22,23,3,16,17,4],(jzx self)⟩
theorem tzq (self:Expr→Option (Int)):azi ([]:List (CutSpec tb)) (azf 36 Tryz.f200)=[]:=by kernel_rfl
theorem rz9 (self:Expr→Option (Int))(hself:azd Tryz.prog tb 200 (fzQ self)):azm Tryz.prog tb Tryz.f200.ntmps (.loop (azf 36 Tryz.f200)) (nzI self):=azz mixed (by kernel_rfl) (nzH self hself) rfl (tzq self) .nil (ez8 self) (fun back x=>by kernel_rfl) rfl
def fzP (self:Expr→Option (Int))(x:Expr):Option (Int) :=
 obnd (kzN (azC x)) fun y=>obnd ((jzx self) (azC x,y,0)) fun y=>some y
theorem yzO (self:Expr→Option (Int)):azi ([(nzI self)]:List (CutSpec tb)) (azA Tryz.f200)=[(36,.loop (azf 36 Tryz.f200))]:=by kernel_rfl
theorem vzv (self:Expr→Option (Int))(hself:azd Tryz.prog tb 200 (fzQ self)):azd Tryz.prog tb 200 (fzQ (fzP self)):=azL mixed Tryz.func200 (by kernel_rfl) (nzH self hself) rfl (yzO self) (.cons rfl (rz9 self hself) rfl .nil) (fun x=>by kernel_rfl)
def mzI:Expr→Option (Int):=iter fzP big
def Bzy:FSpec tb:=fzQ mzI
theorem tzr:azd Tryz.prog tb 200 Bzy:=pzI (ezT Tryz.func200 (by kernel_rfl)) vzv
def ezk (x:Expr):Option (Int) :=
 obnd (mzG (azC x)) fun y =>
  brn (decide (16<y)) (some 11) (obnd (mzF (azC x)) fun y=>brn (decide (1024<y)) (some 4) (obnd (mzI (azC x)) fun y=>some y))
def mzE:FSpec tb:=⟨[(0,.val 81)],[(0,.val 3)],ezk⟩
theorem izO:azd Tryz.prog tb 119 mzE:=azo mixed Tryz.func119 (by kernel_rfl) (.cons tzj (.cons tzh (.cons tzr .nil))) rfl (fun x=>by kernel_rfl)
def czD (x:Place×Int):Option (Bool) :=
 brn (decide (0≤x.fst.Sheet)) (brn (decide (x.fst.Sheet<x.snd)) (obnd (dzi x.fst.At) fun y=>some y) (some false)) (some false)
def mzK:FSpec tb:=⟨[(0,.val 105),(1,.val 3)],[(0,.val 4)],czD⟩
theorem pzc:azd Tryz.prog tb 201 mzK:=azo mixed Tryz.func201 (by kernel_rfl) (.cons mzH .nil) rfl (fun x=>by kernel_rfl)
def hz7 (x:Place×Place):Option (Bool) :=
 brn (!decide (x.fst.Sheet=x.snd.Sheet)) (some (decide (x.fst.Sheet<x.snd.Sheet)))
  (brn (!decide (x.fst.At.Row=x.snd.At.Row)) (some (decide (x.fst.At.Row<x.snd.At.Row))) (some (decide (x.fst.At.Col<x.snd.At.Col))))
def uza:FSpec tb:=⟨[(0,.val 105),(1,.val 105)],[(0,.val 4)],hz7⟩
theorem vzw:azd Tryz.prog tb 202 uza:=azo mixed Tryz.func202 (by kernel_rfl) .nil rfl (fun x=>by kernel_rfl)
def czw (self:Expr→Option (List (Expr))):FSpec tb:=⟨[(0,.val 81)],[(0,.own 81)],self⟩
abbrev oze (self:Expr→Option (List (Expr))):List (Nat×FSpec tb):=[(49,(czw self))]
theorem oz4 (self:Expr→Option (List (Expr)))(hself:azd Tryz.prog tb 49 (czw self)):azv Tryz.prog tb (oze self):=(.cons hself .nil)
def dz4 (self:Expr→Option (List (Expr)))(back:Expr×List (Expr)×Int→Option (List (Expr)))(x:Expr×List (Expr)×Int):Option (List (Expr)) :=
 brn (decide (x.2.snd<(↑x.fst.Kids.length:Int)))
  (obnd (idx x.fst.Kids x.2.snd) fun y=>obnd (self (azC y)) fun y=>obnd (app 152 x.2.fst y) fun zs=>back (azC x.fst,zs,IntKind.i64.wrap (x.2.snd+1)))
  (some x.2.1)
def hzP (self:Expr→Option (List (Expr))):Expr×List (Expr)×Int→Option (List (Expr)):=iter (dz4 self) big
def dz3 (self:Expr→Option (List (Expr))):CutSpec tb:=⟨52,[(1,.ro 81),(3,.own 81),(4,.val 3)],[((.exit 0),[(3,.own 81)])],[15,16,17,18,19,22,23,24,25,26,27,28,29,3,20,21,4],(hzP self)⟩
theorem vzn (self:Expr→Option (List (Expr))):∀back x,fzE Tryz.prog tb (oze self) [] (azf 52 Tryz.f49) (dz3 self).ins (dz3 self).outs back x=dz4 self back x:=fun back x=>by kernel_rfl
theorem xzo (self:Expr→Option (List (Expr))):cutB Tryz.f49.ntmps (dz3 self) (azf 52 Tryz.f49)=true:=by kernel_rfl
theorem vzo (self:Expr→Option (List (Expr))):azi ([]:List (CutSpec tb)) (azf 52 Tryz.f49)=[]:=by kernel_rfl
theorem tzk (self:Expr→Option (List (Expr)))(hself:azd Tryz.prog tb 49 (czw self)):azm Tryz.prog tb Tryz.f49.ntmps (.loop (azf 52 Tryz.f49)) (dz3 self):=azz mixed (xzo self) (oz4 self hself) rfl (vzo self) .nil (dz4 self) (vzn self) rfl
def czv (self:Expr→Option (List (Expr)))(x:Expr):Option (List (Expr)) :=
 brn (decide (2≤x.Kind)) (brn (decide (x.Kind≤6)) (some [azC x]) (obnd ((hzP self) (azC x,[],0)) fun y=>some y))
  (obnd ((hzP self) (azC x,[],0)) fun y=>some y)
theorem zz7 (self:Expr→Option (List (Expr))):∀x,evFn Tryz.prog tb (oze self) [(dz3 self)] Tryz.f49 (czw (czv self)).ins (czw (czv self)).outs x=(czw (czv self)).f x:=fun x=>by kernel_rfl
theorem Bzw (self:Expr→Option (List (Expr))):fnK Tryz.f49 (czw (czv self)).ins (czw (czv self)).outs=true:=by kernel_rfl
theorem zz8 (self:Expr→Option (List (Expr))):azi ([(dz3 self)]:List (CutSpec tb)) (azA Tryz.f49)=[(52,.loop (azf 52 Tryz.f49))]:=by kernel_rfl
theorem xzp (self:Expr→Option (List (Expr)))(hself:azd Tryz.prog tb 49 (czw self)):azd Tryz.prog tb 49 (czw (czv self)):=azL mixed Tryz.func49 (Bzw self) (oz4 self hself) rfl (zz8 self) (.cons rfl (tzk self hself) rfl .nil) (zz7 self)
def hz6:Expr→Option (List (Expr)):=iter czv big
def kzM:FSpec tb:=czw hz6
theorem izF:azd Tryz.prog tb 49 kzM:=pzI (ezT Tryz.func49 (by kernel_rfl)) xzp
abbrev Bzz:List (Nat×FSpec tb):=[(49,kzM)]
theorem nzJ:azv Tryz.prog tb (Bzz):=(.cons izF .nil)
def ez9 (back:List Expr×Int→Option ((Unit)⊕(Bool)))(x:List Expr×Int):Option ((Unit)⊕(Bool)) :=
 brn (decide (x.snd<(↑x.fst.length:Int))) (obnd (idx x.fst x.snd) fun y=>brn (decide (y.Kind=6)) (some (Sum.inr true)) (back (x.fst,IntKind.i64.wrap (x.snd+1))))
  (some (Sum.inl PUnit.unit))
def jzz:List Expr×Int→Option ((Unit)⊕(Bool)):=iter ez9 big
def nzK:CutSpec tb:=⟨36,[(3,.val 79),(4,.val 3)],[((.exit 0),[]),(.ret,[(2,.val 4)])],[7,8,9,10,13,14,15,16,17,18,2,11,12,4],jzz⟩
theorem tzu:azi ([]:List (CutSpec tb)) (azf 36 Tryz.f203)=[]:=by kernel_rfl
theorem szc:azm Tryz.prog tb Tryz.f203.ntmps (.loop (azf 36 Tryz.f203)) (nzK):=azz mixed (by kernel_rfl) nzJ rfl tzu .nil ez9 (fun back x=>by kernel_rfl) rfl
def jzy (x:Expr):Option (Bool) :=
 obnd (hz6 (azC x)) fun y=>obnd (jzz (y,0)) fun y=>osum y (fun y=>some false) fun y=>some y
def szb:FSpec tb:=⟨[(0,.val 81)],[(0,.val 4)],jzy⟩
theorem yzP:azi ([nzK]:List (CutSpec tb)) (azA Tryz.f203)=[(36,.loop (azf 36 Tryz.f203))]:=by kernel_rfl
theorem tzv:azd Tryz.prog tb 203 szb:=azL mixed Tryz.func203 (by kernel_rfl) nzJ rfl yzP (.cons rfl szc rfl .nil) (fun x=>by kernel_rfl)
abbrev xzq:List (Nat×FSpec tb):=[(201,mzK),(57,jzt),(202,uza),(119,mzE),(203,szb)]
theorem hzo:azv Tryz.prog tb (xzq):=(.cons pzc (.cons jzu (.cons vzw (.cons izO (.cons tzv .nil)))))
def dzs (back:Env×Int→Option ((Unit)⊕(Int)))(x:Env×Int):Option ((Unit)⊕(Int)) :=
 brn (decide (x.snd<(↑x.fst.Slots.length:Int)))
  (obnd (idx x.fst.Slots x.snd) fun y =>
   obnd (czD (y.P,x.fst.Sheets)) fun y_1 =>
    brn (!y_1) (some (Sum.inr 12))
     (obnd (bz4 y.V) fun y_2 =>
      brn (!decide (y_2=0)) (some (Sum.inr y_2))
       (brn (decide (y.V.Kind=0)) (some (Sum.inr 1))
        (brn (decide (0<x.snd))
         (obnd (idx x.fst.Slots (IntKind.i64.wrap (x.snd-1))) fun y_3 =>
          obnd (hz7 (y_3.P,y.P)) fun y=>brn (!y) (some (Sum.inr 6)) (back (x.fst,IntKind.i64.wrap (x.snd+1))))
         (back (x.fst,IntKind.i64.wrap (x.snd+1)))))))
  (some (Sum.inl PUnit.unit))
def hzp:Env×Int→Option ((Unit)⊕(Int)):=iter dzs big
def kz8:CutSpec tb:=⟨60,[(1,.ro 84),(3,.val 3)],[((.exit 0),[]),(.ret,[(2,.val 3)])],[26,27,28,29,30,33,34,35,36,37,4,38,39,40,41,42,43,2,44,45,46,5,47,48,49,50,51,52,53,54,55,56,57,58,59,60,61,62,63,64,65,66,67,68,31,32,3],hzp⟩
theorem pz3:azi ([]:List (CutSpec tb)) (azf 60 Tryz.f120)=[]:=by kernel_rfl
theorem pza:azm Tryz.prog tb Tryz.f120.ntmps (.loop (azf 60 Tryz.f120)) (kz8):=azz mixed (by kernel_rfl) hzo rfl pz3 .nil dzs (fun back x=>by kernel_rfl) rfl
def dzt (back:Env×Int→Option ((Unit)⊕(Int)))(x:Env×Int):Option ((Unit)⊕(Int)) :=
 brn (decide (x.snd<(↑x.fst.Names.length:Int)))
  (obnd (idx x.fst.Names x.snd) fun y =>
   obnd (ezk (azC y)) fun y =>
    brn (!decide (y=0)) (some (Sum.inr y))
     (obnd (idx x.fst.Names x.snd) fun y=>obnd (jzy (azC y)) fun y=>brn y (some (Sum.inr 3)) (back (x.fst,IntKind.i64.wrap (x.snd+1)))))
  (some (Sum.inl PUnit.unit))
def hzq:Env×Int→Option ((Unit)⊕(Int)):=iter dzt big
def kz9:CutSpec tb:=⟨164,[(1,.ro 84),(6,.val 3)],[((.exit 2),[]),(.ret,[(2,.val 3)])],[69,70,71,72,73,76,77,78,79,80,81,7,82,83,84,2,85,86,87,88,89,90,74,75,6],hzq⟩
theorem pz4:azi ([]:List (CutSpec tb)) (azf 164 Tryz.f120)=[]:=by kernel_rfl
theorem pzb:azm Tryz.prog tb Tryz.f120.ntmps (.loop (azf 164 Tryz.f120)) (kz9):=azz mixed (by kernel_rfl) hzo rfl pz4 .nil dzt (fun back x=>by kernel_rfl) rfl
def gzU (x:Env):Option (Int) :=
 brn (decide (x.Sheets<1)) (some 1)
  (brn (decide (8<x.Sheets)) (some 1)
   (brn (decide (4096<(↑x.Slots.length:Int))) (some 4)
    (brn (decide (1024<(↑x.Names.length:Int))) (some 4)
     (obnd (hzp (x,0)) fun y=>osum y (fun y=>obnd (hzq (x,0)) fun y=>osum y (fun y=>some 0) fun y=>some y) fun y=>some y))))
def xzr:FSpec tb:=⟨[(0,.val 84)],[(0,.val 3)],gzU⟩
theorem tzt:azi ([kz8,kz9]:List (CutSpec tb)) (azA Tryz.f120)=[(60,.loop (azf 60 Tryz.f120)),(164,.loop (azf 164 Tryz.f120))]:=by kernel_rfl
theorem pz5:azd Tryz.prog tb 120 xzr:=azL mixed Tryz.func120 (by kernel_rfl) hzo rfl tzt (.cons rfl pza rfl (.cons rfl pzb rfl .nil)) (fun x=>by kernel_rfl)
abbrev Bze:List (Nat×FSpec tb):=[(49,kzM)]
theorem nzt:azv Tryz.prog tb (Bze):=(.cons izF .nil)
def ez2 (back:List Expr×Int×Int→Option (Int))(x:List Expr×Int×Int):Option (Int) :=
 brn (decide (x.2.snd<(↑x.fst.length:Int)))
  (obnd (idx x.fst x.2.snd) fun y =>
   brn (decide (y.Kind=3)) (back (x.fst,IntKind.i64.wrap (x.2.fst+1),IntKind.i64.wrap (x.2.snd+1)))
    (obnd (idx x.fst x.2.snd) fun y =>
     brn (decide (y.Kind=5)) (back (x.fst,IntKind.i64.wrap (x.2.fst+1),IntKind.i64.wrap (x.2.snd+1))) (back (x.fst,x.2.fst,IntKind.i64.wrap (x.2.snd+1)))))
  (some x.2.1)
def jzl:List Expr×Int×Int→Option (Int):=iter ez2 big
def nzu:CutSpec tb:=⟨44,[(3,.val 79),(4,.val 3),(5,.val 3)],[((.exit 0),[(4,.val 3)])],[8,9,10,11,14,15,16,17,18,19,20,21,22,23,24,25,26,27,28,29,4,12,13,5],jzl⟩
theorem tzc:azi ([]:List (CutSpec tb)) (azf 44 Tryz.f121)=[]:=by kernel_rfl
theorem rzW:azm Tryz.prog tb Tryz.f121.ntmps (.loop (azf 44 Tryz.f121)) (nzu):=azz mixed (by kernel_rfl) nzt rfl tzc .nil ez2 (fun back x=>by kernel_rfl) rfl
def hzj (x:Expr):Option (Bool) :=
 obnd (hz6 (azC x)) fun y=>obnd (jzl (y,0,0)) fun y=>some (decide (y≤4))
def rzV:FSpec tb:=⟨[(0,.val 81)],[(0,.val 4)],hzj⟩
theorem yzD:azi ([nzu]:List (CutSpec tb)) (azA Tryz.f121)=[(44,.loop (azf 44 Tryz.f121))]:=by kernel_rfl
theorem lzz:azd Tryz.prog tb 121 rzV:=azL mixed Tryz.func121 (by kernel_rfl) nzt rfl yzD (.cons rfl rzW rfl .nil) (fun x=>by kernel_rfl)
abbrev wz8:List (Nat×FSpec tb):=[(121,rzV)]
theorem kz3:azv Tryz.prog tb (wz8):=(.cons lzz .nil)
def dzo (back:List Expr×Int→Option ((Unit)⊕(Bool)))(x:List Expr×Int):Option ((Unit)⊕(Bool)) :=
 brn (decide (x.snd<(↑x.fst.length:Int)))
  (obnd (idx x.fst x.snd) fun y=>obnd (hzj (azC y)) fun y=>brn (!y) (some (Sum.inr false)) (back (x.fst,IntKind.i64.wrap (x.snd+1)))) (some (Sum.inl PUnit.unit))
def hzh:List Expr×Int→Option ((Unit)⊕(Bool)):=iter dzo big
def kz4:CutSpec tb:=⟨28,[(0,.val 79),(3,.val 3)],[((.exit 0),[]),(.ret,[(2,.val 4)])],[4,5,6,7,10,11,12,13,14,15,2,8,9,3],hzh⟩
theorem pzR:azi ([]:List (CutSpec tb)) (azf 28 Tryz.f122)=[]:=by kernel_rfl
theorem ozU:azm Tryz.prog tb Tryz.f122.ntmps (.loop (azf 28 Tryz.f122)) (kz4):=azz mixed (by kernel_rfl) kz3 rfl pzR .nil dzo (fun back x=>by kernel_rfl) rfl
def gzT (x:List Expr):Option (Bool) :=
 obnd (hzh (x,0)) fun y=>osum y (fun y=>some true) fun y=>some y
def wz9:FSpec tb:=⟨[(0,.val 79)],[(0,.val 4)],gzT⟩
theorem tzb:azi ([kz4]:List (CutSpec tb)) (azA Tryz.f122)=[(28,.loop (azf 28 Tryz.f122))]:=by kernel_rfl
theorem pzS:azd Tryz.prog tb 122 wz9:=azL mixed Tryz.func122 (by kernel_rfl) kz3 rfl tzb (.cons rfl ozU rfl .nil) (fun x=>by kernel_rfl)
def lzQ (x:Expr×Env):Option (Bool) :=
 obnd (gzk (azC x.fst,60)) fun y =>
  brn y
   (obnd (lzP x.snd) fun y =>
    brn y
     (obnd (ezk (azC x.fst)) fun y =>
      brn (decide (y=0))
       (obnd (gzU x.snd) fun y =>
        brn (decide (y=0)) (obnd (hzj (azC x.fst)) fun y=>brn y (obnd (gzT x.snd.Names) fun y=>some y) (some false)) (some false))
       (some false))
     (some false))
   (some false)
def wz6:FSpec tb:=⟨[(0,.val 81),(1,.val 84)],[(0,.val 4)],lzQ⟩
theorem wz7:azd Tryz.prog tb 43 wz6:=azo mixed Tryz.func43 (by kernel_rfl) (.cons nzp (.cons wz3 (.cons izO (.cons pz5 (.cons lzz (.cons pzS .nil)))))) rfl (fun x=>by kernel_rfl)
def vze (x:Ref):Option (Ref) :=
 some x
def law8_ToS:FSpec tb:=⟨[(0,.val 76)],[(0,.val 91)],vze⟩
theorem zz5:azd Tryz.prog tb 205 law8_ToS:=azo mixed Tryz.func205 (by kernel_rfl) .nil rfl (fun x=>by kernel_rfl)
def mzv (x:Area):Option (Area) :=
 obnd (vze x.A) fun y=>obnd (vze x.B) fun y_1=>some {A:=y,B:=y_1}
def rzX:FSpec tb:=⟨[(0,.val 78)],[(0,.val 93)],mzv⟩
theorem tzd:azd Tryz.prog tb 124 rzX:=azo mixed Tryz.func124 (by kernel_rfl) (.cons zz5 .nil) rfl (fun x=>by kernel_rfl)
def izN (self:Expr→Option (Expr)):FSpec tb:=⟨[(0,.val 81)],[(0,.val 96)],self⟩
abbrev law10_ToG (self:Expr→Option (Expr)):List (Nat×FSpec tb):=[(68,vzf),(124,rzX),(45,(izN self))]
theorem rzL (self:Expr→Option (Expr))(hself:azd Tryz.prog tb 45 (izN self)):azv Tryz.prog tb (law10_ToG self):=(.cons qzG (.cons tzd (.cons hself .nil)))
def hzf (self:Expr→Option (Expr))(back:List (Expr)×Expr×Expr×Int→Option ((List (Expr))×Expr))(x:List (Expr)×Expr×Expr×Int):Option ((List (Expr))×Expr) :=
 brn (decide (x.2.2.snd<(↑x.2.fst.Kids.length:Int)))
  (obnd (idx x.2.fst.Kids x.2.2.snd) fun y =>
   obnd (self (azC y)) fun y =>
    obnd (app 152 x.fst [azC y]) fun zs =>
     back
      (zs,azC x.2.fst,{Kind:=x.2.2.fst.Kind,V:=x.2.2.fst.V,A:=x.2.2.fst.A,Sheet:=x.2.2.fst.Sheet,Op:=x.2.2.fst.Op,Kids:=zs},
       IntKind.i64.wrap (x.2.2.snd+1)))
  (some (x.fst,{Kind:=x.2.2.fst.Kind,V:=x.2.2.fst.V,A:=x.2.2.fst.A,Sheet:=x.2.2.fst.Sheet,Op:=x.2.2.fst.Op,Kids:=x.fst}))
def mzq (self:Expr→Option (Expr)):List (Expr)×Expr×Expr×Int→Option ((List (Expr))×Expr):=iter (hzf self) big
def rzN (self:Expr→Option (Expr)):CutSpec tb:=⟨36,[(77309411331,.own 96),(1,.ro 81),(3,.ref 96),(4,.val 3)],[((.exit 0),[(77309411331,.own 96)])],[18,19,20,21,22,25,26,27,28,29,30,31,32,33,34,35,23,24,4],(mzq self)⟩
theorem yzy (self:Expr→Option (Expr)):azi ([]:List (CutSpec tb)) (azf 36 Tryz.f45)=[]:=by kernel_rfl
theorem wzX (self:Expr→Option (Expr))(hself:azd Tryz.prog tb 45 (izN self)):azm Tryz.prog tb Tryz.f45.ntmps (.loop (azf 36 Tryz.f45)) (rzN self):=azz mixed (by kernel_rfl) (rzL self hself) rfl (yzy self) .nil (hzf self) (fun back x=>by kernel_rfl) rfl
def izM (self:Expr→Option (Expr))(x:Expr):Option (Expr) :=
 obnd (mzx x.V) fun y =>
  obnd (mzv x.A) fun y_1 =>
   obnd ((mzq self) ([],azC x,{Kind:=x.Kind,V:=y,A:=y_1,Sheet:=x.Sheet,Op:=x.Op,Kids:=[]},0)) fun y =>
    some {Kind:=y.2.Kind,V:=y.2.V,A:=y.2.A,Sheet:=y.2.Sheet,Op:=y.2.Op,Kids:=y.1}
theorem CzA (self:Expr→Option (Expr)):azi ([(rzN self)]:List (CutSpec tb)) (azA Tryz.f45)=[(36,.loop (azf 36 Tryz.f45))]:=by kernel_rfl
theorem zz1 (self:Expr→Option (Expr))(hself:azd Tryz.prog tb 45 (izN self)):azd Tryz.prog tb 45 (izN (izM self)):=azL mixed Tryz.func45 (by kernel_rfl) (rzL self hself) rfl (CzA self) (.cons rfl (wzX self hself) rfl .nil) (fun x=>by kernel_rfl)
def nzs:Expr→Option (Expr):=iter izM big
def rzM:FSpec tb:=izN nzs
theorem ozP:azd Tryz.prog tb 45 rzM:=pzI (ezT Tryz.func45 (by kernel_rfl)) zz1
abbrev Az9:List (Nat×FSpec tb):=[(45,rzM)]
theorem nzq:azv Tryz.prog tb (Az9):=(.cons ozP .nil)
def ez1 (back:List Expr×List (Expr)×Int→Option (List (Expr)))(x:List Expr×List (Expr)×Int):Option (List (Expr)) :=
 brn (decide (x.2.snd<(↑x.fst.length:Int)))
  (obnd (idx x.fst x.2.snd) fun y=>obnd (nzs (azC y)) fun y=>obnd (app 152 x.2.fst [azC y]) fun zs=>back (x.fst,zs,IntKind.i64.wrap (x.2.snd+1))) (some x.2.1)
def jzj:List Expr×List (Expr)×Int→Option (List (Expr)):=iter ez1 big
def nzr:CutSpec tb:=⟨36,[(0,.val 79),(3,.own 96),(4,.val 3)],[((.exit 0),[(3,.own 96)])],[5,6,7,8,11,12,13,14,15,16,17,18,3,9,10,4],jzj⟩
theorem sz8:azi ([]:List (CutSpec tb)) (azf 36 Tryz.f125)=[]:=by kernel_rfl
theorem rzK:azm Tryz.prog tb Tryz.f125.ntmps (.loop (azf 36 Tryz.f125)) (nzr):=azz mixed (by kernel_rfl) nzq rfl sz8 .nil ez1 (fun back x=>by kernel_rfl) rfl
def jzi (x:List Expr):Option (List (Expr)) :=
 obnd (jzj (x,[],0)) fun y=>some y
def rzJ:FSpec tb:=⟨[(0,.val 79)],[(0,.own 96)],jzi⟩
theorem yzx:azi ([nzr]:List (CutSpec tb)) (azA Tryz.f125)=[(36,.loop (azf 36 Tryz.f125))]:=by kernel_rfl
theorem sz9:azd Tryz.prog tb 125 rzJ:=azL mixed Tryz.func125 (by kernel_rfl) nzq rfl yzx (.cons rfl rzK rfl .nil) (fun x=>by kernel_rfl)
def rzY (x:Cell):Option (Cell) :=
 some x
def Bzg:FSpec tb:=⟨[(0,.val 103)],[(0,.val 86)],rzY⟩
theorem tze:azd Tryz.prog tb 206 Bzg:=azo mixed Tryz.func206 (by kernel_rfl) .nil rfl (fun x=>by kernel_rfl)
def kzf (x:Place):Option (Place) :=
 obnd (rzY x.At) fun y=>some {Sheet:=x.Sheet,At:=y}
def ozQ:FSpec tb:=⟨[(0,.val 105)],[(0,.val 88)],kzf⟩
theorem qzV:azd Tryz.prog tb 126 ozQ:=azo mixed Tryz.func126 (by kernel_rfl) (.cons tze .nil) rfl (fun x=>by kernel_rfl)
abbrev law14_ToG:List (Nat×FSpec tb):=[(125,rzJ),(126,ozQ),(68,vzf)]
theorem rzO:azv Tryz.prog tb (law14_ToG):=(.cons sz9 (.cons qzV (.cons qzG .nil)))
def hzg (back:List (Slot)×Env×Env×Int→Option ((List (Slot))×Env))(x:List (Slot)×Env×Env×Int):Option ((List (Slot))×Env) :=
 brn (decide (x.2.2.snd<(↑x.2.fst.Slots.length:Int)))
  (obnd (idx x.2.fst.Slots x.2.2.snd) fun y =>
   obnd (kzf y.P) fun y =>
    obnd (idx x.2.fst.Slots x.2.2.snd) fun y_1 =>
     obnd (mzx y_1.V) fun y_2 =>
      obnd (app 80 x.fst [{P:=y,V:=y_2}]) fun zs =>
       back (zs,x.2.fst,{Sheets:=x.2.2.fst.Sheets,Slots:=zs,Names:=x.2.2.fst.Names},IntKind.i64.wrap (x.2.2.snd+1)))
  (some (x.fst,{Sheets:=x.2.2.fst.Sheets,Slots:=x.fst,Names:=x.2.2.fst.Names}))
def mzr:List (Slot)×Env×Env×Int→Option ((List (Slot))×Env):=iter hzg big
def rzP:CutSpec tb:=⟨36,[(8589934595,.own 196),(1,.ro 84),(3,.ref 100),(4,.val 3)],[((.exit 0),[(8589934595,.own 196)])],[11,12,13,14,15,18,19,20,21,22,23,24,25,26,27,28,29,30,31,32,33,34,35,36,37,16,17,4],mzr⟩
theorem yzB:azi ([]:List (CutSpec tb)) (azf 36 Tryz.f46)=[]:=by kernel_rfl
theorem wz4:azm Tryz.prog tb Tryz.f46.ntmps (.loop (azf 36 Tryz.f46)) (rzP):=azz mixed (by kernel_rfl) rzO rfl yzB .nil hzg (fun back x=>by kernel_rfl) rfl
def kz2 (x:Env):Option (Env) :=
 obnd (jzi x.Names) fun y =>
  obnd (mzr ([],x,{Sheets:=x.Sheets,Slots:=[],Names:=y},0)) fun y=>some {Sheets:=y.2.Sheets,Slots:=y.1,Names:=y.2.Names}
def zzi:FSpec tb:=⟨[(0,.val 84)],[(0,.val 100)],kz2⟩
theorem CzC:azi ([rzP]:List (CutSpec tb)) (azA Tryz.f46)=[(36,.loop (azf 36 Tryz.f46))]:=by kernel_rfl
theorem yzC:azd Tryz.prog tb 46 zzi:=azL mixed Tryz.func46 (by kernel_rfl) rzO rfl CzC (.cons rfl wz4 rfl .nil) (fun x=>by kernel_rfl)
end Go.Proofs.YtdgpkbnnljblmaaGreatDoor
/- QC -/
namespace Go.Proofs.YtdgpkbnnljblmaaGreatDoor
open Go Go.Ev Go.Lib
def sz:Nat→Expr→Nat
 | 0,_=>1
 | d+1,e=>1+(e.Kids.map (sz d)).sum
def tr:Nat→Expr→Prop
 | 0,_=>False
 | d+1,e=>e.V.S.length≤3000∧∀k∈e.Kids,tr d k
theorem sz_pos:∀d e,1≤sz d e
 | 0,_=>Nat.le_refl _
 | d+1,e=>by unfold sz;omega
theorem len_sum:∀(l:List Expr) (f:Expr→Nat),(∀k∈l,1≤f k)→l.length≤(l.map f).sum
 | [],_,_=>by simp
 | k::l,f,h=>by
  have h1:=len_sum l f fun x hx=>h x (by simp[hx])
  have h2:=h k (by simp);rw[List.map_cons,List.sum_cons,List.length_cons];omega
theorem kids_sz (d:Nat)(e:Expr):e.Kids.length+1≤sz (d+1) e:=by
 have:=len_sum e.Kids (sz d) fun k _=>sz_pos d k
 unfold sz;omega
theorem mem_sum:∀{l:List Expr} {f:Expr→Nat} {k:Expr},k∈l→f k≤(l.map f).sum
 | x::l,f,k,h=>by
  rw[List.map_cons,List.sum_cons];rcases List.mem_cons.1 h with rfl|h
  ·omega
  ·have:=mem_sum (f:=f) h;omega
theorem kid_sz {d:Nat}{e k:Expr}(h:k∈e.Kids):sz d k+1≤sz (d+1) e:=by
 have:=mem_sum (f:=sz d) h
 show sz d k+1≤1+(e.Kids.map (sz d)).sum
 omega
theorem AzM {self:Expr×Int×Int×Int→Option (Bool×Int)}{d m:Nat}{e:Expr}(hm:m≤1000)(hd:d≤1000)
 (hs:∀k∈e.Kids,∀n:Nat,n≤m→∃b n',self (k,(d:Int),(m:Int),(n:Int))=some (b,((n':Nat):Int))∧(b=true→n'≤m∧n+sz d k≤n'∧tr d k)) :
 ∀t N (n i:Nat),t<N→m<n+t→n≤m→i≤n→i≤e.Kids.length→∃r,iter (ezL self) N (((d+1:Nat):Int),(m:Int),(n:Int),e,(i:Int))=some r ∧
  (∀n',r = .inl ((),n')→∃n2:Nat,n'=n2∧n2≤m∧n+((e.Kids.drop i).map (sz d)).sum≤n2∧∀k∈e.Kids.drop i,tr d k)∧∀b n',r = .inr (b,n')→b=false∧∃n2:Nat,n'=n2
 | 0,_,n,i,_,h,h',_,_=>absurd h (by omega)
 | t+1,0,_,_,h,_,_,_,_=>absurd h (by omega)
 | t+1,N+1,n,i,hN,ht,hn,hin,hi=>by
  rw[azH];generalize hB:iter (ezL self) N=B;unfold ezL;simp only[az8];by_cases hlt:i<e.Kids.length
  ·rw[ltT hlt,azc,idxG hlt,aza,show((d+1:Nat):Int)-1=((d:Nat):Int) by omega,azG (by omega) (by omega)];obtain⟨b,n1,h1,h2⟩:=hs _ (List.getElem_mem hlt) n hn;rw[h1,aza];cases b with
   | false=>exact⟨_,rfl,(fun n' h=>by cases h),fun b n' h=>by cases h;exact⟨rfl,_,rfl⟩⟩
   | true =>
    obtain⟨h3,h4,h5⟩:=h2 rfl;have sp:=sz_pos d e.Kids[i];simp only[Bool.not_true,azb];rw[wr1 (by omega)];obtain⟨r,e1,e2,e3⟩:=AzM hm hd hs t N n1 (i+1) (by omega) (by omega) h3 (by omega) hlt;rw[hB]at e1;refine⟨r,e1,fun n' h=>?_,e3⟩;obtain⟨n2,a1,a2,a3,a4⟩:=e2 n' h;rw[List.drop_eq_getElem_cons hlt];refine⟨n2,a1,a2,by rw[List.map_cons,List.sum_cons];omega,fun k hk=>?_⟩;rcases List.mem_cons.1 hk with rfl|hk
    ·exact h5
    ·exact a4 k hk
  ·have hi:i=e.Kids.length:=by omega
   subst hi;rw[ltF,azb];refine⟨_,rfl,fun n' h=>?_,fun b n' h=>by cases h⟩;cases h;exact⟨n,rfl,hn,by simp,by simp⟩
theorem few_is:∀(d N:Nat) (e:Expr) (m n:Nat),d<N→d≤1000→m≤1000→n≤m→∃b n',iter czY N (e,(d:Int),(m:Int),(n:Int))=some (b,((n':Nat):Int))∧(b=true→n'≤m∧n+sz d e≤n'∧tr d e)
 | _,0,_,_,_,h,_,_,_=>absurd h (by omega)
 | 0,N+1,e,m,n,_,_,hm,hn=>by
  rw[azH];unfold czY;simp only;rw[wr1 (by omega)];exact⟨false,_,rfl,fun h=>by cases h⟩
 | d+1,N+1,e,m,n,hN,hd,hm,hn=>by
  rw[azH];generalize hS:iter czY N=S;unfold czY;simp only[az8];rw[wr1 (by omega),dF0 (show ¬((d+1:Nat):Int)=0 by omega),azb];by_cases h1:(m:Int)<((n+1:Nat):Int)
  ·rw[dT0 h1];exact⟨false,_,rfl,fun h=>by cases h⟩
  rw[dF0 h1,azb];by_cases h2:3000<((e.V.S.length:Nat):Int)
  ·rw[dT0 h2];exact⟨false,_,rfl,fun h=>by cases h⟩
  rw[dF0 h2,azb];obtain⟨r,e1,e2,e3⟩:=AzM (self:=S) (d:=d) (m:=m) (e:=e) hm (by omega)
   (fun k _ n hn=>by
    obtain⟨b,n',a1,a2⟩:=few_is d N k m n (by omega) (by omega) hm hn;rw[←hS];exact⟨b,n',a1,a2⟩) (m+1) big (n+1) 0 (by rw[bz7];omega) (by omega) (by omega) (by omega) (by omega)
  rw[show lzm S (((d+1:Nat):Int),(m:Int),((n+1:Nat):Int),e,0)=some r from e1,aza];rcases r with⟨_,n2⟩|⟨b,n2⟩
  ·obtain⟨n3,rfl,a2,a3,a4⟩:=e2 n2 rfl;refine⟨true,n3,rfl,fun _=>⟨a2,?_,?_⟩⟩
   ·show n+(1+(e.Kids.map (sz d)).sum)≤n3
    rw[List.drop_zero]at a3;omega
   ·rw[List.drop_zero]at a4;exact⟨by omega,a4⟩
  ·obtain⟨rfl,n3,rfl⟩:=e3 _ _ rfl;exact⟨false,n3,rfl,fun h=>by cases h⟩
theorem Few_is {e:Expr}{m:Nat}(hm:m≤1000):∃b,gzk (e,(m:Int))=some b∧(b=true→sz 40 e≤m∧tr 40 e):=by
 obtain⟨b,n,h1,h2⟩:=few_is 40 big e m 0 (by rw[bz7];omega) (by omega) hm (by omega);unfold gzk;simp only[az8];have h1:pzM (e,40,(m:Int),0)=some (b,(n:Int)):=h1;rw[h1,aza];exact⟨b,rfl,fun h=>by obtain⟨a1,a2,a3⟩:=h2 h;exact⟨by omega,a3⟩⟩
theorem pzg {d:Nat}{e k:Expr}(h:tr (d+1) e)(hk:k∈e.Kids):tr d k:=h.2 k hk
theorem lenK {d m:Nat}{e:Expr}(h:sz (d+1) e≤m):e.Kids.length<m:=by have:=kids_sz d e;omega
theorem szK {d m:Nat}{e k:Expr}(h:sz (d+1) e≤m)(hk:k∈e.Kids):sz d k≤m:=by have:=kid_sz (d:=d) hk;omega
theorem yz5:∀(d N:Nat) (e:Expr),d<N→sz d e≤1000→tr d e→∃n,iter fzN N e=some n
 | _,0,_,h,_,_=>absurd h (by omega)
 | 0,_,_,_,_,h=>h.elim
 | d+1,N+1,e,hN,hs,ht=>by
  have hl:=lenK hs;have hk:∀k∈e.Kids,∃n,iter fzN N k=some n:=fun k hk=>yz5 d N k (by omega) (szK hs hk) (pzg ht hk)
  rw[azH];generalize iter fzN N=S at hk;unfold fzN;rw[az8];have:=azR (F:=ez7 S) (fun(s:Int) (i:Nat)=>(e,s,(i:Int))) id e.Kids (fun s k=>.inl (if s<(S k).getD 0 then(S k).getD 0 else s)) id (fun _ _=>True) (by omega)
   (fun back s i hi _=>by
    obtain⟨n,hn⟩:=hk _ (List.getElem_mem hi);unfold ez7;simp only[az8];rw[ltT hi,azc,idxG hi,aza,hn,aza,wr1 (by omega),Option.getD_some];by_cases c:s<n
    ·rw[dT0 c,if_pos c];rfl
    ·rw[dF0 c,if_neg c];rfl)
   (fun _ _ _ _ _ _=>trivial)
   (fun back s _=>by
    unfold ez7;simp only;rw[ltF,azb];rfl) 0 trivial
  rw[show jzw S (e,0,0)=_ from this,aza];exact⟨_,rfl⟩
theorem yz3:∀(d N:Nat) (e:Expr),d<N→sz d e≤1000→tr d e→∃n,iter fzL N e=some n
 | _,0,_,h,_,_=>absurd h (by omega)
 | 0,_,_,_,_,h=>h.elim
 | d+1,N+1,e,hN,hs,ht=>by
  have hl:=lenK hs;have hk:∀k∈e.Kids,∃n,iter fzL N k=some n:=fun k hk=>yz3 d N k (by omega) (szK hs hk) (pzg ht hk)
  rw[azH];generalize iter fzL N=S at hk;unfold fzL;rw[az8];have:=azR (F:=ez6 S) (fun(s:Int) (i:Nat)=>(e,s,(i:Int))) id e.Kids (fun s k=>.inl (IntKind.i64.wrap (s+(S k).getD 0))) id (fun _ _=>True) (by omega)
   (fun back s i hi _=>by
    obtain⟨n,hn⟩:=hk _ (List.getElem_mem hi);unfold ez6;simp only[az8];rw[ltT hi,azc,idxG hi,aza,hn,aza,wr1 (by omega),Option.getD_some];rfl)
   (fun _ _ _ _ _ _=>trivial)
   (fun back s _=>by
    unfold ez6;simp only;rw[ltF,azb];rfl) 1 trivial
  rw[show jzv S (e,1,0)=_ from this,aza];exact⟨_,rfl⟩
def okK (e:Expr):Prop:=1≤e.Kind∧e.Kind≤10∧(e.Kind=1→bz4 e.V=some 0)∧(e.Kind=7→e.Kids.length=1)∧(e.Kind=8→e.Kids.length=2)∧(e.Kind=10→e.Kids.length=1)∧e.Kids.length≤30∧(2≤e.Kind→e.Kind≤5→bzT e.A=some 0)
theorem b2_tot (x:Expr×Bool×Int×Bool×Bool×Int):∃b,hzQ x=some b:=by
 unfold hzQ
 repeat' apply bzu
 all_goals exact⟨_,rfl⟩
theorem b3_tot (x:Expr×Bool):∃b,czJ x=some b:=by
 unfold czJ
 repeat' apply bzu
 all_goals exact⟨_,rfl⟩
theorem area_tot (a:Area):∃b,bzT a=some b:=by
 have h:∀r,∃b,cz0 r=some b:=fun r=>by
  have:∃g,dzi ⟨r.Row,r.Col⟩=some g:=by
   unfold dzi
   repeat' apply bzu
   all_goals exact⟨_,rfl⟩
  obtain⟨g,hg⟩:=this;unfold cz0;rw[hg,aza];exact bzu ⟨_,rfl⟩ ⟨_,rfl⟩
 obtain⟨x,hx⟩:=h a.A;obtain⟨y,hy⟩:=h a.B;unfold bzT;rw[hx,aza,hy,aza];exact bzu ⟨_,rfl⟩ ⟨_,rfl⟩
theorem b5_kids {e:Expr}{k lo hi:Int}{b:Bool}(h:bz1 (e,k,lo,hi)=some b)(hb:b=false):(0<k→e.Kids.length=k)∧e.Kids.length≤30:=by
 subst hb;unfold bz1 at h;by_cases h1:e.Op<lo
 ·simp[h1]at h
 by_cases h2:hi<e.Op
 ·simp[h1,h2]at h
 by_cases h3:0<k
 ·by_cases h4:(e.Kids.length:Int)=k
  ·simp[h1,h2,h3,h4]at h;exact⟨fun _=>h4,by omega⟩
  ·simp[h1,h2,h3,h4]at h
 ·simp[h1,h2,h3]at h;exact⟨fun c=>absurd c h3,by omega⟩
theorem b5_tot (x:Expr×Int×Int×Int):∃b,bz1 x=some b:=by
 unfold bz1
 repeat' apply bzu
 all_goals exact⟨_,rfl⟩
theorem tail_is (e:Expr)(s:Bool)(k:Int):∃r,(obnd (czJ (e,s)) fun y=>brn y (some 1) (obnd (czK (0,0,e.Kind)) fun y_4=>obnd (bz1 (e,k,y_4)) fun y=>brn y (some (1:Int)) (some 0)))=some r∧(r=0→(0<k→e.Kids.length=k)∧e.Kids.length≤30):=by
 obtain⟨b,hb⟩:=b3_tot (e,s);rw[hb,aza];cases b with
 | true=>exact⟨_,rfl,fun h=>by cases h⟩
 | false =>
  have:∃z,czK (0,0,e.Kind)=some z:=by
   unfold czK
   repeat' apply bzu
   all_goals exact⟨_,rfl⟩
  obtain⟨z,hz⟩:=this;obtain⟨c,hc⟩:=b5_tot (e,k,z);rw[azb,hz,aza,hc,aza];cases c with
  | true=>exact⟨_,rfl,fun h=>by cases h⟩
  | false=>exact⟨_,rfl,fun _=>b5_kids hc rfl⟩
theorem node_is {e:Expr}(hl:e.V.S.length≤3000):∃r,kzN e=some r∧(r=0→okK e):=by
 unfold kzN;simp only[az8];unfold kzl;by_cases h1:e.Kind<1
 ·rw[dT0 h1];exact⟨1,rfl,fun h=>by cases h⟩
 by_cases h2:10<e.Kind
 ·rw[dF0 h1,dT0 h2];exact⟨1,rfl,fun h=>by cases h⟩
 rw[dF0 h1,dF0 h2];simp only[azb,aza];have hy:∃y,mzJ e.Kind=some y∧(e.Kind=1→y.1=true)∧(e.Kind=7→y.2.2.2.2=1)∧(e.Kind=8→y.2.2.2.2=2)∧(e.Kind=10→y.2.2.2.2=1)∧(2≤e.Kind→e.Kind≤5→0<y.2.1):=by
  rcases(show e.Kind=1∨e.Kind=2∨e.Kind=3∨e.Kind=4∨e.Kind=5∨e.Kind=6∨e.Kind=7∨e.Kind=8∨e.Kind=9∨e.Kind=10 by omega)with h|h|h|h|h|h|h|h|h|h<;>rw[h]<;>exact⟨_,rfl,by decide,by decide,by decide,by decide,by decide⟩
 obtain⟨y,hs,k1,k7,k8,k10,kA⟩:=hy;rw[hs,aza];obtain⟨b,hb⟩:=b2_tot (e,y.fst,y.2.fst,y.2.2.fst,y.2.2.2);rw[hb,aza];cases b with
 | true=>exact⟨_,rfl,fun h=>by cases h⟩
 | false =>
  rw[azb];obtain⟨t,ht,htk⟩:=tail_is e y.2.2.fst y.2.2.2.snd;have ok:(e.Kind=1→bz4 e.V=some 0)→(0<y.2.1→bzT e.A=some 0)→t=0→okK e:=fun hv hA h0=>by
   obtain⟨a1,a2⟩:=htk h0;refine⟨by omega,by omega,hv,fun h=>?_,fun h=>?_,fun h=>?_,a2,fun b1 b2=>hA (kA b1 b2)⟩
   ·have:=a1 (by rw[k7 h];omega);rw[k7 h]at this;omega
   ·have:=a1 (by rw[k8 h];omega);rw[k8 h]at this;omega
   ·have:=a1 (by rw[k10 h];omega);rw[k10 h]at this;omega
  obtain⟨g,hg⟩:=area_tot e.A;rw[hg,ht];cases hv:y.fst with
  | true =>
   obtain⟨c,_,hc,_⟩:=lz7 hl;rw[azc,hc,aza];by_cases h0:c=0
   ·subst h0;rw[dT0 rfl];simp only[Bool.not_true,azb];by_cases hk:e.V.Kind=0
    ·rw[dT0 hk];exact⟨_,rfl,fun h=>by cases h⟩
    rw[dF0 hk,azb];by_cases hp:0<y.2.fst
    ·rw[dT0 hp,azc,aza];by_cases hgg:g=0
     ·rw[dT0 hgg];exact⟨t,rfl,ok (fun _=>hc) fun _=>by rw[hg,hgg]⟩
     ·rw[dF0 hgg];exact⟨_,rfl,fun h=>by cases h⟩
    ·rw[dF0 hp];exact⟨t,rfl,ok (fun _=>hc) fun c=>absurd c hp⟩
   ·rw[dF0 h0];exact⟨c,rfl,fun h=>absurd h h0⟩
  | false =>
   have nv:e.Kind=1→bz4 e.V=some 0:=fun h=>by rw[k1 h]at hv;cases hv
   rw[azb];by_cases hp:0<y.2.fst
   ·rw[dT0 hp,azc,aza];by_cases hgg:g=0
    ·rw[dT0 hgg];exact⟨t,rfl,ok nv fun _=>by rw[hg,hgg]⟩
    ·rw[dF0 hgg];exact⟨_,rfl,fun h=>by cases h⟩
   ·rw[dF0 hp];exact⟨t,rfl,ok nv fun c=>absurd c hp⟩
def okN:Nat→Expr→Prop
 | 0,_=>False
 | d+1,e=>okK e∧∀k∈e.Kids,okN d k
theorem foldZ {A:Type}(g:A→Int):∀(l:List A) (s:Int),azy (fun(s:Int) k=>if s=0 then(.inl (g k):Int⊕Int)else .inr s) id s l=0→s=0∧∀k∈l,g k=0
 | [],s,h=>⟨h,by simp⟩
 | k::l,s,h=>by
  simp only[azy]at h;by_cases c:s=0
  ·rw[if_pos c]at h;obtain⟨a1,a2⟩:=foldZ g l (g k) h;exact⟨c,by intro x hx;rcases List.mem_cons.1 hx with rfl|hx;exact a1;exact a2 x hx⟩
  ·rw[if_neg c]at h;exact absurd h c
theorem zzl:∀(d N:Nat) (e:Expr),d<N→sz d e≤1000→tr d e→∃n,iter fzP N e=some n∧(n=0→okN d e)
 | _,0,_,h,_,_=>absurd h (by omega)
 | 0,_,_,_,_,h=>h.elim
 | d+1,N+1,e,hN,hs,ht=>by
  have hl:=lenK hs;have hk:∀k∈e.Kids,∃n,iter fzP N k=some n∧(n=0→okN d k):=fun k hk=>zzl d N k (by omega) (szK hs hk) (pzg ht hk)
  rw[azH];generalize iter fzP N=S at hk;obtain⟨n0,hn0,hk0⟩:=node_is ht.1;unfold fzP;rw[az8,hn0,aza];have:=azR (F:=ez8 S) (fun(s:Int) (i:Nat)=>(e,s,(i:Int))) id e.Kids (fun(s:Int) k=>if s=0 then(.inl ((S k).getD 0):Int⊕Int)else .inr s) id (fun _ _=>True) (by omega)
   (fun back s i hi _=>by
    obtain⟨n,hn,_⟩:=hk _ (List.getElem_mem hi);unfold ez8;simp only[az8];rw[ltT hi,azc,idxG hi,aza,hn,aza,wr1 (by omega),Option.getD_some];by_cases c:s=0
    ·rw[dT0 c,if_pos c];rfl
    ·rw[dF0 c,if_neg c];rfl)
   (fun _ _ _ _ _ _=>trivial)
   (fun back s _=>by
    unfold ez8;simp only;rw[ltF,azb];rfl) n0 trivial
  rw[show jzx S (e,n0,0)=_ from this,aza];refine⟨_,rfl,fun h=>?_⟩;obtain⟨a1,a2⟩:=foldZ (fun k=>(S k).getD 0) e.Kids n0 h;refine⟨hk0 a1,fun k hm=>?_⟩;obtain⟨n,hn,h3⟩:=hk k hm;have:=a2 k hm;rw[hn,Option.getD_some]at this;exact h3 this
theorem checkE {e:Expr}(hs:sz 40 e≤1000)(ht:tr 40 e):∃r,ezk e=some r∧(r=0→okN 40 e):=by
 obtain⟨a,ha⟩:=yz5 40 big e (by rw[bz7];omega) hs ht;obtain⟨b,hb⟩:=yz3 40 big e (by rw[bz7];omega) hs ht;obtain⟨c,hc,hc0⟩:=zzl 40 big e (by rw[bz7];omega) hs ht;unfold ezk;simp only[az8];rw[show mzG e=_ from ha,show mzF e=_ from hb,show mzI e=_ from hc,aza];by_cases h1:16<a
 ·rw[dT0 h1];exact⟨11,rfl,fun h=>by cases h⟩
 rw[dF0 h1,azb,aza];by_cases h2:1024<b
 ·rw[dT0 h2];exact⟨4,rfl,fun h=>by cases h⟩
 rw[dF0 h2,azb,aza];exact⟨c,rfl,hc0⟩
def lv (P:Expr→Prop):Nat→Expr→Prop
 | 0,_=>False
 | d+1,e=>if 2≤e.Kind∧e.Kind≤6 then P e else ∀k∈e.Kids,lv P d k
theorem BzB:∀(d N:Nat) (e:Expr),d<N→sz d e≤1000→tr d e→∃l,iter czv N e=some l∧l.length≤sz d e∧∀P,(∀x∈l,P x)→lv P d e
 | _,0,_,h,_,_=>absurd h (by omega)
 | 0,_,_,_,_,h=>h.elim
 | d+1,N+1,e,hN,hs,ht=>by
  have hl:=lenK hs;have hk:∀k∈e.Kids,∃l,iter czv N k=some l∧l.length≤sz d k∧∀P,(∀x∈l,P x)→lv P d k:=fun k hk=>BzB d N k (by omega) (szK hs hk) (pzg ht hk)
  rw[azH];generalize iter czv N=S at hk;have this:=azR (F:=dz4 S) (fun(s:List Expr) (i:Nat)=>(e,s,(i:Int))) id e.Kids (fun(s:List Expr) k=>(.inl (s++(S k).getD []):List Expr⊕List Expr)) id (fun s i=>s.length≤1000*i) (by omega)
   (fun back s i hi hp=>by
    obtain⟨l,hn,h2,_⟩:=hk _ (List.getElem_mem hi);have h3:=szK hs (List.getElem_mem hi);unfold dz4;simp only[az8];rw[ltT hi,azc,idxG hi,aza,hn,aza,appN (by omega),aza,wr1 (by omega),Option.getD_some];rfl)
   (fun s i hi s' hp h=>by
    obtain⟨l,hn,h2,_⟩:=hk _ (List.getElem_mem hi);have h3:=szK hs (List.getElem_mem hi);cases h;rw[hn,Option.getD_some,List.length_append];omega)
   (fun back s _=>by
    unfold dz4;simp only;rw[ltF,azb];rfl) [] (by simp)
  rw[czd]at this;have hf:∀(m s:List Expr),m.foldl (fun s c=>s++(S c).getD []) s=s++m.flatMap fun c=>(S c).getD []:=by
   intro m;induction m with
   | nil=>intro s;simp
   | cons v m ih=>intro s;rw[List.foldl_cons,ih,List.flatMap_cons,List.append_assoc]
  rw[id,id,hf,List.nil_append]at this;have hlen:∀m:List Expr,(∀k∈m,k∈e.Kids)→(m.flatMap fun c=>(S c).getD []).length≤(m.map (sz d)).sum:=by
   intro m;induction m with
   | nil=>intro _;simp
   | cons v m ih =>
    intro h;obtain⟨l,hn,h2,_⟩:=hk v (h v (by simp));have:=ih fun k hk=>h k (by simp[hk])
    rw[List.flatMap_cons,List.length_append,hn,Option.getD_some,List.map_cons,List.sum_cons];omega
  have hP:∀P,(∀x∈(e.Kids.flatMap fun c=>(S c).getD []),P x)→∀k∈e.Kids,lv P d k:=fun P h k hm=>by
   obtain⟨l,hn,_,h3⟩:=hk k hm;exact h3 P fun x hx=>h x (List.mem_flatMap.2 ⟨k,hm,by rw[hn,Option.getD_some];exact hx⟩)
  have hz:(e.Kids.flatMap fun c=>(S c).getD []).length≤sz (d+1) e:=by
   have:=hlen e.Kids fun _ h=>h
   show _≤1+(e.Kids.map (sz d)).sum
   omega
  unfold czv;rw[az8,show hzP S (e,[],0)=_ from this,aza];by_cases h1:2≤e.Kind
  ·by_cases h2:e.Kind≤6
   ·rw[dT0 h1,dT0 h2];refine⟨[e],rfl,by simpa using sz_pos (d+1) e,fun P h=>?_⟩;unfold lv;rw[if_pos ⟨h1,h2⟩];exact h e (by simp)
   ·rw[dT0 h1,dF0 h2];refine⟨_,rfl,hz,fun P h=>?_⟩;unfold lv;rw[if_neg (by omega)];exact hP P h
  ·rw[dF0 h1];refine⟨_,rfl,hz,fun P h=>?_⟩;unfold lv;rw[if_neg (by omega)];exact hP P h
theorem refsF {e:Expr}(hs:sz 40 e≤1000)(ht:tr 40 e):∃l,hz6 e=some l∧l.length≤1000∧∀P,(∀x∈l,P x)→lv P 40 e:=by
 obtain⟨l,h1,h2,h3⟩:=BzB 40 big e (by rw[bz7];omega) hs ht;exact⟨l,h1,by omega,h3⟩
theorem izr {X Z:Type}{F:(X→Option Z)→X→Option Z}(mk:Nat→X)(n:Nat)(C:Nat→Prop)(Q:Z→Prop)(z0:Z)(hn:n≤1000000000)
 (h:∀back i,i<n→(F back (mk i)=back (mk (i+1))∧C i)∨∃z,F back (mk i)=some z∧Q z) (hend:∀back,F back (mk n)=some z0) :
 ∃z,iter F big (mk 0)=some z∧(Q z∨z=z0∧∀i,i<n→C i):=by
 have key:∀k N i,i+k=n→k<N→∃z,iter F N (mk i)=some z∧(Q z∨z=z0∧∀j,i≤j→j<n→C j):=by
  intro k;induction k with
  | zero =>
   intro N i hi hN;obtain⟨m,rfl⟩:∃m,N=m+1:=⟨N-1,by omega⟩;have:i=n:=by omega
   subst this;exact⟨z0,by rw[azH,hend],.inr ⟨rfl,fun j h1 h2=>absurd h2 (by omega)⟩⟩
  | succ k ih =>
   intro N i hi hN;obtain⟨m,rfl⟩:∃m,N=m+1:=⟨N-1,by omega⟩;rcases h (iter F m) i (by omega)with⟨h1,h2⟩|⟨z,h1,h2⟩
   ·obtain⟨z,e1,e2⟩:=ih m (i+1) (by omega) (by omega);refine⟨z,by rw[azH,h1,e1],?_⟩;rcases e2 with e2|⟨hz,e2⟩
    ·exact .inl e2
    ·refine .inr ⟨hz,fun j a b=>?_⟩;by_cases c:j=i
     ·rw[c];exact h2
     ·exact e2 j (by omega) b
   ·exact⟨z,by rw[azH,h1],.inl h2⟩
 obtain⟨z,e1,e2⟩:=key n big 0 (by omega) (by rw[bz7];omega);rcases e2 with e2|⟨hz,e2⟩
 ·exact⟨z,e1,.inl e2⟩
 ·exact⟨z,e1,.inr ⟨hz,fun j hj=>e2 j (by omega) hj⟩⟩
def okSl (v:Env)(i:Nat):Prop:=∃h:i<v.Slots.length,czD (v.Slots[i].P,v.Sheets)=some true∧bz4 v.Slots[i].V=some 0∧(0<i→∃h1:i-1<v.Slots.length,hz7 (v.Slots[i-1].P,v.Slots[i].P)=some true)
def nameE (e:Expr):Prop:=e.Kind≠6
structure okEnv (v:Env):Prop where
 len:v.Slots.length≤60
 txt:∀i (h:i<v.Slots.length),v.Slots[i].V.S.length≤3000
 slo:∀i,i<v.Slots.length→okSl v i
 nl:v.Names.length≤20
 nam:∀i (h:i<v.Names.length),sz 40 v.Names[i]≤200∧tr 40 v.Names[i]∧okN 40 v.Names[i]∧lv nameE 40 v.Names[i]
theorem fewEnv (v:Env):∃b,lzP v=some b∧(b=true→v.Slots.length≤60∧v.Names.length≤20∧(∀i (h:i<v.Slots.length),v.Slots[i].V.S.length≤3000)∧∀i (h:i<v.Names.length),sz 40 v.Names[i]≤200∧tr 40 v.Names[i]):=by
 unfold lzP;by_cases h1:60<(v.Slots.length:Int)
 ·rw[dT0 h1];exact⟨false,rfl,fun h=>by cases h⟩
 by_cases h2:20<(v.Names.length:Int)
 ·rw[dF0 h1,dT0 h2];exact⟨false,rfl,fun h=>by cases h⟩
 rw[dF0 h1,dF0 h2,azb,azb];obtain⟨z,e1,e2⟩:=izr (F:=gzy) (fun i=>(v,(i:Int))) v.Slots.length (fun i=>∃h:i<v.Slots.length,v.Slots[i].V.S.length≤3000) (fun z=>z = .inr false) (.inl ()) (by omega)
  (fun back i hi=>by
   unfold gzy;simp only;rw[ltT hi,azc,idxG hi,aza,wr1 (by omega)];by_cases c:3000<((v.Slots[i].V.S.length:Nat):Int)
   ·rw[dT0 c];exact .inr ⟨_,rfl,rfl⟩
   ·rw[dF0 c];exact .inl ⟨rfl,hi,by omega⟩)
  (fun back=>by
   unfold gzy;simp only;rw[ltF,azb])
 rw[show lzo (v,0)=_ from e1,aza];obtain⟨y,f1,f2⟩:=izr (F:=gzz) (fun i=>(v,(i:Int))) v.Names.length (fun i=>∃h:i<v.Names.length,sz 40 v.Names[i]≤200∧tr 40 v.Names[i]) (fun z=>z = .inr false) (.inl ()) (by omega)
  (fun back i hi=>by
   obtain⟨b,hb,hb2⟩:=Few_is (e:=v.Names[i]) (m:=200) (by omega);have hb:gzk (v.Names[i],200)=some b:=hb;unfold gzz;simp only[az8];rw[ltT hi,azc,idxG hi,aza,hb,aza,wr1 (by omega)];cases b with
   | false=>exact .inr ⟨_,rfl,rfl⟩
   | true=>exact .inl ⟨rfl,hi,hb2 rfl⟩)
  (fun back=>by
   unfold gzz;simp only;rw[ltF,azb])
 rcases e2 with rfl|⟨rfl,e2⟩
 ·exact⟨false,rfl,fun h=>by cases h⟩
 simp only[osum];rw[show lzp (v,0)=_ from f1,aza];rcases f2 with rfl|⟨rfl,f2⟩
 ·exact⟨false,rfl,fun h=>by cases h⟩
 refine⟨true,rfl,fun _=>⟨by omega,by omega,fun i h=>?_,fun i h=>?_⟩⟩
 ·obtain⟨_,h'⟩:=e2 i h;exact h'
 ·obtain⟨_,h'⟩:=f2 i h;exact h'
theorem less_tot (p q:Place):∃b,hz7 (p,q)=some b:=by
 unfold hz7
 repeat' apply bzu
 all_goals exact⟨_,rfl⟩
theorem good_tot (p:Place)(n:Int):∃b,czD (p,n)=some b:=by
 have:∃g,dzi p.At=some g:=by
  unfold dzi
  repeat' apply bzu
  all_goals exact⟨_,rfl⟩
 obtain⟨g,hg⟩:=this;unfold czD;simp only;rw[hg]
 repeat' apply bzu
 all_goals exact⟨_,rfl⟩
theorem named_is {e:Expr}(hs:sz 40 e≤1000)(ht:tr 40 e):∃b,jzy e=some b∧(b=false→lv nameE 40 e):=by
 obtain⟨l,h1,h2,h3⟩:=refsF hs ht;unfold jzy;rw[az8,h1,aza];obtain⟨z,e1,e2⟩:=izr (F:=ez9) (fun i=>(l,(i:Int))) l.length (fun i=>∃h:i<l.length,nameE l[i]) (fun z=>z = .inr true) (.inl ()) (by omega)
  (fun back i hi=>by
   unfold ez9;simp only;rw[ltT hi,azc,idxG hi,aza,wr1 (by omega)];by_cases c:l[i].Kind=6
   ·rw[dT0 c];exact .inr ⟨_,rfl,rfl⟩
   ·rw[dF0 c];exact .inl ⟨rfl,hi,c⟩)
  (fun back=>by
   unfold ez9;simp only;rw[ltF,azb])
 rw[show jzz (l,0)=_ from e1,aza];rcases e2 with rfl|⟨rfl,e2⟩
 ·exact⟨true,rfl,fun h=>by cases h⟩
 ·refine⟨false,rfl,fun _=>h3 nameE fun x hx=>?_⟩;obtain⟨i,hi,rfl⟩:=List.mem_iff_getElem.1 hx;obtain⟨_,h⟩:=e2 i hi;exact h
theorem zzy {e:Expr}(hs:sz 40 e≤1000)(ht:tr 40 e):∃b,hzj e=some b:=by
 obtain⟨l,h1,h2,_⟩:=refsF hs ht;unfold hzj;rw[az8,h1,aza];have:=azR (F:=ez2) (fun(s:Int) (i:Nat)=>(l,s,(i:Int))) id l (fun(s:Int) k=>(.inl (if k.Kind=3 then IntKind.i64.wrap (s+1)else if k.Kind=5 then IntKind.i64.wrap (s+1)else s):Int⊕Int)) id (fun _ _=>True) (by omega)
  (fun back s i hi _=>by
   unfold ez2;simp only;rw[ltT hi,azc,idxG hi,aza,wr1 (by omega)];by_cases c:l[i].Kind=3
   ·rw[dT0 c,if_pos c];rfl
   ·rw[dF0 c,if_neg c,azb,aza];by_cases c5:l[i].Kind=5
    ·rw[dT0 c5,if_pos c5];rfl
    ·rw[dF0 c5,if_neg c5];rfl)
  (fun _ _ _ _ _ _=>trivial)
  (fun back s _=>by
   unfold ez2;simp only;rw[ltF,azb];rfl) 0 trivial
 rw[show jzl (l,0,0)=_ from this,aza];exact⟨_,rfl⟩
theorem BzI {l:List Expr}(hl:l.length≤1000)(h:∀i (h:i<l.length),sz 40 l[i]≤200∧tr 40 l[i]):∃b,gzT l=some b:=by
 unfold gzT;obtain⟨z,e1,e2⟩:=izr (F:=dzo) (fun i=>(l,(i:Int))) l.length (fun _=>True) (fun z=>z = .inr false) (.inl ()) (by omega)
  (fun back i hi=>by
   obtain⟨a1,a2⟩:=h i hi;obtain⟨b,hb⟩:=zzy (e:=l[i]) (by omega) a2;unfold dzo;simp only[az8];rw[ltT hi,azc,idxG hi,aza,hb,aza,wr1 (by omega)];cases b with
   | false=>exact .inr ⟨_,rfl,rfl⟩
   | true=>exact .inl ⟨rfl,trivial⟩)
  (fun back=>by
   unfold dzo;simp only;rw[ltF,azb])
 rw[show hzh (l,0)=_ from e1,aza];rcases e2 with rfl|⟨rfl,e2⟩
 ·exact⟨_,rfl⟩
 ·exact⟨_,rfl⟩
theorem checkEnv {v:Env}(h60:v.Slots.length≤60)(h20:v.Names.length≤20)(ht:∀i (h:i<v.Slots.length),v.Slots[i].V.S.length≤3000)(hn:∀i (h:i<v.Names.length),sz 40 v.Names[i]≤200∧tr 40 v.Names[i]):
 ∃r,gzU v=some r∧(r=0→okEnv v∧1≤v.Sheets):=by
 unfold gzU;by_cases h1:v.Sheets<1
 ·rw[dT0 h1];exact⟨1,rfl,fun h=>by cases h⟩
 by_cases h2:8<v.Sheets
 ·rw[dF0 h1,dT0 h2];exact⟨1,rfl,fun h=>by cases h⟩
 rw[dF0 h1,dF0 h2,dF0 (show ¬4096<(v.Slots.length:Int) by omega),dF0 (show ¬1024<(v.Names.length:Int) by omega)];simp only[azb];obtain⟨z,e1,e2⟩:=izr (F:=dzs) (fun i=>(v,(i:Int))) v.Slots.length (okSl v) (fun z=>∃r,z = .inr r∧r≠0) (.inl ()) (by omega)
  (fun back i hi=>by
   obtain⟨g,hg⟩:=good_tot v.Slots[i].P v.Sheets;obtain⟨c,_,hc,_⟩:=lz7 (ht i hi);unfold dzs;simp only;rw[ltT hi,azc,idxG hi,aza,hg,aza,wr1 (by omega)];cases g with
   | false=>exact .inr ⟨_,rfl,_,rfl,by decide⟩
   | true =>
    simp only[Bool.not_true,azb];rw[hc,aza];by_cases c0:c=0
    ·subst c0;rw[dT0 rfl];simp only[Bool.not_true,azb];by_cases k0:v.Slots[i].V.Kind=0
     ·rw[dT0 k0];exact .inr ⟨_,rfl,_,rfl,by decide⟩
     rw[dF0 k0,azb];by_cases i0:i=0
     ·subst i0;exact .inl ⟨rfl,hi,hg,hc,fun h=>absurd h (by omega)⟩
     ·obtain⟨j,rfl⟩:∃j,i=j+1:=⟨i-1,by omega⟩;obtain⟨b,hb⟩:=less_tot v.Slots[j].P v.Slots[j+1].P;rw[dT0 (show(0:Int)<((j+1:Nat):Int) by omega),azc,show((j+1:Nat):Int)-1=((j:Nat):Int) by omega,azG (by omega) (by omega),idxG (show j<v.Slots.length by omega),aza,hb,aza];cases b with
      | false=>exact .inr ⟨_,rfl,_,rfl,by decide⟩
      | true=>exact .inl ⟨rfl,hi,hg,hc,fun _=>⟨by omega,hb⟩⟩
    ·rw[dF0 c0];exact .inr ⟨_,rfl,_,rfl,c0⟩)
  (fun back=>by
   unfold dzs;simp only;rw[ltF,azb])
 rw[show hzp (v,0)=_ from e1,aza];obtain⟨y,f1,f2⟩:=izr (F:=dzt) (fun i=>(v,(i:Int))) v.Names.length (fun i=>∃h:i<v.Names.length,okN 40 v.Names[i]∧lv nameE 40 v.Names[i]) (fun z=>∃r,z = .inr r∧r≠0) (.inl ()) (by omega)
  (fun back i hi=>by
   obtain⟨a1,a2⟩:=hn i hi;obtain⟨c,hc,hc0⟩:=checkE (by omega) a2;obtain⟨b,hb,hb0⟩:=named_is (by omega) a2;unfold dzt;simp only[az8];rw[ltT hi,azc,idxG hi,aza,hc,aza,aza,hb,aza,wr1 (by omega)];by_cases c0:c=0
   ·subst c0;rw[dT0 rfl];simp only[Bool.not_true,azb];cases b with
    | true=>exact .inr ⟨_,rfl,_,rfl,by decide⟩
    | false=>exact .inl ⟨rfl,hi,hc0 rfl,hb0 rfl⟩
   ·rw[dF0 c0];exact .inr ⟨_,rfl,_,rfl,c0⟩)
  (fun back=>by
   unfold dzt;simp only;rw[ltF,azb])
 rcases e2 with⟨r,rfl,hr⟩|⟨rfl,e2⟩
 ·exact⟨r,rfl,fun h=>absurd h hr⟩
 simp only[osum];rw[show hzq (v,0)=_ from f1,aza];rcases f2 with⟨r,rfl,hr⟩|⟨rfl,f2⟩
 ·exact⟨r,rfl,fun h=>absurd h hr⟩
 refine⟨0,rfl,fun _=>⟨⟨h60,ht,e2,h20,fun i h=>?_⟩,by omega⟩⟩;obtain⟨_,b1,b2⟩:=f2 i h;obtain⟨a1,a2⟩:=hn i h;exact⟨a1,a2,b1,b2⟩
theorem few_all (e:Expr)(v:Env):∃b,lzQ (e,v)=some b∧(b=true→sz 40 e≤60∧tr 40 e∧okN 40 e∧okEnv v∧1≤v.Sheets):=by
 unfold lzQ;simp only[az8];obtain⟨b,h1,h1'⟩:=Few_is (e:=e) (m:=60) (by omega);have h1:gzk (e,60)=some b:=h1;rw[h1,aza];cases b with
 | false=>exact⟨false,rfl,fun h=>by cases h⟩
 | true =>
  obtain⟨hs,ht⟩:=h1' rfl;obtain⟨b,h2,h2'⟩:=fewEnv v;rw[azc,h2,aza];cases b with
  | false=>exact⟨false,rfl,fun h=>by cases h⟩
  | true =>
   obtain⟨a1,a2,a3,a4⟩:=h2' rfl;obtain⟨c,h3,h3'⟩:=checkE (e:=e) (by omega) ht;rw[azc,h3,aza];by_cases c0:c=0
   ·obtain⟨f,h4,h4'⟩:=checkEnv a1 a2 a3 a4;rw[dT0 c0,azc,h4,aza];by_cases f0:f=0
    ·obtain⟨b,h5⟩:=zzy (e:=e) (by omega) ht;rw[dT0 f0,azc,h5,aza];cases b with
     | false=>exact⟨false,rfl,fun h=>by cases h⟩
     | true =>
      obtain⟨b,h6⟩:=BzI (l:=v.Names) (by omega) a4;rw[azc,h6,aza];exact⟨b,rfl,fun _=>⟨hs,ht,h3' c0,h4' f0⟩⟩
    ·rw[dF0 f0];exact⟨false,rfl,fun h=>by cases h⟩
   ·rw[dF0 c0];exact⟨false,rfl,fun h=>by cases h⟩
theorem gate {k:Nat}(hk:k<30)(l:List Arg):bzR ((k:Int),l)=if arLo k≤l.length∧(l.length:Int)≤arHi k then core k l else some (vE 15):=by
 by_cases h:arLo k≤l.length∧(l.length:Int)≤arHi k
 ·rw[if_pos h,Azp hk h.1 h.2]
 ·rw[if_neg h,apply_bad hk (by omega)]
theorem ar_tab:arLo 5=1∧arHi 5=1∧arLo 6=1∧arHi 6=1∧arLo 7=1∧arHi 7=1∧arLo 8=2∧arHi 8=2∧arLo 9=2∧arHi 9=2∧arLo 13=1∧arHi 13=1∧arLo 21=1∧arHi 21=1∧arLo 22=1∧arHi 22=1∧arLo 29=1∧arHi 29=1:=by decide +kernel
theorem ar_tab2:arLo 14=1∧arHi 14=1∧arLo 15=1∧arHi 15=2∧arLo 16=1∧arHi 16=2∧arLo 17=3∧arHi 17=3∧arLo 19=1∧arHi 19=1∧arLo 20=1∧arHi 20=1∧arLo 26=2∧arHi 26=2∧arLo 27=2∧arHi 27=2:=by decide +kernel
theorem ar_tab3:arLo 10=2∧arHi 10=3∧arLo 23=2∧arHi 23=2∧arLo 24=2∧arHi 24=2∧arLo 25=2∧arHi 25=9223372036854775807∧arLo 28=0∧arHi 28=0:=by decide +kernel
theorem rzp {l:List Arg}(hb:l.any badB=false)(hv:∀a∈l,∀v∈a.L,okW v):∀v∈l.map fst1,okW v:=by
 intro v h;obtain⟨b,hbm,rfl⟩:=List.mem_map.1 h;have:badB b=false:=by
  rw[List.any_eq_false]at hb;simpa using hb b hbm
 exact hv b hbm _ (szD this)
theorem app_num {k:Nat}{l:List Arg}(hk:k=5∨k=6∨k=7∨k=8∨k=9)(hl:l.length≤1000)(hv:∀a∈l,∀v∈a.L,okW v):
 bzR ((k:Int),l)=some (if l.length=arN k∧l.any badB=false then recL k (l.map fst1)else vE 15):=by
 have hg:(arLo k≤l.length∧(l.length:Int)≤arHi k)↔l.length=arN k:=by
  obtain⟨a1,a2,a3,a4,a5,a6,a7,a8,a9,a10,_⟩:=ar_tab;unfold arN;rcases hk with rfl|rfl|rfl|rfl|rfl
  ·rw[a1,a2,if_pos (by omega)];omega
  ·rw[a3,a4,if_pos (by omega)];omega
  ·rw[a5,a6,if_pos (by omega)];omega
  ·rw[a7,a8,if_neg (by omega)];omega
  ·rw[a9,a10,if_neg (by omega)];omega
 rw[gate (by omega)];by_cases h:l.length=arN k
 ·rw[if_pos (hg.2 h),rza hl (by omega)];cases hb:l.any badB with
  | true=>rw[if_pos rfl,if_neg (by simp)]
  | false =>
   rw[if_neg (by simp),if_pos ⟨h,rfl⟩,CzO _ (by omega),reck_is (by omega) (rzp hb hv)];rw[List.length_map];unfold arN at h;by_cases h7:(k:Int)≤7
   ·rw[if_pos h7]at h ⊢;exact h
   ·rw[if_neg h7]at h ⊢;exact h
 ·rw[if_neg (fun c=>h (hg.1 c)),if_neg (fun c=>h c.1)]
theorem app_ask {k:Nat}{l:List Arg}(hk:k=13∨k=21∨k=22∨k=29)(hl:l.length≤1000)(hv:∀a∈l,∀v∈a.L,okW v):
 bzR ((k:Int),l)=some (if l.length=1∧l.any badB=false then askV k ((l.map fst1).headD v0)else vE 15):=by
 have hg:(arLo k≤l.length∧(l.length:Int)≤arHi k)↔l.length=1:=by
  obtain⟨_,_,_,_,_,_,_,_,_,_,a1,a2,a3,a4,a5,a6,a7,a8⟩:=ar_tab;rcases hk with rfl|rfl|rfl|rfl
  ·rw[a1,a2];omega
  ·rw[a3,a4];omega
  ·rw[a5,a6];omega
  ·rw[a7,a8];omega
 rw[gate (by omega)];by_cases h:l.length=1
 ·rw[if_pos (hg.2 h),rza hl (by omega)];cases hb:l.any badB with
  | true=>rw[if_pos rfl,if_neg (by simp)]
  | false =>
   rw[if_neg (by simp),if_pos ⟨h,rfl⟩];obtain⟨a,rfl⟩:∃a,l=[a]:=by
    match l,h with
    | [a],_=>exact⟨a,rfl⟩
   have oa:=rzp hb hv (fst1 a) (by simp);rw[show([a].map fst1).headD v0=fst1 a from rfl,show [a].map fst1=[fst1 a] from rfl];unfold askV;rcases hk with rfl|rfl|rfl|rfl
   ·rw[show(((13:Nat)):Int)=13 from rfl,DzZ [] oa,if_pos rfl];cases(truR (fst1 a)).2.2<;>rfl
   ·rw[show(((21:Nat)):Int)=21 from rfl,BzH];rfl
   ·rw[show(((22:Nat)):Int)=22 from rfl,DzY];rfl
   ·rw[show(((29:Nat)):Int)=29 from rfl,CzP [] (kinds_of oa)];rfl
 ·rw[if_neg (fun c=>h (hg.1 c)),if_neg (fun c=>h c.1)]
theorem Azn {k:Nat}{l:List Arg}(hk:k=14∨k=15∨k=16∨k=17∨k=19∨k=20∨k=26∨k=27)(hl:l.length≤1000)(hv:∀a∈l,∀v∈a.L,okW v):bzR ((k:Int),l)=some (vz0 k l):=by
 have hg:(arLo k≤l.length∧(l.length:Int)≤arHi k)↔arOk k l=true:=by
  obtain⟨a1,a2,a3,a4,a5,a6,a7,a8,a9,a10,a11,a12,a13,a14,a15,a16⟩:=ar_tab2;unfold arOk;rcases hk with rfl|rfl|rfl|rfl|rfl|rfl|rfl|rfl
  ·rw[a1,a2];simp;omega
  ·rw[a3,a4];simp;omega
  ·rw[a5,a6];simp;omega
  ·rw[a7,a8];simp;omega
  ·rw[a9,a10];simp;omega
  ·rw[a11,a12];simp;omega
  ·rw[a13,a14];simp;omega
  ·rw[a15,a16];simp;omega
 rw[gate (by omega)];unfold vz0;by_cases h:arOk k l=true
 ·rw[if_pos (hg.2 h),rza hl (by omega),h];cases hb:l.any badB with
  | true=>rfl
  | false =>
   rw[if_neg (by simp),if_pos (show(true&&!false)=true from rfl),CzQ _ (by omega)];have hf:=rzp hb hv;have hne:l≠[]:=by
    intro e;subst e;unfold arOk at h;rcases hk with rfl|rfl|rfl|rfl|rfl|rfl|rfl|rfl<;>simp at h
   obtain⟨a,t,rfl⟩:∃a t,l=a::t:=by
    cases l with
    | nil=>exact absurd rfl hne
    | cons a t=>exact⟨a,t,rfl⟩
   rw[show((a::t).map fst1).headD v0=fst1 a from rfl,show((a::t).map fst1).tail=t.map fst1 from rfl,List.map_cons];have oa:=hf (fst1 a) (by simp);have ot:∀w∈t.map fst1,okW w:=fun w hw=>hf w (by rw[List.map_cons];exact List.mem_cons_of_mem _ hw)
   have hlen:=h;unfold arOk at hlen;rcases(show(k=15∨k=16∨k=17)∨(k=14∨k=19∨k=20)∨k=26∨k=27 by omega)with hp|ho|rfl|rfl
   ·rw[BzV (by omega) oa ot (by
     rw[List.length_map];rcases hp with rfl|rfl|rfl<;>simp at hlen<;>omega),wordV_p (by omega)]<;>rfl
   ·have ht:t=[]:=by
     rcases ho with rfl|rfl|rfl<;>simp at hlen<;>exact hlen
    subst ht;exact Dz4 (by omega) oa
   ·obtain⟨b,rfl⟩:∃b,t=[b]:=by
     simp at hlen
     match t,hlen with
     | [b],_=>exact⟨b,rfl⟩
    exact Dz5 oa (ot _ (by simp))
   ·obtain⟨b,rfl⟩:∃b,t=[b]:=by
     simp at hlen
     match t,hlen with
     | [b],_=>exact⟨b,rfl⟩
    exact CzU oa (ot _ (by simp))
 ·have h':arOk k l=false:=by simpa using h
  rw[if_neg (fun c=>h (hg.1 c)),h'];rfl
theorem CzX {k:Nat}{l:List Arg}(hk:k=10∨k=23∨k=24∨k=25)(hl:l.length≤1000)(hu:∀a∈l,∀v∈a.L,okU v):
 ∃v,bzR ((k:Int),l)=some v∧okU v:=by
 have hv:∀a∈l,∀v∈a.L,okW v:=fun a ha v hm=>(hu a ha v hm).1
 obtain⟨a1,a2,a3,a4,a5,a6,a7,a8,_,_⟩:=ar_tab3;rw[gate (by omega)];rcases hk with rfl|rfl|rfl|rfl
 ·rw[a1,a2,show(((10:Nat)):Int)=10 from rfl];by_cases h:(2:Int)≤l.length∧(l.length:Int)≤3
  ·rw[if_pos h,kzE (by omega)];rcases(show l.length=2∨l.length=3 by omega)with h2|h3
   ·match l,h2 with
    | [a,b],_ =>
     obtain⟨e1,_⟩:=if2_is (a:=a) (b:=b) (hv a (by simp));exact⟨_,e1,ifV_ok (hu a (by simp)) (hu b (by simp)) (pzX _)⟩
   ·match l,h3 with
    | [a,b,c],_ =>
     obtain⟨e1,_⟩:=if3_is (a:=a) (b:=b) (c:=c) (hv a (by simp));exact⟨_,e1,ifV_ok (hu a (by simp)) (hu b (by simp)) (pzY (hu c (by simp)))⟩
  ·rw[if_neg h];exact⟨_,rfl,az6 _⟩
 ·rw[a3,a4,show(((23:Nat)):Int)=23 from rfl];by_cases h:(2:Int)≤l.length∧(l.length:Int)≤2
  ·rw[if_pos h,kzE (by omega)]
   match l,(show l.length=2 by omega)with
   | [a,b],_ =>
    obtain⟨e1,_⟩:=iferr_is a b;exact⟨_,e1,iferrV_ok (hu a (by simp)) (hu b (by simp))⟩
  ·rw[if_neg h];exact⟨_,rfl,az6 _⟩
 ·rw[a5,a6,show(((24:Nat)):Int)=24 from rfl];by_cases h:(2:Int)≤l.length∧(l.length:Int)≤2
  ·rw[if_pos h,kzE (by omega)]
   match l,(show l.length=2 by omega)with
   | [a,b],_ =>
    have e1:=index_is (a:=a) (b:=b) (hv b (by simp));refine⟨_,?_,indexV_ok (hu a (by simp)) (hu b (by simp))⟩;unfold bzj;simp only[decide_true,azc];rw[e1];rfl
  ·rw[if_neg h];exact⟨_,rfl,az6 _⟩
 ·rw[a7,a8,show(((25:Nat)):Int)=25 from rfl];by_cases h:(2:Int)≤l.length∧(l.length:Int)≤9223372036854775807
  ·rw[if_pos h,kzE (by omega)];obtain⟨a,t,rfl⟩:∃a t,l=a::t:=by
    cases l with
    | nil=>simp at h
    | cons a t=>exact⟨a,t,rfl⟩
   obtain⟨e1,_⟩:=choose_is (a:=a) (l:=t) (hv a (by simp)) hl (by simp only[List.length_cons]at h;omega);exact⟨_,e1,CzZ (hu a (by simp)) hu⟩
  ·rw[if_neg h];exact⟨_,rfl,az6 _⟩
theorem rzH {c:Prop}[Decidable c]{a b:Val}(ha:okU a)(hb:okU b):okU (if c then a else b):=by split<;>assumption
theorem cntA_le:∀(l:List Arg) (n:Nat),(∀a∈l,a.L.length≤5000)→cntA n l≤n+5000*l.length
 | [],n,_=>by simp[cntA]
 | a::l,n,h=>by
  have h1:=cntA_le l (cntL a.Area n a.L) (fun b hb=>h b (by simp[hb]));have h2:=xzY a.Area a.L n;have h3:=h a (by simp);unfold cntA at h1 ⊢;rw[List.foldl_cons,List.length_cons];omega
theorem cntA_I64 {l:List Arg}(h:okA l):I64 (cntA 0 l):=by
 have h1:=cntA_le l 0 (fun a ha=>(h.2 a ha).1);have:=h.1;unfold I64;omega
theorem okU_head {l:List Arg}(hu:∀a∈l,∀v∈a.L,okU v):okU ((l.map fst1).headD v0):=by
 cases l with
 | nil=>exact ez4
 | cons a t=>exact kzj (hu a (by simp))
theorem apply_eq {op:Int}{l:List Arg}(h:okA l)(hu:∀a∈l,∀v∈a.L,okU v):∃v,bzR (op,l)=some v∧okU v:=by
 have hl:=h.1;have hv:∀a∈l,∀v∈a.L,okW v:=fun a ha v hm=>(hu a ha v hm).1
 by_cases ho:op<0∨30≤op
 ·rw[apply_out ho];exact⟨_,rfl,az6 _⟩
 obtain⟨k,rfl⟩:=Int.eq_ofNat_of_zero_le (show 0≤op by omega);by_cases h1:(k:Int)=0∨(k:Int)=1∨(k:Int)=2∨(k:Int)=3∨(k:Int)=4
 ·rw[pzq (by omega) (by omega)];refine⟨if l.any badA=true then vE 15 else foldA (k:Int) l,?_,rzH (az6 _) (foldA_ok h hu (cntA_I64 h))⟩;cases hb:l.any badA with
  | true=>rw[vzg (by omega) hb];rfl
  | false =>
   simp only[Bool.false_eq_true,if_false];unfold foldA;by_cases h3:(k:Int)=3
   ·rw[if_pos h3,h3,DzF h hb]
   ·rw[if_neg h3,many_num (by omega) h hb]<;>rfl
 by_cases h2:(k:Int)=5∨(k:Int)=6∨(k:Int)=7∨(k:Int)=8∨(k:Int)=9
 ·rw[app_num (by omega) (by omega) hv];exact⟨_,rfl,rzH (recL_ok (okA_of hu)) (az6 _)⟩
 by_cases h3:(k:Int)=10∨(k:Int)=23∨(k:Int)=24∨(k:Int)=25
 ·obtain⟨v,e1,e3⟩:=CzX (k:=k) (l:=l) (by omega) (by omega) hu;rw[e1];exact⟨_,rfl,e3⟩
 by_cases h4:(k:Int)=11∨(k:Int)=12
 ·rw[pzq (by omega) (by omega)];refine⟨if l.any badA=true then vE 15 else truV (k:Int) l,?_,rzH (az6 _) (truV_ok hu)⟩;cases hb:l.any badA with
  | true=>rw[vzg (by omega) hb];rfl
  | false=>rw[many_tru h4 h hb];rfl
 by_cases h5:(k:Int)=13∨(k:Int)=21∨(k:Int)=22∨(k:Int)=29
 ·rw[app_ask (by omega) (by omega) hv];exact⟨_,rfl,rzH (askV_ok (okU_head hu)) (az6 _)⟩
 by_cases h6:(k:Int)=14∨(k:Int)=19∨(k:Int)=20∨(k:Int)=26∨(k:Int)=27
 ·rw[Azn (by omega) (by omega) hv];exact⟨_,rfl,yzZ hu⟩
 by_cases h7:(k:Int)=15∨(k:Int)=16∨(k:Int)=17
 ·rw[Azn (by omega) (by omega) hv];exact⟨_,rfl,yzZ hu⟩
 by_cases h8:(k:Int)=18
 ·rw[pzq (by omega) (by omega),h8];refine⟨if l.any badA=true then vE 15 else(match conA [] l with | .inl s=>dzB s | .inr y=>y.2),?_,rzH (az6 _) (conV_ok hu)⟩;cases hb:l.any badA with
  | true=>rw[vzg (by omega) hb];rfl
  | false=>rw[CzD h hb];rfl
 have hk:k=28:=by omega
 subst hk;obtain⟨_,_,_,_,_,_,_,_,a1,a2⟩:=ar_tab3;rw[gate (by omega),a1,a2,show(((28:Nat)):Int)=28 from rfl];by_cases hn:l.length=0
 ·rw[if_pos (by omega),core_na];exact⟨_,rfl,az6 _⟩
 ·rw[if_neg (by omega)];exact⟨_,rfl,az6 _⟩
def ltP (a b:Place):Bool:=decide (a.Sheet<b.Sheet)||decide (a.Sheet=b.Sheet)&&(decide (a.At.Row<b.At.Row)||decide (a.At.Row=b.At.Row)&&decide (a.At.Col<b.At.Col))
def eqP (a b:Place):Bool:=decide (a.Sheet=b.Sheet)&&(decide (a.At.Row=b.At.Row)&&decide (a.At.Col=b.At.Col))
theorem or3 (a b c:Int):kzC [a,b,c]=some (if a≠0 then a else if b≠0 then b else c):=by
 unfold kzC;have this:jzY (0,[a,b,c],(([a,b,c]:List Int).length:Int),0)=some ((fun(r:Option Nat)=>match r with|some i=>.inr (([a,b,c]:List Int).getD i 0)|none=>.inl ()) _) :=
  nzf (F:=fzB) (fun i=>(0,[a,b,c],(([a,b,c]:List Int).length:Int),(i:Int))) (fun r=>match r with|some i=>.inr (([a,b,c]:List Int).getD i 0)|none=>.inl ()) [a,b,c] (fun y=>!decide (y=0)) (by simp)
  (fun back i hi=>by
   unfold fzB;simp only;rw[ltT hi,azc,idxG hi,aza,wr1 (by simp only[List.length_cons,List.length_nil]at hi;omega)];have hg:([a,b,c]:List Int).getD i 0=([a,b,c]:List Int)[i]:=by rw[List.getD_eq_getElem?_getD,List.getElem?_eq_getElem hi];rfl
   rw[hg];cases decide (([a,b,c]:List Int)[i]=0)<;>rfl)
  (fun back=>by
   unfold fzB;simp only;rw[ltF,azb])
 rw[this,aza];by_cases h1:a=0
 ·by_cases h2:b=0
  ·by_cases h3:c=0<;>simp[h1,h2,h3,List.findIdx?_cons,osum]
  ·simp[h1,h2,List.findIdx?_cons,osum]
 ·simp[h1,List.findIdx?_cons,osum]
theorem kzg (a b:Place):kzX (a,b)=some (ltP a b):=by
 unfold kzX pzB;simp only;rw[bzl,aza,bzl,aza,bzl,aza,or3,aza,aza];unfold ltP cmpV;congr 1;rcases Int.lt_trichotomy a.Sheet b.Sheet with h1|h1|h1
 ·simp[h1]
 ·rcases Int.lt_trichotomy a.At.Row b.At.Row with h2|h2|h2
  ·simp[h1,h2]
  ·rcases Int.lt_trichotomy a.At.Col b.At.Col with h3|h3|h3
   ·simp[h1,h2,h3]
   ·simp[h1,h2,h3]
   ·simp[h1,h2,h3];omega
  ·have n1:¬a.At.Row<b.At.Row:=by omega
   have n2:¬a.At.Row=b.At.Row:=by omega
   simp[h1,h2,n1,n2]
 ·have n1:¬a.Sheet<b.Sheet:=by omega
  have n2:¬a.Sheet=b.Sheet:=by omega
  simp[h1,n1,n2]
def czm (l:List Slot)(p:Place)(k:Nat):Bool:=match l[k]? with|some s=>eqP s.P p|none=>false
theorem szB {a b:Nat}(h:a+b<1000000000):IntKind.i64.wrap ((IntKind.i64.wrap ((a:Int)+(b:Int))).tdiv 2)=(((a+b)/2:Nat):Int):=by
 rw[azG (n:=(a:Int)+b) (by omega) (by omega)];have:((a:Int)+b).tdiv 2=(((a+b)/2:Nat):Int):=by
  rw[show(a:Int)+b=((a+b:Nat):Int) by omega];rfl
 rw[this,azG (by omega) (by omega)]
theorem AzR (l:List Slot)(p:Place)(k:Nat):brn (decide ((k:Int)<(l.length:Int))) (obnd (idx l (k:Int)) fun y=>some ((k:Int),bif false then !(decide (y.P.Sheet=p.Sheet)&&(decide (y.P.At.Row=p.At.Row)&&decide (y.P.At.Col=p.At.Col)))else decide (y.P.Sheet=p.Sheet)&&(decide (y.P.At.Row=p.At.Row)&&decide (y.P.At.Col=p.At.Col)))) (some ((k:Int),false))=some ((k:Int),czm l p k):=by
 unfold czm;by_cases h:k<l.length
 ·rw[ltT h,azc,idxG h,aza,List.getElem?_eq_getElem h];rfl
 ·rw[dF0 (by omega),azb,List.getElem?_eq_none (by omega)]
theorem find_at {l:List Slot}{p:Place}{k:Nat}(hl:l.length≤100000000)(hk:k≤l.length)(h1:∀i (h:i<l.length),i<k→ltP l[i].P p=true)(h2:∀i (h:i<l.length),k≤i→ltP l[i].P p=false):
 fz6 (l,p)=some ((k:Int),czm l p k):=by
 have key:∀lo hi:Nat,lo≤k→k≤hi→hi≤l.length→czI (l,p,(lo:Int),(hi:Int))=some ((k:Int),czm l p k):=by
  intro lo hi a1 a2 a3;refine mzo (F:=czH) (fun x=>(x.2.2.2-x.2.2.1).toNat) (fun x=>∃lo hi:Nat,x=(l,p,(lo:Int),(hi:Int))∧lo≤k∧k≤hi∧hi≤l.length) (fun _=>((k:Int),czm l p k)) ?_ _ ⟨lo,hi,rfl,a1,a2,a3⟩ (by simp only;omega);rintro back _ ⟨lo,hi,rfl,a1,a2,a3⟩ hb;unfold czH;simp only;by_cases h:lo=hi
  ·subst h;have:lo=k:=by omega
   subst this;rw[dT0 rfl,azc,AzR]
  ·rw[dF0 (by omega),azb,szB (by omega)];have hm:(lo+hi)/2<l.length:=by omega
   rw[idxG hm,aza,kzg,aza];by_cases hlt:(lo+hi)/2<k
   ·rw[h1 _ hm hlt,azc,wr1 (by omega),hb (l,p,(((lo+hi)/2+1:Nat):Int),(hi:Int)) ⟨_,_,rfl,by omega,by omega,by omega⟩ (by simp only;omega)];rfl
   ·rw[h2 _ hm (by omega),azb,hb (l,p,(lo:Int),(((lo+hi)/2:Nat):Int)) ⟨_,_,rfl,by omega,by omega,by omega⟩ (by simp only;omega)];rfl
 unfold fz6 izZ;simp only;by_cases h:l.length=0
 ·have:k=0:=by omega
  subst this;rw[h,dT0 (by rfl),azc];unfold czm;rw[List.getElem?_eq_none (by omega)];rfl
 ·have hw:=szB (a:=0) (b:=l.length) (by omega);simp only[Int.cast_ofNat_Int,Nat.zero_add]at hw;rw[dF0 (by omega),azb,hw];have hm:l.length/2<l.length:=by omega
  rw[idxG hm,aza,kzg,aza];by_cases hlt:l.length/2<k
  ·rw[h1 _ hm hlt,azc,wr1 (by omega),key _ _ (by omega) (by omega) (by omega)];rfl
  ·have:=key 0 (l.length/2) (by omega) (by omega) (by omega);simp only[Int.cast_ofNat_Int]at this;rw[h2 _ hm (by omega),azb,this];rfl
theorem clone_is {l:List Slot}(hl:l.length≤100000000):bzZ l=some l:=by
 unfold bzZ;rw[appN (by simp only[List.length_nil];omega),aza];cases l with
 | nil=>simp[Ev.agree]
 | cons a l=>rfl
theorem put_end {e:Env}{p:Place}{v:Val}(hl:e.Slots.length≤1000000)(h:∀s∈e.Slots,ltP s.P p=true)(hv:v.Kind≠0):pzA (e,p,v)=some {e with Slots:=e.Slots++[⟨p,v⟩]}:=by
 unfold pzA;simp only;rw[find_at (k:=e.Slots.length) (by omega) (Nat.le_refl _) (fun i hi _=>h _ (List.getElem_mem hi)) (fun i hi hk=>by omega),aza,clone_is (by omega),aza];have:czm e.Slots p e.Slots.length=false:=by unfold czm;rw[List.getElem?_eq_none (by omega)]
 simp only[this,azb];rw[dF0 hv];simp only[Bool.not_false,azc];unfold bzU;simp only;have hs:sub e.Slots (e.Slots.length:Int) (e.Slots.length:Int)=some []:=by simp[sub]
 rw[hs,aza,dF0 (by simp),azb,decide_true,azc,appN (by simp only[List.length_singleton];omega)];rfl
def ezl (x y:Cell)(r:Int):List Cell:=(List.range (y.Col-x.Col+1).toNat).map fun(j:Nat)=>(⟨r,x.Col+(j:Int)⟩:Cell)
def cellsOf (x y:Cell):List Cell:=(List.range (y.Row-x.Row+1).toNat).flatMap fun(i:Nat)=>ezl x y (x.Row+(i:Int))
theorem cells_l2 {x y:Cell}{r:Int}{acc:List Cell}(h0:0≤x.Col)(h1:y.Col<256)(ha:acc.length≤100000000):izn (y,acc,r,x.Col)=some (acc++ezl x y r):=by
 have this:izn (y,acc,r,x.Col+((0:Nat):Int))=some (id (azy (fun(s:List Cell) (j:Nat)=>(.inl (s++[(⟨r,x.Col+(j:Int)⟩:Cell)]):List Cell⊕List Cell)) id acc (List.range (y.Col-x.Col+1).toNat))) :=
  azR (F:=gzC) (fun(s:List Cell) (i:Nat)=>(y,s,r,x.Col+(i:Int))) id (List.range (y.Col-x.Col+1).toNat) (fun s j=>.inl (s++[(⟨r,x.Col+(j:Int)⟩:Cell)])) id (fun s i=>s.length=acc.length+i) (by rw[List.length_range];omega)
  (fun back s i hi hs=>by
   have hi':=hi;rw[List.length_range]at hi';unfold gzC;simp only;rw[dT0 (by omega),azc,appN (by simp only[List.length_singleton];omega),aza,List.getElem_range,azG (by omega) (by omega)];simp only[kzD];rw[show x.Col+(i:Int)+1=x.Col+((i+1:Nat):Int) by omega])
  (fun s i hi s' hs e=>by cases e;simp only[List.length_append,List.length_singleton];omega)
  (fun back s hs=>by
   unfold gzC;simp only;rw[List.length_range,dF0 (by omega),azb];rfl) acc rfl
 rw[czd,show x.Col+((0:Nat):Int)=x.Col by omega]at this;rw[this];have:∀(m:List Nat) (s:List Cell),m.foldl (fun s (j:Nat)=>s++[(⟨r,x.Col+(j:Int)⟩:Cell)]) s=s++m.map fun(j:Nat)=>(⟨r,x.Col+(j:Int)⟩:Cell):=by
  intro m;induction m with
  | nil=>intro s;simp
  | cons v m ih=>intro s;rw[List.foldl_cons,ih];simp
 rw[id,id,this];rfl
theorem cells_l1 {x y:Cell}(h0:0≤x.Col)(h1:y.Col<256)(h2:0≤x.Row)(h3:y.Row<65536):izm (x,y,[],x.Row)=some (cellsOf x y):=by
 have hrow:∀r,(ezl x y r).length≤300:=fun r=>by unfold ezl;rw[List.length_map,List.length_range];omega
 have this:izm (x,y,[],x.Row+((0:Nat):Int))=some (id (azy (fun(s:List Cell) (i:Nat)=>(.inl (s++ezl x y (x.Row+(i:Int))):List Cell⊕List Cell)) id [] (List.range (y.Row-x.Row+1).toNat))) :=
  azR (F:=gzB) (fun(s:List Cell) (i:Nat)=>(x,y,s,x.Row+(i:Int))) id (List.range (y.Row-x.Row+1).toNat) (fun s i=>.inl (s++ezl x y (x.Row+(i:Int)))) id (fun s i=>s.length≤300*i) (by rw[List.length_range];omega)
  (fun back s i hi hs=>by
   have hi':=hi;rw[List.length_range]at hi';have hrr:x.Row+(i:Int)≤y.Row:=by omega
   unfold gzB;simp only;rw[dT0 hrr,azc];have hs':s.length≤300*i:=hs;rw[cells_l2 h0 h1 (by omega),aza,List.getElem_range,azG (by omega) (by omega)];simp only[kzD];rw[show x.Row+(i:Int)+1=x.Row+((i+1:Nat):Int) by omega])
  (fun s i hi s' hs e=>by
   cases e;have:=hrow (x.Row+(((List.range (y.Row-x.Row+1).toNat)[i]:Nat):Int));have hs':s.length≤300*i:=hs
   show(s++_).length≤300*(i+1)
   rw[List.length_append];omega)
  (fun back s hs=>by
   unfold gzB;simp only;rw[List.length_range,dF0 (by omega),azb];rfl) [] (Nat.zero_le _)
 rw[czd,show x.Row+((0:Nat):Int)=x.Row by omega]at this;rw[this];have:∀(m:List Nat) (s:List Cell),m.foldl (fun s (i:Nat)=>s++ezl x y (x.Row+(i:Int))) s=s++m.flatMap fun(i:Nat)=>ezl x y (x.Row+(i:Int)):=by
  intro m;induction m with
  | nil=>intro s;simp
  | cons v m ih=>intro s;rw[List.foldl_cons,ih];simp
 rw[id,id,this];rfl
def izQ (x y:Cell):Int:=(y.Row-x.Row+1)*(y.Col-x.Col+1)
theorem cells_is {a:Area}{b x y:Cell}(hb:gzM (a,b)=some (x,y))(h0:0≤x.Col)(h1:y.Col<256)(h2:0≤x.Row)(h3:y.Row<65536)(h4:x.Row≤y.Row)(h5:x.Col≤y.Col):
 cz1 (a,b)=some (if 4096<izQ x y then []else cellsOf x y):=by
 unfold cz1;rw[hb,aza];simp only;have hm:0≤(y.Row-x.Row+1)*(y.Col-x.Col+1)∧(y.Row-x.Row+1)*(y.Col-x.Col+1)≤65536*256:=by
  refine⟨Int.mul_nonneg (by omega) (by omega),?_⟩;exact Int.mul_le_mul (by omega) (by omega) (by omega) (by omega)
 rw[azG (n:=y.Row-x.Row) (by omega) (by omega),azG (n:=y.Row-x.Row+1) (by omega) (by omega),azG (n:=y.Col-x.Col) (by omega) (by omega),azG (n:=y.Col-x.Col+1) (by omega) (by omega),azG (by omega) (by omega)];unfold izQ;by_cases h:4096<(y.Row-x.Row+1)*(y.Col-x.Col+1)
 ·rw[dT0 h,azc,if_pos h]
 ·rw[dF0 h,azb,if_neg h,cells_l1 h0 h1 h2 h3];rfl
theorem area_l2 {w:Worker}{sh:Int}{cs:List Cell}{g:Cell→Val}(hl:cs.length≤1000000)(hg:∀c∈cs,bz2 (w.v,⟨sh,c⟩)=some (g c)):
 czU ([],sh,w,⟨true,[]⟩,cs,(cs.length:Int),0)=some (cs.map g,⟨true,cs.map g⟩):=by
 have this:czU ([],sh,w,⟨true,[]⟩,cs,(cs.length:Int),((0:Nat):Int))=some ((fun(s:List Val)=>(s,(⟨true,s⟩:Arg))) (azy (fun(s:List Val) (c:Cell)=>(.inl (s++[g c]):List Val⊕List Val)) id [] cs)) :=
  azR (F:=czT) (fun(s:List Val) (i:Nat)=>(s,sh,w,(⟨true,s⟩:Arg),cs,(cs.length:Int),(i:Int))) (fun(s:List Val)=>(s,(⟨true,s⟩:Arg))) cs (fun s c=>.inl (s++[g c])) id (fun s i=>s.length=i) (by omega)
  (fun back s i hi hs=>by
   unfold czT;simp only;rw[ltT hi,azc,idxG hi,aza,hg _ (List.getElem_mem hi),aza,appN (by simp only[List.length_singleton];omega),aza,wr1 (by omega)];rfl)
  (fun s i hi s' hs e=>by cases e;simp[hs])
  (fun back s hs=>by
   unfold czT;simp only;rw[ltF,azb];rfl) [] rfl
 rw[czd]at this;rw[show(0:Int)=((0:Nat):Int) from rfl,this];have:∀(m:List Cell) (s:List Val),m.foldl (fun s c=>s++[g c]) s=s++m.map g:=by
  intro m;induction m with
  | nil=>intro s;simp
  | cons v m ih=>intro s;rw[List.foldl_cons,ih];simp
 rw[id,this];rfl
theorem vzZ {w:Worker}{sh:Int}{a:Area}{wh:Bool}{cs:List Cell}{g:Cell→Val}(hw:w.rows=0)(hc:cz1 (a,w.at_.At)=some cs)(hne:cs≠[])(hl:cs.length≤1000000)(h0:0≤sh)(h1:sh<w.v.Sheets)
 (hg:∀c∈cs,bz2 (w.v,⟨sh,c⟩)=some (g c)):az5 (w,sh,a,wh)=some ⟨true,cs.map g⟩:=by
 unfold az5;simp only;have hlen:0<cs.length:=List.length_pos_iff.2 hne;rw[hc,aza,dF0 (by omega),azb,dF0 (by omega),azb,dF0 (by omega),azb,hw,dF0 (by omega),azb];unfold dzT;simp only[azb,aza,osum];rw[area_l2 hl hg];rfl
theorem args_is {self:Worker×Expr×Bool→Option Arg}{w:Worker}{e:Expr}{kids:List Expr}{wh:Bool}{f:Expr→Arg}(hl:kids.length≤1000000)(hw:gz3 e.Op=some wh)(hf:∀k∈kids,self (w,k,wh)=some (f k)):
 ezv self (w,e,[],kids,(kids.length:Int),0)=some (kids.map f):=by
 have this:ezv self (w,e,[],kids,(kids.length:Int),((0:Nat):Int))=some (id (azy (fun(s:List Arg) (k:Expr)=>(.inl (s++[f k]):List Arg⊕List Arg)) id [] kids)) :=
  azR (F:=dza self) (fun(s:List Arg) (i:Nat)=>(w,e,s,kids,(kids.length:Int),(i:Int))) id kids (fun s k=>.inl (s++[f k])) id (fun s i=>s.length=i) (by omega)
  (fun back s i hi hs=>by
   unfold dza;simp only;rw[ltT hi,azc,idxG hi,aza,hw,aza,az8,az8,hf _ (List.getElem_mem hi),aza,appN (by simp only[List.length_singleton];omega),aza,wr1 (by omega)];rfl)
  (fun s i hi s' hs e=>by cases e;simp[hs])
  (fun back s hs=>by
   unfold dza;simp only;rw[ltF,azb];rfl) [] rfl
 rw[czd]at this;rw[show(0:Int)=((0:Nat):Int) from rfl,this];have:∀(m:List Expr) (s:List Arg),m.foldl (fun s c=>s++[f c]) s=s++m.map f:=by
  intro m;induction m with
  | nil=>intro s;simp
  | cons v m ih=>intro s;rw[List.foldl_cons,ih];simp
 rw[id,id,this];rfl
def jzr (a:Arg):Prop:=a.L.length≤5000∧(∀v∈a.L,okU v)∧(a.Area=false→∃v,a.L=[v])
theorem hzN {v:Val}(h:okU v):jzr ⟨false,[v]⟩:=⟨by simp,fun w hw=>by rw[List.mem_singleton.1 hw];exact h,fun _=>⟨v,rfl⟩⟩
structure Two (w w':Worker) (mv:Cell→Cell) (C:Cell→Prop):Prop where
 r:w.rows=0
 r':w'.rows=0
 sh:w'.at_.Sheet=w.at_.Sheet
 shs:w'.v.Sheets=w.v.Sheets
 get:∀sh c,C c→∃v,bz2 (w.v,⟨sh,c⟩)=some v∧bz2 (w'.v,⟨sh,mv c⟩)=some v∧okU v
def leafP (w w':Worker)(mv:Cell→Cell)(C:Cell→Prop)(e:Expr):Prop :=
 e.Kind≠6∧(e.Kind=2∨e.Kind=4→∃c,hzT (e.A.A,w.at_.At)=some c∧hzT (e.A.A,w'.at_.At)=some (mv c)∧C c) ∧
 (e.Kind=3∨e.Kind=5→∃cs,cz1 (e.A,w.at_.At)=some cs∧cz1 (e.A,w'.at_.At)=some (cs.map mv)∧cs.length≤5000∧∀c∈cs,C c)
variable {w w':Worker} {mv:Cell→Cell} {C:Cell→Prop}
theorem Azq (hw:Two w w' mv C){a:Area}{sh:Int}{wh:Bool}{cs:List Cell}(h1:cz1 (a,w.at_.At)=some cs)(h2:cz1 (a,w'.at_.At)=some (cs.map mv))(hl:cs.length≤5000)(hc:∀c∈cs,C c):
 ∃r,az5 (w,sh,a,wh)=some r∧az5 (w',sh,a,wh)=some r∧jzr r:=by
 by_cases h0:cs=[]
 ·subst h0;refine⟨⟨false,[vE 23]⟩,?_,?_,hzN (az6 23)⟩
  ·unfold az5;simp only;rw[h1];rfl
  ·unfold az5;simp only;rw[h2];rfl
 have hn:cs.map mv≠[]:=by simpa using h0
 have hp:0<cs.length:=List.length_pos_iff.2 h0;by_cases s0:sh<0
 ·refine⟨⟨false,[vE 23]⟩,?_,?_,hzN (az6 23)⟩
  ·unfold az5;simp only;rw[h1,aza,dF0 (by omega),dT0 s0];rfl
  ·unfold az5;simp only;rw[h2,aza,List.length_map,dF0 (by omega),dT0 s0];rfl
 by_cases s1:w.v.Sheets≤sh
 ·refine⟨⟨false,[vE 23]⟩,?_,?_,hzN (az6 23)⟩
  ·unfold az5;simp only;rw[h1,aza,dF0 (by omega),dF0 s0,dT0 s1];rfl
  ·unfold az5;simp only;rw[h2,aza,List.length_map,dF0 (by omega),dF0 s0,hw.shs,dT0 s1];rfl
 have hg:∀c∈cs,bz2 (w.v,⟨sh,c⟩)=some ((bz2 (w.v,⟨sh,c⟩)).getD v0):=fun c hm=>by
  obtain⟨v,e1,_,_⟩:=hw.get sh c (hc c hm);rw[e1];rfl
 refine⟨⟨true,cs.map fun c=>(bz2 (w.v,⟨sh,c⟩)).getD v0⟩,vzZ hw.r h1 h0 (by omega) (by omega) (by omega) hg,?_,by simpa using hl,?_,fun h=>by cases h⟩
 ·have hg':∀c∈cs.map mv,bz2 (w'.v,⟨sh,c⟩)=some ((bz2 (w'.v,⟨sh,c⟩)).getD v0):=fun c hm=>by
   obtain⟨b,hb,rfl⟩:=List.mem_map.1 hm;obtain⟨v,_,e2,_⟩:=hw.get sh b (hc b hb);rw[e2];rfl
  rw[vzZ hw.r' h2 hn (by rw[List.length_map];omega) (by omega) (by rw[hw.shs];omega) hg',List.map_map];congr 2;refine List.map_congr_left fun c hm=>?_
  obtain⟨v,e1,e2,_⟩:=hw.get sh c (hc c hm)
  show(bz2 (w'.v,⟨sh,mv c⟩)).getD v0=_
  rw[e1,e2]
 ·intro v hv;obtain⟨c,hm,rfl⟩:=List.mem_map.1 hv;obtain⟨v,e1,_,e3⟩:=hw.get sh c (hc c hm);rw[e1];exact e3
theorem leaf_two (hw:Two w w' mv C){S S':Worker×Expr×Bool→Option Arg}{e:Expr}{wh:Bool}(h2:2≤e.Kind)(h6:e.Kind≤6)(h:leafP w w' mv C e):
 ∃a,bzc S (w,e,wh)=some a∧bzc S' (w',e,wh)=some a∧jzr a:=by
 obtain⟨n6,hc,ha⟩:=h;unfold bzc;simp only;rw[dF0 (show ¬e.Kind=1 by omega),azb,azb];rcases(show e.Kind=2∨e.Kind=3∨e.Kind=4∨e.Kind=5 by omega)with k|k|k|k
 ·obtain⟨c,e1,e2,e3⟩:=hc (.inl k);obtain⟨v,f1,f2,f3⟩:=hw.get w.at_.Sheet c e3;rw[dT0 k,azc,azc,e1,aza,e2,aza,hw.sh,f1,aza,f2,aza];exact⟨_,rfl,rfl,hzN f3⟩
 ·obtain⟨cs,e1,e2,e3,e4⟩:=ha (.inl k);obtain⟨r,f1,f2,f3⟩:=Azq hw (sh:=w.at_.Sheet) (wh:=wh) e1 e2 e3 e4;rw[dF0 (show ¬e.Kind=2 by omega),dF0 (show ¬e.Kind=4 by omega),dT0 k];simp only[azb,azc];rw[hw.sh,f1,aza,f2,aza];exact⟨_,rfl,rfl,f3⟩
 ·obtain⟨c,e1,e2,e3⟩:=hc (.inr k);obtain⟨v,f1,f2,f3⟩:=hw.get e.Sheet c e3;rw[dF0 (show ¬e.Kind=2 by omega),dT0 k];simp only[azb,azc];rw[e1,aza,e2,aza,f1,aza,f2,aza];exact⟨_,rfl,rfl,hzN f3⟩
 ·obtain⟨cs,e1,e2,e3,e4⟩:=ha (.inr k);obtain⟨r,f1,f2,f3⟩:=Azq hw (sh:=e.Sheet) (wh:=wh) e1 e2 e3 e4;rw[dF0 (show ¬e.Kind=2 by omega),dF0 (show ¬e.Kind=4 by omega),dF0 (show ¬e.Kind=3 by omega),dT0 k];simp only[azb,azc];rw[f1,aza,f2,aza];exact⟨_,rfl,rfl,f3⟩
def opS (s:List Val×Bool)(a:Arg):List Val×Bool:=if a.Area=true then(s.1,false)else(s.1++[fst1 a],s.2)
theorem szG {self:Worker×Expr×Bool→Option Arg}{w:Worker}{kids:List Expr}{f:Expr→Arg}(hl:kids.length≤1000000)(hf:∀k∈kids,self (w,k,false)=some (f k)∧jzr (f k)):
 dzA self (w,kids)=some ((kids.map f).foldl opS ([],true)):=by
 have this:ezh self (w,[],true,kids,(kids.length:Int),((0:Nat):Int))=some (id (azy (fun(s:List Val×Bool) (k:Expr)=>(.inl (opS s (f k)):(List Val×Bool)⊕(List Val×Bool))) id ([],true) kids)) :=
  azR (F:=czc self) (fun(s:List Val×Bool) (i:Nat)=>(w,s.1,s.2,kids,(kids.length:Int),(i:Int))) id kids (fun s k=>.inl (opS s (f k))) id (fun s i=>s.1.length≤i) (by omega)
  (fun back s i hi hs=>by
   obtain⟨e1,_,_,e3⟩:=hf _ (List.getElem_mem hi);unfold czc opS;simp only;rw[ltT hi,azc,idxG hi,aza,az8,e1,aza,wr1 (by omega)];cases ha:(f kids[i]).Area with
   | true=>rfl
   | false =>
    obtain⟨v,hv⟩:=e3 ha;rw[azb,if_neg (by simp)];unfold fst1;rw[hv,idxZ,aza,appN (by simp only[List.length_singleton];omega),aza];rfl)
  (fun s i hi s' hs e=>by
   cases e;unfold opS;split
   ·exact Nat.le_succ_of_le hs
   ·simp only[List.length_append,List.length_singleton];omega)
  (fun back s hs=>by
   unfold czc;simp only;rw[ltF,azb];rfl) ([],true) (by simp)
 rw[czd]at this;unfold dzA;simp only;rw[show(0:Int)=((0:Nat):Int) from rfl,this,aza,id,id,List.foldl_map]
theorem okFst {a:Arg}(h:jzr a):okU (fst1 a):=kzj h.2.1
theorem Dz3 (op:Int):∃b,gz3 op=some b:=by
 have:∃y,nzg op=some y:=by
  unfold nzg;rw[show gz6 ()=some ((gz6 ()).getD []) by kernel_rfl,aza];by_cases h0:op<0
  ·rw[dT0 h0];exact⟨_,rfl⟩
  rw[dF0 h0,azb];generalize (gz6 ()).getD []=y;by_cases h1:(y.length:Int)≤op
  ·rw[dT0 h1];exact⟨_,rfl⟩
  rw[dF0 h1,azb];obtain⟨n,rfl⟩:=Int.eq_ofNat_of_zero_le (show 0≤op by omega);rw[idxG (show n<y.length by omega)];exact⟨_,rfl⟩
 obtain⟨y,hy⟩:=this;unfold gz3;rw[hy,aza]
 repeat' apply bzu
 all_goals exact⟨_,rfl⟩
def i64T:Nat→Expr→Prop
 | 0,_=>False
 | d+1,e=>I64 e.V.N.M∧∀k∈e.Kids,i64T d k
theorem arg_two (hw:Two w w' mv C):∀(d N N':Nat) (e:Expr) (wh:Bool),d≤N→d≤N'→sz d e≤1000→tr d e→okN d e→i64T d e→lv (leafP w w' mv C) d e →
 ∃a,iter bzc N (w,e,wh)=some a∧iter bzc N' (w',e,wh)=some a∧jzr a
 | 0,_,_,_,_,_,_,_,h,_,_,_=>h.elim
 | d+1,0,_,_,_,h,_,_,_,_,_,_=>absurd h (by omega)
 | d+1,_,0,_,_,_,h,_,_,_,_,_=>absurd h (by omega)
 | d+1,N+1,N'+1,e,wh,hN,hN',hs,ht,ho,hi,hv=>by
  have hl:=lenK hs;rw[azH,azH];by_cases hlf:2≤e.Kind∧e.Kind≤6
  ·unfold lv at hv;rw[if_pos hlf]at hv;exact leaf_two hw hlf.1 hlf.2 hv
  unfold lv at hv;rw[if_neg hlf]at hv;have ih:∀wo,∀k∈e.Kids,∃a,iter bzc N (w,k,wo)=some a∧iter bzc N' (w',k,wo)=some a∧jzr a:=fun wo k hk =>
   arg_two hw d N N' k wo (by omega) (by omega) (szK hs hk) (pzg ht hk) (ho.2 k hk) (hi.2 k hk) (hv k hk)
  generalize iter bzc N=S at ih ⊢;generalize iter bzc N'=S' at ih ⊢;obtain⟨k0,k1,kV,k7,k8,k10,k30,_⟩:=ho.1
  let f:Bool→Expr→Arg:=fun wo k=>(S (w,k,wo)).getD noA
  have hf:∀wo,∀k∈e.Kids,S (w,k,wo)=some (f wo k)∧S' (w',k,wo)=some (f wo k)∧jzr (f wo k):=fun wo k hk=>by
   obtain⟨a,a1,a2,a3⟩:=ih wo k hk
   show S (w,k,wo)=some ((S (w,k,wo)).getD noA)∧S' (w',k,wo)=some ((S (w,k,wo)).getD noA)∧jzr ((S (w,k,wo)).getD noA)
   rw[a1];exact⟨rfl,a2,a3⟩
  generalize f=f at hf;unfold bzc;simp only[az8];rcases(show e.Kind=1∨e.Kind=7∨e.Kind=8∨e.Kind=9∨e.Kind=10 by omega)with k|k|k|k|k
  ·rw[dT0 k,azc,azc];obtain⟨c,c1,c2,_⟩:=lz7 ht.1;rw[kV k]at c2;exact⟨_,rfl,rfl,hzN (okU_of ht.1 hi.1 (by rw[c1,←c2]))⟩
  ·obtain⟨x,hx⟩:∃x,e.Kids=[x]:=by
    have:=k7 k
    match e.Kids,this with
    | [x],_=>exact⟨x,rfl⟩
   obtain⟨f1,f2,f3⟩:=hf false x (by rw[hx];simp);rw[dF0 (show ¬e.Kind=1 by omega),dF0 (show ¬e.Kind=2 by omega),dF0 (show ¬e.Kind=4 by omega),dF0 (show ¬e.Kind=3 by omega),dF0 (show ¬e.Kind=5 by omega),dF0 (show ¬e.Kind=6 by omega),dF0 (show ¬e.Kind=10 by omega),dF0 (show ¬e.Kind=9 by omega),dT0 k];simp only[azb,azc];rw[szG (f:=f false) (by omega) fun y hy=>⟨(hf false y hy).1,(hf false y hy).2.2⟩,szG (f:=f false) (by omega) fun y hy=>⟨(hf false y hy).2.1,(hf false y hy).2.2⟩,hx];simp only[List.map_cons,List.map_nil,List.foldl_cons,List.foldl_nil,aza];unfold opS;by_cases ha:(f false x).Area=true
   ·rw[if_pos ha];exact⟨_,rfl,rfl,hzN (az6 15)⟩
   ·rw[if_neg ha];obtain⟨v,v1,v3⟩:=unU_eq (op:=e.Op) (okFst f3);simp only[List.nil_append,Bool.not_true,azb];rw[idxZ,aza,v1,aza];exact⟨_,rfl,rfl,hzN v3⟩
  ·obtain⟨x,y,hx⟩:∃x y,e.Kids=[x,y]:=by
    have:=k8 k
    match e.Kids,this with
    | [x,y],_=>exact⟨x,y,rfl⟩
   obtain⟨f1,f2,f3⟩:=hf false x (by rw[hx];simp);obtain⟨g1,g2,g3⟩:=hf false y (by rw[hx];simp);rw[dF0 (show ¬e.Kind=1 by omega),dF0 (show ¬e.Kind=2 by omega),dF0 (show ¬e.Kind=4 by omega),dF0 (show ¬e.Kind=3 by omega),dF0 (show ¬e.Kind=5 by omega),dF0 (show ¬e.Kind=6 by omega),dF0 (show ¬e.Kind=10 by omega),dF0 (show ¬e.Kind=9 by omega),dF0 (show ¬e.Kind=7 by omega)];simp only[azb];rw[szG (f:=f false) (by omega) fun y hy=>⟨(hf false y hy).1,(hf false y hy).2.2⟩,szG (f:=f false) (by omega) fun y hy=>⟨(hf false y hy).2.1,(hf false y hy).2.2⟩,hx];simp only[List.map_cons,List.map_nil,List.foldl_cons,List.foldl_nil,aza];unfold opS;by_cases ha:(f false x).Area=true
   ·rw[if_pos ha];by_cases hb:(f false y).Area=true
    ·rw[if_pos hb];exact⟨_,rfl,rfl,hzN (az6 15)⟩
    ·rw[if_neg hb];exact⟨_,rfl,rfl,hzN (az6 15)⟩
   ·rw[if_neg ha];by_cases hb:(f false y).Area=true
    ·rw[if_pos hb];exact⟨_,rfl,rfl,hzN (az6 15)⟩
    ·rw[if_neg hb];obtain⟨v,v1,v3⟩:=binU_eq (op:=e.Op) (okFst f3) (okFst g3);simp only[List.nil_append,List.cons_append,Bool.not_true,azb];rw[idxZ,aza,show idx [fst1 (f false x),fst1 (f false y)] 1=some (fst1 (f false y)) from rfl,aza,v1,aza];exact⟨_,rfl,rfl,hzN v3⟩
  ·obtain⟨wo,hwo⟩:=Dz3 e.Op;rw[dF0 (show ¬e.Kind=1 by omega),dF0 (show ¬e.Kind=2 by omega),dF0 (show ¬e.Kind=4 by omega),dF0 (show ¬e.Kind=3 by omega),dF0 (show ¬e.Kind=5 by omega),dF0 (show ¬e.Kind=6 by omega),dF0 (show ¬e.Kind=10 by omega),dT0 k];simp only[azb,azc];rw[args_is (f:=f wo) (by omega) hwo fun y hy=>(hf wo y hy).1,args_is (f:=f wo) (by omega) hwo fun y hy=>(hf wo y hy).2.1,aza];have hm:∀a∈e.Kids.map (f wo),jzr a:=fun a ha=>by
    obtain⟨y,hy,rfl⟩:=List.mem_map.1 ha;exact(hf wo y hy).2.2
   obtain⟨v,v1,v3⟩:=apply_eq (op:=e.Op) (l:=e.Kids.map (f wo)) ⟨by rw[List.length_map];omega,fun a ha=>⟨(hm a ha).1,fun v hv=>((hm a ha).2.1 v hv).1⟩⟩ (fun a ha=>(hm a ha).2.1);rw[v1,aza];exact⟨_,rfl,rfl,hzN v3⟩
  ·obtain⟨x,hx⟩:∃x,e.Kids=[x]:=by
    have:=k10 k
    match e.Kids,this with
    | [x],_=>exact⟨x,rfl⟩
   obtain⟨f1,f2,f3⟩:=hf wh x (by rw[hx];simp);rw[dF0 (show ¬e.Kind=1 by omega),dF0 (show ¬e.Kind=2 by omega),dF0 (show ¬e.Kind=4 by omega),dF0 (show ¬e.Kind=3 by omega),dF0 (show ¬e.Kind=5 by omega),dF0 (show ¬e.Kind=6 by omega),dT0 k];simp only[azb,azc];rw[hx,idxZ,aza,f1,aza,aza,f2,aza];exact⟨_,rfl,rfl,f3⟩
end Go.Proofs.YtdgpkbnnljblmaaGreatDoor
/- QG -/
namespace Go.Proofs.YtdgpkbnnljblmaaGreatDoor
open Go Go.Ev Go.Lib
theorem pzG (back:List Slot×Place×Int×Int→Option (Int×Bool))(l:List Slot)(p:Place)(lo:Nat):czH back (l,p,(lo:Int),(lo:Int))=some ((lo:Int),czm l p lo):=by
 show brn (decide ((lo:Int)=(lo:Int))) _ _=_
 rw[dT0 (Eq.refl (lo:Int)),azc];exact AzR l p lo
theorem find_two {l l':List Slot}{p p':Place}(hl:l.length≤1000)(hll:l'.length=l.length)(hlt:∀i (h:i<l.length) (h':i<l'.length),ltP l'[i].P p'=ltP l[i].P p)(hf:∀k,czm l' p' k=czm l p k):
 ∃k:Nat,k≤l.length∧fz6 (l,p)=some ((k:Int),czm l p k)∧fz6 (l',p')=some ((k:Int),czm l p k):=by
 have key:∀t N (lo hi:Nat),hi-lo≤t→t<N→lo≤hi→hi≤l.length→∃k:Nat,k≤l.length∧iter czH N (l,p,(lo:Int),(hi:Int))=some ((k:Int),czm l p k)∧iter czH N (l',p',(lo:Int),(hi:Int))=some ((k:Int),czm l p k):=by
  intro t;induction t with
  | zero =>
   intro N lo hi h1 h2 h3 h4;obtain⟨m,rfl⟩:∃m,N=m+1:=⟨N-1,by omega⟩;have:lo=hi:=by omega
   subst this;refine⟨lo,h4,?_,?_⟩
   ·rw[azH,pzG]
   ·rw[azH,pzG,hf]
  | succ t ih =>
   intro N lo hi h1 h2 h3 h4;obtain⟨m,rfl⟩:∃m,N=m+1:=⟨N-1,by omega⟩;rw[azH,azH];by_cases h:lo=hi
   ·subst h;refine⟨lo,h4,?_,?_⟩
    ·rw[pzG]
    ·rw[pzG,hf]
   have hm:(lo+hi)/2<l.length:=by omega
   have ih1:=ih m ((lo+hi)/2+1) hi (by omega) (by omega) (by omega) h4;have ih2:=ih m lo ((lo+hi)/2) (by omega) (by omega) (by omega) (by omega);generalize iter czH m=B at ih1 ih2 ⊢;unfold czH;simp only;rw[dF0 (by omega),azb,azb,szB (by omega),idxG hm,idxG (show(lo+hi)/2<l'.length by omega),aza,aza,kzg,kzg,aza,aza,hlt _ hm (by omega),wr1 (by omega)];cases ltP l[(lo+hi)/2].P p with
   | true =>
    obtain⟨k,a1,a2,a3⟩:=ih1;rw[azc,azc,a2,a3];exact⟨k,a1,rfl,rfl⟩
   | false =>
    obtain⟨k,a1,a2,a3⟩:=ih2;rw[azb,azb,a2,a3];exact⟨k,a1,rfl,rfl⟩
 unfold fz6 izZ;simp only;by_cases h:l.length=0
 ·rw[hll,h,dT0 (by rfl),azc,azc];have f0:czm l p 0=false:=by unfold czm;rw[List.getElem?_eq_none (by omega)]
  exact⟨0,by omega,by rw[f0];rfl,by rw[f0];rfl⟩
 ·have hw:=szB (a:=0) (b:=l.length) (by omega);simp only[Int.cast_ofNat_Int,Nat.zero_add]at hw;have hm:l.length/2<l.length:=by omega
  rw[hll,dF0 (by omega),azb,azb,hw,idxG hm,idxG (show l.length/2<l'.length by omega),aza,aza,kzg,kzg,aza,aza,hlt _ hm (by omega),wr1 (by omega)];cases ltP l[l.length/2].P p with
  | true =>
   obtain⟨k,a1,a2,a3⟩:=key l.length big (l.length/2+1) l.length (by omega) (by rw[bz7];omega) (by omega) (by omega);rw[azc,azc,show czI (l,p,((l.length/2+1:Nat):Int),(l.length:Int))=_ from a2,show czI (l',p',((l.length/2+1:Nat):Int),(l.length:Int))=_ from a3];exact⟨k,a1,rfl,rfl⟩
  | false =>
   obtain⟨k,a1,a2,a3⟩:=key l.length big 0 (l.length/2) (by omega) (by rw[bz7];omega) (by omega) (by omega);rw[azb,azb,show czI (l,p,0,((l.length/2:Nat):Int))=_ from a2,show czI (l',p',0,((l.length/2:Nat):Int))=_ from a3];exact⟨k,a1,rfl,rfl⟩
theorem good_ex (v:Env)(p:Place):∃b,ezU (v,p)=some b:=by
 have:∃g,hzt p.At=some g:=by
  unfold hzt
  repeat' apply bzu
  all_goals exact⟨_,rfl⟩
 obtain⟨g,hg⟩:=this;unfold ezU;simp only;rw[hg]
 repeat' apply bzu
 all_goals exact⟨_,rfl⟩
theorem get_two {v v':Env}{p p':Place}(hl:v.Slots.length≤1000)(hll:v'.Slots.length=v.Slots.length)(hlt:∀i (h:i<v.Slots.length) (h':i<v'.Slots.length),ltP v'.Slots[i].P p'=ltP v.Slots[i].P p∧eqP v'.Slots[i].P p'=eqP v.Slots[i].P p∧v'.Slots[i].V=v.Slots[i].V)
 (hu:∀s∈v.Slots,okU s.V) (hg:ezU (v',p')=ezU (v,p)):∃x,bz2 (v,p)=some x∧bz2 (v',p')=some x∧okU x:=by
 have hf:∀k,czm v'.Slots p' k=czm v.Slots p k:=fun k=>by
  unfold czm;by_cases h:k<v.Slots.length
  ·rw[List.getElem?_eq_getElem h,List.getElem?_eq_getElem (show k<v'.Slots.length by omega)];exact(hlt k h (by omega)).2.1
  ·rw[List.getElem?_eq_none (by omega),List.getElem?_eq_none (by omega)]
 obtain⟨k,k1,e1,e2⟩:=find_two hl hll (fun i h h'=>(hlt i h h').1) hf;obtain⟨g,hg1⟩:=good_ex v p;unfold bz2;simp only;rw[hg,hg1,aza];cases g with
 | false=>exact⟨_,rfl,rfl,az6 23⟩
 | true =>
  simp only[Bool.not_true,azb];rw[e1,e2,aza,aza];cases h:czm v.Slots p k with
  | false=>exact⟨_,rfl,rfl,ez4⟩
  | true =>
   have hk:k<v.Slots.length:=by
    by_cases c:k<v.Slots.length
    ·exact c
    ·unfold czm at h;rw[List.getElem?_eq_none (by omega)]at h;cases h
   simp only[azc,Bool.not_true,azb,aza];rw[idxG hk,idxG (show k<v'.Slots.length by omega),aza,aza,(hlt k hk (by omega)).2.2];exact⟨_,rfl,rfl,hu _ (List.getElem_mem hk)⟩
theorem ozY {x m:Int}(h0:0<m)(hm:m≤1000000):hzu (x,m)=some (x%m):=by
 have h1:-m<x.tmod m:=Int.lt_tmod_of_pos x h0;have h2:x.tmod m<m:=Int.tmod_lt_of_pos x h0;unfold hzu;simp only;rw[dF0 (by omega),azb,azb,azG (by omega) (by omega),Int.tmod_eq_emod_of_nonneg (by omega),Int.add_emod_right];have:=Int.mul_tdiv_add_tmod x m;rw[show x%m=(x.tmod m+m*x.tdiv m)%m by rw[Int.add_comm,this],Int.add_mul_emod_self_left]
def mov (b:Bool)(x y m:Int):Int:=if b=true then(x%m+y%m)%m else x%m
theorem mov_in (b:Bool)(x y:Int){m:Int}(h:0<m):0≤mov b x y m∧mov b x y m<m:=by
 unfold mov;split
 ·exact⟨Int.emod_nonneg _ (by omega),Int.emod_lt_of_pos _ h⟩
 ·exact⟨Int.emod_nonneg _ (by omega),Int.emod_lt_of_pos _ h⟩
def atV (r:Ref)(b:Cell):Cell:=⟨mov r.RelRow r.Row b.Row 65536,mov r.RelCol r.Col b.Col 256⟩
theorem sum_tot {x y m:Int}(h0:0<m)(hm:m≤1000000):kzo (x,y,m)=some ((x%m+y%m)%m):=by
 have a1:=Int.emod_nonneg x (show m≠0 by omega);have a2:=Int.emod_lt_of_pos x h0;have b1:=Int.emod_nonneg y (show m≠0 by omega);have b2:=Int.emod_lt_of_pos y h0;unfold kzo;simp only;rw[ozY h0 hm,ozY h0 hm,aza,aza,azG (by omega) (by omega),ozY h0 hm];rfl
theorem at_is (r:Ref)(b:Cell):hzT (r,b)=some (atV r b):=by
 unfold hzT atV mov;simp only;rw[ozY (by omega) (by omega),ozY (by omega) (by omega),sum_tot (by omega) (by omega),sum_tot (by omega) (by omega)];cases r.RelRow<;>cases r.RelCol<;>rfl
theorem szo (r:Ref)(b:Cell):(0≤(atV r b).Row∧(atV r b).Row<65536)∧0≤(atV r b).Col∧(atV r b).Col<256:=⟨mov_in _ _ _ (by omega),mov_in _ _ _ (by omega)⟩
def loC (x y:Cell):Cell:=⟨if y.Row<x.Row then y.Row else x.Row,if y.Col<x.Col then y.Col else x.Col⟩
def hiC (x y:Cell):Cell:=⟨if x.Row<y.Row then y.Row else x.Row,if x.Col<y.Col then y.Col else x.Col⟩
theorem cond_dec {A:Type}{c:Prop}[Decidable c]{a b:A}:(bif decide c then a else b)=if c then a else b:=by by_cases h:c<;>simp[h]
theorem bounds_is (a:Area)(b:Cell):gzM (a,b)=some (loC (atV a.A b) (atV a.B b),hiC (atV a.A b) (atV a.B b)):=by
 unfold gzM loC hiC;simp only;rw[at_is,at_is,aza,aza];simp only[cond_dec]
theorem qz8 (a:Area)(b:Cell):cz1 (a,b)=some (if 4096<izQ (loC (atV a.A b) (atV a.B b)) (hiC (atV a.A b) (atV a.B b))then []else cellsOf (loC (atV a.A b) (atV a.B b)) (hiC (atV a.A b) (atV a.B b))):=by
 have h1:=szo a.A b;have h2:=szo a.B b;refine cells_is (bounds_is a b) ?_ ?_ ?_ ?_ ?_ ?_<;>simp only[loC,hiC]<;>(repeat' split)<;>omega
theorem izx {A B:Type}{f:A→List B}{m:Nat}:∀{l:List A},(∀a∈l,(f a).length=m)→(l.flatMap f).length=l.length*m
 | [],_=>by simp
 | a::l,h=>by
  rw[List.flatMap_cons,List.length_append,h a (by simp),izx fun b hb=>h b (by simp[hb]),List.length_cons,Nat.add_mul,Nat.one_mul];omega
theorem cells_len {x y:Cell}(h:¬4096<izQ x y)(hr:x.Row≤y.Row)(hc:x.Col≤y.Col):(cellsOf x y).length≤4096:=by
 unfold cellsOf;rw[izx (m:=(y.Col-x.Col+1).toNat) fun i _=>by unfold ezl;rw[List.length_map,List.length_range],List.length_range];unfold izQ at h;have:(((y.Row-x.Row+1).toNat*(y.Col-x.Col+1).toNat:Nat):Int)=(y.Row-x.Row+1)*(y.Col-x.Col+1):=by
  rw[Int.natCast_mul,Int.toNat_of_nonneg (by omega),Int.toNat_of_nonneg (by omega)]
 omega
theorem cells_ex (a:Area)(b:Cell):∃cs,cz1 (a,b)=some cs∧cs.length≤5000:=by
 have h1:=szo a.A b;have h2:=szo a.B b;refine⟨_,qz8 a b,?_⟩;split
 ·simp
 ·rename_i h;refine Nat.le_trans (cells_len h ?_ ?_) (by omega)<;>simp only[loC,hiC]<;>(repeat' split)<;>omega
def valOf (a:Arg):Val:=if a.Area=true then vE 15 else if(fst1 a).Kind=0 then vN ⟨0,0⟩else fst1 a
theorem eval_is {e:Expr}{v:Env}{p:Place}{a:Arg}(h:iter bzc big (⟨v,p,0,0,0⟩,e,false)=some a)(ha:jzr a):dzh (e,v,p)=some (valOf a):=by
 unfold dzh ezV valOf;simp only[az8];rw[show izw (⟨v,p,0,0,0⟩,e,false)=_ from h,aza];cases hA:a.Area with
 | true=>rfl
 | false =>
  obtain⟨x,hx⟩:=ha.2.2 hA;unfold fst1;rw[hx,azb,idxZ,aza,if_neg (by simp)];by_cases h0:x.Kind=0
  ·rw[dT0 h0,azc,show([x]:List Val).headD v0=x from rfl,if_pos h0];rfl
  ·rw[dF0 h0,azb,show([x]:List Val).headD v0=x from rfl,if_neg h0];rfl
end Go.Proofs.YtdgpkbnnljblmaaGreatDoor