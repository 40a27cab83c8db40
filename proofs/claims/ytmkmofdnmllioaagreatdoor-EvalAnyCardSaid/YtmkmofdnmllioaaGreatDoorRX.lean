import Derived.Test.YtmkmofdnmllioaaGreatDoorYJ
import Derived.Test.YtmkmofdnmllioaaGreatDoorX9
import Derived.Test.YtmkmofdnmllioaaGreatDoorU3
import Derived.Test.YtmkmofdnmllioaaGreatDoorTie
import Derived.Stop.Joined
import Derived.Lib.LaidU8T
import Derived.Lay
/- YK -/
namespace Go.Proofs.YtmkmofdnmllioaaGreatDoor
open Go Go.Ev Go.Lib
open Go.IntKind (i64 u64 u8 i32 u32 i16 u16)
theorem ezG {a:Arg}(h:badB a=false):fst1 a∈a.L:=by
 have:=cz8 h;unfold fst1
 match h:a.L with
 | []=>rw[h]at this;cases this
 | v::_=>simp
theorem oz1 {op:Int}{a:Arg}{l:List Arg}(hop:¬op=24):bzy (op,a::l)=if badB a=true then some (vE 15)else
 (brn (decide (op=23)) (brn (decide ((fst1 a).Kind=4)) (obnd (idx (a::l) 1) fun y=>obnd (bzP y) fun y=>some y) (some (fst1 a)))
  (brn (decide (op=10))
   (obnd (czl (fst1 a)) fun y =>
    brn (!y.2.2) (some y.2.1)
     (brn y.1 (obnd (idx (a::l) 1) fun y=>obnd (bzP y) fun y=>some y)
      (brn (decide (((a::l).length:Int)=2)) (obnd (czj false) fun y=>some y) (obnd (idx (a::l) 2) fun y=>obnd (bzP y) fun y=>some y))))
   (obnd (bzd (fst1 a)) fun y =>
    brn (!y.2.2) (some y.2.1)
     (brn (!decide (y.1.S=0)) (obnd (azm 15) fun y=>some y)
      (brn (decide (y.1.M<1)) (obnd (azm 15) fun y=>some y)
       (brn (decide (((a::l).length:Int)<=y.1.M)) (obnd (azm 15) fun y=>some y)
        (obnd (idx (a::l) y.1.M) fun y=>obnd (bzP y) fun y=>some y))))))):=by
 unfold bzy;simp only;rw[dF0 hop,azb,sub0,aza,shaped1,aza];cases hb:badB a with
 | true=>rfl
 | false=>rw[idxZ,aza,cz8 hb,aza];rfl
theorem pickP {l:List Arg}{k:Nat}(h:k<l.length):(obnd (idx l (k:Int)) fun y=>obnd (bzP y) fun y=>some y)=some (sing l[k]):=by
 rw[idxG h,aza,sing_is,aza]
def lzh (l:List Arg)(y:(Int×Val)⊕(Unit×Val)):Option Val:=osum y
 (fun y=>obnd (sub l y.1 (i64.wrap (y.1+1))) fun z=>obnd (azY (z,1,1)) fun y_4=>brn (!y_4) (some (vE 15)) (obnd (idx l y.1) fun y=>obnd (idx y.L 0) fun y=>some y))
 fun y=>some y.2
theorem jzI {l:List Arg}{k:Nat}{v:Val}(h:k<l.length)(hl:l.length<=1000):lzh l (.inl ((k:Int),v))=some (sing l[k]):=ref_pick h hl
theorem izs {op:Int}{a:Arg}{l:List Arg}(hop:¬op=24)(h25:op=25->1<=l.length):bzb (op,a::l)=if badB a=true then some (vE 15)else
 (obnd (az0 (a::l,v0,fst1 a,0,op)) fun y=>lzh (a::l) y):=by
 unfold bzb fzK;simp only[az7,aza];rw[dF0 (show ¬((a::l).length:Int)=0 by simp only[List.length_cons];omega),azb,dF0 hop,azb,aza];simp only[osum];have tail:(obnd (sub (a::l) 0 1) fun z =>
  obnd (azY (z,1,1)) fun y_1 =>
   brn (!y_1) (some (vE 15))
    (obnd (idx (a::l) 0) fun y_2 =>
     obnd (idx y_2.L 0) fun y_3 =>
      obnd (az0 (a::l,v0,y_3,0,op)) fun y=>lzh (a::l) y))=if badB a=true then some (vE 15)else
  (obnd (az0 (a::l,v0,fst1 a,0,op)) fun y=>lzh (a::l) y):=by
  rw[sub0,aza,Gze,aza];cases hb:badB a with
  | true=>rfl
  | false=>rw[idxZ,aza,cz8 hb,aza];rfl
 by_cases c:op=25
 .rw[dT0 c,azc,dF0 (show ¬((a::l).length:Int)<2 by have:=h25 c;simp only[List.length_cons];omega),azb];exact tail
 .rw[dF0 c,azb];exact tail
def xze (a b:Arg):Val:=if badB a=true then vE 15 else if(fst1 a).Kind=4 then sing b else fst1 a
theorem sing_ok {a:Arg}(h:badB a=false):sing a=fst1 a:=by unfold sing;rw[h];rfl
theorem iferr_is (a b:Arg):bzy (23,[a,b])=some (xze a b)/\bzb (23,[a,b])=some (xze a b):=by
 rw[oz1 (by decide),izs (by decide) (fun e=>absurd e (by decide))];unfold xze;cases hb:badB a with
 | true=>exact⟨rfl,rfl⟩
 | false =>
  simp only[Bool.false_eq_true,if_false];have p1:(obnd (idx [a,b] 1) fun y=>obnd (bzP y) fun y=>some y)=some (sing b):=pickP (l:=[a,b]) (k:=1) (by simp);have r1:lzh [a,b] (.inl (1,v0))=some (sing b):=jzI (l:=[a,b]) (k:=1) (by simp) (by simp);have r0:lzh [a,b] (.inl (0,v0))=some (sing a):=jzI (l:=[a,b]) (k:=0) (by simp) (by simp);rw[sing_ok hb]at r0;have hb2:az0 ([a,b],v0,fst1 a,0,23)=some (if(fst1 a).Kind=4 then .inl (1,v0)else .inl (0,v0)):=by
   unfold az0;simp only;rw[show decide ((23:Int)=10)=false from rfl,azb,show decide ((([a,b]:List Arg).length:Int)=2)=true from rfl];simp only[decide_true,azc,Bool.not_true,azb];by_cases h:(fst1 a).Kind=4
   .rw[dT0 h,azc,if_pos h]
   .rw[dF0 h,azb,if_neg h]
  rw[hb2,aza,decide_true,azc,p1];by_cases h:(fst1 a).Kind=4
  .rw[dT0 h,azc,if_pos h,if_pos h,r1];exact⟨rfl,rfl⟩
  .rw[dF0 h,azb,if_neg h,if_neg h,r0];exact⟨rfl,rfl⟩
def ifV (a b:Arg)(c:Val):Val:=if badB a=true then vE 15 else if(truR (fst1 a)).2.2=true then(if(truR (fst1 a)).1=true then sing b else c)else(truR (fst1 a)).2.1
theorem if2_is {a b:Arg}(ha:∀v∈a.L,okW v):bzy (10,[a,b])=some (ifV a b (vT false))/\bzb (10,[a,b])=some (ifV a b (vT false)):=by
 rw[oz1 (by decide),izs (by decide) (fun e=>absurd e (by decide))];unfold ifV;cases hb:badB a with
 | true=>exact⟨rfl,rfl⟩
 | false =>
  simp only[Bool.false_eq_true,if_false];obtain⟨t1,t2⟩:=tz6 (ha _ (ezG hb));have p1:(obnd (idx [a,b] 1) fun y=>obnd (bzP y) fun y=>some y)=some (sing b):=pickP (l:=[a,b]) (k:=1) (by simp);have r1:lzh [a,b] (.inl (1,v0))=some (sing b):=jzI (l:=[a,b]) (k:=1) (by simp) (by simp);have hb2:az0 ([a,b],v0,fst1 a,0,10)=some (if(truR (fst1 a)).2.2=true then(if(truR (fst1 a)).1=true then .inl (1,v0)else .inr ((),vT false))else .inr ((),(truR (fst1 a)).2.1)):=by
   unfold az0;simp only[az7,aza];rw[show decide ((([a,b]:List Arg).length:Int)<2)=false from rfl,azb,show decide ((3:Int)<(([a,b]:List Arg).length:Int))=false from rfl,azb,t2,aza];simp only[decide_true,azc];rw[show decide ((([a,b]:List Arg).length:Int)<=2)=true from rfl,show decide ((([a,b]:List Arg).length:Int)<=1)=false from rfl];rcases truR (fst1 a)with⟨t,f,ok⟩;cases ok<;>cases t<;>rfl
  rw[hb2,aza,show decide ((10:Int)=23)=false from rfl,azb,decide_true,azc,t1,aza,p1];rcases truR (fst1 a)with⟨t,f,ok⟩;cases ok with
  | false=>exact⟨rfl,rfl⟩
  | true =>
   cases t with
   | false=>exact⟨rfl,rfl⟩
   | true=>simp only[if_true];rw[r1];exact⟨rfl,rfl⟩
theorem if3_is {a b c:Arg}(ha:∀v∈a.L,okW v):bzy (10,[a,b,c])=some (ifV a b (sing c))/\bzb (10,[a,b,c])=some (ifV a b (sing c)):=by
 rw[oz1 (by decide),izs (by decide) (fun e=>absurd e (by decide))];unfold ifV;cases hb:badB a with
 | true=>exact⟨rfl,rfl⟩
 | false =>
  simp only[Bool.false_eq_true,if_false];obtain⟨t1,t2⟩:=tz6 (ha _ (ezG hb));have p1:(obnd (idx [a,b,c] 1) fun y=>obnd (bzP y) fun y=>some y)=some (sing b):=pickP (l:=[a,b,c]) (k:=1) (by simp);have p2:(obnd (idx [a,b,c] 2) fun y=>obnd (bzP y) fun y=>some y)=some (sing c):=pickP (l:=[a,b,c]) (k:=2) (by simp);have r1:lzh [a,b,c] (.inl (1,v0))=some (sing b):=jzI (l:=[a,b,c]) (k:=1) (by simp) (by simp);have r2:lzh [a,b,c] (.inl (2,v0))=some (sing c):=jzI (l:=[a,b,c]) (k:=2) (by simp) (by simp);have hb2:az0 ([a,b,c],v0,fst1 a,0,10)=some (if(truR (fst1 a)).2.2=true then(if(truR (fst1 a)).1=true then .inl (1,v0)else .inl (2,v0))else .inr ((),(truR (fst1 a)).2.1)):=by
   unfold az0;simp only[az7,aza];rw[show decide ((([a,b,c]:List Arg).length:Int)<2)=false from rfl,azb,show decide ((3:Int)<(([a,b,c]:List Arg).length:Int))=false from rfl,azb,t2,aza];simp only[decide_true,azc];rw[show decide ((([a,b,c]:List Arg).length:Int)<=2)=false from rfl,show decide ((([a,b,c]:List Arg).length:Int)<=1)=false from rfl];rcases truR (fst1 a)with⟨t,f,ok⟩;cases ok<;>cases t<;>rfl
  rw[hb2,aza,show decide ((10:Int)=23)=false from rfl,azb,decide_true,azc,t1,aza,p1,p2,show decide ((([a,b,c]:List Arg).length:Int)=2)=false from rfl,azb];rcases truR (fst1 a)with⟨t,f,ok⟩;cases ok with
  | false=>exact⟨rfl,rfl⟩
  | true =>
   cases t with
   | false=>simp only[if_true,Bool.false_eq_true,if_false];rw[r2];exact⟨rfl,rfl⟩
   | true=>simp only[if_true];rw[r1];exact⟨rfl,rfl⟩
def noA:Arg:=⟨false,[]⟩
def tzn (a:Arg)(l:List Arg):Val:=if badB a=true then vE 15 else if(numR (fst1 a)).2.2=true then
 (if(numR (fst1 a)).1.S=0/\1<=(numR (fst1 a)).1.M/\(numR (fst1 a)).1.M<l.length then sing (l.getD (numR (fst1 a)).1.M.toNat noA)else vE 15)else(numR (fst1 a)).2.1
theorem choose_is {a:Arg}{l:List Arg}(ha:∀v∈a.L,okW v)(hl:(a::l).length<=1000)(h1:1<=l.length):bzy (25,a::l)=some (tzn a (a::l))/\bzb (25,a::l)=some (tzn a (a::l)):=by
 rw[oz1 (by decide),izs (by decide) (fun _=>h1)];unfold tzn;by_cases hb':badB a=true
 .simp[hb']
 .have hb:badB a=false:=by simpa using hb'
  simp only[hb,Bool.false_eq_true,if_false];obtain⟨t1,t2⟩:=ezX (ha _ (ezG hb));unfold az0;simp only[az7,dzj,aza];rw[show decide ((25:Int)=23)=false from rfl,show decide ((25:Int)=10)=false from rfl,decide_true];simp only[azb,azc];rw[t1,t2,aza,aza];generalize numR (fst1 a)=r;obtain⟨⟨M,S⟩,f,ok⟩:=r;cases ok with
  | false=>exact⟨rfl,rfl⟩
  | true =>
   simp only[Bool.not_true,azb,if_true];by_cases c1:S=0
   .rw[dT0 c1];simp only[Bool.not_true,azb];by_cases c2:M<1
    .rw[dT0 c2,if_neg (by omega)];exact⟨rfl,rfl⟩
    .rw[dF0 c2,azb,azb];by_cases c3:((a::l).length:Int)<=M
     .rw[dT0 c3,if_neg (by omega)];exact⟨rfl,rfl⟩
     .rw[dF0 c3,azb,azb,if_pos ⟨c1,by omega,by omega⟩,aza];obtain⟨k,rfl⟩:=Int.eq_ofNat_of_zero_le (show 0<=M by omega);have hk:k<(a::l).length:=by omega
      have e:(a::l).getD k noA=(a::l)[k]:=by rw[List.getD_eq_getElem?_getD,List.getElem?_eq_getElem hk];rfl
      rw[pickP hk,jzI hk hl,Int.toNat_natCast,e];exact⟨rfl,rfl⟩
   .rw[dF0 c1,if_neg (fun c=>c1 c.1)];exact⟨rfl,rfl⟩
theorem refMod_is {a b:Dec}(ha:okd a)(hb:okd b):qzz (a,b)=some (modV a b):=by
 unfold qzz modV;simp only;by_cases h0:b.M=0
 .rw[dT0 h0,if_pos h0];rfl
 rw[dF0 h0,if_neg h0,azb];have hp:lzU (b,a.S,decide (a.S<b.S))=some ((max a.S.toNat b.S.toNat:Nat):Int):=by
  have:=ha.1.1;have:=hb.1.1;unfold lzU;by_cases h:a.S<b.S
  .rw[dT0 h]
   show some b.S=_
   congr 1;omega
  .rw[dF0 h]
   show some a.S=_
   congr 1;omega
 rw[hp,aza];have p9:max a.S.toNat b.S.toNat<=9:=by have:=ha.1.2.1;have:=hb.1.2.1;omega
 have pa:a.S<=((max a.S.toNat b.S.toNat:Nat):Int):=by omega
 have pb:b.S<=((max a.S.toNat b.S.toNat:Nat):Int):=by omega
 generalize max a.S.toNat b.S.toNat=p at *;rw[Jzm ha pa p9,Jzm hb pb p9];simp only[aza];by_cases c1:I64 (up a p)
 .rw[if_pos c1];by_cases c2:I64 (up b p)
  .have hz:=Gzg (p:=p) h0;rw[if_pos c2,if_pos ⟨c1,c2⟩];simp only[decide_true,Bool.not_true,azb];have hi:=fm_I64 (X:=up a p) c2 hz;have n1:∀m:Int,I64 m->(obnd (gzU ⟨m,(p:Int)⟩) fun y=>(some (y,0):Option (Dec×Int)))=some (⟨(azr m p).1,((azr m p).2:Int)⟩,0):=fun m hm=>by
    rw[MzB hm p9,aza]
   by_cases hm1:up b p = -1
   .rw[dT0 hm1];simp only[Bool.not_true,azb];rw[n1 0 I0];have e:fm (up a p) (up b p)=0:=by
     have:=(fm_ok (up a p) hz).1;rw[hm1]at this ⊢;omega
    rw[e]
   rw[dF0 hm1,Bool.not_false,azc,dF0 hz,azb];have t1:I64 ((up a p).tmod (up b p)):=by
    have h1:=Int.natAbs_tmod (up a p) (up b p);unfold I64 at c1 c2 ⊢;have h4:((up a p).tmod (up b p)).natAbs<(up b p).natAbs:=by rw[h1];exact Nat.mod_lt _ (by omega)
    omega
   rw[n1 _ t1,n1 _ (show I64 (i64.wrap ((up a p).tmod (up b p)+up b p)) by unfold I64;rw[wi64];omega)];exact IzO (up a p) (up b p) (fun r=>((⟨(azr r p).1,((azr r p).2:Int)⟩,0):Dec×Int)) (fun r=>((⟨(azr (i64.wrap r) p).1,((azr (i64.wrap r) p).2:Int)⟩,0):Dec×Int)) (fun r hr=>by rw[azi hr.1 hr.2]) hi
  .rw[if_neg c2,if_neg (show ¬(I64 (up a p)/\I64 (up b p)) from fun c=>c2 c.2)];rfl
 .rw[if_neg c1,if_neg (show ¬(I64 (up a p)/\I64 (up b p)) from fun c=>c1 c.1)];rfl
def subR (a b:Dec):Dec×Int:=decV (V a-V b) 9
theorem subR_eq {a b:Dec}(ha:okd a)(hb:okd b):izH (a,b)=some (subR a b)/\dzP (a,b)=some (subR a b):=by
 obtain⟨r,h1,h2,_,e⟩:=sub_eq ha hb;subst e;exact⟨h1,h2⟩
def floR (a:Dec):Dec×Int:=(izG a).getD (⟨0,0⟩,0)
theorem floR_eq {a:Dec}(ha:okd a):izG a=some (floR a)/\fzv a=some (floR a):=by
 obtain⟨r,h1,h2,_⟩:=IzN ha;unfold floR;rw[h1];exact⟨rfl,h2⟩
def recV (k:Int)(x y:Dec):Val:=if k=5 then(if V x<0 then numV (subR ⟨0,0⟩ x)else vN x)else if k=6 then vN ⟨cmpV (V x) 0,0⟩else if k=7 then numV (floR x)else if k=8 then numV (modV x y)else if y.S=0 then numV (mzQ x y.M)else vE 36
def recL (k:Int)(vs:List Val):Val:=match azo redS .inl [] vs with
 | .inl [x]=>recV k x ⟨0,0⟩
 | .inl (x::y::_)=>recV k x y
 | .inl []=>v0
 | .inr f=>f
theorem FzS:∀{vs:List Val} {s ds:List Dec},(∀v∈vs,okW v)->(∀d∈s,okd d)->azo redS (.inl:List Dec->List Dec⊕Val) s vs = .inl ds->(∀d∈ds,okd d)/\ds.length=s.length+vs.length
 | [],s,ds,_,hs,e=>by simp only[azo]at e;cases e;exact⟨hs,rfl⟩
 | v::vs,s,ds,hv,hs,e=>by
  simp only[azo]at e;cases hr:redS s v with
  | inr y =>
   rw[hr]at e;unfold redS at hr;revert hr;cases(numR v).2.2<;>intro hr<;>cases hr;cases e
  | inl s' =>
   rw[hr]at e;have e2:s'=s++[(numR v).1]:=by
    unfold redS at hr;revert hr;cases(numR v).2.2<;>intro hr<;>cases hr;rfl
   subst e2;obtain⟨h1,h2⟩:=FzS (vs:=vs) (fun w hw=>hv w (by simp[hw])) (fun d hd=>by
    rcases List.mem_append.1 hd with hd|hd
    .exact hs d hd
    .simp only[List.mem_singleton]at hd;subst hd;exact jzb (hv v (by simp))) e
   refine⟨h1,?_⟩;simp only[List.length_append,List.length_cons,List.length_nil]at h2 ⊢;omega
theorem V00:V ⟨0,0⟩=0:=by unfold V;simp
theorem cmp_lt (x:Int):decide (cmpV x 0<0)=decide (x<0):=AzK x 0
theorem reck_is {k:Int}{vs:List Val}(hk:k=5\/k=6\/k=7\/k=8\/k=9)(hv:∀v∈vs,okW v)(hl:if k<=7 then vs.length=1 else vs.length=2):bzF (k,vs)=some (recL k vs):=by
 have hl2:vs.length<=2:=by split at hl<;>omega
 unfold bzF recL;simp only[dzj,aza];rw[show(⟨0,⟨0,0⟩,[],false,0⟩:Val)=v0 from rfl,reck_l1 hv (by omega),aza];cases e:azo redS .inl [] vs with
 | inr f=>rfl
 | inl ds =>
  obtain⟨ho,hd⟩:=FzS hv (by simp) e;rw[List.length_nil,Nat.zero_add]at hd;simp only[redG,osum]
  match ds,ho,hd with
  | [],_,hd=>simp only[List.length_nil]at hd;split at hl<;>omega
  | [x],ho,hd =>
   have ox:=ho x (by simp);simp only[List.length_singleton]at hd;have hk7:k<=7:=by
    by_cases h:k<=7
    .exact h
    .rw[if_neg h]at hl;omega
   rw[idxZ,aza,show bzH 0=some ⟨0,0⟩ from rfl,aza,(tzo ox okd0).1,aza,V00];simp only[aza];unfold recV;rcases(show k=5\/k=6\/k=7 by omega)with rfl|rfl|rfl
   .rw[show decide ((5:Int)=5)=true from rfl,azc,if_pos rfl,cmp_lt];by_cases hm:V x<0
    .rw[dT0 hm,azc,(subR_eq okd0 ox).1,aza,czA,aza,if_pos hm]
    .rw[dF0 hm,azb,czA,aza,if_neg hm];rfl
   .rw[show decide ((6:Int)=5)=false from rfl,azb,show decide ((6:Int)=6)=true from rfl,azc,if_neg (by decide),if_pos rfl,int_is,aza]
   .rw[show decide ((7:Int)=5)=false from rfl,azb,show decide ((7:Int)=6)=false from rfl,azb,show decide ((7:Int)=7)=true from rfl,azc,if_neg (by decide),if_neg (by decide),if_pos rfl,(floR_eq ox).1,aza,czA,aza]
  | x::y::r,ho,hd =>
   have ox:=ho x (by simp);have oy:=ho y (by simp);simp only[List.length_cons]at hd;have hk8:¬k<=7:=by
    intro h;rw[if_pos h]at hl;omega
   have i1:idx (x::y::r) 1=some y:=idxG (l:=x::y::r) (i:=1) (by simp);rw[idxZ,aza,show bzH 0=some ⟨0,0⟩ from rfl,aza,(tzo ox okd0).1,aza,i1]
   show _=some (recV k x y)
   unfold recV;rcases(show k=8\/k=9 by omega)with rfl|rfl
   .rw[show decide ((8:Int)=5)=false from rfl,azb,show decide ((8:Int)=6)=false from rfl,azb,show decide ((8:Int)=7)=false from rfl,azb,show decide ((8:Int)=8)=true from rfl,azc,if_neg (by decide),if_neg (by decide),if_neg (by decide),if_pos rfl,aza,aza,rest_is4 ox oy,aza]
   .rw[show decide ((9:Int)=5)=false from rfl,azb,show decide ((9:Int)=6)=false from rfl,azb,show decide ((9:Int)=7)=false from rfl,azb,show decide ((9:Int)=8)=false from rfl,azb,if_neg (by decide),if_neg (by decide),if_neg (by decide),if_neg (by decide),aza];by_cases hs:y.S=0
    .rw[dT0 hs,Bool.not_true,azb,if_pos hs,aza,aza,sz0 ox.2 ox.1,aza,czA,aza]
    .rw[dF0 hs,if_neg hs];rfl
theorem mzS {l:List Arg}{p:Nat}(hl:l.length<=1000):azY (l,(p:Int),(p:Int))=some (decide (l.length=p)&&!l.any badB):=by
 rw[rzG hl];by_cases h:l.length=p
 .rw[dT0 h,dT0 (show(p:Int)<=l.length by omega),dT0 (show(l.length:Int)<=p by omega)];rfl
 .rw[dF0 h];by_cases h2:(p:Int)<=l.length
  .rw[dF0 (show ¬(l.length:Int)<=p by omega),Bool.false_and,Bool.and_false]
  .rw[dF0 h2];rfl
def arN (k:Int):Nat:=if k<=7 then 1 else 2
theorem b1_is {k:Int}{x y:Dec}(hk:k=5\/k=6\/k=7\/k=8\/k=9)(hx:okd x)(hy:okd y):
 (obnd (ez1 (v0,x,y,⟨0,0⟩,0,k)) fun y=>osum y (fun y=>obnd (azL (y.2.2,y.1)) fun y=>some y) fun y=>some y.2.1)=some (recV k x y):=by
 unfold ez1 recV;simp only[az7,aza];rcases hk with rfl|rfl|rfl|rfl|rfl
 .rw[show decide ((5:Int)=5)=true from rfl,azc,if_pos rfl];have hV:=V_neg x;by_cases hm:x.M<0
  .rw[dT0 hm]at hV;have hv:V x<0:=by simpa using hV
   rw[dT0 hm,azc,(subR_eq okd0 hx).2,aza,aza,if_pos hv];simp only[osum];rw[czH,aza]
  .rw[dF0 hm]at hV;have hv:¬V x<0:=by simpa using hV
   rw[dF0 hm,azb,aza,if_neg hv];simp only[osum];rw[czH,aza];rfl
 .rw[show decide ((6:Int)=5)=false from rfl,azb,show decide ((6:Int)=6)=true from rfl,azc,if_neg (by decide),if_pos rfl,(tzo hx okd0).2,aza,aza,V00];simp only[osum];rw[czH,aza];rfl
 .rw[show decide ((7:Int)=5)=false from rfl,azb,show decide ((7:Int)=6)=false from rfl,azb,show decide ((7:Int)=7)=true from rfl,azc,if_neg (by decide),if_neg (by decide),if_pos rfl,(floR_eq hx).2,aza,aza];simp only[osum];rw[czH,aza]
 .rw[show decide ((8:Int)=5)=false from rfl,azb,show decide ((8:Int)=6)=false from rfl,azb,show decide ((8:Int)=7)=false from rfl,azb,show decide ((8:Int)=8)=true from rfl,azc,if_neg (by decide),if_neg (by decide),if_neg (by decide),if_pos rfl,refMod_is hx hy,aza,aza];simp only[osum];rw[czH,aza]
 .rw[show decide ((9:Int)=5)=false from rfl,azb,show decide ((9:Int)=6)=false from rfl,azb,show decide ((9:Int)=7)=false from rfl,azb,show decide ((9:Int)=8)=false from rfl,azb,show decide ((9:Int)=9)=true from rfl,azc,if_neg (by decide),if_neg (by decide),if_neg (by decide),if_neg (by decide)];unfold kzu;simp only;by_cases hs:y.S=0
  .rw[dT0 hs,azc,if_pos hs];by_cases h1:-18<=y.M
   .rw[dT0 h1,azc,aza];by_cases h2:y.M<=9
    .simp only[dT0 h2,Bool.not_true,azb];rw[Azt hx.2 hx.1,aza,aza];simp only[osum];rw[czH,aza]
    .simp only[dF0 h2,Bool.not_false,azc,aza,osum];unfold mzQ;rw[if_pos (by omega)];rfl
   .rw[dF0 h1,azb,aza];simp only[Bool.not_false,azc,aza,osum];unfold mzQ;rw[if_pos (by omega)];rfl
  .rw[dF0 hs,azb,if_neg hs,aza];simp only[Bool.not_false,azc,aza,osum]
theorem Mzl {k:Int}{l:List Arg}(hk:k=5\/k=6\/k=7\/k=8\/k=9)(hl:l.length<=1000)(hv:∀a∈l,∀v∈a.L,okW v):
 hz6 (k,l)=some (if l.length=arN k/\l.any badB=false then recL k (l.map fst1)else vE 15):=by
 unfold hz6;simp only[az7,aza];by_cases h8:8<=k
 .have ha:arN k=2:=if_neg (by omega);have hs:=mzS (l:=l) (p:=2) hl;rw[show(((2:Nat)):Int)=2 from rfl]at hs;rw[dT0 h8,azc,hs,aza,ha];by_cases c:l.length=2/\l.any badB=false
  .rw[if_pos c,dT0 c.1,c.2];obtain⟨a,b,rfl⟩:∃a b,l=[a,b]:=by
    match l,c.1 with
    | [a,b],_=>exact⟨a,b,rfl⟩
   have c2:=c.2;simp only[List.any_cons,List.any_nil,Bool.or_false,Bool.or_eq_false_iff]at c2;have oa:=hv a (by simp) _ (ezG c2.1);have ob:=hv b (by simp) _ (ezG c2.2);simp only[Bool.not_false,Bool.and_self,Bool.not_true,azb];rw[idxZ,aza,cz8 c2.1,aza,(ezX oa).2,aza,idx1,aza,cz8 c2.2,aza,(ezX ob).2,aza];unfold recL;simp only[List.map_cons,List.map_nil,azo,redS];have na:=jzb oa;have nb:=jzb ob;generalize numR (fst1 a)=ra at *;generalize numR (fst1 b)=rb at *;obtain⟨x,f,ok⟩:=ra;obtain⟨y,f',ok'⟩:=rb;cases ok with
   | false=>rfl
   | true =>
    cases ok' with
    | false=>rfl
    | true =>
     simp only[Bool.not_true,azb,cond_true,List.nil_append,List.cons_append];exact b1_is hk na nb
  .rw[if_neg c];have:(decide (l.length=2)&&!l.any badB)=false:=by
    by_cases h2:l.length=2
    .have:l.any badB=true:=by
      cases hb:l.any badB with
      | true=>rfl
      | false=>exact absurd ⟨h2,hb⟩ c
     rw[this];simp
    .simp[h2]
   rw[this];rfl
 .have ha:arN k=1:=if_pos (by omega);have hs:=mzS (l:=l) (p:=1) hl;rw[show(((1:Nat)):Int)=1 from rfl]at hs;rw[dF0 h8,azb,hs,aza,ha];by_cases c:l.length=1/\l.any badB=false
  .rw[if_pos c,dT0 c.1,c.2];obtain⟨a,rfl⟩:∃a,l=[a]:=by
    match l,c.1 with
    | [a],_=>exact⟨a,rfl⟩
   have c2:=c.2;simp only[List.any_cons,List.any_nil,Bool.or_false]at c2;have oa:=hv a (by simp) _ (ezG c2);simp only[Bool.not_false,Bool.and_self,Bool.not_true,azb];rw[idxZ,aza,cz8 c2,aza,(ezX oa).2,aza];unfold recL;simp only[List.map_cons,List.map_nil,azo,redS];have na:=jzb oa;generalize numR (fst1 a)=ra at *;obtain⟨x,f,ok⟩:=ra;cases ok with
   | false=>rfl
   | true =>
    simp only[Bool.not_true,azb,cond_true,List.nil_append];exact b1_is hk na okd0
  .rw[if_neg c];have:(decide (l.length=1)&&!l.any badB)=false:=by
    by_cases h2:l.length=1
    .have:l.any badB=true:=by
      cases hb:l.any badB with
      | true=>rfl
      | false=>exact absurd ⟨h2,hb⟩ c
     rw[this];simp
    .simp[h2]
   rw[this];rfl
def askV (k:Int)(v:Val):Val:=if k=13 then(if(truR v).2.2=true then vT (!(truR v).1)else(truR v).2.1)else if k=21 then vT (decide (v.Kind=0))else if k=22 then vT (decide (v.Kind=4))else vN ⟨typeN v.Kind,0⟩
theorem asked_is {k:Int}{l:List Arg}(hk:k=13\/k=21\/k=22\/k=29)(hl:l.length<=1000)(hv:∀a∈l,∀v∈a.L,okW v):
 kzv (k,l)=some (if l.length=1/\l.any badB=false then askV k ((l.map fst1).headD v0)else vE 15):=by
 unfold kzv;simp only[az7,aza];have hs:=mzS (l:=l) (p:=1) hl;rw[show(((1:Nat)):Int)=1 from rfl]at hs;rw[hs,aza];by_cases c:l.length=1/\l.any badB=false
 .rw[if_pos c,dT0 c.1,c.2];obtain⟨a,rfl⟩:∃a,l=[a]:=by
   match l,c.1 with
   | [a],_=>exact⟨a,rfl⟩
  have c2:=c.2;simp only[List.any_cons,List.any_nil,Bool.or_false]at c2;have oa:=hv a (by simp) _ (ezG c2);have hkd:=Iz9 oa;simp only[Bool.not_false,Bool.and_self,Bool.not_true,azb,List.map_cons,List.headD_cons];rw[idxZ,aza,cz8 c2,aza,(tz6 oa).2];unfold askV;rcases hk with rfl|rfl|rfl|rfl
  .rcases truR (fst1 a)with⟨t,f,ok⟩;cases ok<;>rfl
  .rfl
  .rfl
  .rcases hkd with h|h|h|h|h<;>(rw[h];rfl)
 .rw[if_neg c];have:(decide (l.length=1)&&!l.any badB)=false:=by
   by_cases h2:l.length=1
   .have:l.any badB=true:=by
     cases hb:l.any badB with
     | true=>rfl
     | false=>exact absurd ⟨h2,hb⟩ c
    rw[this];simp
   .simp[h2]
  rw[this];rfl
def gzy (up:Bool)(c:UInt8):UInt8:=if up then(if 97<=c.toNat/\c.toNat<=122 then UInt8.ofNat (c.toNat-32)else c)else(if 65<=c.toNat/\c.toNat<=90 then UInt8.ofNat (c.toNat+32)else c)
theorem u8i (n:Nat):u8.wrap (n:Int)=((n%256:Nat):Int):=u8w n
theorem Mzc {k:Int}{l:List UInt8}{i:Nat}(hk:k=19\/k=20)(hi:i<l.length):hzx (k,l,(i:Int))=some (l.set i (gzy (decide (k=19)) l[i])):=by
 have hb:=inb_is hi;have hn:=DzP hi;have hlt:=(l[i]).toNat_lt;have hset:l.set i l[i]=l:=by simp
 unfold hzx lzo gzy;simp only;rw[hb,aza,hn,aza];simp only[aza];rw[hn];simp only[aza];rcases hk with rfl|rfl
 .rw[show decide ((19:Int)=19)=true from rfl,show decide ((19:Int)=20)=false from rfl];simp only[azc,azb,if_true];by_cases c1:97<=(l[i]).toNat
  .rw[dT0 (show(97:Int)<=((l[i]).toNat:Int) by omega),azc,aza];simp only;by_cases c2:(l[i]).toNat<=122
   .rw[dT0 (show((l[i]).toNat:Int)<=122 by omega),azc,hb,aza,hn,aza,aza,hn,aza,if_pos ⟨c1,c2⟩,show((l[i]).toNat:Int)-32=(((l[i]).toNat-32:Nat):Int) by omega,u8i,Int.toNat_natCast,Nat.mod_eq_of_lt (by omega)]
   .rw[dF0 (show ¬((l[i]).toNat:Int)<=122 by omega),azb,if_neg (fun c=>c2 c.2),hset]
  .rw[dF0 (show ¬(97:Int)<=((l[i]).toNat:Int) by omega),azb,aza,if_neg (fun c=>c1 c.1),hset];rfl
 .rw[show decide ((20:Int)=19)=false from rfl];simp only[decide_true,azc,azb,Bool.false_eq_true,if_false,aza];rw[hb,aza,hn,aza];by_cases c1:65<=(l[i]).toNat
  .rw[dT0 (show(65:Int)<=((l[i]).toNat:Int) by omega),azc,aza,hn,aza];by_cases c2:(l[i]).toNat<=90
   .rw[dT0 (show((l[i]).toNat:Int)<=90 by omega),azc,aza,hn,aza,aza,hn,aza,if_pos ⟨c1,c2⟩,show((l[i]).toNat:Int)+32=(((l[i]).toNat+32:Nat):Int) by omega,u8i,Int.toNat_natCast,Nat.mod_eq_of_lt (by omega)]
   .rw[dF0 (show ¬((l[i]).toNat:Int)<=90 by omega),azb,if_neg (fun c=>c2 c.2),hset]
  .rw[dF0 (show ¬(65:Int)<=((l[i]).toNat:Int) by omega),azb,if_neg (fun c=>c1 c.1),hset]
theorem letters_F {k:Int}(hk:k=19\/k=20){s:List UInt8}{i:Nat}(hlt:i<s.length)(hsl:s.length<=100000)(back:Int×List UInt8×Int->Option (List UInt8)):dzX back (k,s,(i:Int))=back (k,s.set i (gzy (decide (k=19)) s[i]),((i+1:Nat):Int)):=by
 unfold dzX;simp only;rw[ltT hlt,azc,Mzc hk hlt,aza,wr1 (by omega)]
theorem Azf {k:Int}{l:List UInt8}(hk:k=19\/k=20)(hl:l.length<=100000):hz0 (k,l)=some (l.map (gzy (decide (k=19)))):=by
 have key:∀(m n:Nat) (s:List UInt8) (i:Nat),i+m=s.length->m<n->s.length<=100000->iter dzX n (k,s,(i:Int))=some (s.take i++(s.drop i).map (gzy (decide (k=19)))):=by
  intro m;induction m with
  | zero =>
   intro n s i hi hn hsl;obtain⟨p,rfl⟩:∃p,n=p+1:=⟨n-1,by omega⟩;have:i=s.length:=by omega
   subst this;rw[azF];unfold dzX;simp only;rw[ltF,azb];simp
  | succ m ih =>
   intro n s i hi hn hsl;obtain⟨p,rfl⟩:∃p,n=p+1:=⟨n-1,by omega⟩;have hlt:i<s.length:=by omega
   rw[azF,letters_F hk hlt hsl,ih p _ (i+1) (by rw[List.length_set];omega) (by omega) (by rw[List.length_set];exact hsl)];congr 1;rw[List.drop_set_of_lt (by omega),List.drop_eq_getElem_cons hlt,List.map_cons];have:(s.set i (gzy (decide (k=19)) s[i])).take (i+1)=s.take i++[gzy (decide (k=19)) s[i]]:=by
    rw[List.take_succ_eq_append_getElem (by rw[List.length_set];exact hlt),List.take_set_of_le (Nat.le_refl i),List.getElem_set_self]
   rw[this,List.append_assoc];rfl
 have:=key l.length big l 0 (by omega) (by rw[czd];omega) hl;unfold hz0;simp only;rw[show lzp (k,l,0)=_ from this,aza];simp
theorem enc_case {r:Int}{up:Bool}(h:bzK r):(Lib.encodeRune r).map (gzy up)=Lib.encodeRune (dzw up r):=by
 have hc:=uzm (up:=up) h;obtain⟨n,rfl⟩:=Int.eq_ofNat_of_zero_le h.1;have big:∀m:Nat,128<=m%256->gzy up (UInt8.ofNat m)=UInt8.ofNat m:=fun m hm=>by
  have e:(UInt8.ofNat m).toNat=m%256:=rfl;unfold gzy;rw[e];split
  .rw[if_neg (by omega)]
  .rw[if_neg (by omega)]
 by_cases h1:n<128
 .have e:(UInt8.ofNat n).toNat=n:=by
   show n%256=n
   omega
  rw[encZ n h,if_pos h1];unfold dzw at hc ⊢;cases up with
  | true =>
   simp only[if_true]at hc ⊢;by_cases c:97<=n/\n<=122
   .rw[if_pos (show 97<=(n:Int)/\(n:Int)<=122 by omega)]at hc ⊢;rw[show(n:Int)-32=((n-32:Nat):Int) by omega]at hc ⊢;rw[encZ _ hc,if_pos (by omega)];simp only[List.map_cons,List.map_nil,gzy,if_true];rw[e,if_pos c]
   .rw[if_neg (show ¬(97<=(n:Int)/\(n:Int)<=122) by omega)]at hc ⊢;rw[encZ _ hc,if_pos h1];simp only[List.map_cons,List.map_nil,gzy,if_true];rw[e,if_neg c]
  | false =>
   simp only[Bool.false_eq_true,if_false]at hc ⊢;by_cases c:65<=n/\n<=90
   .rw[if_pos (show 65<=(n:Int)/\(n:Int)<=90 by omega)]at hc ⊢;rw[show(n:Int)+32=((n+32:Nat):Int) by omega]at hc ⊢;rw[encZ _ hc,if_pos (by omega)];simp only[List.map_cons,List.map_nil,gzy,Bool.false_eq_true,if_false];rw[e,if_pos c]
   .rw[if_neg (show ¬(65<=(n:Int)/\(n:Int)<=90) by omega)]at hc ⊢;rw[encZ _ hc,if_pos h1];simp only[List.map_cons,List.map_nil,gzy,Bool.false_eq_true,if_false];rw[e,if_neg c]
 .have hcr:dzw up (n:Int)=(n:Int):=by
   unfold dzw;split
   .rw[if_neg (by omega)]
   .rw[if_neg (by omega)]
  have h':=h;unfold bzK at h';rw[hcr,encZ n h,if_neg h1];split
  .simp only[List.map_cons,List.map_nil];rw[big _ (by omega),big _ (by omega)]
  .split
   .simp only[List.map_cons,List.map_nil];rw[big _ (by omega),big _ (by omega),big _ (by omega)]
   .simp only[List.map_cons,List.map_nil];rw[big _ (by omega),big _ (by omega),big _ (by omega),big _ (by omega)]
theorem CzO {s:List UInt8}{up:Bool}(hv:validD s=true):s.map (gzy up)=encs ((rs s).map (dzw up)):=by
 have h1:=tzs s.length s (Nat.le_refl _) hv;have h2:=rzJ s.length s (Nat.le_refl _);have key:∀l:List Int,(∀r∈l,bzK r)->(encs l).map (gzy up)=encs (l.map (dzw up)):=by
  intro l;induction l with
  | nil=>intro _;rfl
  | cons r l ih =>
   intro h;have ih:=ih (fun x hx=>h x (by simp[hx]));unfold encs at ih ⊢;rw[List.map_cons,List.flatMap_cons,List.flatMap_cons,List.map_append,enc_case (h r (by simp)),ih]
 have:=key _ h2;rw[h1]at this;exact this
def okU (v:Val):Prop:=okW v/\(v.Kind≠4->(az5 (texR v)).2=0)
theorem zzW {l:List UInt8}(h:∀c∈l,c.toNat<128)(hl:l.length<=400):(az5 l).2=0:=by
 rw[kzH (AzF h)];have h1:=ulen_le (rs l);have h2:=pzy l;omega
theorem okU_of {v:Val}(hl:v.S.length<=3000)(hm:I64 v.N.M)(h:nzY v=some 0):okU v:=by
 have hw:=okW_of hl hm h;refine⟨hw,fun h4=>?_⟩;rcases hw.1 with rfl|⟨d,rfl,hd⟩|⟨s,rfl,hs⟩|⟨t,rfl⟩|⟨e,rfl⟩
 .rfl
 .obtain⟨M,S⟩:=d;have hm':I64 M:=hm;obtain⟨s,rfl⟩:=Int.eq_ofNat_of_zero_le hd.1;have hs:s<=9:=by have:=hd.2.1;simp only at this;omega
  have e:texR (vN ⟨M,(s:Int)⟩)=fzF M s:=by
   unfold texR dz7 vN;simp[qzl hm' hs]
  have:=sz1 hm' hs;rw[e];exact zzW this.2 (by omega)
 .have hl':s.length<=3000:=hl;have hun:=qzR (x:=s) (by omega);unfold nzY mzG vS at h;simp[hun]at h;exact h
 .cases t<;>decide +kernel
 .exact absurd rfl h4
def szJ (s:List UInt8)(n:Int):Val:=if(az5 s).1=0 then czD []else if Int.tdiv 1000 (az5 s).1<n then vE 15 else czD (Lib.repeatL s n.toNat)
def dzy (k:Int)(v:Val)(vs:List Val):Val :=
 if v.Kind=4 then v else
  if k=14 then vN ⟨(az5 (texR v)).1,0⟩
  else if k=19\/k=20 then czD (encs ((rs (texR v)).map (dzw (decide (k=19)))))
  else if k=26 then(if(vs.headD v0).Kind=4 then vs.headD v0 else vT (decide (texR v=texR (vs.headD v0))))
  else if k=27 then(match dzD k vs with | .inl ns=>szJ (texR v) (ns.headD 0) | .inr f=>f)
  else(match dzD k vs with | .inl ns=>jzd k (texR v) ns | .inr f=>f)
theorem mzT {k:Int}{v:Val}{vs:List Val}(h:v.Kind=4):dzy k v vs=v:=if_pos h
theorem Kzf {v:Val}{vs:List Val}(h:¬v.Kind=4):dzy 14 v vs=vN ⟨(az5 (texR v)).1,0⟩:=by simp[dzy,h]
theorem Kzg {v:Val}{vs:List Val}(h:¬v.Kind=4):dzy 19 v vs=czD (encs ((rs (texR v)).map (dzw true))):=by simp[dzy,h]
theorem Kzh {v:Val}{vs:List Val}(h:¬v.Kind=4):dzy 20 v vs=czD (encs ((rs (texR v)).map (dzw false))):=by simp[dzy,h]
theorem Kzi {v w:Val}(h:¬v.Kind=4):dzy 26 v [w]=if w.Kind=4 then w else vT (decide (texR v=texR w)):=by simp[dzy,h]
theorem Kzj {v:Val}{vs:List Val}(h:¬v.Kind=4):dzy 27 v vs=match dzD 27 vs with | .inl ns=>szJ (texR v) (ns.headD 0) | .inr f=>f:=by simp[dzy,h]
theorem wordV_p {k:Int}{v:Val}{vs:List Val}(hk:k=15\/k=16\/k=17):dzy k v vs=if v.Kind=4 then v else match dzD k vs with | .inl ns=>jzd k (texR v) ns | .inr f=>f:=by
 unfold dzy;rcases hk with rfl|rfl|rfl<;>simp
theorem Kzc (s:List UInt8):0<=(az5 s).1/\(az5 s).1<=1000:=by
 unfold az5;split
 .split
  .simp
  .simp only;omega
 .simp
theorem uzn {s:List UInt8}{up:Bool}(hv:validD s=true):(encs ((rs s).map (dzw up))).length=s.length:=by rw[<-CzO hv,List.length_map]
theorem subTail (v:Val)(vs:List Val):sub (v::vs) 1 (((v::vs).length:Nat):Int)=some vs:=by
 have:=subG (D:=v::vs) (i:=1) (k:=(v::vs).length) (by simp) (by simp);rw[List.take_length]at this;simpa using this
theorem JzZ {s:List UInt8}(hl:s.length<=3000){n:Int}(h0:0<=n)(h:n<=1000):(Lib.repeatL s n.toNat).length<=3000000:=by
 rw[Lib.repeatL_length];have:n.toNat*s.length<=1000*3000:=Nat.mul_le_mul (by omega) hl;omega
theorem MzR {k:Int}(hk:k=14\/k=19\/k=20){v:Val}(h:okW v):bz8 (k,[v])=some (dzy k v []):=by
 unfold bz8;simp only;rw[idxZ,aza,qzQ h,aza];by_cases h4:v.Kind=4
 .rw[(czg h).1 h4,mzT h4];rfl
 rw[(czg h).2 h4];simp only[Bool.not_true,azb];obtain⟨tl,tv⟩:=nzV h h4;have hb:czR (k,[v],v0,texR v,k)=some (.inr ((),dzy k v [])):=by
  unfold czR;simp only;rcases hk with rfl|rfl|rfl
  .rw[Kzf h4];simp only[decide_true,azc];rw[qzR (by omega),aza,int_is,aza]
  .rw[Kzg h4,show decide ((19:Int)=14)=false from rfl,azb];simp only[decide_true,azc];rw[Izq (by omega),aza,ozW (by rw[uzn tv];omega),aza]
  .rw[Kzh h4,show decide ((20:Int)=14)=false from rfl,show decide ((20:Int)=19)=false from rfl,azb,azb];simp only[decide_true,azc];rw[Izq (by omega),aza,ozW (by rw[uzn tv];omega),aza]
 rw[show(⟨0,⟨0,0⟩,[],false,0⟩:Val)=v0 from rfl,hb,aza];rfl
theorem MzS {v w:Val}(h:okW v)(hw:okW w):bz8 (26,[v,w])=some (dzy 26 v [w]):=by
 unfold bz8;simp only;rw[idxZ,aza,qzQ h,aza];by_cases h4:v.Kind=4
 .rw[(czg h).1 h4,mzT h4];rfl
 rw[(czg h).2 h4];simp only[Bool.not_true,azb];have hb:czR (26,[v,w],v0,texR v,26)=some (.inr ((),dzy 26 v [w])):=by
  unfold czR;simp only;rw[Kzi h4,show decide ((26:Int)=14)=false from rfl,show decide ((26:Int)=19)=false from rfl,show decide ((26:Int)=20)=false from rfl,azb,azb,azb];simp only[decide_true,azc];rw[show idx [v,w] 1=some w from rfl,aza,qzQ hw,aza];by_cases w4:w.Kind=4
  .rw[(czg hw).1 w4,if_pos w4];rfl
  .rw[(czg hw).2 w4,if_neg w4];rfl
 rw[show(⟨0,⟨0,0⟩,[],false,0⟩:Val)=v0 from rfl,hb,aza];rfl
theorem Lzr {v w:Val}(h:okW v)(hw:okW w):bz8 (27,[v,w])=some (dzy 27 v [w]):=by
 unfold bz8;simp only;rw[idxZ,aza,qzQ h,aza];by_cases h4:v.Kind=4
 .rw[(czg h).1 h4,mzT h4];rfl
 rw[(czg h).2 h4,Kzj h4];simp only[Bool.not_true,azb];obtain⟨tl,tv⟩:=nzV h h4;have hb:czR (27,[v,w],v0,texR v,27)=some (.inl ((),v0)):=rfl;rw[show(⟨0,⟨0,0⟩,[],false,0⟩:Val)=v0 from rfl,hb,aza];simp only[osum];rw[subTail,aza,Hzb (by intro x hx;simp only[List.mem_singleton]at hx;subst hx;exact hw) (by simp),aza];cases e:dzD 27 [w]with
 | inr f=>rfl
 | inl ns =>
  obtain⟨a,b,rfl,a0,a1,_,_,_⟩:=Ez2 (by simp) (by intro x hx;simp only[List.mem_singleton]at hx;subst hx;exact hw) e;rw[show amtG (.inl [a,b]) = .inl ([a,b],v0) from rfl];simp only[List.headD_cons];rw[show decide ((27:Int)=15)=false from rfl,show decide ((27:Int)=16)=false from rfl,show decide ((27:Int)=17)=false from rfl,azb,azb,azb,qzR (by omega),aza];obtain⟨u0,u1⟩:=Kzc (texR v);unfold szJ;by_cases hz:(az5 (texR v)).1=0
  .rw[dT0 hz,azc,if_pos hz,ozW (by simp),aza]
  .rw[dF0 hz,azb,if_neg hz,idxZ,aza,azb];have hq:0<=Int.tdiv 1000 (az5 (texR v)).1/\Int.tdiv 1000 (az5 (texR v)).1<=1000:=by
    rw[Int.tdiv_eq_ediv_of_nonneg (by omega)];exact⟨Int.ediv_nonneg (by omega) u0,Int.ediv_le_self _ (by omega)⟩
   rw[azi (by omega) (by omega)];by_cases hc:Int.tdiv 1000 (az5 (texR v)).1<a
   .rw[dT0 hc,azc,if_pos hc,dzj,aza]
   .rw[dF0 hc,azb,if_neg hc,aza];have hr:czy (texR v,a)=some (Lib.repeatL (texR v) a.toNat):=by
     have hm:((texR v).length:Int)*a<=3000*1000:=Int.mul_le_mul (by omega) (by omega) a0 (by omega);unfold czy;rw[dT0 (show(0:Int)<=(texR v,a).2 from a0),dT0 (show(((texR v,a).1.length:Int))*(texR v,a).2<=140737488355328 by simp only;omega)];rfl
    have:=JzZ tl a0 (show a<=1000 by omega);rw[hr,aza,ozW (by omega),aza]
theorem catN {x y:List UInt8}(h:x.length+y.length<=100000000):cat x y=some (x++y):=by
 have:fits (x.length+y.length)=true:=by unfold fits;exact Nat.ble_eq_true_of_le (by unfold az6;omega)
 unfold cat
 rw[this];rfl
theorem rep_loop {s:List UInt8}{m:Nat}{S:Int}(hl:s.length<=3000)(hm:m<=1000):eze (s,⟨(m:Int),S⟩,[],0)=some (Lib.repeatL s m):=by
 have this:eze (s,⟨(m:Int),S⟩,[],0)=some (id _):=azC (F:=fzU) (fun(z:List UInt8) (i:Nat)=>(s,(⟨(m:Int),S⟩:Dec),z,(i:Int))) id (List.replicate m ()) (fun z _=>.inl (z++s)) id (fun z i=>z.length<=3000*i) (by rw[List.length_replicate];omega)
  (fun back z i hi hz=>by
   rw[List.length_replicate]at hi;unfold fzU;simp only;rw[ltT hi,azc,catN (by omega),aza,wr1 (by omega)];rfl)
  (fun z i hi z' hz h=>by
   cases h;rw[List.length_append,Nat.mul_add,Nat.mul_one];exact Nat.add_le_add hz hl)
  (fun back z _=>by
   rw[List.length_replicate];unfold fzU;simp only;rw[ltF,azb];rfl) [] (by simp)
 rw[this,bzx,id,id];have:∀(m:Nat) (z:List UInt8),(List.replicate m ()).foldl (fun z _=>z++s) z=z++Lib.repeatL s m:=by
  intro m;induction m with
  | zero=>intro z;simp[Lib.repeatL]
  | succ m ih=>intro z;simp only[List.replicate_succ,List.foldl_cons,Lib.repeatL];rw[ih,List.append_assoc]
 rw[this];rfl
theorem units_nil {s:List UInt8}(hv:validD s=true)(hu:(az5 s).2=0):(az5 s).1=(ulen (rs s):Int)/\((az5 s).1=0↔s=[]):=by
 have h1:=(kzH hv).1 hu;have e:(az5 s).1=(ulen (rs s):Int):=by
  unfold az5;rw[if_pos hv,if_neg (by omega)]
 refine⟨e,?_⟩;rw[e];constructor
 .intro h;have:=szY hv;exact List.eq_nil_of_length_eq_zero (by omega)
 .intro h;subst h;rfl
theorem GzT {s:List UInt8}(hv:validD s=true):∀n:Nat,validD (Lib.repeatL s n)=true/\ulen (rs (Lib.repeatL s n))=n*ulen (rs s)
 | 0=>⟨rfl,by simp[Lib.repeatL,pzz,ulen]⟩
 | n+1=>by
  obtain⟨h1,h2⟩:=GzT hv n;refine⟨?_,?_⟩
  .rw[Lib.repeatL,szV hv];exact h1
  .rw[Lib.repeatL,rs_app hv,CzD,h2,Nat.succ_mul];omega
theorem rept_eq {s:List UInt8}{n:Int}(hv:validD s=true)(hu:(az5 s).2=0)(hn:0<=n):(if s=[]then czD []else if 1000<n then vE 15 else czD (Lib.repeatL s n.toNat))=szJ s n:=by
 obtain⟨e,hz⟩:=units_nil hv hu;unfold szJ;by_cases h:s=[]
 .rw[if_pos h,if_pos (hz.2 h)]
 .have h0:¬(az5 s).1=0:=fun c=>h (hz.1 c)
  rw[if_neg h,if_neg h0];rw[e]at h0 ⊢;have hu1:=(kzH hv).1 hu;generalize hU:ulen (rs s)=u at *;have u1:1<=u:=by omega
  have hq:Int.tdiv 1000 (u:Int)=((1000/u:Nat):Int):=by rw[Int.tdiv_eq_ediv_of_nonneg (by omega)];rfl
  rw[hq];by_cases hc:((1000/u:Nat):Int)<n
  .rw[if_pos hc];by_cases hb:1000<n
   .rw[if_pos hb]
   .rw[if_neg hb];obtain⟨v1,v2⟩:=GzT hv n.toNat
    rw[hU]at v2;have:1000<n.toNat*u:=by
     have:=(Nat.div_lt_iff_lt_mul (show 0<u by omega)).1 (show 1000/u<n.toNat by omega);exact this
    unfold czD;rw[if_neg (by rw[kzH v1,v2];omega)]
  .rw[if_neg hc];have:1000/u<=1000:=Nat.div_le_self _ _;rw[if_neg (by omega)]
theorem ori:(∀x:Fin 32,azn .or .i64 192 (x.val:Int)=192+x.val)/\(∀x:Fin 16,azn .or .i64 224 (x.val:Int)=224+x.val)/\(∀x:Fin 8,azn .or .i64 240 (x.val:Int)=240+x.val) /\
 (∀x:Fin 64,azn .or .i64 128 (x.val:Int)=128+x.val):=by decide +kernel
theorem and63 {n:Nat}(h:n<9223372036854775808):azn .and .i64 (n:Int) 63=((n%64:Nat):Int):=by
 have:=qzJ (x:=n) (y:=63) h (by omega);rw[show((63:Nat):Int)=63 from rfl]at this;rw[this,show(63:Nat)=2^6-1 from rfl,Nat.and_two_pow_sub_one_eq_mod]
theorem lo6i {n:Nat}(h:n<9223372036854775808):UInt8.ofNat (u8.wrap (azn .or .i64 128 (azn .and .i64 (n:Int) 63))).toNat=UInt8.ofNat (128+n%64):=by
 rw[and63 h];have:=ori.2.2.2 ⟨n%64,by omega⟩;simp only at this;rw[this,show(128:Int)+((n%64:Nat):Int)=((128+n%64:Nat):Int) by omega,ozC]
theorem hi5i {n:Nat}(h:n<32):UInt8.ofNat (u8.wrap (azn .or .i64 192 (n:Int))).toNat=UInt8.ofNat (192+n):=by
 have:=ori.1 ⟨n,h⟩;simp only at this;rw[this,show(192:Int)+(n:Int)=((192+n:Nat):Int) by omega,ozC]
theorem hi4i {n:Nat}(h:n<16):UInt8.ofNat (u8.wrap (azn .or .i64 224 (n:Int))).toNat=UInt8.ofNat (224+n):=by
 have:=ori.2.1 ⟨n,h⟩;simp only at this;rw[this,show(224:Int)+(n:Int)=((224+n:Nat):Int) by omega,ozC]
theorem hi3i {n:Nat}(h:n<8):UInt8.ofNat (u8.wrap (azn .or .i64 240 (n:Int))).toNat=UInt8.ofNat (240+n):=by
 have:=ori.2.2.1 ⟨n,h⟩;simp only at this;rw[this,show(240:Int)+(n:Int)=((240+n:Nat):Int) by omega,ozC]
theorem MzC {r:Int}(h:bzK r):qzA r=some (Lib.encodeRune r):=by
 obtain⟨n,rfl⟩:=Int.eq_ofNat_of_zero_le h.1;have h':=h;unfold bzK at h';rw[encZ n h];unfold qzA;have d6:=yzC n 64;have d12:=yzC n 4096;have d18:=yzC n 262144;simp only[Int.cast_ofNat_Int]at d6 d12 d18;rw[d6,d12,d18,lo6i (by omega),lo6i (by omega),lo6i (by omega)];by_cases c1:n<128
 .rw[dT0 (show(n:Int)<128 by omega),azc,if_pos c1,ozC]
 rw[dF0 (show ¬(n:Int)<128 by omega),azb,if_neg c1];by_cases c2:n<2048
 .rw[dT0 (show(n:Int)<2048 by omega),azc,if_pos c2,hi5i (by omega)]
 rw[dF0 (show ¬(n:Int)<2048 by omega),azb,if_neg c2];by_cases c3:n<65536
 .rw[dT0 (show(n:Int)<65536 by omega),azc,if_pos c3,hi4i (by omega)]
 .rw[dF0 (show ¬(n:Int)<65536 by omega),azb,if_neg c3,hi3i (by omega)]
theorem IzC:∀{l:List Int},(∀r∈l,bzK r)->(encs l).length<=4*l.length
 | [],_=>by simp[encs]
 | r::l,h=>by
  have h1:=tzr (h r (by simp));have h2:=IzC (l:=l) (fun x hx=>h x (by simp[hx]));unfold encs at h2 ⊢;rw[List.flatMap_cons,List.length_append,List.length_cons];omega
theorem runesF_is {l:List Int}(h:∀r∈l,bzK r)(hl:l.length<=1000000):azM l=some (encs l):=by
 have this:nzG (l,[],0)=some (id _):=azC (F:=gzS) (fun(s:List UInt8) (i:Nat)=>(l,s,(i:Int))) id l (fun s r=>.inl (s++Lib.encodeRune r)) id (fun s i=>s.length<=4*i) (by omega)
  (fun back s i hi hs=>by
   have hr:=h _ (List.getElem_mem hi);have:=tzr hr;unfold gzS;simp only;rw[ltT hi,azc,idxG hi,aza,MzC hr,aza,appN (by omega),aza,wr1 (by omega)];rfl)
  (fun s i hi s' hs e=>by
   cases e;have:=tzr (h _ (List.getElem_mem hi));rw[List.length_append,Nat.mul_add];exact Nat.add_le_add hs this)
  (fun back s _=>by
   unfold gzS;simp only;rw[ltF,azb];rfl) [] (by simp)
 unfold azM;rw[this,bzx];have:∀(l:List Int) (s:List UInt8),l.foldl (fun s r=>s++Lib.encodeRune r) s=s++encs l:=by
  intro l;induction l with
  | nil=>intro s;simp[encs]
  | cons r l ih=>intro s;rw[List.foldl_cons,ih];unfold encs;rw[List.flatMap_cons,List.append_assoc]
 rw[id,id,this,aza];rfl
def cl (m:Int):Int:=if 10000<m then 10000 else m
def amtR (k:Int)(x:List Int×Nat)(v:Val):(List Int×Nat)⊕(List Int⊕Val):=match amt v (ezl k x.2)with
 | .inl m=>.inl (x.1.set x.2 (cl m),x.2+1)
 | .inr f=>.inr (.inr f)
theorem amtR_is {k:Int}:∀(vs:List Val) (ns:List Int) (j:Nat),azo (amtR k) (fun x=>(.inl x.1:List Int⊕Val)) (ns.map cl,j) vs=match azo (amtS k) (fun x=>(.inl x.1:List Int⊕Val)) (ns,j) vs with | .inl ns=>.inl (ns.map cl) | .inr f=>.inr f
 | [],ns,j=>rfl
 | v::vs,ns,j=>by
  simp only[azo,amtR,amtS];cases amt v (ezl k j)with
  | inr f=>rfl
  | inl m =>
   simp only;rw[<-List.map_set];exact amtR_is vs (ns.set j m) (j+1)
theorem b3_amt {d:Dec}{lo:Int}:dzl (d,lo)=some (!decide (d.S=0/\lo<=d.M)):=by
 unfold dzl;simp only;by_cases h:d.S=0
 .rw[dT0 h,Bool.not_true,azb];by_cases h2:d.M<lo
  .rw[dT0 h2,dF0 (fun c=>by omega)];rfl
  .rw[dF0 h2,dT0 ⟨h,by omega⟩];rfl
 .rw[dF0 h,Bool.not_false,azc,dF0 (fun c=>h c.1)];rfl
def rpG:List Int⊕Val->(List Int×Val)⊕(Unit×Val)
 | .inl ns=>.inl (ns,v0)
 | .inr f=>.inr ((),f)
theorem pieces_b2 {k:Int}{a:Arg}{l:List Arg}{ns:List Int}{j:Nat}(hj:j<l.length)(hb:badB l[j]=false)(hv:okW (fst1 l[j]))(hn:j<ns.length)(hl:l.length<=1000):
 izU (k,a::l,v0,ns,((j+1:Nat):Int))=some (match amt (fst1 l[j]) (ezl k j)with | .inl m=>.inl (ns.set j (cl m),v0) | .inr f=>.inr ((),f)):=by
 have hi:idx (a::l) ((j+1:Nat):Int)=some l[j]:=by rw[idxG (by simp;omega)];simp
 have hw:i64.wrap (((j+1:Nat):Int)-1)=(j:Int):=by rw[azi (by omega) (by omega)];omega
 have e:∀lo:Int,∀(d:Dec),(obnd (dzl (d,lo)) fun y_1 =>
  brn y_1 (obnd (azg 15) fun y=>some (Sum.inr ((),y)))
   (brn (decide (10000<d.M))
    (obnd (inb ns.length (i64.wrap (((j+1:Nat):Int)-1))) fun k =>
     obnd (nth ns k) fun y=>some (Sum.inl (ns.set k 10000,v0)))
    (obnd (inb ns.length (i64.wrap (((j+1:Nat):Int)-1))) fun k =>
     obnd (nth ns k) fun y_2=>some (Sum.inl (ns.set k d.M,v0)))))=(some (if d.S=0/\lo<=d.M then .inl (ns.set j (cl d.M),v0)else .inr ((),vE 15)):Option ((List Int×Val)⊕(Unit×Val))):=by
  intro lo d;rw[b3_amt,aza,hw,inb_is hn,aza,DzP hn,aza,aza,DzP hn,aza];by_cases h:d.S=0/\lo<=d.M
  .rw[dT0 h,Bool.not_true,azb,if_pos h];unfold cl;by_cases hc:10000<d.M
   .rw[dT0 hc,azc,if_pos hc]
   .rw[dF0 hc,azb,if_neg hc]
  .rw[dF0 h,Bool.not_false,azc,if_neg h];rfl
 unfold izU;simp only;rw[hi,aza,cz8 hb,aza,(ezX hv).2,aza];unfold amt;generalize numR (fst1 l[j])=r;obtain⟨d,f,ok⟩:=r;cases ok with
 | false=>rfl
 | true =>
  simp only[Bool.not_true,azb,if_true];rw[e 1 d,e 0 d];by_cases c1:k=17
  .rw[dT0 c1,azc];by_cases c2:((j+1:Nat):Int)=1
   .rw[dT0 c2,azc,show ezl k j=1 from if_pos ⟨c1,by omega⟩];by_cases h:d.S=0/\1<=d.M
    .rw[if_pos h,if_pos h]
    .rw[if_neg h,if_neg h]
   .rw[dF0 c2,azb,show ezl k j=0 from if_neg (by omega)];by_cases h:d.S=0/\0<=d.M
    .rw[if_pos h,if_pos h]
    .rw[if_neg h,if_neg h]
  .rw[dF0 c1,azb,show ezl k j=0 from if_neg (fun c=>c1 c.1)];by_cases h:d.S=0/\0<=d.M
   .rw[if_pos h,if_pos h]
   .rw[if_neg h,if_neg h]
theorem pieces_l1 {k:Int}{a:Arg}{l:List Arg}(hb:l.any badB=false)(hv:∀a∈l,∀v∈a.L,okW v)(hl:l.length<=2):
 ezd (k,a::l,v0,[1,1],1)=some (rpG (match dzD k (l.map fst1)with | .inl ns=>.inl (ns.map cl) | .inr f=>.inr f)):=by
 have hbad:∀j (hj:j<l.length),badB l[j]=false:=fun j hj=>by
  rw[List.any_eq_false]at hb;simpa using hb _ (List.getElem_mem hj)
 have:=azC (F:=fzP) (fun(x:List Int×Nat) (i:Nat)=>(k,a::l,v0,x.1,((i+1:Nat):Int))) rpG l (fun x a=>amtR k x (fst1 a)) (fun x=>.inl x.1) (fun x i=>x.2=i/\x.1.length=2) (by omega)
  (fun back x i hi hp=>by
   obtain⟨ns,j⟩:=x;simp only at hp;obtain⟨rfl,h2⟩:=hp;unfold fzP amtR;simp only;rw[dT0 (show((j+1:Nat):Int)<(((a::l).length:Nat):Int) by simp only[List.length_cons];omega),azc,pieces_b2 hi (hbad j hi) (hv _ (List.getElem_mem hi) _ (ezG (hbad j hi))) (by omega) (by omega),aza,wr1 (by omega)];cases amt (fst1 l[j]) (ezl k j)<;>rfl)
  (fun x i hi x' hp h=>by
   obtain⟨ns,j⟩:=x;simp only at hp;obtain⟨rfl,h2⟩:=hp;unfold amtR at h;simp only at h;revert h;cases amt (fst1 l[j]) (ezl k j)<;>intro h<;>cases h;simp[h2])
  (fun back x hp=>by
   unfold fzP;simp only;rw[dF0 (show ¬((l.length+1:Nat):Int)<(((a::l).length:Nat):Int) by simp only[List.length_cons];omega),azb];rfl) ([1,1],0) ⟨rfl,rfl⟩
 have this:ezd (k,a::l,v0,[1,1],1)=some (rpG (azo (fun x a=>amtR k x (fst1 a)) (fun x=>.inl x.1) ([1,1],0) l)):=this;rw[this];have hm:∀(l:List Arg) (x:List Int×Nat),azo (fun x a=>amtR k x (fst1 a)) (fun x=>(.inl x.1:List Int⊕Val)) x l=azo (amtR k) (fun x=>(.inl x.1:List Int⊕Val)) x (l.map fst1):=by
  intro l;induction l with
  | nil=>intro x;rfl
  | cons b l ih =>
   intro x;simp only[List.map_cons,azo];cases amtR k x (fst1 b)with
   | inl y=>exact ih y
   | inr y=>rfl
 rw[hm,show([1,1]:List Int)=[1,1].map cl from rfl,amtR_is];rfl
theorem slice_min (l:List Int)(f n:Nat):(l.drop f).take n=(l.drop (min f l.length)).take (min n (l.length-min f l.length)):=by
 by_cases h:f<=l.length
 .rw[Nat.min_eq_left h,List.take_eq_take_iff,List.length_drop];omega
 .rw[List.drop_eq_nil_of_le (by omega),List.drop_eq_nil_of_le (by omega)];simp
theorem pieceT {l:List Int}{f n:Int}(hr:∀r∈l,bzK r)(hl:l.length<=5000)(hf:0<=f)(hf2:f<=20000)(hn:0<=n)(hn2:n<=20000):
 (brn (decide ((l.length:Int)<f))
  (brn (decide (i64.wrap ((l.length:Int)-(l.length:Int))<n))
   (obnd (sub l (l.length:Int) (i64.wrap ((l.length:Int)+i64.wrap ((l.length:Int)-(l.length:Int)))))
    fun z=>obnd (azM z) fun y=>obnd (azA y) fun y=>some y)
   (obnd (sub l (l.length:Int) (i64.wrap ((l.length:Int)+n))) fun z =>
    obnd (azM z) fun y=>obnd (azA y) fun y=>some y))
  (brn (decide (i64.wrap ((l.length:Int)-f)<n))
   (obnd (sub l f (i64.wrap (f+i64.wrap ((l.length:Int)-f)))) fun z =>
    obnd (azM z) fun y=>obnd (azA y) fun y=>some y)
   (obnd (sub l f (i64.wrap (f+n))) fun z=>obnd (azM z) fun y=>obnd (azA y) fun y=>some y))) =
  some (czD (encs ((l.drop f.toNat).take n.toNat))):=by
 have fin:∀i j:Nat,i<=j->j<=l.length->(obnd (sub l (i:Int) (j:Int)) fun z=>obnd (azM z) fun y=>obnd (azA y) fun y=>some y)=some (czD (encs ((l.drop i).take (j-i)))):=fun i j h1 h2=>by
  have hz:∀r∈(l.take j).drop i,bzK r:=fun r h=>hr r (List.mem_of_mem_take (List.mem_of_mem_drop h))
  have hzl:((l.take j).drop i).length<=5000:=by rw[List.length_drop,List.length_take];omega
  have he:=IzC hz;rw[subG h1 h2,aza,runesF_is hz (by omega),aza,mzj (by omega),aza,List.drop_take]
 rw[slice_min l f.toNat n.toNat];have w0:i64.wrap ((l.length:Int)-(l.length:Int))=0:=by rw[azi (by omega) (by omega)];omega
 rw[w0];by_cases c1:(l.length:Int)<f
 .rw[dT0 c1,azc,show min f.toNat l.length=l.length by omega,Nat.sub_self,Nat.min_zero];have f0:=fin l.length l.length (Nat.le_refl _) (Nat.le_refl _);rw[Nat.sub_self]at f0;by_cases c2:0<n
  .rw[dT0 c2,azc,azi (by omega) (by omega),Int.add_zero];exact f0
  .rw[dF0 c2,azb,azi (by omega) (by omega),show(l.length:Int)+n=(l.length:Int) by omega];exact f0
 .rw[dF0 c1,azb,show min f.toNat l.length=f.toNat by omega,azi (n:=(l.length:Int)-f) (by omega) (by omega)];by_cases c2:(l.length:Int)-f<n
  .have:=fin f.toNat l.length (by omega) (Nat.le_refl _);rw[dT0 c2,azc,azi (by omega) (by omega),show f+((l.length:Int)-f)=(l.length:Int) by omega,show min n.toNat (l.length-f.toNat)=l.length-f.toNat by omega];rw[show((f.toNat:Nat):Int)=f by omega]at this;exact this
  .have:=fin f.toNat (f.toNat+n.toNat) (by omega) (by omega);rw[dF0 c2,azb,azi (by omega) (by omega),show min n.toNat (l.length-f.toNat)=f.toNat+n.toNat-f.toNat by omega];rw[show((f.toNat:Nat):Int)=f by omega,show((f.toNat+n.toNat:Nat):Int)=f+n by omega]at this;exact this
def arOk (k:Int)(l:List Arg):Bool:=if k=17 then decide (l.length=3)else if k=15\/k=16 then(decide (1<=l.length)&&decide (l.length<=2))else if 26<=k then decide (l.length=2)else decide (l.length=1)
def gzw (k:Int)(l:List Arg):Val:=if(arOk k l&&!l.any badB)=true then dzy k ((l.map fst1).headD v0) (l.map fst1).tail else vE 15
theorem cl_ok {x:Int}(h:0<=x):0<=cl x/\cl x<=10000/\(x<=10000->cl x=x)/\(10000<x->cl x=10000):=by
 unfold cl;split<;>omega
theorem piece_cl {k:Int}(hk:k=15\/k=16\/k=17){s:List UInt8}{x y:Int}(hl:s.length<=3000)(hx:0<=x)(hy:0<=y)(h1:k=17->1<=x):
 (obnd (ezc ([cl x,cl y],rs s,0,cl x,k)) fun y_4 =>
  brn (decide (((rs s).length:Int)<y_4.1))
   (brn (decide (i64.wrap (((rs s).length:Int)-((rs s).length:Int))<y_4.2))
    (obnd (sub (rs s) ((rs s).length:Int) (i64.wrap (((rs s).length:Int)+i64.wrap (((rs s).length:Int)-((rs s).length:Int)))))
     fun z=>obnd (azM z) fun y=>obnd (azA y) fun y=>some y)
    (obnd (sub (rs s) ((rs s).length:Int) (i64.wrap (((rs s).length:Int)+y_4.2))) fun z =>
     obnd (azM z) fun y=>obnd (azA y) fun y=>some y))
   (brn (decide (i64.wrap (((rs s).length:Int)-y_4.1)<y_4.2))
    (obnd (sub (rs s) y_4.1 (i64.wrap (y_4.1+i64.wrap (((rs s).length:Int)-y_4.1)))) fun z =>
     obnd (azM z) fun y=>obnd (azA y) fun y=>some y)
    (obnd (sub (rs s) y_4.1 (i64.wrap (y_4.1+y_4.2))) fun z=>obnd (azM z) fun y=>obnd (azA y) fun y=>some y)))=some (jzd k s [x,y]):=by
 have hr:=rzJ s.length s (Nat.le_refl _);have hrl:=pzy s;obtain⟨cx0,cx1,cx2,cx3⟩:=cl_ok hx;obtain⟨cy0,cy1,cy2,cy3⟩:=cl_ok hy;have P:=fun(f n:Int) (a:0<=f) (b:f<=20000) (c:0<=n) (d:n<=20000)=>pieceT hr (show(rs s).length<=5000 by omega) a b c d
 unfold ezc;simp only;rcases hk with rfl|rfl|rfl
 .rw[show decide ((15:Int)=16)=false from rfl,show decide ((15:Int)=17)=false from rfl,azb,azb,aza];simp only;rw[P 0 (cl x) (by omega) (by omega) cx0 (by omega),GzM];congr 3;rw[show Int.toNat 0=0 from rfl,List.drop_zero,List.take_eq_take_iff];omega
 .rw[show decide ((16:Int)=16)=true from rfl,azc,azi (by omega) (by omega)];by_cases c:((rs s).length:Int)-cl x<0
  .rw[dT0 c,azc,aza];simp only;rw[P 0 (cl x) (by omega) (by omega) cx0 (by omega),xzy];congr 3;rw[show Int.toNat 0=0 from rfl,show(rs s).length-x.toNat=0 by omega,List.drop_zero,List.take_eq_take_iff];omega
  .rw[dF0 c,azb,aza];simp only;rw[P _ (cl x) (by omega) (by omega) cx0 (by omega),xzy];congr 3;rw[show(((rs s).length:Int)-cl x).toNat=(rs s).length-x.toNat by omega,List.take_eq_take_iff,List.length_drop];omega
 .have:=h1 rfl;rw[show decide ((17:Int)=16)=false from rfl,azb,show decide ((17:Int)=17)=true from rfl,azc,idxZ,aza,show idx [cl x,cl y] 1=some (cl y) from rfl,aza,aza];simp only;rw[azi (n:=cl x-1) (by omega) (by omega),P (cl x-1) (cl y) (by omega) (by omega) cy0 (by omega),GzN];congr 3;by_cases c:x<=10000
  .rw[cx2 c,List.take_eq_take_iff,List.length_drop];omega
  .rw[List.drop_eq_nil_of_le (by omega),List.drop_eq_nil_of_le (by omega)];simp
theorem pieces_is {k:Int}{l:List Arg}(hk:k=15\/k=16\/k=17)(hl:l.length<=1000)(hv:∀a∈l,∀v∈a.L,okW v):dz6 (k,l)=some (gzw k l):=by
 have main:(arOk k l&&!l.any badB)=true->(obnd (idx l 0) fun y =>
  obnd (idx y.L 0) fun y =>
   obnd (czo y) fun y =>
    brn (!y.2.2) (some y.2.1)
     (obnd (ezd (k,l,v0,[1,1],1)) fun y_1 =>
      osum y_1
       (fun y_2 =>
        obnd (gz8 y.1) fun y =>
         obnd (idx y_2.1 0) fun y_3 =>
          obnd (ezc (y_2.1,y.1,0,y_3,k)) fun y_4 =>
           brn (decide ((y.1.length:Int)<y_4.1))
            (brn (decide (i64.wrap ((y.1.length:Int)-(y.1.length:Int))<y_4.2))
             (obnd
              (sub y.1 (y.1.length:Int)
               (i64.wrap ((y.1.length:Int)+i64.wrap ((y.1.length:Int)-(y.1.length:Int)))))
              fun z=>obnd (azM z) fun y=>obnd (azA y) fun y=>some y)
             (obnd (sub y.1 (y.1.length:Int) (i64.wrap ((y.1.length:Int)+y_4.2))) fun z =>
              obnd (azM z) fun y=>obnd (azA y) fun y=>some y))
            (brn (decide (i64.wrap ((y.1.length:Int)-y_4.1)<y_4.2))
             (obnd (sub y.1 y_4.1 (i64.wrap (y_4.1+i64.wrap ((y.1.length:Int)-y_4.1)))) fun z =>
              obnd (azM z) fun y=>obnd (azA y) fun y=>some y)
             (obnd (sub y.1 y_4.1 (i64.wrap (y_4.1+y_4.2))) fun z=>obnd (azM z) fun y=>obnd (azA y) fun y=>some y)))
       fun y=>some y.2))=some (gzw k l):=by
  intro hok;unfold gzw;rw[if_pos hok];simp only[Bool.and_eq_true,Bool.not_eq_true']at hok;obtain⟨har,hb⟩:=hok;have hlen:1<=l.length/\l.length<=3:=by
   unfold arOk at har;rcases hk with rfl|rfl|rfl<;>simp at har<;>omega
  obtain⟨a,bs,rfl⟩:∃a bs,l=a::bs:=by
   cases l with
   | nil=>simp at hlen
   | cons a bs=>exact⟨a,bs,rfl⟩
  simp only[List.length_cons]at hlen;simp only[List.any_cons,Bool.or_eq_false_iff]at hb;have ow:=hv a (by simp) _ (ezG hb.1);have hvs:∀b∈bs,∀v∈b.L,okW v:=fun b h=>hv b (by simp[h])
  have hvf:∀v∈bs.map fst1,okW v:=by
   intro v h;obtain⟨b,hbm,rfl⟩:=List.mem_map.1 h;have:badB b=false:=by
    have:=hb.2;rw[List.any_eq_false]at this;simpa using this b hbm
   exact hvs b hbm _ (ezG this)
  rw[idxZ,aza,cz8 hb.1,aza,(uzb ow).2,aza,show((a::bs).map fst1).headD v0=fst1 a from rfl,show((a::bs).map fst1).tail=bs.map fst1 from rfl];by_cases h4:(fst1 a).Kind=4
  .rw[(czg ow).1 h4,mzT h4];rfl
  .rw[(czg ow).2 h4,wordV_p hk,if_neg h4];simp only[Bool.not_true,azb];obtain⟨tl,tv⟩:=nzV ow h4;rw[pieces_l1 hb.2 hvs (by omega),aza,Azu (by omega),if_pos tv];cases e:dzD k (bs.map fst1)with
   | inr f=>rfl
   | inl ns =>
    obtain⟨x,y,rfl,x0,_,y0,_,h1⟩:=Ez2 (by rw[List.length_map];omega) hvf e;rw[show rpG (.inl ([x,y].map cl)) = .inl ([cl x,cl y],v0) from rfl];simp only[osum];rw[aza,idxZ,aza];exact piece_cl hk tl x0 y0 h1
 have bad:(arOk k l&&!l.any badB)=false->gzw k l=vE 15:=fun h=>by unfold gzw;rw[h];rfl
 unfold dz6;simp only[az7,aza];by_cases h17:k=17
 .have hs:=mzS (l:=l) (p:=3) hl;have ha:arOk k l=decide (l.length=3):=by unfold arOk;rw[if_pos h17]
  rw[show(((3:Nat)):Int)=3 from rfl,<-ha]at hs;rw[dT0 h17,azc,hs,aza];cases hok:(arOk k l&&!l.any badB)with
  | true=>simp only[Bool.not_true,azb];exact main hok
  | false=>simp only[Bool.not_false,azc];rw[bad hok]
 .have hs:=rzG (l:=l) (p:=1) (q:=2) hl;have ha:(decide ((1:Int)<=l.length)&&(decide ((l.length:Int)<=2)&&!l.any badB))=(arOk k l&&!l.any badB):=by
   unfold arOk;rw[if_neg h17,if_pos (by omega)];have e1:decide ((1:Int)<=l.length)=decide (1<=l.length):=by
    by_cases h:1<=l.length
    .rw[dT0 h,dT0 (show(1:Int)<=l.length by omega)]
    .rw[dF0 h,dF0 (show ¬(1:Int)<=l.length by omega)]
   have e2:decide ((l.length:Int)<=2)=decide (l.length<=2):=by
    by_cases h:l.length<=2
    .rw[dT0 h,dT0 (show(l.length:Int)<=2 by omega)]
    .rw[dF0 h,dF0 (show ¬(l.length:Int)<=2 by omega)]
   rw[e1,e2,Bool.and_assoc]
  rw[ha]at hs;rw[dF0 h17,azb,hs,aza];cases hok:(arOk k l&&!l.any badB)with
  | true=>simp only[Bool.not_true,azb];exact main hok
  | false=>simp only[Bool.not_false,azc];rw[bad hok]
theorem wb1_one {k:Int}(hk:k=14\/k=19\/k=20){l:List Arg}{v:Val}(h:okW v)(h4:¬v.Kind=4):czL (k,l,v0,texR v,k)=some (.inr ((),dzy k v [])):=by
 obtain⟨tl,tv⟩:=nzV h h4;have hL:∀up:Bool,(texR v).map (gzy up)=encs ((rs (texR v)).map (dzw up)):=fun up=>CzO tv
 unfold czL;simp only;rcases hk with rfl|rfl|rfl
 .rw[Kzf h4];simp only[decide_true,azc];rw[lzH (by omega),aza,rzl,aza]
 .rw[Kzg h4,show decide ((19:Int)=14)=false from rfl,azb];simp only[decide_true,azc];rw[Azf (.inl rfl) (by omega),aza,show decide ((19:Int)=19)=true from rfl,hL,mzj (by rw[uzn tv];omega),aza]
 .rw[Kzh h4,show decide ((20:Int)=14)=false from rfl,show decide ((20:Int)=19)=false from rfl,azb,azb];simp only[decide_true,azc];rw[Azf (.inr rfl) (by omega),aza,show decide ((20:Int)=19)=false from rfl,hL,mzj (by rw[uzn tv];omega),aza]
theorem wb1_two {a b:Arg}{v w:Val}(hw:okW w)(hb:idx b.L 0=some w)(h4:¬v.Kind=4):czL (26,[a,b],v0,texR v,26)=some (.inr ((),dzy 26 v [w])):=by
 unfold czL;simp only;rw[Kzi h4,show decide ((26:Int)=14)=false from rfl,show decide ((26:Int)=19)=false from rfl,show decide ((26:Int)=20)=false from rfl,azb,azb,azb];simp only[decide_true,azc];rw[idx1,aza,hb,aza,(uzb hw).2,aza];by_cases w4:w.Kind=4
 .rw[(czg hw).1 w4,if_pos w4];rfl
 .rw[(czg hw).2 w4,if_neg w4];rfl
theorem rep_tail {s:List UInt8}{w:Val}(hw:okW w)(hl:s.length<=3000)(hv:validD s=true)(hu:(az5 s).2=0):
 (obnd (azX w) fun y_5 =>
  brn (!y_5.2.2) (some y_5.2.1)
   (brn (!decide (y_5.1.S=0)) (some (vE 15))
    (brn (decide (y_5.1.M<0)) (some (vE 15))
     (brn (decide (s=[])) (obnd (azA []) fun y=>some y)
      (brn (decide (1000<y_5.1.M)) (some (vE 15))
       (obnd (eze (s,y_5.1,[],0)) fun y=>obnd (azA y) fun y=>some y)))))) =
  some (match dzD 27 [w]with | .inl ns=>szJ s (ns.headD 0) | .inr f=>f):=by
 rw[(ezX hw).2,aza];have e:dzD 27 [w]=match amt w 0 with | .inl m=>.inl [m,1] | .inr f=>.inr f:=by
  unfold dzD;simp only[azo,amtS];rw[show ezl 27 0=0 from rfl];cases amt w 0<;>rfl
 rw[e];unfold amt;have hm:=(jzb hw).2;generalize numR w=r at *;obtain⟨⟨M,S⟩,f,ok⟩:=r;cases ok with
 | false=>rfl
 | true =>
  simp only[Bool.not_true,azb,if_true];by_cases c1:S=0
  .rw[dT0 c1,Bool.not_true,azb];by_cases c2:M<0
   .rw[dT0 c2,azc,if_neg (by omega)]
   .rw[dF0 c2,azb,if_pos ⟨c1,by omega⟩];simp only[List.headD_cons];rw[<-rept_eq hv hu (show 0<=M by omega)];by_cases c3:s=[]
    .rw[dT0 c3,azc,if_pos c3,mzj (by simp),aza]
    .rw[dF0 c3,azb,if_neg c3];by_cases c4:1000<M
     .rw[dT0 c4,azc,if_pos c4]
     .obtain⟨m,rfl⟩:=Int.eq_ofNat_of_zero_le (show 0<=M by omega);have:=JzZ hl (n:=(m:Int)) (by omega) (by omega);rw[Int.toNat_natCast]at this ⊢;rw[dF0 c4,azb,if_neg c4,rep_loop hl (by omega),aza,mzj (by omega),aza]
  .rw[dF0 c1,if_neg (fun c=>c1 c.1)];rfl
theorem Kzk {k:Int}{l:List Arg}(hk:k=14\/k=19\/k=20\/k=26\/k=27)(hl:l.length<=1000)(hv:∀a∈l,∀v∈a.L,okU v):jzj (k,l)=some (gzw k l):=by
 have bad:(arOk k l&&!l.any badB)=false->gzw k l=vE 15:=fun h=>by unfold gzw;rw[h];rfl
 have good:(arOk k l&&!l.any badB)=true->gzw k l=dzy k ((l.map fst1).headD v0) (l.map fst1).tail:=fun h=>by unfold gzw;rw[if_pos h]
 unfold jzj;simp only[az7,aza];by_cases h26:26<=k
 .have hs:=mzS (l:=l) (p:=2) hl;have ha:arOk k l=decide (l.length=2):=by unfold arOk;rw[if_neg (by omega),if_neg (by omega),if_pos h26]
  rw[show(((2:Nat)):Int)=2 from rfl,<-ha]at hs;rw[dT0 h26,azc,hs,aza];cases hok:(arOk k l&&!l.any badB)with
  | false=>simp only[Bool.not_false,azc];rw[bad hok]
  | true =>
   rw[good hok];rw[ha]at hok;simp only[Bool.and_eq_true,decide_eq_true_eq,Bool.not_eq_true']at hok;obtain⟨h2,hb⟩:=hok;obtain⟨a,b,rfl⟩:∃a b,l=[a,b]:=by
    match l,h2 with
    | [a,b],_=>exact⟨a,b,rfl⟩
   simp only[List.any_cons,List.any_nil,Bool.or_false,Bool.or_eq_false_iff]at hb;have ua:=hv a (by simp) _ (ezG hb.1);have ub:=hv b (by simp) _ (ezG hb.2);have vb:=cz8 hb.2;simp only[Bool.not_true,azb];rw[idxZ,aza,cz8 hb.1,aza,(uzb ua.1).2,aza,show([a,b].map fst1).headD v0=fst1 a from rfl,show([a,b].map fst1).tail=[fst1 b] from rfl];by_cases h4:(fst1 a).Kind=4
   .rw[(czg ua.1).1 h4,mzT h4];rfl
   .rw[(czg ua.1).2 h4];simp only[Bool.not_true,azb];rcases(show k=26\/k=27 by omega)with rfl|rfl
    .rw[show(⟨0,⟨0,0⟩,[],false,0⟩:Val)=v0 from rfl,wb1_two ub.1 vb h4,aza];rfl
    .obtain⟨tl,tv⟩:=nzV ua.1 h4;have hb1:czL (27,[a,b],v0,texR (fst1 a),27)=some (.inl ((),v0)):=rfl;rw[show(⟨0,⟨0,0⟩,[],false,0⟩:Val)=v0 from rfl,hb1,aza,Kzj h4];simp only[osum];rw[idx1,aza,vb,aza];exact rep_tail ub.1 tl tv (ua.2 h4)
 .have hs:=mzS (l:=l) (p:=1) hl;have ha:arOk k l=decide (l.length=1):=by unfold arOk;rw[if_neg (by omega),if_neg (by omega),if_neg h26]
  rw[show(((1:Nat)):Int)=1 from rfl,<-ha]at hs;rw[dF0 h26,azb,hs,aza];cases hok:(arOk k l&&!l.any badB)with
  | false=>simp only[Bool.not_false,azc];rw[bad hok]
  | true =>
   rw[good hok];rw[ha]at hok;simp only[Bool.and_eq_true,decide_eq_true_eq,Bool.not_eq_true']at hok;obtain⟨h2,hb⟩:=hok;obtain⟨a,rfl⟩:∃a,l=[a]:=by
    match l,h2 with
    | [a],_=>exact⟨a,rfl⟩
   simp only[List.any_cons,List.any_nil,Bool.or_false]at hb;have ua:=hv a (by simp) _ (ezG hb);simp only[Bool.not_true,azb];rw[idxZ,aza,cz8 hb,aza,(uzb ua.1).2,aza,show([a].map fst1).headD v0=fst1 a from rfl,show([a].map fst1).tail=[] from rfl];by_cases h4:(fst1 a).Kind=4
   .rw[(czg ua.1).1 h4,mzT h4];rfl
   .rw[(czg ua.1).2 h4];simp only[Bool.not_true,azb];rw[show(⟨0,⟨0,0⟩,[],false,0⟩:Val)=v0 from rfl,wb1_one (by omega) ua.1 h4,aza];rfl
abbrev UV:=(Unit×Val)⊕(Unit×Val)
theorem uzc (m:Option UV):(obnd m fun y=>osum y (fun y=>(some (.inl ((),y.2)):Option UV)) fun y=>some (.inr ((),y.2)))=m:=by
 cases m with
 | none=>rfl
 | some y=>cases y<;>rfl
variable (op:Int) (l:List Arg) (v:Val) (k:Int)
theorem r1:jzQ (op,l,v,k)=czu (op,l,v,k,decide (k=0\/k=1\/k=2\/k=3\/k=4)):=by
 unfold jzQ;simp only[uzc];by_cases h0:k=0
 .rw[dT0 h0,azc,dT0 (.inl h0)]
 rw[dF0 h0,azb];by_cases h1:k=1
 .rw[dT0 h1,azc,dT0 (by omega)]
 rw[dF0 h1,azb];by_cases h2:k=2
 .rw[dT0 h2,azc,dT0 (by omega)]
 rw[dF0 h2,azb];by_cases h3:k=3
 .rw[dT0 h3,azc,dT0 (by omega)]
 rw[dF0 h3,azb];by_cases h4:k=4
 .rw[dT0 h4,dT0 (by omega)]
 .rw[dF0 h4,dF0 (by omega)]
theorem r2:czu (op,l,v,k,false)=czv (op,l,v,k,decide (k=5\/k=6\/k=7\/k=8\/k=9)):=by
 unfold czu;simp only[uzc,azb];by_cases h0:k=5
 .rw[dT0 h0,azc,dT0 (.inl h0)]
 rw[dF0 h0,azb];by_cases h1:k=6
 .rw[dT0 h1,azc,dT0 (by omega)]
 rw[dF0 h1,azb];by_cases h2:k=7
 .rw[dT0 h2,azc,dT0 (by omega)]
 rw[dF0 h2,azb];by_cases h3:k=8
 .rw[dT0 h3,azc,dT0 (by omega)]
 rw[dF0 h3,azb];by_cases h4:k=9
 .rw[dT0 h4,dT0 (by omega)]
 .rw[dF0 h4,dF0 (by omega)]
theorem r3:czv (op,l,v,k,false)=cz4 (op,l,v,k,decide (k=10\/k=23\/k=24\/k=25)):=by
 unfold czv;simp only[uzc,azb];by_cases h0:k=10
 .rw[dT0 h0,azc,dT0 (.inl h0)]
 rw[dF0 h0,azb];by_cases h1:k=23
 .rw[dT0 h1,azc,dT0 (by omega)]
 rw[dF0 h1,azb];by_cases h2:k=24
 .rw[dT0 h2,azc,dT0 (by omega)]
 rw[dF0 h2,azb];by_cases h4:k=25
 .rw[dT0 h4,dT0 (by omega)]
 .rw[dF0 h4,dF0 (by omega)]
theorem r4:cz4 (op,l,v,k,false)=ezH (op,l,v,k,decide (k=11\/k=12)):=by
 unfold cz4;simp only[uzc,azb];by_cases h0:k=11
 .rw[dT0 h0,azc,dT0 (.inl h0)]
 rw[dF0 h0,azb];by_cases h4:k=12
 .rw[dT0 h4,dT0 (by omega)]
 .rw[dF0 h4,dF0 (by omega)]
theorem r5:ezH (op,l,v,k,false)=cz5 (op,l,v,k,decide (k=13\/k=21\/k=22\/k=29)):=by
 unfold ezH;simp only[uzc,azb];by_cases h0:k=13
 .rw[dT0 h0,azc,dT0 (.inl h0)]
 rw[dF0 h0,azb];by_cases h1:k=21
 .rw[dT0 h1,azc,dT0 (by omega)]
 rw[dF0 h1,azb];by_cases h2:k=22
 .rw[dT0 h2,azc,dT0 (by omega)]
 rw[dF0 h2,azb];by_cases h4:k=29
 .rw[dT0 h4,dT0 (by omega)]
 .rw[dF0 h4,dF0 (by omega)]
theorem r6:cz5 (op,l,v,k,false)=czw (op,l,v,k,decide (k=14\/k=19\/k=20\/k=26\/k=27)):=by
 unfold cz5;simp only[uzc,azb];by_cases h0:k=14
 .rw[dT0 h0,azc,dT0 (.inl h0)]
 rw[dF0 h0,azb];by_cases h1:k=19
 .rw[dT0 h1,azc,dT0 (by omega)]
 rw[dF0 h1,azb];by_cases h2:k=20
 .rw[dT0 h2,azc,dT0 (by omega)]
 rw[dF0 h2,azb];by_cases h3:k=26
 .rw[dT0 h3,azc,dT0 (by omega)]
 rw[dF0 h3,azb];by_cases h4:k=27
 .rw[dT0 h4,dT0 (by omega)]
 .rw[dF0 h4,dF0 (by omega)]
def putR (m:Option Val):Option UV:=obnd m fun y=>some (.inr ((),y))
theorem r7:czw (op,l,v,k,false)=if k=15\/k=16\/k=17 then putR (dz6 (op,l))else if k=18 then putR (dz5 l)else if k=28/\l.length=0 then some (.inr ((),vE 42))else some (.inl ((),v)):=by
 unfold czw putR;simp only[az7,aza,azb];by_cases h0:k=15
 .rw[dT0 h0,azc,azc,if_pos (.inl h0)]
 rw[dF0 h0,azb];by_cases h1:k=16
 .rw[dT0 h1,azc,azc,if_pos (by omega)]
 rw[dF0 h1,azb];by_cases h2:k=17
 .rw[dT0 h2,azc,if_pos (by omega)]
 rw[dF0 h2,azb,if_neg (by omega)];by_cases h3:k=18
 .rw[dT0 h3,azc,if_pos h3]
 rw[dF0 h3,azb,if_neg h3];by_cases h4:k=28
 .rw[dT0 h4,azc];by_cases h5:(l.length:Int)=0
  .rw[dT0 h5,azc,if_pos ⟨h4,by omega⟩]
  .rw[dF0 h5,azb,if_neg (by omega)]
 .rw[dF0 h4,azb,if_neg (fun c=>h4 c.1)]
theorem Lzb:kzo (op,l)=obnd
 (if op=0\/op=1\/op=2\/op=3\/op=4 then putR (jzf (op,l))
 else if op=5\/op=6\/op=7\/op=8\/op=9 then putR (hz6 (op,l))
 else if op=10\/op=23\/op=24\/op=25 then putR (bzb (op,l))
 else if op=11\/op=12 then putR (jzi (op,l))
 else if op=13\/op=21\/op=22\/op=29 then putR (kzv (op,l))
 else if op=14\/op=19\/op=20\/op=26\/op=27 then putR (jzj (op,l))
 else if op=15\/op=16\/op=17 then putR (dz6 (op,l))else if op=18 then putR (dz5 l)else if op=28/\l.length=0 then some (.inr ((),vE 42))else some (.inl ((),v0)))
 fun y=>osum y (fun _=>some (vE 15)) fun y=>some y.2:=by
 unfold kzo;simp only[az7,aza];congr 1;rw[show(⟨0,⟨0,0⟩,[],false,0⟩:Val)=v0 from rfl,r1];by_cases h1:op=0\/op=1\/op=2\/op=3\/op=4
 .rw[dT0 h1,if_pos h1];rfl
 rw[dF0 h1,if_neg h1,r2];by_cases h2:op=5\/op=6\/op=7\/op=8\/op=9
 .rw[dT0 h2,if_pos h2];rfl
 rw[dF0 h2,if_neg h2,r3];by_cases h3:op=10\/op=23\/op=24\/op=25
 .rw[dT0 h3,if_pos h3];rfl
 rw[dF0 h3,if_neg h3,r4];by_cases h4:op=11\/op=12
 .rw[dT0 h4,if_pos h4];rfl
 rw[dF0 h4,if_neg h4,r5];by_cases h5:op=13\/op=21\/op=22\/op=29
 .rw[dT0 h5,if_pos h5];rfl
 rw[dF0 h5,if_neg h5,r6];by_cases h6:op=14\/op=19\/op=20\/op=26\/op=27
 .rw[dT0 h6,if_pos h6];rfl
 rw[dF0 h6,if_neg h6,r7]
end Go.Proofs.YtmkmofdnmllioaaGreatDoor
/- QA -/
namespace Go.Proofs.YtmkmofdnmllioaaGreatDoor
open Go Go.Ev Go.Lib
open Go.IntKind (i64 u64 u8 i32 u32 i16 u16)
theorem bzc (e:Int):okU (vE e):=⟨⟨.inr (.inr (.inr (.inr ⟨e,rfl⟩))),by simp[vE],I0⟩,fun h=>absurd rfl h⟩
theorem gzL:okU v0:=⟨⟨.inl rfl,by simp[v0],I0⟩,fun _=>rfl⟩
theorem uzS (b:Bool):okU (vT b):=⟨⟨.inr (.inr (.inr (.inl ⟨b,rfl⟩))),by simp[vT],I0⟩,fun _=>by cases b<;>decide +kernel⟩
theorem szr {d:Dec}(h:okd d):okU (vN d):=by
 refine⟨okW_N h,fun _=>?_⟩;obtain⟨M,S⟩:=d;have hm':I64 M:=h.2;obtain⟨s,rfl⟩:=Int.eq_ofNat_of_zero_le h.1.1;have hs:s<=9:=by have:=h.1.2.1;simp only at this;omega
 have e:texR (vN ⟨M,(s:Int)⟩)=fzF M s:=by
  unfold texR dz7 vN;simp[qzl hm' hs]
 have:=sz1 hm' hs;rw[e];exact zzW this.2 (by omega)
theorem hzt {r:Dec×Int}(h:okR r):okU (numV r):=by
 unfold numV;by_cases c:r.2=0
 .rw[if_pos c];exact szr (h.1 c)
 .rw[if_neg c];split<;>exact bzc _
theorem okU_I {n:Int}(h:I64 n):okU (vN ⟨n,0⟩):=szr (okdI h)
theorem encU_len {r:Int}(h:bzK r):(Lib.encodeRune r).length<=3*(if r<65536 then 1 else 2):=by
 obtain⟨n,rfl⟩:=Int.eq_ofNat_of_zero_le (show 0<=r by unfold bzK at h;omega);rw[encZ n h];split
 .simp only[List.length_singleton];split<;>omega
 split
 .simp only[List.length_cons,List.length_nil];split<;>omega
 split
 .simp only[List.length_cons,List.length_nil];split<;>omega
 .rw[if_neg (by omega)];simp only[List.length_cons,List.length_nil];omega
theorem Gzw:∀{l:List Int},(∀r∈l,bzK r)->(encs l).length<=3*ulen l
 | [],_=>by simp[encs]
 | r::l,h=>by
  have ih:=Gzw (l:=l) (fun x hx=>h x (by simp[hx]));have h1:=encU_len (h r (by simp));unfold encs at ih ⊢;rw[List.flatMap_cons,List.length_append];unfold ulen;omega
theorem okU_S {x:List UInt8}(h:(az5 x).2=0):okU (vS x):=by
 have hv:validD x=true:=by
  cases e:validD x with
  | true=>rfl
  | false=>unfold az5 at h;rw[e]at h;simp at h
 have hu:ulen (rs x)<=1000:=by
  unfold az5 at h;rw[if_pos hv]at h;split at h
  .simp at h
  .omega
 have hl:x.length<=3000:=by
  have h1:=Gzw (rzJ x.length x (Nat.le_refl _));have h2:=tzs x.length x (Nat.le_refl _) hv;rw[h2]at h1;omega
 exact⟨⟨.inr (.inr (.inl ⟨x,rfl,hv⟩)),hl,I0⟩,fun _=>h⟩
theorem rzm (x:List UInt8):okU (czD x):=by
 unfold czD;by_cases h:(az5 x).2=0
 .rw[if_pos h];exact okU_S h
 .rw[if_neg h];exact bzc _
theorem izP {v:Val}(h:okU v):okU (numR v).2.1:=by
 have hw:=h.1;obtain⟨hv,hl,hm⟩:=hw;rcases hv with rfl|⟨d,rfl,hd⟩|⟨s,rfl,hs⟩|⟨t,rfl⟩|⟨e,rfl⟩
 .exact gzL
 .exact gzL
 .have hl:s.length<=3000:=hl;unfold numR bzd vS azm;simp[BzC (x:=s) (by omega)];by_cases h:(fzl s).2=0<;>simp[h]
  .exact gzL
  .exact bzc 15
 .cases t<;>exact gzL
 .exact bzc e
theorem CzB {v:Val}(h:okU v):okU (truR v).2.1:=by
 have hw:=h.1;obtain⟨hv,hl,hm⟩:=hw;rcases hv with rfl|⟨d,rfl,hd⟩|⟨s,rfl,hs⟩|⟨t,rfl⟩|⟨e,rfl⟩
 .exact gzL
 .exact gzL
 .unfold truR czl vS azm;by_cases h1:s=[84,82,85,69]
  .simp[h1];exact gzL
  .by_cases h2:s=U8s [70,65,76,83,69]
   .simp[h2];exact gzL
   .simp[h1,h2];exact bzc 15
 .exact gzL
 .exact bzc e
theorem worR_bad {v:Val}(h:okU v):okU (worR v).2.1:=by
 by_cases h4:v.Kind=4
 .rw[(czg h.1).1 h4];exact h
 .rw[(czg h.1).2 h4];exact gzL
theorem amt_bad {v:Val}{lo:Int}{f:Val}(h:okU v)(e:amt v lo = .inr f):okU f:=by
 unfold amt at e;by_cases c:(numR v).2.2=true
 .rw[if_pos c]at e;split at e
  .cases e
  .cases e;exact bzc 15
 .rw[if_neg c]at e;cases e;exact izP h
theorem Izh {k:Int}{vs:List Val}{f:Val}(h:∀v∈vs,okU v)(e:dzD k vs = .inr f):okU f:=by
 have:∀(vs:List Val) (s:List Int×Nat),(∀v∈vs,okU v)->azo (amtS k) (fun x=>(.inl x.1:List Int⊕Val)) s vs = .inr f->okU f:=by
  intro vs;induction vs with
  | nil=>intro s _ e;simp only[azo]at e;cases e
  | cons v vs ih =>
   intro s hv e;simp only[azo]at e;cases c:amt v (ezl k s.2)with
   | inl m=>unfold amtS at e;rw[c]at e;exact ih _ (fun w hw=>hv w (by simp[hw])) e
   | inr g=>unfold amtS at e;rw[c]at e;cases e;exact amt_bad (hv v (by simp)) c
 exact this vs _ h e
theorem okA_of {l:List Arg}(h:∀a∈l,∀v∈a.L,okU v):∀v∈l.map fst1,okU v:=by
 intro v hv;obtain⟨a,ha,rfl⟩:=List.mem_map.1 hv;unfold fst1;cases e:a.L with
 | nil=>exact gzL
 | cons x xs=>exact h a ha x (by rw[e];simp)
theorem ozD {a:Arg}(h:∀v∈a.L,okU v):okU (fst1 a):=okA_of (l:=[a]) (fun b hb v hv=>by rw[List.mem_singleton.1 hb]at hv;exact h v hv) _ (by simp)
theorem Jzq {area:Bool}{f:Val}:∀{l:List Val} {acc:List Dec},(∀v∈l,okU v)->numL area acc l = .inr f->okU f
 | [],_,_,e=>by simp only[numL,azo]at e;cases e
 | v::l,acc,h,e=>by
  simp only[numL,azo]at e;cases c:dzV area acc v with
  | inl acc'=>rw[c]at e;exact Jzq (l:=l) (fun w hw=>h w (by simp[hw])) e
  | inr y =>
   rw[c]at e;unfold dzV at c;cases hs:szO area v with
   | true=>rw[hs,cond_true]at c;cases c
   | false =>
    rw[hs,cond_false]at c;cases hn:(numR v).2.2 with
    | true=>rw[hn,cond_true]at c;cases c
    | false=>rw[hn,cond_false]at c;cases c;cases e;exact izP (h v (by simp))
theorem Jzp {f:Val}:∀{l:List Arg} {acc:List Dec},(∀a∈l,∀v∈a.L,okU v)->numA acc l = .inr f->okU f
 | [],_,_,e=>by simp only[numA,azo]at e;cases e
 | a::l,acc,h,e=>by
  simp only[numA,azo]at e;cases c:numL a.Area acc a.L with
  | inl acc'=>rw[c]at e;exact Jzp (l:=l) (fun b hb=>h b (by simp[hb])) e
  | inr y=>rw[c]at e;cases e;exact Jzq (h a (by simp)) c
theorem Gz6 {area:Bool}{f:Val}:∀{l:List Val} {acc:List Bool},(∀v∈l,okU v)->truL area acc l = .inr f->okU f
 | [],_,_,e=>by simp only[truL,azo]at e;cases e
 | v::l,acc,h,e=>by
  simp only[truL,azo]at e;cases c:truS area acc v with
  | inl acc'=>rw[c]at e;exact Gz6 (l:=l) (fun w hw=>h w (by simp[hw])) e
  | inr y =>
   rw[c]at e;unfold truS at c;cases hs:vzk area v with
   | true=>rw[hs,cond_true]at c;cases c
   | false =>
    rw[hs,cond_false]at c;cases hn:(truR v).2.2 with
    | true=>rw[hn,cond_true]at c;cases c
    | false=>rw[hn,cond_false]at c;cases c;cases e;exact CzB (h v (by simp))
theorem Gz5 {f:Val}:∀{l:List Arg} {acc:List Bool},(∀a∈l,∀v∈a.L,okU v)->truA acc l = .inr f->okU f
 | [],_,_,e=>by simp only[truA,azo]at e;cases e
 | a::l,acc,h,e=>by
  simp only[truA,azo]at e;cases c:truL a.Area acc a.L with
  | inl acc'=>rw[c]at e;exact Gz5 (l:=l) (fun b hb=>h b (by simp[hb])) e
  | inr y=>rw[c]at e;cases e;exact Gz6 (h a (by simp)) c
theorem Izu {f:List UInt8×Val}:∀{l:List Val} {s:List UInt8},(∀v∈l,okU v)->conL s l = .inr f->okU f.2
 | [],_,_,e=>by simp only[conL,azo]at e;cases e
 | v::l,s,h,e=>by
  simp only[conL,azo]at e;cases hn:(worR v).2.2 with
  | true=>rw[show conS s v = .inl (s++(worR v).1) by unfold conS;rw[hn];rfl]at e;exact Izu (l:=l) (fun w hw=>h w (by simp[hw])) e
  | false=>rw[show conS s v = .inr (.inr (s,(worR v).2.1)) by unfold conS;rw[hn];rfl]at e;cases e;exact worR_bad (h v (by simp))
theorem Izs {f:List UInt8×Val}:∀{l:List Arg} {s:List UInt8},(∀a∈l,∀v∈a.L,okU v)->conA s l = .inr f->okU f.2
 | [],_,_,e=>by simp only[conA,azo]at e;cases e
 | a::l,s,h,e=>by
  simp only[conA,azo]at e;cases c:conL s a.L with
  | inl acc'=>rw[c]at e;exact Izs (l:=l) (fun b hb=>h b (by simp[hb])) e
  | inr y=>rw[c]at e;cases e;exact Izu (h a (by simp)) c
theorem Az4 {f:Dec->Dec->Dec}(hf:∀{x y},okd x->okd y->okd (f x y)):∀{l:List Dec} {x:Dec},okd x->(∀d∈l,okd d)->okd (l.foldl f x)
 | [],_,h,_=>h
 | y::l,x,h,hl=>Az4 hf (l:=l) (hf h (hl y (by simp))) (fun d hd=>hl d (by simp[hd]))
theorem divR_ok {a b:Dec}(ha:okd a)(hb:okd b):okR (divR a b):=by
 obtain⟨r,h1,_,h3⟩:=wzU ha hb;unfold divR;rw[h1];exact h3
theorem foldV_ok {op:Int}{x:List Dec}(h:∀d∈x,okd d)(hl:x.length<=1000000):okU (mz9 op x):=by
 unfold mz9;split
 .cases x with
  | nil=>exact szr okd0
  | cons y ys=>exact szr (Az4 FzO (h y (by simp)) fun d hd=>h d (by simp[hd]))
 split
 .cases x with
  | nil=>exact szr okd0
  | cons y ys=>exact szr (Az4 FzN (h y (by simp)) fun d hd=>h d (by simp[hd]))
 have hs:=tz2 (l:=x) okd0;by_cases c:(sumD ⟨0,0⟩ x).2=0
 .rw[if_pos c];split
  .exact szr (hs.1 c)
  .exact hzt (divR_ok (hs.1 c) (okdI (by unfold I64;omega)))
 .rw[if_neg c];exact hzt hs
theorem foldA_ok {op:Int}{l:List Arg}(h:okA l)(hu:∀a∈l,∀v∈a.L,okU v)(hc:I64 (cntA 0 l)):okU (foldA op l):=by
 unfold foldA;split
 .exact okU_I hc
 .cases e:numA [] l with
  | inl x =>
   have h1:=uzQ (fun a ha=>(h.2 a ha).1) e;have h40:=h.1;exact foldV_ok (yzK (fun a ha v hv=>(hu a ha v hv).1) (by simp) e) (by simp only[List.length_nil]at h1;omega)
  | inr v=>exact Jzp hu e
theorem truV_ok {op:Int}{l:List Arg}(hu:∀a∈l,∀v∈a.L,okU v):okU (truV op l):=by
 unfold truV;cases e:truA [] l with
 | inl s=>simp only;split;exact bzc _;exact uzS _
 | inr f=>exact Gz5 hu e
theorem conV_ok {l:List Arg}(hu:∀a∈l,∀v∈a.L,okU v):okU (match conA [] l with | .inl s=>czD s | .inr y=>y.2):=by
 cases e:conA [] l with
 | inl s=>exact rzm s
 | inr f=>exact Izs hu e
theorem uzT {a:Arg}(h:∀v∈a.L,okU v):okU (sing a):=by
 unfold sing;split
 .exact bzc _
 .exact ozD h
theorem cmpV_I (a b:Int):I64 (cmpV a b):=by
 unfold cmpV I64;split
 .omega
 .split<;>omega
theorem modV_okR {a b:Dec}(ha:okd a)(hb:okd b):okR (modV a b):=by
 unfold modV;by_cases h0:b.M=0
 .rw[if_pos h0];exact⟨fun e=>by simp at e,fun _=>rfl⟩
 rw[if_neg h0];simp only;by_cases c:I64 (up a (max a.S.toNat b.S.toNat))/\I64 (up b (max a.S.toNat b.S.toNat))
 .rw[if_pos c];refine⟨fun _=>⟨Jzr _ _ (by have:=ha.1.2.1;have:=hb.1.2.1;omega),?_⟩,fun e=>absurd rfl e⟩;have h1:=(fm_ok (up a (max a.S.toNat b.S.toNat)) (Gzg (p:=max a.S.toNat b.S.toNat) h0)).1;have h2:=yzj (max a.S.toNat b.S.toNat) (fm (up a (max a.S.toNat b.S.toNat)) (up b (max a.S.toNat b.S.toNat)));have h3:=c.2;unfold I64 at h3 ⊢;simp only;omega
 .rw[if_neg c];exact⟨fun e=>by simp at e,fun _=>rfl⟩
theorem recV_ok {k:Int}{x y:Dec}(hx:okd x)(hy:okd y):okU (recV k x y):=by
 unfold recV;split
 .split
  .exact hzt (izF _ (by omega))
  .exact szr hx
 split
 .exact okU_I (cmpV_I _ _)
 split
 .obtain⟨r,h1,_,h3⟩:=IzN hx;unfold floR;rw[h1];exact hzt h3
 split
 .exact hzt (modV_okR hx hy)
 split
 .obtain⟨r,h1,_,h3⟩:=round_eq (t:=y.M) hx;have e:=sz0 (t:=y.M) hx.2 hx.1;rw[h1]at e;cases e;exact hzt h3
 .exact bzc _
theorem red_bad {f:Val}:∀{vs:List Val} {s:List Dec},(∀v∈vs,okU v)->azo redS (.inl:List Dec->List Dec⊕Val) s vs = .inr f->okU f
 | [],_,_,e=>by simp only[azo]at e;cases e
 | v::l,s,h,e=>by
  simp only[azo]at e;cases hn:(numR v).2.2 with
  | true=>rw[show redS s v = .inl (s++[(numR v).1]) by unfold redS;rw[hn];rfl]at e;exact red_bad (vs:=l) (fun w hw=>h w (by simp[hw])) e
  | false=>rw[show redS s v = .inr (.inr (numR v).2.1) by unfold redS;rw[hn];rfl]at e;cases e;exact izP (h v (by simp))
theorem recL_ok {k:Int}{vs:List Val}(h:∀v∈vs,okU v):okU (recL k vs):=by
 unfold recL;cases e:azo redS (.inl:List Dec->List Dec⊕Val) [] vs with
 | inr f=>exact red_bad h e
 | inl ds =>
  have hd:=(FzS (fun v hv=>(h v hv).1) (by simp) e).1
  match ds,hd with
  | [],_=>exact gzL
  | [x],hd=>exact recV_ok (hd x (by simp)) okd0
  | x::y::_,hd=>exact recV_ok (hd x (by simp)) (hd y (by simp))
theorem askV_ok {k:Int}{v:Val}(h:okU v):okU (askV k v):=by
 unfold askV;split
 .split
  .exact uzS _
  .exact CzB h
 split
 .exact uzS _
 split
 .exact uzS _
 .refine okU_I ?_;unfold typeN I64
  repeat (split;omega)
  omega
theorem reptV_ok (s:List UInt8)(n:Int):okU (szJ s n):=by
 unfold szJ
 repeat' split
 all_goals first|exact rzm _|exact bzc _
theorem pieceV_ok (k:Int)(s:List UInt8)(ns:List Int):okU (jzd k s ns):=by
 unfold jzd;simp only
 repeat' split
 all_goals exact rzm _
theorem unitsV_I (s:List UInt8):I64 (az5 s).1:=by
 unfold az5 I64;split
 .split
  .simp
  .simp only;omega
 .simp
theorem wordV_ok {k:Int}{v:Val}{vs:List Val}(h:okU v)(hs:∀w∈vs,okU w):okU (dzy k v vs):=by
 have hh:okU (vs.headD v0):=by
  cases vs with
  | nil=>exact gzL
  | cons w ws=>exact hs w (by simp)
 unfold dzy;split
 .exact h
 split
 .exact okU_I (unitsV_I _)
 split
 .exact rzm _
 split
 .split
  .exact hh
  .exact uzS _
 split
 .cases e:dzD k vs with
  | inl ns=>exact reptV_ok _ _
  | inr f=>exact Izh hs e
 .cases e:dzD k vs with
  | inl ns=>exact pieceV_ok _ _ _
  | inr f=>exact Izh hs e
theorem Gzl {k:Int}{l:List Arg}(hu:∀a∈l,∀v∈a.L,okU v):okU (gzw k l):=by
 unfold gzw;have hf:=okA_of hu;split
 .refine wordV_ok ?_ fun w hw=>hf w (List.mem_of_mem_tail hw)
  cases l with
  | nil=>exact gzL
  | cons a t=>exact hf (fst1 a) (by simp)
 .exact bzc _
theorem ifV_ok {a b:Arg}{c:Val}(ha:∀v∈a.L,okU v)(hb:∀v∈b.L,okU v)(hc:okU c):okU (ifV a b c):=by
 unfold ifV;split
 .exact bzc _
 split
 .split
  .exact uzT hb
  .exact hc
 .exact CzB (ozD ha)
theorem iferrV_ok {a b:Arg}(ha:∀v∈a.L,okU v)(hb:∀v∈b.L,okU v):okU (xze a b):=by
 unfold xze;split
 .exact bzc _
 split
 .exact uzT hb
 .exact ozD ha
theorem indexV_ok {a b:Arg}(ha:∀v∈a.L,okU v)(hb:∀v∈b.L,okU v):okU (tzF a b):=by
 unfold tzF;split
 .split
  .exact bzc _
  split
  .split
   .split
    .rw[List.getD_eq_getElem?_getD];cases e:a.L[((numR (fst1 b)).1.M-1).toNat]? with
     | none=>exact gzL
     | some v=>exact ha v (List.mem_of_getElem? e)
    .exact bzc _
   .exact bzc _
  .exact izP (ozD hb)
 .exact bzc _
theorem Lzv {a:Arg}{l:List Arg}(ha:∀v∈a.L,okU v)(hl:∀b∈l,∀v∈b.L,okU v):okU (tzn a l):=by
 unfold tzn;split
 .exact bzc _
 split
 .split
  .refine uzT ?_;rw[List.getD_eq_getElem?_getD];cases e:l[(numR (fst1 a)).1.M.toNat]? with
   | none=>intro v hv;simp[noA]at hv
   | some b=>exact hl b (List.mem_of_getElem? e)
  .exact bzc _
 .exact izP (ozD ha)
theorem BzD {a:Dec}(ha:okd a):∀{l:List Unit} {s:Dec} {y:(Dec×Int)×Dec},okd s->azo (powS a) (.inl:Dec->Dec⊕((Dec×Int)×Dec)) s l = .inr y->okR y.1
 | [],_,_,_,h=>by simp only[azo]at h;cases h
 | u::l,s,y,hs,h=>by
  simp only[azo]at h;cases hst:powS a s u with
  | inl s'=>rw[hst]at h;exact BzD ha (l:=l) (yzL ha hs hst) h
  | inr z =>
   rw[hst]at h;unfold powS at hst;simp only at hst;by_cases h0:(mulR s a).2=0
   .rw[dT0 h0,cond_true]at hst;cases hst
   .rw[dF0 h0,cond_false]at hst;cases hst;cases h;exact(yzG hs ha).2.2
theorem powU_eq {a b:Dec}(ha:okd a):∃v,qzq (a,b)=some v/\nzF (a,b)=some v/\okU v:=by
 unfold qzq nzF kzu;simp only[dzj,az7,aza];by_cases h0:b.S=0
 .rw[dT0 h0];simp only[Bool.not_true,azb,azc];by_cases h1:b.M < -64
  .rw[dT0 h1,dF0 (show ¬ -64<=b.M by omega)];exact⟨_,rfl,rfl,bzc _⟩
  rw[dF0 h1,dT0 (show -64<=b.M by omega)];simp only[azc,azb,aza];by_cases h2:64<b.M
  .rw[dT0 h2,dF0 (show ¬b.M<=64 by omega)];exact⟨_,rfl,rfl,bzc _⟩
  rw[dF0 h2,dT0 (show b.M<=64 by omega)];simp only[Bool.not_true,azb];rw[show bzH 1=some ⟨1,0⟩ from rfl,aza,azi (n:=0-b.M) (by omega) (by omega)];have hd:=fold_ok ha (List.replicate b.M.natAbs ()) ⟨1,0⟩;have i1:I64 1:=by unfold I64;omega
  by_cases h3:b.M<0
  .rw[dT0 (show b.M<0-b.M by omega),dT0 h3];simp only[cond_true,azc];rw[show 0-b.M=((b.M.natAbs:Nat):Int) by omega,pow_l1 _ ha (by omega),GzR _ ha (by omega)];unfold powX;cases hx:azo (powS a) .inl ⟨1,0⟩ (List.replicate b.M.natAbs ())with
   | inl d =>
    obtain⟨r,e1,e2,e3⟩:=wzU (okdI i1) (hd d (okdI i1) hx);simp only[aza,osum];rw[e1,e2];simp only[aza];rw[czA,czH];exact⟨_,rfl,rfl,hzt e3⟩
   | inr y=>exact⟨_,rfl,rfl,hzt (BzD ha (okdI i1) hx)⟩
  .rw[dF0 (show ¬b.M<0-b.M by omega),dF0 h3];simp only[cond_false,azb];rw[show b.M=((b.M.natAbs:Nat):Int) by omega,pow_l1 _ ha (by omega),GzR _ ha (by omega)];unfold powX;cases hx:azo (powS a) .inl ⟨1,0⟩ (List.replicate b.M.natAbs ())with
   | inl d =>
    simp only[aza,osum];rw[czA,rzl];exact⟨_,rfl,rfl,hzt ⟨fun _=>hd d (okdI i1) hx,fun e=>absurd rfl e⟩⟩
   | inr y=>exact⟨_,rfl,rfl,hzt (BzD ha (okdI i1) hx)⟩
 .rw[dF0 h0];exact⟨_,rfl,rfl,bzc _⟩
theorem binU_eq {op:Int}{a b:Val}(ua:okU a)(ub:okU b):∃v,oz7 (op,a,b)=some v/\lzT (op,a,b)=some v/\okU v:=by
 unfold oz7 lzT ozi mzm;simp only[dzj,az7,aza];have ha:=ua.1;have hb:=ub.1;by_cases h1:a.Kind=4
 .rw[dT0 h1];exact⟨_,rfl,rfl,ua⟩
 by_cases h2:b.Kind=4
 .rw[dF0 h1,dT0 h2];exact⟨_,rfl,rfl,ub⟩
 rw[dF0 h1,dF0 h2];by_cases h3:op<1
 .rw[dT0 h3];exact⟨_,rfl,rfl,bzc _⟩
 by_cases h4:12<op
 .rw[dF0 h3,dT0 h4];exact⟨_,rfl,rfl,bzc _⟩
 rw[dF0 h3,dF0 h4];simp only[azb,aza];by_cases h5:op=6
 .subst h5;obtain⟨x1,x2⟩:=tex_eq ha;obtain⟨y1,y2⟩:=tex_eq hb;have l1:=(nzV ha h1).1;have l2:=(nzV hb h2).1;rw[x1,x2,y1,y2];simp only[aza];rw[catS (by omega)];simp only[aza];rw[ozW (by rw[List.length_append];omega),mzj (by rw[List.length_append];omega)];exact⟨_,rfl,rfl,rzm _⟩
 rw[dF0 h5,azb];by_cases h6:6<op
 .obtain⟨r,e1,e2⟩:=Lzw ha.1 hb.1 ha.2.1 hb.2.1 ha.2.2 hb.2.2;rw[dT0 h6,dT0 (show 7<=op by omega),azc,azc,e1,e2];simp only[aza];rcases(show op=7\/op=8\/op=9\/op=10\/op=11\/op=12 by omega)with rfl|rfl|rfl|rfl|rfl|rfl<;>exact⟨_,rfl,rfl,uzS _⟩
 rw[dF0 h6,dF0 (show ¬7<=op by omega),azb,azb];simp only[osum,azb,aza];obtain⟨x1,x2⟩:=ezX ha;obtain⟨y1,y2⟩:=ezX hb;have o1:=jzb ha;have o2:=jzb hb;rw[x1,x2,y1,y2];simp only[aza];cases(numR a).2.2 with
 | false=>exact⟨_,rfl,rfl,izP ua⟩
 | true =>
  cases(numR b).2.2 with
  | false=>exact⟨_,rfl,rfl,izP ub⟩
  | true =>
   simp only[Bool.not_true,azb];rcases(show op=1\/op=2\/op=3\/op=4\/op=5 by omega)with rfl|rfl|rfl|rfl|rfl
   .obtain⟨r,e1,e2,e3⟩:=add_eq o1 o2;rw[e1,e2];simp only[aza];rw[czA,czH];exact⟨_,rfl,rfl,hzt e3.1⟩
   .obtain⟨r,e1,e2,e3⟩:=sub_eq o1 o2;rw[e1,e2];simp only[aza];rw[czA,czH];exact⟨_,rfl,rfl,hzt e3.1⟩
   .obtain⟨r,e1,e2,e3⟩:=mul_eq o1 o2;rw[e1,e2];simp only[aza];rw[czA,czH];exact⟨_,rfl,rfl,hzt e3⟩
   .obtain⟨r,e1,e2,e3⟩:=wzU o1 o2;rw[e1,e2];simp only[aza];rw[czA,czH];exact⟨_,rfl,rfl,hzt e3⟩
   .obtain⟨r,e1,e2,e3⟩:=powU_eq (b:=(numR b).1) o1;rw[e1,e2];exact⟨_,rfl,rfl,e3⟩
theorem unU_eq {op:Int}{a:Val}(ua:okU a):∃v,qzp (op,a)=some v/\nzC (op,a)=some v/\okU v:=by
 unfold qzp nzC;simp only[dzj,az7,aza];have ha:=ua.1;by_cases h1:op=2
 .rw[dT0 h1];exact⟨_,rfl,rfl,ua⟩
 rw[dF0 h1,azb,azb];obtain⟨x1,x2⟩:=ezX ha;have o1:=jzb ha;rw[x1,x2];simp only[aza];by_cases h2:op=1
 .subst h2;simp only[decide_true,Bool.not_true,azb,azc];cases(numR a).2.2 with
  | false=>exact⟨_,rfl,rfl,izP ua⟩
  | true =>
   obtain⟨r,e1,e2,e3⟩:=sub_eq okd0 o1;rw[show bzH 0=some ⟨0,0⟩ from rfl];simp only[aza];rw[e1,e2];simp only[aza];rw[czA,czH];exact⟨_,rfl,rfl,hzt e3.1⟩
 rw[dF0 h2];simp only[Bool.not_false,azc];by_cases h3:op=3
 .subst h3;simp only[decide_true,Bool.not_true,azb];cases(numR a).2.2 with
  | false=>exact⟨_,rfl,rfl,izP ua⟩
  | true =>
   obtain⟨r,e1,e2,e3⟩:=wzU o1 (okdI (show I64 100 by unfold I64;omega));rw[show bzH 100=some ⟨100,0⟩ from rfl];simp only[Bool.not_true,azb,aza];rw[e1,e2];simp only[aza];rw[czA,czH];exact⟨_,rfl,rfl,hzt e3⟩
 rw[dF0 h3];exact⟨_,rfl,rfl,bzc _⟩
end Go.Proofs.YtmkmofdnmllioaaGreatDoor
/- E2 -/
namespace Go.Proofs.YtmkmofdnmllioaaGreatDoor
open Go Go.Ev
open Go.IntKind (i64 u64 u8 i32 u32 i16 u16)
set_option linter.unusedVariables false
noncomputable section
def dzN (self:Expr×Int×Int×Int->Option ((Bool)×Int)):FSpec tb:=⟨[(0,.val 32),(1,.val 3),(2,.val 3),(3,.ref 3)],[(0,.val 4)],self⟩
abbrev uzH (self:Expr×Int×Int×Int->Option ((Bool)×Int)):List (Nat×FSpec tb):=[(39,(dzN self))]
theorem vzK (self:Expr×Int×Int×Int->Option ((Bool)×Int))(hself:azz Tryz.prog tb 39 (dzN self)):azl Tryz.prog tb (uzH self):=(.cons hself .nil)
def gzn (self:Expr×Int×Int×Int->Option ((Bool)×Int))(back:Int×Int×Int×Expr×Int->Option (((Unit)×Int)⊕((Bool)×Int)))(x:Int×Int×Int×Expr×Int):Option (((Unit)×Int)⊕((Bool)×Int)):=brn (decide (x.2.2.2.2<(↑x.2.2.2.1.Kids.length:Int))) (obnd (idx x.2.2.2.1.Kids x.2.2.2.2) fun y=>obnd (self (azy y,i64.wrap (x.1-1),x.2.1,x.2.2.1)) fun y=>brn (!y.1) (some (Sum.inr (false,y.2))) (back (x.1,x.2.1,y.2,azy x.2.2.2.1,i64.wrap (x.2.2.2.2+1)))) (some (Sum.inl ((),x.2.2.1)))
def pzN (self:Expr×Int×Int×Int->Option ((Bool)×Int)):Int×Int×Int×Expr×Int->Option (((Unit)×Int)⊕((Bool)×Int)):=iter (gzn self) big
def iz8 (self:Expr×Int×Int×Int->Option ((Bool)×Int)):CutSpec tb:=⟨52,[(1,.val 3),(2,.val 3),(3,.ref 3),(4,.ro 32),(9,.val 3)],[((.exit 0),[]),(.ret,[(8,.val 4)])],[32,33,34,35,36,39,40,41,42,43,44,45,46,47,48,49,8,37,38,9],(pzN self)⟩
theorem DzD (self:Expr×Int×Int×Int->Option ((Bool)×Int)):∀back x,bzI Tryz.prog tb (uzH self) [] (bzX 52 Tryz.f39) (iz8 self).ins (iz8 self).outs back x=gzn self back x:=fun back x=>by kernel_rfl
theorem FzI (self:Expr×Int×Int×Int->Option ((Bool)×Int)):cutB Tryz.f39.ntmps (iz8 self) (bzX 52 Tryz.f39)=true:=by kernel_rfl
theorem Bzr (self:Expr×Int×Int×Int->Option ((Bool)×Int))(hself:azz Tryz.prog tb 39 (dzN self)):A3 Tryz.f39 52 (iz8 self):=A4 (vzK self hself) .nil (gzn self) (hb:=(FzI self)) (hF:=(DzD self))
def dzM (self:Expr×Int×Int×Int->Option ((Bool)×Int))(x:Expr×Int×Int×Int):Option ((Bool)×Int):=brn (decide (x.2.1=0)) (some (false,i64.wrap (x.2.2.2+1))) (brn (decide (x.2.2.1<i64.wrap (x.2.2.2+1))) (some (false,i64.wrap (x.2.2.2+1))) (brn (decide (3000<(↑x.1.V.S.length:Int))) (some (false,i64.wrap (x.2.2.2+1))) (obnd ((pzN self) (x.2.1,x.2.2.1,i64.wrap (x.2.2.2+1),azy x.1,0)) fun y=>osum y (fun y=>some (true,y.2)) fun y=>some (y.1,y.2))))
theorem Jzc (self:Expr×Int×Int×Int->Option ((Bool)×Int)):∀x,evFn Tryz.prog tb (uzH self) [(iz8 self)] Tryz.f39 (dzN (dzM self)).ins (dzN (dzM self)).outs x=(dzN (dzM self)).f x:=fun x=>by kernel_rfl
theorem KzY (self:Expr×Int×Int×Int->Option ((Bool)×Int)):fnK Tryz.f39 (dzN (dzM self)).ins (dzN (dzM self)).outs=true:=by kernel_rfl
theorem FzJ (self:Expr×Int×Int×Int->Option ((Bool)×Int))(hself:azz Tryz.prog tb 39 (dzN self)):A0 39 (dzN (dzM self)):=A2 Tryz.func39 (vzK self hself) (.cons (Bzr self hself) .nil) (hk:=(KzY self)) (hJ:=(Jzc self))
def uzG:Expr×Int×Int×Int->Option ((Bool)×Int):=iter dzM big
def Lz7:FSpec tb:=dzN uzG
theorem DzE:azz Tryz.prog tb 39 Lz7:=szc (fzj Tryz.func39 (by kernel_rfl)) FzJ
def izO (x:Expr×Int):Option (Bool):=obnd (uzG (azy x.1,40,x.2,0)) fun y=>some y.1
def Dzy:FSpec tb:=⟨[(0,.val 32),(1,.val 3)],[(0,.val 4)],izO⟩
theorem szj:A0 22 Dzy:=A1 Tryz.func22 (.cons DzE .nil)
abbrev Lz8:List (Nat×FSpec tb):=[(22,Dzy)]
theorem pzO:azl Tryz.prog tb (Lz8):=(.cons szj .nil)
def iz9 (back:Env×Int->Option ((Unit)⊕(Bool)))(x:Env×Int):Option ((Unit)⊕(Bool)):=brn (decide (x.2<(↑x.1.Slots.length:Int))) (obnd (idx x.1.Slots x.2) fun y=>brn (decide (3000<(↑y.V.S.length:Int))) (some (Sum.inr false)) (back (x.1,i64.wrap (x.2+1)))) (some (Sum.inl PUnit.unit))
def pzP:Env×Int->Option ((Unit)⊕(Bool)):=iter iz9 big
def Hzz:CutSpec tb:=⟨44,[(1,.ro 35),(3,.val 3)],[((.exit 0),[]),(.ret,[(2,.val 4)])],[15,16,17,18,19,22,23,24,25,26,27,28,29,30,2,20,21,3],pzP⟩
theorem Bzs:A3 Tryz.f23 44 Hzz:=A4 pzO .nil iz9
def jza (back:Env×Int->Option ((Unit)⊕(Bool)))(x:Env×Int):Option ((Unit)⊕(Bool)):=brn (decide (x.2<(↑x.1.Names.length:Int))) (obnd (idx x.1.Names x.2) fun y=>obnd (izO (azy y,200)) fun y=>brn (!y) (some (Sum.inr false)) (back (x.1,i64.wrap (x.2+1)))) (some (Sum.inl PUnit.unit))
def pzQ:Env×Int->Option ((Unit)⊕(Bool)):=iter jza big
def HzA:CutSpec tb:=⟨84,[(1,.ro 35),(4,.val 3)],[((.exit 2),[]),(.ret,[(2,.val 4)])],[31,32,33,34,35,38,39,40,41,42,43,44,2,36,37,4],pzQ⟩
theorem Bzt:A3 Tryz.f23 84 HzA:=A4 pzO .nil jza
def qzu (x:Env):Option (Bool):=brn (decide (60<(↑x.Slots.length:Int))) (some false) (brn (decide (20<(↑x.Names.length:Int))) (some false) (obnd (pzP (x,0)) fun y=>osum y (fun y=>obnd (pzQ (x,0)) fun y=>osum y (fun y=>some true) fun y=>some y) fun y=>some y))
def Lz9:FSpec tb:=⟨[(0,.val 35)],[(0,.val 4)],qzu⟩
theorem DzF:A0 23 Lz9:=A2 Tryz.func23 pzO (.cons Bzs (.cons Bzt .nil))
def hzX (self:Expr->Option (Int)):FSpec tb:=⟨[(0,.val 32)],[(0,.val 3)],self⟩
abbrev JzE (self:Expr->Option (Int)):List (Nat×FSpec tb):=[(40,(hzX self))]
theorem szz (self:Expr->Option (Int))(hself:azz Tryz.prog tb 40 (hzX self)):azl Tryz.prog tb (JzE self):=(.cons hself .nil)
def gzP (self:Expr->Option (Int))(back:Expr×Int×Int->Option (Int))(x:Expr×Int×Int):Option (Int):=brn (decide (x.2.2<(↑x.1.Kids.length:Int))) (obnd (idx x.1.Kids x.2.2) fun y=>obnd (self (azy y)) fun y=>brn (decide (x.2.1<y)) (back (azy x.1,y,i64.wrap (x.2.2+1))) (back (azy x.1,x.2.1,i64.wrap (x.2.2+1)))) (some x.2.1)
def nzA (self:Expr->Option (Int)):Expr×Int×Int->Option (Int):=iter (gzP self) big
def Eza (self:Expr->Option (Int)):CutSpec tb:=⟨36,[(1,.ro 32),(3,.val 3),(4,.val 3)],[((.exit 0),[(3,.val 3)])],[6,7,8,9,10,13,14,15,16,17,18,5,19,20,21,22,3,11,12,4],(nzA self)⟩
theorem xzR (self:Expr->Option (Int))(hself:azz Tryz.prog tb 40 (hzX self)):A3 Tryz.f40 36 (Eza self):=A4 (szz self hself) .nil (gzP self)
def hzW (self:Expr->Option (Int))(x:Expr):Option (Int):=obnd ((nzA self) (azy x,0,0)) fun y=>some (i64.wrap (y+1))
theorem BzG (self:Expr->Option (Int))(hself:azz Tryz.prog tb 40 (hzX self)):A0 40 (hzX (hzW self)):=A2 Tryz.func40 (szz self hself) (.cons (xzR self hself) .nil)
def rzt:Expr->Option (Int):=iter hzW big
def JzF:FSpec tb:=hzX rzt
theorem zzj:azz Tryz.prog tb 40 JzF:=szc (fzj Tryz.func40 (by kernel_rfl)) BzG
def hzV (self:Expr->Option (Int)):FSpec tb:=⟨[(0,.val 32)],[(0,.val 3)],self⟩
abbrev JzC (self:Expr->Option (Int)):List (Nat×FSpec tb):=[(41,(hzV self))]
theorem szy (self:Expr->Option (Int))(hself:azz Tryz.prog tb 41 (hzV self)):azl Tryz.prog tb (JzC self):=(.cons hself .nil)
def gzO (self:Expr->Option (Int))(back:Expr×Int×Int->Option (Int))(x:Expr×Int×Int):Option (Int):=brn (decide (x.2.2<(↑x.1.Kids.length:Int))) (obnd (idx x.1.Kids x.2.2) fun y=>obnd (self (azy y)) fun y=>back (azy x.1,i64.wrap (x.2.1+y),i64.wrap (x.2.2+1))) (some x.2.1)
def nzz (self:Expr->Option (Int)):Expr×Int×Int->Option (Int):=iter (gzO self) big
def Dz9 (self:Expr->Option (Int)):CutSpec tb:=⟨36,[(1,.ro 32),(3,.val 3),(4,.val 3)],[((.exit 0),[(3,.val 3)])],[5,6,7,8,9,12,13,14,15,16,17,18,19,3,10,11,4],(nzz self)⟩
theorem xzQ (self:Expr->Option (Int))(hself:azz Tryz.prog tb 41 (hzV self)):A3 Tryz.f41 36 (Dz9 self):=A4 (szy self hself) .nil (gzO self)
def hzU (self:Expr->Option (Int))(x:Expr):Option (Int):=obnd ((nzz self) (azy x,1,0)) fun y=>some y
theorem BzF (self:Expr->Option (Int))(hself:azz Tryz.prog tb 41 (hzV self)):A0 41 (hzV (hzU self)):=A2 Tryz.func41 (szy self hself) (.cons (xzQ self hself) .nil)
def rzs:Expr->Option (Int):=iter hzU big
def JzD:FSpec tb:=hzV rzs
theorem zzi:azz Tryz.prog tb 41 JzD:=szc (fzj Tryz.func41 (by kernel_rfl)) BzF
def rzB (x:Int):Option (Bool×Int×Bool×Bool×Int):=brn (decide (x=1)) (some (true,0,false,false,0)) (brn (decide (x=2)) (some (false,1,false,false,0)) (brn (decide (x=3)) (some (false,2,false,false,0)) (brn (decide (x=4)) (some (false,1,true,false,0)) (brn (decide (x=5)) (some (false,2,true,false,0)) (brn (decide (x=6)) (some (false,0,false,true,0)) (brn (decide (x=7)) (some (false,0,false,true,1)) (brn (decide (x=8)) (some (false,0,false,true,2)) (brn (decide (x=9)) (some (false,0,false,true,-1)) (some (false,0,false,false,1))))))))))
def xz3:FSpec tb:=⟨[(0,.val 3)],[(0,.val 4),(1,.val 3),(2,.val 4),(3,.val 4),(4,.val 3)],rzB⟩
theorem zzD:A0 107 xz3:=A1 Tryz.func107 .nil
def gz6 (x:Cell):Option (Bool):=brn (decide (0<=x.Row)) (brn (decide (x.Row<65536)) (brn (decide (0<=x.Col)) (some (decide (x.Col<256))) (some false)) (some false)) (some false)
def Kz4:FSpec tb:=⟨[(0,.val 59)],[(0,.val 4)],gz6⟩
theorem rzu:A0 67 Kz4:=A1 Tryz.func67 .nil
def gzN (x:Ref):Option (Int):=obnd (gz6 {Row:=x.Row,Col:=x.Col}) fun y=>brn (!y) (some 12) (some 0)
def Dz7:FSpec tb:=⟨[(0,.val 27)],[(0,.val 3)],gzN⟩
theorem uzY:A0 164 Dz7:=A1 Tryz.func164 (.cons rzu .nil)
def dzk (x:Area):Option (Int):=obnd (gzN x.A) fun y=>brn (!decide (y=0)) (some 12) (obnd (gzN x.B) fun y=>some y)
def rzq:FSpec tb:=⟨[(0,.val 29)],[(0,.val 3)],dzk⟩
theorem tzQ:A0 108 rzq:=A1 Tryz.func108 (.cons uzY .nil)
abbrev Kz5:List (Nat×FSpec tb):=[(107,xz3),(44,nzx),(108,rzq)]
theorem fzt:azl Tryz.prog tb (Kz5):=(.cons zzD (.cons nzy (.cons tzQ .nil)))
def ozF (x:Expr):Option (Bool):=brn (decide (x.Kind<1)) (some true) (some (decide (10<x.Kind)))
def FzW:CutSpec tb:=⟨16,[(1,.ro 32)],[(.normal,[(18,.val 4)])],[11,12,13,14,15,16,17,18],(ozF)⟩
theorem zzr:A5 Tryz.f66 16 FzW:=A6 fzt .nil
def kzX (x:Expr×Bool×Int×Bool×Bool×Int):Option (Bool):=brn (!x.2.1) (brn (bif true then !(decide (x.1.V.Kind=0)&&(decide (x.1.V.N.M=0)&&(decide (x.1.V.N.S=0)&&(decide (x.1.V.S=[])&&(decide (x.1.V.B=false)&&decide (x.1.V.E=0))))))else decide (x.1.V.Kind=0)&&(decide (x.1.V.N.M=0)&&(decide (x.1.V.N.S=0)&&(decide (x.1.V.S=[])&&(decide (x.1.V.B=false)&&decide (x.1.V.E=0)))))) (some true) (brn (decide (x.2.2.1<1)) (brn (bif true then !(decide (x.1.A.A.Row=0)&&(decide (x.1.A.A.Col=0)&&(decide (x.1.A.A.RelRow=false)&&decide (x.1.A.A.RelCol=false))))else decide (x.1.A.A.Row=0)&&(decide (x.1.A.A.Col=0)&&(decide (x.1.A.A.RelRow=false)&&decide (x.1.A.A.RelCol=false)))) (some true) (brn (decide (x.2.2.1<2)) (brn (bif true then !(decide (x.1.A.B.Row=0)&&(decide (x.1.A.B.Col=0)&&(decide (x.1.A.B.RelRow=false)&&decide (x.1.A.B.RelCol=false))))else decide (x.1.A.B.Row=0)&&(decide (x.1.A.B.Col=0)&&(decide (x.1.A.B.RelRow=false)&&decide (x.1.A.B.RelCol=false)))) (some true) (brn (!x.2.2.2.1) (brn (!decide (x.1.Sheet=0)) (some true) (brn (!x.2.2.2.2.1) (brn (!decide (x.1.Op=0)) (some true) (brn (decide (x.2.2.2.2.2=0)) (some (decide (0<(↑x.1.Kids.length:Int)))) (some false))) (brn (decide (x.2.2.2.2.2=0)) (some (decide (0<(↑x.1.Kids.length:Int)))) (some false)))) (brn (!x.2.2.2.2.1) (brn (!decide (x.1.Op=0)) (some true) (brn (decide (x.2.2.2.2.2=0)) (some (decide (0<(↑x.1.Kids.length:Int)))) (some false))) (brn (decide (x.2.2.2.2.2=0)) (some (decide (0<(↑x.1.Kids.length:Int)))) (some false))))) (brn (!x.2.2.2.1) (brn (!decide (x.1.Sheet=0)) (some true) (brn (!x.2.2.2.2.1) (brn (!decide (x.1.Op=0)) (some true) (brn (decide (x.2.2.2.2.2=0)) (some (decide (0<(↑x.1.Kids.length:Int)))) (some false))) (brn (decide (x.2.2.2.2.2=0)) (some (decide (0<(↑x.1.Kids.length:Int)))) (some false)))) (brn (!x.2.2.2.2.1) (brn (!decide (x.1.Op=0)) (some true) (brn (decide (x.2.2.2.2.2=0)) (some (decide (0<(↑x.1.Kids.length:Int)))) (some false))) (brn (decide (x.2.2.2.2.2=0)) (some (decide (0<(↑x.1.Kids.length:Int)))) (some false)))))) (brn (decide (x.2.2.1<2)) (brn (bif true then !(decide (x.1.A.B.Row=0)&&(decide (x.1.A.B.Col=0)&&(decide (x.1.A.B.RelRow=false)&&decide (x.1.A.B.RelCol=false))))else decide (x.1.A.B.Row=0)&&(decide (x.1.A.B.Col=0)&&(decide (x.1.A.B.RelRow=false)&&decide (x.1.A.B.RelCol=false)))) (some true) (brn (!x.2.2.2.1) (brn (!decide (x.1.Sheet=0)) (some true) (brn (!x.2.2.2.2.1) (brn (!decide (x.1.Op=0)) (some true) (brn (decide (x.2.2.2.2.2=0)) (some (decide (0<(↑x.1.Kids.length:Int)))) (some false))) (brn (decide (x.2.2.2.2.2=0)) (some (decide (0<(↑x.1.Kids.length:Int)))) (some false)))) (brn (!x.2.2.2.2.1) (brn (!decide (x.1.Op=0)) (some true) (brn (decide (x.2.2.2.2.2=0)) (some (decide (0<(↑x.1.Kids.length:Int)))) (some false))) (brn (decide (x.2.2.2.2.2=0)) (some (decide (0<(↑x.1.Kids.length:Int)))) (some false))))) (brn (!x.2.2.2.1) (brn (!decide (x.1.Sheet=0)) (some true) (brn (!x.2.2.2.2.1) (brn (!decide (x.1.Op=0)) (some true) (brn (decide (x.2.2.2.2.2=0)) (some (decide (0<(↑x.1.Kids.length:Int)))) (some false))) (brn (decide (x.2.2.2.2.2=0)) (some (decide (0<(↑x.1.Kids.length:Int)))) (some false)))) (brn (!x.2.2.2.2.1) (brn (!decide (x.1.Op=0)) (some true) (brn (decide (x.2.2.2.2.2=0)) (some (decide (0<(↑x.1.Kids.length:Int)))) (some false))) (brn (decide (x.2.2.2.2.2=0)) (some (decide (0<(↑x.1.Kids.length:Int)))) (some false))))))) (brn (decide (x.2.2.1<1)) (brn (bif true then !(decide (x.1.A.A.Row=0)&&(decide (x.1.A.A.Col=0)&&(decide (x.1.A.A.RelRow=false)&&decide (x.1.A.A.RelCol=false))))else decide (x.1.A.A.Row=0)&&(decide (x.1.A.A.Col=0)&&(decide (x.1.A.A.RelRow=false)&&decide (x.1.A.A.RelCol=false)))) (some true) (brn (decide (x.2.2.1<2)) (brn (bif true then !(decide (x.1.A.B.Row=0)&&(decide (x.1.A.B.Col=0)&&(decide (x.1.A.B.RelRow=false)&&decide (x.1.A.B.RelCol=false))))else decide (x.1.A.B.Row=0)&&(decide (x.1.A.B.Col=0)&&(decide (x.1.A.B.RelRow=false)&&decide (x.1.A.B.RelCol=false)))) (some true) (brn (!x.2.2.2.1) (brn (!decide (x.1.Sheet=0)) (some true) (brn (!x.2.2.2.2.1) (brn (!decide (x.1.Op=0)) (some true) (brn (decide (x.2.2.2.2.2=0)) (some (decide (0<(↑x.1.Kids.length:Int)))) (some false))) (brn (decide (x.2.2.2.2.2=0)) (some (decide (0<(↑x.1.Kids.length:Int)))) (some false)))) (brn (!x.2.2.2.2.1) (brn (!decide (x.1.Op=0)) (some true) (brn (decide (x.2.2.2.2.2=0)) (some (decide (0<(↑x.1.Kids.length:Int)))) (some false))) (brn (decide (x.2.2.2.2.2=0)) (some (decide (0<(↑x.1.Kids.length:Int)))) (some false))))) (brn (!x.2.2.2.1) (brn (!decide (x.1.Sheet=0)) (some true) (brn (!x.2.2.2.2.1) (brn (!decide (x.1.Op=0)) (some true) (brn (decide (x.2.2.2.2.2=0)) (some (decide (0<(↑x.1.Kids.length:Int)))) (some false))) (brn (decide (x.2.2.2.2.2=0)) (some (decide (0<(↑x.1.Kids.length:Int)))) (some false)))) (brn (!x.2.2.2.2.1) (brn (!decide (x.1.Op=0)) (some true) (brn (decide (x.2.2.2.2.2=0)) (some (decide (0<(↑x.1.Kids.length:Int)))) (some false))) (brn (decide (x.2.2.2.2.2=0)) (some (decide (0<(↑x.1.Kids.length:Int)))) (some false)))))) (brn (decide (x.2.2.1<2)) (brn (bif true then !(decide (x.1.A.B.Row=0)&&(decide (x.1.A.B.Col=0)&&(decide (x.1.A.B.RelRow=false)&&decide (x.1.A.B.RelCol=false))))else decide (x.1.A.B.Row=0)&&(decide (x.1.A.B.Col=0)&&(decide (x.1.A.B.RelRow=false)&&decide (x.1.A.B.RelCol=false)))) (some true) (brn (!x.2.2.2.1) (brn (!decide (x.1.Sheet=0)) (some true) (brn (!x.2.2.2.2.1) (brn (!decide (x.1.Op=0)) (some true) (brn (decide (x.2.2.2.2.2=0)) (some (decide (0<(↑x.1.Kids.length:Int)))) (some false))) (brn (decide (x.2.2.2.2.2=0)) (some (decide (0<(↑x.1.Kids.length:Int)))) (some false)))) (brn (!x.2.2.2.2.1) (brn (!decide (x.1.Op=0)) (some true) (brn (decide (x.2.2.2.2.2=0)) (some (decide (0<(↑x.1.Kids.length:Int)))) (some false))) (brn (decide (x.2.2.2.2.2=0)) (some (decide (0<(↑x.1.Kids.length:Int)))) (some false))))) (brn (!x.2.2.2.1) (brn (!decide (x.1.Sheet=0)) (some true) (brn (!x.2.2.2.2.1) (brn (!decide (x.1.Op=0)) (some true) (brn (decide (x.2.2.2.2.2=0)) (some (decide (0<(↑x.1.Kids.length:Int)))) (some false))) (brn (decide (x.2.2.2.2.2=0)) (some (decide (0<(↑x.1.Kids.length:Int)))) (some false)))) (brn (!x.2.2.2.2.1) (brn (!decide (x.1.Op=0)) (some true) (brn (decide (x.2.2.2.2.2=0)) (some (decide (0<(↑x.1.Kids.length:Int)))) (some false))) (brn (decide (x.2.2.2.2.2=0)) (some (decide (0<(↑x.1.Kids.length:Int)))) (some false))))))
def FzX:CutSpec tb:=⟨40,[(1,.ro 32),(3,.val 4),(4,.val 3),(5,.val 4),(6,.val 4),(7,.val 3)],[(.normal,[(85,.val 4)])],[28,29,30,31,32,33,34,35,36,37,38,39,40,41,42,43,44,45,46,47,48,49,50,51,52,53,54,55,56,57,58,59,60,61,62,63,64,65,66,67,68,69,70,71,72,73,74,75,76,77,78,79,80,81,82,83,84,85],(kzX)⟩
theorem zzs:A5 Tryz.f66 40 FzX:=A6 fzt .nil
def dzt (x:Expr×Bool):Option (Bool):=brn x.2 (brn (decide (x.1.Sheet<0)) (some true) (some (decide (8<=x.1.Sheet)))) (some false)
def FzY:CutSpec tb:=⟨120,[(1,.ro 32),(5,.val 4)],[(.normal,[(115,.val 4)])],[105,106,107,108,109,110,111,112,113,114,115],(dzt)⟩
theorem zzt:A5 Tryz.f66 120 FzY:=A6 fzt .nil
def dzu (x:Int×Int×Int):Option (Int×Int):=brn (decide (x.2.2=6)) (some (x.1,1023)) (brn (decide (x.2.2=7)) (some (1,3)) (brn (decide (x.2.2=8)) (some (1,12)) (brn (decide (x.2.2=9)) (some (x.1,29)) (some (x.1,x.2.1)))))
def FzZ:CutSpec tb:=⟨163,[(9,.val 3),(10,.val 3),(117,.val 3)],[(.normal,[(9,.val 3),(10,.val 3)])],[119,118,10,121,120,9,123,122,125,124],(dzu)⟩
theorem zzu:A5 Tryz.f66 163 FzZ:=A6 fzt .nil
def czs (x:Expr×Int×Int×Int):Option (Bool):=brn (decide (x.1.Op<x.2.2.1)) (some true) (brn (decide (x.2.2.2<x.1.Op)) (some true) (brn (decide (0<x.2.1)) (brn (!decide ((↑x.1.Kids.length:Int)=x.2.1)) (some true) (some (decide (30<(↑x.1.Kids.length:Int))))) (some (decide (30<(↑x.1.Kids.length:Int))))))
def Fz0:CutSpec tb:=⟨240,[(1,.ro 32),(7,.val 3),(9,.val 3),(10,.val 3)],[(.normal,[(152,.val 4)])],[126,127,128,129,130,131,132,133,134,135,136,137,138,139,140,141,142,143,144,145,146,147,148,149,150,151,152],(czs)⟩
theorem zzv:A5 Tryz.f66 240 Fz0:=A6 fzt .nil
def pzc (x:Expr):Option (Int):=obnd (ozF (azy x)) fun y=>brn y (some 1) (obnd (rzB x.Kind) fun y=>obnd (kzX (azy x,y.1,y.2.1,y.2.2.1,y.2.2.2)) fun y_1=>brn y_1 (some 1) (brn y.1 (obnd (czx x.V) fun y_2=>brn (!decide (y_2=0)) (some y_2) (brn (decide (x.V.Kind=0)) (some 1) (brn (decide (0<y.2.1)) (obnd (dzk x.A) fun y_3=>brn (!decide (y_3=0)) (some 12) (obnd (dzt (azy x,y.2.2.1)) fun y_4=>brn y_4 (some 1) (obnd (dzu (0,0,x.Kind)) fun y_5=>obnd (czs (azy x,y.2.2.2.2,y_5)) fun y=>brn y (some 1) (some 0)))) (obnd (dzt (azy x,y.2.2.1)) fun y_3=>brn y_3 (some 1) (obnd (dzu (0,0,x.Kind)) fun y_4=>obnd (czs (azy x,y.2.2.2.2,y_4)) fun y=>brn y (some 1) (some 0)))))) (brn (decide (0<y.2.1)) (obnd (dzk x.A) fun y_2=>brn (!decide (y_2=0)) (some 12) (obnd (dzt (azy x,y.2.2.1)) fun y_3=>brn y_3 (some 1) (obnd (dzu (0,0,x.Kind)) fun y_4=>obnd (czs (azy x,y.2.2.2.2,y_4)) fun y=>brn y (some 1) (some 0)))) (obnd (dzt (azy x,y.2.2.1)) fun y_2=>brn y_2 (some 1) (obnd (dzu (0,0,x.Kind)) fun y_3=>obnd (czs (azy x,y.2.2.2.2,y_3)) fun y=>brn y (some 1) (some 0))))))
def Azp:FSpec tb:=⟨[(0,.val 32)],[(0,.val 3)],pzc⟩
theorem BzP:A0 66 Azp:=A2 Tryz.func66 fzt (.cons zzr (.cons zzs (.cons zzt (.cons zzu (.cons zzv .nil)))))
def hz5 (self:Expr->Option (Int)):FSpec tb:=⟨[(0,.val 32)],[(0,.val 3)],self⟩
abbrev JzH (self:Expr->Option (Int)):List (Nat×FSpec tb):=[(66,Azp),(42,(hz5 self))]
theorem szA (self:Expr->Option (Int))(hself:azz Tryz.prog tb 42 (hz5 self)):azl Tryz.prog tb (JzH self):=(.cons BzP (.cons hself .nil))
def gzQ (self:Expr->Option (Int))(back:Expr×Int×Int->Option (Int))(x:Expr×Int×Int):Option (Int):=brn (decide (x.2.2<(↑x.1.Kids.length:Int))) (brn (decide (x.2.1=0)) (obnd (idx x.1.Kids x.2.2) fun y=>obnd (self (azy y)) fun y=>back (azy x.1,y,i64.wrap (x.2.2+1))) (some x.2.1)) (some x.2.1)
def nzE (self:Expr->Option (Int)):Expr×Int×Int->Option (Int):=iter (gzQ self) big
def Ezi (self:Expr->Option (Int)):CutSpec tb:=⟨36,[(1,.ro 32),(3,.val 3),(4,.val 3)],[((.exit 0),[(3,.val 3)])],[7,8,9,10,11,12,13,14,15,18,19,20,21,22,23,3,16,17,4],(nzE self)⟩
theorem xzX (self:Expr->Option (Int))(hself:azz Tryz.prog tb 42 (hz5 self)):A3 Tryz.f42 36 (Ezi self):=A4 (szA self hself) .nil (gzQ self)
def hz4 (self:Expr->Option (Int))(x:Expr):Option (Int):=obnd (pzc (azy x)) fun y=>obnd ((nzE self) (azy x,y,0)) fun y=>some y
theorem BzQ (self:Expr->Option (Int))(hself:azz Tryz.prog tb 42 (hz5 self)):A0 42 (hz5 (hz4 self)):=A2 Tryz.func42 (szA self hself) (.cons (xzX self hself) .nil)
def rzA:Expr->Option (Int):=iter hz4 big
def JzI:FSpec tb:=hz5 rzA
theorem zzw:azz Tryz.prog tb 42 JzI:=szc (fzj Tryz.func42 (by kernel_rfl)) BzQ
def fzJ (x:Expr):Option (Int):=obnd (rzt (azy x)) fun y=>brn (decide (16<y)) (some 11) (obnd (rzs (azy x)) fun y=>brn (decide (1024<y)) (some 4) (obnd (rzA (azy x)) fun y=>some y))
def rzr:FSpec tb:=⟨[(0,.val 32)],[(0,.val 3)],fzJ⟩
theorem mzO:A0 24 rzr:=A1 Tryz.func24 (.cons zzj (.cons zzi (.cons zzw .nil)))
def dzm (x:Place×Int):Option (Bool):=brn (decide (0<=x.1.Sheet)) (brn (decide (x.1.Sheet<x.2)) (obnd (gz6 x.1.At) fun y=>some y) (some false)) (some false)
def mzx:FSpec tb:=⟨[(0,.val 61),(1,.val 3)],[(0,.val 4)],dzm⟩
theorem mzP:A0 43 mzx:=A1 Tryz.func43 (.cons rzu .nil)
def gz7 (x:Place×Place):Option (Bool):=brn (!decide (x.1.Sheet=x.2.Sheet)) (some (decide (x.1.Sheet<x.2.Sheet))) (brn (!decide (x.1.At.Row=x.2.At.Row)) (some (decide (x.1.At.Row<x.2.At.Row))) (some (decide (x.1.At.Col<x.2.At.Col))))
def Azq:FSpec tb:=⟨[(0,.val 61),(1,.val 61)],[(0,.val 4)],gz7⟩
theorem Bz4:A0 45 Azq:=A1 Tryz.func45 .nil
def dzc (self:Expr->Option (List (Expr))):FSpec tb:=⟨[(0,.val 32)],[(0,.own 32)],self⟩
abbrev sz9 (self:Expr->Option (List (Expr))):List (Nat×FSpec tb):=[(47,(dzc self))]
theorem tzT (self:Expr->Option (List (Expr)))(hself:azz Tryz.prog tb 47 (dzc self)):azl Tryz.prog tb (sz9 self):=(.cons hself .nil)
def fzs (self:Expr->Option (List (Expr)))(back:Expr×List (Expr)×Int->Option (List (Expr)))(x:Expr×List (Expr)×Int):Option (List (Expr)):=brn (decide (x.2.2<(↑x.1.Kids.length:Int))) (obnd (idx x.1.Kids x.2.2) fun y=>obnd (self (azy y)) fun y=>obnd (app 152 x.2.1 y) fun zs=>back (azy x.1,zs,i64.wrap (x.2.2+1))) (some x.2.1)
def kzW (self:Expr->Option (List (Expr))):Expr×List (Expr)×Int->Option (List (Expr)):=iter (fzs self) big
def hzZ (self:Expr->Option (List (Expr))):CutSpec tb:=⟨52,[(1,.ro 32),(3,.own 32),(4,.val 3)],[((.exit 0),[(3,.own 32)])],[15,16,17,18,19,22,23,24,25,26,27,28,29,3,20,21,4],(kzW self)⟩
theorem BzI (self:Expr->Option (List (Expr))):∀back x,bzI Tryz.prog tb (sz9 self) [] (bzX 52 Tryz.f47) (hzZ self).ins (hzZ self).outs back x=fzs self back x:=fun back x=>by kernel_rfl
theorem Ezf (self:Expr->Option (List (Expr))):cutB Tryz.f47.ntmps (hzZ self) (bzX 52 Tryz.f47)=true:=by kernel_rfl
theorem zzk (self:Expr->Option (List (Expr)))(hself:azz Tryz.prog tb 47 (dzc self)):A3 Tryz.f47 52 (hzZ self):=A4 (tzT self hself) .nil (fzs self) (hb:=(Ezf self)) (hF:=(BzI self))
def dzb (self:Expr->Option (List (Expr)))(x:Expr):Option (List (Expr)):=brn (decide (2<=x.Kind)) (brn (decide (x.Kind<=6)) (some [azy x]) (obnd ((kzW self) (azy x,[],0)) fun y=>some y)) (obnd ((kzW self) (azy x,[],0)) fun y=>some y)
theorem HzK (self:Expr->Option (List (Expr))):∀x,evFn Tryz.prog tb (sz9 self) [(hzZ self)] Tryz.f47 (dzc (dzb self)).ins (dzc (dzb self)).outs x=(dzc (dzb self)).f x:=fun x=>by kernel_rfl
theorem JzG (self:Expr->Option (List (Expr))):fnK Tryz.f47 (dzc (dzb self)).ins (dzc (dzb self)).outs=true:=by kernel_rfl
theorem Ezg (self:Expr->Option (List (Expr)))(hself:azz Tryz.prog tb 47 (dzc self)):A0 47 (dzc (dzb self)):=A2 Tryz.func47 (tzT self hself) (.cons (zzk self hself) .nil) (hk:=(JzG self)) (hJ:=(HzK self))
def pzb:Expr->Option (List (Expr)):=iter dzb big
def tza:FSpec tb:=dzc pzb
theorem rzv:azz Tryz.prog tb 47 tza:=szc (fzj Tryz.func47 (by kernel_rfl)) Ezg
abbrev JzL:List (Nat×FSpec tb):=[(47,tza)]
theorem szE:azl Tryz.prog tb (JzL):=(.cons rzv .nil)
def gzT (back:List Expr×Int->Option ((Unit)⊕(Bool)))(x:List Expr×Int):Option ((Unit)⊕(Bool)):=brn (decide (x.2<(↑x.1.length:Int))) (obnd (idx x.1 x.2) fun y=>brn (decide (y.Kind=6)) (some (Sum.inr true)) (back (x.1,i64.wrap (x.2+1)))) (some (Sum.inl PUnit.unit))
def nzJ:List Expr×Int->Option ((Unit)⊕(Bool)):=iter gzT big
def Ezq:CutSpec tb:=⟨36,[(3,.val 30),(4,.val 3)],[((.exit 0),[]),(.ret,[(2,.val 4)])],[7,8,9,10,13,14,15,16,17,18,2,11,12,4],nzJ⟩
theorem xz9:A3 Tryz.f46 36 Ezq:=A4 szE .nil gzT
def nzI (x:Expr):Option (Bool):=obnd (pzb (azy x)) fun y=>obnd (nzJ (y,0)) fun y=>osum y (fun y=>some false) fun y=>some y
def xz8:FSpec tb:=⟨[(0,.val 32)],[(0,.val 4)],nzI⟩
theorem zzG:A0 46 xz8:=A2 Tryz.func46 szE (.cons xz9 .nil)
abbrev Ezn:List (Nat×FSpec tb):=[(43,mzx),(44,nzx),(45,Azq),(24,rzr),(46,xz8)]
theorem kzx:azl Tryz.prog tb (Ezn):=(.cons mzP (.cons nzy (.cons Bz4 (.cons mzO (.cons zzG .nil)))))
def ezx (back:Env×Int->Option ((Unit)⊕(Int)))(x:Env×Int):Option ((Unit)⊕(Int)):=brn (decide (x.2<(↑x.1.Slots.length:Int))) (obnd (idx x.1.Slots x.2) fun y=>obnd (dzm (y.P,x.1.Sheets)) fun y_1=>brn (!y_1) (some (Sum.inr 12)) (obnd (czx y.V) fun y_2=>brn (!decide (y_2=0)) (some (Sum.inr y_2)) (brn (decide (y.V.Kind=0)) (some (Sum.inr 1)) (brn (decide (0<x.2)) (obnd (idx x.1.Slots (i64.wrap (x.2-1))) fun y_3=>obnd (gz7 (y_3.P,y.P)) fun y=>brn (!y) (some (Sum.inr 6)) (back (x.1,i64.wrap (x.2+1)))) (back (x.1,i64.wrap (x.2+1))))))) (some (Sum.inl PUnit.unit))
def kzy:Env×Int->Option ((Unit)⊕(Int)):=iter ezx big
def xz6:CutSpec tb:=⟨60,[(1,.ro 35),(3,.val 3)],[((.exit 0),[]),(.ret,[(2,.val 3)])],[26,27,28,29,30,33,34,35,36,37,4,38,39,40,41,42,43,2,44,45,46,5,47,48,49,50,51,52,53,54,55,56,57,58,59,60,61,62,63,64,65,66,67,68,31,32,3],kzy⟩
theorem tzY:A3 Tryz.f25 60 xz6:=A4 kzx .nil ezx
def ezy (back:Env×Int->Option ((Unit)⊕(Int)))(x:Env×Int):Option ((Unit)⊕(Int)):=brn (decide (x.2<(↑x.1.Names.length:Int))) (obnd (idx x.1.Names x.2) fun y=>obnd (fzJ (azy y)) fun y=>brn (!decide (y=0)) (some (Sum.inr y)) (obnd (idx x.1.Names x.2) fun y=>obnd (nzI (azy y)) fun y=>brn y (some (Sum.inr 3)) (back (x.1,i64.wrap (x.2+1))))) (some (Sum.inl PUnit.unit))
def kzz:Env×Int->Option ((Unit)⊕(Int)):=iter ezy big
def xz7:CutSpec tb:=⟨164,[(1,.ro 35),(6,.val 3)],[((.exit 2),[]),(.ret,[(2,.val 3)])],[69,70,71,72,73,76,77,78,79,80,81,7,82,83,84,2,85,86,87,88,89,90,74,75,6],kzz⟩
theorem tzZ:A3 Tryz.f25 164 xz7:=A4 kzx .nil ezy
def jzS (x:Env):Option (Int):=brn (decide (x.Sheets<1)) (some 1) (brn (decide (8<x.Sheets)) (some 1) (brn (decide (4096<(↑x.Slots.length:Int))) (some 4) (brn (decide (1024<(↑x.Names.length:Int))) (some 4) (obnd (kzy (x,0)) fun y=>osum y (fun y=>obnd (kzz (x,0)) fun y=>osum y (fun y=>some 0) fun y=>some y) fun y=>some y))))
def Ezo:FSpec tb:=⟨[(0,.val 35)],[(0,.val 3)],jzS⟩
theorem uz6:A0 25 Ezo:=A2 Tryz.func25 kzx (.cons tzY (.cons tzZ .nil))
abbrev Jzg:List (Nat×FSpec tb):=[(47,tza)]
theorem szn:azl Tryz.prog tb (Jzg):=(.cons rzv .nil)
def gzI (back:List Expr×Int×Int->Option (Int))(x:List Expr×Int×Int):Option (Int):=brn (decide (x.2.2<(↑x.1.length:Int))) (obnd (idx x.1 x.2.2) fun y=>brn (decide (y.Kind=3)) (back (x.1,i64.wrap (x.2.1+1),i64.wrap (x.2.2+1))) (obnd (idx x.1 x.2.2) fun y=>brn (decide (y.Kind=5)) (back (x.1,i64.wrap (x.2.1+1),i64.wrap (x.2.2+1))) (back (x.1,x.2.1,i64.wrap (x.2.2+1))))) (some x.2.1)
def nzp:List Expr×Int×Int->Option (Int):=iter gzI big
def DzK:CutSpec tb:=⟨44,[(3,.val 30),(4,.val 3),(5,.val 3)],[((.exit 0),[(4,.val 3)])],[8,9,10,11,14,15,16,17,18,19,20,21,22,23,24,25,26,27,28,29,4,12,13,5],nzp⟩
theorem xzq:A3 Tryz.f26 44 DzK:=A4 szn .nil gzI
def kzj (x:Expr):Option (Bool):=obnd (pzb (azy x)) fun y=>obnd (nzp (y,0,0)) fun y=>some (decide (y<=4))
def xzp:FSpec tb:=⟨[(0,.val 32)],[(0,.val 4)],kzj⟩
theorem qzb:A0 26 xzp:=A2 Tryz.func26 szn (.cons xzq .nil)
abbrev DzI:List (Nat×FSpec tb):=[(26,xzp)]
theorem pzs:azl Tryz.prog tb (DzI):=(.cons qzb .nil)
def ezr (back:List Expr×Int->Option ((Unit)⊕(Bool)))(x:List Expr×Int):Option ((Unit)⊕(Bool)):=brn (decide (x.2<(↑x.1.length:Int))) (obnd (idx x.1 x.2) fun y=>obnd (kzj (azy y)) fun y=>brn (!y) (some (Sum.inr false)) (back (x.1,i64.wrap (x.2+1)))) (some (Sum.inl PUnit.unit))
def kzi:List Expr×Int->Option ((Unit)⊕(Bool)):=iter ezr big
def xzo:CutSpec tb:=⟨28,[(0,.val 30),(3,.val 3)],[((.exit 0),[]),(.ret,[(2,.val 4)])],[4,5,6,7,10,11,12,13,14,15,2,8,9,3],kzi⟩
theorem tzJ:A3 Tryz.f27 28 xzo:=A4 pzs .nil ezr
def jzO (x:List Expr):Option (Bool):=obnd (kzi (x,0)) fun y=>osum y (fun y=>some true) fun y=>some y
def DzJ:FSpec tb:=⟨[(0,.val 30)],[(0,.val 4)],jzO⟩
theorem uzL:A0 27 DzJ:=A2 Tryz.func27 pzs (.cons tzJ .nil)
def qzv (x:Expr×Env):Option (Bool):=obnd (izO (azy x.1,60)) fun y=>brn y (obnd (qzu x.2) fun y=>brn y (obnd (fzJ (azy x.1)) fun y=>brn (decide (y=0)) (obnd (jzS x.2) fun y=>brn (decide (y=0)) (obnd (kzj (azy x.1)) fun y=>brn y (obnd (jzO x.2.Names) fun y=>some y) (some false)) (some false)) (some false)) (some false)) (some false)
def Mza:FSpec tb:=⟨[(0,.val 32),(1,.val 35)],[(0,.val 4)],qzv⟩
theorem DzH:A0 5 Mza:=A1 Tryz.func5 (.cons szj (.cons DzF (.cons mzO (.cons uz6 (.cons qzb (.cons uzL .nil))))))
def Bzw (x:Ref):Option (Ref):=some x
def law8_ToS:FSpec tb:=⟨[(0,.val 27)],[(0,.val 47)],Bzw⟩
theorem HzF:A0 50 law8_ToS:=A1 Tryz.func50 .nil
def rzg (x:Area):Option (Area):=obnd (Bzw x.A) fun y=>obnd (Bzw x.B) fun y_1=>some {A:=y,B:=y_1}
def xzs:FSpec tb:=⟨[(0,.val 29)],[(0,.val 49)],rzg⟩
theorem zze:A0 31 xzs:=A1 Tryz.func31 (.cons HzF .nil)
def mzM (self:Expr->Option (Expr)):FSpec tb:=⟨[(0,.val 32)],[(0,.val 52)],self⟩
abbrev law10_ToG (self:Expr->Option (Expr)):List (Nat×FSpec tb):=[(30,Bzy),(31,xzs),(8,(mzM self))]
theorem xzj (self:Expr->Option (Expr))(hself:azz Tryz.prog tb 8 (mzM self)):azl Tryz.prog tb (law10_ToG self):=(.cons vzM (.cons zze (.cons hself .nil)))
def kzg (self:Expr->Option (Expr))(back:List (Expr)×Expr×Expr×Int->Option ((List (Expr))×Expr))(x:List (Expr)×Expr×Expr×Int):Option ((List (Expr))×Expr):=brn (decide (x.2.2.2<(↑x.2.1.Kids.length:Int))) (obnd (idx x.2.1.Kids x.2.2.2) fun y=>obnd (self (azy y)) fun y=>obnd (app 152 x.1 [azy y]) fun zs=>back (zs,azy x.2.1,{Kind:=x.2.2.1.Kind,V:=x.2.2.1.V,A:=x.2.2.1.A,Sheet:=x.2.2.1.Sheet,Op:=x.2.2.1.Op,Kids:=zs},i64.wrap (x.2.2.2+1))) (some (x.1,{Kind:=x.2.2.1.Kind,V:=x.2.2.1.V,A:=x.2.2.1.A,Sheet:=x.2.2.1.Sheet,Op:=x.2.2.1.Op,Kids:=x.1}))
def rzd (self:Expr->Option (Expr)):List (Expr)×Expr×Expr×Int->Option ((List (Expr))×Expr):=iter (kzg self) big
def Jzb (self:Expr->Option (Expr)):CutSpec tb:=⟨36,[(77309411331,.own 52),(1,.ro 32),(3,.ref 52),(4,.val 3)],[((.exit 0),[(77309411331,.own 52)])],[18,19,20,21,22,25,26,27,28,29,30,31,32,33,34,35,23,24,4],(rzd self)⟩
theorem DzC (self:Expr->Option (Expr))(hself:azz Tryz.prog tb 8 (mzM self)):A3 Tryz.f8 36 (Jzb self):=A4 (xzj self hself) .nil (kzg self)
def mzL (self:Expr->Option (Expr))(x:Expr):Option (Expr):=obnd (rzi x.V) fun y=>obnd (rzg x.A) fun y_1=>obnd ((rzd self) ([],azy x,{Kind:=x.Kind,V:=y,A:=y_1,Sheet:=x.Sheet,Op:=x.Op,Kids:=[]},0)) fun y=>some {Kind:=y.2.Kind,V:=y.2.V,A:=y.2.A,Sheet:=y.2.Sheet,Op:=y.2.Op,Kids:=y.1}
theorem Hzy (self:Expr->Option (Expr))(hself:azz Tryz.prog tb 8 (mzM self)):A0 8 (mzM (mzL self)):=A2 Tryz.func8 (xzj self hself) (.cons (DzC self hself) .nil)
def szl:Expr->Option (Expr):=iter mzL big
def GzF:FSpec tb:=mzM szl
theorem tzG:azz Tryz.prog tb 8 GzF:=szc (fzj Tryz.func8 (by kernel_rfl)) Hzy
abbrev Jza:List (Nat×FSpec tb):=[(8,GzF)]
theorem szk:azl Tryz.prog tb (Jza):=(.cons tzG .nil)
def gzH (back:List Expr×List (Expr)×Int->Option (List (Expr)))(x:List Expr×List (Expr)×Int):Option (List (Expr)):=brn (decide (x.2.2<(↑x.1.length:Int))) (obnd (idx x.1 x.2.2) fun y=>obnd (szl (azy y)) fun y=>obnd (app 152 x.2.1 [azy y]) fun zs=>back (x.1,zs,i64.wrap (x.2.2+1))) (some x.2.1)
def nzn:List Expr×List (Expr)×Int->Option (List (Expr)):=iter gzH big
def DzB:CutSpec tb:=⟨36,[(0,.val 30),(3,.own 52),(4,.val 3)],[((.exit 0),[(3,.own 52)])],[5,6,7,8,11,12,13,14,15,16,17,18,3,9,10,4],nzn⟩
theorem xzi:A3 Tryz.f32 36 DzB:=A4 szk .nil gzH
def nzm (x:List Expr):Option (List (Expr)):=obnd (nzn (x,[],0)) fun y=>some y
def xzh:FSpec tb:=⟨[(0,.val 30)],[(0,.own 52)],nzm⟩
theorem yz8:A0 32 xzh:=A2 Tryz.func32 szk (.cons xzi .nil)
def xzt (x:Cell):Option (Cell):=some x
def Jzk:FSpec tb:=⟨[(0,.val 59)],[(0,.val 37)],xzt⟩
theorem zzf:A0 51 Jzk:=A1 Tryz.func51 .nil
def ozx (x:Place):Option (Place):=obnd (xzt x.At) fun y=>some {Sheet:=x.Sheet,At:=y}
def tzH:FSpec tb:=⟨[(0,.val 61)],[(0,.val 39)],ozx⟩
theorem wzb:A0 33 tzH:=A1 Tryz.func33 (.cons zzf .nil)
abbrev law14_ToG:List (Nat×FSpec tb):=[(32,xzh),(33,tzH),(30,Bzy)]
theorem xzk:azl Tryz.prog tb (law14_ToG):=(.cons yz8 (.cons wzb (.cons vzM .nil)))
def kzh (back:List (Slot)×Env×Env×Int->Option ((List (Slot))×Env))(x:List (Slot)×Env×Env×Int):Option ((List (Slot))×Env):=brn (decide (x.2.2.2<(↑x.2.1.Slots.length:Int))) (obnd (idx x.2.1.Slots x.2.2.2) fun y=>obnd (ozx y.P) fun y=>obnd (idx x.2.1.Slots x.2.2.2) fun y_1=>obnd (rzi y_1.V) fun y_2=>obnd (app 80 x.1 [{P:=y,V:=y_2}]) fun zs=>back (zs,x.2.1,{Sheets:=x.2.2.1.Sheets,Slots:=zs,Names:=x.2.2.1.Names},i64.wrap (x.2.2.2+1))) (some (x.1,{Sheets:=x.2.2.1.Sheets,Slots:=x.1,Names:=x.2.2.1.Names}))
def rze:List (Slot)×Env×Env×Int->Option ((List (Slot))×Env):=iter kzh big
def Jze:CutSpec tb:=⟨36,[(8589934595,.own 92),(1,.ro 35),(3,.ref 56),(4,.val 3)],[((.exit 0),[(8589934595,.own 92)])],[11,12,13,14,15,18,19,20,21,22,23,24,25,26,27,28,29,30,31,32,33,34,35,36,37,16,17,4],rze⟩
theorem DzG:A3 Tryz.f9 36 Jze:=A4 xzk .nil kzh
def szm (x:Env):Option (Env):=obnd (nzm x.Names) fun y=>obnd (rze ([],x,{Sheets:=x.Sheets,Slots:=[],Names:=y},0)) fun y=>some {Sheets:=y.2.Sheets,Slots:=y.1,Names:=y.2.Names}
def law14_ToS:FSpec tb:=⟨[(0,.val 35)],[(0,.val 56)],szm⟩
theorem FzL:A0 9 law14_ToS:=A2 Tryz.func9 xzk (.cons DzG .nil)
def xzr (x:Cell):Option (Cell):=some x
def Jzj:FSpec tb:=⟨[(0,.val 37)],[(0,.val 59)],xzr⟩
theorem zzd:A0 36 Jzj:=A1 Tryz.func36 .nil
def ozw (x:Place):Option (Place):=obnd (xzr x.At) fun y=>some {Sheet:=x.Sheet,At:=y}
def FzK:FSpec tb:=⟨[(0,.val 39)],[(0,.val 61)],ozw⟩
theorem wza:A0 11 FzK:=A1 Tryz.func11 (.cons zzd .nil)
def Ezd (x:Val):Option (Arg):=some {Area:=false,L:=[x]}
def Mzu:FSpec tb:=⟨[(0,.val 25)],[(0,.val 96)],Ezd⟩
theorem Eze:A0 80 Mzu:=A1 Tryz.func80 .nil
def bzN (x:Val):Option (Arg):=obnd (Ezd x) fun y=>some y
def uz9:FSpec tb:=⟨[(0,.val 25)],[(0,.val 96)],bzN⟩
theorem szF:A0 54 uz9:=A1 Tryz.func54 (.cons Eze .nil)
def dzO (x:Int×Int):Option (Int):=brn (decide (x.2=0)) none (brn (decide (x.1.tmod x.2<0)) (some (i64.wrap (x.1.tmod x.2+x.2))) (some (x.1.tmod x.2)))
def Mzv:FSpec tb:=⟨[(0,.val 3),(1,.val 3)],[(0,.val 3)],dzO⟩
theorem Ezh:A0 81 Mzv:=A1 Tryz.func81 .nil
def kzp (x:Ref×Cell):Option (Cell):=obnd (dzO (x.1.Row,65536)) fun y=>obnd (dzO (x.1.Col,256)) fun y_1=>brn x.1.RelRow (obnd (dzO (x.2.Row,65536)) fun y_2=>obnd (dzO (i64.wrap (y+y_2),65536)) fun y=>brn x.1.RelCol (obnd (dzO (x.2.Col,256)) fun y_3=>obnd (dzO (i64.wrap (y_1+y_3),256)) fun y_4=>some {Row:=y,Col:=y_4}) (some {Row:=y,Col:=y_1})) (brn x.1.RelCol (obnd (dzO (x.2.Col,256)) fun y_2=>obnd (dzO (i64.wrap (y_1+y_2),256)) fun y_3=>some {Row:=y,Col:=y_3}) (some {Row:=y,Col:=y_1}))
def GzQ:FSpec tb:=⟨[(0,.val 27),(1,.val 59)],[(0,.val 59)],kzp⟩
theorem tzP:A0 56 GzQ:=A1 Tryz.func56 (.cons Ezh .nil)
abbrev Mzx:List (Nat×FSpec tb):=[(43,mzx),(52,bzY)]
theorem vzX:azl Tryz.prog tb (Mzx):=(.cons mzP (.cons azG .nil))
def jzk (back:Env×Place×Val×Int->Option (((Unit)×Val)⊕((Unit)×Val)))(x:Env×Place×Val×Int):Option (((Unit)×Val)⊕((Unit)×Val)):=brn (decide (x.2.2.2<(↑x.1.Slots.length:Int))) (obnd (idx x.1.Slots x.2.2.2) fun y=>brn (bif false then !(decide (y.P.Sheet=x.2.1.Sheet)&&(decide (y.P.At.Row=x.2.1.At.Row)&&decide (y.P.At.Col=x.2.1.At.Col)))else decide (y.P.Sheet=x.2.1.Sheet)&&(decide (y.P.At.Row=x.2.1.At.Row)&&decide (y.P.At.Col=x.2.1.At.Col))) (obnd (idx x.1.Slots x.2.2.2) fun y=>some (Sum.inr ((),y.V))) (back (x.1,x.2.1,x.2.2.1,i64.wrap (x.2.2.2+1)))) (some (Sum.inl ((),x.2.2.1)))
def pzT:Env×Place×Val×Int->Option (((Unit)×Val)⊕((Unit)×Val)):=iter jzk big
def HzS:CutSpec tb:=⟨44,[(2,.ro 35),(3,.ro 61),(4,.ref 25),(5,.val 3)],[((.exit 0),[]),(.ret,[])],[12,13,14,15,16,19,20,21,22,23,24,25,26,27,28,29,30,31,32,17,18,5],pzT⟩
theorem Bz3:A3 Tryz.f55 44 HzS:=A4 vzX .nil jzk
def dzf (x:Env×Place):Option (Val):=obnd (dzm (x.2,x.1.Sheets)) fun y=>brn (!y) (obnd (azg 23) fun y=>some y) (obnd (pzT (x.1,x.2,{Kind:=0,N:={M:=0,S:=0},S:=[],B:=false,E:=0},0)) fun y=>osum y (fun y=>some {Kind:=0,N:={M:=0,S:=0},S:=[],B:=false,E:=0}) fun y=>some y.2)
def uz7:FSpec tb:=⟨[(0,.val 35),(1,.val 61)],[(0,.val 25)],dzf⟩
theorem szD:A0 55 uz7:=A2 Tryz.func55 vzX (.cons Bz3 .nil)
def gzo (x:Area×Cell):Option (Cell×Cell):=obnd (kzp (x.1.A,x.2)) fun y=>obnd (kzp (x.1.B,x.2)) fun y_1=>brn (decide (y_1.Row<y.Row)) (brn (decide (y_1.Col<y.Col)) (some (y_1,y)) (some ({Row:=y_1.Row,Col:=y.Col},{Row:=y.Row,Col:=y_1.Col}))) (brn (decide (y_1.Col<y.Col)) (some ({Row:=y.Row,Col:=y_1.Col},{Row:=y_1.Row,Col:=y.Col})) (some (y,y_1)))
def pzR:FSpec tb:=⟨[(0,.val 29),(1,.val 59)],[(0,.val 59),(1,.val 59)],gzo⟩
theorem kzq:A0 82 pzR:=A1 Tryz.func82 (.cons tzP .nil)
def jzD (x:Area×Cell):Option (Int):=obnd (gzo x) fun y=>some (i64.wrap (i64.wrap (i64.wrap (y.2.Row-y.1.Row)+1)*i64.wrap (i64.wrap (y.2.Col-y.1.Col)+1)))
def tzb:FSpec tb:=⟨[(0,.val 29),(1,.val 59)],[(0,.val 3)],jzD⟩
theorem rzw:A0 83 tzb:=A1 Tryz.func83 (.cons kzq .nil)
abbrev JzB:List (Nat×FSpec tb):=[(82,pzR),(83,tzb)]
theorem nzv:azl Tryz.prog tb (JzB):=(.cons kzq (.cons rzw .nil))
def szw (back:Cell×List (Cell)×Int×Int->Option (List (Cell)))(x:Cell×List (Cell)×Int×Int):Option (List (Cell)):=brn (decide (x.2.2.2<=x.1.Col)) (obnd (app 16 x.2.1 [{Row:=x.2.2.1,Col:=x.2.2.2}]) fun zs=>back (x.1,zs,x.2.2.1,i64.wrap (x.2.2.2+1))) (some x.2.1)
def szx:Cell×List (Cell)×Int×Int->Option (List (Cell)):=iter szw big
def Dz6:CutSpec tb:=⟨84,[(6,.ro 59),(7,.own 59),(8,.val 3),(9,.val 3)],[((.exit 2),[(7,.own 59)])],[30,31,32,33,36,37,38,39,40,41,7,34,35,9],szx⟩
theorem xzO:A3 Tryz.f84 84 Dz6:=A4 nzv .nil szw
def szv (back:Cell×Cell×List (Cell)×Int->Option (List (Cell)))(x:Cell×Cell×List (Cell)×Int):Option (List (Cell)):=brn (decide (x.2.2.2<=x.2.1.Row)) (obnd (szx (x.2.1,x.2.2.1,x.2.2.2,x.1.Col)) fun y=>back (x.1,x.2.1,y,i64.wrap (x.2.2.2+1))) (some x.2.2.1)
def nzw:Cell×Cell×List (Cell)×Int->Option (List (Cell)):=iter szv big
def Dz5:CutSpec tb:=⟨60,[(5,.ro 59),(6,.ro 59),(7,.own 59),(8,.val 3)],[((.exit 0),[(7,.own 59)])],[22,23,24,25,28,29,9,30,31,32,33,36,37,38,39,40,41,7,34,35,26,27,8],nzw⟩
theorem xzN:A3 Tryz.f84 60 Dz5:=A4 nzv (.cons xzO .nil) szv
def kzr (x:Area×Cell):Option (List (Cell)):=obnd (gzo x) fun y=>obnd (jzD x) fun y_1=>brn (decide (4096<y_1)) (some []) (obnd (nzw (y.1,y.2,[],y.1.Row)) fun y=>some y)
def xzM:FSpec tb:=⟨[(0,.val 29),(1,.val 59)],[(0,.own 59)],kzr⟩
theorem zzh:A0 84 xzM:=A2 Tryz.func84 nzv (.cons xzN .nil)
abbrev Kz7:List (Nat×FSpec tb):=[(52,bzY),(54,uz9),(82,pzR),(83,tzb),(55,uz7),(84,xzM)]
theorem ozG:azl Tryz.prog tb (Kz7):=(.cons azG (.cons szF (.cons kzq (.cons rzw (.cons szD (.cons zzh .nil))))))
def kzZ (x:Int×Asked×Arg×Cell×Cell×Bool):Option (((Unit)×Arg)⊕((Unit)×Arg)):=brn x.2.2.2.2.2 (brn (!decide (i64.wrap (i64.wrap (x.2.2.2.2.1.Row-x.2.2.2.1.Row)+1)=x.2.1.Rows)) (obnd (azg 15) fun y=>obnd (bzN y) fun y=>some (Sum.inr ((),y))) (brn (!decide (i64.wrap (i64.wrap (x.2.2.2.2.1.Col-x.2.2.2.1.Col)+1)=x.2.1.Cols)) (obnd (azg 15) fun y=>obnd (bzN y) fun y=>some (Sum.inr ((),y))) (obnd (dzf (x.2.1.V,{Sheet:=x.1,At:={Row:=i64.wrap (x.2.2.2.1.Row+x.2.1.R),Col:=i64.wrap (x.2.2.2.1.Col+x.2.1.C)}})) fun y=>obnd (bzN y) fun y=>some (Sum.inr ((),y))))) (some (Sum.inl ((),x.2.2.1)))
def Fz3:CutSpec tb:=⟨66,[(2,.val 3),(5,.ro 99),(8,.ref 96),(9,.ro 59),(10,.ro 59),(49,.val 4)],[(.normal,[]),(.ret,[])],[50,51,52,53,54,55,56,57,58,59,60,61,62,63,64,65,66,67,68,69,70,71,72,73,74,75,76,77,78,79,80,81,82,83,84,85,86,87,88],(kzZ)⟩
theorem zzE:A5 Tryz.f57 66 Fz3:=A6 ozG .nil
def hz7 (back:List (Val)×Int×Asked×List Cell×Arg×Int->Option ((List (Val))×Arg))(x:List (Val)×Int×Asked×List Cell×Arg×Int):Option ((List (Val))×Arg):=brn (decide (x.2.2.2.2.2<(↑x.2.2.2.1.length:Int))) (obnd (idx x.2.2.2.1 x.2.2.2.2.2) fun y=>obnd (dzf (x.2.2.1.V,{Sheet:=x.2.1,At:=y})) fun y=>obnd (app 56 x.1 [y]) fun zs=>back (zs,x.2.1,x.2.2.1,x.2.2.2.1,{Area:=x.2.2.2.2.1.Area,L:=zs},i64.wrap (x.2.2.2.2.2+1))) (some (x.1,{Area:=x.2.2.2.2.1.Area,L:=x.1}))
def hz8:List (Val)×Int×Asked×List Cell×Arg×Int->Option ((List (Val))×Arg):=iter hz7 big
def Fz4:CutSpec tb:=⟨116,[(8589934604,.own 25),(2,.val 3),(5,.ro 99),(11,.val 150),(12,.ref 96),(13,.val 3)],[((.exit 0),[(8589934604,.own 25)])],[96,97,98,99,102,103,104,105,106,107,108,109,110,111,112,113,114,115,100,101,13],hz8⟩
theorem zzF:A3 Tryz.f57 116 Fz4:=A4 ozG .nil hz7
def jzE (x:Expr×Asked×Int×Bool):Option (Arg):=brn (decide (x.2.2.1<0)) (obnd (azg 23) fun y=>obnd (bzN y) fun y=>some y) (brn (decide (x.2.1.V.Sheets<=x.2.2.1)) (obnd (azg 23) fun y=>obnd (bzN y) fun y=>some y) (obnd (gzo (x.1.A,x.2.1.At.At)) fun y=>obnd (jzD (x.1.A,x.2.1.At.At)) fun y_1=>brn (decide (4096<y_1)) (obnd (azg 23) fun y=>obnd (bzN y) fun y=>some y) (brn (decide (0<x.2.1.Rows)) (obnd (kzZ (x.2.2.1,x.2.1,{Area:=false,L:=[]},y.1,y.2,!x.2.2.2)) fun y=>osum y (fun y=>obnd (kzr (x.1.A,x.2.1.At.At)) fun y=>obnd (hz8 ([],x.2.2.1,x.2.1,y,{Area:=true,L:=[]},0)) fun y=>some {Area:=y.2.Area,L:=y.1}) fun y=>some y.2) (obnd (kzZ (x.2.2.1,x.2.1,{Area:=false,L:=[]},y.1,y.2,false)) fun y=>osum y (fun y=>obnd (kzr (x.1.A,x.2.1.At.At)) fun y=>obnd (hz8 ([],x.2.2.1,x.2.1,y,{Area:=true,L:=[]},0)) fun y=>some {Area:=y.2.Area,L:=y.1}) fun y=>some y.2))))
def Azr:FSpec tb:=⟨[(0,.val 32),(1,.val 99),(2,.val 3),(3,.val 4)],[(0,.val 96)],jzE⟩
theorem Bz5:A0 57 Azr:=A2 Tryz.func57 ozG (.cons zzE (.cons zzF .nil))
def kzA (x:Int):Option (Bool):=brn (decide (x<=4)) (some true) (brn (decide (x=11)) (some true) (brn (decide (x=12)) (some true) (brn (decide (x=18)) (some true) (some (decide (x=24))))))
def yza:FSpec tb:=⟨[(0,.val 3)],[(0,.val 4)],kzA⟩
theorem zzH:A0 60 yza:=A1 Tryz.func60 .nil
def kz0 (self:Expr×Asked×Bool->Option (Arg)):FSpec tb:=⟨[(0,.val 32),(1,.val 99),(2,.val 4)],[(0,.val 96)],self⟩
abbrev Mzy (self:Expr×Asked×Bool->Option (Arg)):List (Nat×FSpec tb):=[(54,uz9),(56,GzQ),(55,uz7),(57,Azr),(52,bzY),(35,(kz0 self)),(58,xzS),(59,vzO),(60,yza),(61,xzD)]
theorem vzY (self:Expr×Asked×Bool->Option (Arg))(hself:azz Tryz.prog tb 35 (kz0 self)):azl Tryz.prog tb (Mzy self):=(.cons szF (.cons tzP (.cons szD (.cons Bz5 (.cons azG (.cons hself (.cons zzl (.cons xzL (.cons zzH (.cons zzg .nil))))))))))
def jzl (self:Expr×Asked×Bool->Option (Arg))(back:Expr×Asked×List (Arg)×Int->Option (List (Arg)))(x:Expr×Asked×List (Arg)×Int):Option (List (Arg)):=brn (decide (x.2.2.2<(↑x.1.Kids.length:Int))) (obnd (idx x.1.Kids x.2.2.2) fun y=>obnd (kzA x.1.Op) fun y_1=>obnd (self (azy y,x.2.1,y_1)) fun y=>obnd (app 32 x.2.2.1 [y]) fun zs=>back (azy x.1,x.2.1,zs,i64.wrap (x.2.2.2+1))) (some x.2.2.1)
def lzW (self:Expr×Asked×Bool->Option (Arg)):Expr×Asked×List (Arg)×Int->Option (List (Arg)):=iter (jzl self) big
def HzT (self:Expr×Asked×Bool->Option (Arg)):CutSpec tb:=⟨252,[(3,.ro 32),(4,.ro 99),(10,.own 96),(11,.val 3)],[((.exit 1),[(10,.own 96)])],[151,152,153,154,155,158,159,160,161,162,163,164,165,166,167,168,169,170,10,156,157,11],(lzW self)⟩
theorem Bz6 (self:Expr×Asked×Bool->Option (Arg))(hself:azz Tryz.prog tb 35 (kz0 self)):A3 Tryz.f35 252 (HzT self):=A4 (vzY self hself) .nil (jzl self)
def dzg (self:Expr×Asked×Bool->Option (Arg))(x:Expr×Asked×Bool):Option (Arg):=brn (decide (x.1.Kind=1)) (obnd (bzN x.1.V) fun y=>some y) (brn (decide (x.1.Kind=2)) (obnd (kzp (x.1.A.A,x.2.1.At.At)) fun y=>obnd (dzf (x.2.1.V,{Sheet:=x.2.1.At.Sheet,At:=y})) fun y=>obnd (bzN y) fun y=>some y) (brn (decide (x.1.Kind=4)) (obnd (kzp (x.1.A.A,x.2.1.At.At)) fun y=>obnd (dzf (x.2.1.V,{Sheet:=x.1.Sheet,At:=y})) fun y=>obnd (bzN y) fun y=>some y) (brn (decide (x.1.Kind=3)) (obnd (jzE (azy x.1,x.2.1,x.2.1.At.Sheet,x.2.2)) fun y=>some y) (brn (decide (x.1.Kind=5)) (obnd (jzE (azy x.1,x.2.1,x.1.Sheet,x.2.2)) fun y=>some y) (brn (decide (x.1.Kind=6)) (brn (decide (x.1.Op<0)) (obnd (azg 29) fun y=>obnd (bzN y) fun y=>some y) (brn (decide ((↑x.2.1.V.Names.length:Int)<=x.1.Op)) (obnd (azg 29) fun y=>obnd (bzN y) fun y=>some y) (obnd (idx x.2.1.V.Names x.1.Op) fun y=>obnd (self (azy y,x.2)) fun y=>some y))) (brn (decide (x.1.Kind=7)) (obnd (idx x.1.Kids 0) fun y=>obnd (self (azy y,x.2.1,false)) fun y=>brn y.Area (obnd (azg 15) fun y=>obnd (bzN y) fun y=>some y) (obnd (idx y.L 0) fun y=>obnd (nzC (x.1.Op,y)) fun y=>obnd (bzN y) fun y=>some y)) (brn (decide (x.1.Kind=8)) (obnd (idx x.1.Kids 0) fun y=>obnd (self (azy y,x.2.1,false)) fun y=>obnd (idx x.1.Kids 1) fun y_1=>obnd (self (azy y_1,x.2.1,false)) fun y_2=>brn y.Area (obnd (azg 15) fun y=>obnd (bzN y) fun y=>some y) (brn y_2.Area (obnd (azg 15) fun y=>obnd (bzN y) fun y=>some y) (obnd (idx y.L 0) fun y=>obnd (idx y_2.L 0) fun y_3=>obnd (lzT (x.1.Op,y,y_3)) fun y=>obnd (bzN y) fun y=>some y))) (brn (decide (x.1.Kind=9)) (obnd ((lzW self) (azy x.1,x.2.1,[],0)) fun y=>obnd (kzo (x.1.Op,y)) fun y=>obnd (bzN y) fun y=>some y) (obnd (idx x.1.Kids 0) fun y=>obnd (self (azy y,x.2)) fun y=>some y)))))))))
theorem Fz5 (self:Expr×Asked×Bool->Option (Arg))(hself:azz Tryz.prog tb 35 (kz0 self)):A0 35 (kz0 (dzg self)):=A2 Tryz.func35 (vzY self hself) (.cons (Bz6 self hself) .nil)
def uz8:Expr×Asked×Bool->Option (Arg):=iter dzg big
def Mzz:FSpec tb:=kz0 uz8
theorem Ezp:azz Tryz.prog tb 35 Mzz:=szc (fzj Tryz.func35 (by kernel_rfl)) Fz5
def pzd (x:Arg):Option (Val):=brn x.Area (obnd (azg 15) fun y=>some y) (obnd (idx x.L 0) fun y=>brn (decide (y.Kind=0)) (obnd (bzM {M:=0,S:=0}) fun y=>some y) (obnd (idx x.L 0) fun y=>some y))
def Kz8:FSpec tb:=⟨[(0,.val 96)],[(0,.val 25)],pzd⟩
theorem Bz7:A0 34 Kz8:=A1 Tryz.func34 (.cons azG (.cons dzW .nil))
def tzc (x:Expr×Env×Place):Option (Val):=obnd (uz8 (azy x.1,{V:=x.2.1,At:=x.2.2,Rows:=0,Cols:=0,R:=0,C:=0},true)) fun y=>obnd (pzd y) fun y=>some y
def Kz6:FSpec tb:=⟨[(0,.val 32),(1,.val 35),(2,.val 61)],[(0,.val 25)],tzc⟩
theorem Bz2:A0 10 Kz6:=A1 Tryz.func10 (.cons Ezp (.cons Bz7 .nil))
end
end Go.Proofs.YtmkmofdnmllioaaGreatDoor
/- QC -/
namespace Go.Proofs.YtmkmofdnmllioaaGreatDoor
open Go Go.Ev Go.Lib
open Go.IntKind (i64 u64 u8 i32 u32 i16 u16)
def sz:Nat->Expr->Nat
 | 0,_=>1
 | d+1,e=>1+(e.Kids.map (sz d)).sum
def tr:Nat->Expr->Prop
 | 0,_=>False
 | d+1,e=>e.V.S.length<=3000/\∀k∈e.Kids,tr d k
theorem sz_pos:∀d e,1<=sz d e
 | 0,_=>Nat.le_refl _
 | d+1,e=>by unfold sz;omega
theorem len_sum:∀(l:List Expr) (f:Expr->Nat),(∀k∈l,1<=f k)->l.length<=(l.map f).sum
 | [],_,_=>by simp
 | k::l,f,h=>by
  have h1:=len_sum l f fun x hx=>h x (by simp[hx])
  have h2:=h k (by simp);rw[List.map_cons,List.sum_cons,List.length_cons];omega
theorem kids_sz (d:Nat)(e:Expr):e.Kids.length+1<=sz (d+1) e:=by
 have:=len_sum e.Kids (sz d) fun k _=>sz_pos d k
 unfold sz;omega
theorem mem_sum:∀{l:List Expr} {f:Expr->Nat} {k:Expr},k∈l->f k<=(l.map f).sum
 | x::l,f,k,h=>by
  rw[List.map_cons,List.sum_cons];rcases List.mem_cons.1 h with rfl|h
  .omega
  .have:=mem_sum (f:=f) h;omega
theorem kid_sz {d:Nat}{e k:Expr}(h:k∈e.Kids):sz d k+1<=sz (d+1) e:=by
 have:=mem_sum (f:=sz d) h
 show sz d k+1<=1+(e.Kids.map (sz d)).sum
 omega
theorem IzK {self:Expr×Int×Int×Int->Option (Bool×Int)}{d m:Nat}{e:Expr}(hm:m<=1000)(hd:d<=1000)
 (hs:∀k∈e.Kids,∀n:Nat,n<=m->∃b n',self (k,(d:Int),(m:Int),(n:Int))=some (b,((n':Nat):Int))/\(b=true->n'<=m/\n+sz d k<=n'/\tr d k)) :
 ∀t N (n i:Nat),t<N->m<n+t->n<=m->i<=n->i<=e.Kids.length->∃r,iter (gzn self) N (((d+1:Nat):Int),(m:Int),(n:Int),e,(i:Int))=some r /\
  (∀n',r = .inl ((),n')->∃n2:Nat,n'=n2/\n2<=m/\n+((e.Kids.drop i).map (sz d)).sum<=n2/\∀k∈e.Kids.drop i,tr d k)/\∀b n',r = .inr (b,n')->b=false/\∃n2:Nat,n'=n2
 | 0,_,n,i,_,h,h',_,_=>absurd h (by omega)
 | t+1,0,_,_,h,_,_,_,_=>absurd h (by omega)
 | t+1,N+1,n,i,hN,ht,hn,hin,hi=>by
  rw[azF];generalize hB:iter (gzn self) N=B;unfold gzn;simp only[az2];by_cases hlt:i<e.Kids.length
  .rw[ltT hlt,azc,idxG hlt,aza,show((d+1:Nat):Int)-1=((d:Nat):Int) by omega,azi (by omega) (by omega)];obtain⟨b,n1,h1,h2⟩:=hs _ (List.getElem_mem hlt) n hn;rw[h1,aza];cases b with
   | false=>exact⟨_,rfl,(fun n' h=>by cases h),fun b n' h=>by cases h;exact⟨rfl,_,rfl⟩⟩
   | true =>
    obtain⟨h3,h4,h5⟩:=h2 rfl;have sp:=sz_pos d e.Kids[i];simp only[Bool.not_true,azb];rw[wr1 (by omega)];obtain⟨r,e1,e2,e3⟩:=IzK hm hd hs t N n1 (i+1) (by omega) (by omega) h3 (by omega) hlt;rw[hB]at e1;refine⟨r,e1,fun n' h=>?_,e3⟩;obtain⟨n2,a1,a2,a3,a4⟩:=e2 n' h;rw[List.drop_eq_getElem_cons hlt];refine⟨n2,a1,a2,by rw[List.map_cons,List.sum_cons];omega,fun k hk=>?_⟩;rcases List.mem_cons.1 hk with rfl|hk
    .exact h5
    .exact a4 k hk
  .have hi:i=e.Kids.length:=by omega
   subst hi;rw[ltF,azb];refine⟨_,rfl,fun n' h=>?_,fun b n' h=>by cases h⟩;cases h;exact⟨n,rfl,hn,by simp,by simp⟩
theorem few_is:∀(d N:Nat) (e:Expr) (m n:Nat),d<N->d<=1000->m<=1000->n<=m->∃b n',iter dzM N (e,(d:Int),(m:Int),(n:Int))=some (b,((n':Nat):Int))/\(b=true->n'<=m/\n+sz d e<=n'/\tr d e)
 | _,0,_,_,_,h,_,_,_=>absurd h (by omega)
 | 0,N+1,e,m,n,_,_,hm,hn=>by
  rw[azF];unfold dzM;simp only;rw[wr1 (by omega)];exact⟨false,_,rfl,fun h=>by cases h⟩
 | d+1,N+1,e,m,n,hN,hd,hm,hn=>by
  rw[azF];generalize hS:iter dzM N=S;unfold dzM;simp only[az2];rw[wr1 (by omega),dF0 (show ¬((d+1:Nat):Int)=0 by omega),azb];by_cases h1:(m:Int)<((n+1:Nat):Int)
  .rw[dT0 h1];exact⟨false,_,rfl,fun h=>by cases h⟩
  rw[dF0 h1,azb];by_cases h2:3000<((e.V.S.length:Nat):Int)
  .rw[dT0 h2];exact⟨false,_,rfl,fun h=>by cases h⟩
  rw[dF0 h2,azb];obtain⟨r,e1,e2,e3⟩:=IzK (self:=S) (d:=d) (m:=m) (e:=e) hm (by omega)
   (fun k _ n hn=>by
    obtain⟨b,n',a1,a2⟩:=few_is d N k m n (by omega) (by omega) hm hn;rw[<-hS];exact⟨b,n',a1,a2⟩) (m+1) big (n+1) 0 (by rw[czd];omega) (by omega) (by omega) (by omega) (by omega)
  rw[show pzN S (((d+1:Nat):Int),(m:Int),((n+1:Nat):Int),e,0)=some r from e1,aza];rcases r with⟨_,n2⟩|⟨b,n2⟩
  .obtain⟨n3,rfl,a2,a3,a4⟩:=e2 n2 rfl;refine⟨true,n3,rfl,fun _=>⟨a2,?_,?_⟩⟩
   .show n+(1+(e.Kids.map (sz d)).sum)<=n3
    rw[List.drop_zero]at a3;omega
   .rw[List.drop_zero]at a4;exact⟨by omega,a4⟩
  .obtain⟨rfl,n3,rfl⟩:=e3 _ _ rfl;exact⟨false,n3,rfl,fun h=>by cases h⟩
theorem Few_is {e:Expr}{m:Nat}(hm:m<=1000):∃b,izO (e,(m:Int))=some b/\(b=true->sz 40 e<=m/\tr 40 e):=by
 obtain⟨b,n,h1,h2⟩:=few_is 40 big e m 0 (by rw[czd];omega) (by omega) hm (by omega);unfold izO;simp only[az2];have h1:uzG (e,40,(m:Int),0)=some (b,(n:Int)):=h1;rw[h1,aza];exact⟨b,rfl,fun h=>by obtain⟨a1,a2,a3⟩:=h2 h;exact⟨by omega,a3⟩⟩
theorem tz4 {d:Nat}{e k:Expr}(h:tr (d+1) e)(hk:k∈e.Kids):tr d k:=h.2 k hk
theorem lenK {d m:Nat}{e:Expr}(h:sz (d+1) e<=m):e.Kids.length<m:=by have:=kids_sz d e;omega
theorem szK {d m:Nat}{e k:Expr}(h:sz (d+1) e<=m)(hk:k∈e.Kids):sz d k<=m:=by have:=kid_sz (d:=d) hk;omega
theorem Gzt:∀(d N:Nat) (e:Expr),d<N->sz d e<=1000->tr d e->∃n,iter hzW N e=some n
 | _,0,_,h,_,_=>absurd h (by omega)
 | 0,_,_,_,_,h=>h.elim
 | d+1,N+1,e,hN,hs,ht=>by
  have hl:=lenK hs;have hk:∀k∈e.Kids,∃n,iter hzW N k=some n:=fun k hk=>Gzt d N k (by omega) (szK hs hk) (tz4 ht hk)
  rw[azF];generalize iter hzW N=S at hk;unfold hzW;rw[az2];have:=azC (F:=gzP S) (fun(s:Int) (i:Nat)=>(e,s,(i:Int))) id e.Kids (fun s k=>.inl (if s<(S k).getD 0 then(S k).getD 0 else s)) id (fun _ _=>True) (by omega)
   (fun back s i hi _=>by
    obtain⟨n,hn⟩:=hk _ (List.getElem_mem hi);unfold gzP;simp only[az2];rw[ltT hi,azc,idxG hi,aza,hn,aza,wr1 (by omega),Option.getD_some];by_cases c:s<n
    .rw[dT0 c,if_pos c];rfl
    .rw[dF0 c,if_neg c];rfl)
   (fun _ _ _ _ _ _=>trivial)
   (fun back s _=>by
    unfold gzP;simp only;rw[ltF,azb];rfl) 0 trivial
  rw[show nzA S (e,0,0)=_ from this,aza];exact⟨_,rfl⟩
theorem Gzr:∀(d N:Nat) (e:Expr),d<N->sz d e<=1000->tr d e->∃n,iter hzU N e=some n
 | _,0,_,h,_,_=>absurd h (by omega)
 | 0,_,_,_,_,h=>h.elim
 | d+1,N+1,e,hN,hs,ht=>by
  have hl:=lenK hs;have hk:∀k∈e.Kids,∃n,iter hzU N k=some n:=fun k hk=>Gzr d N k (by omega) (szK hs hk) (tz4 ht hk)
  rw[azF];generalize iter hzU N=S at hk;unfold hzU;rw[az2];have:=azC (F:=gzO S) (fun(s:Int) (i:Nat)=>(e,s,(i:Int))) id e.Kids (fun s k=>.inl (i64.wrap (s+(S k).getD 0))) id (fun _ _=>True) (by omega)
   (fun back s i hi _=>by
    obtain⟨n,hn⟩:=hk _ (List.getElem_mem hi);unfold gzO;simp only[az2];rw[ltT hi,azc,idxG hi,aza,hn,aza,wr1 (by omega),Option.getD_some];rfl)
   (fun _ _ _ _ _ _=>trivial)
   (fun back s _=>by
    unfold gzO;simp only;rw[ltF,azb];rfl) 1 trivial
  rw[show nzz S (e,1,0)=_ from this,aza];exact⟨_,rfl⟩
def okK (e:Expr):Prop:=1<=e.Kind/\e.Kind<=10/\(e.Kind=1->czx e.V=some 0)/\(e.Kind=7->e.Kids.length=1)/\(e.Kind=8->e.Kids.length=2)/\(e.Kind=10->e.Kids.length=1)/\e.Kids.length<=30/\(2<=e.Kind->e.Kind<=5->dzk e.A=some 0)
theorem b2_tot (x:Expr×Bool×Int×Bool×Bool×Int):∃b,kzX x=some b:=by
 unfold kzX
 repeat' apply bzw
 all_goals exact⟨_,rfl⟩
theorem b3_tot (x:Expr×Bool):∃b,dzt x=some b:=by
 unfold dzt
 repeat' apply bzw
 all_goals exact⟨_,rfl⟩
theorem area_tot (a:Area):∃b,dzk a=some b:=by
 have h:∀r,∃b,gzN r=some b:=fun r=>by
  have:∃g,gz6 ⟨r.Row,r.Col⟩=some g:=by
   unfold gz6
   repeat' apply bzw
   all_goals exact⟨_,rfl⟩
  obtain⟨g,hg⟩:=this;unfold gzN;rw[hg,aza];exact bzw ⟨_,rfl⟩ ⟨_,rfl⟩
 obtain⟨x,hx⟩:=h a.A;obtain⟨y,hy⟩:=h a.B;unfold dzk;rw[hx,aza,hy,aza];exact bzw ⟨_,rfl⟩ ⟨_,rfl⟩
theorem b5_kids {e:Expr}{k lo hi:Int}{b:Bool}(h:czs (e,k,lo,hi)=some b)(hb:b=false):(0<k->e.Kids.length=k)/\e.Kids.length<=30:=by
 subst hb;unfold czs at h;by_cases h1:e.Op<lo
 .simp[h1]at h
 by_cases h2:hi<e.Op
 .simp[h1,h2]at h
 by_cases h3:0<k
 .by_cases h4:(e.Kids.length:Int)=k
  .simp[h1,h2,h3,h4]at h;exact⟨fun _=>h4,by omega⟩
  .simp[h1,h2,h3,h4]at h
 .simp[h1,h2,h3]at h;exact⟨fun c=>absurd c h3,by omega⟩
theorem b5_tot (x:Expr×Int×Int×Int):∃b,czs x=some b:=by
 unfold czs
 repeat' apply bzw
 all_goals exact⟨_,rfl⟩
theorem tail_is (e:Expr)(s:Bool)(k:Int):∃r,(obnd (dzt (e,s)) fun y=>brn y (some 1) (obnd (dzu (0,0,e.Kind)) fun y_4=>obnd (czs (e,k,y_4)) fun y=>brn y (some (1:Int)) (some 0)))=some r/\(r=0->(0<k->e.Kids.length=k)/\e.Kids.length<=30):=by
 obtain⟨b,hb⟩:=b3_tot (e,s);rw[hb,aza];cases b with
 | true=>exact⟨_,rfl,fun h=>by cases h⟩
 | false =>
  have:∃z,dzu (0,0,e.Kind)=some z:=by
   unfold dzu
   repeat' apply bzw
   all_goals exact⟨_,rfl⟩
  obtain⟨z,hz⟩:=this;obtain⟨c,hc⟩:=b5_tot (e,k,z);rw[azb,hz,aza,hc,aza];cases c with
  | true=>exact⟨_,rfl,fun h=>by cases h⟩
  | false=>exact⟨_,rfl,fun _=>b5_kids hc rfl⟩
theorem node_is {e:Expr}(hl:e.V.S.length<=3000):∃r,pzc e=some r/\(r=0->okK e):=by
 unfold pzc;simp only[az2];unfold ozF;by_cases h1:e.Kind<1
 .rw[dT0 h1];exact⟨1,rfl,fun h=>by cases h⟩
 by_cases h2:10<e.Kind
 .rw[dF0 h1,dT0 h2];exact⟨1,rfl,fun h=>by cases h⟩
 rw[dF0 h1,dF0 h2];simp only[azb,aza];have hy:∃y,rzB e.Kind=some y/\(e.Kind=1->y.1=true)/\(e.Kind=7->y.2.2.2.2=1)/\(e.Kind=8->y.2.2.2.2=2)/\(e.Kind=10->y.2.2.2.2=1)/\(2<=e.Kind->e.Kind<=5->0<y.2.1):=by
  rcases(show e.Kind=1\/e.Kind=2\/e.Kind=3\/e.Kind=4\/e.Kind=5\/e.Kind=6\/e.Kind=7\/e.Kind=8\/e.Kind=9\/e.Kind=10 by omega)with h|h|h|h|h|h|h|h|h|h<;>rw[h]<;>exact⟨_,rfl,by decide,by decide,by decide,by decide,by decide⟩
 obtain⟨y,hs,k1,k7,k8,k10,kA⟩:=hy;rw[hs,aza];obtain⟨b,hb⟩:=b2_tot (e,y.1,y.2.1,y.2.2.1,y.2.2.2);rw[hb,aza];cases b with
 | true=>exact⟨_,rfl,fun h=>by cases h⟩
 | false =>
  rw[azb];obtain⟨t,ht,htk⟩:=tail_is e y.2.2.1 y.2.2.2.2;have ok:(e.Kind=1->czx e.V=some 0)->(0<y.2.1->dzk e.A=some 0)->t=0->okK e:=fun hv hA h0=>by
   obtain⟨a1,a2⟩:=htk h0;refine⟨by omega,by omega,hv,fun h=>?_,fun h=>?_,fun h=>?_,a2,fun b1 b2=>hA (kA b1 b2)⟩
   .have:=a1 (by rw[k7 h];omega);rw[k7 h]at this;omega
   .have:=a1 (by rw[k8 h];omega);rw[k8 h]at this;omega
   .have:=a1 (by rw[k10 h];omega);rw[k10 h]at this;omega
  obtain⟨g,hg⟩:=area_tot e.A;rw[hg,ht];cases hv:y.1 with
  | true =>
   obtain⟨c,_,hc,_⟩:=qzW hl;rw[azc,hc,aza];by_cases h0:c=0
   .subst h0;rw[dT0 rfl];simp only[Bool.not_true,azb];by_cases hk:e.V.Kind=0
    .rw[dT0 hk];exact⟨_,rfl,fun h=>by cases h⟩
    rw[dF0 hk,azb];by_cases hp:0<y.2.1
    .rw[dT0 hp,azc,aza];by_cases hgg:g=0
     .rw[dT0 hgg];exact⟨t,rfl,ok (fun _=>hc) fun _=>by rw[hg,hgg]⟩
     .rw[dF0 hgg];exact⟨_,rfl,fun h=>by cases h⟩
    .rw[dF0 hp];exact⟨t,rfl,ok (fun _=>hc) fun c=>absurd c hp⟩
   .rw[dF0 h0];exact⟨c,rfl,fun h=>absurd h h0⟩
  | false =>
   have nv:e.Kind=1->czx e.V=some 0:=fun h=>by rw[k1 h]at hv;cases hv
   rw[azb];by_cases hp:0<y.2.1
   .rw[dT0 hp,azc,aza];by_cases hgg:g=0
    .rw[dT0 hgg];exact⟨t,rfl,ok nv fun _=>by rw[hg,hgg]⟩
    .rw[dF0 hgg];exact⟨_,rfl,fun h=>by cases h⟩
   .rw[dF0 hp];exact⟨t,rfl,ok nv fun c=>absurd c hp⟩
def okN:Nat->Expr->Prop
 | 0,_=>False
 | d+1,e=>okK e/\∀k∈e.Kids,okN d k
theorem foldZ {A:Type}(g:A->Int):∀(l:List A) (s:Int),azo (fun(s:Int) k=>if s=0 then(.inl (g k):Int⊕Int)else .inr s) id s l=0->s=0/\∀k∈l,g k=0
 | [],s,h=>⟨h,by simp⟩
 | k::l,s,h=>by
  simp only[azo]at h;by_cases c:s=0
  .rw[if_pos c]at h;obtain⟨a1,a2⟩:=foldZ g l (g k) h;exact⟨c,by intro x hx;rcases List.mem_cons.1 hx with rfl|hx;exact a1;exact a2 x hx⟩
  .rw[if_neg c]at h;exact absurd h c
theorem GzJ:∀(d N:Nat) (e:Expr),d<N->sz d e<=1000->tr d e->∃n,iter hz4 N e=some n/\(n=0->okN d e)
 | _,0,_,h,_,_=>absurd h (by omega)
 | 0,_,_,_,_,h=>h.elim
 | d+1,N+1,e,hN,hs,ht=>by
  have hl:=lenK hs;have hk:∀k∈e.Kids,∃n,iter hz4 N k=some n/\(n=0->okN d k):=fun k hk=>GzJ d N k (by omega) (szK hs hk) (tz4 ht hk)
  rw[azF];generalize iter hz4 N=S at hk;obtain⟨n0,hn0,hk0⟩:=node_is ht.1;unfold hz4;rw[az2,hn0,aza];have:=azC (F:=gzQ S) (fun(s:Int) (i:Nat)=>(e,s,(i:Int))) id e.Kids (fun(s:Int) k=>if s=0 then(.inl ((S k).getD 0):Int⊕Int)else .inr s) id (fun _ _=>True) (by omega)
   (fun back s i hi _=>by
    obtain⟨n,hn,_⟩:=hk _ (List.getElem_mem hi);unfold gzQ;simp only[az2];rw[ltT hi,azc,idxG hi,aza,hn,aza,wr1 (by omega),Option.getD_some];by_cases c:s=0
    .rw[dT0 c,if_pos c];rfl
    .rw[dF0 c,if_neg c];rfl)
   (fun _ _ _ _ _ _=>trivial)
   (fun back s _=>by
    unfold gzQ;simp only;rw[ltF,azb];rfl) n0 trivial
  rw[show nzE S (e,n0,0)=_ from this,aza];refine⟨_,rfl,fun h=>?_⟩;obtain⟨a1,a2⟩:=foldZ (fun k=>(S k).getD 0) e.Kids n0 h;refine⟨hk0 a1,fun k hm=>?_⟩;obtain⟨n,hn,h3⟩:=hk k hm;have:=a2 k hm;rw[hn,Option.getD_some]at this;exact h3 this
theorem checkE {e:Expr}(hs:sz 40 e<=1000)(ht:tr 40 e):∃r,fzJ e=some r/\(r=0->okN 40 e):=by
 obtain⟨a,ha⟩:=Gzt 40 big e (by rw[czd];omega) hs ht;obtain⟨b,hb⟩:=Gzr 40 big e (by rw[czd];omega) hs ht;obtain⟨c,hc,hc0⟩:=GzJ 40 big e (by rw[czd];omega) hs ht;unfold fzJ;simp only[az2];rw[show rzt e=_ from ha,show rzs e=_ from hb,show rzA e=_ from hc,aza];by_cases h1:16<a
 .rw[dT0 h1];exact⟨11,rfl,fun h=>by cases h⟩
 rw[dF0 h1,azb,aza];by_cases h2:1024<b
 .rw[dT0 h2];exact⟨4,rfl,fun h=>by cases h⟩
 rw[dF0 h2,azb,aza];exact⟨c,rfl,hc0⟩
def lv (P:Expr->Prop):Nat->Expr->Prop
 | 0,_=>False
 | d+1,e=>if 2<=e.Kind/\e.Kind<=6 then P e else ∀k∈e.Kids,lv P d k
theorem JzY:∀(d N:Nat) (e:Expr),d<N->sz d e<=1000->tr d e->∃l,iter dzb N e=some l/\l.length<=sz d e/\∀P,(∀x∈l,P x)->lv P d e
 | _,0,_,h,_,_=>absurd h (by omega)
 | 0,_,_,_,_,h=>h.elim
 | d+1,N+1,e,hN,hs,ht=>by
  have hl:=lenK hs;have hk:∀k∈e.Kids,∃l,iter dzb N k=some l/\l.length<=sz d k/\∀P,(∀x∈l,P x)->lv P d k:=fun k hk=>JzY d N k (by omega) (szK hs hk) (tz4 ht hk)
  rw[azF];generalize iter dzb N=S at hk;have this:=azC (F:=fzs S) (fun(s:List Expr) (i:Nat)=>(e,s,(i:Int))) id e.Kids (fun(s:List Expr) k=>(.inl (s++(S k).getD []):List Expr⊕List Expr)) id (fun s i=>s.length<=1000*i) (by omega)
   (fun back s i hi hp=>by
    obtain⟨l,hn,h2,_⟩:=hk _ (List.getElem_mem hi);have h3:=szK hs (List.getElem_mem hi);unfold fzs;simp only[az2];rw[ltT hi,azc,idxG hi,aza,hn,aza,appN (by omega),aza,wr1 (by omega),Option.getD_some];rfl)
   (fun s i hi s' hp h=>by
    obtain⟨l,hn,h2,_⟩:=hk _ (List.getElem_mem hi);have h3:=szK hs (List.getElem_mem hi);cases h;rw[hn,Option.getD_some,List.length_append];omega)
   (fun back s _=>by
    unfold fzs;simp only;rw[ltF,azb];rfl) [] (by simp)
  rw[bzx]at this;have hf:∀(m s:List Expr),m.foldl (fun s c=>s++(S c).getD []) s=s++m.flatMap fun c=>(S c).getD []:=by
   intro m;induction m with
   | nil=>intro s;simp
   | cons v m ih=>intro s;rw[List.foldl_cons,ih,List.flatMap_cons,List.append_assoc]
  rw[id,id,hf,List.nil_append]at this;have hlen:∀m:List Expr,(∀k∈m,k∈e.Kids)->(m.flatMap fun c=>(S c).getD []).length<=(m.map (sz d)).sum:=by
   intro m;induction m with
   | nil=>intro _;simp
   | cons v m ih =>
    intro h;obtain⟨l,hn,h2,_⟩:=hk v (h v (by simp));have:=ih fun k hk=>h k (by simp[hk])
    rw[List.flatMap_cons,List.length_append,hn,Option.getD_some,List.map_cons,List.sum_cons];omega
  have hP:∀P,(∀x∈(e.Kids.flatMap fun c=>(S c).getD []),P x)->∀k∈e.Kids,lv P d k:=fun P h k hm=>by
   obtain⟨l,hn,_,h3⟩:=hk k hm;exact h3 P fun x hx=>h x (List.mem_flatMap.2 ⟨k,hm,by rw[hn,Option.getD_some];exact hx⟩)
  have hz:(e.Kids.flatMap fun c=>(S c).getD []).length<=sz (d+1) e:=by
   have:=hlen e.Kids fun _ h=>h
   show _<=1+(e.Kids.map (sz d)).sum
   omega
  unfold dzb;rw[az2,show kzW S (e,[],0)=_ from this,aza];by_cases h1:2<=e.Kind
  .by_cases h2:e.Kind<=6
   .rw[dT0 h1,dT0 h2];refine⟨[e],rfl,by simpa using sz_pos (d+1) e,fun P h=>?_⟩;unfold lv;rw[if_pos ⟨h1,h2⟩];exact h e (by simp)
   .rw[dT0 h1,dF0 h2];refine⟨_,rfl,hz,fun P h=>?_⟩;unfold lv;rw[if_neg (by omega)];exact hP P h
  .rw[dF0 h1];refine⟨_,rfl,hz,fun P h=>?_⟩;unfold lv;rw[if_neg (by omega)];exact hP P h
theorem refsF {e:Expr}(hs:sz 40 e<=1000)(ht:tr 40 e):∃l,pzb e=some l/\l.length<=1000/\∀P,(∀x∈l,P x)->lv P 40 e:=by
 obtain⟨l,h1,h2,h3⟩:=JzY 40 big e (by rw[czd];omega) hs ht;exact⟨l,h1,by omega,h3⟩
theorem ozc {X Z:Type}{F:(X->Option Z)->X->Option Z}(mk:Nat->X)(n:Nat)(C:Nat->Prop)(Q:Z->Prop)(z0:Z)(hn:n<=1000000000)
 (h:∀back i,i<n->(F back (mk i)=back (mk (i+1))/\C i)\/∃z,F back (mk i)=some z/\Q z) (hend:∀back,F back (mk n)=some z0) :
 ∃z,iter F big (mk 0)=some z/\(Q z\/z=z0/\∀i,i<n->C i):=by
 have key:∀k N i,i+k=n->k<N->∃z,iter F N (mk i)=some z/\(Q z\/z=z0/\∀j,i<=j->j<n->C j):=by
  intro k;induction k with
  | zero =>
   intro N i hi hN;obtain⟨m,rfl⟩:∃m,N=m+1:=⟨N-1,by omega⟩;have:i=n:=by omega
   subst this;exact⟨z0,by rw[azF,hend],.inr ⟨rfl,fun j h1 h2=>absurd h2 (by omega)⟩⟩
  | succ k ih =>
   intro N i hi hN;obtain⟨m,rfl⟩:∃m,N=m+1:=⟨N-1,by omega⟩;rcases h (iter F m) i (by omega)with⟨h1,h2⟩|⟨z,h1,h2⟩
   .obtain⟨z,e1,e2⟩:=ih m (i+1) (by omega) (by omega);refine⟨z,by rw[azF,h1,e1],?_⟩;rcases e2 with e2|⟨hz,e2⟩
    .exact .inl e2
    .refine .inr ⟨hz,fun j a b=>?_⟩;by_cases c:j=i
     .rw[c];exact h2
     .exact e2 j (by omega) b
   .exact⟨z,by rw[azF,h1],.inl h2⟩
 obtain⟨z,e1,e2⟩:=key n big 0 (by omega) (by rw[czd];omega);rcases e2 with e2|⟨hz,e2⟩
 .exact⟨z,e1,.inl e2⟩
 .exact⟨z,e1,.inr ⟨hz,fun j hj=>e2 j (by omega) hj⟩⟩
def okSl (v:Env)(i:Nat):Prop:=∃h:i<v.Slots.length,dzm (v.Slots[i].P,v.Sheets)=some true/\czx v.Slots[i].V=some 0/\(0<i->∃h1:i-1<v.Slots.length,gz7 (v.Slots[i-1].P,v.Slots[i].P)=some true)
def yzH (e:Expr):Prop:=e.Kind≠6
structure okEnv (v:Env):Prop where
 len:v.Slots.length<=60
 txt:∀i (h:i<v.Slots.length),v.Slots[i].V.S.length<=3000
 slo:∀i,i<v.Slots.length->okSl v i
 nl:v.Names.length<=20
 nam:∀i (h:i<v.Names.length),sz 40 v.Names[i]<=200/\tr 40 v.Names[i]/\okN 40 v.Names[i]/\lv yzH 40 v.Names[i]
theorem fewEnv (v:Env):∃b,qzu v=some b/\(b=true->v.Slots.length<=60/\v.Names.length<=20/\(∀i (h:i<v.Slots.length),v.Slots[i].V.S.length<=3000)/\∀i (h:i<v.Names.length),sz 40 v.Names[i]<=200/\tr 40 v.Names[i]):=by
 unfold qzu;by_cases h1:60<(v.Slots.length:Int)
 .rw[dT0 h1];exact⟨false,rfl,fun h=>by cases h⟩
 by_cases h2:20<(v.Names.length:Int)
 .rw[dF0 h1,dT0 h2];exact⟨false,rfl,fun h=>by cases h⟩
 rw[dF0 h1,dF0 h2,azb,azb];obtain⟨z,e1,e2⟩:=ozc (F:=iz9) (fun i=>(v,(i:Int))) v.Slots.length (fun i=>∃h:i<v.Slots.length,v.Slots[i].V.S.length<=3000) (fun z=>z = .inr false) (.inl ()) (by omega)
  (fun back i hi=>by
   unfold iz9;simp only;rw[ltT hi,azc,idxG hi,aza,wr1 (by omega)];by_cases c:3000<((v.Slots[i].V.S.length:Nat):Int)
   .rw[dT0 c];exact .inr ⟨_,rfl,rfl⟩
   .rw[dF0 c];exact .inl ⟨rfl,hi,by omega⟩)
  (fun back=>by
   unfold iz9;simp only;rw[ltF,azb])
 rw[show pzP (v,0)=_ from e1,aza];obtain⟨y,f1,f2⟩:=ozc (F:=jza) (fun i=>(v,(i:Int))) v.Names.length (fun i=>∃h:i<v.Names.length,sz 40 v.Names[i]<=200/\tr 40 v.Names[i]) (fun z=>z = .inr false) (.inl ()) (by omega)
  (fun back i hi=>by
   obtain⟨b,hb,hb2⟩:=Few_is (e:=v.Names[i]) (m:=200) (by omega);have hb:izO (v.Names[i],200)=some b:=hb;unfold jza;simp only[az2];rw[ltT hi,azc,idxG hi,aza,hb,aza,wr1 (by omega)];cases b with
   | false=>exact .inr ⟨_,rfl,rfl⟩
   | true=>exact .inl ⟨rfl,hi,hb2 rfl⟩)
  (fun back=>by
   unfold jza;simp only;rw[ltF,azb])
 rcases e2 with rfl|⟨rfl,e2⟩
 .exact⟨false,rfl,fun h=>by cases h⟩
 simp only[osum];rw[show pzQ (v,0)=_ from f1,aza];rcases f2 with rfl|⟨rfl,f2⟩
 .exact⟨false,rfl,fun h=>by cases h⟩
 refine⟨true,rfl,fun _=>⟨by omega,by omega,fun i h=>?_,fun i h=>?_⟩⟩
 .obtain⟨_,h'⟩:=e2 i h;exact h'
 .obtain⟨_,h'⟩:=f2 i h;exact h'
theorem less_tot (p q:Place):∃b,gz7 (p,q)=some b:=by
 unfold gz7
 repeat' apply bzw
 all_goals exact⟨_,rfl⟩
theorem good_tot (p:Place)(n:Int):∃b,dzm (p,n)=some b:=by
 have:∃g,gz6 p.At=some g:=by
  unfold gz6
  repeat' apply bzw
  all_goals exact⟨_,rfl⟩
 obtain⟨g,hg⟩:=this;unfold dzm;simp only;rw[hg]
 repeat' apply bzw
 all_goals exact⟨_,rfl⟩
theorem named_is {e:Expr}(hs:sz 40 e<=1000)(ht:tr 40 e):∃b,nzI e=some b/\(b=false->lv yzH 40 e):=by
 obtain⟨l,h1,h2,h3⟩:=refsF hs ht;unfold nzI;rw[az2,h1,aza];obtain⟨z,e1,e2⟩:=ozc (F:=gzT) (fun i=>(l,(i:Int))) l.length (fun i=>∃h:i<l.length,yzH l[i]) (fun z=>z = .inr true) (.inl ()) (by omega)
  (fun back i hi=>by
   unfold gzT;simp only;rw[ltT hi,azc,idxG hi,aza,wr1 (by omega)];by_cases c:l[i].Kind=6
   .rw[dT0 c];exact .inr ⟨_,rfl,rfl⟩
   .rw[dF0 c];exact .inl ⟨rfl,hi,c⟩)
  (fun back=>by
   unfold gzT;simp only;rw[ltF,azb])
 rw[show nzJ (l,0)=_ from e1,aza];rcases e2 with rfl|⟨rfl,e2⟩
 .exact⟨true,rfl,fun h=>by cases h⟩
 .refine⟨false,rfl,fun _=>h3 yzH fun x hx=>?_⟩;obtain⟨i,hi,rfl⟩:=List.mem_iff_getElem.1 hx;obtain⟨_,h⟩:=e2 i hi;exact h
theorem Gz2 {e:Expr}(hs:sz 40 e<=1000)(ht:tr 40 e):∃b,kzj e=some b:=by
 obtain⟨l,h1,h2,_⟩:=refsF hs ht;unfold kzj;rw[az2,h1,aza];have:=azC (F:=gzI) (fun(s:Int) (i:Nat)=>(l,s,(i:Int))) id l (fun(s:Int) k=>(.inl (if k.Kind=3 then i64.wrap (s+1)else if k.Kind=5 then i64.wrap (s+1)else s):Int⊕Int)) id (fun _ _=>True) (by omega)
  (fun back s i hi _=>by
   unfold gzI;simp only;rw[ltT hi,azc,idxG hi,aza,wr1 (by omega)];by_cases c:l[i].Kind=3
   .rw[dT0 c,if_pos c];rfl
   .rw[dF0 c,if_neg c,azb,aza];by_cases c5:l[i].Kind=5
    .rw[dT0 c5,if_pos c5];rfl
    .rw[dF0 c5,if_neg c5];rfl)
  (fun _ _ _ _ _ _=>trivial)
  (fun back s _=>by
   unfold gzI;simp only;rw[ltF,azb];rfl) 0 trivial
 rw[show nzp (l,0,0)=_ from this,aza];exact⟨_,rfl⟩
theorem Jz6 {l:List Expr}(hl:l.length<=1000)(h:∀i (h:i<l.length),sz 40 l[i]<=200/\tr 40 l[i]):∃b,jzO l=some b:=by
 unfold jzO;obtain⟨z,e1,e2⟩:=ozc (F:=ezr) (fun i=>(l,(i:Int))) l.length (fun _=>True) (fun z=>z = .inr false) (.inl ()) (by omega)
  (fun back i hi=>by
   obtain⟨a1,a2⟩:=h i hi;obtain⟨b,hb⟩:=Gz2 (e:=l[i]) (by omega) a2;unfold ezr;simp only[az2];rw[ltT hi,azc,idxG hi,aza,hb,aza,wr1 (by omega)];cases b with
   | false=>exact .inr ⟨_,rfl,rfl⟩
   | true=>exact .inl ⟨rfl,trivial⟩)
  (fun back=>by
   unfold ezr;simp only;rw[ltF,azb])
 rw[show kzi (l,0)=_ from e1,aza];rcases e2 with rfl|⟨rfl,e2⟩
 .exact⟨_,rfl⟩
 .exact⟨_,rfl⟩
theorem checkEnv {v:Env}(h60:v.Slots.length<=60)(h20:v.Names.length<=20)(ht:∀i (h:i<v.Slots.length),v.Slots[i].V.S.length<=3000)(hn:∀i (h:i<v.Names.length),sz 40 v.Names[i]<=200/\tr 40 v.Names[i]):
 ∃r,jzS v=some r/\(r=0->okEnv v/\1<=v.Sheets):=by
 unfold jzS;by_cases h1:v.Sheets<1
 .rw[dT0 h1];exact⟨1,rfl,fun h=>by cases h⟩
 by_cases h2:8<v.Sheets
 .rw[dF0 h1,dT0 h2];exact⟨1,rfl,fun h=>by cases h⟩
 rw[dF0 h1,dF0 h2,dF0 (show ¬4096<(v.Slots.length:Int) by omega),dF0 (show ¬1024<(v.Names.length:Int) by omega)];simp only[azb];obtain⟨z,e1,e2⟩:=ozc (F:=ezx) (fun i=>(v,(i:Int))) v.Slots.length (okSl v) (fun z=>∃r,z = .inr r/\r≠0) (.inl ()) (by omega)
  (fun back i hi=>by
   obtain⟨g,hg⟩:=good_tot v.Slots[i].P v.Sheets;obtain⟨c,_,hc,_⟩:=qzW (ht i hi);unfold ezx;simp only;rw[ltT hi,azc,idxG hi,aza,hg,aza,wr1 (by omega)];cases g with
   | false=>exact .inr ⟨_,rfl,_,rfl,by decide⟩
   | true =>
    simp only[Bool.not_true,azb];rw[hc,aza];by_cases c0:c=0
    .subst c0;rw[dT0 rfl];simp only[Bool.not_true,azb];by_cases k0:v.Slots[i].V.Kind=0
     .rw[dT0 k0];exact .inr ⟨_,rfl,_,rfl,by decide⟩
     rw[dF0 k0,azb];by_cases i0:i=0
     .subst i0;exact .inl ⟨rfl,hi,hg,hc,fun h=>absurd h (by omega)⟩
     .obtain⟨j,rfl⟩:∃j,i=j+1:=⟨i-1,by omega⟩;obtain⟨b,hb⟩:=less_tot v.Slots[j].P v.Slots[j+1].P;rw[dT0 (show(0:Int)<((j+1:Nat):Int) by omega),azc,show((j+1:Nat):Int)-1=((j:Nat):Int) by omega,azi (by omega) (by omega),idxG (show j<v.Slots.length by omega),aza,hb,aza];cases b with
      | false=>exact .inr ⟨_,rfl,_,rfl,by decide⟩
      | true=>exact .inl ⟨rfl,hi,hg,hc,fun _=>⟨by omega,hb⟩⟩
    .rw[dF0 c0];exact .inr ⟨_,rfl,_,rfl,c0⟩)
  (fun back=>by
   unfold ezx;simp only;rw[ltF,azb])
 rw[show kzy (v,0)=_ from e1,aza];obtain⟨y,f1,f2⟩:=ozc (F:=ezy) (fun i=>(v,(i:Int))) v.Names.length (fun i=>∃h:i<v.Names.length,okN 40 v.Names[i]/\lv yzH 40 v.Names[i]) (fun z=>∃r,z = .inr r/\r≠0) (.inl ()) (by omega)
  (fun back i hi=>by
   obtain⟨a1,a2⟩:=hn i hi;obtain⟨c,hc,hc0⟩:=checkE (by omega) a2;obtain⟨b,hb,hb0⟩:=named_is (by omega) a2;unfold ezy;simp only[az2];rw[ltT hi,azc,idxG hi,aza,hc,aza,aza,hb,aza,wr1 (by omega)];by_cases c0:c=0
   .subst c0;rw[dT0 rfl];simp only[Bool.not_true,azb];cases b with
    | true=>exact .inr ⟨_,rfl,_,rfl,by decide⟩
    | false=>exact .inl ⟨rfl,hi,hc0 rfl,hb0 rfl⟩
   .rw[dF0 c0];exact .inr ⟨_,rfl,_,rfl,c0⟩)
  (fun back=>by
   unfold ezy;simp only;rw[ltF,azb])
 rcases e2 with⟨r,rfl,hr⟩|⟨rfl,e2⟩
 .exact⟨r,rfl,fun h=>absurd h hr⟩
 simp only[osum];rw[show kzz (v,0)=_ from f1,aza];rcases f2 with⟨r,rfl,hr⟩|⟨rfl,f2⟩
 .exact⟨r,rfl,fun h=>absurd h hr⟩
 refine⟨0,rfl,fun _=>⟨⟨h60,ht,e2,h20,fun i h=>?_⟩,by omega⟩⟩;obtain⟨_,b1,b2⟩:=f2 i h;obtain⟨a1,a2⟩:=hn i h;exact⟨a1,a2,b1,b2⟩
theorem few_all (e:Expr)(v:Env):∃b,qzv (e,v)=some b/\(b=true->sz 40 e<=60/\tr 40 e/\okN 40 e/\okEnv v/\1<=v.Sheets):=by
 unfold qzv;simp only[az2];obtain⟨b,h1,h1'⟩:=Few_is (e:=e) (m:=60) (by omega);have h1:izO (e,60)=some b:=h1;rw[h1,aza];cases b with
 | false=>exact⟨false,rfl,fun h=>by cases h⟩
 | true =>
  obtain⟨hs,ht⟩:=h1' rfl;obtain⟨b,h2,h2'⟩:=fewEnv v;rw[azc,h2,aza];cases b with
  | false=>exact⟨false,rfl,fun h=>by cases h⟩
  | true =>
   obtain⟨a1,a2,a3,a4⟩:=h2' rfl;obtain⟨c,h3,h3'⟩:=checkE (e:=e) (by omega) ht;rw[azc,h3,aza];by_cases c0:c=0
   .obtain⟨f,h4,h4'⟩:=checkEnv a1 a2 a3 a4;rw[dT0 c0,azc,h4,aza];by_cases f0:f=0
    .obtain⟨b,h5⟩:=Gz2 (e:=e) (by omega) ht;rw[dT0 f0,azc,h5,aza];cases b with
     | false=>exact⟨false,rfl,fun h=>by cases h⟩
     | true =>
      obtain⟨b,h6⟩:=Jz6 (l:=v.Names) (by omega) a4;rw[azc,h6,aza];exact⟨b,rfl,fun _=>⟨hs,ht,h3' c0,h4' f0⟩⟩
    .rw[dF0 f0];exact⟨false,rfl,fun h=>by cases h⟩
   .rw[dF0 c0];exact⟨false,rfl,fun h=>by cases h⟩
theorem izC (v:Val):(obnd (putR (some v)) fun y=>osum y (fun _=>some (vE 15)) fun y=>some y.2)=some v:=rfl
theorem gate {k:Nat}(hk:k<30)(l:List Arg):czi ((k:Int),l)=if arLo k<=l.length/\(l.length:Int)<=arHi k then core k l else some (vE 15):=by
 by_cases h:arLo k<=l.length/\(l.length:Int)<=arHi k
 .rw[if_pos h,Izl hk h.1 h.2]
 .rw[if_neg h,apply_bad hk (by omega)]
theorem ar_tab:arLo 5=1/\arHi 5=1/\arLo 6=1/\arHi 6=1/\arLo 7=1/\arHi 7=1/\arLo 8=2/\arHi 8=2/\arLo 9=2/\arHi 9=2/\arLo 13=1/\arHi 13=1/\arLo 21=1/\arHi 21=1/\arLo 22=1/\arHi 22=1/\arLo 29=1/\arHi 29=1:=by decide +kernel
theorem ar_tab2:arLo 14=1/\arHi 14=1/\arLo 15=1/\arHi 15=2/\arLo 16=1/\arHi 16=2/\arLo 17=3/\arHi 17=3/\arLo 19=1/\arHi 19=1/\arLo 20=1/\arHi 20=1/\arLo 26=2/\arHi 26=2/\arLo 27=2/\arHi 27=2:=by decide +kernel
theorem ar_tab3:arLo 10=2/\arHi 10=3/\arLo 23=2/\arHi 23=2/\arLo 24=2/\arHi 24=2/\arLo 25=2/\arHi 25=9223372036854775807/\arLo 28=0/\arHi 28=0:=by decide +kernel
theorem wz2 {l:List Arg}(hb:l.any badB=false)(hv:∀a∈l,∀v∈a.L,okW v):∀v∈l.map fst1,okW v:=by
 intro v h;obtain⟨b,hbm,rfl⟩:=List.mem_map.1 h;have:badB b=false:=by
  rw[List.any_eq_false]at hb;simpa using hb b hbm
 exact hv b hbm _ (ezG this)
theorem app_num {k:Nat}{l:List Arg}(hk:k=5\/k=6\/k=7\/k=8\/k=9)(hl:l.length<=1000)(hv:∀a∈l,∀v∈a.L,okW v):
 czi ((k:Int),l)=some (if l.length=arN k/\l.any badB=false then recL k (l.map fst1)else vE 15):=by
 have hg:(arLo k<=l.length/\(l.length:Int)<=arHi k)↔l.length=arN k:=by
  obtain⟨a1,a2,a3,a4,a5,a6,a7,a8,a9,a10,_⟩:=ar_tab;unfold arN;rcases hk with rfl|rfl|rfl|rfl|rfl
  .rw[a1,a2,if_pos (by omega)];omega
  .rw[a3,a4,if_pos (by omega)];omega
  .rw[a5,a6,if_pos (by omega)];omega
  .rw[a7,a8,if_neg (by omega)];omega
  .rw[a9,a10,if_neg (by omega)];omega
 rw[gate (by omega)];by_cases h:l.length=arN k
 .rw[if_pos (hg.2 h),wzR hl (by omega)];cases hb:l.any badB with
  | true=>rw[if_pos rfl,if_neg (by simp)]
  | false =>
   rw[if_neg (by simp),if_pos ⟨h,rfl⟩,Lzi _ (by omega),reck_is (by omega) (wz2 hb hv)];rw[List.length_map];unfold arN at h;by_cases h7:(k:Int)<=7
   .rw[if_pos h7]at h ⊢;exact h
   .rw[if_neg h7]at h ⊢;exact h
 .rw[if_neg (fun c=>h (hg.1 c)),if_neg (fun c=>h c.1)]
theorem app_ask {k:Nat}{l:List Arg}(hk:k=13\/k=21\/k=22\/k=29)(hl:l.length<=1000)(hv:∀a∈l,∀v∈a.L,okW v):
 czi ((k:Int),l)=some (if l.length=1/\l.any badB=false then askV k ((l.map fst1).headD v0)else vE 15):=by
 have hg:(arLo k<=l.length/\(l.length:Int)<=arHi k)↔l.length=1:=by
  obtain⟨_,_,_,_,_,_,_,_,_,_,a1,a2,a3,a4,a5,a6,a7,a8⟩:=ar_tab;rcases hk with rfl|rfl|rfl|rfl
  .rw[a1,a2];omega
  .rw[a3,a4];omega
  .rw[a5,a6];omega
  .rw[a7,a8];omega
 rw[gate (by omega)];by_cases h:l.length=1
 .rw[if_pos (hg.2 h),wzR hl (by omega)];cases hb:l.any badB with
  | true=>rw[if_pos rfl,if_neg (by simp)]
  | false =>
   rw[if_neg (by simp),if_pos ⟨h,rfl⟩];obtain⟨a,rfl⟩:∃a,l=[a]:=by
    match l,h with
    | [a],_=>exact⟨a,rfl⟩
   have oa:=wz2 hb hv (fst1 a) (by simp);rw[show([a].map fst1).headD v0=fst1 a from rfl,show [a].map fst1=[fst1 a] from rfl];unfold askV;rcases hk with rfl|rfl|rfl|rfl
   .rw[show(((13:Nat)):Int)=13 from rfl,MzL [] oa,if_pos rfl];cases(truR (fst1 a)).2.2<;>rfl
   .rw[show(((21:Nat)):Int)=21 from rfl,Jz5];rfl
   .rw[show(((22:Nat)):Int)=22 from rfl,MzK];rfl
   .rw[show(((29:Nat)):Int)=29 from rfl,Lzj [] (Iz9 oa)];rfl
 .rw[if_neg (fun c=>h (hg.1 c)),if_neg (fun c=>h c.1)]
theorem Izj {k:Nat}{l:List Arg}(hk:k=14\/k=15\/k=16\/k=17\/k=19\/k=20\/k=26\/k=27)(hl:l.length<=1000)(hv:∀a∈l,∀v∈a.L,okW v):czi ((k:Int),l)=some (gzw k l):=by
 have hg:(arLo k<=l.length/\(l.length:Int)<=arHi k)↔arOk k l=true:=by
  obtain⟨a1,a2,a3,a4,a5,a6,a7,a8,a9,a10,a11,a12,a13,a14,a15,a16⟩:=ar_tab2;unfold arOk;rcases hk with rfl|rfl|rfl|rfl|rfl|rfl|rfl|rfl
  .rw[a1,a2];simp;omega
  .rw[a3,a4];simp;omega
  .rw[a5,a6];simp;omega
  .rw[a7,a8];simp;omega
  .rw[a9,a10];simp;omega
  .rw[a11,a12];simp;omega
  .rw[a13,a14];simp;omega
  .rw[a15,a16];simp;omega
 rw[gate (by omega)];unfold gzw;by_cases h:arOk k l=true
 .rw[if_pos (hg.2 h),wzR hl (by omega),h];cases hb:l.any badB with
  | true=>rfl
  | false =>
   rw[if_neg (by simp),if_pos (show(true&&!false)=true from rfl),Lzk _ (by omega)];have hf:=wz2 hb hv;have hne:l≠[]:=by
    intro e;subst e;unfold arOk at h;rcases hk with rfl|rfl|rfl|rfl|rfl|rfl|rfl|rfl<;>simp at h
   obtain⟨a,t,rfl⟩:∃a t,l=a::t:=by
    cases l with
    | nil=>exact absurd rfl hne
    | cons a t=>exact⟨a,t,rfl⟩
   rw[show((a::t).map fst1).headD v0=fst1 a from rfl,show((a::t).map fst1).tail=t.map fst1 from rfl,List.map_cons];have oa:=hf (fst1 a) (by simp);have ot:∀w∈t.map fst1,okW w:=fun w hw=>hf w (by rw[List.map_cons];exact List.mem_cons_of_mem _ hw)
   have hlen:=h;unfold arOk at hlen;rcases(show(k=15\/k=16\/k=17)\/(k=14\/k=19\/k=20)\/k=26\/k=27 by omega)with hp|ho|rfl|rfl
   .rw[Kzl (by omega) oa ot (by
     rw[List.length_map];rcases hp with rfl|rfl|rfl<;>simp at hlen<;>omega),wordV_p (by omega)]<;>rfl
   .have ht:t=[]:=by
     rcases ho with rfl|rfl|rfl<;>simp at hlen<;>exact hlen
    subst ht;exact MzR (by omega) oa
   .obtain⟨b,rfl⟩:∃b,t=[b]:=by
     simp at hlen
     match t,hlen with
     | [b],_=>exact⟨b,rfl⟩
    exact MzS oa (ot _ (by simp))
   .obtain⟨b,rfl⟩:∃b,t=[b]:=by
     simp at hlen
     match t,hlen with
     | [b],_=>exact⟨b,rfl⟩
    exact Lzr oa (ot _ (by simp))
 .have h':arOk k l=false:=by simpa using h
  rw[if_neg (fun c=>h (hg.1 c)),h'];rfl
theorem refBad_24 {l:List Arg}(h:¬l.length=2):bzb (24,l)=some (vE 15):=by
 unfold bzb fzK;simp only[az7,aza];by_cases h0:(l.length:Int)=0
 .rw[dT0 h0,azc]
 .rw[dF0 h0,azb];simp only[decide_true,azc];rw[dF0 (show ¬(l.length:Int)=2 by omega)];rfl
theorem Azs {op:Int}{a:Arg}{l:List Arg}(hop:¬op=24)(h25:op=25->1<=l.length)(hb:∀v,az0 (a::l,v0,v,0,op)=some (.inr ((),vE 15))):bzb (op,a::l)=some (vE 15):=by
 rw[izs hop h25,hb,aza];cases badB a<;>rfl
theorem refBad_10 {l:List Arg}(h:l.length<2\/3<l.length):bzb (10,l)=some (vE 15):=by
 cases l with
 | nil=>rfl
 | cons a t =>
  refine Azs (by decide) (fun e=>absurd e (by decide)) fun v=>?_
  unfold az0;simp only[az7,aza,decide_true,azc];by_cases h2:(((a::t).length:Nat):Int)<2
  .rw[dT0 h2,azc]
  .rw[dF0 h2,azb,dT0 (show(3:Int)<(((a::t).length:Nat):Int) by omega),azc]
theorem refBad_23 {l:List Arg}(h:¬l.length=2):bzb (23,l)=some (vE 15):=by
 cases l with
 | nil=>rfl
 | cons a t =>
  refine Azs (by decide) (fun e=>absurd e (by decide)) fun v=>?_
  unfold az0;simp only[az7,aza];rw[show decide ((23:Int)=10)=false from rfl,azb];simp only[decide_true,azc];rw[dF0 (show ¬(((a::t).length:Nat):Int)=2 by omega)];rfl
theorem refBad_25 {l:List Arg}(h:l.length<2):bzb (25,l)=some (vE 15):=by
 match l,h with
 | [],_=>rfl
 | [a],_=>rfl
theorem Lzu {k:Nat}{l:List Arg}(hk:k=10\/k=23\/k=24\/k=25)(hl:l.length<=1000)(hu:∀a∈l,∀v∈a.L,okU v):
 ∃v,czi ((k:Int),l)=some v/\bzb ((k:Int),l)=some v/\okU v:=by
 have hv:∀a∈l,∀v∈a.L,okW v:=fun a ha v hm=>(hu a ha v hm).1
 obtain⟨a1,a2,a3,a4,a5,a6,a7,a8,_,_⟩:=ar_tab3;rw[gate (by omega)];rcases hk with rfl|rfl|rfl|rfl
 .rw[a1,a2,show(((10:Nat)):Int)=10 from rfl];by_cases h:(2:Int)<=l.length/\(l.length:Int)<=3
  .rw[if_pos h,oz3 (by omega)];rcases(show l.length=2\/l.length=3 by omega)with h2|h3
   .match l,h2 with
    | [a,b],_ =>
     obtain⟨e1,e2⟩:=if2_is (a:=a) (b:=b) (hv a (by simp));exact⟨_,e1,e2,ifV_ok (hu a (by simp)) (hu b (by simp)) (uzS _)⟩
   .match l,h3 with
    | [a,b,c],_ =>
     obtain⟨e1,e2⟩:=if3_is (a:=a) (b:=b) (c:=c) (hv a (by simp));exact⟨_,e1,e2,ifV_ok (hu a (by simp)) (hu b (by simp)) (uzT (hu c (by simp)))⟩
  .rw[if_neg h];exact⟨_,rfl,refBad_10 (by omega),bzc _⟩
 .rw[a3,a4,show(((23:Nat)):Int)=23 from rfl];by_cases h:(2:Int)<=l.length/\(l.length:Int)<=2
  .rw[if_pos h,oz3 (by omega)]
   match l,(show l.length=2 by omega)with
   | [a,b],_ =>
    obtain⟨e1,e2⟩:=iferr_is a b;exact⟨_,e1,e2,iferrV_ok (hu a (by simp)) (hu b (by simp))⟩
  .rw[if_neg h];exact⟨_,rfl,refBad_23 (by omega),bzc _⟩
 .rw[a5,a6,show(((24:Nat)):Int)=24 from rfl];by_cases h:(2:Int)<=l.length/\(l.length:Int)<=2
  .rw[if_pos h,oz3 (by omega)]
   match l,(show l.length=2 by omega)with
   | [a,b],_ =>
    have e1:=index_is (a:=a) (b:=b) (hv b (by simp));have e2:=Lzd (a:=a) (b:=b) (hv b (by simp));refine⟨_,?_,e2,indexV_ok (hu a (by simp)) (hu b (by simp))⟩;unfold bzy;simp only[decide_true,azc];rw[e1];rfl
  .rw[if_neg h];exact⟨_,rfl,refBad_24 (by omega),bzc _⟩
 .rw[a7,a8,show(((25:Nat)):Int)=25 from rfl];by_cases h:(2:Int)<=l.length/\(l.length:Int)<=9223372036854775807
  .rw[if_pos h,oz3 (by omega)];obtain⟨a,t,rfl⟩:∃a t,l=a::t:=by
    cases l with
    | nil=>simp at h
    | cons a t=>exact⟨a,t,rfl⟩
   obtain⟨e1,e2⟩:=choose_is (a:=a) (l:=t) (hv a (by simp)) hl (by simp only[List.length_cons]at h;omega);exact⟨_,e1,e2,Lzv (hu a (by simp)) hu⟩
  .rw[if_neg h];exact⟨_,rfl,refBad_25 (by omega),bzc _⟩
theorem xzf {c:Prop}[Decidable c]{a b:Val}(ha:okU a)(hb:okU b):okU (if c then a else b):=by split<;>assumption
theorem cntA_le:∀(l:List Arg) (n:Nat),(∀a∈l,a.L.length<=5000)->cntA n l<=n+5000*l.length
 | [],n,_=>by simp[cntA]
 | a::l,n,h=>by
  have h1:=cntA_le l (cntL a.Area n a.L) (fun b hb=>h b (by simp[hb]));have h2:=Fzc a.Area a.L n;have h3:=h a (by simp);unfold cntA at h1 ⊢;rw[List.foldl_cons,List.length_cons];omega
theorem cntA_I64 {l:List Arg}(h:okA l):I64 (cntA 0 l):=by
 have h1:=cntA_le l 0 (fun a ha=>(h.2 a ha).1);have:=h.1;unfold I64;omega
theorem okU_head {l:List Arg}(hu:∀a∈l,∀v∈a.L,okU v):okU ((l.map fst1).headD v0):=by
 cases l with
 | nil=>exact gzL
 | cons a t=>exact ozD (hu a (by simp))
theorem apply_eq {op:Int}{l:List Arg}(h:okA l)(hu:∀a∈l,∀v∈a.L,okU v):∃v,czi (op,l)=some v/\kzo (op,l)=some v/\okU v:=by
 have hl:=h.1;have hv:∀a∈l,∀v∈a.L,okW v:=fun a ha v hm=>(hu a ha v hm).1
 rw[Lzb];by_cases ho:op<0\/30<=op
 .rw[apply_out ho,if_neg (by omega),if_neg (by omega),if_neg (by omega),if_neg (by omega),if_neg (by omega),if_neg (by omega),if_neg (by omega),if_neg (by omega),if_neg (by omega)];exact⟨_,rfl,rfl,bzc _⟩
 obtain⟨k,rfl⟩:=Int.eq_ofNat_of_zero_le (show 0<=op by omega);by_cases h1:(k:Int)=0\/(k:Int)=1\/(k:Int)=2\/(k:Int)=3\/(k:Int)=4
 .rw[if_pos h1,JzT h1 h,izC,uzi (by omega) (by omega)];refine⟨_,?_,rfl,xzf (bzc _) (foldA_ok h hu (cntA_I64 h))⟩;cases hb:l.any badA with
  | true=>rw[BzA (by omega) hb];rfl
  | false =>
   simp only[Bool.false_eq_true,if_false];unfold foldA;by_cases h3:(k:Int)=3
   .rw[if_pos h3,h3,Mzf h hb]
   .rw[if_neg h3,many_num (by omega) h hb]<;>rfl
 rw[if_neg h1];by_cases h2:(k:Int)=5\/(k:Int)=6\/(k:Int)=7\/(k:Int)=8\/(k:Int)=9
 .rw[if_pos h2,Mzl h2 (by omega) hv,izC,app_num (by omega) (by omega) hv];exact⟨_,rfl,rfl,xzf (recL_ok (okA_of hu)) (bzc _)⟩
 rw[if_neg h2];by_cases h3:(k:Int)=10\/(k:Int)=23\/(k:Int)=24\/(k:Int)=25
 .obtain⟨v,e1,e2,e3⟩:=Lzu (k:=k) (l:=l) (by omega) (by omega) hu;rw[if_pos h3,e1,e2,izC];exact⟨_,rfl,rfl,e3⟩
 rw[if_neg h3];by_cases h4:(k:Int)=11\/(k:Int)=12
 .rw[if_pos h4,JzW h4 h,izC,uzi (by omega) (by omega)];refine⟨_,?_,rfl,xzf (bzc _) (truV_ok hu)⟩;cases hb:l.any badA with
  | true=>rw[BzA (by omega) hb];rfl
  | false=>rw[many_tru h4 h hb];rfl
 rw[if_neg h4];by_cases h5:(k:Int)=13\/(k:Int)=21\/(k:Int)=22\/(k:Int)=29
 .rw[if_pos h5,asked_is h5 (by omega) hv,izC,app_ask (by omega) (by omega) hv];exact⟨_,rfl,rfl,xzf (askV_ok (okU_head hu)) (bzc _)⟩
 rw[if_neg h5];by_cases h6:(k:Int)=14\/(k:Int)=19\/(k:Int)=20\/(k:Int)=26\/(k:Int)=27
 .rw[if_pos h6,Kzk h6 (by omega) hu,izC,Izj (by omega) (by omega) hv];exact⟨_,rfl,rfl,Gzl hu⟩
 rw[if_neg h6];by_cases h7:(k:Int)=15\/(k:Int)=16\/(k:Int)=17
 .rw[if_pos h7,pieces_is h7 (by omega) hv,izC,Izj (by omega) (by omega) hv];exact⟨_,rfl,rfl,Gzl hu⟩
 rw[if_neg h7];by_cases h8:(k:Int)=18
 .rw[if_pos h8,concat_eq h,izC,uzi (by omega) (by omega),h8];refine⟨_,?_,rfl,xzf (bzc _) (conV_ok hu)⟩;cases hb:l.any badA with
  | true=>rw[BzA (by omega) hb];rfl
  | false=>rw[KzZ h hb];rfl
 rw[if_neg h8];have hk:k=28:=by omega
 subst hk;obtain⟨_,_,_,_,_,_,_,_,a1,a2⟩:=ar_tab3;rw[gate (by omega),a1,a2,show(((28:Nat)):Int)=28 from rfl];by_cases hn:l.length=0
 .rw[if_pos (by omega),if_pos ⟨rfl,hn⟩,core_na];exact⟨_,rfl,rfl,bzc _⟩
 .rw[if_neg (by omega),if_neg (by omega)];exact⟨_,rfl,rfl,bzc _⟩
end Go.Proofs.YtmkmofdnmllioaaGreatDoor
/- E1 -/
namespace Go.Proofs.YtmkmofdnmllioaaGreatDoor
open Go Go.Ev
open Go.IntKind (i64 u64 u8 i32 u32 i16 u16)
set_option linter.unusedVariables false
noncomputable section
def uzI (x:Int×Int×Int):Option (Place):=some {Sheet:=x.1,At:={Row:=x.2.1,Col:=x.2.2}}
def Jzd:FSpec tb:=⟨[(0,.val 3),(1,.val 3),(2,.val 3)],[(0,.val 39)],uzI⟩
theorem vzL:A0 13 Jzd:=A1 Tryz.func13 .nil
def hzK (back:Int×List Int×Int×Int->Option ((Unit)⊕(Int)))(x:Int×List Int×Int×Int):Option ((Unit)⊕(Int)):=brn (decide (x.2.2.2<x.2.2.1)) (obnd (idx x.2.1 x.2.2.2) fun y=>brn (!decide (y=x.1)) (some (Sum.inr y)) (back (x.1,x.2.1,x.2.2.1,i64.wrap (x.2.2.2+1)))) (some (Sum.inl PUnit.unit))
def oze:Int×List Int×Int×Int->Option ((Unit)⊕(Int)):=iter hzK big
def Ez9:CutSpec tb:=⟨36,[(3,.val 3),(6,.val 169),(7,.val 3),(8,.val 3)],[((.exit 0),[]),(.ret,[(2,.val 3)])],[9,10,11,5,12,13,14,15,2,16,8],oze⟩
theorem yzS:A3 Tryz.f208 36 Ez9:=A4 .nil .nil hzK
def oz2 (x:List Int):Option (Int):=obnd (oze (0,x,(↑x.length:Int),0)) fun y=>osum y (fun y=>some 0) fun y=>some y
def Kzx:FSpec tb:=⟨[(0,.val 169)],[(0,.val 3)],oz2⟩
theorem AzL:A0 208 Kzx:=A2 Tryz.func208 .nil (.cons yzS .nil)
def uzu (x:Place×Place):Option (Int):=obnd (azZ (x.1.Sheet,x.2.Sheet)) fun y=>obnd (azZ (x.1.At.Row,x.2.At.Row)) fun y_1=>obnd (azZ (x.1.At.Col,x.2.At.Col)) fun y_2=>obnd (oz2 [y,y_1,y_2]) fun y=>some y
def LzH:FSpec tb:=⟨[(0,.val 39),(1,.val 39)],[(0,.val 3)],uzu⟩
theorem Cz5:A0 162 LzH:=A1 Tryz.func162 (.cons ezD (.cons AzL .nil))
def pzo (x:Place×Place):Option (Bool):=obnd (uzu x) fun y=>some (decide (y<0))
def Gzx:FSpec tb:=⟨[(0,.val 39),(1,.val 39)],[(0,.val 4)],pzo⟩
theorem Fzk:A0 104 Gzx:=A1 Tryz.func104 (.cons Cz5 .nil)
abbrev env_findG:List (Nat×FSpec tb):=[(104,Gzx)]
theorem qz0:azl Tryz.prog tb (env_findG):=(.cons Fzk .nil)
def dzq (back:List Slot×Place×Int×Int->Option (Int×Bool))(x:List Slot×Place×Int×Int):Option (Int×Bool):=brn (decide (x.2.2.1=x.2.2.2)) (brn (decide (x.2.2.1<(↑x.1.length:Int))) (obnd (idx x.1 x.2.2.1) fun y=>some (x.2.2.1,bif false then !(decide (y.P.Sheet=x.2.1.Sheet)&&(decide (y.P.At.Row=x.2.1.At.Row)&&decide (y.P.At.Col=x.2.1.At.Col)))else decide (y.P.Sheet=x.2.1.Sheet)&&(decide (y.P.At.Row=x.2.1.At.Row)&&decide (y.P.At.Col=x.2.1.At.Col)))) (some (x.2.2.1,false))) (obnd (idx x.1 (i64.wrap ((i64.wrap (x.2.2.1+x.2.2.2)).tdiv 2))) fun y=>obnd (pzo (y.P,x.2.1)) fun y=>brn y (obnd (back (x.1,x.2.1,i64.wrap (i64.wrap ((i64.wrap (x.2.2.1+x.2.2.2)).tdiv 2)+1),x.2.2.2)) fun y=>some y) (obnd (back (x.1,x.2.1,x.2.2.1,i64.wrap ((i64.wrap (x.2.2.1+x.2.2.2)).tdiv 2))) fun y=>some y))
def dzr:List Slot×Place×Int×Int->Option (Int×Bool):=iter dzq big
def Fzl:CutSpec tb:=⟨33,[(0,.val 54),(3,.ro 39),(6,.val 3),(7,.val 3)],[(.ret,[(4,.val 3),(5,.val 4)])],[11,12,13,14,15,16,17,18,19,20,21,22,23,24,25,26,27,4,5,28,29,30,31,8,32,33,34,35,36,37,38,39,40,6,41,7],dzr⟩
theorem AzX:cza ([]:List (CutSpec tb)) (restAt (yzN 21 Tryz.f62) 0)=[]:=by kernel_rfl
theorem yzU:ezi Tryz.prog tb Tryz.f62.ntmps (yzN 21 Tryz.f62) 0 Fzl:=label_it fun self hself=>label_ev mixed (by kernel_rfl) (by kernel_rfl) qz0 rfl AzX .nil (.cons hself rfl .nil) (fun x=>by kernel_rfl)
def mz4 (x:List Slot×Place):Option ((Unit)⊕(Int×Bool)):=brn (decide (0=(↑x.1.length:Int))) (brn (decide (0<(↑x.1.length:Int))) (obnd (idx x.1 0) fun y=>some (Sum.inr (0,bif false then !(decide (y.P.Sheet=x.2.Sheet)&&(decide (y.P.At.Row=x.2.At.Row)&&decide (y.P.At.Col=x.2.At.Col)))else decide (y.P.Sheet=x.2.Sheet)&&(decide (y.P.At.Row=x.2.At.Row)&&decide (y.P.At.Col=x.2.At.Col))))) (some (Sum.inr (0,false)))) (obnd (idx x.1 (i64.wrap ((i64.wrap (0+(↑x.1.length:Int))).tdiv 2))) fun y=>obnd (pzo (y.P,x.2)) fun y=>brn y (obnd (dzr (x.1,x.2,i64.wrap (i64.wrap ((i64.wrap (0+(↑x.1.length:Int))).tdiv 2)+1),(↑x.1.length:Int))) fun y=>some (Sum.inr y)) (obnd (dzr (x.1,x.2,0,i64.wrap ((i64.wrap (0+(↑x.1.length:Int))).tdiv 2))) fun y=>some (Sum.inr y)))
def IzF:CutSpec tb:=⟨21,[(0,.val 54),(3,.ro 39)],[(.normal,[]),(.ret,[(4,.val 3),(5,.val 4)])],[9,10,6,7,8,11,12,13,14,15,16,17,18,19,20,21,22,23,24,25,26,27,4,5,28,29,30,31,32,33,34,35,36,37,38,39,40,41],mz4⟩
theorem Fzm:cza ([]:List (CutSpec tb)) (yzN 21 Tryz.f62)=[]:=by kernel_rfl
theorem Cz4:czE Tryz.prog tb Tryz.f62.ntmps (.scope (yzN 21 Tryz.f62)) IzF:=scope_ev mixed (by kernel_rfl) qz0 rfl Fzm .nil (.cons yzU rfl .nil) (fun x=>by kernel_rfl)
def izB (x:List Slot×Place):Option (Int×Bool):=obnd (mz4 x) fun y=>osum y (fun y=>none) fun y=>some y
def env_findS:FSpec tb:=⟨[(0,.val 54),(1,.val 39)],[(0,.val 3),(1,.val 4)],izB⟩
theorem tzt:A0 62 env_findS:=A2 Tryz.func62 qz0 (.cons Cz4 .nil)
def czq (x:List Slot):Option (List (Slot)):=brn x.isEmpty (agree (some []) (obnd (app 80 [] x) fun zs=>some zs)) (obnd (app 80 [] x) fun zs=>some zs)
def mzU:FSpec tb:=⟨[(0,.val 54)],[(0,.own 92)],czq⟩
theorem kzF:A0 63 mzU:=A1 Tryz.func63 .nil
def mzD (_:List Slot×Int×Int):Option (List (Slot)):=none
def mzE:FSpec tb:=⟨[(0,.val 54),(1,.val 3),(2,.val 3)],[(0,.own 92)],mzD⟩
theorem jzX:azz Tryz.prog tb 64 mzE:=EzU (fzj Tryz.func64 (by kernel_rfl))
def ozU (_:List Slot×Int):Option (Unit):=none
def ozV:FSpec tb:=⟨[(0,.val 54),(1,.val 3)],[],ozU⟩
theorem lzI:azz Tryz.prog tb 106 ozV:=EzU (fzj Tryz.func106 (by kernel_rfl))
def czk (x:List (Slot)×Int×List Slot):Option (List Slot):=obnd (sub x.1 x.2.1 (↑x.1.length:Int)) fun z=>brn (decide ((↑x.2.2.length:Int)=0)) (some x.1) (brn (decide (x.2.1=(↑x.1.length:Int))) (obnd (app 80 x.1 x.2.2) fun zs=>some zs) none)
def mzF:FSpec tb:=⟨[(0,.own 92),(1,.val 3),(2,.val 54)],[(0,.val 54)],czk⟩
theorem jzY:A0 65 mzF:=A1 Tryz.func65 (.cons lzI .nil)
def uzt (x:Env×Place×Val):Option (Env):=obnd (izB (x.1.Slots,x.2.1)) fun y=>obnd (czq x.1.Slots) fun y_1=>brn y.2 (brn (decide (x.2.2.Kind=0)) none (brn y.2 (obnd (idx y_1 y.1) fun y=>none) (brn (!decide (x.2.2.Kind=0)) (obnd (czk (y_1,y.1,[{P:=x.2.1,V:=x.2.2}])) fun y=>some {Sheets:=x.1.Sheets,Slots:=y,Names:=x.1.Names}) (some {Sheets:=x.1.Sheets,Slots:=y_1,Names:=x.1.Names})))) (brn y.2 (obnd (idx y_1 y.1) fun y=>none) (brn (!decide (x.2.2.Kind=0)) (obnd (czk (y_1,y.1,[{P:=x.2.1,V:=x.2.2}])) fun y=>some {Sheets:=x.1.Sheets,Slots:=y,Names:=x.1.Names}) (some {Sheets:=x.1.Sheets,Slots:=y_1,Names:=x.1.Names})))
def IzE:FSpec tb:=⟨[(0,.val 56),(1,.val 39),(2,.val 45)],[(0,.val 56)],uzt⟩
theorem Hzn:A0 37 IzE:=A1 Tryz.func37 (.cons tzt (.cons kzF (.cons jzX (.cons jzY .nil))))
abbrev HzB:List (Nat×FSpec tb):=[(13,Jzd),(19,law9_NS),(37,IzE)]
theorem rzf:azl Tryz.prog tb (HzB):=(.cons vzL (.cons rzh (.cons Hzn .nil)))
def fzI (back:Env×Int->Option ((Unit)×Env))(x:Env×Int):Option ((Unit)×Env):=brn (decide (x.2<3)) (obnd (uzI (0,x.2,0)) fun y=>obnd (kzT (i64.wrap (x.2+1))) fun y_1=>obnd (uzt (x.1,y,y_1)) fun y=>back (y,i64.wrap (x.2+1))) (some ((),x.1))
def mzi:Env×Int->Option ((Unit)×Env):=iter fzI big
def Bzv:CutSpec tb:=⟨36,[(1,.ref 56),(2,.val 3)],[((.exit 0),[])],[4,5,8,9,10,11,12,13,14,6,7,2],mzi⟩
theorem wzd:A3 Tryz.f12 36 Bzv:=A4 rzf .nil fzI
def lzR (x:Unit):Option (Env):=obnd (mzi ({Sheets:=2,Slots:=[],Names:=[]},0)) fun y=>some y.2
def HzC:FSpec tb:=⟨[],[(0,.val 56)],lzR⟩
theorem xzn:A0 12 HzC:=A2 Tryz.func12 rzf (.cons wzd .nil)
def sz7 (x:Int×Int×Int):Option (Expr):=some {Kind:=3,V:={Kind:=0,N:={M:=0,S:=0},S:=[],B:=false,E:=0},A:={A:={Row:=x.1,Col:=x.2.2,RelRow:=false,RelCol:=false},B:={Row:=x.2.1,Col:=x.2.2,RelRow:=false,RelCol:=false}},Sheet:=0,Op:=0,Kids:=[]}
def KzX:FSpec tb:=⟨[(0,.val 3),(1,.val 3),(2,.val 3)],[(0,.val 52)],sz7⟩
theorem Bzq:A0 15 KzX:=A1 Tryz.func15 .nil
def Aze (x:Int×List Expr):Option (Expr):=some {Kind:=9,V:={Kind:=0,N:={M:=0,S:=0},S:=[],B:=false,E:=0},A:={A:={Row:=0,Col:=0,RelRow:=false,RelCol:=false},B:={Row:=0,Col:=0,RelRow:=false,RelCol:=false}},Sheet:=0,Op:=x.1,Kids:=x.2}
def KzW:FSpec tb:=⟨[(0,.val 3),(1,.val 50)],[(0,.val 52)],Aze⟩
theorem Bzp:A0 14 KzW:=A1 Tryz.func14 .nil
def Dzz (x:Int):Option (Expr):=obnd (kzT x) fun y=>some {Kind:=1,V:=y,A:={A:={Row:=0,Col:=0,RelRow:=false,RelCol:=false},B:={Row:=0,Col:=0,RelRow:=false,RelCol:=false}},Sheet:=0,Op:=0,Kids:=[]}
def Lz6:FSpec tb:=⟨[(0,.val 2)],[(0,.val 52)],Dzz⟩
theorem DzA:A0 17 Lz6:=A1 Tryz.func17 (.cons rzh .nil)
def Dzw (x:Int×Expr×Expr):Option (Expr):=some {Kind:=8,V:={Kind:=0,N:={M:=0,S:=0},S:=[],B:=false,E:=0},A:={A:={Row:=0,Col:=0,RelRow:=false,RelCol:=false},B:={Row:=0,Col:=0,RelRow:=false,RelCol:=false}},Sheet:=0,Op:=x.1,Kids:=[azy x.2.1,azy x.2.2]}
def Lz5:FSpec tb:=⟨[(0,.val 3),(1,.val 52),(2,.val 52)],[(0,.val 52)],Dzw⟩
theorem Dzx:A0 16 Lz5:=A1 Tryz.func16 .nil
def kzC (x:Int×Int):Option (Int):=brn (decide (x.2=0)) none (brn (decide (x.2=0)) none (some ((i64.wrap (x.1.tmod x.2+x.2)).tmod x.2)))
def ref_modS:FSpec tb:=⟨[(0,.val 3),(1,.val 3)],[(0,.val 3)],kzC⟩
theorem vzZ:A0 112 ref_modS:=A1 Tryz.func112 .nil
def ozQ (x:Int×Int×Int):Option (Int):=obnd (kzC (x.1,x.2.2)) fun y=>obnd (kzC x.2) fun y_1=>obnd (kzC (i64.wrap (y+y_1),x.2.2)) fun y=>some y
def ref_sumS:FSpec tb:=⟨[(0,.val 3),(1,.val 3),(2,.val 3)],[(0,.val 3)],ozQ⟩
theorem Hz9:A0 113 ref_sumS:=A1 Tryz.func113 (.cons vzZ .nil)
def ozP (x:Ref×Cell):Option (Cell):=obnd (kzC (x.1.Row,65536)) fun y=>obnd (kzC (x.1.Col,256)) fun y_1=>brn x.1.RelRow (obnd (ozQ (x.1.Row,x.2.Row,65536)) fun y=>brn x.1.RelCol (obnd (ozQ (x.1.Col,x.2.Col,256)) fun y_2=>some {Row:=y,Col:=y_2}) (some {Row:=y,Col:=y_1})) (brn x.1.RelCol (obnd (ozQ (x.1.Col,x.2.Col,256)) fun y_2=>some {Row:=y,Col:=y_2}) (some {Row:=y,Col:=y_1}))
def ref_AtS:FSpec tb:=⟨[(0,.val 47),(1,.val 37)],[(0,.val 37)],ozP⟩
theorem yzf:A0 73 ref_AtS:=A1 Tryz.func73 (.cons vzZ (.cons Hz9 .nil))
def szH (x:Cell):Option (Bool):=brn (decide (0<=x.Row)) (brn (decide (x.Row<65536)) (brn (decide (0<=x.Col)) (some (decide (x.Col<256))) (some false)) (some false)) (some false)
def ref_GoodS:FSpec tb:=⟨[(0,.val 37)],[(0,.val 4)],szH⟩
theorem Gzd:A0 165 ref_GoodS:=A1 Tryz.func165 .nil
def jz3 (x:Env×Place):Option (Bool):=brn (decide (0<=x.2.Sheet)) (brn (decide (x.2.Sheet<x.1.Sheets)) (obnd (szH x.2.At) fun y=>some y) (some false)) (some false)
def env_goodS:FSpec tb:=⟨[(0,.val 56),(1,.val 39)],[(0,.val 4)],jz3⟩
theorem Fzn:A0 111 env_goodS:=A1 Tryz.func111 (.cons Gzd .nil)
def bzp (x:Env×Place):Option (Val):=obnd (jz3 x) fun y=>brn (!y) (obnd (azm 23) fun y=>some y) (obnd (izB (x.1.Slots,x.2)) fun y=>brn y.2 (obnd (idx x.1.Slots y.1) fun y=>some y.V) (some {Kind:=0,N:={M:=0,S:=0},S:=[],B:=false,E:=0}))
def AzW:FSpec tb:=⟨[(0,.val 56),(1,.val 39)],[(0,.val 45)],bzp⟩
theorem vzA:A0 72 AzW:=A1 Tryz.func72 (.cons Fzn (.cons azH (.cons tzt .nil)))
def jzJ (x:Area×Cell):Option (Cell×Cell):=obnd (ozP (x.1.A,x.2)) fun y=>obnd (ozP (x.1.B,x.2)) fun y_1=>some ({Row:=bif decide (y_1.Row<y.Row)then y_1.Row else y.Row,Col:=bif decide (y_1.Col<y.Col)then y_1.Col else y.Col},{Row:=bif decide (y.Row<y_1.Row)then y_1.Row else y.Row,Col:=bif decide (y.Col<y_1.Col)then y_1.Col else y.Col})
def tze:FSpec tb:=⟨[(0,.val 49),(1,.val 37)],[(0,.val 37),(1,.val 37)],jzJ⟩
theorem rzH:A0 115 tze:=A1 Tryz.func115 (.cons yzf .nil)
abbrev MzE:List (Nat×FSpec tb):=[(115,tze)]
theorem pz1:azl Tryz.prog tb (MzE):=(.cons rzH .nil)
def jzu (back:Cell×List (Cell)×Int×Int->Option (List (Cell)))(x:Cell×List (Cell)×Int×Int):Option (List (Cell)):=brn (decide (x.2.2.2<=x.1.Col)) (obnd (app 16 x.2.1 [{Row:=x.2.2.1,Col:=x.2.2.2}]) fun zs=>back (x.1,zs,x.2.2.1,i64.wrap (x.2.2.2+1))) (some x.2.1)
def lz7:Cell×List (Cell)×Int×Int->Option (List (Cell)):=iter jzu big
def Hz8:CutSpec tb:=⟨84,[(6,.ro 37),(7,.own 37),(8,.val 3),(9,.val 3)],[((.exit 2),[(7,.own 37)])],[40,41,42,43,46,47,48,49,50,51,7,44,45,9],lz7⟩
theorem Czx:A3 Tryz.f114 84 Hz8:=A4 pz1 .nil jzu
def jzs (back:Cell×Cell×List (Cell)×Int->Option (List (Cell)))(x:Cell×Cell×List (Cell)×Int):Option (List (Cell)):=brn (decide (x.2.2.2<=x.2.1.Row)) (obnd (lz7 (x.2.1,x.2.2.1,x.2.2.2,x.1.Col)) fun y=>back (x.1,x.2.1,y,i64.wrap (x.2.2.2+1))) (some x.2.2.1)
def jzt:Cell×Cell×List (Cell)×Int->Option (List (Cell)):=iter jzs big
def Hz7:CutSpec tb:=⟨60,[(5,.ro 37),(6,.ro 37),(7,.own 37),(8,.val 3)],[((.exit 0),[(7,.own 37)])],[32,33,34,35,38,39,9,40,41,42,43,46,47,48,49,50,51,7,44,45,36,37,8],jzt⟩
theorem Czw:A3 Tryz.f114 60 Hz7:=A4 pz1 (.cons Czx .nil) jzs
def dzS (x:Area×Cell):Option (List (Cell)):=obnd (jzJ x) fun y=>brn (decide (4096<i64.wrap (i64.wrap (i64.wrap (y.2.Row-y.1.Row)+1)*i64.wrap (i64.wrap (y.2.Col-y.1.Col)+1)))) (some []) (obnd (jzt (y.1,y.2,[],y.1.Row)) fun y=>some y)
def EzF:FSpec tb:=⟨[(0,.val 49),(1,.val 37)],[(0,.own 37)],dzS⟩
theorem EzG:A0 114 EzF:=A2 Tryz.func114 pz1 (.cons Czw .nil)
abbrev yzX:List (Nat×FSpec tb):=[(114,EzF),(20,fzh),(71,Bza),(115,tze),(72,AzW)]
theorem izM:azl Tryz.prog tb (yzX):=(.cons EzG (.cons azH (.cons vzC (.cons rzH (.cons vzA .nil)))))
def dzG (x:Int×Worker×Area×Arg×List Cell×Bool):Option (((Unit)×Arg)⊕((Unit)×Arg)):=brn x.2.2.2.2.2 (obnd (jzJ (x.2.2.1,x.2.1.at_.At)) fun y=>brn (!decide (i64.wrap (i64.wrap (y.2.Row-y.1.Row)+1)=x.2.1.rows)) (obnd (azm 15) fun y=>obnd (czX y) fun y=>some (Sum.inr ((),y))) (brn (!decide (i64.wrap (i64.wrap (y.2.Col-y.1.Col)+1)=x.2.1.cols)) (obnd (azm 15) fun y=>obnd (czX y) fun y=>some (Sum.inr ((),y))) (obnd (idx x.2.2.2.2.1 x.2.1.cell) fun y=>obnd (bzp (x.2.1.v,{Sheet:=x.1,At:=y})) fun y=>obnd (czX y) fun y=>some (Sum.inr ((),y))))) (some (Sum.inl ((),x.2.2.2.1)))
def uzx:CutSpec tb:=⟨50,[(1,.val 3),(4,.ro 83),(6,.ro 49),(8,.ref 110),(9,.val 175),(42,.val 4)],[(.normal,[]),(.ret,[])],[44,45,46,47,48,43,49,50,10,11,51,52,53,54,55,56,57,58,59,60,61,62,63,64,65,66,67,68,69,70,71,72,73,74,75,76,77,78,79,80,81,82,83],(dzG)⟩
theorem rzU:A5 Tryz.f74 50 uzx:=A6 izM .nil
def dzH (back:List (Val)×Int×Worker×Arg×List Cell×Int×Int->Option ((List (Val))×Arg))(x:List (Val)×Int×Worker×Arg×List Cell×Int×Int):Option ((List (Val))×Arg):=brn (decide (x.2.2.2.2.2.2<x.2.2.2.2.2.1)) (obnd (idx x.2.2.2.2.1 x.2.2.2.2.2.2) fun y=>obnd (bzp (x.2.2.1.v,{Sheet:=x.2.1,At:=y})) fun y=>obnd (app 56 x.1 [y]) fun zs=>back (zs,x.2.1,x.2.2.1,{Area:=x.2.2.2.1.Area,L:=zs},x.2.2.2.2.1,x.2.2.2.2.2.1,i64.wrap (x.2.2.2.2.2.2+1))) (some (x.1,{Area:=x.2.2.2.1.Area,L:=x.1}))
def dzI:List (Val)×Int×Worker×Arg×List Cell×Int×Int->Option ((List (Val))×Arg):=iter dzH big
def uzy:CutSpec tb:=⟨100,[(8589934604,.own 45),(1,.val 3),(4,.ro 83),(12,.ref 110),(85,.val 175),(86,.val 3),(87,.val 3)],[((.exit 0),[(8589934604,.own 45)])],[88,89,90,14,91,92,93,94,95,96,97,98,99,100,101,102,87],dzI⟩
theorem rzV:A3 Tryz.f74 100 uzy:=A4 izM .nil dzH
def azO (x:Worker×Int×Area×Bool):Option (Arg):=obnd (dzS (x.2.2.1,x.1.at_.At)) fun y=>brn (decide ((↑(List.length y):Int)=0)) (obnd (azm 23) fun y=>obnd (czX y) fun y=>some y) (brn (decide (x.2.1<0)) (obnd (azm 23) fun y=>obnd (czX y) fun y=>some y) (brn (decide (x.1.v.Sheets<=x.2.1)) (obnd (azm 23) fun y=>obnd (czX y) fun y=>some y) (brn (decide (0<x.1.rows)) (obnd (dzG (x.2.1,x.1,x.2.2.1,{Area:=false,L:=[]},y,!x.2.2.2)) fun y_1=>osum y_1 (fun y_2=>obnd (dzI ([],x.2.1,x.1,{Area:=true,L:=[]},y,(↑(List.length y):Int),0)) fun y=>some {Area:=y.2.Area,L:=y.1}) fun y=>some y.2) (obnd (dzG (x.2.1,x.1,x.2.2.1,{Area:=false,L:=[]},y,false)) fun y_1=>osum y_1 (fun y_2=>obnd (dzI ([],x.2.1,x.1,{Area:=true,L:=[]},y,(↑(List.length y):Int),0)) fun y=>some {Area:=y.2.Area,L:=y.1}) fun y=>some y.2))))
def qza:FSpec tb:=⟨[(0,.val 83),(1,.val 3),(2,.val 49),(3,.val 4)],[(0,.val 110)],azO⟩
theorem sz3:A0 74 qza:=A2 Tryz.func74 izM (.cons rzU (.cons rzV .nil))
def jz5 (x:Int):Option (Bool):=obnd (szd x) fun y=>brn (decide (y.1=[83,85,77])) (brn (decide (y.1=[83,85,77])) (some true) (some false)) (brn (decide (y.1=[77,73,78])) (brn (decide (y.1=[77,73,78])) (some true) (some false)) (brn (decide (y.1=[77,65,88])) (brn (decide (y.1=[77,65,88])) (some true) (some false)) (brn (decide (y.1=U8s [67,79,85,78,84])) (brn (decide (y.1=U8s [67,79,85,78,84])) (some true) (some false)) (brn (decide (y.1=U8s [65,86,69,82,65,71,69])) (brn (decide (y.1=U8s [65,86,69,82,65,71,69])) (some true) (some false)) (brn (decide (y.1=[65,78,68])) (brn (decide (y.1=[65,78,68])) (some true) (some false)) (brn (decide (y.1=[79,82])) (brn (decide (y.1=[79,82])) (some true) (some false)) (brn (decide (y.1=U8s [67,79,78,67,65,84])) (brn (decide (y.1=U8s [67,79,78,67,65,84])) (some true) (some false)) (brn (decide (y.1=U8s [73,78,68,69,88])) (some true) (some false)))))))))
def wzZ:FSpec tb:=⟨[(0,.val 3)],[(0,.val 4)],jz5⟩
theorem yzW:A0 75 wzZ:=A1 Tryz.func75 (.cons Fzv .nil)
def bzZ (self:Worker×Expr×Bool->Option (Arg)):FSpec tb:=⟨[(0,.val 83),(1,.val 52),(2,.val 4)],[(0,.val 110)],self⟩
abbrev tzA (self:Worker×Expr×Bool->Option (Arg)):List (Nat×FSpec tb):=[(48,(bzZ self))]
theorem jz6 (self:Worker×Expr×Bool->Option (Arg))(hself:azz Tryz.prog tb 48 (bzZ self)):azl Tryz.prog tb (tzA self):=(.cons hself .nil)
def czG (self:Worker×Expr×Bool->Option (Arg))(back:Worker×List (Val)×Bool×List Expr×Int×Int->Option (List (Val)×Bool))(x:Worker×List (Val)×Bool×List Expr×Int×Int):Option (List (Val)×Bool):=brn (decide (x.2.2.2.2.2<x.2.2.2.2.1)) (obnd (idx x.2.2.2.1 x.2.2.2.2.2) fun y=>obnd (self (x.1,azy y,false)) fun y=>brn y.Area (back (x.1,x.2.1,false,x.2.2.2.1,x.2.2.2.2.1,i64.wrap (x.2.2.2.2.2+1))) (obnd (idx y.L 0) fun y=>obnd (app 56 x.2.1 [y]) fun zs=>back (x.1,zs,x.2.2.1,x.2.2.2.1,x.2.2.2.2.1,i64.wrap (x.2.2.2.2.2+1)))) (some (x.2.1,x.2.2.1))
def fzG (self:Worker×Expr×Bool->Option (Arg)):Worker×List (Val)×Bool×List Expr×Int×Int->Option (List (Val)×Bool):=iter (czG self) big
def qz1 (self:Worker×Expr×Bool->Option (Arg)):CutSpec tb:=⟨44,[(2,.ro 83),(6,.own 45),(7,.val 4),(11,.val 50),(12,.val 3),(13,.val 3)],[((.exit 0),[(6,.own 45),(7,.val 4)])],[14,15,16,9,17,18,19,10,20,21,7,22,23,24,25,26,27,28,6,29,13],(fzG self)⟩
theorem pzp (self:Worker×Expr×Bool->Option (Arg))(hself:azz Tryz.prog tb 48 (bzZ self)):A3 Tryz.f77 44 (qz1 self):=A4 (jz6 self hself) .nil (czG self)
def ezF (self:Worker×Expr×Bool->Option (Arg))(x:Worker×List Expr):Option (List (Val)×Bool):=obnd ((fzG self) (x.1,[],true,x.2,(↑x.2.length:Int),0)) fun y=>some y
def mzJ (self:Worker×Expr×Bool->Option (Arg)):FSpec tb:=⟨[(0,.val 83),(1,.val 50)],[(0,.own 45),(1,.val 4)],ezF self⟩
theorem qzo (self:Worker×Expr×Bool->Option (Arg))(hself:azz Tryz.prog tb 48 (bzZ self)):A0 77 (mzJ self):=A2 Tryz.func77 (jz6 self hself) (.cons (pzp self hself) .nil)
abbrev Az2 (self:Worker×Expr×Bool->Option (Arg)):List (Nat×FSpec tb):=[(71,Bza),(73,ref_AtS),(72,AzW),(74,qza),(20,fzh),(48,(bzZ self)),(75,wzZ),(76,Dza),(77,(mzJ self)),(78,Dzc),(79,zz6)]
theorem nz8 (self:Worker×Expr×Bool->Option (Arg))(hself:azz Tryz.prog tb 48 (bzZ self)):azl Tryz.prog tb (Az2 self):=(.cons vzC (.cons yzf (.cons vzA (.cons sz3 (.cons azH (.cons hself (.cons yzW (.cons Dzb (.cons (qzo self hself) (.cons Dzd (.cons Az9 .nil)))))))))))
def dz9 (self:Worker×Expr×Bool->Option (Arg))(back:Worker×Expr×List (Arg)×List Expr×Int×Int->Option (List (Arg)))(x:Worker×Expr×List (Arg)×List Expr×Int×Int):Option (List (Arg)):=brn (decide (x.2.2.2.2.2<x.2.2.2.2.1)) (obnd (idx x.2.2.2.1 x.2.2.2.2.2) fun y=>obnd (jz5 x.2.1.Op) fun y_1=>obnd (self (x.1,azy y,y_1)) fun y=>obnd (app 32 x.2.2.1 [y]) fun zs=>back (x.1,azy x.2.1,zs,x.2.2.2.1,x.2.2.2.2.1,i64.wrap (x.2.2.2.2.2+1))) (some x.2.2.1)
def fz6 (self:Worker×Expr×Bool->Option (Arg)):Worker×Expr×List (Arg)×List Expr×Int×Int->Option (List (Arg)):=iter (dz9 self) big
def vz7 (self:Worker×Expr×Bool->Option (Arg)):CutSpec tb:=⟨180,[(3,.ro 83),(4,.ro 52),(7,.own 110),(109,.val 50),(110,.val 3),(111,.val 3)],[((.exit 1),[(7,.own 110)])],[112,113,114,9,115,116,117,118,119,120,121,122,123,7,124,111],(fz6 self)⟩
theorem sz4 (self:Worker×Expr×Bool->Option (Arg))(hself:azz Tryz.prog tb 48 (bzZ self)):A3 Tryz.f48 180 (vz7 self):=A4 (nz8 self hself) .nil (dz9 self)
def bzl (self:Worker×Expr×Bool->Option (Arg))(x:Worker×Expr×Bool):Option (Arg):=brn (decide (x.2.1.Kind=1)) (obnd (czX x.2.1.V) fun y=>some y) (brn (decide (x.2.1.Kind=2)) (obnd (ozP (x.2.1.A.A,x.1.at_.At)) fun y=>obnd (bzp (x.1.v,{Sheet:=x.1.at_.Sheet,At:=y})) fun y=>obnd (czX y) fun y=>some y) (brn (decide (x.2.1.Kind=4)) (obnd (ozP (x.2.1.A.A,x.1.at_.At)) fun y=>obnd (bzp (x.1.v,{Sheet:=x.2.1.Sheet,At:=y})) fun y=>obnd (czX y) fun y=>some y) (brn (decide (x.2.1.Kind=3)) (obnd (azO (x.1,x.1.at_.Sheet,x.2.1.A,x.2.2)) fun y=>some y) (brn (decide (x.2.1.Kind=5)) (obnd (azO (x.1,x.2.1.Sheet,x.2.1.A,x.2.2)) fun y=>some y) (brn (decide (x.2.1.Kind=6)) (brn (decide (x.2.1.Op<0)) (obnd (azm 29) fun y=>obnd (czX y) fun y=>some y) (brn (decide ((↑x.1.v.Names.length:Int)<=x.2.1.Op)) (obnd (azm 29) fun y=>obnd (czX y) fun y=>some y) (obnd (idx x.1.v.Names x.2.1.Op) fun y=>obnd (self (x.1,azy y,x.2.2)) fun y=>some y))) (brn (decide (x.2.1.Kind=10)) (obnd (idx x.2.1.Kids 0) fun y=>obnd (self (x.1,azy y,x.2.2)) fun y=>some y) (brn (decide (x.2.1.Kind=9)) (obnd ((fz6 self) (x.1,azy x.2.1,[],x.2.1.Kids,(↑x.2.1.Kids.length:Int),0)) fun y=>obnd (czi (x.2.1.Op,y)) fun y=>obnd (czX y) fun y=>some y) (obnd ((ezF self) (x.1,x.2.1.Kids)) fun y=>brn (!y.2) (obnd (azm 15) fun y=>obnd (czX y) fun y=>some y) (brn (decide (x.2.1.Kind=7)) (obnd (idx y.1 0) fun y=>obnd (qzp (x.2.1.Op,y)) fun y=>obnd (czX y) fun y=>some y) (obnd (idx y.1 0) fun y_1=>obnd (idx y.1 1) fun y=>obnd (oz7 (x.2.1.Op,y_1,y)) fun y=>obnd (czX y) fun y=>some y))))))))))
theorem uzz (self:Worker×Expr×Bool->Option (Arg))(hself:azz Tryz.prog tb 48 (bzZ self)):A0 48 (bzZ (bzl self)):=A2 Tryz.func48 (nz8 self hself) (.cons (sz4 self hself) .nil)
def mzf:Worker×Expr×Bool->Option (Arg):=iter bzl big
def Az3:FSpec tb:=bzZ mzf
theorem tzz:azz Tryz.prog tb 48 Az3:=szc (fzj Tryz.func48 (by kernel_rfl)) uzz
def gzB (x:Worker×Expr):Option (Val):=obnd (mzf (x.1,azy x.2,false)) fun y=>brn y.Area (obnd (azm 15) fun y=>some y) (obnd (idx y.L 0) fun y_1=>brn (decide (y_1.Kind=0)) (obnd (bzH 0) fun y=>some {Kind:=1,N:=y,S:=[],B:=false,E:=0}) (obnd (idx y.L 0) fun y=>some y))
def pzq:FSpec tb:=⟨[(0,.val 83),(1,.val 52)],[(0,.val 45)],gzB⟩
theorem lzk:A0 29 pzq:=A1 Tryz.func29 (.cons tzz (.cons azH (.cons dz0 .nil)))
abbrev KzM:List (Nat×FSpec tb):=[(29,pzq)]
theorem tzw:azl Tryz.prog tb (KzM):=(.cons lzk .nil)
def tzx (back:Int×Int×Expr×Env×Place×List (Val)×Int×Int->Option (List (Val)))(x:Int×Int×Expr×Env×Place×List (Val)×Int×Int):Option (List (Val)):=brn (decide (x.2.2.2.2.2.2.2<x.2.2.2.2.2.2.1)) (obnd (gzB ({v:=x.2.2.2.1,at_:=x.2.2.2.2.1,rows:=x.1,cols:=x.2.1,cell:=x.2.2.2.2.2.2.2},azy x.2.2.1)) fun y=>obnd (app 56 x.2.2.2.2.2.1 [y]) fun zs=>back (x.1,x.2.1,azy x.2.2.1,x.2.2.2.1,x.2.2.2.2.1,zs,x.2.2.2.2.2.2.1,i64.wrap (x.2.2.2.2.2.2.2+1))) (some x.2.2.2.2.2.1)
def tzy:Int×Int×Expr×Env×Place×List (Val)×Int×Int->Option (List (Val)):=iter tzx big
def Fzr:CutSpec tb:=⟨52,[(3,.val 3),(4,.val 3),(5,.ro 52),(6,.ro 56),(7,.ro 39),(11,.own 45),(27,.val 3),(28,.val 3)],[((.exit 0),[(11,.own 45)])],[29,30,12,31,32,33,34,35,36,37,38,39,40,41,11,42,28],tzy⟩
theorem yzV:A3 Tryz.f18 52 Fzr:=A4 tzw .nil tzx
def oz6 (x:Expr×Env×Place×Int×Int):Option (List (Val)):=brn (decide (x.2.2.2.1<1)) (some []) (brn (decide (x.2.2.2.2<1)) (some []) (brn (decide (x.2.2.2.2=0)) none (brn (decide (i64.wrap (Int.tdiv 4096 x.2.2.2.2)<x.2.2.2.1)) (some []) (obnd (tzy (x.2.2.2.1,x.2.2.2.2,azy x.1,x.2.1,x.2.2.1,[],i64.wrap (x.2.2.2.1*x.2.2.2.2),0)) fun y=>some y))))
def KzN:FSpec tb:=⟨[(0,.val 52),(1,.val 56),(2,.val 39),(3,.val 3),(4,.val 3)],[(0,.own 45)],oz6⟩
theorem Az1:A0 18 KzN:=A2 Tryz.func18 tzw (.cons yzV .nil)
def fzc (x:Expr×Env×Place):Option (Val):=obnd (gzB ({v:=x.2.1,at_:=x.2.2,rows:=0,cols:=0,cell:=0},azy x.1)) fun y=>some y
def LzM:FSpec tb:=⟨[(0,.val 52),(1,.val 56),(2,.val 39)],[(0,.val 45)],fzc⟩
theorem sza:A0 7 LzM:=A1 Tryz.func7 (.cons lzk .nil)
def GzE (x:Int×Int):Option (Expr):=some {Kind:=2,V:={Kind:=0,N:={M:=0,S:=0},S:=[],B:=false,E:=0},A:={A:={Row:=x.1,Col:=x.2,RelRow:=false,RelCol:=false},B:={Row:=0,Col:=0,RelRow:=false,RelCol:=false}},Sheet:=0,Op:=0,Kids:=[]}
def law10_AtS:FSpec tb:=⟨[(0,.val 3),(1,.val 3)],[(0,.val 52)],GzE⟩
theorem FzH:A0 21 law10_AtS:=A1 Tryz.func21 .nil
end
end Go.Proofs.YtmkmofdnmllioaaGreatDoor
/- PA -/
namespace Go.Proofs.YtmkmofdnmllioaaGreatDoor
open Go Go.Ev Go.Lib
open Go.IntKind (i64 u64 u8 i32 u32 i16 u16)
def ltP (a b:Place):Bool:=decide (a.Sheet<b.Sheet)||decide (a.Sheet=b.Sheet)&&(decide (a.At.Row<b.At.Row)||decide (a.At.Row=b.At.Row)&&decide (a.At.Col<b.At.Col))
def eqP (a b:Place):Bool:=decide (a.Sheet=b.Sheet)&&(decide (a.At.Row=b.At.Row)&&decide (a.At.Col=b.At.Col))
theorem or3 (a b c:Int):oz2 [a,b,c]=some (if a≠0 then a else if b≠0 then b else c):=by
 unfold oz2;have this:oze (0,[a,b,c],(([a,b,c]:List Int).length:Int),0)=some ((fun(r:Option Nat)=>match r with|some i=>.inr (([a,b,c]:List Int).getD i 0)|none=>.inl ()) _) :=
  jz7 (F:=hzK) (fun i=>(0,[a,b,c],(([a,b,c]:List Int).length:Int),(i:Int))) (fun r=>match r with|some i=>.inr (([a,b,c]:List Int).getD i 0)|none=>.inl ()) [a,b,c] (fun y=>!decide (y=0)) (by simp)
  (fun back i hi=>by
   unfold hzK;simp only;rw[ltT hi,azc,idxG hi,aza,wr1 (by simp only[List.length_cons,List.length_nil]at hi;omega)];have hg:([a,b,c]:List Int).getD i 0=([a,b,c]:List Int)[i]:=by rw[List.getD_eq_getElem?_getD,List.getElem?_eq_getElem hi];rfl
   rw[hg];cases decide (([a,b,c]:List Int)[i]=0)<;>rfl)
  (fun back=>by
   unfold hzK;simp only;rw[ltF,azb])
 rw[this,aza];by_cases h1:a=0
 .by_cases h2:b=0
  .by_cases h3:c=0<;>simp[h1,h2,h3,List.findIdx?_cons,osum]
  .simp[h1,h2,List.findIdx?_cons,osum]
 .simp[h1,List.findIdx?_cons,osum]
theorem ozz (a b:Place):pzo (a,b)=some (ltP a b):=by
 unfold pzo uzu;simp only;rw[bzB,aza,bzB,aza,bzB,aza,or3,aza,aza];unfold ltP cmpV;congr 1;rcases Int.lt_trichotomy a.Sheet b.Sheet with h1|h1|h1
 .simp[h1]
 .rcases Int.lt_trichotomy a.At.Row b.At.Row with h2|h2|h2
  .simp[h1,h2]
  .rcases Int.lt_trichotomy a.At.Col b.At.Col with h3|h3|h3
   .simp[h1,h2,h3]
   .simp[h1,h2,h3]
   .simp[h1,h2,h3];omega
  .have n1:¬a.At.Row<b.At.Row:=by omega
   have n2:¬a.At.Row=b.At.Row:=by omega
   simp[h1,h2,n1,n2]
 .have n1:¬a.Sheet<b.Sheet:=by omega
  have n2:¬a.Sheet=b.Sheet:=by omega
  simp[h1,n1,n2]
def bzQ (l:List Slot)(p:Place)(k:Nat):Bool:=match l[k]? with|some s=>eqP s.P p|none=>false
theorem yzE {a b:Nat}(h:a+b<1000000000):i64.wrap ((i64.wrap ((a:Int)+(b:Int))).tdiv 2)=(((a+b)/2:Nat):Int):=by
 rw[azi (n:=(a:Int)+b) (by omega) (by omega)];have:((a:Int)+b).tdiv 2=(((a+b)/2:Nat):Int):=by
  rw[show(a:Int)+b=((a+b:Nat):Int) by omega];rfl
 rw[this,azi (by omega) (by omega)]
theorem IzQ (l:List Slot)(p:Place)(k:Nat):brn (decide ((k:Int)<(l.length:Int))) (obnd (idx l (k:Int)) fun y=>some ((k:Int),bif false then !(decide (y.P.Sheet=p.Sheet)&&(decide (y.P.At.Row=p.At.Row)&&decide (y.P.At.Col=p.At.Col)))else decide (y.P.Sheet=p.Sheet)&&(decide (y.P.At.Row=p.At.Row)&&decide (y.P.At.Col=p.At.Col)))) (some ((k:Int),false))=some ((k:Int),bzQ l p k):=by
 unfold bzQ;by_cases h:k<l.length
 .rw[ltT h,azc,idxG h,aza,List.getElem?_eq_getElem h];rfl
 .rw[dF0 (by omega),azb,List.getElem?_eq_none (by omega)]
theorem find_at {l:List Slot}{p:Place}{k:Nat}(hl:l.length<=100000000)(hk:k<=l.length)(h1:∀i (h:i<l.length),i<k->ltP l[i].P p=true)(h2:∀i (h:i<l.length),k<=i->ltP l[i].P p=false):
 izB (l,p)=some ((k:Int),bzQ l p k):=by
 have key:∀lo hi:Nat,lo<=k->k<=hi->hi<=l.length->dzr (l,p,(lo:Int),(hi:Int))=some ((k:Int),bzQ l p k):=by
  intro lo hi a1 a2 a3;refine ozv (F:=dzq) (fun x=>(x.2.2.2-x.2.2.1).toNat) (fun x=>∃lo hi:Nat,x=(l,p,(lo:Int),(hi:Int))/\lo<=k/\k<=hi/\hi<=l.length) (fun _=>((k:Int),bzQ l p k)) ?_ _ ⟨lo,hi,rfl,a1,a2,a3⟩ (by simp only;omega);rintro back _ ⟨lo,hi,rfl,a1,a2,a3⟩ hb;unfold dzq;simp only;by_cases h:lo=hi
  .subst h;have:lo=k:=by omega
   subst this;rw[dT0 rfl,azc,IzQ]
  .rw[dF0 (by omega),azb,yzE (by omega)];have hm:(lo+hi)/2<l.length:=by omega
   rw[idxG hm,aza,ozz,aza];by_cases hlt:(lo+hi)/2<k
   .rw[h1 _ hm hlt,azc,wr1 (by omega),hb (l,p,(((lo+hi)/2+1:Nat):Int),(hi:Int)) ⟨_,_,rfl,by omega,by omega,by omega⟩ (by simp only;omega)];rfl
   .rw[h2 _ hm (by omega),azb,hb (l,p,(lo:Int),(((lo+hi)/2:Nat):Int)) ⟨_,_,rfl,by omega,by omega,by omega⟩ (by simp only;omega)];rfl
 unfold izB mz4;simp only;by_cases h:l.length=0
 .have:k=0:=by omega
  subst this;rw[h,dT0 (by rfl),azc];unfold bzQ;rw[List.getElem?_eq_none (by omega)];rfl
 .have hw:=yzE (a:=0) (b:=l.length) (by omega);simp only[Int.cast_ofNat_Int,Nat.zero_add]at hw;rw[dF0 (by omega),azb,hw];have hm:l.length/2<l.length:=by omega
  rw[idxG hm,aza,ozz,aza];by_cases hlt:l.length/2<k
  .rw[h1 _ hm hlt,azc,wr1 (by omega),key _ _ (by omega) (by omega) (by omega)];rfl
  .have:=key 0 (l.length/2) (by omega) (by omega) (by omega);simp only[Int.cast_ofNat_Int]at this;rw[h2 _ hm (by omega),azb,this];rfl
theorem clone_is {l:List Slot}(hl:l.length<=100000000):czq l=some l:=by
 unfold czq;rw[appN (by simp only[List.length_nil];omega),aza];cases l with
 | nil=>simp[Ev.agree]
 | cons a l=>rfl
theorem put_end {e:Env}{p:Place}{v:Val}(hl:e.Slots.length<=1000000)(h:∀s∈e.Slots,ltP s.P p=true)(hv:v.Kind≠0):uzt (e,p,v)=some {e with Slots:=e.Slots++[⟨p,v⟩]}:=by
 unfold uzt;simp only;rw[find_at (k:=e.Slots.length) (by omega) (Nat.le_refl _) (fun i hi _=>h _ (List.getElem_mem hi)) (fun i hi hk=>by omega),aza,clone_is (by omega),aza];have:bzQ e.Slots p e.Slots.length=false:=by unfold bzQ;rw[List.getElem?_eq_none (by omega)]
 simp only[this,azb];rw[dF0 hv];simp only[Bool.not_false,azc];unfold czk;simp only;have hs:sub e.Slots (e.Slots.length:Int) (e.Slots.length:Int)=some []:=by simp[sub]
 rw[hs,aza,dF0 (by simp),azb,decide_true,azc,appN (by simp only[List.length_singleton];omega)];rfl
def hze (x y:Cell)(r:Int):List Cell:=(List.range (y.Col-x.Col+1).toNat).map fun(j:Nat)=>(⟨r,x.Col+(j:Int)⟩:Cell)
def cellsOf (x y:Cell):List Cell:=(List.range (y.Row-x.Row+1).toNat).flatMap fun(i:Nat)=>hze x y (x.Row+(i:Int))
theorem cells_l2 {x y:Cell}{r:Int}{acc:List Cell}(h0:0<=x.Col)(h1:y.Col<256)(ha:acc.length<=100000000):lz7 (y,acc,r,x.Col)=some (acc++hze x y r):=by
 have this:lz7 (y,acc,r,x.Col+((0:Nat):Int))=some (id (azo (fun(s:List Cell) (j:Nat)=>(.inl (s++[(⟨r,x.Col+(j:Int)⟩:Cell)]):List Cell⊕List Cell)) id acc (List.range (y.Col-x.Col+1).toNat))) :=
  azC (F:=jzu) (fun(s:List Cell) (i:Nat)=>(y,s,r,x.Col+(i:Int))) id (List.range (y.Col-x.Col+1).toNat) (fun s j=>.inl (s++[(⟨r,x.Col+(j:Int)⟩:Cell)])) id (fun s i=>s.length=acc.length+i) (by rw[List.length_range];omega)
  (fun back s i hi hs=>by
   have hi':=hi;rw[List.length_range]at hi';unfold jzu;simp only;rw[dT0 (by omega),azc,appN (by simp only[List.length_singleton];omega),aza,List.getElem_range,azi (by omega) (by omega)];simp only[jzM];rw[show x.Col+(i:Int)+1=x.Col+((i+1:Nat):Int) by omega])
  (fun s i hi s' hs e=>by cases e;simp only[List.length_append,List.length_singleton];omega)
  (fun back s hs=>by
   unfold jzu;simp only;rw[List.length_range,dF0 (by omega),azb];rfl) acc rfl
 rw[bzx,show x.Col+((0:Nat):Int)=x.Col by omega]at this;rw[this];have:∀(m:List Nat) (s:List Cell),m.foldl (fun s (j:Nat)=>s++[(⟨r,x.Col+(j:Int)⟩:Cell)]) s=s++m.map fun(j:Nat)=>(⟨r,x.Col+(j:Int)⟩:Cell):=by
  intro m;induction m with
  | nil=>intro s;simp
  | cons v m ih=>intro s;rw[List.foldl_cons,ih];simp
 rw[id,id,this];rfl
theorem cells_l1 {x y:Cell}(h0:0<=x.Col)(h1:y.Col<256)(h2:0<=x.Row)(h3:y.Row<65536):jzt (x,y,[],x.Row)=some (cellsOf x y):=by
 have hrow:∀r,(hze x y r).length<=300:=fun r=>by unfold hze;rw[List.length_map,List.length_range];omega
 have this:jzt (x,y,[],x.Row+((0:Nat):Int))=some (id (azo (fun(s:List Cell) (i:Nat)=>(.inl (s++hze x y (x.Row+(i:Int))):List Cell⊕List Cell)) id [] (List.range (y.Row-x.Row+1).toNat))) :=
  azC (F:=jzs) (fun(s:List Cell) (i:Nat)=>(x,y,s,x.Row+(i:Int))) id (List.range (y.Row-x.Row+1).toNat) (fun s i=>.inl (s++hze x y (x.Row+(i:Int)))) id (fun s i=>s.length<=300*i) (by rw[List.length_range];omega)
  (fun back s i hi hs=>by
   have hi':=hi;rw[List.length_range]at hi';have hrr:x.Row+(i:Int)<=y.Row:=by omega
   unfold jzs;simp only;rw[dT0 hrr,azc];have hs':s.length<=300*i:=hs;rw[cells_l2 h0 h1 (by omega),aza,List.getElem_range,azi (by omega) (by omega)];simp only[jzM];rw[show x.Row+(i:Int)+1=x.Row+((i+1:Nat):Int) by omega])
  (fun s i hi s' hs e=>by
   cases e;have:=hrow (x.Row+(((List.range (y.Row-x.Row+1).toNat)[i]:Nat):Int));have hs':s.length<=300*i:=hs
   show(s++_).length<=300*(i+1)
   rw[List.length_append];omega)
  (fun back s hs=>by
   unfold jzs;simp only;rw[List.length_range,dF0 (by omega),azb];rfl) [] (Nat.zero_le _)
 rw[bzx,show x.Row+((0:Nat):Int)=x.Row by omega]at this;rw[this];have:∀(m:List Nat) (s:List Cell),m.foldl (fun s (i:Nat)=>s++hze x y (x.Row+(i:Int))) s=s++m.flatMap fun(i:Nat)=>hze x y (x.Row+(i:Int)):=by
  intro m;induction m with
  | nil=>intro s;simp
  | cons v m ih=>intro s;rw[List.foldl_cons,ih];simp
 rw[id,id,this];rfl
def izv (x y:Cell):Int:=(y.Row-x.Row+1)*(y.Col-x.Col+1)
theorem cells_is {a:Area}{b x y:Cell}(hb:jzJ (a,b)=some (x,y))(h0:0<=x.Col)(h1:y.Col<256)(h2:0<=x.Row)(h3:y.Row<65536)(h4:x.Row<=y.Row)(h5:x.Col<=y.Col):
 dzS (a,b)=some (if 4096<izv x y then []else cellsOf x y):=by
 unfold dzS;rw[hb,aza];simp only;have hm:0<=(y.Row-x.Row+1)*(y.Col-x.Col+1)/\(y.Row-x.Row+1)*(y.Col-x.Col+1)<=65536*256:=by
  refine⟨Int.mul_nonneg (by omega) (by omega),?_⟩;exact Int.mul_le_mul (by omega) (by omega) (by omega) (by omega)
 rw[azi (n:=y.Row-x.Row) (by omega) (by omega),azi (n:=y.Row-x.Row+1) (by omega) (by omega),azi (n:=y.Col-x.Col) (by omega) (by omega),azi (n:=y.Col-x.Col+1) (by omega) (by omega),azi (by omega) (by omega)];unfold izv;by_cases h:4096<(y.Row-x.Row+1)*(y.Col-x.Col+1)
 .rw[dT0 h,azc,if_pos h]
 .rw[dF0 h,azb,if_neg h,cells_l1 h0 h1 h2 h3];rfl
theorem area_l2 {w:Worker}{sh:Int}{cs:List Cell}{g:Cell->Val}(hl:cs.length<=1000000)(hg:∀c∈cs,bzp (w.v,⟨sh,c⟩)=some (g c)):
 dzI ([],sh,w,⟨true,[]⟩,cs,(cs.length:Int),0)=some (cs.map g,⟨true,cs.map g⟩):=by
 have this:dzI ([],sh,w,⟨true,[]⟩,cs,(cs.length:Int),((0:Nat):Int))=some ((fun(s:List Val)=>(s,(⟨true,s⟩:Arg))) (azo (fun(s:List Val) (c:Cell)=>(.inl (s++[g c]):List Val⊕List Val)) id [] cs)) :=
  azC (F:=dzH) (fun(s:List Val) (i:Nat)=>(s,sh,w,(⟨true,s⟩:Arg),cs,(cs.length:Int),(i:Int))) (fun(s:List Val)=>(s,(⟨true,s⟩:Arg))) cs (fun s c=>.inl (s++[g c])) id (fun s i=>s.length=i) (by omega)
  (fun back s i hi hs=>by
   unfold dzH;simp only;rw[ltT hi,azc,idxG hi,aza,hg _ (List.getElem_mem hi),aza,appN (by simp only[List.length_singleton];omega),aza,wr1 (by omega)];rfl)
  (fun s i hi s' hs e=>by cases e;simp[hs])
  (fun back s hs=>by
   unfold dzH;simp only;rw[ltF,azb];rfl) [] rfl
 rw[bzx]at this;rw[show(0:Int)=((0:Nat):Int) from rfl,this];have:∀(m:List Cell) (s:List Val),m.foldl (fun s c=>s++[g c]) s=s++m.map g:=by
  intro m;induction m with
  | nil=>intro s;simp
  | cons v m ih=>intro s;rw[List.foldl_cons,ih];simp
 rw[id,this];rfl
theorem CzL {w:Worker}{sh:Int}{a:Area}{wh:Bool}{cs:List Cell}{g:Cell->Val}(hw:w.rows=0)(hc:dzS (a,w.at_.At)=some cs)(hne:cs≠[])(hl:cs.length<=1000000)(h0:0<=sh)(h1:sh<w.v.Sheets)
 (hg:∀c∈cs,bzp (w.v,⟨sh,c⟩)=some (g c)):azO (w,sh,a,wh)=some ⟨true,cs.map g⟩:=by
 unfold azO;simp only;have hlen:0<cs.length:=List.length_pos_iff.2 hne;rw[hc,aza,dF0 (by omega),azb,dF0 (by omega),azb,dF0 (by omega),azb,hw,dF0 (by omega),azb];unfold dzG;simp only[azb,aza,osum];rw[area_l2 hl hg];rfl
theorem args_is {self:Worker×Expr×Bool->Option Arg}{w:Worker}{e:Expr}{kids:List Expr}{wh:Bool}{f:Expr->Arg}(hl:kids.length<=1000000)(hw:jz5 e.Op=some wh)(hf:∀k∈kids,self (w,k,wh)=some (f k)):
 fz6 self (w,e,[],kids,(kids.length:Int),0)=some (kids.map f):=by
 have this:fz6 self (w,e,[],kids,(kids.length:Int),((0:Nat):Int))=some (id (azo (fun(s:List Arg) (k:Expr)=>(.inl (s++[f k]):List Arg⊕List Arg)) id [] kids)) :=
  azC (F:=dz9 self) (fun(s:List Arg) (i:Nat)=>(w,e,s,kids,(kids.length:Int),(i:Int))) id kids (fun s k=>.inl (s++[f k])) id (fun s i=>s.length=i) (by omega)
  (fun back s i hi hs=>by
   unfold dz9;simp only;rw[ltT hi,azc,idxG hi,aza,hw,aza,az2,az2,hf _ (List.getElem_mem hi),aza,appN (by simp only[List.length_singleton];omega),aza,wr1 (by omega)];rfl)
  (fun s i hi s' hs e=>by cases e;simp[hs])
  (fun back s hs=>by
   unfold dz9;simp only;rw[ltF,azb];rfl) [] rfl
 rw[bzx]at this;rw[show(0:Int)=((0:Nat):Int) from rfl,this];have:∀(m:List Expr) (s:List Arg),m.foldl (fun s c=>s++[f c]) s=s++m.map f:=by
  intro m;induction m with
  | nil=>intro s;simp
  | cons v m ih=>intro s;rw[List.foldl_cons,ih];simp
 rw[id,id,this];rfl
def jzP (a:Arg):Prop:=a.L.length<=5000/\(∀v∈a.L,okU v)/\(a.Area=false->∃v,a.L=[v])
theorem izQ {v:Val}(h:okU v):jzP ⟨false,[v]⟩:=⟨by simp,fun w hw=>by rw[List.mem_singleton.1 hw];exact h,fun _=>⟨v,rfl⟩⟩
structure Two (w w':Worker) (mv:Cell->Cell) (C:Cell->Prop):Prop where
 r:w.rows=0
 r':w'.rows=0
 sh:w'.at_.Sheet=w.at_.Sheet
 shs:w'.v.Sheets=w.v.Sheets
 get:∀sh c,C c->∃v,bzp (w.v,⟨sh,c⟩)=some v/\bzp (w'.v,⟨sh,mv c⟩)=some v/\okU v
variable {w w':Worker} {mv:Cell->Cell} {C:Cell->Prop}
theorem area_two (hw:Two w w' mv C){a:Area}{sh:Int}{wh:Bool}{cs:List Cell}(h1:dzS (a,w.at_.At)=some cs)(h2:dzS (a,w'.at_.At)=some (cs.map mv))(hl:cs.length<=5000)(hc:∀c∈cs,C c):
 ∃r,azO (w,sh,a,wh)=some r/\azO (w',sh,a,wh)=some r/\jzP r:=by
 by_cases h0:cs=[]
 .subst h0;refine⟨⟨false,[vE 23]⟩,?_,?_,izQ (bzc 23)⟩
  .unfold azO;simp only;rw[h1];rfl
  .unfold azO;simp only;rw[h2];rfl
 have hn:cs.map mv≠[]:=by simpa using h0
 have hp:0<cs.length:=List.length_pos_iff.2 h0;by_cases s0:sh<0
 .refine⟨⟨false,[vE 23]⟩,?_,?_,izQ (bzc 23)⟩
  .unfold azO;simp only;rw[h1,aza,dF0 (by omega),dT0 s0];rfl
  .unfold azO;simp only;rw[h2,aza,List.length_map,dF0 (by omega),dT0 s0];rfl
 by_cases s1:w.v.Sheets<=sh
 .refine⟨⟨false,[vE 23]⟩,?_,?_,izQ (bzc 23)⟩
  .unfold azO;simp only;rw[h1,aza,dF0 (by omega),dF0 s0,dT0 s1];rfl
  .unfold azO;simp only;rw[h2,aza,List.length_map,dF0 (by omega),dF0 s0,hw.shs,dT0 s1];rfl
 have hg:∀c∈cs,bzp (w.v,⟨sh,c⟩)=some ((bzp (w.v,⟨sh,c⟩)).getD v0):=fun c hm=>by
  obtain⟨v,e1,_,_⟩:=hw.get sh c (hc c hm);rw[e1];rfl
 refine⟨⟨true,cs.map fun c=>(bzp (w.v,⟨sh,c⟩)).getD v0⟩,CzL hw.r h1 h0 (by omega) (by omega) (by omega) hg,?_,by simpa using hl,?_,fun h=>by cases h⟩
 .have hg':∀c∈cs.map mv,bzp (w'.v,⟨sh,c⟩)=some ((bzp (w'.v,⟨sh,c⟩)).getD v0):=fun c hm=>by
   obtain⟨b,hb,rfl⟩:=List.mem_map.1 hm;obtain⟨v,_,e2,_⟩:=hw.get sh b (hc b hb);rw[e2];rfl
  rw[CzL hw.r' h2 hn (by rw[List.length_map];omega) (by omega) (by rw[hw.shs];omega) hg',List.map_map];congr 2;refine List.map_congr_left fun c hm=>?_
  obtain⟨v,e1,e2,_⟩:=hw.get sh c (hc c hm)
  show(bzp (w'.v,⟨sh,mv c⟩)).getD v0=_
  rw[e1,e2]
 .intro v hv;obtain⟨c,hm,rfl⟩:=List.mem_map.1 hv;obtain⟨v,e1,_,e3⟩:=hw.get sh c (hc c hm);rw[e1];exact e3
def opS (s:List Val×Bool)(a:Arg):List Val×Bool:=if a.Area=true then(s.1,false)else(s.1++[fst1 a],s.2)
theorem ops_two {self:Worker×Expr×Bool->Option Arg}{w:Worker}{kids:List Expr}{f:Expr->Arg}(hl:kids.length<=1000000)(hf:∀k∈kids,self (w,k,false)=some (f k)/\jzP (f k)):
 ezF self (w,kids)=some ((kids.map f).foldl opS ([],true)):=by
 have this:fzG self (w,[],true,kids,(kids.length:Int),((0:Nat):Int))=some (id (azo (fun(s:List Val×Bool) (k:Expr)=>(.inl (opS s (f k)):(List Val×Bool)⊕(List Val×Bool))) id ([],true) kids)) :=
  azC (F:=czG self) (fun(s:List Val×Bool) (i:Nat)=>(w,s.1,s.2,kids,(kids.length:Int),(i:Int))) id kids (fun s k=>.inl (opS s (f k))) id (fun s i=>s.1.length<=i) (by omega)
  (fun back s i hi hs=>by
   obtain⟨e1,_,_,e3⟩:=hf _ (List.getElem_mem hi);unfold czG opS;simp only;rw[ltT hi,azc,idxG hi,aza,az2,e1,aza,wr1 (by omega)];cases ha:(f kids[i]).Area with
   | true=>rfl
   | false =>
    obtain⟨v,hv⟩:=e3 ha;rw[azb,if_neg (by simp)];unfold fst1;rw[hv,idxZ,aza,appN (by simp only[List.length_singleton];omega),aza];rfl)
  (fun s i hi s' hs e=>by
   cases e;unfold opS;split
   .exact Nat.le_succ_of_le hs
   .simp only[List.length_append,List.length_singleton];omega)
  (fun back s hs=>by
   unfold czG;simp only;rw[ltF,azb];rfl) ([],true) (by simp)
 rw[bzx]at this;unfold ezF;simp only;rw[show(0:Int)=((0:Nat):Int) from rfl,this,aza,id,id,List.foldl_map]
theorem okFst {a:Arg}(h:jzP a):okU (fst1 a):=ozD h.2.1
theorem MzQ (op:Int):∃b,jz5 op=some b:=by
 have:∃y,szd op=some y:=by
  unfold szd;rw[show jz9 ()=some ((jz9 ()).getD []) by kernel_rfl,aza];by_cases h0:op<0
  .rw[dT0 h0];exact⟨_,rfl⟩
  rw[dF0 h0,azb];generalize (jz9 ()).getD []=y;by_cases h1:(y.length:Int)<=op
  .rw[dT0 h1];exact⟨_,rfl⟩
  rw[dF0 h1,azb];obtain⟨n,rfl⟩:=Int.eq_ofNat_of_zero_le (show 0<=op by omega);rw[idxG (show n<y.length by omega)];exact⟨_,rfl⟩
 obtain⟨y,hy⟩:=this;unfold jz5;rw[hy,aza]
 repeat' apply bzw
 all_goals exact⟨_,rfl⟩
def i64T:Nat->Expr->Prop
 | 0,_=>False
 | d+1,e=>I64 e.V.N.M/\∀k∈e.Kids,i64T d k
end Go.Proofs.YtmkmofdnmllioaaGreatDoor
/- QG -/
namespace Go.Proofs.YtmkmofdnmllioaaGreatDoor
open Go Go.Ev Go.Lib
open Go.IntKind (i64 u64 u8 i32 u32 i16 u16)
theorem uzB (back:List Slot×Place×Int×Int->Option (Int×Bool))(l:List Slot)(p:Place)(lo:Nat):dzq back (l,p,(lo:Int),(lo:Int))=some ((lo:Int),bzQ l p lo):=by
 show brn (decide ((lo:Int)=(lo:Int))) _ _=_
 rw[dT0 (Eq.refl (lo:Int)),azc];exact IzQ l p lo
theorem find_two {l l':List Slot}{p p':Place}(hl:l.length<=1000)(hll:l'.length=l.length)(hlt:∀i (h:i<l.length) (h':i<l'.length),ltP l'[i].P p'=ltP l[i].P p)(hf:∀k,bzQ l' p' k=bzQ l p k):
 ∃k:Nat,k<=l.length/\izB (l,p)=some ((k:Int),bzQ l p k)/\izB (l',p')=some ((k:Int),bzQ l p k):=by
 have key:∀t N (lo hi:Nat),hi-lo<=t->t<N->lo<=hi->hi<=l.length->∃k:Nat,k<=l.length/\iter dzq N (l,p,(lo:Int),(hi:Int))=some ((k:Int),bzQ l p k)/\iter dzq N (l',p',(lo:Int),(hi:Int))=some ((k:Int),bzQ l p k):=by
  intro t;induction t with
  | zero =>
   intro N lo hi h1 h2 h3 h4;obtain⟨m,rfl⟩:∃m,N=m+1:=⟨N-1,by omega⟩;have:lo=hi:=by omega
   subst this;refine⟨lo,h4,?_,?_⟩
   .rw[azF,uzB]
   .rw[azF,uzB,hf]
  | succ t ih =>
   intro N lo hi h1 h2 h3 h4;obtain⟨m,rfl⟩:∃m,N=m+1:=⟨N-1,by omega⟩;rw[azF,azF];by_cases h:lo=hi
   .subst h;refine⟨lo,h4,?_,?_⟩
    .rw[uzB]
    .rw[uzB,hf]
   have hm:(lo+hi)/2<l.length:=by omega
   have ih1:=ih m ((lo+hi)/2+1) hi (by omega) (by omega) (by omega) h4;have ih2:=ih m lo ((lo+hi)/2) (by omega) (by omega) (by omega) (by omega);generalize iter dzq m=B at ih1 ih2 ⊢;unfold dzq;simp only;rw[dF0 (by omega),azb,azb,yzE (by omega),idxG hm,idxG (show(lo+hi)/2<l'.length by omega),aza,aza,ozz,ozz,aza,aza,hlt _ hm (by omega),wr1 (by omega)];cases ltP l[(lo+hi)/2].P p with
   | true =>
    obtain⟨k,a1,a2,a3⟩:=ih1;rw[azc,azc,a2,a3];exact⟨k,a1,rfl,rfl⟩
   | false =>
    obtain⟨k,a1,a2,a3⟩:=ih2;rw[azb,azb,a2,a3];exact⟨k,a1,rfl,rfl⟩
 unfold izB mz4;simp only;by_cases h:l.length=0
 .rw[hll,h,dT0 (by rfl),azc,azc];have f0:bzQ l p 0=false:=by unfold bzQ;rw[List.getElem?_eq_none (by omega)]
  exact⟨0,by omega,by rw[f0];rfl,by rw[f0];rfl⟩
 .have hw:=yzE (a:=0) (b:=l.length) (by omega);simp only[Int.cast_ofNat_Int,Nat.zero_add]at hw;have hm:l.length/2<l.length:=by omega
  rw[hll,dF0 (by omega),azb,azb,hw,idxG hm,idxG (show l.length/2<l'.length by omega),aza,aza,ozz,ozz,aza,aza,hlt _ hm (by omega),wr1 (by omega)];cases ltP l[l.length/2].P p with
  | true =>
   obtain⟨k,a1,a2,a3⟩:=key l.length big (l.length/2+1) l.length (by omega) (by rw[czd];omega) (by omega) (by omega);rw[azc,azc,show dzr (l,p,((l.length/2+1:Nat):Int),(l.length:Int))=_ from a2,show dzr (l',p',((l.length/2+1:Nat):Int),(l.length:Int))=_ from a3];exact⟨k,a1,rfl,rfl⟩
  | false =>
   obtain⟨k,a1,a2,a3⟩:=key l.length big 0 (l.length/2) (by omega) (by rw[czd];omega) (by omega) (by omega);rw[azb,azb,show dzr (l,p,0,((l.length/2:Nat):Int))=_ from a2,show dzr (l',p',0,((l.length/2:Nat):Int))=_ from a3];exact⟨k,a1,rfl,rfl⟩
theorem good_ex (v:Env)(p:Place):∃b,jz3 (v,p)=some b:=by
 have:∃g,szH p.At=some g:=by
  unfold szH
  repeat' apply bzw
  all_goals exact⟨_,rfl⟩
 obtain⟨g,hg⟩:=this;unfold jz3;simp only;rw[hg]
 repeat' apply bzw
 all_goals exact⟨_,rfl⟩
theorem get_two {v v':Env}{p p':Place}(hl:v.Slots.length<=1000)(hll:v'.Slots.length=v.Slots.length)(hlt:∀i (h:i<v.Slots.length) (h':i<v'.Slots.length),ltP v'.Slots[i].P p'=ltP v.Slots[i].P p/\eqP v'.Slots[i].P p'=eqP v.Slots[i].P p/\v'.Slots[i].V=v.Slots[i].V)
 (hu:∀s∈v.Slots,okU s.V) (hg:jz3 (v',p')=jz3 (v,p)):∃x,bzp (v,p)=some x/\bzp (v',p')=some x/\okU x:=by
 have hf:∀k,bzQ v'.Slots p' k=bzQ v.Slots p k:=fun k=>by
  unfold bzQ;by_cases h:k<v.Slots.length
  .rw[List.getElem?_eq_getElem h,List.getElem?_eq_getElem (show k<v'.Slots.length by omega)];exact(hlt k h (by omega)).2.1
  .rw[List.getElem?_eq_none (by omega),List.getElem?_eq_none (by omega)]
 obtain⟨k,k1,e1,e2⟩:=find_two hl hll (fun i h h'=>(hlt i h h').1) hf;obtain⟨g,hg1⟩:=good_ex v p;unfold bzp;simp only;rw[hg,hg1,aza];cases g with
 | false=>exact⟨_,rfl,rfl,bzc 23⟩
 | true =>
  simp only[Bool.not_true,azb];rw[e1,e2,aza,aza];cases h:bzQ v.Slots p k with
  | false=>exact⟨_,rfl,rfl,gzL⟩
  | true =>
   have hk:k<v.Slots.length:=by
    by_cases c:k<v.Slots.length
    .exact c
    .unfold bzQ at h;rw[List.getElem?_eq_none (by omega)]at h;cases h
   simp only[azc,Bool.not_true,azb,aza];rw[idxG hk,idxG (show k<v'.Slots.length by omega),aza,aza,(hlt k hk (by omega)).2.2];exact⟨_,rfl,rfl,hu _ (List.getElem_mem hk)⟩
theorem tzN {x m:Int}(h0:0<m)(hm:m<=1000000):kzC (x,m)=some (x%m):=by
 have h1:-m<x.tmod m:=Int.lt_tmod_of_pos x h0;have h2:x.tmod m<m:=Int.tmod_lt_of_pos x h0;unfold kzC;simp only;rw[dF0 (by omega),azb,azb,azi (by omega) (by omega),Int.tmod_eq_emod_of_nonneg (by omega),Int.add_emod_right];have:=Int.mul_tdiv_add_tmod x m;rw[show x%m=(x.tmod m+m*x.tdiv m)%m by rw[Int.add_comm,this],Int.add_mul_emod_self_left]
def mov (b:Bool)(x y m:Int):Int:=if b=true then(x%m+y%m)%m else x%m
theorem mov_in (b:Bool)(x y:Int){m:Int}(h:0<m):0<=mov b x y m/\mov b x y m<m:=by
 unfold mov;split
 .exact⟨Int.emod_nonneg _ (by omega),Int.emod_lt_of_pos _ h⟩
 .exact⟨Int.emod_nonneg _ (by omega),Int.emod_lt_of_pos _ h⟩
def atV (r:Ref)(b:Cell):Cell:=⟨mov r.RelRow r.Row b.Row 65536,mov r.RelCol r.Col b.Col 256⟩
theorem sum_tot {x y m:Int}(h0:0<m)(hm:m<=1000000):ozQ (x,y,m)=some ((x%m+y%m)%m):=by
 have a1:=Int.emod_nonneg x (show m≠0 by omega);have a2:=Int.emod_lt_of_pos x h0;have b1:=Int.emod_nonneg y (show m≠0 by omega);have b2:=Int.emod_lt_of_pos y h0;unfold ozQ;simp only;rw[tzN h0 hm,tzN h0 hm,aza,aza,azi (by omega) (by omega),tzN h0 hm];rfl
theorem at_is (r:Ref)(b:Cell):ozP (r,b)=some (atV r b):=by
 unfold ozP atV mov;simp only;rw[tzN (by omega) (by omega),tzN (by omega) (by omega),sum_tot (by omega) (by omega),sum_tot (by omega) (by omega)];cases r.RelRow<;>cases r.RelCol<;>rfl
theorem rz4 (r:Ref)(b:Cell):(0<=(atV r b).Row/\(atV r b).Row<65536)/\0<=(atV r b).Col/\(atV r b).Col<256:=⟨mov_in _ _ _ (by omega),mov_in _ _ _ (by omega)⟩
def loC (x y:Cell):Cell:=⟨if y.Row<x.Row then y.Row else x.Row,if y.Col<x.Col then y.Col else x.Col⟩
def hiC (x y:Cell):Cell:=⟨if x.Row<y.Row then y.Row else x.Row,if x.Col<y.Col then y.Col else x.Col⟩
theorem cond_dec {A:Type}{c:Prop}[Decidable c]{a b:A}:(bif decide c then a else b)=if c then a else b:=by by_cases h:c<;>simp[h]
theorem Gzp (a:Area)(b:Cell):jzJ (a,b)=some (loC (atV a.A b) (atV a.B b),hiC (atV a.A b) (atV a.B b)):=by
 unfold jzJ loC hiC;simp only;rw[at_is,at_is,aza,aza];simp only[cond_dec]
theorem mzH (a:Area)(b:Cell):dzS (a,b)=some (if 4096<izv (loC (atV a.A b) (atV a.B b)) (hiC (atV a.A b) (atV a.B b))then []else cellsOf (loC (atV a.A b) (atV a.B b)) (hiC (atV a.A b) (atV a.B b))):=by
 have h1:=rz4 a.A b;have h2:=rz4 a.B b;refine cells_is (Gzp a b) ?_ ?_ ?_ ?_ ?_ ?_<;>simp only[loC,hiC]<;>(repeat' split)<;>omega
theorem jz8 {A B:Type}{f:A->List B}{m:Nat}:∀{l:List A},(∀a∈l,(f a).length=m)->(l.flatMap f).length=l.length*m
 | [],_=>by simp
 | a::l,h=>by
  rw[List.flatMap_cons,List.length_append,h a (by simp),jz8 fun b hb=>h b (by simp[hb]),List.length_cons,Nat.add_mul,Nat.one_mul];omega
theorem cells_len {x y:Cell}(h:¬4096<izv x y)(hr:x.Row<=y.Row)(hc:x.Col<=y.Col):(cellsOf x y).length<=4096:=by
 unfold cellsOf;rw[jz8 (m:=(y.Col-x.Col+1).toNat) fun i _=>by unfold hze;rw[List.length_map,List.length_range],List.length_range];unfold izv at h;have:(((y.Row-x.Row+1).toNat*(y.Col-x.Col+1).toNat:Nat):Int)=(y.Row-x.Row+1)*(y.Col-x.Col+1):=by
  rw[Int.natCast_mul,Int.toNat_of_nonneg (by omega),Int.toNat_of_nonneg (by omega)]
 omega
theorem cells_ex (a:Area)(b:Cell):∃cs,dzS (a,b)=some cs/\cs.length<=5000:=by
 have h1:=rz4 a.A b;have h2:=rz4 a.B b;refine⟨_,mzH a b,?_⟩;split
 .simp
 .rename_i h;refine Nat.le_trans (cells_len h ?_ ?_) (by omega)<;>simp only[loC,hiC]<;>(repeat' split)<;>omega
def valOf (a:Arg):Val:=if a.Area=true then vE 15 else if(fst1 a).Kind=0 then vN ⟨0,0⟩else fst1 a
theorem eval_is {e:Expr}{v:Env}{p:Place}{a:Arg}(h:iter bzl big (⟨v,p,0,0,0⟩,e,false)=some a)(ha:jzP a):fzc (e,v,p)=some (valOf a):=by
 unfold fzc gzB valOf;simp only[az2];rw[show mzf (⟨v,p,0,0,0⟩,e,false)=_ from h,aza];cases hA:a.Area with
 | true=>rfl
 | false =>
  obtain⟨x,hx⟩:=ha.2.2 hA;unfold fst1;rw[hx,azb,idxZ,aza,if_neg (by simp)];by_cases h0:x.Kind=0
  .rw[dT0 h0,azc,show([x]:List Val).headD v0=x from rfl,if_pos h0];rfl
  .rw[dF0 h0,azb,show([x]:List Val).headD v0=x from rfl,if_neg h0];rfl
end Go.Proofs.YtmkmofdnmllioaaGreatDoor
/- E0 -/
namespace Go.Proofs.YtmkmofdnmllioaaGreatDoor
open Go Go.Ev
open Go.IntKind (i64 u64 u8 i32 u32 i16 u16)
set_option linter.unusedVariables false
noncomputable section
def nzo (x:Unit):Option (Bool) :=
  obnd (lzR ()) fun y =>
    obnd (uzI (0,0,5)) fun y_1 =>
      obnd (sz7 (0,2,0)) fun y_2 =>
        obnd (Aze (0,[azy y_2])) fun y_3 =>
          obnd (sz7 (0,2,0)) fun y_4 =>
            obnd (Dzz 10) fun y_5 =>
              obnd (Dzw (3,azy y_4,azy y_5)) fun y_6 =>
                obnd (oz6 (azy y_6,y,y_1,3,1)) fun y_7 =>
                  obnd (oz6 (azy y_3,y,y_1,2,1)) fun y_8 =>
                    brn (!decide ((↑(List.length y_7):Int)=3)) (some false)
                      (brn (!decide ((↑(List.length y_8):Int)=2)) (some false)
                        (obnd (fzc (azy y_3,y,y_1)) fun y_9 =>
                          obnd (kzT 6) fun y_10 =>
                            brn
                              (bif false then
                                !(decide (y_9.Kind = y_10.Kind) &&
                                    (decide (y_9.N.M=y_10.N.M) &&
                                      (decide (y_9.N.S=y_10.N.S)&&(decide (y_9.S=y_10.S)&&(decide (y_9.B=y_10.B)&&decide (y_9.E=y_10.E))))))
                              else
                                decide (y_9.Kind=y_10.Kind) &&
                                  (decide (y_9.N.M=y_10.N.M)&&(decide (y_9.N.S=y_10.N.S)&&(decide (y_9.S=y_10.S)&&(decide (y_9.B=y_10.B)&&decide (y_9.E=y_10.E))))))
                              (obnd (fzc (azy y_6,y,y_1)) fun y_11 =>
                                obnd (azm 15) fun y_12 =>
                                  brn
                                    (bif false then
                                      !(decide (y_11.Kind = y_12.Kind) &&
                                          (decide (y_11.N.M=y_12.N.M) &&
                                            (decide (y_11.N.S=y_12.N.S)&&(decide (y_11.S=y_12.S)&&(decide (y_11.B=y_12.B)&&decide (y_11.E=y_12.E))))))
                                    else
                                      decide (y_11.Kind=y_12.Kind) &&
                                        (decide (y_11.N.M=y_12.N.M) &&
                                          (decide (y_11.N.S=y_12.N.S)&&(decide (y_11.S=y_12.S)&&(decide (y_11.B=y_12.B)&&decide (y_11.E=y_12.E))))))
                                    (obnd (GzE (7,7)) fun y_13 =>
                                      obnd (fzc (azy y_13,y,y_1)) fun y_14 =>
                                        obnd (kzT 0) fun y_15 =>
                                          brn
                                            (bif false then
                                              !(decide (y_14.Kind = y_15.Kind) &&
                                                  (decide (y_14.N.M=y_15.N.M) &&
                                                    (decide (y_14.N.S=y_15.N.S)&&(decide (y_14.S=y_15.S)&&(decide (y_14.B=y_15.B)&&decide (y_14.E=y_15.E))))))
                                            else
                                              decide (y_14.Kind=y_15.Kind) &&
                                                (decide (y_14.N.M=y_15.N.M) &&
                                                  (decide (y_14.N.S=y_15.N.S)&&(decide (y_14.S=y_15.S)&&(decide (y_14.B=y_15.B)&&decide (y_14.E=y_15.E))))))
                                            (obnd
                                              (fzc
                                                ({ Kind := 6, V := { Kind := 0, N := { M := 0, S := 0 }, S := [], B := false, E := 0 },
                                                    A :=
                                                      { A := { Row := 0, Col := 0, RelRow := false, RelCol := false },
                                                        B := { Row := 0, Col := 0, RelRow := false, RelCol := false } },
                                                    Sheet := 0, Op := 0, Kids := [] },
                                                  y,y_1))
                                              fun y_16 =>
                                              obnd (azm 29) fun y_17 =>
                                                brn
                                                  (bif false then
                                                    !(decide (y_16.Kind = y_17.Kind) &&
                                                        (decide (y_16.N.M=y_17.N.M) &&
                                                          (decide (y_16.N.S=y_17.N.S)&&(decide (y_16.S=y_17.S)&&(decide (y_16.B=y_17.B)&&decide (y_16.E=y_17.E))))))
                                                  else
                                                    decide (y_16.Kind=y_17.Kind) &&
                                                      (decide (y_16.N.M=y_17.N.M) &&
                                                        (decide (y_16.N.S=y_17.N.S)&&(decide (y_16.S=y_17.S)&&(decide (y_16.B=y_17.B)&&decide (y_16.E=y_17.E))))))
                                                  (obnd (idx y_7 2) fun y_18 =>
                                                    obnd (kzT 30) fun y_19 =>
                                                      brn
                                                        (bif false then
                                                          !(decide (y_18.Kind = y_19.Kind) &&
                                                              (decide (y_18.N.M=y_19.N.M) &&
                                                                (decide (y_18.N.S=y_19.N.S) &&
                                                                  (decide (y_18.S=y_19.S)&&(decide (y_18.B=y_19.B)&&decide (y_18.E=y_19.E))))))
                                                        else
                                                          decide (y_18.Kind=y_19.Kind) &&
                                                            (decide (y_18.N.M=y_19.N.M) &&
                                                              (decide (y_18.N.S=y_19.N.S)&&(decide (y_18.S=y_19.S)&&(decide (y_18.B=y_19.B)&&decide (y_18.E=y_19.E))))))
                                                        (obnd (idx y_8 0) fun y_20 =>
                                                          obnd (kzT 6) fun y_21 =>
                                                            brn
                                                              (bif false then
                                                                !(decide (y_20.Kind = y_21.Kind) &&
                                                                    (decide (y_20.N.M=y_21.N.M) &&
                                                                      (decide (y_20.N.S=y_21.N.S) &&
                                                                        (decide (y_20.S=y_21.S)&&(decide (y_20.B=y_21.B)&&decide (y_20.E=y_21.E))))))
                                                              else
                                                                decide (y_20.Kind=y_21.Kind) &&
                                                                  (decide (y_20.N.M=y_21.N.M) &&
                                                                    (decide (y_20.N.S=y_21.N.S) &&
                                                                      (decide (y_20.S=y_21.S)&&(decide (y_20.B=y_21.B)&&decide (y_20.E=y_21.E))))))
                                                              (obnd (idx y_8 1) fun y_22 =>
                                                                obnd (kzT 6) fun y_23 =>
                                                                  brn
                                                                    (bif false then
                                                                      !(decide (y_22.Kind = y_23.Kind) &&
                                                                          (decide (y_22.N.M=y_23.N.M) &&
                                                                            (decide (y_22.N.S=y_23.N.S) &&
                                                                              (decide (y_22.S=y_23.S)&&(decide (y_22.B=y_23.B)&&decide (y_22.E=y_23.E))))))
                                                                    else
                                                                      decide (y_22.Kind=y_23.Kind) &&
                                                                        (decide (y_22.N.M=y_23.N.M) &&
                                                                          (decide (y_22.N.S=y_23.N.S) &&
                                                                            (decide (y_22.S=y_23.S)&&(decide (y_22.B=y_23.B)&&decide (y_22.E=y_23.E))))))
                                                                    (obnd (oz6 (azy y_6,y,y_1,0,1)) fun y_24 =>
                                                                      brn (decide ((↑(List.length y_24):Int)=0))
                                                                        (obnd
                                                                          (fzc
                                                                            ({ Kind := 4, V := { Kind := 0, N := { M := 0, S := 0 }, S := [], B := false, E := 0 },
                                                                                A :=
                                                                                  { A := { Row := 0, Col := 0, RelRow := false, RelCol := false },
                                                                                    B := { Row := 0, Col := 0, RelRow := false, RelCol := false } },
                                                                                Sheet := 2, Op := 0, Kids := [] },
                                                                              y,y_1))
                                                                          fun y =>
                                                                          obnd (azm 23) fun y_25 =>
                                                                            some
                                                                              (match decide (y.Kind=y_25.Kind)with
                                                                              | false=>false
                                                                              | true =>
                                                                                decide (y.N.M=y_25.N.M) &&
                                                                                  (decide (y.N.S=y_25.N.S) &&
                                                                                    (decide (y.S=y_25.S)&&(decide (y.B=y_25.B)&&decide (y.E=y_25.E))))))
                                                                        (some false))
                                                                    (some false))
                                                              (some false))
                                                        (some false))
                                                  (some false))
                                            (some false))
                                    (some false))
                              (some false)))
def Jzf:FSpec tb:=⟨[],[(0,.val 4)],nzo⟩
theorem zzc:A0 4 Jzf:=A1 Tryz.func4 (.cons xzn (.cons vzL (.cons Bzq (.cons Bzp (.cons DzA (.cons Dzx (.cons Az1 (.cons sza (.cons rzh (.cons azH (.cons FzH .nil)))))))))))
end
set_option linter.unusedVariables false
noncomputable section
def ozy (x:Expr×Env×Place):Option (Bool) :=
 obnd (nzo ()) fun y =>
  brn (!y) (some false)
   (obnd (qzv (azy x.1,x.2.1)) fun y =>
    brn (!y) (some true)
     (obnd (szl (azy x.1)) fun y =>
      obnd (szm x.2.1) fun y_1 =>
       obnd (fzc (azy y,y_1,x.2.2)) fun y =>
        obnd (Bzx y) fun y =>
         obnd (ozw x.2.2) fun y_2 =>
          obnd (tzc (azy x.1,x.2.1,y_2)) fun y_3 =>
           some
            (match decide (y.Kind=y_3.Kind)with
            | false=>false
            | true=>decide (y.N.M=y_3.N.M)&&(decide (y.N.S=y_3.N.S)&&(decide (y.S=y_3.S)&&(decide (y.B=y_3.B)&&decide (y.E=y_3.E)))))))
def tzI:FSpec tb:=⟨[(0,.val 32),(1,.val 35),(2,.val 39)],[(0,.val 4)],ozy⟩
theorem wzc:A0 3 tzI:=A1 Tryz.func3 (.cons zzc (.cons DzH (.cons tzG (.cons FzL (.cons sza (.cons HzG (.cons wza (.cons Bz2 .nil))))))))
end
end Go.Proofs.YtmkmofdnmllioaaGreatDoor
/- QJ -/
namespace Go.Proofs.YtmkmofdnmllioaaGreatDoor
open Go Go.Ev Go.Lib
open Go.IntKind (i64 u64 u8 i32 u32 i16 u16)
theorem qzL {x m:Int}(h0:0<m)(hm:m<=1000000):dzO (x,m)=some (x%m):=by
 have h1:-m<x.tmod m:=Int.lt_tmod_of_pos x h0;have h2:x.tmod m<m:=Int.tmod_lt_of_pos x h0;have h3:=Int.mul_tdiv_add_tmod x m;have e1:x%m=x.tmod m%m:=by rw[show x%m=(x.tmod m+m*x.tdiv m)%m by rw[Int.add_comm,h3],Int.add_mul_emod_self_left]
 unfold dzO;simp only;rw[dF0 (by omega),azb];by_cases c:x.tmod m<0
 .rw[dT0 c,azc,azi (by omega) (by omega),e1,<-Int.add_emod_right,Int.emod_eq_of_lt (by omega) (by omega)]
 .rw[dF0 c,azb,e1,Int.emod_eq_of_lt (by omega) h2]
theorem EzE (r:Ref)(b:Cell):kzp (r,b)=some (atV r b):=by
 have a1:=Int.emod_nonneg r.Row (show(65536:Int)≠0 by omega);have a2:=Int.emod_lt_of_pos r.Row (show(0:Int)<65536 by omega);have b1:=Int.emod_nonneg b.Row (show(65536:Int)≠0 by omega);have b2:=Int.emod_lt_of_pos b.Row (show(0:Int)<65536 by omega);have c1:=Int.emod_nonneg r.Col (show(256:Int)≠0 by omega);have c2:=Int.emod_lt_of_pos r.Col (show(0:Int)<256 by omega);have d1:=Int.emod_nonneg b.Col (show(256:Int)≠0 by omega);have d2:=Int.emod_lt_of_pos b.Col (show(0:Int)<256 by omega);unfold kzp atV mov;simp only;rw[qzL (by omega) (by omega),qzL (by omega) (by omega),qzL (x:=b.Row) (by omega) (by omega),qzL (x:=b.Col) (by omega) (by omega)];simp only[aza];rw[azi (n:=r.Row%65536+b.Row%65536) (by omega) (by omega),azi (n:=r.Col%256+b.Col%256) (by omega) (by omega),qzL (by omega) (by omega),qzL (by omega) (by omega)];cases r.RelRow<;>cases r.RelCol<;>rfl
theorem qzD (a:Area)(b:Cell):gzo (a,b)=some (loC (atV a.A b) (atV a.B b),hiC (atV a.A b) (atV a.B b)):=by
 unfold gzo loC hiC;simp only;rw[EzE,EzE,aza,aza];generalize atV a.A b=x;generalize atV a.B b=y;by_cases h1:y.Row<x.Row
 .by_cases h2:y.Col<x.Col
  .rw[dT0 h1,dT0 h2,if_pos h1,if_pos h2,if_neg (by omega),if_neg (by omega)];rfl
  .rw[dT0 h1,dF0 h2,if_pos h1,if_neg h2,if_neg (by omega)];by_cases h3:x.Col<y.Col
   .rw[if_pos h3];rfl
   .rw[if_neg h3,show y.Col=x.Col by omega];rfl
 .by_cases h2:y.Col<x.Col
  .rw[dF0 h1,dT0 h2,if_neg h1,if_pos h2,if_neg (show ¬x.Col<y.Col by omega)];by_cases h3:x.Row<y.Row
   .rw[if_pos h3];rfl
   .rw[if_neg h3,show y.Row=x.Row by omega];rfl
  .rw[dF0 h1,dF0 h2,if_neg h1,if_neg h2];by_cases h3:x.Row<y.Row
   .rw[if_pos h3];by_cases h4:x.Col<y.Col
    .rw[if_pos h4];rfl
    .rw[if_neg h4,show x=⟨x.Row,y.Col⟩ by rw[show y.Col=x.Col by omega]];rfl
   .rw[if_neg h3];by_cases h4:x.Col<y.Col
    .rw[if_pos h4,show x=⟨y.Row,x.Col⟩ by rw[show y.Row=x.Row by omega]];rfl
    .rw[if_neg h4];have e:x=y:=by
      have e1:x.Row=y.Row:=by omega
      have e2:x.Col=y.Col:=by omega
      cases x;cases y;simp only at e1 e2;rw[e1,e2]
     rw[e];rfl
theorem less_ltP (a b:Place):gz7 (a,b)=some (ltP a b):=by
 unfold gz7 ltP;simp only;by_cases h1:a.Sheet=b.Sheet
 .rw[dT0 h1];by_cases h2:a.At.Row=b.At.Row
  .rw[dT0 h2,h1,h2];simp
  .rw[dF0 h2,h1];simp
 .rw[dF0 h1];simp
theorem GzH {a b c:Place}(h:ltP a b=true)(k:ltP b c=true):ltP a c=true:=by
 unfold ltP at *;simp only[Bool.or_eq_true,Bool.and_eq_true,decide_eq_true_eq]at *;omega
theorem eqP_iff {a b:Place}:eqP a b=true↔a=b:=by
 unfold eqP;simp only[Bool.and_eq_true,decide_eq_true_eq];constructor
 .rintro⟨h1,h2,h3⟩;obtain⟨s,r,c⟩:=a;obtain⟨t,q,d⟩:=b;simp only at h1 h2 h3;rw[h1,h2,h3]
 .rintro rfl;exact⟨rfl,rfl,rfl⟩
theorem ltP_irr (a:Place):ltP a a=false:=by unfold ltP;simp
def sorted (l:List Slot):Prop:=∀i j (hi:i<l.length) (hj:j<l.length),i<j->ltP l[i].P l[j].P=true
theorem sorted_of {l:List Slot}(h:∀i (hi:i+1<l.length),ltP (l[i]'(by omega)).P l[i+1].P=true):sorted l:=by
 have key:∀d i (hi:i<l.length) (hj:i+d+1<l.length),ltP l[i].P l[i+d+1].P=true:=by
  intro d;induction d with
  | zero=>intro i hi hj;exact h i hj
  | succ d ih=>intro i hi hj;exact GzH (ih i hi (by omega)) (h (i+d+1) (by omega))
 intro i j hi hj hij;have:=key (j-i-1) i hi (by omega);simpa[show i+(j-i-1)+1=j by omega]using this
theorem sortedEnv {v:Env}(h:okEnv v):sorted v.Slots:=sorted_of fun i hi=>by
 obtain⟨_,_,_,hl⟩:=h.slo (i+1) hi;obtain⟨_,hl⟩:=hl (by omega);rw[less_ltP]at hl;exact Option.some.inj hl
theorem part_of {l:List Slot}{p:Place}(hs:sorted l):∃k,k<=l.length/\(∀i (h:i<l.length),i<k->ltP l[i].P p=true)/\∀i (h:i<l.length),k<=i->ltP l[i].P p=false:=by
 refine⟨l.findIdx fun s=>!ltP s.P p,List.findIdx_le_length,fun i h hi=>?_,fun i h hi=>?_⟩
 .simpa using List.not_of_lt_findIdx hi
 .have hk:l.findIdx (fun s=>!ltP s.P p)<l.length:=by omega
  have h0:ltP l[l.findIdx fun s=>!ltP s.P p].P p=false:=by simpa using List.findIdx_getElem (w:=hk)
  cases e:ltP l[i].P p with
  | false=>rfl
  | true =>
   by_cases c:i=l.findIdx fun s=>!ltP s.P p
   .subst c;rw[h0]at e;cases e
   .have:=GzH (hs _ i hk h (by omega)) e;rw[h0]at this;cases this
theorem refGet_is {v:Env}{p:Place}(h:okEnv v):dzf (v,p)=bzp (v,p):=by
 have hs:=sortedEnv h;obtain⟨k,k1,h1,h2⟩:=part_of (p:=p) hs;have h60:=h.len;have hf:=find_at (l:=v.Slots) (p:=p) (k:=k) (by omega) k1 h1 h2;have this:pzT (v,p,v0,0)=some ((fun(r:Option Nat)=>match r with|some i=>.inr ((),(v.Slots[i]?.map (·.V)).getD v0)|none=>.inl ((),v0)) _) :=
  jz7 (F:=jzk) (fun i=>(v,p,v0,(i:Int))) (fun r=>match r with|some i=>.inr ((),(v.Slots[i]?.map (·.V)).getD v0)|none=>.inl ((),v0)) v.Slots (fun s=>eqP s.P p) (by omega)
  (fun back i hi=>by
   unfold jzk;simp only;rw[ltT hi,azc,idxG hi,aza,aza,wr1 (by omega),List.getElem?_eq_getElem hi]
   show brn (eqP v.Slots[i].P p) _ _=_
   cases eqP v.Slots[i].P p<;>rfl)
  (fun back=>by
   unfold jzk;simp only;rw[ltF,azb])
 have hidx:v.Slots.findIdx? (fun s=>eqP s.P p)=if bzQ v.Slots p k=true then some k else none:=by
  by_cases c:bzQ v.Slots p k=true
  .rw[if_pos c];have hk:k<v.Slots.length:=by
    by_cases d:k<v.Slots.length
    .exact d
    .unfold bzQ at c;rw[List.getElem?_eq_none (by omega)]at c;cases c
   unfold bzQ at c;rw[List.getElem?_eq_getElem hk]at c;rw[List.findIdx?_eq_some_iff_getElem];refine⟨hk,c,fun j hj=>?_⟩;have:=h1 j (by omega) hj;intro e;rw[eqP_iff.1 e,ltP_irr]at this;cases this
  .rw[if_neg c,List.findIdx?_eq_none_iff];intro s hm;obtain⟨j,hj,rfl⟩:=List.mem_iff_getElem.1 hm;cases e:eqP v.Slots[j].P p with
   | false=>rfl
   | true =>
    exfalso;have ep:=eqP_iff.1 e;by_cases hjk:j<k
    .have:=h1 j hj hjk;rw[ep,ltP_irr]at this;cases this
    .by_cases hje:j=k
     .subst hje;exact c (by unfold bzQ;rw[List.getElem?_eq_getElem hj];exact e)
     .have hk:k<v.Slots.length:=by omega
      have:=hs k j hk hj (by omega);rw[ep,h2 k hk (Nat.le_refl _)]at this;cases this
 unfold dzf bzp;simp only;rw[show dzm (p,v.Sheets)=jz3 (v,p) from rfl];obtain⟨g,hg⟩:=good_ex v p;rw[hg,aza,aza];cases g with
 | false=>rfl
 | true =>
  simp only[Bool.not_true,azb];rw[hf,aza];rw[show(⟨0,⟨0,0⟩,[],false,0⟩:Val)=v0 from rfl,this,hidx,aza];by_cases c:bzQ v.Slots p k=true
  .have hk:k<v.Slots.length:=by
    by_cases d:k<v.Slots.length
    .exact d
    .unfold bzQ at c;rw[List.getElem?_eq_none (by omega)]at c;cases c
   rw[if_pos c,c,azc,idxG hk,aza]
   show some ((Option.map (fun x=>x.V) v.Slots[k]?).getD v0)=_
   rw[List.getElem?_eq_getElem hk];rfl
  .have c':bzQ v.Slots p k=false:=by simpa using c
   rw[if_neg c,c'];rfl
theorem refCellsJ:nzw=jzt:=rfl
theorem Czv (a:Area)(b:Cell):jzD (a,b)=some (izv (loC (atV a.A b) (atV a.B b)) (hiC (atV a.A b) (atV a.B b))):=by
 have h1:=rz4 a.A b;have h2:=rz4 a.B b;have r:0<=(hiC (atV a.A b) (atV a.B b)).Row-(loC (atV a.A b) (atV a.B b)).Row/\(hiC (atV a.A b) (atV a.B b)).Row-(loC (atV a.A b) (atV a.B b)).Row<65536:=by
  simp only[loC,hiC];split<;>split<;>omega
 have c:0<=(hiC (atV a.A b) (atV a.B b)).Col-(loC (atV a.A b) (atV a.B b)).Col/\(hiC (atV a.A b) (atV a.B b)).Col-(loC (atV a.A b) (atV a.B b)).Col<256:=by
  simp only[loC,hiC];split<;>split<;>omega
 unfold jzD izv;rw[qzD,aza];simp only;generalize (hiC (atV a.A b) (atV a.B b)).Row-(loC (atV a.A b) (atV a.B b)).Row=x at r ⊢;generalize (hiC (atV a.A b) (atV a.B b)).Col-(loC (atV a.A b) (atV a.B b)).Col=y at c ⊢;have hm:0<=(x+1)*(y+1)/\(x+1)*(y+1)<=65536*256:=⟨Int.mul_nonneg (by omega) (by omega),Int.mul_le_mul (by omega) (by omega) (by omega) (by omega)⟩;rw[azi (n:=x) (by omega) (by omega),azi (n:=y) (by omega) (by omega),azi (n:=x+1) (by omega) (by omega),azi (n:=y+1) (by omega) (by omega),azi (by omega) (by omega)]
theorem refCellsV (a:Area)(b:Cell):kzr (a,b)=dzS (a,b):=by
 unfold kzr;rw[qzD,aza,Czv,aza,refCellsJ,mzH];by_cases h:4096<izv (loC (atV a.A b) (atV a.B b)) (hiC (atV a.A b) (atV a.B b))
 .rw[dT0 h,if_pos h];rfl
 .have e:=mzH a b;unfold dzS at e;rw[Gzp,aza]at e;have s:=Czv a b;unfold jzD at s;rw[qzD,aza]at s;rw[if_neg h]at e ⊢;rw[dF0 h,azb];simp only at e;rw[Option.some.inj s,dF0 h,azb]at e;exact e
def wkr (v:Env)(p:Place):Worker:=⟨v,p,0,0,0⟩
def akd (v:Env)(p:Place):Asked:=⟨v,p,0,0,0,0⟩
theorem xzd {v:Env}(h:okEnv v)(hu:∀s∈v.Slots,okU s.V)(p:Place):∃x,bzp (v,p)=some x/\dzf (v,p)=some x/\okU x:=by
 obtain⟨x,e1,_,e3⟩:=get_two (v:=v) (v':=v) (p:=p) (p':=p) (by have:=h.len;omega) rfl (fun i h h'=>⟨rfl,rfl,rfl⟩) hu rfl;exact⟨x,e1,by rw[refGet_is h];exact e1,e3⟩
theorem darea_l2 {A:Asked}{sh:Int}{cs:List Cell}{g:Cell->Val}(hl:cs.length<=1000000)(hg:∀c∈cs,dzf (A.V,⟨sh,c⟩)=some (g c)):
 hz8 ([],sh,A,cs,⟨true,[]⟩,0)=some (cs.map g,⟨true,cs.map g⟩):=by
 have this:hz8 ([],sh,A,cs,⟨true,[]⟩,((0:Nat):Int))=some ((fun(s:List Val)=>(s,(⟨true,s⟩:Arg))) (azo (fun(s:List Val) (c:Cell)=>(.inl (s++[g c]):List Val⊕List Val)) id [] cs)) :=
  azC (F:=hz7) (fun(s:List Val) (i:Nat)=>(s,sh,A,cs,(⟨true,s⟩:Arg),(i:Int))) (fun(s:List Val)=>(s,(⟨true,s⟩:Arg))) cs (fun s c=>.inl (s++[g c])) id (fun s i=>s.length=i) (by omega)
  (fun back s i hi hs=>by
   unfold hz7;simp only;rw[ltT hi,azc,idxG hi,aza,hg _ (List.getElem_mem hi),aza,appN (by simp only[List.length_singleton];omega),aza,wr1 (by omega)];rfl)
  (fun s i hi s' hs e=>by cases e;simp[hs])
  (fun back s hs=>by
   unfold hz7;simp only;rw[ltF,azb];rfl) [] rfl
 rw[bzx]at this;rw[show(0:Int)=((0:Nat):Int) from rfl,this];have:∀(m:List Cell) (s:List Val),m.foldl (fun s c=>s++[g c]) s=s++m.map g:=by
  intro m;induction m with
  | nil=>intro s;simp
  | cons v m ih=>intro s;rw[List.foldl_cons,ih];simp
 rw[id,this];rfl
theorem cells_ne {x y:Cell}(hr:x.Row<=y.Row)(hc:x.Col<=y.Col):cellsOf x y≠[]:=by
 intro e;have:=congrArg List.length e;unfold cellsOf at this;rw[jz8 (m:=(y.Col-x.Col+1).toNat) fun i _=>by unfold hze;rw[List.length_map,List.length_range],List.length_range,List.length_nil]at this;rcases Nat.mul_eq_zero.1 this with h|h<;>omega
theorem Izm {v:Env}{p:Place}(h:okEnv v)(hu:∀s∈v.Slots,okU s.V)(e:Expr)(sh:Int)(wh wh':Bool):
 ∃r,azO (wkr v p,sh,e.A,wh)=some r/\jzE (e,akd v p,sh,wh')=some r/\jzP r:=by
 obtain⟨cs,c1,c2⟩:=cells_ex e.A p.At;have i1:=rz4 e.A.A p.At;have i2:=rz4 e.A.B p.At;have hlo:(loC (atV e.A.A p.At) (atV e.A.B p.At)).Row<=(hiC (atV e.A.A p.At) (atV e.A.B p.At)).Row/\(loC (atV e.A.A p.At) (atV e.A.B p.At)).Col<=(hiC (atV e.A.A p.At) (atV e.A.B p.At)).Col:=by
  simp only[loC,hiC];refine⟨?_,?_⟩<;>split<;>split<;>omega
 have two:Two (wkr v p) (wkr v p) id (fun _=>True):=⟨rfl,rfl,rfl,rfl,fun sh c _=>by
  obtain⟨x,e1,_,e3⟩:=xzd h hu ⟨sh,c⟩;exact⟨x,e1,e1,e3⟩⟩
 obtain⟨r,r1,_,r3⟩:=area_two two (a:=e.A) (sh:=sh) (wh:=wh) c1 (by rw[List.map_id];exact c1) c2 (fun _ _=>trivial);refine⟨r,r1,?_,r3⟩;unfold jzE;simp only;rw[mzH]at c1;unfold azO at r1;simp only at r1;rw[show(wkr v p).at_.At=p.At from rfl,mzH,aza]at r1;by_cases s0:sh<0
 .rw[dT0 s0,azc];rw[dT0 s0,azc]at r1;rw[<-r1];cases decide ((((if 4096<izv (loC (atV e.A.A p.At) (atV e.A.B p.At)) (hiC (atV e.A.A p.At) (atV e.A.B p.At))then []else cellsOf (loC (atV e.A.A p.At) (atV e.A.B p.At)) (hiC (atV e.A.A p.At) (atV e.A.B p.At))):List Cell).length:Int)=0)<;>rfl
 by_cases s1:v.Sheets<=sh
 .rw[dF0 s0,azb,show(akd v p).V.Sheets=v.Sheets from rfl,dT0 s1,azc];rw[dF0 s0,azb,show(wkr v p).v.Sheets=v.Sheets from rfl,dT0 s1,azc]at r1;rw[<-r1];cases decide ((((if 4096<izv (loC (atV e.A.A p.At) (atV e.A.B p.At)) (hiC (atV e.A.A p.At) (atV e.A.B p.At))then []else cellsOf (loC (atV e.A.A p.At) (atV e.A.B p.At)) (hiC (atV e.A.A p.At) (atV e.A.B p.At))):List Cell).length:Int)=0)<;>rfl
 rw[dF0 s0,azb,show(akd v p).V.Sheets=v.Sheets from rfl,dF0 s1,azb,show(akd v p).At.At=p.At from rfl,qzD,aza,Czv,aza];rw[dF0 s0,azb,show(wkr v p).v.Sheets=v.Sheets from rfl,dF0 s1,azb]at r1;by_cases h4:4096<izv (loC (atV e.A.A p.At) (atV e.A.B p.At)) (hiC (atV e.A.A p.At) (atV e.A.B p.At))
 .rw[if_pos h4]at r1;rw[dT0 h4,azc,<-r1];rfl
 rw[if_neg h4]at r1 c1;cases c1;have hne:=cells_ne hlo.1 hlo.2;have hp:=List.length_pos_iff.2 hne;rw[dF0 (by omega),azb,show(wkr v p).rows=0 from rfl,show decide ((0:Int)<0)=false from rfl,azb]at r1;unfold dzG at r1;simp only[azb,aza,osum]at r1;rw[dF0 h4,azb,show(akd v p).Rows=0 from rfl,show decide ((0:Int)<0)=false from rfl,azb];unfold kzZ;simp only[azb,aza,osum];rw[refCellsV,mzH,if_neg h4,aza];rw[area_l2 (g:=fun c=>(bzp (v,⟨sh,c⟩)).getD v0) (by omega) (fun c _=>by
  obtain⟨x,e1,_,_⟩:=xzd h hu ⟨sh,c⟩
  show bzp (v,⟨sh,c⟩)=_
  rw[e1];rfl)]at r1
 rw[darea_l2 (g:=fun c=>(bzp (v,⟨sh,c⟩)).getD v0) (by omega) (fun c _=>by
  obtain⟨x,e1,e2,_⟩:=xzd h hu ⟨sh,c⟩
  show dzf (v,⟨sh,c⟩)=_
  rw[e1,e2];rfl)]
 exact r1
end Go.Proofs.YtmkmofdnmllioaaGreatDoor
/- KD -/
namespace Go.Proofs.YtmkmofdnmllioaaGreatDoor
open Go Go.Ev
open Go.IntKind (i64 u64 u8 i32 u32 i16 u16)
set_option linter.unusedVariables false
noncomputable section
end
set_option linter.unusedVariables false
noncomputable section
end
end Go.Proofs.YtmkmofdnmllioaaGreatDoor
/- PD -/
namespace Go.Proofs.YtmkmofdnmllioaaGreatDoor
open Go Go.Ev Go.Lib
open Go.IntKind (i64 u64 u8 i32 u32 i16 u16)
def colE:Env:=⟨2,[⟨⟨0,⟨0,0⟩⟩,vN ⟨1,0⟩⟩,⟨⟨0,⟨1,0⟩⟩,vN ⟨2,0⟩⟩,⟨⟨0,⟨2,0⟩⟩,vN ⟨3,0⟩⟩],[]⟩
theorem column_is:lzR ()=some colE:=by
 have this:mzi (⟨2,[],[]⟩,((0:Nat):Int))=some ((fun e:Env=>((),e)) _):=azC (F:=fzI) (fun(e:Env) (i:Nat)=>(e,(i:Int))) (fun e=>((),e)) [0,1,2] (fun(e:Env) (i:Nat)=>.inl {e with Slots:=e.Slots++[⟨⟨0,⟨(i:Int),0⟩⟩,vN ⟨(i:Int)+1,0⟩⟩]}) id
  (fun e i=>e.Slots.length<=i/\∀s∈e.Slots,s.P.Sheet=0/\s.P.At.Row<(i:Int)) (by simp)
  (fun back e i hi hp=>by
   have hi':i<3:=by simpa using hi
   have hg:([0,1,2]:List Nat)[i]=i:=by
    match i,hi' with
    | 0,_=>rfl
    | 1,_=>rfl
    | 2,_=>rfl
   unfold fzI;simp only;rw[dT0 (by omega),azc,show uzI (0,(i:Int),0)=some ⟨0,⟨(i:Int),0⟩⟩ from rfl,aza,wr1 (by omega),show kzT ((i+1:Nat):Int)=some (vN ⟨((i+1:Nat):Int),0⟩) from rfl,aza,
    put_end (by omega) (fun s hs=>by
     obtain⟨h1,h2⟩:=hp.2 s hs;unfold ltP;simp[h1,h2]) (show(1:Int)≠0 by decide),aza,hg]
   simp[jzM])
  (fun e i hi e' hp h=>by
   have hi':i<3:=by simpa using hi
   have hg:([0,1,2]:List Nat)[i]=i:=by
    match i,hi' with
    | 0,_=>rfl
    | 1,_=>rfl
    | 2,_=>rfl
   rw[hg]at h;cases h;refine⟨by simp only[List.length_append,List.length_singleton];omega,fun s hs=>?_⟩;rcases List.mem_append.1 hs with hs|hs
   .obtain⟨h1,h2⟩:=hp.2 s hs;exact⟨h1,by omega⟩
   .rw[List.mem_singleton]at hs;subst hs;exact⟨rfl,by simp only;omega⟩)
  (fun back e _=>by
   unfold fzI;simp only;rw[dF0 (by simp),azb];rfl) ⟨2,[],[]⟩ ⟨by simp,by simp⟩
 unfold lzR;rw[show(0:Int)=((0:Nat):Int) from rfl,this];rfl
theorem Lz4:nzo ()=some true:=by
 unfold nzo;rw[column_is,aza];kernel_rfl
theorem to_tot:∀(d N:Nat) (e:Expr),d<N->sz d e<=1000->tr d e->iter mzL N e=some e
 | _,0,_,h,_,_=>absurd h (by omega)
 | 0,_,_,_,_,h=>h.elim
 | d+1,N+1,e,hN,hs,ht=>by
  have hl:=lenK hs;have hk:∀k∈e.Kids,iter mzL N k=some k:=fun k hk=>to_tot d N k (by omega) (szK hs hk) (tz4 ht hk)
  rw[azF];generalize iter mzL N=S at hk;have this:=azC (F:=kzg S) (fun(s:List Expr) (i:Nat)=>(s,e,(⟨e.Kind,e.V,e.A,e.Sheet,e.Op,s⟩:Expr),(i:Int))) (fun s:List Expr=>(s,(⟨e.Kind,e.V,e.A,e.Sheet,e.Op,s⟩:Expr))) e.Kids (fun(s:List Expr) k=>(.inl (s++[k]):List Expr⊕List Expr)) id (fun s i=>s.length=i) (by omega)
   (fun back s i hi hp=>by
    unfold kzg;simp only[az2];rw[ltT hi,azc,idxG hi,aza,hk _ (List.getElem_mem hi),aza,appN (by simp only[List.length_singleton];omega),aza,wr1 (by omega)];rfl)
   (fun s i hi s' hp h=>by cases h;simp[hp])
   (fun back s _=>by
    unfold kzg;simp only;rw[ltF,azb];rfl) [] rfl
  rw[bzx]at this;have hf:∀(m s:List Expr),m.foldl (fun s c=>s++[c]) s=s++m:=by
   intro m;induction m with
   | nil=>intro s;simp
   | cons v m ih=>intro s;rw[List.foldl_cons,ih];simp
  rw[id,hf,List.nil_append]at this;unfold mzL;simp only[az2];rw[show rzi e.V=some e.V from rfl,show rzg e.A=some e.A from rfl,aza,aza,show rzd S ([],e,⟨e.Kind,e.V,e.A,e.Sheet,e.Op,[]⟩,0)=_ from this,aza];cases e;rfl
theorem toE {e:Expr}(hs:sz 40 e<=1000)(ht:tr 40 e):szl e=some e:=to_tot 40 big e (by rw[czd];omega) hs ht
theorem toAll {l:List Expr}(hl:l.length<=1000)(h:∀i (h:i<l.length),sz 40 l[i]<=200/\tr 40 l[i]):nzm l=some l:=by
 have this:=azC (F:=gzH) (fun(s:List Expr) (i:Nat)=>(l,s,(i:Int))) id l (fun(s:List Expr) k=>(.inl (s++[k]):List Expr⊕List Expr)) id (fun s i=>s.length=i) (by omega)
  (fun back s i hi hp=>by
   obtain⟨a1,a2⟩:=h i hi;unfold gzH;simp only[az2];rw[ltT hi,azc,idxG hi,aza,toE (by omega) a2,aza,appN (by simp only[List.length_singleton];omega),aza,wr1 (by omega)];rfl)
  (fun s i hi s' hp h=>by cases h;simp[hp])
  (fun back s _=>by
   unfold gzH;simp only;rw[ltF,azb];rfl) [] rfl
 rw[bzx]at this;have hf:∀(m s:List Expr),m.foldl (fun s c=>s++[c]) s=s++m:=by
  intro m;induction m with
  | nil=>intro s;simp
  | cons v m ih=>intro s;rw[List.foldl_cons,ih];simp
 rw[id,id,hf,List.nil_append]at this;unfold nzm;rw[show nzn (l,[],0)=_ from this];rfl
theorem toV {v:Env}(hl:v.Slots.length<=1000)(hn:v.Names.length<=1000)(h:∀i (h:i<v.Names.length),sz 40 v.Names[i]<=200/\tr 40 v.Names[i]):szm v=some v:=by
 have this:=azC (F:=kzh) (fun(s:List Slot) (i:Nat)=>(s,v,(⟨v.Sheets,s,v.Names⟩:Env),(i:Int))) (fun s:List Slot=>(s,(⟨v.Sheets,s,v.Names⟩:Env))) v.Slots (fun(s:List Slot) k=>(.inl (s++[k]):List Slot⊕List Slot)) id (fun s i=>s.length=i) (by omega)
  (fun back s i hi hp=>by
   unfold kzh;simp only;rw[ltT hi,azc,idxG hi,aza,show ozx v.Slots[i].P=some v.Slots[i].P from rfl,aza,aza,show rzi v.Slots[i].V=some v.Slots[i].V from rfl,aza,appN (by simp only[List.length_singleton];omega),aza,wr1 (by omega)];rfl)
  (fun s i hi s' hp h=>by cases h;simp[hp])
  (fun back s _=>by
   unfold kzh;simp only;rw[ltF,azb];rfl) [] rfl
 rw[bzx]at this;have hf:∀(m s:List Slot),m.foldl (fun s c=>s++[c]) s=s++m:=by
  intro m;induction m with
  | nil=>intro s;simp
  | cons v m ih=>intro s;rw[List.foldl_cons,ih];simp
 rw[id,hf,List.nil_append]at this;unfold szm;rw[toAll hn h,aza,show rze ([],v,⟨v.Sheets,[],v.Names⟩,0)=_ from this];rfl
theorem Bzl {W:Expr->Prop}(hw:∀e,W e->I64 e.V.N.M/\∀k∈e.Kids,W k):∀(d:Nat) (e:Expr),tr d e->W e->i64T d e
 | 0,_,h,_=>h.elim
 | d+1,e,h,he=>⟨(hw e he).1,fun k hk=>Bzl hw d k (h.2 k hk) ((hw e he).2 k hk)⟩
theorem slots_ok {v:Env}(h:okEnv v)(hm:∀s∈v.Slots,I64 s.V.N.M):∀s∈v.Slots,okU s.V:=by
 intro s hs;obtain⟨i,hi,rfl⟩:=List.mem_iff_getElem.1 hs;obtain⟨_,_,hc,_⟩:=h.slo i hi;obtain⟨c,c1,c2,_⟩:=qzW (h.txt i hi);rw[hc]at c2;exact okU_of (h.txt i hi) (hm _ hs) (by rw[c1,<-c2])
theorem takes_tot (op:Int):∃b,kzA op=some b:=by
 unfold kzA
 repeat' apply bzw
 all_goals exact⟨_,rfl⟩
theorem dargs_is {self:Expr×Asked×Bool->Option Arg}{A:Asked}{e:Expr}{wh:Bool}{f:Expr->Arg}(hl:e.Kids.length<=1000000)(hw:kzA e.Op=some wh)(hf:∀k∈e.Kids,self (k,A,wh)=some (f k)):
 lzW self (e,A,[],0)=some (e.Kids.map f):=by
 have this:lzW self (e,A,[],((0:Nat):Int))=some (id (azo (fun(s:List Arg) (k:Expr)=>(.inl (s++[f k]):List Arg⊕List Arg)) id [] e.Kids)) :=
  azC (F:=jzl self) (fun(s:List Arg) (i:Nat)=>(e,A,s,(i:Int))) id e.Kids (fun s k=>.inl (s++[f k])) id (fun s i=>s.length=i) (by omega)
  (fun back s i hi hs=>by
   unfold jzl;simp only[az2];rw[ltT hi,azc,idxG hi,aza,hw,aza,hf _ (List.getElem_mem hi),aza,appN (by simp only[List.length_singleton];omega),aza,wr1 (by omega)];rfl)
  (fun s i hi s' hs e=>by cases e;simp[hs])
  (fun back s hs=>by
   unfold jzl;simp only;rw[ltF,azb];rfl) [] rfl
 rw[bzx]at this;rw[show(0:Int)=((0:Nat):Int) from rfl,this];have:∀(m:List Expr) (s:List Arg),m.foldl (fun s c=>s++[f c]) s=s++m.map f:=by
  intro m;induction m with
  | nil=>intro s;simp
  | cons v m ih=>intro s;rw[List.foldl_cons,ih];simp
 rw[id,id,this];rfl
theorem Jzl {v:Env}{p:Place}(h:okEnv v)(hu:∀s∈v.Slots,okU s.V){S:Worker×Expr×Bool->Option Arg}{S':Expr×Asked×Bool->Option Arg}{e:Expr}(wh wh':Bool)(h2:2<=e.Kind)(h6:e.Kind<=5):
 ∃a,bzl S (wkr v p,e,wh)=some a/\dzg S' (e,akd v p,wh')=some a/\jzP a:=by
 unfold bzl dzg;simp only[az2];rw[dF0 (show ¬e.Kind=1 by omega),azb,azb];rcases(show e.Kind=2\/e.Kind=3\/e.Kind=4\/e.Kind=5 by omega)with k|k|k|k
 .obtain⟨x,f1,f2,f3⟩:=xzd h hu ⟨p.Sheet,atV e.A.A p.At⟩;rw[dT0 k,azc,azc,at_is,EzE,aza,aza];rw[show bzp ((wkr v p).v,⟨(wkr v p).at_.Sheet,atV e.A.A (wkr v p).at_.At⟩)=_ from f1,show dzf ((akd v p).V,⟨(akd v p).At.Sheet,atV e.A.A (akd v p).At.At⟩)=_ from f2];exact⟨_,rfl,rfl,izQ f3⟩
 .obtain⟨r,f1,f2,f3⟩:=Izm h hu (p:=p) e p.Sheet wh wh';rw[dF0 (show ¬e.Kind=2 by omega),dF0 (show ¬e.Kind=4 by omega),dT0 k];simp only[azb,azc];rw[show azO (wkr v p,(wkr v p).at_.Sheet,e.A,wh)=_ from f1,show jzE (e,akd v p,(akd v p).At.Sheet,wh')=_ from f2];exact⟨_,rfl,rfl,f3⟩
 .obtain⟨x,f1,f2,f3⟩:=xzd h hu ⟨e.Sheet,atV e.A.A p.At⟩;rw[dF0 (show ¬e.Kind=2 by omega),dT0 k];simp only[azb,azc];rw[at_is,EzE,aza,aza];rw[show bzp ((wkr v p).v,⟨e.Sheet,atV e.A.A (wkr v p).at_.At⟩)=_ from f1,show dzf ((akd v p).V,⟨e.Sheet,atV e.A.A (akd v p).At.At⟩)=_ from f2];exact⟨_,rfl,rfl,izQ f3⟩
 .obtain⟨r,f1,f2,f3⟩:=Izm h hu (p:=p) e e.Sheet wh wh';rw[dF0 (show ¬e.Kind=2 by omega),dF0 (show ¬e.Kind=4 by omega),dF0 (show ¬e.Kind=3 by omega),dT0 k];simp only[azb,azc];rw[f1,f2];exact⟨_,rfl,rfl,f3⟩
theorem Fzj {v:Env}{p:Place}{P:Expr->Prop}(M:Nat) (hlf:∀(N N':Nat) (e:Expr) (wh wh':Bool),M<=N->M<=N'->2<=e.Kind->e.Kind<=6->P e ->
 ∃a,bzl (iter bzl N) (wkr v p,e,wh)=some a/\dzg (iter dzg N') (e,akd v p,wh')=some a/\jzP a) :
 ∀(d N N':Nat) (e:Expr) (wh wh':Bool),d+M<=N->d+M<=N'->sz d e<=1000->tr d e->okN d e->i64T d e->lv P d e ->
 ∃a,iter bzl N (wkr v p,e,wh)=some a/\iter dzg N' (e,akd v p,wh')=some a/\jzP a
 | 0,_,_,_,_,_,_,_,_,h,_,_,_=>h.elim
 | d+1,0,_,_,_,_,h,_,_,_,_,_,_=>absurd h (by omega)
 | d+1,_,0,_,_,_,_,h,_,_,_,_,_=>absurd h (by omega)
 | d+1,N+1,N'+1,e,wh,wh',hN,hN',hs,ht,ho,hi,hv=>by
  have hl:=lenK hs;rw[azF,azF];by_cases hlf':2<=e.Kind/\e.Kind<=6
  .unfold lv at hv;rw[if_pos hlf']at hv;exact hlf N N' e wh wh' (by omega) (by omega) hlf'.1 hlf'.2 hv
  unfold lv at hv;rw[if_neg hlf']at hv;have ih:∀wo wo',∀k∈e.Kids,∃a,iter bzl N (wkr v p,k,wo)=some a/\iter dzg N' (k,akd v p,wo')=some a/\jzP a:=fun wo wo' k hk =>
   Fzj M hlf d N N' k wo wo' (by omega) (by omega) (szK hs hk) (tz4 ht hk) (ho.2 k hk) (hi.2 k hk) (hv k hk)
  generalize iter bzl N=S at ih ⊢;generalize iter dzg N'=S' at ih ⊢;obtain⟨k0,k1,kV,k7,k8,k10,k30,_⟩:=ho.1
  let f:Bool->Expr->Arg:=fun wo k=>(S (wkr v p,k,wo)).getD noA
  have hf:∀wo wo',∀k∈e.Kids,S (wkr v p,k,wo)=some (f wo k)/\S' (k,akd v p,wo')=some (f wo k)/\jzP (f wo k):=fun wo wo' k hk=>by
   obtain⟨a,a1,a2,a3⟩:=ih wo wo' k hk
   show S (wkr v p,k,wo)=some ((S (wkr v p,k,wo)).getD noA)/\S' (k,akd v p,wo')=some ((S (wkr v p,k,wo)).getD noA)/\jzP ((S (wkr v p,k,wo)).getD noA)
   rw[a1];exact⟨rfl,a2,a3⟩
  generalize f=f at hf;unfold bzl dzg;simp only[az2];rcases(show e.Kind=1\/e.Kind=7\/e.Kind=8\/e.Kind=9\/e.Kind=10 by omega)with k|k|k|k|k
  .rw[dT0 k,azc,azc];obtain⟨c,c1,c2,_⟩:=qzW ht.1;rw[kV k]at c2;exact⟨_,rfl,rfl,izQ (okU_of ht.1 hi.1 (by rw[c1,<-c2]))⟩
  .obtain⟨x,hx⟩:∃x,e.Kids=[x]:=by
    have:=k7 k
    match e.Kids,this with
    | [x],_=>exact⟨x,rfl⟩
   obtain⟨f1,f2,f3⟩:=hf false false x (by rw[hx];simp);rw[dF0 (show ¬e.Kind=1 by omega),dF0 (show ¬e.Kind=2 by omega),dF0 (show ¬e.Kind=4 by omega),dF0 (show ¬e.Kind=3 by omega),dF0 (show ¬e.Kind=5 by omega),dF0 (show ¬e.Kind=6 by omega),dF0 (show ¬e.Kind=10 by omega),dF0 (show ¬e.Kind=9 by omega),dT0 k];simp only[azb,azc];rw[ops_two (f:=f false) (by omega) fun y hy=>⟨(hf false false y hy).1,(hf false false y hy).2.2⟩,hx];simp only[List.map_cons,List.map_nil,List.foldl_cons,List.foldl_nil,aza];rw[idxZ,aza,f2,aza];unfold opS;cases ha:(f false x).Area with
   | true=>exact⟨_,rfl,rfl,izQ (bzc 15)⟩
   | false =>
    obtain⟨w,hw⟩:=f3.2.2 ha;obtain⟨r,v1,v2,v3⟩:=unU_eq (op:=e.Op) (okFst f3);rw[show fst1 (f false x)=w by unfold fst1;rw[hw];rfl]at v1 v2;rw[if_neg (by simp),show fst1 (f false x)=w by unfold fst1;rw[hw];rfl];simp only[List.nil_append,Bool.not_true,azb];simp only[hw,idxZ,aza];rw[v1,v2];exact⟨_,rfl,rfl,izQ v3⟩
  .obtain⟨x,y,hx⟩:∃x y,e.Kids=[x,y]:=by
    have:=k8 k
    match e.Kids,this with
    | [x,y],_=>exact⟨x,y,rfl⟩
   obtain⟨f1,f2,f3⟩:=hf false false x (by rw[hx];simp);obtain⟨g1,g2,g3⟩:=hf false false y (by rw[hx];simp);rw[dF0 (show ¬e.Kind=1 by omega),dF0 (show ¬e.Kind=2 by omega),dF0 (show ¬e.Kind=4 by omega),dF0 (show ¬e.Kind=3 by omega),dF0 (show ¬e.Kind=5 by omega),dF0 (show ¬e.Kind=6 by omega),dF0 (show ¬e.Kind=10 by omega),dF0 (show ¬e.Kind=9 by omega),dF0 (show ¬e.Kind=7 by omega),dT0 k];simp only[azb,azc];rw[ops_two (f:=f false) (by omega) fun y hy=>⟨(hf false false y hy).1,(hf false false y hy).2.2⟩,hx];simp only[List.map_cons,List.map_nil,List.foldl_cons,List.foldl_nil,aza];rw[idxZ,aza,f2,aza,show idx [x,y] 1=some y from rfl,aza,g2,aza];unfold opS;by_cases ha:(f false x).Area=true
   .rw[if_pos ha,ha,azc];by_cases hb:(f false y).Area=true
    .rw[if_pos hb];exact⟨_,rfl,rfl,izQ (bzc 15)⟩
    .rw[if_neg hb];exact⟨_,rfl,rfl,izQ (bzc 15)⟩
   .have ha':(f false x).Area=false:=by simpa using ha
    rw[if_neg ha,ha',azb];by_cases hb:(f false y).Area=true
    .rw[if_pos hb,hb,azc];exact⟨_,rfl,rfl,izQ (bzc 15)⟩
    .have hb':(f false y).Area=false:=by simpa using hb
     rw[if_neg hb,hb',azb];obtain⟨w,hw⟩:=f3.2.2 ha';obtain⟨u,hu⟩:=g3.2.2 hb';obtain⟨r,v1,v2,v3⟩:=binU_eq (op:=e.Op) (okFst f3) (okFst g3);rw[show fst1 (f false x)=w by unfold fst1;rw[hw];rfl,show fst1 (f false y)=u by unfold fst1;rw[hu];rfl]at v1 v2;rw[show fst1 (f false x)=w by unfold fst1;rw[hw];rfl,show fst1 (f false y)=u by unfold fst1;rw[hu];rfl];simp only[List.nil_append,List.cons_append,Bool.not_true,azb];have h1:idx [w,u] 1=some u:=rfl;simp only[hw,hu,idxZ,h1,aza];rw[v1,v2];exact⟨_,rfl,rfl,izQ v3⟩
  .obtain⟨wo,hwo⟩:=MzQ e.Op;obtain⟨wd,hwd⟩:=takes_tot e.Op;rw[dF0 (show ¬e.Kind=1 by omega),dF0 (show ¬e.Kind=2 by omega),dF0 (show ¬e.Kind=4 by omega),dF0 (show ¬e.Kind=3 by omega),dF0 (show ¬e.Kind=5 by omega),dF0 (show ¬e.Kind=6 by omega),dF0 (show ¬e.Kind=10 by omega),dF0 (show ¬e.Kind=7 by omega),dF0 (show ¬e.Kind=8 by omega),dT0 k];simp only[azb,azc];rw[args_is (f:=f wo) (by omega) hwo fun y hy=>(hf wo wd y hy).1,dargs_is (f:=f wo) (by omega) hwd fun y hy=>(hf wo wd y hy).2.1,aza,aza];have hm:∀a∈e.Kids.map (f wo),jzP a:=fun a ha=>by
    obtain⟨y,hy,rfl⟩:=List.mem_map.1 ha;exact(hf wo wd y hy).2.2
   obtain⟨r,v1,v2,v3⟩:=apply_eq (op:=e.Op) (l:=e.Kids.map (f wo)) ⟨by rw[List.length_map];omega,fun a ha=>⟨(hm a ha).1,fun v hv=>((hm a ha).2.1 v hv).1⟩⟩ (fun a ha=>(hm a ha).2.1);rw[v1,v2];exact⟨_,rfl,rfl,izQ v3⟩
  .obtain⟨x,hx⟩:∃x,e.Kids=[x]:=by
    have:=k10 k
    match e.Kids,this with
    | [x],_=>exact⟨x,rfl⟩
   obtain⟨f1,f2,f3⟩:=hf wh wh' x (by rw[hx];simp);rw[dF0 (show ¬e.Kind=1 by omega),dF0 (show ¬e.Kind=2 by omega),dF0 (show ¬e.Kind=4 by omega),dF0 (show ¬e.Kind=3 by omega),dF0 (show ¬e.Kind=5 by omega),dF0 (show ¬e.Kind=6 by omega),dF0 (show ¬e.Kind=7 by omega),dF0 (show ¬e.Kind=8 by omega),dF0 (show ¬e.Kind=9 by omega),dT0 k];simp only[azb,azc];rw[hx,idxZ,aza,f1,aza,aza,f2,aza];exact⟨_,rfl,rfl,f3⟩
theorem told_is {a:Arg}(ha:jzP a):pzd a=some (valOf a):=by
 unfold pzd valOf;cases hA:a.Area with
 | true=>rfl
 | false =>
  obtain⟨x,hx⟩:=ha.2.2 hA;unfold fst1;rw[hx,azb,idxZ,aza,if_neg (by simp)];by_cases h0:x.Kind=0
  .rw[dT0 h0,azc,show([x]:List Val).headD v0=x from rfl,if_pos h0];rfl
  .rw[dF0 h0,azb,show([x]:List Val).headD v0=x from rfl,if_neg h0];rfl
theorem Izf {e:Expr}{v:Env}{p:Place}{W:Expr->Prop}(hW:W e)(hw:∀e,W e->I64 e.V.N.M/\∀k∈e.Kids,W k)(hm:∀s∈v.Slots,I64 s.V.N.M)(hn:∀n∈v.Names,W n):ozy (e,v,p)=some true:=by
 unfold ozy;simp only[az2];rw[Lz4,aza];simp only[Bool.not_true,azb];obtain⟨b,hb,hb'⟩:=few_all e v;rw[hb,aza];cases b with
 | false=>rfl
 | true =>
  obtain⟨hs,ht,ho,hv,_⟩:=hb' rfl;simp only[Bool.not_true,azb];have hu:=slots_ok hv hm;have h20:=hv.nl;rw[toE (e:=e) (by omega) ht,aza,toV (v:=v) (by have:=hv.len;omega) (by omega) (fun i h=>⟨(hv.nam i h).1,(hv.nam i h).2.1⟩),aza];have one:=Fzj (v:=v) (p:=p) (P:=yzH) 0 (fun N N' x wh wh' _ _ h2 h6 hx=>Jzl hv hu wh wh' h2 (by have:x.Kind≠6:=hx;omega));have all:=Fzj (v:=v) (p:=p) (P:=fun _=>True) 41 (fun N N' x wh wh' hN hN' h2 h6 _=>by
   by_cases k6:x.Kind=6
   .have hone:=fun(n:Expr)=>one 40 N N' n wh wh' (by omega) (by omega)
    generalize iter bzl N=S at hone ⊢;generalize iter dzg N'=S' at hone ⊢;unfold bzl dzg;simp only[az2];rw[dF0 (show ¬x.Kind=1 by omega),dF0 (show ¬x.Kind=2 by omega),dF0 (show ¬x.Kind=4 by omega),dF0 (show ¬x.Kind=3 by omega),dF0 (show ¬x.Kind=5 by omega),dT0 k6];simp only[azb,azc];rw[show(wkr v p).v=v from rfl,show(akd v p).V=v from rfl];by_cases c0:x.Op<0
    .rw[dT0 c0];exact⟨_,rfl,rfl,izQ (bzc 29)⟩
    rw[dF0 c0,azb,azb];by_cases c1:(v.Names.length:Int)<=x.Op
    .rw[dT0 c1];exact⟨_,rfl,rfl,izQ (bzc 29)⟩
    rw[dF0 c1,azb,azb];obtain⟨k,hk⟩:=Int.eq_ofNat_of_zero_le (show 0<=x.Op by omega);have hlt:k<v.Names.length:=by omega
    rw[hk,idxG hlt,aza,aza];obtain⟨n1,n2,n3,n4⟩:=hv.nam k hlt;obtain⟨a,a1,a2,a3⟩:=hone v.Names[k] (by omega) n2 n3 (Bzl hw 40 _ n2 (hn _ (List.getElem_mem hlt))) n4;rw[a1,a2];exact⟨_,rfl,rfl,a3⟩
   .exact Jzl hv hu wh wh' h2 (by omega))
  have hl:lv (fun _=>True) 40 e:=by
   obtain⟨l,_,_,h3⟩:=refsF (e:=e) (by omega) ht;exact h3 _ fun _ _=>trivial
  obtain⟨a,a1,a2,a3⟩:=all 40 big big e false true (by rw[czd];omega) (by rw[czd];omega) (by omega) ht ho (Bzl hw 40 e ht hW) hl;rw[eval_is a1 a3,aza];simp only[show ∀w,Bzx w=some w from fun _=>rfl,show ozw p=some p from rfl,aza];unfold tzc;simp only[az2];rw[show uz8 (e,⟨v,p,0,0,0,0⟩,true)=_ from a2,aza,told_is a3];simp
end Go.Proofs.YtmkmofdnmllioaaGreatDoor
/- RW -/
namespace Go.Proofs.YtmkmofdnmllioaaGreatDoor
open Go Go.Ev
open Go.IntKind (i64 u64 u8 i32 u32 i16 u16)
theorem own:ownKnob Tryz.prog.godebug=none:=by kernel_rfl
theorem laidOut:laidOutB Tryz.prog=true:=by kernel_rfl
theorem and2 {a b:Bool}(h:a=true)(k:b=true):(a&&b)=true:=by rw[h,k];rfl
theorem main_is:Tryz.pinned.checked.prog.mainIs=some (true, "5d976fbb15dcba9327042b5fd6d1b39e2380c1b948ea8b70d1fdb3db1e596927".toList):=by kernel_rfl
theorem looks_is:false=Tryz.pinned.checked.prog.looks []:=by kernel_rfl
theorem Mzg:mapsRowed Tryz.prog=true:=by kernel_rfl
theorem Mzp:(Rows.evalAnyRow.plainKeys == Tryz.prog.plainKeys)=true:=by kernel_rfl
theorem Lzo:Tryz.prog.stopsHeard=true:=by kernel_rfl
theorem may_enter:Tryz.prog.mayEnter=true:=by kernel_rfl
theorem lifts_is:(Rows.evalAnyRow.lifted == Tryz.prog.liftsFinal)=true:=by kernel_rfl
theorem make_is:(Tryz.prog.make == some Rows.evalAnyRow.make)=true:=by kernel_rfl
abbrev laidL:List (String×DataW Unit):=[("math/bits.deBruijn32tab",Rows.laid_math_bits_deBruijn32tab),("math/bits.deBruijn64tab",Rows.laid_math_bits_deBruijn64tab),("internal/strconv.uint64pow10",Rows.laid_internal_strconv_uint64pow10),("unicode/utf8.acceptRanges",Rows.laid_unicode_utf8_acceptRanges),("unicode/utf8.first",Rows.laid_unicode_utf8_first)]
theorem extra:Go.Proofs.U8Extra Tryz.prog Tryz.lays196_ren:=⟨by kernel_rfl,by kernel_rfl,by kernel_rfl,by kernel_rfl,by kernel_rfl,by kernel_rfl,by kernel_rfl⟩
theorem first_is:(Rows.laid_unicode_utf8_first:DataW Unit)=Lib.firstData:=by kernel_rfl
theorem accept_is:(Rows.laid_unicode_utf8_acceptRanges:DataW Unit)=Lib.acceptData:=by kernel_rfl
theorem inv_of {W:World}(h:laidMetH Tryz.prog laidL W):tb.inv (fun _=>.con) W:=by
 rw[MakeChecks.laidMetH_plain _ _ _ (by kernel_rfl)]at h;have h3:=Lib.laidMet.reads h (n := "unicode/utf8.first") (d:=Rows.laid_unicode_utf8_first) (by simp);have h4:=Lib.laidMet.reads h (n := "unicode/utf8.acceptRanges") (d:=Rows.laid_unicode_utf8_acceptRanges) (by simp);rw[first_is]at h3;rw[accept_is]at h4;obtain⟨g2,t2,cs2,f2,p2,hg2,ht2,hv2,hd2⟩:=Lib.laidMet.reads h (n := "internal/strconv.uint64pow10") (d:=Rows.laid_internal_strconv_uint64pow10) (by simp);obtain rfl:=Option.some.inj ((show Tryz.prog.globalNamed "internal/strconv.uint64pow10" = some 5 by kernel_rfl).symm.trans hg2);obtain rfl:=Option.some.inj ((show(Tryz.prog.globals[5]?).map (·.type)=some 341 by kernel_rfl).symm.trans ht2);refine⟨rfl,rfl,Go.Proofs.utf8Tabs_of_readsT (.of196 Tryz.lays196) extra h3 h4,5,by kernel_rfl,rfl,?_⟩;have:=Lib.cells_of_tab (k:=.u64) (zs:=Lib.pow10Tab) (n:=20) Tryz.underlying341 Tryz.underlying275 (by kernel_rfl) (by kernel_rfl) (show DataW.trod _ _ _ _ _ _ _ _ _=some (Lib.tabData .u64 Lib.pow10Tab,_) from hd2);unfold Lib.TabIs;rw[hv2,<-this]
theorem true_out {P:Program}:∀g w us cs v,az1 P tb g w [(0,.val 4)] true us cs->RetV [(0,.val 4)] us v->azI P 4=false->v = .bool true:=by
 intro g w us cs v h hr ha;cases us with
 | nil=>cases cs<;>exact h.elim
 | cons u us =>
  cases us with
  | cons _ _=>cases cs<;>exact h.elim
  | nil =>
   cases cs with
   | nil=>exact h.elim
   | cons c cs =>
    cases cs with
    | cons _ _=>exact h.elim
    | nil =>
     have hr:v=u:=hr;subst hr;obtain⟨h1,_⟩:=h;unfold azT at h1;simp only[ha,Bool.false_eq_true,if_false]at h1;obtain⟨c,hc,hrep⟩:=h1;have hc:[CV.bool true]=[c]:=hc;simp only[List.cons.injEq,and_true]at hc;subst hc;cases hrep;rfl
theorem wf_int {k:IntKind}{n:Int}(h:Wf Tryz.prog tb (.int k n)):inR k n:=by cases h;assumption
def rd2:RdTab Tryz.prog tb:=⟨[32,90,35,39],20,fun t ht=>by
 simp only[List.mem_cons,List.not_mem_nil,or_false]at ht;rcases ht with rfl|rfl|rfl|rfl
 .exact yzM (ks:=[.int .i64,.int .i64,.int .i64,.int .i64,.str,.bool,.int .i64,.int .i64,.int .i64,.bool,.bool,.int .i64,.int .i64,.bool,.bool,.int .i64,.int .i64,.sl 32]) (by kernel_rfl) (by kernel_rfl) (fun _ _ _ _ _ _ _ _ _ _ _ _ _ _ _ _ _ _=>rfl)
 .exact yzM (ks:=[.int .i64,.int .i64,.int .i64,.int .i64,.int .i64,.int .i64,.str,.bool,.int .i64]) (by kernel_rfl) rfl (fun _ _ _ _ _ _ _ _ _=>rfl)
 .exact yzM (ks:=[.int .i64,.sl 90,.sl 32]) (by kernel_rfl) (by kernel_rfl) (fun _ _ _=>rfl)
 .exact yzM (ks:=[.int .i64,.int .i64,.int .i64]) (by kernel_rfl) rfl (fun _ _ _=>rfl)⟩
theorem readable2:∀t∈[32,35,39],Tryz.prog.readableRec t=true/\t<Tryz.prog.types.size:=by
 intro t ht;simp only[List.mem_cons,List.not_mem_nil,or_false]at ht;rcases ht with rfl|rfl|rfl<;>exact⟨by kernel_rfl,of_decide_eq_true (by kernel_rfl)⟩
def wfE (e:Expr):Prop:=∀c∈tb.enc 32 e,Wf Tryz.prog tb c
theorem wfE_step:∀e,wfE e->I64 e.V.N.M/\∀k∈e.Kids,wfE k:=fun e h=>by
 unfold wfE at h;rw[enc32_eq]at h;have h1:=wf_int (h (.int .i64 e.V.N.M) (by simp));have h2:=h (.sl 32 e.Kids) (by simp);refine⟨by simpa[Ev.inR,lo,hi,I64]using h1,fun k hk=>?_⟩;cases h2 with
 | sl e xs _ hx=>exact hx k hk
theorem wf_slots {v:Env}(h:∀c∈tb.enc 35 v,Wf Tryz.prog tb c):∀s∈v.Slots,I64 s.V.N.M:=by
 rw[IzB]at h;have h2:=h (.sl 90 v.Slots) (by simp);cases h2 with
 | sl e xs _ hx =>
  intro s hs;have h3:=hx s hs;rw[enc90_eq]at h3;have:=wf_int (h3 (.int .i64 s.V.N.M) (by simp));simpa[Ev.inR,lo,hi,I64]using this
theorem wf_names {v:Env}(h:∀c∈tb.enc 35 v,Wf Tryz.prog tb c):∀e∈v.Names,wfE e:=by
 rw[IzB]at h;have h2:=h (.sl 32 v.Names) (by simp);cases h2 with
 | sl e xs _ hx=>exact hx
end Go.Proofs.YtmkmofdnmllioaaGreatDoor