import Derived.Test.YtdgpkbnnljblmaaGreatDoorX5
import Derived.Test.YtdgpkbnnljblmaaGreatDoorU3
import Derived.Shelf.Strings.BuilderK
/- X6 -/
namespace Go.Proofs.YtdgpkbnnljblmaaGreatDoor
open Go Go.Ev
theorem JzD {v:Int} (h:¬ I64 v):decV v 0=(⟨0,0⟩,8):=by
 unfold decV;rw [show azt v 0=(v,0) from rfl,if_neg h]
theorem valB_vd (l:List UInt8):vd (rd9 l)=valB l 0:=by rw [vd_rd9];simp
theorem HzU:∀ {l:List UInt8},l.all isD=true→valB l 0=0→∀ c∈l,c=48
 | [],_,_,c,hc=>by simp at hc
 | d :: l,h,h0,c,hc=>by
  rw [List.all_cons,Bool.and_eq_true] at h;rw [valB] at h0;have hge:=valB_ge l (0*10+(d.toNat - 48));have hd:d=48:=by
   have:=h.1;unfold isD at this;simp only [Bool.and_eq_true,decide_eq_true_eq] at this;exact UInt8.toNat_inj.1 (show d.toNat=(48:UInt8).toNat by simp;omega)
  rcases List.mem_cons.1 hc with rfl | hc'
  ·exact hd
  ·subst hd;exact HzU h.2 (by simpa using h0) c hc'
theorem numP_is {m:Bool} {D:List Int} {N:Nat} (hD:bzB D) (hl:D.length≤5000) (hv:vd D=N):bzG ⟨m,D⟩=some ⟨m&&!decide (N=0),digs N⟩ ∧
 bzv (⟨m&&!decide (N=0),digs N⟩,0)=some (if (if m then 9223372036854775808 < N else 9223372036854775808≤N) then (⟨0,0⟩,8) else (⟨if m then -(N:Int) else (N:Int),0⟩,0)):=by
 have hln:(digs N).length≤5000:=by rw [← hv,← uzE hD];have:=xz0 D;omega
 refine ⟨by rw [lzY hD (by omega),hv],?_⟩;rw [show (0:Int)=((0:Nat):Int) from rfl,mzD hln (by omega),Fzk];congr 1;cases m with
 | true =>
  by_cases h:9223372036854775808 < N
  ·rw [if_pos (by simpa using h),JzD (by unfold I64;simp only [sw,cond_true];omega)];rfl
  ·rw [if_neg (by simpa using h),qzg (by unfold I64;simp only [sw,cond_true];omega)];rfl
 | false =>
  by_cases h:9223372036854775808≤N
  ·rw [if_pos (by simpa using h),JzD (by unfold I64;simp only [sw,cond_false];omega)];rfl
  ·rw [if_neg (by simpa using h),qzg (by unfold I64;simp only [sw,cond_false];omega)];rfl
theorem MzG {x:List UInt8} (hl:x.length≤4000):mzW x=some (jzm x):=by
 unfold mzW;have b1:kza x=some (cz8 x):=by
  unfold kza cz8;cases x with
  | nil=>simp
  | cons c t =>
   rw [decide_eq_true (by simp),azc,show idx (c :: t) 0=some c from rfl,aza];by_cases h:c=45
   ·subst h;simp
   ·have:¬ ((c.toNat:Int)=45):=fun e=>h (UInt8.toNat_inj.1 (show c.toNat=(45:UInt8).toNat by simp;omega))
    rw [decide_eq_false this];simp [h]
 rw [b1,aza];obtain ⟨g,hg,b2⟩:∃ g:Nat,(x.length=(czl x).length+g∧(∀ j,x[j+g]? = (czl x)[j]?)∧g≤1∧(cz8 x=true→x=45 :: czl x)∧(cz8 x=false→x=czl x))∧kzb (⟨false,[]⟩,0,cz8 x)=some ((g:Int),⟨cz8 x,[]⟩):=by
  unfold kzb cz8 czl;by_cases h:x.head? = some 45
  ·cases x with
   | nil=>simp at h
   | cons c t =>
    simp only [List.head?_cons,Option.some.injEq] at h;subst h;exact ⟨1,⟨by simp,fun j=>by simp,by omega,by simp,by simp⟩,by simp [azp]⟩
  ·exact ⟨0,⟨by rw [if_neg h];rfl,fun j=>by rw [if_neg h];rfl,by omega,by simp [h],by simp [h]⟩,by simp [h]⟩
 obtain ⟨hg1,hg2,hg3,hgm,hgn⟩:=hg;rw [b2,aza];simp only;obtain ⟨y,h1,h2⟩:=scan_is (m:=cz8 x) hg1 hg2 (by omega);rw [h1,aza];unfold jzm;generalize htt:czl x=t at *;generalize hmm:cz8 x=m at *;obtain ⟨k1,k2,k3⟩:=yzd t;unfold iz9 at h2;have hlen:(cutW t).1.length+(cutW t).2.1.length≤4000∧(t.length:Nat)=(cutW t).1.length+(if (cutW t).2.2=true then 1+(cutW t).2.1.length else 0):=by
  have:=congrArg List.length k1;simp only [List.length_append] at this;cases hp:(cutW t).2.2 with
  | true=>rw [hp] at this;simp at this;simp;omega
  | false=>rw [hp] at this;rw [k2 hp];simp at this;simp;omega
 generalize hw:(cutW t).1=w at *;generalize hbb:(cutW t).2.1=b at *;generalize hp:(cutW t).2.2=p at *;by_cases hsc:(w++b).all isD=true∧(p=true→w≠[])
 ·rw [if_pos hsc] at h2;simp only at h2;subst h2;obtain ⟨hall,hpw⟩:=hsc;simp only [osum];have hN:=numP_is (m:=m) (isDig_rd9 hall) (by unfold rd9;simp;omega) (valB_vd (w++b));obtain ⟨hN1,hN2⟩:=hN;have hwx:w≠[]→x[g]? = w.head?:=fun hne=>by
   have:=hg2 0;rw [Nat.zero_add] at this;rw [this,k1];cases w with
   | nil=>exact absurd rfl hne
   | cons c w=>simp
  cases p with
  | true =>
   simp only [if_true] at k1 hlen ⊢;have b4:ezJ ((g:Int),((w.length+g:Nat):Int),IntKind.i64.wrap ((x.length:Int) - (g:Int)),decide ((0:Int)≤((w.length+g:Nat):Int)))=some (w.length:Int):=by
    unfold ezJ;simp only;rw [decide_eq_true (by omega),azc,azp (by omega) (by omega)];congr 1;omega
   have hne:=hpw rfl;have hwl:w.length≠0:=fun h=>hne (List.eq_nil_of_length_eq_zero h)
   rw [b4,aza];have b5:ezK (x,(g:Int),((w.length+g:Nat):Int),(w.length:Int))=some (decide (b=[])||(decide (1 < w.length)&&decide (w.head? = some 48))):=by
    unfold ezK;simp only;rw [decide_eq_false (by omega),azb,azp (by omega) (by omega)];by_cases hb0:b=[]
    ·subst hb0;rw [decide_eq_true (by simp at hlen;omega),azc];simp
    ·have:b.length≠0:=fun h=>hb0 (List.eq_nil_of_length_eq_zero h)
     rw [decide_eq_false (by omega),azb];cases w with
     | nil=>exact absurd rfl hne
     | cons c w' =>
      have hx:=hwx (by simp);simp only [List.head?_cons] at hx ⊢;rw [idxB hx,aza];by_cases h48:c=48
      ·subst h48;rw [decide_eq_true (by rfl),azc];simp [hb0];omega
      ·have:¬ ((c.toNat:Int)=48):=fun e=>h48 (UInt8.toNat_inj.1 (show c.toNat=(48:UInt8).toNat by simp;omega))
       rw [decide_eq_false this,azb];simp [hb0,h48]
   rw [b5,aza];have hx48:decide (x=[45,48])=false:=by
    rw [decide_eq_false];intro e;have hm2:cz8 x=true:=by rw [e];rfl
    rw [hmm] at hm2;have:=hgm hm2;rw [e] at this;simp only [List.cons.injEq,true_and] at this;rw [← this] at k1;have:(46:UInt8)∈[(48:UInt8)]:=by rw [k1];simp
    revert this;decide
   unfold headW;rw [decide_eq_false hne,hall,hx48];simp only [Bool.false_or,Bool.true_and,Bool.or_false,Bool.not_true];by_cases hbad:(decide (b=[])||(decide (1 < w.length)&&decide (w.head? = some 48)))=true
   ·rw [hbad,azc,if_pos rfl]
   ·rw [Bool.not_eq_true] at hbad;rw [hbad,azb,if_neg (by simp),decide_eq_true (by omega),azc,hN1,aza];have hb0:b≠[]:=fun e=>by rw [e] at hbad;simp at hbad
    have hbl:b.length≠0:=fun h=>hb0 (List.eq_nil_of_length_eq_zero h)
    have hpl:IntKind.i64.wrap (IntKind.i64.wrap ((x.length:Int) - ((w.length+g:Nat):Int)) - 1)=(b.length:Int):=by
     rw [azp (n:=(x.length:Int) - ((w.length+g:Nat):Int)) (by omega) (by omega),azp (by omega) (by omega)];omega
    have b6:∀ B,dzr ((b.length:Int),m,B)=some false:=fun B=>by
     unfold dzr;simp only;cases decide ((B.D.length:Int)=0)<;>cases m<;>simp [hbl]<;>omega
    rw [hpl,b6,aza,azb,hN2,aza];unfold nzk;by_cases hbig:(if m=true then 9223372036854775808 < valB (w++b) 0 else 9223372036854775808≤valB (w++b) 0)
    ·rw [if_pos hbig,if_pos hbig];simp
    ·rw [if_neg hbig,if_neg hbig];simp only [decide_true,Bool.not_true,azb];by_cases h9:9 < b.length
     ·rw [decide_eq_true (by omega),azc,if_pos (.inl h9)]
     ·rw [decide_eq_false (by omega),azb,decide_eq_true (by omega),azc,azp (by omega) (by omega)];have hlast:x[x.length - 1]? = b.getLast?:=by
       have e1:x.length - 1=(t.length - 1)+g:=by omega
       have e2:t.length - 1=w.length+(b.length - 1+1):=by omega
       rw [e1,hg2,e2,k1,List.getLast?_eq_getElem?,List.getElem?_append_right (by omega),Nat.add_sub_cancel_left,List.getElem?_cons_succ]
      have hbs:b.getLast? = some (b.getLast hb0):=List.getLast?_eq_some_getLast hb0;rw [hbs] at hlast;rw [show (x.length:Int) - 1=((x.length - 1:Nat):Int) by omega,idxB hlast,aza,hbs];generalize b.getLast hb0=c;by_cases h48:c=48
      ·subst h48;rw [decide_eq_true (by rfl),azc,if_pos (.inr rfl)]
      ·have:¬ ((c.toNat:Int)=48):=fun e=>h48 (UInt8.toNat_inj.1 (show c.toNat=(48:UInt8).toNat by simp;omega))
       have hno:¬ (9 < b.length∨some c=some 48):=by simp [h9,h48]
       rw [decide_eq_false this,azb,if_neg hno]
  | false =>
   simp only [Bool.false_eq_true,if_false,List.append_nil] at k1 hlen ⊢;have hbn:b=[]:=k2 rfl;subst hbn;rw [List.append_nil] at *;have b4:ezJ ((g:Int),-1,IntKind.i64.wrap ((x.length:Int) - (g:Int)),decide ((0:Int)≤-1))=some (w.length:Int):=by
    unfold ezJ;simp only;rw [decide_eq_false (by omega),azb,azp (by omega) (by omega)];congr 1;omega
   rw [b4,aza];have b5:ezK (x,(g:Int),-1,(w.length:Int))=some (decide (w=[])||(decide (1 < w.length)&&decide (w.head? = some 48))):=by
    unfold ezK;simp only;cases w with
    | nil=>simp
    | cons c w' =>
     have hx:=hwx (by simp);simp only [List.length_cons] at hlen;rw [decide_eq_false (by simp;omega),azb,azp (by omega) (by omega),decide_eq_false (by omega),azb];simp only [List.head?_cons] at hx ⊢;rw [idxB hx,aza];by_cases h48:c=48
     ·subst h48;rw [decide_eq_true (by rfl),azc];simp;omega
     ·have:¬ ((c.toNat:Int)=48):=fun e=>h48 (UInt8.toNat_inj.1 (show c.toNat=(48:UInt8).toNat by simp;omega))
      rw [decide_eq_false this,azb];simp [h48]
   rw [b5,aza];unfold headW;rw [hall];simp only [Bool.false_and,Bool.or_false,Bool.not_true];by_cases hbad:(decide (w=[])||(decide (1 < w.length)&&decide (w.head? = some 48)))=true
   ·rw [hbad,azc,if_pos (by simp)]
   ·rw [Bool.not_eq_true] at hbad;rw [hbad,azb,decide_eq_false (by omega),azb,hN1,aza,Bool.false_or];have hne:w≠[]:=fun e=>by rw [e] at hbad;simp at hbad
    have hx48:decide (x=[45,48])=(m&&decide (valB w 0=0)):=by
     cases m with
     | true =>
      have hx:=hgm rfl;rw [Bool.true_and,decide_eq_decide,hx,k1];constructor
      ·intro e;simp only [List.cons.injEq,true_and] at e;rw [e];rfl
      ·intro e;have h8:=HzU hall e;cases w with
       | nil=>exact absurd rfl hne
       | cons c w' =>
        have hc:=h8 c (by simp);subst hc;cases w' with
        | nil=>rfl
        | cons d w''=>simp at hbad
     | false =>
      rw [Bool.false_and,decide_eq_false];intro e;rw [e] at hmm;exact absurd hmm (by decide)
    have b6:dzr (0,m,⟨m&&!decide (valB w 0=0),digs (valB w 0)⟩)=some (m&&decide (valB w 0=0)):=by
     unfold dzr;simp only;have hz:=nzE (n:=valB w 0);by_cases h0:valB w 0=0
     ·rw [decide_eq_true (by omega),azc,decide_eq_true h0];cases m<;>simp
     ·rw [decide_eq_false (by omega),azb,decide_eq_false h0];simp
    rw [b6,aza,hx48];by_cases hz:(m&&decide (valB w 0=0))=true
    ·rw [hz,azc,if_pos rfl]
    ·rw [Bool.not_eq_true] at hz;rw [hz,azb,if_neg (by simp),hN2,aza];unfold nzk;rw [List.append_nil];by_cases hbig:(if m=true then 9223372036854775808 < valB w 0 else 9223372036854775808≤valB w 0)
     ·rw [if_pos hbig,if_pos hbig];simp
     ·rw [if_neg hbig,if_neg hbig];simp
 ·rw [if_neg hsc] at h2;simp only at h2;obtain ⟨B,rfl⟩:=h2;simp only [osum];rw [if_pos];unfold headW;by_cases hall:(w++b).all isD=true
  ·have:¬ (p=true→w≠[]):=fun h=>hsc ⟨hall,h⟩
   have hw0:w=[]:=by
    apply Classical.byContradiction;intro hn;exact this (fun _=>hn)
   rw [decide_eq_true hw0];simp
  ·rw [Bool.not_eq_true] at hall;rw [hall];simp
end Go.Proofs.YtdgpkbnnljblmaaGreatDoor

/- X8 -/
namespace Go.Proofs.YtdgpkbnnljblmaaGreatDoor
open Go Go.Ev Go.Lib
theorem appN {A:Type} {B:Nat} {xs ys:List A} (h:(xs.length+ys.length)*B≤140737488355328):app B xs ys=some (xs++ys):=by
 have:Nat.ble ((xs.length+ys.length)*B) 140737488355328=true:=Nat.ble_eq_true_of_le h;simp [app,this]
theorem szf {n:Nat} (h:n < 9223372036854775808):IntKind.i64.wrap (n:Int)=n:=azp (by omega) (by omega)
theorem rzr {x y:Nat} (hx:x < 9223372036854775808) (hy:y < 9223372036854775808):azn .and .i64 (x:Int) (y:Int)=((x &&& y:Nat):Int):=by
 simp only [azn];rw [BitVec.toNat_and,BitVec.ofInt_natCast,BitVec.ofInt_natCast,BitVec.toNat_ofNat,BitVec.toNat_ofNat];simp only [IntKind.bits];rw [Nat.mod_eq_of_lt (by omega),Nat.mod_eq_of_lt (by omega)];exact szf (Nat.lt_of_le_of_lt Nat.and_le_left hx)
theorem or_nat {x y:Nat} (hx:x < 1073741824) (hy:y < 64):azn .or .i64 ((x*64:Nat):Int) (y:Int)=((x*64+y:Nat):Int):=by
 simp only [azn];rw [BitVec.toNat_or,BitVec.ofInt_natCast,BitVec.ofInt_natCast,BitVec.toNat_ofNat,BitVec.toNat_ofNat];simp only [IntKind.bits];rw [Nat.mod_eq_of_lt (by omega),Nat.mod_eq_of_lt (by omega)];have:=Nat.two_pow_add_eq_or_of_lt (i:=6) (b:=y) (by omega) x;rw [Nat.mul_comm x 64,show (64:Nat)=2 ^ 6 from rfl,← this];exact szf (by omega)
theorem byte_and:∀ b:Fin 256,(b.val &&& 31=b.val % 32)∧(b.val &&& 15=b.val % 16)∧(b.val &&& 7=b.val % 8)∧(b.val &&& 63=b.val % 64)∧((b.val &&& 192=128)↔b.val / 64=2):=by decide +kernel
theorem bAnd {b:Nat} (h:b < 256):azn .and .i64 (b:Int) 31=((b % 32:Nat):Int)∧azn .and .i64 (b:Int) 15=((b % 16:Nat):Int)∧azn .and .i64 (b:Int) 7=((b % 8:Nat):Int) ∧
 azn .and .i64 (b:Int) 63=((b % 64:Nat):Int)∧(azn .and .i64 (b:Int) 192=128↔b / 64=2):=by
 obtain ⟨h1,h2,h3,h4,h5⟩:=byte_and ⟨b,h⟩;simp only at h1 h2 h3 h4 h5;refine ⟨?_,?_,?_,?_,?_⟩
 ·rw [← h1];exact rzr (y:=31) (by omega) (by omega)
 ·rw [← h2];exact rzr (y:=15) (by omega) (by omega)
 ·rw [← h3];exact rzr (y:=7) (by omega) (by omega)
 ·rw [← h4];exact rzr (y:=63) (by omega) (by omega)
 ·have e:azn .and .i64 (b:Int) 192=((b &&& 192:Nat):Int):=rzr (y:=192) (by omega) (by omega);rw [e];constructor
  ·intro h;exact h5.1 (by omega)
  ·intro h;have:=h5.2 h;omega
def more:List UInt8→Nat→Nat→Option Nat
 | _,0,v=>some v
 | [],_+1,_=>none
 | d :: l,n+1,v=>if d.toNat / 64=2 then more l n (v*64+d.toNat % 64) else none
theorem Gzu {x:List UInt8} {i n v:Nat} (hl:x.length≤5000000) (hn:i+n < x.length) (hn3:n≤3) (hv:v < 64):kzF (x,(i:Int),(n:Int),(v:Int),1)=some (match more (x.drop (i+1)) n v with | some w=>.inl (w:Int) | none=>.inr ([],false)):=by
 obtain ⟨y,h1,h2⟩:=czQ (F:=hzO) (fun z=>10 - z.2.2.2.2.toNat) (fun z=>∃ k w:Nat,z=(x,(i:Int),(n:Int),(w:Int),((k+1:Nat):Int))∧k≤n∧w < 64*64 ^ k∧more (x.drop (i+1+k)) (n - k) w=more (x.drop (i+1)) n v)
  (fun y=>y=(match more (x.drop (i+1)) n v with | some w=>.inl (w:Int) | none=>.inr ([],false))) (by
  rintro back z ⟨k,w,rfl,hk,hw,hm⟩ hb;unfold hzO;simp only at hb ⊢;rw [← hm];rcases Nat.lt_or_ge k n with hlt | hge
  ·have hx:i+1+k < x.length:=by omega
   have hdl:=(x[i+1+k]'hx).toNat_lt;obtain ⟨_,_,_,b63,b192⟩:=bAnd hdl;have hw3:w < 64*64 ^ 3:=Nat.lt_of_lt_of_le hw (Nat.mul_le_mul_left _ (Nat.pow_le_pow_right (by omega) (by omega)));rw [decide_eq_true (by omega),azc,azp (by omega) (by omega),show (i:Int)+((k+1:Nat):Int)=((i+1+k:Nat):Int) by omega,idxB (List.getElem?_eq_getElem hx),aza,szf (by omega)];have hd:x.drop (i+1+k)=x[i+1+k]'hx :: x.drop (i+1+k+1):=List.drop_eq_getElem_cons hx;rw [hd,show n - k=(n - (k+1))+1 by omega];generalize x[i+1+k]'hx=d at *;by_cases h2:d.toNat / 64=2
   ·rw [decide_eq_true (b192.2 h2),Bool.not_true,azb,b63,show (w:Int)*64=((w*64:Nat):Int) by omega,szf (by omega),or_nat (by omega) (by omega),azp (by omega) (by omega)];have e:more (d :: x.drop (i+1+k+1)) (n - (k+1)+1) w=more (x.drop (i+1+k+1)) (n - (k+1)) (w*64+d.toNat % 64):=by
     show (if _ then _ else _)=_
     rw [if_pos h2]
    rw [e];rw [hd,show n - k=(n - (k+1))+1 by omega,e] at hm;rw [hm];exact hb _ ⟨k+1,w*64+d.toNat % 64,by simp,by omega,by rw [Nat.pow_succ];omega,by rw [← hm];rfl⟩ (by simp only;omega)
   ·rw [decide_eq_false (fun h=>h2 (b192.1 h)),Bool.not_false,azc];have e:more (d :: x.drop (i+1+k+1)) (n - (k+1)+1) w=none:=by
     show (if _ then _ else _)=_
     rw [if_neg h2]
    rw [e];exact ⟨_,rfl,rfl⟩
  ·have:k=n:=by omega
   subst this;rw [decide_eq_false (by omega),azb,Nat.sub_self];refine ⟨_,rfl,?_⟩;have:∀ l,more l 0 w=some w:=fun l=>by cases l<;>rfl
   rw [this]) (x,(i:Int),(n:Int),(v:Int),1) ⟨0,v,by simp,by omega,by omega,by simp⟩ (by simp only;omega)
 subst h2;exact h1
end Go.Proofs.YtdgpkbnnljblmaaGreatDoor

/- X9 -/
namespace Go.Proofs.YtdgpkbnnljblmaaGreatDoor
open Go Go.Ev Go.Lib
set_option linter.unusedSimpArgs false
theorem more0_is {x:List UInt8} {i v:Nat}:kzF (x,(i:Int),0,(v:Int),1)=some (.inl (v:Int)):=by
 unfold kzF;rw [mzJ,bzS];unfold hzO;simp
theorem more1 {l:List UInt8} (h:0 < l.length) (v:Nat):more l 1 v=if (l.getD 0 0).toNat / 64=2 then some (v*64+(l.getD 0 0).toNat % 64) else none:=by
 cases l with
 | nil=>simp at h
 | cons a l=>cases l<;>rfl
theorem more2 {l:List UInt8} (h:1 < l.length) (v:Nat):more l 2 v=if (l.getD 0 0).toNat / 64=2∧(l.getD 1 0).toNat / 64=2 then some ((v*64+(l.getD 0 0).toNat % 64)*64+(l.getD 1 0).toNat % 64) else none:=by
 cases l with
 | nil=>simp at h
 | cons a l =>
  have:=more1 (l:=l) (by simp at h;omega)
  show (if a.toNat / 64=2 then more l 1 (v*64+a.toNat % 64) else none)=_
  rw [this];simp only [List.getD_cons_zero,List.getD_cons_succ];by_cases h1:a.toNat / 64=2
  ·rw [if_pos h1];simp [h1]
  ·rw [if_neg h1];simp [h1]
theorem more3 {l:List UInt8} (h:2 < l.length) (v:Nat):more l 3 v=if (l.getD 0 0).toNat / 64=2∧(l.getD 1 0).toNat / 64=2∧(l.getD 2 0).toNat / 64=2 then some (((v*64+(l.getD 0 0).toNat % 64)*64+(l.getD 1 0).toNat % 64)*64+(l.getD 2 0).toNat % 64) else none:=by
 cases l with
 | nil=>simp at h
 | cons a l =>
  have:=more2 (l:=l) (by simp at h;omega)
  show (if a.toNat / 64=2 then more l 2 (v*64+a.toNat % 64) else none)=_
  rw [this];simp only [List.getD_cons_zero,List.getD_cons_succ];by_cases h1:a.toNat / 64=2
  ·rw [if_pos h1];simp [h1]
  ·rw [if_neg h1];simp [h1]
def oneR (x:List UInt8) (out:List Int) (i:Nat):(List Int×Int)⊕(List Int×Bool) :=
 if (decodeL (x.drop i)).1=65533∧(decodeL (x.drop i)).2=1 then .inr ([],false) else .inl (out++[((decodeL (x.drop i)).1:Int)],((i+(decodeL (x.drop i)).2:Nat):Int))
theorem tzP {out:List Int} {i n w least:Nat} (ho:out.length≤5000000) (hi:i≤5000000) (hn:n≤3) :
 brn (decide ((w:Int) < (least:Int))) (some (Sum.inr (([]:List Int),false)))
  (brn (decide ((55296:Int)≤(w:Int)))
   (brn (decide ((w:Int) < 57344)) (some (Sum.inr ([],false)))
    (brn (decide ((1114111:Int) < (w:Int))) (some (Sum.inr ([],false)))
     (obnd (app 8 out [(w:Int)]) fun zs=>some (Sum.inl (zs,IntKind.i64.wrap (IntKind.i64.wrap ((i:Int)+(n:Int))+1))))))
   (brn (decide ((1114111:Int) < (w:Int))) (some (Sum.inr ([],false)))
    (obnd (app 8 out [(w:Int)]) fun zs=>some (Sum.inl (zs,IntKind.i64.wrap (IntKind.i64.wrap ((i:Int)+(n:Int))+1)))))) =
  some (if w < least∨(55296≤w∧w < 57344)∨1114111 < w then Sum.inr ([],false) else Sum.inl (out++[(w:Int)],((i+(n+1):Nat):Int))):=by
 rw [appN (by simp only [List.length_singleton];omega),aza,azp (n:=(i:Int)+(n:Int)) (by omega) (by omega),azp (by omega) (by omega),show (i:Int)+(n:Int)+1=((i+(n+1):Nat):Int) by omega];by_cases h1:w < least
 ·rw [decide_eq_true (by omega),azc,if_pos (.inl h1)]
 ·rw [decide_eq_false (by omega),azb];by_cases h2:55296≤w
  ·rw [decide_eq_true (by omega),azc];by_cases h3:w < 57344
   ·rw [decide_eq_true (by omega),azc,if_pos (.inr (.inl ⟨h2,h3⟩))]
   ·rw [decide_eq_false (by omega),azb];by_cases h4:1114111 < w
    ·rw [decide_eq_true (by omega),azc,if_pos (.inr (.inr h4))]
    ·rw [decide_eq_false (by omega),azb,if_neg (by omega)]
  ·rw [decide_eq_false (by omega),azb];by_cases h4:1114111 < w
   ·rw [decide_eq_true (by omega),azc,if_pos (.inr (.inr h4))]
   ·rw [decide_eq_false (by omega),azb,if_neg (by omega)]
theorem b3_is {c:Nat} (h:c < 256):mzZ ((c:Int),0,0)=some (if c < 128 then .inl (0,(c:Int),0) else if 194≤c∧c < 224 then .inl (1,((c % 32:Nat):Int),128) else if 224≤c∧c < 240 then .inl (2,((c % 16:Nat):Int),2048)
 else if 240≤c∧c < 245 then .inl (3,((c % 8:Nat):Int),65536) else .inr ([],false)):=by
 obtain ⟨a1,a2,a3,_,_⟩:=bAnd h;unfold mzZ;simp only [a1,a2,a3];by_cases h1:c < 128
 ·rw [decide_eq_true (by omega),azc,if_pos h1]
 ·rw [decide_eq_false (by omega),azb,if_neg h1];by_cases h2:194≤c
  ·rw [decide_eq_true (by omega),azc];by_cases h3:c < 224
   ·rw [decide_eq_true (by omega),azc,if_pos ⟨h2,h3⟩]
   ·rw [decide_eq_false (by omega),azb,decide_eq_true (by omega),azc,if_neg (by omega)];by_cases h4:c < 240
    ·rw [decide_eq_true (by omega),azc,if_pos (by omega)]
    ·rw [decide_eq_false (by omega),azb,decide_eq_true (by omega),azc,if_neg (by omega)];by_cases h5:c < 245
     ·rw [decide_eq_true (by omega),azc,if_pos (by omega)]
     ·rw [decide_eq_false (by omega),azb,if_neg (by omega)]
  ·rw [decide_eq_false (by omega),azb,decide_eq_false (by omega),azb,decide_eq_false (by omega),azb,if_neg (by omega),if_neg (by omega),if_neg (by omega)]
theorem rune_is {x:List UInt8} {out:List Int} {i:Nat} (hl:x.length≤4000000) (ho:out.length≤5000000) (hi:i < x.length):mzY (x,out,(i:Int))=some (oneR x out i):=by
 unfold mzY oneR;have hd:x.drop i=x[i] :: x.drop (i+1):=List.drop_eq_getElem_cons hi;have hb0:=(x[i]'hi).toNat_lt;have hL:(x.drop i).length=x.length - i:=by simp
 have hL2:(x.drop (i+1)).length=x.length - i - 1:=by simp;omega
 have hD:=decodeL_N (x.drop i);rw [hL,hd] at hD;simp only [List.getD_cons_zero,List.getD_cons_succ] at hD;rw [← hd] at hD;simp only;rw [idxB (List.getElem?_eq_getElem hi),aza,szf (by omega),b3_is hb0,aza,azp (n:=(x.length:Int) - (i:Int)) (by omega) (by omega),hD];have k0:=((x.drop (i+1)).getD 0 0).toNat_lt;have k1:=((x.drop (i+1)).getD 1 0).toNat_lt;have k2:=((x.drop (i+1)).getD 2 0).toNat_lt;generalize hc:(x[i]'hi).toNat=c at *;have m1:=fun h v=>more1 (l:=x.drop (i+1)) h v
 have m2:=fun h v=>more2 (l:=x.drop (i+1)) h v
 have m3:=fun h v=>more3 (l:=x.drop (i+1)) h v
 have r1:=fun v h h2=>Gzu (x:=x) (i:=i) (n:=1) (v:=v) (by omega) h (by omega) h2
 have r2:=fun v h h2=>Gzu (x:=x) (i:=i) (n:=2) (v:=v) (by omega) h (by omega) h2
 have r3:=fun v h h2=>Gzu (x:=x) (i:=i) (n:=3) (v:=v) (by omega) h (by omega) h2
 generalize ((x.drop (i+1)).getD 0 0).toNat=b1 at *;generalize ((x.drop (i+1)).getD 1 0).toNat=b2 at *;generalize ((x.drop (i+1)).getD 2 0).toNat=b3 at *;by_cases h1:c < 128
 ·rw [if_pos h1];simp only [osum];have ck:=tzP (out:=out) (i:=i) (n:=0) (w:=c) (least:=0) ho (by omega) (by omega);rw [decide_eq_false (by omega),azb,more0_is,aza];simp only [osum];have z0:((0:Nat):Int)=0:=rfl;rw [z0] at ck;rw [ck,decodeN_ascii _ _ _ _ _ h1,if_neg (by omega),if_neg (by simp;omega)]
 ·rw [if_neg h1];by_cases h2:194≤c∧c < 224
  ·rw [if_pos h2];simp only [osum];by_cases hlen:x.length - i≤1
   ·rw [decide_eq_true (by omega),azc];have:decodeN (x.length - i) c b1 b2 b3=(65533,1):=by
     unfold decodeN;rw [if_neg h1,if_neg (by omega),if_neg (by omega),if_neg (by omega)]
    rw [this,if_pos ⟨rfl,rfl⟩]
   ·have r:=r1 (c % 32) (by omega) (by omega);rw [m1 (by omega)] at r;have ck:=tzP (out:=out) (i:=i) (n:=1) (w:=c % 32*64+b1 % 64) (least:=128) ho (by omega) (by omega);have z1:((1:Nat):Int)=1:=rfl;have z2:((128:Nat):Int)=128:=rfl;rw [z1] at r ck;rw [z2] at ck;rw [decide_eq_false (by omega),azb,r,aza];by_cases hb:b1 / 64=2
    ·rw [if_pos hb];simp only [osum];rw [ck];have:decodeN (x.length - i) c b1 b2 b3=(c % 32*64+b1 % 64,2):=by
      unfold decodeN;rw [if_neg h1,if_pos (by omega),if_pos (by omega)]
     rw [this,if_neg (by omega),if_neg (by simp)]
    ·rw [if_neg hb];simp only [osum];have:decodeN (x.length - i) c b1 b2 b3=(65533,1):=by
      unfold decodeN;rw [if_neg h1,if_neg (by omega),if_neg (by omega),if_neg (by omega)]
     rw [this,if_pos ⟨rfl,rfl⟩]
  ·rw [if_neg h2];by_cases h3:224≤c∧c < 240
   ·rw [if_pos h3];simp only [osum];by_cases hlen:x.length - i≤2
    ·rw [decide_eq_true (by omega),azc];have:decodeN (x.length - i) c b1 b2 b3=(65533,1):=by
      unfold decodeN;rw [if_neg h1,if_neg (by omega),if_neg (by omega),if_neg (by omega)]
     rw [this,if_pos ⟨rfl,rfl⟩]
    ·have r:=r2 (c % 16) (by omega) (by omega);rw [m2 (by omega)] at r;have ck:=tzP (out:=out) (i:=i) (n:=2) (w:=(c % 16*64+b1 % 64)*64+b2 % 64) (least:=2048) ho (by omega) (by omega);have z1:((2:Nat):Int)=2:=rfl;have z2:((2048:Nat):Int)=2048:=rfl;rw [z1] at r ck;rw [z2] at ck;rw [decide_eq_false (by omega),azb,r,aza];by_cases hb:b1 / 64=2∧b2 / 64=2
     ·rw [if_pos hb];simp only [osum];rw [ck];have e:(c % 16*64+b1 % 64)*64+b2 % 64=c % 16*4096+b1 % 64*64+b2 % 64:=by omega
      rw [e];by_cases hv:c % 16*4096+b1 % 64*64+b2 % 64≥2048∧(c % 16*4096+b1 % 64*64+b2 % 64 < 55296∨(57344≤c % 16*4096+b1 % 64*64+b2 % 64∧c % 16*4096+b1 % 64*64+b2 % 64≤1114111))
      ·have:decodeN (x.length - i) c b1 b2 b3=(c % 16*4096+b1 % 64*64+b2 % 64,3):=by
        unfold decodeN;rw [if_neg h1,if_neg (by omega),if_pos (by omega),if_pos hv]
       rw [this,if_neg (by omega),if_neg (by simp)]
      ·have:decodeN (x.length - i) c b1 b2 b3=(65533,1):=by
        unfold decodeN;rw [if_neg h1,if_neg (by omega),if_pos (by omega),if_neg hv]
       rw [this,if_pos (by omega),if_pos ⟨rfl,rfl⟩]
     ·rw [if_neg hb];simp only [osum];have:decodeN (x.length - i) c b1 b2 b3=(65533,1):=by
       unfold decodeN;rw [if_neg h1,if_neg (by omega),if_neg (by omega),if_neg (by omega)]
      rw [this,if_pos ⟨rfl,rfl⟩]
   ·rw [if_neg h3];by_cases h4:240≤c∧c < 245
    ·rw [if_pos h4];simp only [osum];by_cases hlen:x.length - i≤3
     ·rw [decide_eq_true (by omega),azc];have:decodeN (x.length - i) c b1 b2 b3=(65533,1):=by
       unfold decodeN;rw [if_neg h1,if_neg (by omega),if_neg (by omega),if_neg (by omega)]
      rw [this,if_pos ⟨rfl,rfl⟩]
     ·have r:=r3 (c % 8) (by omega) (by omega);rw [m3 (by omega)] at r;have ck:=tzP (out:=out) (i:=i) (n:=3) (w:=((c % 8*64+b1 % 64)*64+b2 % 64)*64+b3 % 64) (least:=65536) ho (by omega) (by omega);have z1:((3:Nat):Int)=3:=rfl;have z2:((65536:Nat):Int)=65536:=rfl;rw [z1] at r ck;rw [z2] at ck;rw [decide_eq_false (by omega),azb,r,aza];by_cases hb:b1 / 64=2∧b2 / 64=2∧b3 / 64=2
      ·rw [if_pos hb];simp only [osum];rw [ck];have e:((c % 8*64+b1 % 64)*64+b2 % 64)*64+b3 % 64=c % 8*262144+b1 % 64*4096+b2 % 64*64+b3 % 64:=by omega
       rw [e];by_cases hv:c % 8*262144+b1 % 64*4096+b2 % 64*64+b3 % 64≥65536∧(c % 8*262144+b1 % 64*4096+b2 % 64*64+b3 % 64 < 55296∨(57344≤c % 8*262144+b1 % 64*4096+b2 % 64*64+b3 % 64∧c % 8*262144+b1 % 64*4096+b2 % 64*64+b3 % 64≤1114111))
       ·have:decodeN (x.length - i) c b1 b2 b3=(c % 8*262144+b1 % 64*4096+b2 % 64*64+b3 % 64,4):=by
         unfold decodeN;rw [if_neg h1,if_neg (by omega),if_neg (by omega),if_pos (by omega),if_pos hv]
        rw [this,if_neg (by omega),if_neg (by simp)]
       ·have:decodeN (x.length - i) c b1 b2 b3=(65533,1):=by
         unfold decodeN;rw [if_neg h1,if_neg (by omega),if_neg (by omega),if_pos (by omega),if_neg hv]
        rw [this,if_pos (by omega),if_pos ⟨rfl,rfl⟩]
      ·rw [if_neg hb];simp only [osum];have:decodeN (x.length - i) c b1 b2 b3=(65533,1):=by
        unfold decodeN;rw [if_neg h1,if_neg (by omega),if_neg (by omega),if_neg (by omega)]
       rw [this,if_pos ⟨rfl,rfl⟩]
    ·rw [if_neg h4];simp only [osum];have:decodeN (x.length - i) c b1 b2 b3=(65533,1):=by
      unfold decodeN;rw [if_neg h1];split
      ·rw [if_neg (by omega)]
      ·rw [if_neg (by omega)];split
       ·rw [if_neg (by omega)]
       ·rfl
     rw [this,if_pos ⟨rfl,rfl⟩]
theorem Azl {x:List UInt8} (hl:x.length≤4000000):jzS x=some (if validD x=true then (rs x,true) else ([],false)):=by
 obtain ⟨y,h1,h2⟩:=czQ (F:=kzE) (fun z=>x.length - z.2.2.toNat) (fun z=>∃ (i:Nat) (out:List Int),z=(x,out,(i:Int))∧i≤x.length∧out.length≤i∧validD (x.drop i)=validD x∧out++rs (x.drop i)=rs x)
  (fun y=>osum y (fun y=>some (y,true)) (fun y=>some y)=some (if validD x=true then (rs x,true) else ([],false))) (by
  rintro back z ⟨i,out,rfl,hi,ho,hv,hr⟩ hb;unfold kzE;simp only at hb ⊢;rcases Nat.lt_or_ge i x.length with hlt | hge
  ·have hne:x.drop i≠[]:=fun e=>by have:=congrArg List.length e;simp at this;omega
   have hw:=decodeL_width (x.drop i);have hle:=decodeL_le (x.drop i) hne;rw [List.length_drop] at hle;rw [decide_eq_true (by omega),azc,rune_is (by omega) (by omega) hlt,aza];unfold oneR;rw [validD_step _ hne] at hv;by_cases hbad:(decodeL (x.drop i)).1=65533∧(decodeL (x.drop i)).2=1
   ·rw [if_pos hbad] at hv ⊢;rw [← hv];exact ⟨_,rfl,rfl⟩
   ·rw [if_neg hbad] at hv ⊢;simp only [osum];rw [List.drop_drop] at hv;refine hb _ ⟨i+(decodeL (x.drop i)).2,_,rfl,by omega,by simp;omega,hv,?_⟩ (by simp only;omega);rw [mz3 hne,List.drop_drop] at hr;rw [← hr,List.append_assoc];rfl
  ·rw [decide_eq_false (by omega),azb];refine ⟨_,rfl,?_⟩;rw [List.drop_eq_nil_of_le hge] at hv hr;rw [← hv,← hr];simp [osum,validD_nil,Ez9]) (x,[],0) ⟨0,[],rfl,by omega,by simp,by simp,by simp⟩ (by simp only;omega)
 unfold jzS;have h3:pzD (x,[],0)=some y:=h1;rw [h3,aza];exact h2
end Go.Proofs.YtdgpkbnnljblmaaGreatDoor

/- XA -/
namespace Go.Proofs.YtdgpkbnnljblmaaGreatDoor
open Go Go.Ev Go.Lib
def ulen:List Int→Nat
 | []=>0
 | r :: l=>(if r < 65536 then 1 else 2)+ulen l
theorem ulen_le:∀ l:List Int,ulen l≤2*l.length
 | []=>by simp [ulen]
 | r :: l=>by
  have:=ulen_le l;simp only [ulen,List.length_cons];split<;>omega
theorem MzV {x:List UInt8} (hl:x.length≤100000000):∃ us,rzo x=some us∧us.length=ulen (rs x):=by
 have key:∃ y,qzM ([],x,0)=some y∧(y.1.length=ulen (rs x)):=by
  refine czQ (F:=lzN) (fun z=>x.length - z.2.2) (fun z=>∃ (out:List Int) (p:Nat),z=(out,x,p)∧out.length≤2*p∧(p < x.length∨rs (x.drop p)=[])∧out.length+ulen (rs (x.drop p))=ulen (rs x)) _ ?_ _ ⟨[],0,rfl,by simp,by
   by_cases h:x=[]
   ·subst h;exact .inr rfl
   ·exact .inl (List.length_pos_iff.2 h),by simp⟩ (by simp only;omega)
  rintro back z ⟨out,p,rfl,ho,hp,hv⟩ hb;unfold lzN;simp only at hb ⊢;by_cases hlt:p < x.length
  ·have hne:x.drop p≠[]:=fun e=>by have:=congrArg List.length e;simp at this;omega
   have hr:=qzl x p;have hw:=decodeL_width (x.drop p);have hle:=decodeL_le (x.drop p) hne;rw [List.length_drop] at hle;rw [mz3 hne,List.drop_drop] at hv;simp only [ulen] at hv;rw [decide_eq_true hlt,azc,hr];have step:∀ us:List Int,us.length=(if ((decodeL (x.drop p)).1:Int) < 65536 then 1 else 2)→∃ y,back (out++us,x,p+(decodeL (x.drop p)).2)=some y∧y.1.length=ulen (rs x):=fun us hus=>by
    refine hb _ ⟨_,_,rfl,?_,?_,?_⟩ (by simp only;omega)
    ·simp only [List.length_append,hus];split<;>omega
    ·rcases Nat.lt_or_ge (p+(decodeL (x.drop p)).2) x.length with h | h
     ·exact .inl h
     ·right;rw [List.drop_eq_nil_of_le h];rfl
    ·simp only [List.length_append,hus];omega
   have hs:(if ((decodeL (x.drop p)).1:Int) < 65536 then 1 else 2)≤2:=by split<;>omega
   by_cases h6:((decodeL (x.drop p)).1:Int) < 65536
   ·rw [decide_eq_true h6,azc,appN (by simp;omega),aza];exact step _ (by rw [if_pos h6];rfl)
   ·rw [decide_eq_false h6,azb,appN (by simp;omega),aza];exact step _ (by rw [if_neg h6];rfl)
  ·rw [decide_eq_false hlt,azb];rcases hp with h | h
   ·exact absurd h hlt
   ·rw [h] at hv;exact ⟨_,rfl,by simpa [ulen] using hv⟩
 obtain ⟨y,h1,h2⟩:=key;refine ⟨y.1,?_,h2⟩;unfold rzo;rw [h1];rfl
theorem Hza {l:List Int} (hl:l.length≤4000000):∃ us,pz9 l=some us∧us.length=ulen l:=by
 have key:∃ y,pzH (l,[],0)=some y∧(y.length=ulen l):=by
  refine czQ (F:=kzL) (fun z=>l.length - z.2.2.toNat) (fun z=>∃ (out:List Int) (i:Nat),z=(l,out,(i:Int))∧i≤l.length∧out.length≤2*i∧out.length+ulen (l.drop i)=ulen l) _ ?_ _ ⟨[],0,rfl,by omega,by simp,by simp⟩ (by simp only;omega);rintro back z ⟨out,i,rfl,hi,ho,hv⟩ hb;unfold kzL;simp only at hb ⊢;rcases Nat.lt_or_ge i l.length with hlt | hge
  ·have hd:l.drop i=l[i] :: l.drop (i+1):=List.drop_eq_getElem_cons hlt;rw [hd] at hv;simp only [ulen] at hv;rw [decide_eq_true (by omega),azc,idxI (List.getElem?_eq_getElem hlt)];simp only [aza];generalize l[i]=r at *;rw [azp (n:=(i:Int)+1) (by omega) (by omega)];have step:∀ us:List Int,us.length=(if r < 65536 then 1 else 2)→∃ y,back (l,out++us,(i:Int)+1)=some y∧y.length=ulen l:=fun us hus=>by
    refine hb _ ⟨_,i+1,by simp;rfl,by omega,?_,?_⟩ (by simp only;omega)
    ·simp only [List.length_append,hus];split<;>omega
    ·simp only [List.length_append,hus];omega
   by_cases h6:r < 65536
   ·rw [decide_eq_true h6,azc,appN (by simp;omega),aza];exact step _ (by rw [if_pos h6];rfl)
   ·rw [decide_eq_false h6,azb,appN (by simp;omega),aza];exact step _ (by rw [if_neg h6];rfl)
  ·rw [decide_eq_false (by omega),azb];rw [List.drop_eq_nil_of_le hge] at hv;exact ⟨_,rfl,by simpa [ulen] using hv⟩
 obtain ⟨y,h1,h2⟩:=key;refine ⟨y,?_,h2⟩;unfold pz9;rw [h1];rfl
def bzu (x:List UInt8):Int×Int:=if validD x=true then (if 1000 < ulen (rs x) then (0,4) else ((ulen (rs x):Int),0)) else (0,2)
theorem rzy {x:List UInt8} (hl:x.length≤100000000):lzs x=some (bzu x):=by
 unfold lzs nze bzu;rw [aza];cases hv:validD x with
 | false=>simp
 | true =>
  obtain ⟨us,h1,h2⟩:=MzV hl;rw [Bool.not_true,azb,h1,aza,h2];by_cases h:1000 < ulen (rs x)
  ·rw [decide_eq_true (by omega),azc];simp [h]
  ·rw [decide_eq_false (by omega),azb];simp [h]
theorem nzo {x:List UInt8} (hl:x.length≤4000000):hzg x=some (bzu x):=by
 unfold hzg bzu;rw [Azl (by omega),aza];cases hv:validD x with
 | false=>simp
 | true =>
  obtain ⟨us,h1,h2⟩:=Hza (l:=rs x) (by have:=szE x;omega);simp only [if_true,Bool.not_true,azb];rw [h1,aza,h2];by_cases h:1000 < ulen (rs x)
  ·rw [decide_eq_true (by omega),azc,if_pos h]
  ·rw [decide_eq_false (by omega),azb,if_neg h]
end Go.Proofs.YtdgpkbnnljblmaaGreatDoor

/- X7 -/
namespace Go.Proofs.YtdgpkbnnljblmaaGreatDoor
open Go Go.Ev Go.Lib
theorem rs_at {s:List UInt8} {p:Nat} (h:p < s.length):rs (s.drop p)=((rune s p).1:Int) :: rs (s.drop (p+(rune s p).2))∧1≤(rune s p).2:=by
 have hne:s.drop p≠[]:=fun h0=>by have:=congrArg List.length h0;simp at this;omega
 rw [mz3 hne,qzl,List.drop_drop];exact ⟨rfl,Lib.decodeL_width _⟩
def vB:Val:=⟨0,⟨0,0⟩,[],false,0⟩
def vN (d:Dec):Val:=⟨1,d,[],false,0⟩
def vS (s:List UInt8):Val:=⟨2,⟨0,0⟩,s,false,0⟩
def vT (b:Bool):Val:=⟨3,⟨0,0⟩,[],b,0⟩
def vE (e:Int):Val:=⟨4,⟨0,0⟩,[],false,e⟩
def okV (v:Val):Prop:=v=vB∨(∃ d,v=vN d∧okD d)∨(∃ s,v=vS s∧Lib.validD s=true)∨(∃ b,v=vT b)∨∃ e,v=vE e
theorem lz5 {α:Type} {b:Bool} {x y:Option α} (hx:∃ n,x=some n) (hy:∃ n,y=some n):∃ n,brn b x y=some n:=by cases b<;>assumption
theorem name_is (e:Int):∃ n,szN e=some n :=
 lz5 ⟨_,rfl⟩ (lz5 ⟨_,rfl⟩ (lz5 ⟨_,rfl⟩ (lz5 ⟨_,rfl⟩ (lz5 ⟨_,rfl⟩ (lz5 ⟨_,rfl⟩ (lz5 ⟨_,rfl⟩ ⟨_,rfl⟩))))))
def key (v:Val):List Int:=v.Kind :: (if v.Kind=1 then [V v.N] else if v.Kind=2 then rs v.S else if v.Kind=3 then [if v.B then 1 else 0] else [v.E])
def okW (v:Val):Prop:=okV v∧v.S.length≤3000∧I64 v.N.M
end Go.Proofs.YtdgpkbnnljblmaaGreatDoor

/- XB -/
namespace Go.Proofs.YtdgpkbnnljblmaaGreatDoor
open Go Go.Ev Go.Lib
def good (l:List UInt8):Prop:=¬ ((decodeL l).1=65533∧(decodeL l).2=1)
end Go.Proofs.YtdgpkbnnljblmaaGreatDoor

/- XC -/
namespace Go.Proofs.YtdgpkbnnljblmaaGreatDoor
open Go Go.Ev Go.Lib
set_option linter.unusedSimpArgs false
theorem tzO {x:Val} (hl:x.S.length≤3000):∃ e,ozU x=some e∧gzm x=some e∧(e=0→okV x):=by
 obtain ⟨K,⟨M,S⟩,s,B,E⟩:=x;simp only at hl;unfold ozU gzm;simp only;by_cases k0:K < 0
 ·exact ⟨1,by simp [k0],by simp [k0],by omega⟩
 by_cases k4:4 < K
 ·exact ⟨1,by simp [k0,k4],by simp [k0,k4],by omega⟩
 rw [decide_eq_false k0,decide_eq_false k4];simp only [azb];have hK:K=0∨K=1∨K=2∨K=3∨K=4:=by omega
 have hun:=rzy (x:=s) (by omega);have hru:=nzo (x:=s) (by omega);obtain ⟨n,hn⟩:=name_is E;have hn':kzz E=some n:=hn;rcases hK with rfl | rfl | rfl | rfl | rfl
 ·unfold nz0 czW;by_cases hM:M=0<;>by_cases hS:S=0<;>by_cases hs:s=[]<;>cases B<;>by_cases hE:E=0<;>simp [hM,hS,hs,hE,okV,vB]
 ·unfold nz0 czW;have hc:CzS ⟨M,S⟩=hzK ⟨M,S⟩:=rfl;rcases LzD ⟨M,S⟩ with ⟨h1,h2⟩ | ⟨e,h1,h2⟩
  ·by_cases hs:s=[]<;>cases B<;>by_cases hE:E=0<;>simp [hs,hE,hc,h1,okV,vB,vN,vS,vT,vE,h2]
  ·by_cases hs:s=[]<;>cases B<;>by_cases hE:E=0<;>simp [hs,hE,hc,h1,h2]
 ·unfold nz0 czW;by_cases hM:M=0<;>by_cases hS:S=0<;>cases B<;>by_cases hE:E=0<;>simp [hM,hS,hE,hun,hru,okV,vB,vN,vS,vT,vE];unfold bzu;cases hv:validD s with
  | true=>simp
  | false=>simp
 ·unfold nz0 czW;by_cases hM:M=0<;>by_cases hS:S=0<;>by_cases hs:s=[]<;>cases B<;>by_cases hE:E=0<;>simp [hM,hS,hs,hE,okV,vB,vN,vS,vT,vE]
 ·unfold nz0 czW azq;by_cases hn0:n=[]<;>by_cases hM:M=0<;>by_cases hS:S=0<;>by_cases hs:s=[]<;>cases B<;>simp [hM,hS,hs,hn,hn',hn0,okV,vB,vN,vS,vT,vE]
theorem number_eq {a:Val} (h:okV a) (hl:a.S.length≤3000):∃ r,bzo a=some r∧bzm a=some r:=by
 rcases h with rfl | ⟨d,rfl,hd⟩ | ⟨s,rfl,hs⟩ | ⟨t,rfl⟩ | ⟨e,rfl⟩
 ·exact ⟨_,rfl,rfl⟩
 ·exact ⟨_,rfl,rfl⟩
 ·have hl:s.length≤3000:=hl;unfold bzo bzm vS azq azo;simp [KzA (x:=s) (by omega),MzG (x:=s) (by omega)];by_cases h:(jzm s).2=0<;>simp [h]
 ·cases t<;>exact ⟨_,rfl,rfl⟩
 ·exact ⟨_,rfl,rfl⟩
theorem text_eq {a:Val} (h:okV a) (hm:I64 a.N.M):∃ r,fz8 a=some r∧hzH a=some r:=by
 rcases h with rfl | ⟨d,rfl,hd⟩ | ⟨s,rfl,hs⟩ | ⟨t,rfl⟩ | ⟨e,rfl⟩
 ·exact ⟨_,rfl,rfl⟩
 ·obtain ⟨M,S⟩:=d;have hm':I64 M:=hm;obtain ⟨s,rfl⟩:=Int.eq_ofNat_of_zero_le hd.1;have hs:s≤9:=by have:=hd.2.1;simp only at this;omega
  have e1:=tzU hm' hs;have e2:=Ozd hm' hs;unfold fz8 hzH vN;exact ⟨jzD M s,by simp [e1],by simp [e2]⟩
 ·exact ⟨_,rfl,rfl⟩
 ·cases t<;>exact ⟨_,rfl,rfl⟩
 ·obtain ⟨n,hn⟩:=name_is e;have hn':kzz e=some n:=hn;unfold fz8 hzH vE;exact ⟨n,by simp [hn],by simp [hn']⟩
theorem words_eq {a:Val} (h:okV a) (hm:I64 a.N.M):∃ r,ezB a=some r∧czC a=some r:=by
 obtain ⟨r,h1,h2⟩:=text_eq h hm;unfold ezB czC;rw [h1,h2];by_cases h4:a.Kind=4
 ·exact ⟨([],a,false),by simp [h4],by simp [h4]⟩
 ·exact ⟨(r,⟨0,⟨0,0⟩,[],false,0⟩,true),by simp [h4],by simp [h4]⟩
theorem truth_eq {a:Val} (h:okV a):∃ r,czO a=some r∧czX a=some r:=by
 rcases h with rfl | ⟨d,rfl,hd⟩ | ⟨s,rfl,hs⟩ | ⟨t,rfl⟩ | ⟨e,rfl⟩
 ·exact ⟨_,rfl,rfl⟩
 ·exact ⟨_,rfl,rfl⟩
 ·unfold czO czX vS azq azo;by_cases h1:s=[84,82,85,69]
  ·simp [h1]
  ·by_cases h2:s=U8s [70,65,76,83,69]<;>simp [h1,h2]
 ·exact ⟨_,rfl,rfl⟩
 ·exact ⟨_,rfl,rfl⟩
theorem cmp_num {d d':Dec} (h:okD d) (h':okD d') (m:I64 d.M) (m':I64 d'.M):ezd (d,d')=some (cmpV (V d) (V d'))∧dzU (d,d')=some (cmpV (V d) (V d')):=by
 refine ⟨Mz3 m m' h.1 h.2.1 h'.1 h'.2.1,?_⟩;obtain ⟨M,S⟩:=d;obtain ⟨N,T⟩:=d';obtain ⟨s,rfl⟩:=Int.eq_ofNat_of_zero_le h.1;obtain ⟨t,rfl⟩:=Int.eq_ofNat_of_zero_le h'.1;have hs:=h.2.1;have ht:=h'.2.1;simp only at hs ht m m';exact Jzf m m' (by omega) (by omega)
theorem ok0:okD ⟨0,0⟩:=⟨by simp,by simp,fun h=>by simp at h⟩
theorem I0:I64 0:=by unfold I64;omega
end Go.Proofs.YtdgpkbnnljblmaaGreatDoor

/- Y0 -/
namespace Go.Proofs.YtdgpkbnnljblmaaGreatDoor
open Go Go.Ev Go.Lib
def azL {A S Y:Type} (step:S→A→S⊕Y) (fin:S→Y):S→List A→Y
 | s,[]=>fin s
 | s,a :: l=>match step s a with
  | .inl s'=>azL step fin s' l
  | .inr y=>y
def ozg {S Y Z:Type} (b:S→Option Z) (g:Y→Z):S⊕Y→Option Z
 | .inl s=>b s
 | .inr y=>some (g y)
theorem bzb {A S X Y Z:Type} {F:(X→Option Z)→X→Option Z} (mk:S→Nat→X) (g:Y→Z) (l:List A) (step:S→A→S⊕Y) (fin:S→Y) (Pre:S→Nat→Prop)
 (hl:l.length≤1000000000)
 (h:∀ back s i (hi:i < l.length),Pre s i→F back (mk s i)=ozg (fun s'=>back (mk s' (i+1))) g (step s l[i]))
 (hp:∀ s i (hi:i < l.length) s',Pre s i→step s l[i] = .inl s'→Pre s' (i+1))
 (hend:∀ back s,Pre s l.length→F back (mk s l.length)=some (g (fin s))) (s:S) (h0:Pre s 0):iter F big (mk s 0)=some (g (azL step fin s l)):=by
 have key:∀ k n i s,i+k=l.length→k < n→Pre s i→iter F n (mk s i)=some (g (azL step fin s (l.drop i))):=by
  intro k;induction k with
  | zero =>
   intro n i s hi hn hs;obtain ⟨m,rfl⟩:∃ m,n=m+1:=⟨n - 1,by omega⟩;have:i=l.length:=by omega
   subst this;rw [bzS,hend _ _ hs,List.drop_length];rfl
  | succ k ih =>
   intro n i s hi hn hs;obtain ⟨m,rfl⟩:∃ m,n=m+1:=⟨n - 1,by omega⟩;have hlt:i < l.length:=by omega
   rw [bzS,h _ _ _ hlt hs,List.drop_eq_getElem_cons hlt];simp only [azL];cases hst:step s l[i] with
   | inl s'=>exact ih m (i+1) s' (by omega) (by omega) (hp _ _ hlt _ hs hst)
   | inr y=>rfl
 have:=key l.length big 0 s (by omega) (by rw [mzJ];omega) h0;simpa using this
theorem mzg {A X Z:Type} {F:(X→Option Z)→X→Option Z} (mk:Nat→X) (g:Option Nat→Z) (l:List A) (p:A→Bool) (hl:l.length≤1000000000)
 (h:∀ back i (hi:i < l.length),F back (mk i)=bif p l[i] then some (g (some i)) else back (mk (i+1)))
 (hend:∀ back,F back (mk l.length)=some (g none)):iter F big (mk 0)=some (g (l.findIdx? p)):=by
 have key:∀ k n i,i+k=l.length→k < n→iter F n (mk i)=some (g (((l.drop i).findIdx? p).map (·+i))):=by
  intro k;induction k with
  | zero =>
   intro n i hi hn;obtain ⟨m,rfl⟩:∃ m,n=m+1:=⟨n - 1,by omega⟩;have:i=l.length:=by omega
   subst this;rw [bzS,hend,List.drop_length];rfl
  | succ k ih =>
   intro n i hi hn;obtain ⟨m,rfl⟩:∃ m,n=m+1:=⟨n - 1,by omega⟩;have hlt:i < l.length:=by omega
   rw [bzS,h _ _ hlt,List.drop_eq_getElem_cons hlt,List.findIdx?_cons];cases hpl:p l[i] with
   | true=>simp
   | false =>
    simp only [cond_false];rw [ih m (i+1) (by omega) (by omega)];simp only [Bool.false_eq_true,if_false,Option.map_map];congr 3;funext j;simp only [Function.comp];omega
 have:=key l.length big 0 (by omega) (by rw [mzJ];omega);simpa using this
theorem idxG {A:Type} {l:List A} {i:Nat} (hi:i < l.length):idx l (i:Int)=some l[i]:=by simp [idx,hi]
theorem idxZ {A:Type} {a:A} {l:List A}:idx (a :: l) 0=some a:=rfl
theorem wr1 {i:Nat} (h:i < 1000000000):IntKind.i64.wrap ((i:Int)+1)=((i+1:Nat):Int):=by
 simp [IntKind.wrap,IntKind.bits,IntKind.signed];omega
theorem ltT {i n:Nat} (h:i < n):decide ((i:Int) < (n:Int))=true:=decide_eq_true (by omega)
theorem ltF {n:Nat}:decide ((n:Int) < (n:Int))=false:=decide_eq_false (by omega)
theorem lzO {A:Type} (p:A→Bool) (l:List A):(l.findIdx? p).isSome=l.any p:=by
 simp [List.findIdx?_isSome]
end Go.Proofs.YtdgpkbnnljblmaaGreatDoor

/- W1 -/
namespace Go.Ev
open Go Go.Proofs Go.Shelf Go.RowKit
variable {P:Program} {ρ:Ren} {tb:Tab}
abbrev bldPat (T:Nat):Pat:=.box (1048576*(T+1)+2)
theorem bldPat_n (T:Nat):bldB (1048576*(T+1)+2)=true∧boxN (1048576*(T+1)+2)=2∧boxT (1048576*(T+1)+2)=T:=by
 refine ⟨?_,?_,?_⟩
 ·unfold bldB;exact Nat.ble_eq_true_of_le (by omega)
 ·unfold boxN;omega
 ·unfold boxT;omega
def ezc (tb:Tab) (T tu:Nat):FSpec tb:=⟨[(8589934592,.own tu),(0,bldPat T)],[(8589967360,.own tu)],fun x=>some (x.1,())⟩
theorem CzO {tu:Nat} (L:Lays.n240 P ρ) (X:Builder.X72 P ρ):bz4 P tb (ρ.f 240) (ezc tb (ρ.t 72) tu):=by
 intro g w x vs bs y hy _ hat hh hnd;obtain ⟨xs,x2⟩:=x;have hy:some ((xs,()):List (tb.T tu)×Unit)=some y:=hy;injection hy with hy;subst hy;cases vs with
 | nil=>exact hh.elim
 | cons vb vs =>
 cases bs with
 | nil=>exact hh.elim
 | cons b0 bs =>
 obtain ⟨⟨hrb,hown⟩,hh⟩:=hh;cases vs with
 | nil=>exact hh.elim
 | cons v vs =>
 cases vs with
 | cons _ _=>cases bs<;>exact hh.elim
 | nil =>
 cases bs with
 | nil=>exact hh.elim
 | cons b bs =>
 cases bs with
 | cons _ _=>exact hh.elim
 | nil =>
 obtain ⟨k,rfl,rfl,hk,hg,us,el,fz,h1,h2,h3,h4,h5⟩:=hh;obtain ⟨n1,n2,n3⟩:=bldPat_n (ρ.t 72);obtain ⟨h6,u,h7,h8⟩:=h5 n1;rw [n3] at h6;rw [n2] at h3;obtain ⟨hat1,_,_⟩:=hat
 have hr:azD (ezc tb (ρ.t 72) tu).ins [vb,Value.pointer (some ⟨k,0,none⟩)]=[.pointer (some ⟨k,0,none⟩)]:=rfl;have hvb:us[1]? = some vb:=by
  rw [hr] at hat1;unfold vval at hat1;rw [if_neg (show ¬ (8589934592:Nat) < 4294967296 by decide)] at hat1;simpa [h1] using hat1
 have c0:w.cell? ⟨k,0,none⟩=some u:=by simp [World.cell?,h1,← Array.getElem?_toList,h7]
 have hent:∀ args w,(callFunc (ρ.f 240) args).run P w = .ok (.enter (ρ.f 240) args) w:=Go.Proofs.enters_of L.f240 (by kernel_rfl) rfl;refine .inl ⟨hent _ _,?_⟩
 show Calls P (ρ.f 240) #[.pointer (some ⟨k,0,none⟩)] w _
 have hb0:∀ q,b0=some q→q≠k∧q < w.heap.size:=fun q hq=>by
  rcases hown with ⟨_,h,_⟩ | ⟨q',off,cap,cells,el2,fz2,e1,_,e3,e4,_⟩
  ·rw [hq] at h;cases h
  ·rw [hq] at e1;injection e1 with e1;subst e1;exact ⟨fun e=>(by subst e;rw [hg] at e3;cases e3),(Array.getElem?_eq_some_iff.1 e4).1⟩
 have fin:∀ w' us',Ext g w g w' (fun b=>b=k)→w'.heap[k]? = some (.cells us' el fz)→us'[1]? = some vb→tzE w' (1048576*(ρ.t 72+1)+2) k→∃ v us cs g',(Ending.returned (.tuple #[])) = .returned v∧RetV (azH (ezc tb (ρ.t 72) tu).outs) (azD (ezc tb (ρ.t 72) tu).outs us) v ∧
  At w' (dz3 (azD (ezc tb (ρ.t 72) tu).outs us) (azD (ezc tb (ρ.t 72) tu).ins [vb,Value.pointer (some ⟨k,0,none⟩)])) (ezc tb (ρ.t 72) tu).outs us ∧
  Left P tb g w (ezc tb (ρ.t 72) tu).ins (ezc tb (ρ.t 72) tu).outs [vb,Value.pointer (some ⟨k,0,none⟩)] [b0,some k] (xs,()) us cs g' w':=fun w' us' he hw1 hu1 hb=>by
  have hk':Keeps g w g w':=he.keeps;have hown':tzG P g w' b0 tu xs.length vb:=by
   rcases hown with ⟨e1,e2,e3⟩ | ⟨q',off,cap,cells,el2,fz2,e1,e2,e3,e4,e5⟩
   ·exact .inl ⟨e1,e2,e3⟩
   ·obtain ⟨hne,hlt⟩:=hb0 _ e1;exact .inr ⟨q',off,cap,cells,el2,fz2,e1,e2,e3,((he.keep _ hlt hne).1).trans e4,e5⟩
  refine ⟨.tuple #[],[vb],[b0],g,rfl,rfl,⟨?_,trivial⟩,he.mono fun b _ e=>?_,⟨hrb.mono hk',hown'⟩,⟨k,rfl,rfl,Nat.lt_of_lt_of_le hk he.size,hg,hb⟩,?_,fun q hq=>?_⟩
  ·show vval w' _ 8589967360=some vb
   unfold vval;rw [if_neg (show ¬ (8589967360:Nat) < 4294967296 by decide),show dz3 (azD (ezc tb (ρ.t 72) tu).outs [vb]) (azD (ezc tb (ρ.t 72) tu).ins [vb,Value.pointer (some ⟨k,0,none⟩)]) (8589967360 % 4294967296)=some (.pointer (some ⟨k,0,none⟩)) from rfl];simp only [hw1];exact hu1
  ·show b∈b0.toList++([k]++[])
   simp [e]
  ·unfold azl;cases b0<;>simp
  ·have hq':b0=some q:=by
    unfold azl at hq;cases b0 with
    | none=>simp at hq
    | some q'=>simp at hq;rw [hq]
   refine ⟨.inr ?_,?_⟩
   ·show q∈b0.toList++([k]++[])
    simp [hq']
   ·show q ∉ azl [some k]
    simpa [azl] using (hb0 q hq').1
 rcases h8 with rfl | rfl
 ·have hsh:w.shape? k=some (ρ.t 72,2):=by simp [World.shape?,h1,h6,h3]
  have hfz:w.frozen? ⟨k,0,none⟩=false:=by
   have:=h2 0 (by omega);simp only [World.frozen?,h1];simpa using this
  refine (Any.Builder_copyCheck_fresh L X k w c0 hsh hfz).mono ?_;rintro r w' ⟨rfl,rfl⟩;have hset:(w.setCell ⟨k,0,none⟩ (.pointer (some ⟨k,0,none⟩))).heap[k]? = some (.cells (us.setIfInBounds 0 (.pointer (some ⟨k,0,none⟩))) el fz):=by
   simp only [World.setCell,Array.getElem?_modify,h1,if_true,Option.map_some];rfl
  have hone:OneBlock w (w.setCell ⟨k,0,none⟩ (.pointer (some ⟨k,0,none⟩))) k (.cells (us.setIfInBounds 0 (.pointer (some ⟨k,0,none⟩))) el fz) :=
   ⟨rfl,rfl,rfl,by simp [World.setCell],hset,fun b hb=>Below.heap_setCell _ _ _ _ (fun e=>hb e)⟩
  refine fin _ _ (Ext.var1 hone hg fun us2 T fz2 e=>?_) hset (by rw [Array.getElem?_setIfInBounds_ne (by decide)];exact hvb) ⟨_,el,fz,hset,fun j hj=>h2 j (by simpa using hj),by simpa [n2] using h3,fun v hv=>?_,fun _=>⟨by rw [n3];exact h6,.pointer (some ⟨k,0,none⟩),?_,.inr rfl⟩⟩
  ·rw [h1] at e;injection e with e;injection e with e1 e2 _;exact ⟨_,fz,by rw [e2],by simp [e1]⟩
  ·rw [Array.toList_setIfInBounds] at hv;rcases List.mem_or_eq_of_mem_set hv with hv | rfl
   ·exact h4 v hv
   ·rfl
  ·rw [Array.toList_setIfInBounds,List.getElem?_set_self (by simp;omega)]
 ·refine (Any.Builder_copyCheck_used L X k w c0).mono ?_;rintro r w' ⟨rfl,rfl⟩;exact fin _ us (Ext.refl g w' _) h1 hvb ⟨us,el,fz,h1,h2,by rw [n2];exact h3,h4,h5⟩
section
variable {w:World}
set_option maxHeartbeats 2000000 in
set_option maxRecDepth 100000 in
theorem Hz2 (L:Lays.n169 P ρ) (X:Builder.Extra P ρ) (b:Nat) (c0:w.cell? ⟨b,1,none⟩=some (.slice none 0 0)) :
 Calls P (ρ.f 169) #[.pointer (some ⟨b,0,none⟩)] w fun e w'=>e = .returned (.string ⟨#[]⟩)∧w' = w.drew:=by
 have hUS:=Any.unsafeString_none L X;have c1:w.drew.cell? ⟨b,1,none⟩=some (.slice none 0 0):=c0;have hSD:(Builtin.unsafeSliceData_ #[(ρ.t 37)] (ρ.t 127) #[.slice none 0 0]).run P w.drew = .ok (.pointer none) w.drew:=rfl;have mixed:=L.mixed;have t72:=L.t72;have a72:=L.a72;have z72:=L.z72;have v72:=L.v72;have u72:=run_underlying L.t72;have t70:=L.t70;have a70:=L.a70;have z70:=L.z70;have v70:=L.v70;have u70:=run_underlying L.t70;have t37:=L.t37;have a37:=L.a37;have z37:=L.z37;have v37:=L.v37;have u37:=run_underlying L.t37;have t127:=L.t127;have a127:=L.a127;have z127:=L.z127;have v127:=L.v127;have u127:=run_underlying L.t127;have t3:=L.t3;have a3:=L.a3;have z3:=L.z3;have v3:=L.v3;have u3:=run_underlying L.t3;have t9:=L.t9;have a9:=L.a9;have z9:=L.z9;have v9:=L.v9;have u9:=run_underlying L.t9;have t5:=X.t5;have a5:=X.a5;have z5:=X.z5;have v5:=X.v5;have u5:=run_underlying X.t5
 go_enter L.f169,Body.n169_ntmps ρ
 go_wp2
 go_region_o
 all_goals (go_wp2;go_ret;exact ⟨rfl,rfl⟩)
set_option maxHeartbeats 2000000 in
set_option maxRecDepth 100000 in
theorem AzA (L:Lays.n169 P ρ) (X:Builder.Extra P ρ) (b g:Nat) (hb:b < w.heap.size) (c0:w.cell? ⟨b,1,none⟩=some (.slice (some ⟨g,0,none⟩) 0 0)) {cur:Array Value} {fz:Nat×Nat} (hg:w.heap[g]? = some (.cells cur (ρ.t 5) fz)) :
 Calls P (ρ.f 169) #[.pointer (some ⟨b,0,none⟩)] w fun e w'=>e = .returned (.string ⟨#[]⟩)∧w' = (w.alloc (.view ⟨g,0,none⟩ (ρ.t 5))).drew:=by
 have hUS:=Any.unsafeString_none L X;have c1:w.drew.cell? ⟨b,1,none⟩=some (.slice (some ⟨g,0,none⟩) 0 0):=c0;have hSD:(Builtin.unsafeSliceData_ #[(ρ.t 37)] (ρ.t 127) #[.slice (some ⟨g,0,none⟩) 0 0]).run P w.drew = .ok (.pointer (some ⟨w.drew.heap.size,0,none⟩)) (w.drew.alloc (.view ⟨g,0,none⟩ (ρ.t 5))) :=
  Lib.run_unsafeSliceData_zero w.drew _ _ (ρ.t 5) L.t127 ⟨g,0,none⟩ 0 ((ρ.t 5),cur.size) (by have hg':w.drew.heap[g]? = some (.cells cur (ρ.t 5) fz):=hg;simp [World.shape?,hg'])
 have c2:(w.drew.alloc (.view ⟨g,0,none⟩ (ρ.t 5))).cell? ⟨b,1,none⟩=some (.slice (some ⟨g,0,none⟩) 0 0):=by
  rw [← c1];exact bzM (Lib.alloc_old w.drew _ b hb)
 have c3:(w.alloc (.view ⟨g,0,none⟩ (ρ.t 5))).drew.cell? ⟨b,1,none⟩=some (.slice (some ⟨g,0,none⟩) 0 0):=c2;have mixed:=L.mixed;have t72:=L.t72;have a72:=L.a72;have z72:=L.z72;have v72:=L.v72;have u72:=run_underlying L.t72;have t70:=L.t70;have a70:=L.a70;have z70:=L.z70;have v70:=L.v70;have u70:=run_underlying L.t70;have t37:=L.t37;have a37:=L.a37;have z37:=L.z37;have v37:=L.v37;have u37:=run_underlying L.t37;have t127:=L.t127;have a127:=L.a127;have z127:=L.z127;have v127:=L.v127;have u127:=run_underlying L.t127;have t3:=L.t3;have a3:=L.a3;have z3:=L.z3;have v3:=L.v3;have u3:=run_underlying L.t3;have t9:=L.t9;have a9:=L.a9;have z9:=L.z9;have v9:=L.v9;have u9:=run_underlying L.t9;have t5:=X.t5;have a5:=X.a5;have z5:=X.z5;have v5:=X.v5;have u5:=run_underlying X.t5
 go_enter L.f169,Body.n169_ntmps ρ
 go_wp2
 go_region_o
 all_goals (go_wp2;go_ret;exact ⟨rfl,rfl⟩)
set_option maxHeartbeats 2000000 in
set_option maxRecDepth 100000 in
theorem Fzt (L:Lays.n169 P ρ) (X:Builder.Extra P ρ) (b g cap:Nat) (hc0:cap≠0) (c0:w.cell? ⟨b,1,none⟩=some (.slice (some ⟨g,0,none⟩) 0 cap)) :
 Calls P (ρ.f 169) #[.pointer (some ⟨b,0,none⟩)] w fun e w'=>e = .returned (.string ⟨#[]⟩)∧w' = w.drew:=by
 have hUS:=Any.unsafeString_none L X;have c1:w.drew.cell? ⟨b,1,none⟩=some (.slice (some ⟨g,0,none⟩) 0 cap):=c0;have hSD:(Builtin.unsafeSliceData_ #[(ρ.t 37)] (ρ.t 127) #[.slice (some ⟨g,0,none⟩) 0 cap]).run P w.drew = .ok (.pointer (some ⟨g,0,none⟩)) w.drew :=
  Lib.run_unsafeSliceData_row _ _ _ _ _ _ hc0
 clear hc0;have mixed:=L.mixed;have t72:=L.t72;have a72:=L.a72;have z72:=L.z72;have v72:=L.v72;have u72:=run_underlying L.t72;have t70:=L.t70;have a70:=L.a70;have z70:=L.z70;have v70:=L.v70;have u70:=run_underlying L.t70;have t37:=L.t37;have a37:=L.a37;have z37:=L.z37;have v37:=L.v37;have u37:=run_underlying L.t37;have t127:=L.t127;have a127:=L.a127;have z127:=L.z127;have v127:=L.v127;have u127:=run_underlying L.t127;have t3:=L.t3;have a3:=L.a3;have z3:=L.z3;have v3:=L.v3;have u3:=run_underlying L.t3;have t9:=L.t9;have a9:=L.a9;have z9:=L.z9;have v9:=L.v9;have u9:=run_underlying L.t9;have t5:=X.t5;have a5:=X.a5;have z5:=X.z5;have v5:=X.v5;have u5:=run_underlying X.t5
 go_enter L.f169,Body.n169_ntmps ρ
 go_wp2
 go_region_o
 all_goals (go_wp2;go_ret;exact ⟨rfl,rfl⟩)
set_option maxHeartbeats 2000000 in
set_option maxRecDepth 100000 in
theorem Fzu (L:Lays.n169 P ρ) (X:Builder.Extra P ρ) (b g cap:Nat) (l:List UInt8) (h0:l≠[]) (hlc:l.length≤cap) (hm:l.length≤9223372036854775807) (c0:w.cell? ⟨b,1,none⟩=some (.slice (some ⟨g,0,none⟩) l.length cap))
 {cur:Array Value} {fz:Nat×Nat} (hg:w.heap[g]? = some (.cells cur (ρ.t 5) fz)) (hn:l.length≤cur.size) (hcell:∀ j x,l[j]? = some x→w.cell? ((⟨g,0,none⟩:Addr).add j)=some (.int .u8 x.toNat)) :
 Calls P (ρ.f 169) #[.pointer (some ⟨b,0,none⟩)] w fun e w'=>e = .returned (.string ⟨l.toArray⟩)∧w' = w.drew.freeze ⟨g,0,none⟩ l.length:=by
 have hl0:l.length≠0:=by simpa using h0
 have c1:w.drew.cell? ⟨b,1,none⟩=some (.slice (some ⟨g,0,none⟩) l.length cap):=c0;have hSD:(Builtin.unsafeSliceData_ #[(ρ.t 37)] (ρ.t 127) #[.slice (some ⟨g,0,none⟩) l.length cap]).run P w.drew = .ok (.pointer (some ⟨g,0,none⟩)) w.drew :=
  Lib.run_unsafeSliceData_row _ _ _ _ _ _ (by omega)
 have hUS:(Builtin.unsafeString_ #[(ρ.t 127),(ρ.t 3)] (ρ.t 9) #[.pointer (some ⟨g,0,none⟩),.int .i64 l.length]).run P w.drew = .ok (.string ⟨l.toArray⟩) (w.drew.freeze ⟨g,0,none⟩ l.length) :=
  Lib.run_unsafeString_row w.drew (ρ.t 127) (ρ.t 3) (ρ.t 9) (ρ.t 5) L.t127 X.cellsByte g cur.size (by have hg':w.drew.heap[g]? = some (.cells cur (ρ.t 5) fz):=hg;simp [World.shape?,hg']) l h0 hn hm hcell
 have mixed:=L.mixed;have t72:=L.t72;have a72:=L.a72;have z72:=L.z72;have v72:=L.v72;have u72:=run_underlying L.t72;have t70:=L.t70;have a70:=L.a70;have z70:=L.z70;have v70:=L.v70;have u70:=run_underlying L.t70;have t37:=L.t37;have a37:=L.a37;have z37:=L.z37;have v37:=L.v37;have u37:=run_underlying L.t37;have t127:=L.t127;have a127:=L.a127;have z127:=L.z127;have v127:=L.v127;have u127:=run_underlying L.t127;have t3:=L.t3;have a3:=L.a3;have z3:=L.z3;have v3:=L.v3;have u3:=run_underlying L.t3;have t9:=L.t9;have a9:=L.a9;have z9:=L.z9;have v9:=L.v9;have u9:=run_underlying L.t9;have t5:=X.t5;have a5:=X.a5;have z5:=X.z5;have v5:=X.v5;have u5:=run_underlying X.t5
 go_enter L.f169,Body.n169_ntmps ρ
 go_wp2
 go_region_o
 all_goals (go_wp2;go_ret;exact ⟨rfl,rfl⟩)
end
def strS (tb:Tab) (T tu ts:Nat) (f:List (tb.T tu)→tb.T ts):FSpec tb:=⟨[(8589934592,.own tu),(0,bldPat T)],[(0,.val ts)],fun x=>some (f x.1,())⟩
def IsStr (tb:Tab) (tu ts:Nat) (f:List (tb.T tu)→tb.T ts):Prop :=
 ∀ xs,∃ l:List UInt8,tb.enc ts (f xs)=[.str l]∧l.length=xs.length∧∀ (i:Nat) x,xs[i]? = some x→∃ b:UInt8,l[i]? = some b∧tb.enc tu x=[.int .u8 (b.toNat:Int)]
theorem Nzt {w:World} {k n:Nat} {cur:Array Value} {el:Nat} {fz:Nat×Nat} (hn:n≠0) (hk:w.heap[k]? = some (.cells cur el fz)):∃ fz',(w.drew.freeze ⟨k,0,none⟩ n).heap[k]? = some (.cells cur el fz'):=by
 have:w.drew.heap[k]? = some (.cells cur el fz):=hk;simp only [World.freeze,if_neg hn,Array.getElem?_modify,this,if_true,Option.map_some];exact ⟨_,rfl⟩
theorem ozk {w:World} {k n b:Nat} (hn:n≠0) (hb:b≠k):(w.drew.freeze ⟨k,0,none⟩ n).heap[b]? = w.heap[b]?:=by
 have:¬ k=b:=fun e=>hb e.symm
 simp only [World.freeze,if_neg hn,Array.getElem?_modify,this,if_false];rfl
theorem Ext.freeze {g:Gh} {w:World} {k n m:Nat} {cur:Array Value} {el:Nat} {fz:Nat×Nat} (hn:n≠0) (hk:w.heap[k]? = some (.cells cur el fz)) (hg:g k = .ar m) :
 Ext g w g (w.drew.freeze ⟨k,0,none⟩ n) (fun b=>b=k):=by
 obtain ⟨fz',hnew⟩:=Nzt hn hk;have hcell:∀ i,(w.drew.freeze ⟨k,0,none⟩ n).cell? ⟨k,i,none⟩=w.cell? ⟨k,i,none⟩:=fun i=>by simp [World.cell?,hnew,hk]
 have hw:(w.drew.freeze ⟨k,0,none⟩ n).os=w.os∧(w.drew.freeze ⟨k,0,none⟩ n).tape=w.tape∧(w.drew.freeze ⟨k,0,none⟩ n).output=w.output∧(w.drew.freeze ⟨k,0,none⟩ n).heap.size=w.heap.size:=by
  unfold World.freeze;rw [if_neg hn];exact ⟨rfl,rfl,rfl,Array.size_modify ..⟩
 refine ⟨hw.1,hw.2.1,hw.2.2.1,Nat.le_of_eq hw.2.2.2.symm,fun b _ hb=>⟨ozk hn hb,rfl⟩,fun b _ hb=>⟨ozk hn (fun e=>by subst e;rw [hg] at hb;cases hb),hb⟩,fun b n' _ hb=>⟨n',Nat.le_refl _,hb,fun i _=>?_⟩,?_⟩
 ·by_cases e:b=k
  ·subst e;exact hcell i
  ·exact bzM (ozk hn e)
 ·exact Shp.one (fun b _ hb=>ozk hn hb) (fun us T fz2 e=>by rw [hk] at e;injection e with e;injection e with e1 e2 _;exact ⟨cur,fz',by rw [hnew,e2],by rw [e1]⟩)
theorem sl_short {g:Gh} {w:World} {e:Nat} {xs:List (tb.T e)} {v:Value} (h:RepD P tb g w (.sl e xs) v):xs.length≤bze:=by
 cases h with
 | slnil=>exact Nat.zero_le _
 | sle=>exact Nat.zero_le _
 | sl _ _ b off cap val h1 h2=>exact Nat.le_trans h1 h2
theorem sl_byte {g:Gh} {w:World} {e q n cap:Nat} {xs:List (tb.T e)} (h:RepD P tb g w (.sl e xs) (.slice (some ⟨q,0,none⟩) n cap)) (h1:P.cellsOf e=1) {j:Nat} {x:tb.T e} {c:CV tb.T} (hx:xs[j]? = some x) (hc:tb.enc e x=[c]) :
 ∃ u,w.cell? ⟨q,j,none⟩=some u∧RepD P tb g w c u:=by
 cases h with
 | sle=>simp at hx
 | sl _ _ _ _ _ val _ _ _ _ h5 h6 =>
  have g1:=h5 j x 0 c hx (by rw [hc];rfl);rw [h1] at g1;exact ⟨_,by simpa using g1,h6 j x 0 c hx (by rw [hc];rfl)⟩
theorem Lzi (L:Lays.n169 P ρ) (X:Builder.Extra P ρ) {f:List (tb.T (ρ.t 5))→tb.T (ρ.t 9)} (hf:IsStr tb (ρ.t 5) (ρ.t 9) f) (h9:azS P (ρ.t 9)=false):bz4 P tb (ρ.f 169) (strS tb (ρ.t 72) (ρ.t 5) (ρ.t 9) f):=by
 intro g w x vs bs y hy _ hat hh hnd;obtain ⟨xs,x2⟩:=x;have hy:some ((f xs,()):tb.T (ρ.t 9)×Unit)=some y:=hy;injection hy with hy;subst hy;cases vs with
 | nil=>exact hh.elim
 | cons vb vs =>
 cases bs with
 | nil=>exact hh.elim
 | cons b0 bs =>
 obtain ⟨⟨hrb,hown⟩,hh⟩:=hh;cases vs with
 | nil=>exact hh.elim
 | cons v vs =>
 cases vs with
 | cons _ _=>cases bs<;>exact hh.elim
 | nil =>
 cases bs with
 | nil=>exact hh.elim
 | cons b bs =>
 cases bs with
 | cons _ _=>exact hh.elim
 | nil =>
 obtain ⟨k,rfl,rfl,hk,hg,hbox⟩:=hh;obtain ⟨us,el,fz,h1,h2,h3,h4,h5⟩:=hbox;obtain ⟨hat1,_,_⟩:=hat
 have hr:azD (strS tb (ρ.t 72) (ρ.t 5) (ρ.t 9) f).ins [vb,Value.pointer (some ⟨k,0,none⟩)]=[.pointer (some ⟨k,0,none⟩)]:=rfl;have hvb:us[1]? = some vb:=by
  rw [hr] at hat1;unfold vval at hat1;rw [if_neg (show ¬ (8589934592:Nat) < 4294967296 by decide)] at hat1;simpa [h1] using hat1
 have c1:w.cell? ⟨k,1,none⟩=some vb:=by simp [World.cell?,h1,hvb]
 have hent:∀ args w,(callFunc (ρ.f 169) args).run P w = .ok (.enter (ρ.f 169) args) w:=Go.Proofs.enters_of L.f169 (by kernel_rfl) rfl;refine .inl ⟨hent _ _,?_⟩
 show Calls P (ρ.f 169) #[.pointer (some ⟨k,0,none⟩)] w _
 obtain ⟨l,l1,l2,l3⟩:=hf xs;have hll:l.length≤bze:=by rw [l2];exact sl_short hrb
 have fin:∀ w',Ext g w g w' (fun b=>b∈b0.toList)∨(∃ g',Ext g w g' w' (fun b=>b∈b0.toList)∧g' k = .var)→w'.heap[k]? = w.heap[k]?→∃ v us cs g',(Ending.returned (.string ⟨l.toArray⟩)) = .returned v∧RetV (azH (strS tb (ρ.t 72) (ρ.t 5) (ρ.t 9) f).outs) (azD (strS tb (ρ.t 72) (ρ.t 5) (ρ.t 9) f).outs us) v ∧
  At w' (dz3 (azD (strS tb (ρ.t 72) (ρ.t 5) (ρ.t 9) f).outs us) (azD (strS tb (ρ.t 72) (ρ.t 5) (ρ.t 9) f).ins [vb,Value.pointer (some ⟨k,0,none⟩)])) (strS tb (ρ.t 72) (ρ.t 5) (ρ.t 9) f).outs us ∧
  Left P tb g w (strS tb (ρ.t 72) (ρ.t 5) (ρ.t 9) f).ins (strS tb (ρ.t 72) (ρ.t 5) (ρ.t 9) f).outs [vb,Value.pointer (some ⟨k,0,none⟩)] [b0,some k] (f xs,()) us cs g' w':=fun w' he hb=>by
  obtain ⟨g',he,hg'⟩:∃ g',Ext g w g' w' (fun b=>b∈b0.toList)∧g' k = .var:=by
   rcases he with he | he
   ·exact ⟨g,he,hg⟩
   ·exact he
  have hfx:az7 P tb g' w' (ρ.t 9) (f xs) (.string ⟨l.toArray⟩):=by
   unfold az7;simp only [h9,Bool.false_eq_true,if_false];exact ⟨_,l1,.str l hll⟩
  refine ⟨.string ⟨l.toArray⟩,[.string ⟨l.toArray⟩],[none],g',rfl,rfl,⟨rfl,trivial⟩,he.mono fun b _ e=>?_,⟨hfx,rfl⟩,⟨k,rfl,rfl,Nat.lt_of_lt_of_le hk he.size,hg',us,el,fz,hb.trans h1,h2,h3,h4,h5⟩,List.nodup_nil,by simp [azl]⟩
  show b∈b0.toList++([k]++[])
  exact List.mem_append_left _ e
 have hdrew:∀ {e w'},l=[]→(e=Ending.returned (.string ⟨#[]⟩)∧w' = w.drew)→∃ v us cs g',e = .returned v∧RetV (azH (strS tb (ρ.t 72) (ρ.t 5) (ρ.t 9) f).outs) (azD (strS tb (ρ.t 72) (ρ.t 5) (ρ.t 9) f).outs us) v ∧
  At w' (dz3 (azD (strS tb (ρ.t 72) (ρ.t 5) (ρ.t 9) f).outs us) (azD (strS tb (ρ.t 72) (ρ.t 5) (ρ.t 9) f).ins [vb,Value.pointer (some ⟨k,0,none⟩)])) (strS tb (ρ.t 72) (ρ.t 5) (ρ.t 9) f).outs us ∧
  Left P tb g w (strS tb (ρ.t 72) (ρ.t 5) (ρ.t 9) f).ins (strS tb (ρ.t 72) (ρ.t 5) (ρ.t 9) f).outs [vb,Value.pointer (some ⟨k,0,none⟩)] [b0,some k] (f xs,()) us cs g' w':=by
  rintro e w' hl ⟨rfl,rfl⟩;have:=fin w.drew (.inl ⟨rfl,rfl,rfl,Nat.le_refl _,fun _ _ _=>⟨rfl,rfl⟩,fun _ _ h=>⟨rfl,h⟩,fun _ n _ h=>⟨n,Nat.le_refl _,h,fun _ _=>rfl⟩,Shp.old fun _ _=>rfl⟩) rfl;rwa [hl] at this
 rcases hown with ⟨rfl,rfl,hl0⟩ | ⟨q,off,cap,cells,el2,fz2,rfl,rfl,hgq,hq,hcs,hlc,hfr,rfl,rfl⟩
 ·have hl:l=[]:=List.length_eq_zero_iff.1 (by rw [l2];exact hl0);exact (Hz2 L X k c1).mono fun e w' h=>hdrew hl h
 ·by_cases hl:l=[]
  ·have hx0:xs.length=0:=by rw [← l2,hl];rfl
   rw [hx0] at c1;by_cases hc0:cap=0
   ·subst hc0;refine (AzA L X k q hk c1 hq).mono ?_;rintro e w' ⟨rfl,rfl⟩;have hext:=Ext.push g w (.view ⟨q,0,none⟩ (ρ.t 5)) .con (fun b=>b∈(some q).toList);have:=fin (w.alloc (.view ⟨q,0,none⟩ (ρ.t 5))).drew (.inr ⟨_,⟨hext.os,hext.tape,hext.output,hext.size,hext.keep,hext.con,hext.ar,hext.shp⟩,by rw [azv g _ (by omega)];exact hg⟩) (Lib.alloc_old w _ k hk);rwa [hl] at this
   ·exact (Fzt L X k q cap hc0 c1).mono fun e w' h=>hdrew hl h
  ·have hcell:∀ j x,l[j]? = some x→w.cell? ((⟨q,0,none⟩:Addr).add j)=some (.int .u8 x.toNat):=fun j x hj=>by
    have hjl:j < xs.length:=by rw [← l2];exact (List.getElem?_eq_some_iff.1 hj).1
    obtain ⟨b,hb,henc⟩:=l3 j _ (List.getElem?_eq_getElem hjl);rw [hj] at hb;injection hb with hb;subst hb;obtain ⟨u,g1,g2⟩:=sl_byte hrb X.cellsByte (List.getElem?_eq_getElem hjl) henc;cases g2;rw [eza,← g1,Nat.zero_add]
   have hlen:l.length≤cells.size:=by
    have:xs.length*1≤cap*1:=by omega
    rw [X.cellsByte] at hcs;omega
   rw [← l2] at c1;refine (Fzu L X k q cap l hl (by rw [l2];exact hlc) hll c1 hq hlen hcell).mono ?_;rintro e w' ⟨rfl,rfl⟩;have hne:k≠q:=fun e=>by subst e;rw [hg] at hgq;cases hgq
   have hn0:l.length≠0:=by simpa using hl
   exact fin _ (.inl ((Ext.freeze hn0 hq hgq).mono fun b _ e=>by simp [e])) (ozk hn0 hne)
end Go.Ev

/- W2 -/
namespace Go.Proofs.YtdgpkbnnljblmaaGreatDoor
open Go Go.Ev Go.Proofs
theorem bldX:Builder.Extra Tryz.prog Tryz.lays105_ren where
 sizeBuilder:=by kernel_rfl
 liesBuilder:=by kernel_rfl
 t5:=Tryz.underlying5
 a5:=Tryz.isAgg5
 z5:=Tryz.sizeOf5
 v5:=Tryz.zeroValue5
 infoByte:=by kernel_rfl
 cellsByte:=by kernel_rfl
 sizeByte:=by kernel_rfl
 neB5:=by decide
def kzd (x:List UInt8×Unit):Option (List UInt8×Unit):=some (x.1,())
def pzb:FSpec tb:=⟨[(8589934592,.own 5),(0,.box 229638146)],[(8589967360,.own 5)],kzd⟩
theorem oz5:bz4 Tryz.prog tb 218 pzb:=CzO (ρ:=Tryz.lays105_ren) (tu:=5) { Tryz.lays105 with } bldX.toX72
def lzQ (x:List UInt8×Unit):Option (List UInt8×Unit):=some (x.1,())
def pzT:FSpec tb:=⟨[(8589934592,.own 5),(0,.box 229638146)],[(0,.val 9)],lzQ⟩
theorem bldStr:IsStr tb 5 9 (fun (xs:List UInt8)=>(xs:List UInt8)):=fun (xs:List UInt8)=>⟨xs,rzs xs,rfl,fun _ x h=>⟨x,h,enc5_eq x⟩⟩
theorem nzC:bz4 Tryz.prog tb 144 pzT :=
 Lzi (tb:=tb) (ρ:=Tryz.lays105_ren) (f:=fun (xs:List UInt8)=>(xs:List UInt8)) { Tryz.lays105 with } bldX bldStr rzv
end Go.Proofs.YtdgpkbnnljblmaaGreatDoor

/- B1 -/
namespace Go.Proofs.YtdgpkbnnljblmaaGreatDoor
open Go Go.Ev
set_option linter.unusedVariables false
def dza (x:List (UInt8)×Unit×List UInt8):Option ((List (UInt8)×Int×Unit)×Unit) :=
 obnd (kzd (x.fst,())) fun y=>obnd (app 1 y.1 x.2.snd) fun zs=>some ((zs,(↑x.2.snd.length:Int),()),())
def bzt:FSpec tb:=⟨[(8589934592,.own 5),(0,.box 229638146),(1,.val 9)],[(8589967360,.own 5),(0,.val 3),(1,.val 222)],dza⟩
theorem ozO:∀ x,evFn Tryz.prog tb [(218,pzb)] [] Tryz.f143 bzt.ins bzt.outs x=bzt.f x:=fun x=>by kernel_rfl
theorem oz1:fnK Tryz.f143 bzt.ins bzt.outs=true:=by kernel_rfl
theorem nzp:aze Tryz.prog tb 143 bzt:=azu mixed Tryz.func143 oz1 (.consK oz5 .nil) rfl ozO
def fz7 (x:Int×Bool):Option (Bool) :=
 brn x.snd (some x.2) (brn (decide (57343 < x.fst)) (some (decide (x.fst≤65535))) (some false))
def bzA:CutSpec tb:=⟨58,[(5,.val 340),(25,.val 4)],[(.normal,[(25,.val 4)])],[28,29,30,31,32,33,25],fz7⟩
theorem oz2:∀ x,bzD Tryz.prog tb [] [] (azf 58 Tryz.f270) bzA.ins bzA.outs x=bzA.J x:=fun x=>by kernel_rfl
theorem pzQ:cutB Tryz.f270.ntmps bzA (azf 58 Tryz.f270)=true:=by kernel_rfl
theorem oz3:azg ([]:List (CutSpec tb)) (azf 58 Tryz.f270)=[]:=by kernel_rfl
theorem ozS:azi Tryz.prog tb Tryz.f270.ntmps (azf 58 Tryz.f270) bzA:=bzl mixed pzQ .nil rfl oz3 .nil oz2
def izy (x:List (UInt8)×Int):Option (List (UInt8)) :=
 brn (decide (IntKind.u32.wrap x.snd≤2047))
  (obnd
   (app 1 x.fst
    [UInt8.ofNat (azn BinOp.or IntKind.u8 192 (IntKind.u8.wrap (x.snd.fdiv 64))).toNat,
     UInt8.ofNat (azn BinOp.or IntKind.u8 128 (azn BinOp.and IntKind.u8 (IntKind.u8.wrap x.snd) 63)).toNat])
   fun zs=>some zs)
  (obnd (fz7 (IntKind.u32.wrap x.snd,decide (IntKind.u32.wrap x.snd < 55296))) fun y =>
   brn y
    (obnd
     (app 1 x.fst
      [UInt8.ofNat (azn BinOp.or IntKind.u8 224 (IntKind.u8.wrap (x.snd.fdiv 4096))).toNat,
       UInt8.ofNat (azn BinOp.or IntKind.u8 128 (azn BinOp.and IntKind.u8 (IntKind.u8.wrap (x.snd.fdiv 64)) 63)).toNat,
       UInt8.ofNat (azn BinOp.or IntKind.u8 128 (azn BinOp.and IntKind.u8 (IntKind.u8.wrap x.snd) 63)).toNat])
     fun zs=>some zs)
    (brn (decide (65535 < IntKind.u32.wrap x.snd))
     (brn (decide (IntKind.u32.wrap x.snd≤1114111))
      (obnd
       (app 1 x.fst
        [UInt8.ofNat (azn BinOp.or IntKind.u8 240 (IntKind.u8.wrap (x.snd.fdiv 262144))).toNat,
         UInt8.ofNat (azn BinOp.or IntKind.u8 128 (azn BinOp.and IntKind.u8 (IntKind.u8.wrap (x.snd.fdiv 4096)) 63)).toNat,
         UInt8.ofNat (azn BinOp.or IntKind.u8 128 (azn BinOp.and IntKind.u8 (IntKind.u8.wrap (x.snd.fdiv 64)) 63)).toNat,
         UInt8.ofNat (azn BinOp.or IntKind.u8 128 (azn BinOp.and IntKind.u8 (IntKind.u8.wrap x.snd) 63)).toNat])
       fun zs=>some zs)
      (obnd (app 1 x.fst [UInt8.ofNat 239,UInt8.ofNat 191,UInt8.ofNat 189]) fun zs=>some zs))
     (obnd (app 1 x.fst [UInt8.ofNat 239,UInt8.ofNat 191,UInt8.ofNat 189]) fun zs=>some zs)))
def bzQ:FSpec tb:=⟨[(0,.own 5),(1,.val 21)],[(0,.own 5)],izy⟩
theorem qzN:∀ x,evFn Tryz.prog tb [] [bzA] Tryz.f270 bzQ.ins bzQ.outs x=bzQ.f x:=fun x=>by kernel_rfl
theorem rzp:fnK Tryz.f270 bzQ.ins bzQ.outs=true:=by kernel_rfl
theorem qzO:azg ([bzA]:List (CutSpec tb)) (azA Tryz.f270)=[(58,azf 58 Tryz.f270)]:=by kernel_rfl
theorem oz4:aze Tryz.prog tb 270 bzQ:=azJ mixed Tryz.func270 rzp .nil rfl qzO (.cons rfl ozS rfl .nil) qzN
def lzu (x:List (UInt8)×Int):Option (List (UInt8)) :=
 brn (decide (IntKind.u32.wrap x.snd≤127)) (obnd (app 1 x.fst [UInt8.ofNat (IntKind.u8.wrap x.snd).toNat]) fun zs=>some zs) (obnd (izy x) fun y=>some y)
def dzV:FSpec tb:=⟨[(0,.own 5),(1,.val 21)],[(0,.own 5)],lzu⟩
theorem xz4:∀ x,evFn Tryz.prog tb [(270,bzQ)] [] Tryz.f252 dzV.ins dzV.outs x=dzV.f x:=fun x=>by kernel_rfl
theorem zzR:fnK Tryz.f252 dzV.ins dzV.outs=true:=by kernel_rfl
theorem tzy:aze Tryz.prog tb 252 dzV:=azu mixed Tryz.func252 zzR (.cons oz4 .nil) rfl xz4
def azx (x:List (UInt8)×Unit×Int):Option ((List (UInt8)×Int×Unit)×Unit) :=
 obnd (kzd (x.fst,())) fun y =>
  obnd (lzu (y.1,x.2.snd)) fun y_1=>some ((y_1,IntKind.i64.wrap ((↑(List.length y_1):Int) - (↑(List.length y.1):Int)),()),())
def bzn:FSpec tb:=⟨[(8589934592,.own 5),(0,.box 229638146),(1,.val 21)],[(8589967360,.own 5),(0,.val 3),(1,.val 222)],azx⟩
theorem pzP:∀ x,evFn Tryz.prog tb [(218,pzb),(252,dzV)] [] Tryz.f220 bzn.ins bzn.outs x=bzn.f x:=fun x=>by kernel_rfl
theorem qzo:fnK Tryz.f220 bzn.ins bzn.outs=true:=by kernel_rfl
theorem izG:aze Tryz.prog tb 220 bzn:=azu mixed Tryz.func220 qzo (.consK oz5 (.cons tzy .nil)) rfl pzP
end Go.Proofs.YtdgpkbnnljblmaaGreatDoor

/- G1 -/
namespace Go.Proofs.YtdgpkbnnljblmaaGreatDoor
open Go Go.Ev
set_option linter.unusedVariables false
def pzf (x:Unit):Option (List (Function)) :=
 some
  [{ name:=[83,85,77],lo:=0,hi:=9223372036854775807 },{ name:=[77,73,78],lo:=0,hi:=9223372036854775807 },
   { name:=[77,65,88],lo:=0,hi:=9223372036854775807 },{ name:=U8s [67,79,85,78,84],lo:=0,hi:=9223372036854775807 },
   { name:=U8s [65,86,69,82,65,71,69],lo:=0,hi:=9223372036854775807 },{ name:=[65,66,83],lo:=1,hi:=1 },{ name:=[83,73,71,78],lo:=1,hi:=1 },
   { name:=[73,78,84],lo:=1,hi:=1 },{ name:=[77,79,68],lo:=2,hi:=2 },{ name:=U8s [82,79,85,78,68],lo:=2,hi:=2 },
   { name:=[73,70],lo:=2,hi:=3 },{ name:=[65,78,68],lo:=0,hi:=9223372036854775807 },{ name:=[79,82],lo:=0,hi:=9223372036854775807 },
   { name:=[78,79,84],lo:=1,hi:=1 },{ name:=[76,69,78],lo:=1,hi:=1 },{ name:=[76,69,70,84],lo:=1,hi:=2 },
   { name:=U8s [82,73,71,72,84],lo:=1,hi:=2 },{ name:=[77,73,68],lo:=3,hi:=3 },
   { name:=U8s [67,79,78,67,65,84],lo:=0,hi:=9223372036854775807 },{ name:=U8s [85,80,80,69,82],lo:=1,hi:=1 },
   { name:=U8s [76,79,87,69,82],lo:=1,hi:=1 },{ name:=U8s [73,83,66,76,65,78,75],lo:=1,hi:=1 },
   { name:=U8s [73,83,69,82,82,79,82],lo:=1,hi:=1 },{ name:=U8s [73,70,69,82,82,79,82],lo:=2,hi:=2 },
   { name:=U8s [73,78,68,69,88],lo:=2,hi:=2 },{ name:=U8s [67,72,79,79,83,69],lo:=2,hi:=9223372036854775807 },
   { name:=U8s [69,88,65,67,84],lo:=2,hi:=2 },{ name:=[82,69,80,84],lo:=2,hi:=2 },{ name:=[78,65],lo:=0,hi:=0 },
   { name:=[84,89,80,69],lo:=1,hi:=1 }]
def kz6:FSpec tb:=⟨[],[(0,.own 130)],pzf⟩
theorem Nzz:∀ x,evFn Tryz.prog tb [] [] Tryz.f59 kz6.ins kz6.outs x=kz6.f x:=fun x=>by kernel_rfl
theorem fun_all_k:fnK Tryz.f59 kz6.ins kz6.outs=true:=by kernel_rfl
theorem qzw:aze Tryz.prog tb 59 kz6:=azu mixed Tryz.func59 fun_all_k .nil rfl Nzz
def zz9 (x:Function×List UInt8):Option (Bool) :=
 some (decide (x.fst.name=x.snd))
def jzI:FSpec tb:=⟨[(0,.val 130),(1,.ro 9)],[(0,.val 4)],zz9⟩
theorem Izd:∀ x,evFn Tryz.prog tb [] [] Tryz.f79 jzI.ins jzI.outs x=jzI.f x:=fun x=>by kernel_rfl
theorem Jz0:fnK Tryz.f79 jzI.ins jzI.outs=true:=by kernel_rfl
theorem AzZ:aze Tryz.prog tb 79 jzI:=azu mixed Tryz.func79 Jz0 .nil rfl Izd
abbrev bzz:List (Nat×FSpec tb):=[(79,jzI)]
theorem czg:azz Tryz.prog tb bzz:=(.cons AzZ .nil)
def bzp (back:List UInt8×List Function×Unit×Int×Int→Option ((Unit)⊕(Int))) (x:List UInt8×List Function×Unit×Int×Int):Option ((Unit)⊕(Int)) :=
 brn (decide (x.2.2.2.snd < x.2.2.2.fst))
  (obnd (idx x.2.fst x.2.2.2.snd) fun y =>
   obnd (zz9 (y,x.fst)) fun y=>brn y (some (Sum.inr x.2.2.2.2)) (back (x.fst,x.2.fst,(),x.2.2.2.fst,IntKind.i64.wrap (x.2.2.2.snd+1))))
  (some (Sum.inl PUnit.unit))
def czh:List UInt8×List Function×Unit×Int×Int→Option ((Unit)⊕(Int)):=iter bzp big
def azF:CutSpec tb:=⟨28,[(4294967297,.ro 9),(0,.val 127),(1,.fnp 79 1),(7,.val 3),(8,.val 3)],[((.exit 0),[]),(.ret,[(4,.val 3)])],[9,10,5,11,12,13,14,15,16,17,4,18,8],czh⟩
theorem ezM:∀ back x,azy Tryz.prog tb bzz [] (azd 28 Tryz.f78) azF.ins azF.outs back x=bzp back x:=fun back x=>by kernel_rfl
theorem ezX:cutB Tryz.f78.ntmps azF (azd 28 Tryz.f78)=true:=by kernel_rfl
theorem ezN:azg ([]:List (CutSpec tb)) (azd 28 Tryz.f78)=[]:=by kernel_rfl
theorem ezx:azi Tryz.prog tb Tryz.f78.ntmps (.loop (azd 28 Tryz.f78)) azF:=azw mixed ezX czg rfl ezN .nil bzp ezM rfl
def czs (x:List UInt8×List Function×Unit):Option (Int) :=
 obnd (czh (x.fst,x.2.fst,(),(↑x.2.fst.length:Int),0)) fun y=>osum y (fun y=>some (-1)) fun y=>some y
def azC:FSpec tb:=⟨[(4294967297,.ro 9),(0,.val 127),(1,.fnp 79 1)],[(0,.val 3)],czs⟩
theorem fzJ:∀ x,evFn Tryz.prog tb bzz [azF] Tryz.f78 azC.ins azC.outs x=azC.f x:=fun x=>by kernel_rfl
theorem fzQ:fnK Tryz.f78 azC.ins azC.outs=true:=by kernel_rfl
theorem fzK:azg ([azF]:List (CutSpec tb)) (azA Tryz.f78)=[(28,.loop (azd 28 Tryz.f78))]:=by kernel_rfl
theorem ezO:aze Tryz.prog tb 78 azC:=azJ mixed Tryz.func78 fzQ czg rfl fzK (.cons rfl ezx rfl .nil) fzJ
def fun_FindF (x:List UInt8):Option (Int×Bool) :=
 obnd (pzf ()) fun y=>obnd (czs (x,y,())) fun y=>some (bif decide (y < 0) then 0 else y,decide (0≤y))
def mzh:FSpec tb:=⟨[(0,.val 9)],[(0,.val 3),(1,.val 4)],fun_FindF⟩
theorem Lz7:∀ x,evFn Tryz.prog tb [(59,kz6),(78,azC)] [] Tryz.f24 mzh.ins mzh.outs x=mzh.f x:=fun x=>by kernel_rfl
theorem Nzv:fnK Tryz.f24 mzh.ins mzh.outs=true:=by kernel_rfl
theorem FzR:aze Tryz.prog tb 24 mzh:=azu mixed Tryz.func24 Nzv (.cons qzw (.cons ezO .nil)) rfl Lz7
def fun_NameF (x:Int):Option (List UInt8×Bool) :=
 obnd (pzf ()) fun y=>brn (decide (x < 0)) (some ([],false)) (brn (decide ((↑(List.length y):Int)≤x)) (some ([],false)) (obnd (idx y x) fun y=>some (y.name,true)))
def mzi:FSpec tb:=⟨[(0,.val 3)],[(0,.val 9),(1,.val 4)],fun_NameF⟩
theorem Lz8:∀ x,evFn Tryz.prog tb [(59,kz6)] [] Tryz.f23 mzi.ins mzi.outs x=mzi.f x:=fun x=>by kernel_rfl
theorem Nzw:fnK Tryz.f23 mzi.ins mzi.outs=true:=by kernel_rfl
theorem FzS:aze Tryz.prog tb 23 mzi:=azu mixed Tryz.func23 Nzw (.cons qzw .nil) rfl Lz8
def Jz1 (x:Val):Option (Arg) :=
 some { Area:=false,L:=[x] }
def mzj:FSpec tb:=⟨[(0,.val 32)],[(0,.val 48)],Jz1⟩
theorem Nzx:∀ x,evFn Tryz.prog tb [] [] Tryz.f25 mzj.ins mzj.outs x=mzj.f x:=fun x=>by kernel_rfl
theorem fun_One_k:fnK Tryz.f25 mzj.ins mzj.outs=true:=by kernel_rfl
theorem uz0:aze Tryz.prog tb 25 mzj:=azu mixed Tryz.func25 fun_One_k .nil rfl Nzx
def pz1 (x:Arg):Option (Bool) :=
 brn (!x.Area) (some (bif decide ((↑x.L.length:Int)=1) then false else true)) (some false)
def jzL:FSpec tb:=⟨[(0,.val 48)],[(0,.val 4)],pz1⟩
theorem Izj:∀ x,evFn Tryz.prog tb [] [] Tryz.f138 jzL.ins jzL.outs x=jzL.f x:=fun x=>by kernel_rfl
theorem Jz7:fnK Tryz.f138 jzL.ins jzL.outs=true:=by kernel_rfl
theorem Az5:aze Tryz.prog tb 138 jzL:=azu mixed Tryz.func138 Jz7 .nil rfl Izj
abbrev cza:List (Nat×FSpec tb):=[(138,jzL)]
theorem cz6:azz Tryz.prog tb cza:=(.cons Az5 .nil)
def azU (back:List Arg×Unit×Int×Int→Option ((Unit)⊕(Int))) (x:List Arg×Unit×Int×Int):Option ((Unit)⊕(Int)) :=
 brn (decide (x.2.2.snd < x.2.2.fst))
  (obnd (idx x.fst x.2.2.snd) fun y=>obnd (pz1 y) fun y=>brn y (some (Sum.inr x.2.2.2)) (back (x.fst,(),x.2.2.fst,IntKind.i64.wrap (x.2.2.snd+1))))
  (some (Sum.inl PUnit.unit))
def bzT:List Arg×Unit×Int×Int→Option ((Unit)⊕(Int)):=iter azU big
def azT:CutSpec tb:=⟨28,[(0,.val 34),(1,.fnp 138 0),(7,.val 3),(8,.val 3)],[((.exit 0),[]),(.ret,[(4,.val 3)])],[9,10,5,11,12,13,14,15,16,17,4,18,8],bzT⟩
theorem hzU:∀ back x,azy Tryz.prog tb cza [] (azd 28 Tryz.f216) azT.ins azT.outs back x=azU back x:=fun back x=>by kernel_rfl
theorem izo:cutB Tryz.f216.ntmps azT (azd 28 Tryz.f216)=true:=by kernel_rfl
theorem hzV:azg ([]:List (CutSpec tb)) (azd 28 Tryz.f216)=[]:=by kernel_rfl
theorem gz7:azi Tryz.prog tb Tryz.f216.ntmps (.loop (azd 28 Tryz.f216)) azT:=azw mixed izo cz6 rfl hzV .nil azU hzU rfl
def bz9 (x:List Arg×Unit):Option (Int) :=
 obnd (bzT (x.fst,(),(↑x.fst.length:Int),0)) fun y=>osum y (fun y=>some (-1)) fun y=>some y
def azN:FSpec tb:=⟨[(0,.val 34),(1,.fnp 138 0)],[(0,.val 3)],bz9⟩
theorem izL:∀ x,evFn Tryz.prog tb cza [azT] Tryz.f216 azN.ins azN.outs x=azN.f x:=fun x=>by kernel_rfl
theorem jzr:fnK Tryz.f216 azN.ins azN.outs=true:=by kernel_rfl
theorem izM:azg ([azT]:List (CutSpec tb)) (azA Tryz.f216)=[(28,.loop (azd 28 Tryz.f216))]:=by kernel_rfl
theorem hzW:aze Tryz.prog tb 216 azN:=azJ mixed Tryz.func216 jzr cz6 rfl izM (.cons rfl gz7 rfl .nil) izL
def bzk (x:List Arg×Unit):Option (Bool) :=
 obnd (bz9 (x.fst,())) fun y=>some (decide (0≤y))
def azI:FSpec tb:=⟨[(0,.val 34),(1,.fnp 138 0)],[(0,.val 4)],bzk⟩
theorem hzT:∀ x,evFn Tryz.prog tb [(216,azN)] [] Tryz.f137 azI.ins azI.outs x=azI.f x:=fun x=>by kernel_rfl
theorem izn:fnK Tryz.f137 azI.ins azI.outs=true:=by kernel_rfl
theorem gzP:aze Tryz.prog tb 137 azI:=azu mixed Tryz.func137 izn (.cons hzW .nil) rfl hzT
abbrev ozn:List (Nat×FSpec tb):=[(85,czo)]
theorem ozo:azz Tryz.prog tb ozn:=(.cons cz2 .nil)
def gzd (back:Int×Arg×List Val×Int×Int→Option (Int)) (x:Int×Arg×List Val×Int×Int):Option (Int) :=
 brn (decide (x.2.2.2.snd < x.2.2.2.fst))
  (obnd (idx x.2.2.fst x.2.2.2.snd) fun y =>
   obnd (bzo y) fun y_1 =>
    brn y_1.2.snd
     (brn (!x.2.fst.Area) (back (IntKind.i64.wrap (x.fst+1),x.2.fst,x.2.2.fst,x.2.2.2.fst,IntKind.i64.wrap (x.2.2.2.snd+1)))
      (brn (decide (y.Kind=1)) (back (IntKind.i64.wrap (x.fst+1),x.2.fst,x.2.2.fst,x.2.2.2.fst,IntKind.i64.wrap (x.2.2.2.snd+1)))
       (back (x.fst,x.2.fst,x.2.2.fst,x.2.2.2.fst,IntKind.i64.wrap (x.2.2.2.snd+1)))))
     (back (x.fst,x.2.fst,x.2.2.fst,x.2.2.2.fst,IntKind.i64.wrap (x.2.2.2.snd+1))))
  (some x.1)
def ozq:Int×Arg×List Val×Int×Int→Option (Int):=iter gzd big
def gzc:CutSpec tb:=⟨60,[(3,.val 3),(5,.ro 48),(18,.val 46),(19,.val 3),(20,.val 3)],[((.exit 2),[(3,.val 3)])],[21,22,23,7,25,26,24,27,28,29,8,9,10,30,31,32,33,34,35,36,37,38,39,40,41,42,3,43,20],ozq⟩
theorem yzI:∀ back x,azy Tryz.prog tb ozn [] (azd 60 Tryz.f139) gzc.ins gzc.outs back x=gzd back x:=fun back x=>by kernel_rfl
theorem Az4:cutB Tryz.f139.ntmps gzc (azd 60 Tryz.f139)=true:=by kernel_rfl
theorem yzJ:azg ([]:List (CutSpec tb)) (azd 60 Tryz.f139)=[]:=by kernel_rfl
theorem wzC:azi Tryz.prog tb Tryz.f139.ntmps (.loop (azd 60 Tryz.f139)) gzc:=azw mixed Az4 ozo rfl yzJ .nil gzd yzI rfl
def gzb (back:Int×List Arg×Int×Int→Option (Int)) (x:Int×List Arg×Int×Int):Option (Int) :=
 brn (decide (x.2.2.snd < x.2.2.fst))
  (obnd (idx x.2.fst x.2.2.snd) fun y=>obnd (ozq (x.fst,y,y.L,(↑y.L.length:Int),0)) fun y=>back (y,x.2.fst,x.2.2.fst,IntKind.i64.wrap (x.2.2.snd+1)))
  (some x.1)
def ozp:Int×List Arg×Int×Int→Option (Int):=iter gzb big
def gza:CutSpec tb:=⟨36,[(3,.val 3),(11,.val 34),(12,.val 3),(13,.val 3)],[((.exit 0),[(3,.val 3)])],[14,15,16,5,17,18,19,20,21,22,23,7,25,26,24,27,28,29,8,9,10,30,31,32,33,34,35,36,37,38,39,40,41,42,3,43,44,13],ozp⟩
theorem yzG:∀ back x,azy Tryz.prog tb ozn [gzc] (azd 36 Tryz.f139) gza.ins gza.outs back x=gzb back x:=fun back x=>by kernel_rfl
theorem Az3:cutB Tryz.f139.ntmps gza (azd 36 Tryz.f139)=true:=by kernel_rfl
theorem yzH:azg ([gzc]:List (CutSpec tb)) (azd 36 Tryz.f139)=[(60,.loop (azd 60 Tryz.f139))]:=by kernel_rfl
theorem wzB:azi Tryz.prog tb Tryz.f139.ntmps (.loop (azd 36 Tryz.f139)) gza:=azw mixed Az3 ozo rfl yzH (.cons rfl wzC rfl .nil) gzb yzG rfl
def ozm (x:List Arg):Option (Int) :=
 obnd (ozp (0,x,(↑x.length:Int),0)) fun y=>some y
def hz4:FSpec tb:=⟨[(0,.val 34)],[(0,.val 3)],ozm⟩
theorem FzU:∀ x,evFn Tryz.prog tb ozn [gza] Tryz.f139 hz4.ins hz4.outs x=hz4.f x:=fun x=>by kernel_rfl
theorem Izg:fnK Tryz.f139 hz4.ins hz4.outs=true:=by kernel_rfl
theorem FzV:azg ([gza]:List (CutSpec tb)) (azA Tryz.f139)=[(36,.loop (azd 36 Tryz.f139))]:=by kernel_rfl
theorem yzK:aze Tryz.prog tb 139 hz4:=azJ mixed Tryz.func139 Izg ozo rfl FzV (.cons rfl wzB rfl .nil) FzU
def bzc (x:Dec×Int):Option (Val) :=
 brn (decide (x.snd=0)) (some { Kind:=1,N:=x.fst,S:=[],B:=false,E:=0 })
  (brn (decide (x.snd=9)) (obnd (azq 7) fun y=>some y) (obnd (azq 36) fun y=>some y))
def ez6:FSpec tb:=⟨[(0,.val 30),(1,.val 63)],[(0,.val 32)],bzc⟩
theorem NzB:∀ x,evFn Tryz.prog tb [(32,bzi)] [] Tryz.f86 ez6.ins ez6.outs x=ez6.f x:=fun x=>by kernel_rfl
theorem fun_num_k:fnK Tryz.f86 ez6.ins ez6.outs=true:=by kernel_rfl
theorem gzA:aze Tryz.prog tb 86 ez6:=azu mixed Tryz.func86 fun_num_k (.cons az5 .nil) rfl NzB
def bzP (x:Int):Option (Val) :=
 obnd (czu x) fun y=>obnd (bzc (y,0)) fun y=>some y
def dzB:FSpec tb:=⟨[(0,.val 3)],[(0,.val 32)],bzP⟩
theorem FzX:∀ x,evFn Tryz.prog tb [(33,ez3),(86,ez6)] [] Tryz.f64 dzB.ins dzB.outs x=dzB.f x:=fun x=>by kernel_rfl
theorem Izi:fnK Tryz.f64 dzB.ins dzB.outs=true:=by kernel_rfl
theorem jz2:aze Tryz.prog tb 64 dzB:=azu mixed Tryz.func64 Izi (.cons gzs (.cons gzA .nil)) rfl FzX
abbrev pz2:List (Nat×FSpec tb):=[(65,gz9)]
theorem pzi:azz Tryz.prog tb pz2:=(.cons ozX .nil)
def hzA (back:Val×List (Bool)×Arg×List Val×Int×Int→Option (((List (Bool))×Val)⊕((List (Bool)×Bool)×Val))) (x:Val×List (Bool)×Arg×List Val×Int×Int):Option (((List (Bool))×Val)⊕((List (Bool)×Bool)×Val)) :=
 brn (decide (x.2.2.2.2.snd < x.2.2.2.2.fst))
  (obnd (idx x.2.2.2.fst x.2.2.2.2.snd) fun y =>
   brn x.2.2.fst.Area
    (brn (!decide (y.Kind=1))
     (brn (!decide (y.Kind=3))
      (brn (!decide (y.Kind=4)) (back (x.fst,x.2.fst,x.2.2.fst,x.2.2.2.fst,x.2.2.2.2.fst,IntKind.i64.wrap (x.2.2.2.2.snd+1)))
       (obnd (czO y) fun y =>
        brn (!y.2.snd) (some (Sum.inr (([],false),y.2.fst)))
         (obnd (app 1 x.2.fst [y.fst]) fun zs=>back (x.fst,zs,x.2.2.fst,x.2.2.2.fst,x.2.2.2.2.fst,IntKind.i64.wrap (x.2.2.2.2.snd+1)))))
      (obnd (czO y) fun y =>
       brn (!y.2.snd) (some (Sum.inr (([],false),y.2.fst)))
        (obnd (app 1 x.2.fst [y.fst]) fun zs=>back (x.fst,zs,x.2.2.fst,x.2.2.2.fst,x.2.2.2.2.fst,IntKind.i64.wrap (x.2.2.2.2.snd+1)))))
     (obnd (czO y) fun y =>
      brn (!y.2.snd) (some (Sum.inr (([],false),y.2.fst)))
       (obnd (app 1 x.2.fst [y.fst]) fun zs=>back (x.fst,zs,x.2.2.fst,x.2.2.2.fst,x.2.2.2.2.fst,IntKind.i64.wrap (x.2.2.2.2.snd+1)))))
    (obnd (czO y) fun y =>
     brn (!y.2.snd) (some (Sum.inr (([],false),y.2.fst)))
      (obnd (app 1 x.2.fst [y.fst]) fun zs=>back (x.fst,zs,x.2.2.fst,x.2.2.2.fst,x.2.2.2.2.fst,IntKind.i64.wrap (x.2.2.2.2.snd+1)))))
  (some (Sum.inl (x.2.fst,x.fst)))
def pzj:Val×List (Bool)×Arg×List Val×Int×Int→Option (((List (Bool))×Val)⊕((List (Bool)×Bool)×Val)):=iter hzA big
def hzz:CutSpec tb:=⟨60,[(3,.ref 32),(5,.own 4),(7,.ro 48),(20,.val 46),(21,.val 3),(22,.val 3)],[((.exit 2),[(5,.own 4)]),(.ret,[(2,.own 4),(4,.val 4)])],[23,24,25,9,26,27,28,29,30,31,32,33,34,35,36,37,38,39,40,41,42,44,45,43,46,47,48,11,10,12,49,50,51,2,4,52,53,54,55,5,56,22],pzj⟩
theorem Bzf:∀ back x,azy Tryz.prog tb pz2 [] (azd 60 Tryz.f140) hzz.ins hzz.outs back x=hzA back x:=fun back x=>by kernel_rfl
theorem DzC:cutB Tryz.f140.ntmps hzz (azd 60 Tryz.f140)=true:=by kernel_rfl
theorem Bzg:azg ([]:List (CutSpec tb)) (azd 60 Tryz.f140)=[]:=by kernel_rfl
theorem yzU:azi Tryz.prog tb Tryz.f140.ntmps (.loop (azd 60 Tryz.f140)) hzz:=azw mixed DzC pzi rfl Bzg .nil hzA Bzf rfl
def hzy (back:Val×List (Bool)×List Arg×Int×Int→Option (((List (Bool))×Val)⊕((List (Bool)×Bool)×Val))) (x:Val×List (Bool)×List Arg×Int×Int):Option (((List (Bool))×Val)⊕((List (Bool)×Bool)×Val)) :=
 brn (decide (x.2.2.2.snd < x.2.2.2.fst))
  (obnd (idx x.2.2.fst x.2.2.2.snd) fun y =>
   obnd (pzj (x.fst,x.2.fst,y,y.L,(↑y.L.length:Int),0)) fun y =>
    osum y (fun y=>back (y.2,y.1,x.2.2.fst,x.2.2.2.fst,IntKind.i64.wrap (x.2.2.2.snd+1))) fun y=>some (Sum.inr (y.1,y.2)))
  (some (Sum.inl (x.2.fst,x.fst)))
def mzR:Val×List (Bool)×List Arg×Int×Int→Option (((List (Bool))×Val)⊕((List (Bool)×Bool)×Val)):=iter hzy big
def hzx:CutSpec tb:=⟨36,[(3,.ref 32),(5,.own 4),(13,.val 34),(14,.val 3),(15,.val 3)],[((.exit 0),[(5,.own 4)]),(.ret,[(2,.own 4),(4,.val 4)])],[16,17,18,7,19,20,21,22,23,24,25,9,26,27,28,29,30,31,32,33,34,35,36,37,38,39,40,41,42,44,45,43,46,47,48,11,10,12,49,50,51,2,4,52,53,54,55,5,56,57,15],mzR⟩
theorem Bzd:∀ back x,azy Tryz.prog tb pz2 [hzz] (azd 36 Tryz.f140) hzx.ins hzx.outs back x=hzy back x:=fun back x=>by kernel_rfl
theorem DzB:cutB Tryz.f140.ntmps hzx (azd 36 Tryz.f140)=true:=by kernel_rfl
theorem Bze:azg ([hzz]:List (CutSpec tb)) (azd 36 Tryz.f140)=[(60,.loop (azd 60 Tryz.f140))]:=by kernel_rfl
theorem yzT:azi Tryz.prog tb Tryz.f140.ntmps (.loop (azd 36 Tryz.f140)) hzx:=azw mixed DzB pzi rfl Bze (.cons rfl yzU rfl .nil) hzy Bzd rfl
def lzT (x:List Arg):Option (List (Bool)×Val×Bool) :=
 obnd (mzR ({ Kind:=0,N:={ M:=0,S:=0 },S:=[],B:=false,E:=0 },[],x,(↑x.length:Int),0)) fun y =>
  osum y (fun y=>some (y.1,{ Kind:=0,N:={ M:=0,S:=0 },S:=[],B:=false,E:=0 },decide (0 < (↑(List.length y.1):Int)))) fun y=>some (y.1.fst,y.2,y.1.snd)
def jzO:FSpec tb:=⟨[(0,.val 34)],[(0,.own 4),(1,.val 32),(2,.val 4)],lzT⟩
theorem Izv:∀ x,evFn Tryz.prog tb pz2 [hzx] Tryz.f140 jzO.ins jzO.outs x=jzO.f x:=fun x=>by kernel_rfl
theorem Kze:fnK Tryz.f140 jzO.ins jzO.outs=true:=by kernel_rfl
theorem Izw:azg ([hzx]:List (CutSpec tb)) (azA Tryz.f140)=[(36,.loop (azd 36 Tryz.f140))]:=by kernel_rfl
theorem Bzh:aze Tryz.prog tb 140 jzO:=azJ mixed Tryz.func140 Kze pzi rfl Izw (.cons rfl yzT rfl .nil) Izv
def bz7 (back:List Bool×Bool×Int×Int→Option ((Unit)⊕(Int))) (x:List Bool×Bool×Int×Int):Option ((Unit)⊕(Int)) :=
 brn (decide (x.2.2.snd < x.2.2.fst))
  (obnd (idx x.fst x.2.2.snd) fun y=>brn (decide (x.2.fst=y)) (some (Sum.inr x.2.2.2)) (back (x.fst,x.2.fst,x.2.2.fst,IntKind.i64.wrap (x.2.2.snd+1))))
  (some (Sum.inl PUnit.unit))
def gzR:List Bool×Bool×Int×Int→Option ((Unit)⊕(Int)):=iter bz7 big
def bz6:CutSpec tb:=⟨28,[(0,.val 147),(1,.val 4),(7,.val 3),(8,.val 3)],[((.exit 0),[]),(.ret,[(4,.val 3)])],[9,10,5,11,12,13,14,15,16,17,4,18,8],gzR⟩
theorem pzL:∀ back x,azy Tryz.prog tb [] [] (azd 28 Tryz.f217) bz6.ins bz6.outs back x=bz7 back x:=fun back x=>by kernel_rfl
theorem qzn:cutB Tryz.f217.ntmps bz6 (azd 28 Tryz.f217)=true:=by kernel_rfl
theorem pzM:azg ([]:List (CutSpec tb)) (azd 28 Tryz.f217)=[]:=by kernel_rfl
theorem oz0:azi Tryz.prog tb Tryz.f217.ntmps (.loop (azd 28 Tryz.f217)) bz6:=azw mixed qzn .nil rfl pzM .nil bz7 pzL rfl
def izN (x:List Bool×Bool):Option (Int) :=
 obnd (gzR (x.fst,x.snd,(↑x.fst.length:Int),0)) fun y=>osum y (fun y=>some (-1)) fun y=>some y
def bz1:FSpec tb:=⟨[(0,.val 147),(1,.val 4)],[(0,.val 3)],izN⟩
theorem rzl:∀ x,evFn Tryz.prog tb [] [bz6] Tryz.f217 bz1.ins bz1.outs x=bz1.f x:=fun x=>by kernel_rfl
theorem szb:fnK Tryz.f217 bz1.ins bz1.outs=true:=by kernel_rfl
theorem rzm:azg ([bz6]:List (CutSpec tb)) (azA Tryz.f217)=[(28,.loop (azd 28 Tryz.f217))]:=by kernel_rfl
theorem pzN:aze Tryz.prog tb 217 bz1:=azJ mixed Tryz.func217 szb .nil rfl rzm (.cons rfl oz0 rfl .nil) rzl
def az8 (x:List Bool×Bool):Option (Bool) :=
 obnd (izN x) fun y=>some (decide (0≤y))
def bzE:FSpec tb:=⟨[(0,.val 147),(1,.val 4)],[(0,.val 4)],az8⟩
theorem pzK:∀ x,evFn Tryz.prog tb [(217,bz1)] [] Tryz.f141 bzE.ins bzE.outs x=bzE.f x:=fun x=>by kernel_rfl
theorem qzm:fnK Tryz.f141 bzE.ins bzE.outs=true:=by kernel_rfl
theorem oza:aze Tryz.prog tb 141 bzE:=azu mixed Tryz.func141 qzm (.cons pzN .nil) rfl pzK
def czw (x:Bool):Option (Val) :=
 some { Kind:=3,N:={ M:=0,S:=0 },S:=[],B:=x,E:=0 }
def ezh:FSpec tb:=⟨[(0,.val 4)],[(0,.val 32)],czw⟩
theorem Kzd:∀ x,evFn Tryz.prog tb [] [] Tryz.f63 ezh.ins ezh.outs x=ezh.f x:=fun x=>by kernel_rfl
theorem Mzi:fnK Tryz.f63 ezh.ins ezh.outs=true:=by kernel_rfl
theorem jzl:aze Tryz.prog tb 63 ezh:=azu mixed Tryz.func63 Mzi .nil rfl Kzd
def dzt (x:List UInt8):Option (Val) :=
 obnd (lzs x) fun y=>brn (!decide (y.snd=0)) (obnd (azq 15) fun y=>some y) (some { Kind:=2,N:={ M:=0,S:=0 },S:=x,B:=false,E:=0 })
def jzk:FSpec tb:=⟨[(0,.val 9)],[(0,.val 32)],dzt⟩
theorem Mzh:∀ x,evFn Tryz.prog tb [(101,jzx),(32,bzi)] [] Tryz.f83 jzk.ins jzk.outs x=jzk.f x:=fun x=>by kernel_rfl
theorem NzE:fnK Tryz.f83 jzk.ins jzk.outs=true:=by kernel_rfl
theorem pzh:aze Tryz.prog tb 83 jzk:=azu mixed Tryz.func83 NzE (.cons szJ (.cons az5 .nil)) rfl Mzh
abbrev ozu:List (Nat×FSpec tb):=[(85,czo)]
theorem ozv:azz Tryz.prog tb ozu:=(.cons cz2 .nil)
def gzh (back:Val×List (Dec)×Arg×List Val×Int×Int→Option (((List (Dec))×Val)⊕((List (Dec)×Bool)×Val))) (x:Val×List (Dec)×Arg×List Val×Int×Int):Option (((List (Dec))×Val)⊕((List (Dec)×Bool)×Val)) :=
 brn (decide (x.2.2.2.2.snd < x.2.2.2.2.fst))
  (obnd (idx x.2.2.2.fst x.2.2.2.2.snd) fun y =>
   brn x.2.2.fst.Area
    (brn (!decide (y.Kind=1))
     (brn (!decide (y.Kind=4)) (back (x.fst,x.2.fst,x.2.2.fst,x.2.2.2.fst,x.2.2.2.2.fst,IntKind.i64.wrap (x.2.2.2.2.snd+1)))
      (obnd (bzo y) fun y =>
       brn (!y.2.snd) (some (Sum.inr (([],false),y.2.fst)))
        (obnd (app 16 x.2.fst [y.fst]) fun zs=>back (x.fst,zs,x.2.2.fst,x.2.2.2.fst,x.2.2.2.2.fst,IntKind.i64.wrap (x.2.2.2.2.snd+1)))))
     (obnd (bzo y) fun y =>
      brn (!y.2.snd) (some (Sum.inr (([],false),y.2.fst)))
       (obnd (app 16 x.2.fst [y.fst]) fun zs=>back (x.fst,zs,x.2.2.fst,x.2.2.2.fst,x.2.2.2.2.fst,IntKind.i64.wrap (x.2.2.2.2.snd+1)))))
    (obnd (bzo y) fun y =>
     brn (!y.2.snd) (some (Sum.inr (([],false),y.2.fst)))
      (obnd (app 16 x.2.fst [y.fst]) fun zs=>back (x.fst,zs,x.2.2.fst,x.2.2.2.fst,x.2.2.2.2.fst,IntKind.i64.wrap (x.2.2.2.2.snd+1)))))
  (some (Sum.inl (x.2.fst,x.fst)))
def ozw:Val×List (Dec)×Arg×List Val×Int×Int→Option (((List (Dec))×Val)⊕((List (Dec)×Bool)×Val)):=iter gzh big
def gzg:CutSpec tb:=⟨60,[(3,.ref 32),(5,.own 30),(7,.ro 48),(20,.val 46),(21,.val 3),(22,.val 3)],[((.exit 2),[(5,.own 30)]),(.ret,[(2,.own 30),(4,.val 4)])],[23,24,25,9,26,27,28,29,30,31,32,33,34,35,36,37,39,40,38,41,42,43,10,11,12,44,45,46,2,4,47,48,49,50,5,51,22],ozw⟩
theorem yzO:∀ back x,azy Tryz.prog tb ozu [] (azd 60 Tryz.f145) gzg.ins gzg.outs back x=gzh back x:=fun back x=>by kernel_rfl
theorem Az7:cutB Tryz.f145.ntmps gzg (azd 60 Tryz.f145)=true:=by kernel_rfl
theorem yzP:azg ([]:List (CutSpec tb)) (azd 60 Tryz.f145)=[]:=by kernel_rfl
theorem wzE:azi Tryz.prog tb Tryz.f145.ntmps (.loop (azd 60 Tryz.f145)) gzg:=azw mixed Az7 ozv rfl yzP .nil gzh yzO rfl
def gzf (back:Val×List (Dec)×List Arg×Int×Int→Option (((List (Dec))×Val)⊕((List (Dec)×Bool)×Val))) (x:Val×List (Dec)×List Arg×Int×Int):Option (((List (Dec))×Val)⊕((List (Dec)×Bool)×Val)) :=
 brn (decide (x.2.2.2.snd < x.2.2.2.fst))
  (obnd (idx x.2.2.fst x.2.2.2.snd) fun y =>
   obnd (ozw (x.fst,x.2.fst,y,y.L,(↑y.L.length:Int),0)) fun y =>
    osum y (fun y=>back (y.2,y.1,x.2.2.fst,x.2.2.2.fst,IntKind.i64.wrap (x.2.2.2.snd+1))) fun y=>some (Sum.inr (y.1,y.2)))
  (some (Sum.inl (x.2.fst,x.fst)))
def lz0:Val×List (Dec)×List Arg×Int×Int→Option (((List (Dec))×Val)⊕((List (Dec)×Bool)×Val)):=iter gzf big
def gze:CutSpec tb:=⟨36,[(3,.ref 32),(5,.own 30),(13,.val 34),(14,.val 3),(15,.val 3)],[((.exit 0),[(5,.own 30)]),(.ret,[(2,.own 30),(4,.val 4)])],[16,17,18,7,19,20,21,22,23,24,25,9,26,27,28,29,30,31,32,33,34,35,36,37,39,40,38,41,42,43,10,11,12,44,45,46,2,4,47,48,49,50,5,51,52,15],lz0⟩
theorem yzM:∀ back x,azy Tryz.prog tb ozu [gzg] (azd 36 Tryz.f145) gze.ins gze.outs back x=gzf back x:=fun back x=>by kernel_rfl
theorem Az6:cutB Tryz.f145.ntmps gze (azd 36 Tryz.f145)=true:=by kernel_rfl
theorem yzN:azg ([gzg]:List (CutSpec tb)) (azd 36 Tryz.f145)=[(60,.loop (azd 60 Tryz.f145))]:=by kernel_rfl
theorem wzD:azi Tryz.prog tb Tryz.f145.ntmps (.loop (azd 36 Tryz.f145)) gze:=azw mixed Az6 ozv rfl yzN (.cons rfl wzE rfl .nil) gzf yzM rfl
def ozt (x:List Arg):Option (List (Dec)×Val×Bool) :=
 obnd (lz0 ({ Kind:=0,N:={ M:=0,S:=0 },S:=[],B:=false,E:=0 },[],x,(↑x.length:Int),0)) fun y =>
  osum y (fun y=>some (y.1,{ Kind:=0,N:={ M:=0,S:=0 },S:=[],B:=false,E:=0 },true)) fun y=>some (y.1.fst,y.2,y.1.snd)
def hz8:FSpec tb:=⟨[(0,.val 34)],[(0,.own 30),(1,.val 32),(2,.val 4)],ozt⟩
theorem Fz9:∀ x,evFn Tryz.prog tb ozu [gze] Tryz.f145 hz8.ins hz8.outs x=hz8.f x:=fun x=>by kernel_rfl
theorem Izp:fnK Tryz.f145 hz8.ins hz8.outs=true:=by kernel_rfl
theorem Gza:azg ([gze]:List (CutSpec tb)) (azA Tryz.f145)=[(36,.loop (azd 36 Tryz.f145))]:=by kernel_rfl
theorem yzQ:aze Tryz.prog tb 145 hz8:=azJ mixed Tryz.func145 Izp ozv rfl Gza (.cons rfl wzD rfl .nil) Fz9
abbrev czf:List (Nat×FSpec tb):=[(34,dzA)]
theorem dzc:azz Tryz.prog tb czf:=(.cons jz0 .nil)
def azY (back:List Dec×Unit×Dec×Int→Option ((Unit)×Dec)) (x:List Dec×Unit×Dec×Int):Option ((Unit)×Dec) :=
 brn (decide (x.2.2.snd < (↑x.fst.length:Int)))
  (obnd (idx x.fst x.2.2.snd) fun y =>
   obnd (ezd (y,x.2.2.fst)) fun y =>
    brn (decide (y < 0)) (obnd (idx x.fst x.2.2.snd) fun y=>back (x.fst,(),y,IntKind.i64.wrap (x.2.2.snd+1)))
     (back (x.fst,(),x.2.2.fst,IntKind.i64.wrap (x.2.2.snd+1))))
  (some ((),x.2.2.fst))
def bz3:List Dec×Unit×Dec×Int→Option ((Unit)×Dec):=iter azY big
def azX:CutSpec tb:=⟨52,[(0,.val 226),(1,.fnp 34 0),(5,.ref 30),(6,.val 3)],[((.exit 0),[])],[14,15,16,17,20,21,22,23,24,25,26,27,28,29,30,31,18,19,6],bz3⟩
theorem izu:∀ back x,azy Tryz.prog tb czf [] (azd 52 Tryz.f146) azX.ins azX.outs back x=azY back x:=fun back x=>by kernel_rfl
theorem izF:cutB Tryz.f146.ntmps azX (azd 52 Tryz.f146)=true:=by kernel_rfl
theorem izv:azg ([]:List (CutSpec tb)) (azd 52 Tryz.f146)=[]:=by kernel_rfl
theorem hzY:azi Tryz.prog tb Tryz.f146.ntmps (.loop (azd 52 Tryz.f146)) azX:=azw mixed izF dzc rfl izv .nil azY izu rfl
def bzC (x:List Dec×Unit):Option (Dec) :=
 brn (decide ((↑x.fst.length:Int) < 1)) none (obnd (idx x.fst 0) fun y=>obnd (bz3 (x.fst,(),y,1)) fun y=>some y.2)
def azP:FSpec tb:=⟨[(0,.val 226),(1,.fnp 34 0)],[(0,.val 30)],bzC⟩
theorem jzu:∀ x,evFn Tryz.prog tb czf [azX] Tryz.f146 azP.ins azP.outs x=azP.f x:=fun x=>by kernel_rfl
theorem jzY:fnK Tryz.f146 azP.ins azP.outs=true:=by kernel_rfl
theorem jzv:azg ([azX]:List (CutSpec tb)) (azA Tryz.f146)=[(52,.loop (azd 52 Tryz.f146))]:=by kernel_rfl
theorem izw:aze Tryz.prog tb 146 azP:=azJ mixed Tryz.func146 jzY dzc rfl jzv (.cons rfl hzY rfl .nil) jzu
abbrev cze:List (Nat×FSpec tb):=[(34,dzA)]
theorem dzb:azz Tryz.prog tb cze:=(.cons jz0 .nil)
def azW (back:List Dec×Unit×Dec×Int→Option ((Unit)×Dec)) (x:List Dec×Unit×Dec×Int):Option ((Unit)×Dec) :=
 brn (decide (x.2.2.snd < (↑x.fst.length:Int)))
  (obnd (idx x.fst x.2.2.snd) fun y =>
   obnd (ezd (y,x.2.2.fst)) fun y =>
    brn (decide (0 < y)) (obnd (idx x.fst x.2.2.snd) fun y=>back (x.fst,(),y,IntKind.i64.wrap (x.2.2.snd+1)))
     (back (x.fst,(),x.2.2.fst,IntKind.i64.wrap (x.2.2.snd+1))))
  (some ((),x.2.2.fst))
def bz2:List Dec×Unit×Dec×Int→Option ((Unit)×Dec):=iter azW big
def azV:CutSpec tb:=⟨52,[(0,.val 226),(1,.fnp 34 0),(5,.ref 30),(6,.val 3)],[((.exit 0),[])],[14,15,16,17,20,21,22,23,24,25,26,27,28,29,30,31,18,19,6],bz2⟩
theorem izr:∀ back x,azy Tryz.prog tb cze [] (azd 52 Tryz.f147) azV.ins azV.outs back x=azW back x:=fun back x=>by kernel_rfl
theorem izE:cutB Tryz.f147.ntmps azV (azd 52 Tryz.f147)=true:=by kernel_rfl
theorem izs:azg ([]:List (CutSpec tb)) (azd 52 Tryz.f147)=[]:=by kernel_rfl
theorem hzX:azi Tryz.prog tb Tryz.f147.ntmps (.loop (azd 52 Tryz.f147)) azV:=azw mixed izE dzb rfl izs .nil azW izr rfl
def az9 (x:List Dec×Unit):Option (Dec) :=
 brn (decide ((↑x.fst.length:Int) < 1)) none (obnd (idx x.fst 0) fun y=>obnd (bz2 (x.fst,(),y,1)) fun y=>some y.2)
def azO:FSpec tb:=⟨[(0,.val 226),(1,.fnp 34 0)],[(0,.val 30)],az9⟩
theorem jzs:∀ x,evFn Tryz.prog tb cze [azV] Tryz.f147 azO.ins azO.outs x=azO.f x:=fun x=>by kernel_rfl
theorem jzX:fnK Tryz.f147 azO.ins azO.outs=true:=by kernel_rfl
theorem jzt:azg ([azV]:List (CutSpec tb)) (azA Tryz.f147)=[(52,.loop (azd 52 Tryz.f147))]:=by kernel_rfl
theorem izt:aze Tryz.prog tb 147 azO:=azJ mixed Tryz.func147 jzX dzb rfl jzt (.cons rfl hzX rfl .nil) jzs
abbrev mzk:List (Nat×FSpec tb):=[(137,azI),(32,bzi),(139,hz4),(64,dzB),(140,jzO),(141,bzE),(63,ezh),(142,jzA),(143,bzt),(144,pzT),(83,jzk),(145,hz8),(146,azP),(86,ez6),(147,azO),(33,ez3),(87,lz7),(36,jzE)]
theorem kzj:azz Tryz.prog tb mzk:=(.cons gzP (.cons az5 (.cons yzK (.cons jz2 (.cons Bzh (.cons oza (.cons jzl (.cons szM (.cons nzp (.consK nzC (.cons pzh (.cons yzQ (.cons izw (.cons gzA (.cons izt (.cons gzs (.cons uzX (.cons nzr .nil))))))))))))))))))
def kzn (back:List (UInt8)×Val×Unit×List Val×Int×Int→Option (((List (UInt8))×(Val×Unit))⊕((List (UInt8))×(Val×Unit)))) (x:List (UInt8)×Val×Unit×List Val×Int×Int):Option (((List (UInt8))×(Val×Unit))⊕((List (UInt8))×(Val×Unit))) :=
 brn (decide (x.2.2.2.2.snd < x.2.2.2.2.fst))
  (obnd (idx x.2.2.2.fst x.2.2.2.2.snd) fun y =>
   obnd (ezB y) fun y =>
    brn (!y.2.snd) (some (Sum.inr (x.fst,y.2.fst,())))
     (obnd (dza (x.fst,(),y.fst)) fun y=>back (y.1.fst,x.2.fst,(),x.2.2.2.fst,x.2.2.2.2.fst,IntKind.i64.wrap (x.2.2.2.2.snd+1))))
  (some (Sum.inl (x.fst,x.2.fst,())))
def rzK:List (UInt8)×Val×Unit×List Val×Int×Int→Option (((List (UInt8))×(Val×Unit))⊕((List (UInt8))×(Val×Unit))):=iter kzn big
def kzm:CutSpec tb:=⟨172,[(8589934600,.own 5),(4,.ref 32),(8,.box 229638146),(71,.val 46),(72,.val 3),(73,.val 3)],[((.exit 4),[(8589934600,.own 5)]),(.ret,[(8589934600,.own 5)])],[74,75,76,12,78,79,77,80,81,82,14,13,15,83,84,85,86,87,88,73],rzK⟩
theorem Fz4:∀ back x,azy Tryz.prog tb mzk [] (azd 172 Tryz.f60) kzm.ins kzm.outs back x=kzn back x:=fun back x=>by kernel_rfl
theorem Izn:cutB Tryz.f60.ntmps kzm (azd 172 Tryz.f60)=true:=by kernel_rfl
theorem Fz5:azg ([]:List (CutSpec tb)) (azd 172 Tryz.f60)=[]:=by kernel_rfl
theorem Dzq:azi Tryz.prog tb Tryz.f60.ntmps (.loop (azd 172 Tryz.f60)) kzm:=azw mixed Izn kzj rfl Fz5 .nil kzn Fz4 rfl
def kzl (back:List (UInt8)×Val×Unit×List Arg×Int×Int→Option (((List (UInt8))×(Val×Unit))⊕((List (UInt8))×(Val×Unit)))) (x:List (UInt8)×Val×Unit×List Arg×Int×Int):Option (((List (UInt8))×(Val×Unit))⊕((List (UInt8))×(Val×Unit))) :=
 brn (decide (x.2.2.2.2.snd < x.2.2.2.2.fst))
  (obnd (idx x.2.2.2.fst x.2.2.2.2.snd) fun y =>
   obnd (rzK (x.fst,x.2.fst,(),y.L,(↑y.L.length:Int),0)) fun y =>
    osum y (fun y=>back (y.1,y.2.fst,(),x.2.2.2.fst,x.2.2.2.2.fst,IntKind.i64.wrap (x.2.2.2.2.snd+1))) fun y=>some (Sum.inr (y.1,y.2.fst,())))
  (some (Sum.inl (x.fst,x.2.fst,())))
def ozs:List (UInt8)×Val×Unit×List Arg×Int×Int→Option (((List (UInt8))×(Val×Unit))⊕((List (UInt8))×(Val×Unit))):=iter kzl big
def kzk:CutSpec tb:=⟨148,[(8589934600,.own 5),(4,.ref 32),(8,.box 229638146),(64,.val 34),(65,.val 3),(66,.val 3)],[((.exit 2),[(8589934600,.own 5)]),(.ret,[(8589934600,.own 5)])],[67,68,69,10,70,71,72,73,74,75,76,12,78,79,77,80,81,82,14,13,15,83,84,85,86,87,88,89,66],ozs⟩
theorem Fz2:∀ back x,azy Tryz.prog tb mzk [kzm] (azd 148 Tryz.f60) kzk.ins kzk.outs back x=kzl back x:=fun back x=>by kernel_rfl
theorem Izm:cutB Tryz.f60.ntmps kzk (azd 148 Tryz.f60)=true:=by kernel_rfl
theorem Fz3:azg ([kzm]:List (CutSpec tb)) (azd 148 Tryz.f60)=[(172,.loop (azd 172 Tryz.f60))]:=by kernel_rfl
theorem Dzp:azi Tryz.prog tb Tryz.f60.ntmps (.loop (azd 148 Tryz.f60)) kzk:=azw mixed Izm kzj rfl Fz3 (.cons rfl Dzq rfl .nil) kzl Fz2 rfl
def ezg (x:Int×List Arg×Val×Int):Option (((Unit)×Val)⊕((Unit)×Val)) :=
 brn (decide (x.2.2.snd=3)) (obnd (ozm x.2.fst) fun y=>obnd (bzP y) fun y=>some (Sum.inr ((),y)))
  (brn (decide (x.2.2.snd=11))
   (brn (decide (x.2.2.snd=11))
    (obnd (lzT x.2.fst) fun y =>
     brn (!y.2.snd)
      (brn (!decide (y.2.fst.Kind=4)) (obnd (azq 15) fun y=>some (Sum.inr ((),y)))
       (brn (!y.2.snd) (some (Sum.inr ((),y.2.fst)))
        (obnd (az8 (y.fst,decide (x.fst=12))) fun y=>obnd (czw (decide (y=decide (x.fst=12)))) fun y=>some (Sum.inr ((),y)))))
      (brn (!y.2.snd) (some (Sum.inr ((),y.2.fst)))
       (obnd (az8 (y.fst,decide (x.fst=12))) fun y=>obnd (czw (decide (y=decide (x.fst=12)))) fun y=>some (Sum.inr ((),y)))))
    (brn (decide (x.2.2.snd=18))
     (obnd (ozs ([],x.2.2.fst,(),x.2.fst,(↑x.2.fst.length:Int),0)) fun y =>
      osum y (fun y=>obnd (lzQ (y.1,())) fun y=>obnd (dzt y.1) fun y=>some (Sum.inr ((),y))) fun y=>some (Sum.inr ((),y.2.fst)))
     (some (Sum.inl ((),x.2.2.fst)))))
   (brn (decide (x.2.2.snd=12))
    (obnd (lzT x.2.fst) fun y =>
     brn (!y.2.snd)
      (brn (!decide (y.2.fst.Kind=4)) (obnd (azq 15) fun y=>some (Sum.inr ((),y)))
       (brn (!y.2.snd) (some (Sum.inr ((),y.2.fst)))
        (obnd (az8 (y.fst,decide (x.fst=12))) fun y=>obnd (czw (decide (y=decide (x.fst=12)))) fun y=>some (Sum.inr ((),y)))))
      (brn (!y.2.snd) (some (Sum.inr ((),y.2.fst)))
       (obnd (az8 (y.fst,decide (x.fst=12))) fun y=>obnd (czw (decide (y=decide (x.fst=12)))) fun y=>some (Sum.inr ((),y)))))
    (brn (decide (x.2.2.snd=18))
     (obnd (ozs ([],x.2.2.fst,(),x.2.fst,(↑x.2.fst.length:Int),0)) fun y =>
      osum y (fun y=>obnd (lzQ (y.1,())) fun y=>obnd (dzt y.1) fun y=>some (Sum.inr ((),y))) fun y=>some (Sum.inr ((),y.2.fst)))
     (some (Sum.inl ((),x.2.2.fst))))))
def hz6:CutSpec tb:=⟨43,[(0,.val 3),(1,.val 34),(4,.ref 32),(26,.val 3)],[(.normal,[]),(.ret,[])],[28,27,29,30,31,33,32,34,36,37,35,38,39,40,6,5,7,42,43,44,45,46,47,48,41,49,51,52,50,53,54,55,56,57,58,59,60,61,63,62,8,64,65,66,67,68,69,10,70,71,72,73,74,75,76,12,78,79,77,80,81,82,14,13,15,83,84,85,86,87,88,89,90,91],ezg⟩
theorem FzY:∀ x,bzD Tryz.prog tb mzk [kzk] (azf 43 Tryz.f60) hz6.ins hz6.outs x=hz6.J x:=fun x=>by kernel_rfl
theorem Izk:cutB Tryz.f60.ntmps hz6 (azf 43 Tryz.f60)=true:=by kernel_rfl
theorem FzZ:azg ([kzk]:List (CutSpec tb)) (azf 43 Tryz.f60)=[(148,.loop (azd 148 Tryz.f60))]:=by kernel_rfl
theorem Dzn:azi Tryz.prog tb Tryz.f60.ntmps (azf 43 Tryz.f60) hz6:=bzl mixed Izk kzj rfl FzZ (.cons rfl Dzp rfl .nil) FzY
def fzV (x:Int×Val×List Dec):Option (((Unit)×Val)⊕((Unit)×Val)) :=
 brn (decide (x.fst=1))
  (brn (decide (0 < (↑x.2.snd.length:Int))) (obnd (bzC (x.2.snd,())) fun y=>obnd (bzc (y,0)) fun y=>some (Sum.inr ((),y)))
   (brn (decide (x.fst=2))
    (brn (decide (0 < (↑x.2.snd.length:Int))) (obnd (az9 (x.2.snd,())) fun y=>obnd (bzc (y,0)) fun y=>some (Sum.inr ((),y)))
     (brn (decide (x.fst=1)) (obnd (bzP 0) fun y=>some (Sum.inr ((),y)))
      (brn (decide (x.fst=2)) (obnd (bzP 0) fun y=>some (Sum.inr ((),y))) (some (Sum.inl ((),x.2.fst))))))
    (brn (decide (x.fst=1)) (obnd (bzP 0) fun y=>some (Sum.inr ((),y)))
     (brn (decide (x.fst=2)) (obnd (bzP 0) fun y=>some (Sum.inr ((),y))) (some (Sum.inl ((),x.2.fst)))))))
  (brn (decide (x.fst=2))
   (brn (decide (0 < (↑x.2.snd.length:Int))) (obnd (az9 (x.2.snd,())) fun y=>obnd (bzc (y,0)) fun y=>some (Sum.inr ((),y)))
    (brn (decide (x.fst=1)) (obnd (bzP 0) fun y=>some (Sum.inr ((),y)))
     (brn (decide (x.fst=2)) (obnd (bzP 0) fun y=>some (Sum.inr ((),y))) (some (Sum.inl ((),x.2.fst))))))
   (brn (decide (x.fst=1)) (obnd (bzP 0) fun y=>some (Sum.inr ((),y)))
    (brn (decide (x.fst=2)) (obnd (bzP 0) fun y=>some (Sum.inr ((),y))) (some (Sum.inl ((),x.2.fst))))))
def hz7:CutSpec tb:=⟨267,[(0,.val 3),(4,.ref 32),(16,.val 226)],[(.normal,[]),(.ret,[])],[102,103,104,105,106,107,108,101,109,110,111,113,114,115,116,117,118,119,112,120,121,122,124,125,126,127,128,129,123,130],fzV⟩
theorem Fz0:∀ x,bzD Tryz.prog tb mzk [] (azf 267 Tryz.f60) hz7.ins hz7.outs x=hz7.J x:=fun x=>by kernel_rfl
theorem Izl:cutB Tryz.f60.ntmps hz7 (azf 267 Tryz.f60)=true:=by kernel_rfl
theorem Fz1:azg ([]:List (CutSpec tb)) (azf 267 Tryz.f60)=[]:=by kernel_rfl
theorem Dzo:azi Tryz.prog tb Tryz.f60.ntmps (azf 267 Tryz.f60) hz7:=bzl mixed Izl kzj rfl Fz1 .nil Fz0
def kzp (back:Val×Dec×List Dec×Int×Int→Option (((Unit)×(Val×Dec))⊕((Unit)×(Val×Dec)))) (x:Val×Dec×List Dec×Int×Int):Option (((Unit)×(Val×Dec))⊕((Unit)×(Val×Dec))) :=
 brn (decide (x.2.2.2.snd < x.2.2.2.fst))
  (obnd (idx x.2.2.fst x.2.2.2.snd) fun y =>
   obnd (pzd (x.2.fst,y)) fun y =>
    brn (!decide (y.snd=0)) (obnd (bzc y) fun y_1=>some (Sum.inr ((),y_1,y.fst))) (back (x.fst,y.fst,x.2.2.fst,x.2.2.2.fst,IntKind.i64.wrap (x.2.2.2.snd+1))))
  (some (Sum.inl ((),x.fst,x.2.fst)))
def rzL:Val×Dec×List Dec×Int×Int→Option (((Unit)×(Val×Dec))⊕((Unit)×(Val×Dec))):=iter kzp big
def kzo:CutSpec tb:=⟨332,[(4,.ref 32),(19,.ref 30),(132,.val 226),(133,.val 3),(134,.val 3)],[((.exit 7),[]),(.ret,[])],[135,136,137,22,139,140,141,138,142,143,20,144,145,146,147,148,149,134],rzL⟩
theorem Fz6:∀ back x,azy Tryz.prog tb mzk [] (azd 332 Tryz.f60) kzo.ins kzo.outs back x=kzp back x:=fun back x=>by kernel_rfl
theorem Izo:cutB Tryz.f60.ntmps kzo (azd 332 Tryz.f60)=true:=by kernel_rfl
theorem Fz7:azg ([]:List (CutSpec tb)) (azd 332 Tryz.f60)=[]:=by kernel_rfl
theorem Dzr:azi Tryz.prog tb Tryz.f60.ntmps (.loop (azd 332 Tryz.f60)) kzo:=azw mixed Izo kzj rfl Fz7 .nil kzp Fz6 rfl
def bzF (x:Int×List Arg):Option (Val) :=
 obnd (bzk (x.snd,())) fun y =>
  brn y (obnd (azq 15) fun y=>some y)
   (obnd (ezg (x.fst,x.snd,{ Kind:=0,N:={ M:=0,S:=0 },S:=[],B:=false,E:=0 },x.fst)) fun y =>
    osum y
     (fun y =>
      obnd (ozt x.snd) fun y_1 =>
       brn (!y_1.2.snd) (some y_1.2.fst)
        (obnd (fzV (x.fst,y.2,y_1.fst)) fun y =>
         osum y
          (fun y =>
           obnd (czu 0) fun y_2 =>
            obnd (rzL (y.2,y_2,y_1.fst,(↑(List.length y_1.fst):Int),0)) fun y =>
             osum y
              (fun y =>
               brn (decide (x.fst=0)) (obnd (bzc (y.2.snd,0)) fun y=>some y)
                (obnd (czu (↑(List.length y_1.fst):Int)) fun y_3=>obnd (gzr (y.2.snd,y_3)) fun y=>obnd (bzc y) fun y=>some y))
              fun y=>some y.2.fst)
          fun y=>some y.2))
     fun y=>some y.2)
def mzl:FSpec tb:=⟨[(0,.val 3),(1,.val 34)],[(0,.val 32)],bzF⟩
theorem Mzb:∀ x,evFn Tryz.prog tb mzk [hz6,hz7,kzo] Tryz.f60 mzl.ins mzl.outs x=mzl.f x:=fun x=>by kernel_rfl
theorem NzA:fnK Tryz.f60 mzl.ins mzl.outs=true:=by kernel_rfl
theorem Mzc:azg ([hz6,hz7,kzo]:List (CutSpec tb)) (azA Tryz.f60)=[(43,azf 43 Tryz.f60),(267,azf 267 Tryz.f60),(332,.loop (azd 332 Tryz.f60))]:=by kernel_rfl
theorem Fz8:aze Tryz.prog tb 60 mzl:=azJ mixed Tryz.func60 NzA kzj rfl Mzc (.cons rfl Dzn rfl (.cons rfl Dzo rfl (.cons rfl Dzr rfl .nil))) Mzb
def nzt (x:Arg):Option (Bool) :=
 brn x.Area (some true) (some (bif decide ((↑x.L.length:Int)=1) then false else true))
def gzC:FSpec tb:=⟨[(0,.val 48)],[(0,.val 4)],nzt⟩
theorem DzA:∀ x,evFn Tryz.prog tb [] [] Tryz.f150 gzC.ins gzC.outs x=gzC.f x:=fun x=>by kernel_rfl
theorem Gzh:fnK Tryz.f150 gzC.ins gzC.outs=true:=by kernel_rfl
theorem wzK:aze Tryz.prog tb 150 gzC:=azu mixed Tryz.func150 Gzh .nil rfl DzA
abbrev bz0:List (Nat×FSpec tb):=[(150,gzC)]
theorem czR:azz Tryz.prog tb bz0:=(.cons wzK .nil)
def azR (back:List Arg×Unit×Int×Int→Option ((Unit)⊕(Int))) (x:List Arg×Unit×Int×Int):Option ((Unit)⊕(Int)) :=
 brn (decide (x.2.2.snd < x.2.2.fst))
  (obnd (idx x.fst x.2.2.snd) fun y=>obnd (nzt y) fun y=>brn y (some (Sum.inr x.2.2.2)) (back (x.fst,(),x.2.2.fst,IntKind.i64.wrap (x.2.2.snd+1))))
  (some (Sum.inl PUnit.unit))
def bzL:List Arg×Unit×Int×Int→Option ((Unit)⊕(Int)):=iter azR big
def azQ:CutSpec tb:=⟨28,[(0,.val 34),(1,.fnp 150 0),(7,.val 3),(8,.val 3)],[((.exit 0),[]),(.ret,[(4,.val 3)])],[9,10,5,11,12,13,14,15,16,17,4,18,8],bzL⟩
theorem gz0:∀ back x,azy Tryz.prog tb bz0 [] (azd 28 Tryz.f216) azQ.ins azQ.outs back x=azR back x:=fun back x=>by kernel_rfl
theorem gz8:cutB Tryz.f216.ntmps azQ (azd 28 Tryz.f216)=true:=by kernel_rfl
theorem gz1:azg ([]:List (CutSpec tb)) (azd 28 Tryz.f216)=[]:=by kernel_rfl
theorem gzQ:azi Tryz.prog tb Tryz.f216.ntmps (.loop (azd 28 Tryz.f216)) azQ:=azw mixed gz8 czR rfl gz1 .nil azR gz0 rfl
def bzZ (x:List Arg×Unit):Option (Int) :=
 obnd (bzL (x.fst,(),(↑x.fst.length:Int),0)) fun y=>osum y (fun y=>some (-1)) fun y=>some y
def azK:FSpec tb:=⟨[(0,.val 34),(1,.fnp 150 0)],[(0,.val 3)],bzZ⟩
theorem izp:∀ x,evFn Tryz.prog tb bz0 [azQ] Tryz.f216 azK.ins azK.outs x=azK.f x:=fun x=>by kernel_rfl
theorem izD:fnK Tryz.f216 azK.ins azK.outs=true:=by kernel_rfl
theorem izq:azg ([azQ]:List (CutSpec tb)) (azA Tryz.f216)=[(28,.loop (azd 28 Tryz.f216))]:=by kernel_rfl
theorem gz2:aze Tryz.prog tb 216 azK:=azJ mixed Tryz.func216 izD czR rfl izq (.cons rfl gzQ rfl .nil) izp
def bzK (x:List Arg×Unit):Option (Bool) :=
 obnd (bzZ (x.fst,())) fun y=>some (decide (0≤y))
def azG:FSpec tb:=⟨[(0,.val 34),(1,.fnp 150 0)],[(0,.val 4)],bzK⟩
theorem gzZ:∀ x,evFn Tryz.prog tb [(216,azK)] [] Tryz.f137 azG.ins azG.outs x=azG.f x:=fun x=>by kernel_rfl
theorem gz6:fnK Tryz.f137 azG.ins azG.outs=true:=by kernel_rfl
theorem fz5:aze Tryz.prog tb 137 azG:=azu mixed Tryz.func137 gz6 (.cons gz2 .nil) rfl gzZ
def hze (x:List Arg):Option (Bool) :=
 obnd (bzK (x,())) fun y=>some (bif y then false else true)
def fzN:FSpec tb:=⟨[(0,.val 34)],[(0,.val 4)],hze⟩
theorem Izt:∀ x,evFn Tryz.prog tb [(137,azG)] [] Tryz.f62 fzN.ins fzN.outs x=fzN.f x:=fun x=>by kernel_rfl
theorem Kzb:fnK Tryz.f62 fzN.ins fzN.outs=true:=by kernel_rfl
theorem nzG:aze Tryz.prog tb 62 fzN:=azu mixed Tryz.func62 Kzb (.cons fz5 .nil) rfl Izt
def ozr (x:List Arg):Option (Val) :=
 obnd (idx x 0) fun y =>
  brn (!y.Area) (obnd (azq 15) fun y=>some y)
   (obnd (sub x 1 (↑x.length:Int)) fun z =>
    obnd (hze z) fun y =>
     brn (!y) (obnd (azq 15) fun y=>some y)
      (obnd (idx x 1) fun y =>
       obnd (idx y.L 0) fun y =>
        obnd (bzo y) fun y =>
         brn (!y.2.snd) (some y.2.fst)
          (brn (!decide (y.fst.S=0)) (obnd (azq 15) fun y=>some y)
           (brn (decide (y.fst.M < 1)) (obnd (azq 23) fun y=>some y)
            (obnd (idx x 0) fun y_1 =>
             brn (decide ((↑y_1.L.length:Int) < y.fst.M)) (obnd (azq 23) fun y=>some y)
              (obnd (idx x 0) fun y_2=>obnd (idx y_2.L (IntKind.i64.wrap (y.fst.M - 1))) fun y=>some y))))))
def hz5:FSpec tb:=⟨[(0,.val 34)],[(0,.val 32)],ozr⟩
theorem FzW:∀ x,evFn Tryz.prog tb [(62,fzN),(32,bzi),(85,czo)] [] Tryz.f148 hz5.ins hz5.outs x=hz5.f x:=fun x=>by kernel_rfl
theorem Izh:fnK Tryz.f148 hz5.ins hz5.outs=true:=by kernel_rfl
theorem yzL:aze Tryz.prog tb 148 hz5:=azu mixed Tryz.func148 Izh (.cons nzG (.cons az5 (.cons cz2 .nil))) rfl FzW
def bzU (x:Arg):Option (Val) :=
 brn x.Area (obnd (azq 15) fun y=>some y) (brn (!decide ((↑x.L.length:Int)=1)) (obnd (azq 15) fun y=>some y) (obnd (idx x.L 0) fun y=>some y))
def jzN:FSpec tb:=⟨[(0,.val 48)],[(0,.val 32)],bzU⟩
theorem Izu:∀ x,evFn Tryz.prog tb [(32,bzi)] [] Tryz.f149 jzN.ins jzN.outs x=jzN.f x:=fun x=>by kernel_rfl
theorem Kzc:fnK Tryz.f149 jzN.ins jzN.outs=true:=by kernel_rfl
theorem Bzc:aze Tryz.prog tb 149 jzN:=azu mixed Tryz.func149 Kzc (.cons az5 .nil) rfl Izu
def bzI (x:Int×List Arg):Option (Val) :=
 brn (decide (x.fst=24)) (obnd (ozr x.snd) fun y=>some y)
  (obnd (sub x.snd 0 1) fun z =>
   obnd (hze z) fun y =>
    brn (!y) (obnd (azq 15) fun y=>some y)
     (obnd (idx x.snd 0) fun y =>
      obnd (idx y.L 0) fun y =>
       brn (decide (x.fst=23)) (brn (decide (y.Kind=4)) (obnd (idx x.snd 1) fun y=>obnd (bzU y) fun y=>some y) (some y))
        (brn (decide (x.fst=10))
         (obnd (czO y) fun y =>
          brn (!y.2.snd) (some y.2.fst)
           (brn y.fst (obnd (idx x.snd 1) fun y=>obnd (bzU y) fun y=>some y)
            (brn (decide ((↑x.snd.length:Int)=2)) (obnd (czw false) fun y=>some y) (obnd (idx x.snd 2) fun y=>obnd (bzU y) fun y=>some y))))
         (obnd (bzo y) fun y =>
          brn (!y.2.snd) (some y.2.fst)
           (brn (!decide (y.fst.S=0)) (obnd (azq 15) fun y=>some y)
            (brn (decide (y.fst.M < 1)) (obnd (azq 15) fun y=>some y)
             (brn (decide ((↑x.snd.length:Int)≤y.fst.M)) (obnd (azq 15) fun y=>some y)
              (obnd (idx x.snd y.fst.M) fun y=>obnd (bzU y) fun y=>some y))))))))
def jzK:FSpec tb:=⟨[(0,.val 3),(1,.val 34)],[(0,.val 32)],bzI⟩
theorem Izf:∀ x,evFn Tryz.prog tb [(148,hz5),(62,fzN),(32,bzi),(149,jzN),(65,gz9),(63,ezh),(85,czo)] [] Tryz.f61 jzK.ins jzK.outs x=jzK.f x:=fun x=>by kernel_rfl
theorem Jz6:fnK Tryz.f61 jzK.ins jzK.outs=true:=by kernel_rfl
theorem Az2:aze Tryz.prog tb 61 jzK:=azu mixed Tryz.func61 Jz6 (.cons yzL (.cons nzG (.cons az5 (.cons Bzc (.cons ozX (.cons jzl (.cons cz2 .nil))))))) rfl Izf
def hzw (back:Int×Dec→Option (((Unit)×Dec)⊕((Int×Bool)×Dec))) (x:Int×Dec):Option (((Unit)×Dec)⊕((Int×Bool)×Dec)) :=
 brn (decide (x.snd.S < x.fst))
  (brn (!decide (IntKind.i64.wrap ((IntKind.i64.wrap (x.snd.M*10)).tdiv 10)=x.snd.M)) (some (Sum.inr ((0,false),x.snd)))
   (back (x.fst,{ M:=IntKind.i64.wrap (x.snd.M*10),S:=IntKind.i64.wrap (x.snd.S+1) })))
  (some (Sum.inl ((),x.snd)))
def pzg:Int×Dec→Option (((Unit)×Dec)⊕((Int×Bool)×Dec)):=iter hzw big
def hzu:CutSpec tb:=⟨20,[(1,.val 3),(2,.ref 30)],[((.exit 0),[]),(.ret,[(4,.val 2),(5,.val 4)])],[6,7,8,9,14,15,16,17,18,19,20,4,5,21,22,23,24,10,11,12,13],pzg⟩
theorem Az9:∀ back x,azy Tryz.prog tb [] [] (azd 20 Tryz.f219) hzu.ins hzu.outs back x=hzw back x:=fun back x=>by kernel_rfl
theorem Dzz:cutB Tryz.f219.ntmps hzu (azd 20 Tryz.f219)=true:=by kernel_rfl
theorem Bza:azg ([]:List (CutSpec tb)) (azd 20 Tryz.f219)=[]:=by kernel_rfl
theorem yzS:azi Tryz.prog tb Tryz.f219.ntmps (.loop (azd 20 Tryz.f219)) hzu:=azw mixed Dzz .nil rfl Bza .nil hzw Az9 rfl
def nzj (x:Dec×Int):Option (Int×Bool) :=
 obnd (pzg (x.snd,x.fst)) fun y=>osum y (fun y=>some (y.2.M,true)) fun y=>some y.1
def jzM:FSpec tb:=⟨[(0,.val 30),(1,.val 3)],[(0,.val 2),(1,.val 4)],nzj⟩
theorem Izr:∀ x,evFn Tryz.prog tb [] [hzu] Tryz.f219 jzM.ins jzM.outs x=jzM.f x:=fun x=>by kernel_rfl
theorem Kza:fnK Tryz.f219 jzM.ins jzM.outs=true:=by kernel_rfl
theorem Izs:azg ([hzu]:List (CutSpec tb)) (azA Tryz.f219)=[(20,.loop (azd 20 Tryz.f219))]:=by kernel_rfl
theorem Bzb:aze Tryz.prog tb 219 jzM:=azJ mixed Tryz.func219 Kza .nil rfl Izs (.cons rfl yzS rfl .nil) Izr
def szq (x:Dec×Dec):Option (Val) :=
 brn (decide (x.snd.M=0)) (obnd (azq 7) fun y=>some y)
  (obnd (nzj (x.fst,bif decide (x.fst.S < x.snd.S) then x.snd.S else x.fst.S)) fun y =>
   obnd (nzj (x.snd,bif decide (x.fst.S < x.snd.S) then x.snd.S else x.fst.S)) fun y_1 =>
    brn (!y.snd) (obnd (azq 36) fun y=>some y)
     (brn (!y_1.snd) (obnd (azq 36) fun y=>some y)
      (brn (decide (y_1.fst=0)) none
       (brn (!decide (Int.tmod y.fst y_1.fst=0))
        (brn (!decide (decide (Int.tmod y.fst y_1.fst < 0)=decide (y_1.fst < 0)))
         (obnd (kzQ { M:=IntKind.i64.wrap (Int.tmod y.fst y_1.fst+y_1.fst),S:=bif decide (x.fst.S < x.snd.S) then x.snd.S else x.fst.S }) fun y =>
          obnd (bzc (y,0)) fun y=>some y)
         (obnd (kzQ { M:=Int.tmod y.fst y_1.fst,S:=bif decide (x.fst.S < x.snd.S) then x.snd.S else x.fst.S }) fun y=>obnd (bzc (y,0)) fun y=>some y))
        (obnd (kzQ { M:=Int.tmod y.fst y_1.fst,S:=bif decide (x.fst.S < x.snd.S) then x.snd.S else x.fst.S }) fun y=>obnd (bzc (y,0)) fun y=>some y)))))
def mzo:FSpec tb:=⟨[(0,.val 30),(1,.val 30)],[(0,.val 32)],szq⟩
theorem Mzg:∀ x,evFn Tryz.prog tb [(32,bzi),(219,jzM),(31,lz9),(86,ez6)] [] Tryz.f152 mzo.ins mzo.outs x=mzo.f x:=fun x=>by kernel_rfl
theorem NzD:fnK Tryz.f152 mzo.ins mzo.outs=true:=by kernel_rfl
theorem Gzg:aze Tryz.prog tb 152 mzo:=azu mixed Tryz.func152 NzD (.cons az5 (.cons Bzb (.cons FzB (.cons gzA .nil)))) rfl Mzg
abbrev qzz:List (Nat×FSpec tb):=[(85,czo),(33,ez3),(34,dzA),(35,kzZ),(86,ez6),(64,dzB),(151,kzV),(152,mzo),(32,bzi),(153,kzX)]
theorem rzN:azz Tryz.prog tb qzz:=(.cons cz2 (.cons gzs (.cons jz0 (.cons qzs (.cons gzA (.cons jz2 (.cons CzT (.cons Gzg (.cons az5 (.cons Cz0 .nil))))))))))
def ez8 (back:Val×List (Dec)×List Val×Int×Int→Option (((List (Dec))×Val)⊕((Unit)×Val))) (x:Val×List (Dec)×List Val×Int×Int):Option (((List (Dec))×Val)⊕((Unit)×Val)) :=
 brn (decide (x.2.2.2.snd < x.2.2.2.fst))
  (obnd (idx x.2.2.fst x.2.2.2.snd) fun y =>
   obnd (bzo y) fun y =>
    brn (!y.2.snd) (some (Sum.inr ((),y.2.fst))) (obnd (app 16 x.2.fst [y.fst]) fun zs=>back (x.fst,zs,x.2.2.fst,x.2.2.2.fst,IntKind.i64.wrap (x.2.2.2.snd+1))))
  (some (Sum.inl (x.2.fst,x.fst)))
def nzF:Val×List (Dec)×List Val×Int×Int→Option (((List (Dec))×Val)⊕((Unit)×Val)):=iter ez8 big
def ez7:CutSpec tb:=⟨36,[(4,.ref 32),(5,.own 30),(12,.val 46),(13,.val 3),(14,.val 3)],[((.exit 0),[(5,.own 30)]),(.ret,[])],[15,16,17,7,19,20,18,21,22,23,8,9,10,24,25,26,27,28,29,30,5,31,14],nzF⟩
theorem wzH:∀ back x,azy Tryz.prog tb qzz [] (azd 36 Tryz.f66) ez7.ins ez7.outs back x=ez8 back x:=fun back x=>by kernel_rfl
theorem yzR:cutB Tryz.f66.ntmps ez7 (azd 36 Tryz.f66)=true:=by kernel_rfl
theorem wzI:azg ([]:List (CutSpec tb)) (azd 36 Tryz.f66)=[]:=by kernel_rfl
theorem vzn:azi Tryz.prog tb Tryz.f66.ntmps (.loop (azd 36 Tryz.f66)) ez7:=azw mixed yzR rzN rfl wzI .nil ez8 wzH rfl
def bzN (x:Int×List Val):Option (Val) :=
 obnd (nzF ({ Kind:=0,N:={ M:=0,S:=0 },S:=[],B:=false,E:=0 },[],x.snd,(↑x.snd.length:Int),0)) fun y =>
  osum y
   (fun y =>
    obnd (idx y.1 0) fun y_1 =>
     obnd (czu 0) fun y_2 =>
      obnd (ezd (y_1,y_2)) fun y_3 =>
       brn (decide (x.fst=5))
        (brn (decide (y_3 < 0)) (obnd (czu 0) fun y_4=>obnd (idx y.1 0) fun y=>obnd (kzY (y_4,y)) fun y=>obnd (bzc y) fun y=>some y)
         (obnd (idx y.1 0) fun y=>obnd (bzc (y,0)) fun y=>some y))
        (brn (decide (x.fst=6)) (obnd (bzP y_3) fun y=>some y)
         (brn (decide (x.fst=7)) (obnd (idx y.1 0) fun y=>obnd (kzU y) fun y=>obnd (bzc y) fun y=>some y)
          (brn (decide (x.fst=8)) (obnd (idx y.1 0) fun y_4=>obnd (idx y.1 1) fun y=>obnd (szq (y_4,y)) fun y=>some y)
           (obnd (idx y.1 1) fun y_4 =>
            brn (!decide (y_4.S=0)) (obnd (azq 36) fun y=>some y)
             (obnd (idx y.1 0) fun y_5=>obnd (idx y.1 1) fun y=>obnd (jzg (y_5,y.M)) fun y=>obnd (bzc y) fun y=>some y))))))
   fun y=>some y.2
def gzB:FSpec tb:=⟨[(0,.val 3),(1,.val 46)],[(0,.val 32)],bzN⟩
theorem Dzx:∀ x,evFn Tryz.prog tb qzz [ez7] Tryz.f66 gzB.ins gzB.outs x=gzB.f x:=fun x=>by kernel_rfl
theorem Gzf:fnK Tryz.f66 gzB.ins gzB.outs=true:=by kernel_rfl
theorem Dzy:azg ([ez7]:List (CutSpec tb)) (azA Tryz.f66)=[(36,.loop (azd 36 Tryz.f66))]:=by kernel_rfl
theorem wzJ:aze Tryz.prog tb 66 gzB:=azJ mixed Tryz.func66 Gzf rzN rfl Dzy (.cons rfl vzn rfl .nil) Dzx
abbrev tz0:List (Nat×FSpec tb):=[(220,bzn),(144,pzT)]
theorem uz1:azz Tryz.prog tb tz0:=(.cons izG (.consK nzC .nil))
def izU (back:List (UInt8)×Bool×Unit×((List UInt8×Nat))→Option ((List (UInt8))×(Unit×((List UInt8×Nat))))) (x:List (UInt8)×Bool×Unit×((List UInt8×Nat))):Option ((List (UInt8))×(Unit×((List UInt8×Nat)))) :=
 brn (decide (x.2.2.snd.snd < x.2.2.snd.fst.length))
  (brn x.2.fst
   (brn (decide (97≤(↑(rune x.2.2.snd.fst x.2.2.snd.snd).fst:Int)))
    (brn (decide ((↑(rune x.2.2.snd.fst x.2.2.snd.snd).fst:Int)≤122))
     (obnd (azx (x.fst,(),IntKind.i32.wrap ((↑(rune x.2.2.snd.fst x.2.2.snd.snd).fst:Int)+-32))) fun y =>
      back (y.1.fst,x.2.fst,(),x.2.2.snd.fst,x.2.2.snd.snd+(rune x.2.2.snd.fst x.2.2.snd.snd).snd))
     (brn (!x.2.fst)
      (brn (decide (65≤(↑(rune x.2.2.snd.fst x.2.2.snd.snd).fst:Int)))
       (brn (decide ((↑(rune x.2.2.snd.fst x.2.2.snd.snd).fst:Int)≤90))
        (obnd (azx (x.fst,(),IntKind.i32.wrap ((↑(rune x.2.2.snd.fst x.2.2.snd.snd).fst:Int)+32))) fun y =>
         back (y.1.fst,x.2.fst,(),x.2.2.snd.fst,x.2.2.snd.snd+(rune x.2.2.snd.fst x.2.2.snd.snd).snd))
        (obnd (azx (x.fst,(),(↑(rune x.2.2.snd.fst x.2.2.snd.snd).fst:Int))) fun y =>
         back (y.1.fst,x.2.fst,(),x.2.2.snd.fst,x.2.2.snd.snd+(rune x.2.2.snd.fst x.2.2.snd.snd).snd)))
       (obnd (azx (x.fst,(),(↑(rune x.2.2.snd.fst x.2.2.snd.snd).fst:Int))) fun y =>
        back (y.1.fst,x.2.fst,(),x.2.2.snd.fst,x.2.2.snd.snd+(rune x.2.2.snd.fst x.2.2.snd.snd).snd)))
      (obnd (azx (x.fst,(),(↑(rune x.2.2.snd.fst x.2.2.snd.snd).fst:Int))) fun y =>
       back (y.1.fst,x.2.fst,(),x.2.2.snd.fst,x.2.2.snd.snd+(rune x.2.2.snd.fst x.2.2.snd.snd).snd))))
    (brn (!x.2.fst)
     (brn (decide (65≤(↑(rune x.2.2.snd.fst x.2.2.snd.snd).fst:Int)))
      (brn (decide ((↑(rune x.2.2.snd.fst x.2.2.snd.snd).fst:Int)≤90))
       (obnd (azx (x.fst,(),IntKind.i32.wrap ((↑(rune x.2.2.snd.fst x.2.2.snd.snd).fst:Int)+32))) fun y =>
        back (y.1.fst,x.2.fst,(),x.2.2.snd.fst,x.2.2.snd.snd+(rune x.2.2.snd.fst x.2.2.snd.snd).snd))
       (obnd (azx (x.fst,(),(↑(rune x.2.2.snd.fst x.2.2.snd.snd).fst:Int))) fun y =>
        back (y.1.fst,x.2.fst,(),x.2.2.snd.fst,x.2.2.snd.snd+(rune x.2.2.snd.fst x.2.2.snd.snd).snd)))
      (obnd (azx (x.fst,(),(↑(rune x.2.2.snd.fst x.2.2.snd.snd).fst:Int))) fun y =>
       back (y.1.fst,x.2.fst,(),x.2.2.snd.fst,x.2.2.snd.snd+(rune x.2.2.snd.fst x.2.2.snd.snd).snd)))
     (obnd (azx (x.fst,(),(↑(rune x.2.2.snd.fst x.2.2.snd.snd).fst:Int))) fun y =>
      back (y.1.fst,x.2.fst,(),x.2.2.snd.fst,x.2.2.snd.snd+(rune x.2.2.snd.fst x.2.2.snd.snd).snd))))
   (brn (!x.2.fst)
    (brn (decide (65≤(↑(rune x.2.2.snd.fst x.2.2.snd.snd).fst:Int)))
     (brn (decide ((↑(rune x.2.2.snd.fst x.2.2.snd.snd).fst:Int)≤90))
      (obnd (azx (x.fst,(),IntKind.i32.wrap ((↑(rune x.2.2.snd.fst x.2.2.snd.snd).fst:Int)+32))) fun y =>
       back (y.1.fst,x.2.fst,(),x.2.2.snd.fst,x.2.2.snd.snd+(rune x.2.2.snd.fst x.2.2.snd.snd).snd))
      (obnd (azx (x.fst,(),(↑(rune x.2.2.snd.fst x.2.2.snd.snd).fst:Int))) fun y =>
       back (y.1.fst,x.2.fst,(),x.2.2.snd.fst,x.2.2.snd.snd+(rune x.2.2.snd.fst x.2.2.snd.snd).snd)))
     (obnd (azx (x.fst,(),(↑(rune x.2.2.snd.fst x.2.2.snd.snd).fst:Int))) fun y =>
      back (y.1.fst,x.2.fst,(),x.2.2.snd.fst,x.2.2.snd.snd+(rune x.2.2.snd.fst x.2.2.snd.snd).snd)))
    (obnd (azx (x.fst,(),(↑(rune x.2.2.snd.fst x.2.2.snd.snd).fst:Int))) fun y =>
     back (y.1.fst,x.2.fst,(),x.2.2.snd.fst,x.2.2.snd.snd+(rune x.2.2.snd.fst x.2.2.snd.snd).snd))))
  (some (x.fst,(),x.2.2.snd))
def qzx:List (UInt8)×Bool×Unit×((List UInt8×Nat))→Option ((List (UInt8))×(Unit×((List UInt8×Nat)))):=iter izU big
def izT:CutSpec tb:=⟨36,[(8589934597,.own 5),(1,.val 4),(5,.box 229638146),(9,.iter)],[((.exit 0),[(8589934597,.own 5)])],[10,11,12,7,14,15,16,17,18,19,20,21,22,13,23,24,26,27,28,29,30,31,32,33,34,35,25,36,37,38,39],qzx⟩
theorem Dzk:∀ back x,azy Tryz.prog tb tz0 [] (azd 36 Tryz.f154) izT.ins izT.outs back x=izU back x:=fun back x=>by kernel_rfl
theorem FzT:cutB Tryz.f154.ntmps izT (azd 36 Tryz.f154)=true:=by kernel_rfl
theorem Dzl:azg ([]:List (CutSpec tb)) (azd 36 Tryz.f154)=[]:=by kernel_rfl
theorem Az1:azi Tryz.prog tb Tryz.f154.ntmps (.loop (azd 36 Tryz.f154)) izT:=azw mixed FzT uz1 rfl Dzl .nil izU Dzk rfl
def ozl (x:List UInt8×Bool):Option (List UInt8) :=
 obnd (qzx ([],x.snd,(),x.fst,0)) fun y=>obnd (lzQ (y.1,())) fun y=>some y.1
def kz7:FSpec tb:=⟨[(0,.val 9),(1,.val 4)],[(0,.val 9)],ozl⟩
theorem Jz4:∀ x,evFn Tryz.prog tb tz0 [izT] Tryz.f154 kz7.ins kz7.outs x=kz7.f x:=fun x=>by kernel_rfl
theorem Mza:fnK Tryz.f154 kz7.ins kz7.outs=true:=by kernel_rfl
theorem Jz5:azg ([izT]:List (CutSpec tb)) (azA Tryz.f154)=[(36,.loop (azd 36 Tryz.f154))]:=by kernel_rfl
theorem Dzm:aze Tryz.prog tb 154 kz7:=azJ mixed Tryz.func154 Mza uz1 rfl Jz5 (.cons rfl Az1 rfl .nil) Jz4
def lzS (x:Val×Int):Option (Int×Val×Bool) :=
 obnd (bzo x.fst) fun y =>
  brn (!y.2.snd) (some (0,y.2.fst,false))
   (brn (!decide (y.fst.S=0)) (obnd (azq 15) fun y=>some (0,y,false))
    (brn (decide (y.fst.M < x.snd)) (obnd (azq 15) fun y=>some (0,y,false))
     (some (y.fst.M,{ Kind:=0,N:={ M:=0,S:=0 },S:=[],B:=false,E:=0 },true))))
def jzJ:FSpec tb:=⟨[(0,.val 32),(1,.val 2)],[(0,.val 2),(1,.val 32),(2,.val 4)],lzS⟩
theorem Ize:∀ x,evFn Tryz.prog tb [(85,czo),(32,bzi)] [] Tryz.f155 jzJ.ins jzJ.outs x=jzJ.f x:=fun x=>by kernel_rfl
theorem Jz3:fnK Tryz.f155 jzJ.ins jzJ.outs=true:=by kernel_rfl
theorem Az0:aze Tryz.prog tb 155 jzJ:=azu mixed Tryz.func155 Jz3 (.cons cz2 (.cons az5 .nil)) rfl Ize
abbrev wzF:List (Nat×FSpec tb):=[(220,bzn),(144,pzT)]
theorem wzG:azz Tryz.prog tb wzF:=(.cons izG (.consK nzC .nil))
def kzr (back:List (UInt8)×Int×Int×Unit×Int×((List UInt8×Nat))→Option ((List (UInt8))×(Unit×((List UInt8×Nat))))) (x:List (UInt8)×Int×Int×Unit×Int×((List UInt8×Nat))):Option ((List (UInt8))×(Unit×((List UInt8×Nat)))) :=
 brn (decide (x.2.2.2.2.snd.snd < x.2.2.2.2.snd.fst.length))
  (brn (decide (x.2.fst≤x.2.2.2.2.fst))
   (brn (decide (IntKind.i64.wrap (x.2.2.2.2.fst - x.2.fst) < x.2.2.fst))
    (obnd (azx (x.fst,(),(↑(rune x.2.2.2.2.snd.fst x.2.2.2.2.snd.snd).fst:Int))) fun y =>
     back (y.1.fst,x.2.fst,x.2.2.fst,(),IntKind.i64.wrap (x.2.2.2.2.fst+1),x.2.2.2.2.snd.fst,x.2.2.2.2.snd.snd+(rune x.2.2.2.2.snd.fst x.2.2.2.2.snd.snd).snd))
    (back (x.fst,x.2.fst,x.2.2.fst,(),IntKind.i64.wrap (x.2.2.2.2.fst+1),x.2.2.2.2.snd.fst,x.2.2.2.2.snd.snd+(rune x.2.2.2.2.snd.fst x.2.2.2.2.snd.snd).snd)))
   (back (x.fst,x.2.fst,x.2.2.fst,(),IntKind.i64.wrap (x.2.2.2.2.fst+1),x.2.2.2.2.snd.fst,x.2.2.2.2.snd.snd+(rune x.2.2.2.2.snd.fst x.2.2.2.2.snd.snd).snd)))
  (some (x.fst,(),x.2.2.2.2.snd))
def rzM:List (UInt8)×Int×Int×Unit×Int×((List UInt8×Nat))→Option ((List (UInt8))×(Unit×((List UInt8×Nat)))):=iter kzr big
def kzq:CutSpec tb:=⟨44,[(8589934599,.own 5),(1,.val 2),(2,.val 2),(7,.box 229638146),(8,.val 2),(12,.iter)],[((.exit 0),[(8589934599,.own 5)])],[13,14,15,10,16,17,18,19,20,21,22,23,24,25,26,27,28,29,8],rzM⟩
theorem Gzb:∀ back x,azy Tryz.prog tb wzF [] (azd 44 Tryz.f156) kzq.ins kzq.outs back x=kzr back x:=fun back x=>by kernel_rfl
theorem Izq:cutB Tryz.f156.ntmps kzq (azd 44 Tryz.f156)=true:=by kernel_rfl
theorem Gzc:azg ([]:List (CutSpec tb)) (azd 44 Tryz.f156)=[]:=by kernel_rfl
theorem Dzs:azi Tryz.prog tb Tryz.f156.ntmps (.loop (azd 44 Tryz.f156)) kzq:=azw mixed Izq wzG rfl Gzc .nil kzr Gzb rfl
def mzm (x:List UInt8×Int×Int):Option (List UInt8) :=
 obnd (rzM ([],x.2.fst,x.2.snd,(),0,x.fst,0)) fun y=>obnd (lzQ (y.1,())) fun y=>some y.1
def mzn:FSpec tb:=⟨[(0,.val 9),(1,.val 2),(2,.val 2)],[(0,.val 9)],mzm⟩
theorem Mzd:∀ x,evFn Tryz.prog tb wzF [kzq] Tryz.f156 mzn.ins mzn.outs x=mzn.f x:=fun x=>by kernel_rfl
theorem NzC:fnK Tryz.f156 mzn.ins mzn.outs=true:=by kernel_rfl
theorem Mze:azg ([kzq]:List (CutSpec tb)) (azA Tryz.f156)=[(44,.loop (azd 44 Tryz.f156))]:=by kernel_rfl
theorem Gzd:aze Tryz.prog tb 156 mzn:=azJ mixed Tryz.func156 NzC wzG rfl Mze (.cons rfl Dzs rfl .nil) Mzd
abbrev pz3:List (Nat×FSpec tb):=[(142,jzA),(101,jzx),(64,dzB),(154,kz7),(83,jzk),(63,ezh),(155,jzJ),(156,mzn),(32,bzi),(157,ozQ),(1099511627844,mutS)]
theorem pzk:azz Tryz.prog tb pz3:=(.cons szM (.cons szJ (.cons jz2 (.cons Dzm (.cons pzh (.cons jzl (.cons Az0 (.cons Gzd (.cons az5 (.cons ozR (.consK wzR .nil)))))))))))
def cz7 (x:Int×List Val×Val×List UInt8×Int):Option (((Unit)×Val)⊕((Unit)×Val)) :=
 brn (decide (x.2.2.2.snd=14)) (obnd (lzs x.2.2.2.fst) fun y=>obnd (bzP y.fst) fun y=>some (Sum.inr ((),y)))
  (brn (decide (x.2.2.2.snd=19))
   (brn (decide (x.2.2.2.snd=19)) (obnd (ozl (x.2.2.2.fst,decide (x.fst=19))) fun y=>obnd (dzt y) fun y=>some (Sum.inr ((),y)))
    (brn (decide (x.2.2.2.snd=26))
     (obnd (idx x.2.fst 1) fun y =>
      obnd (ezB y) fun y=>brn (!y.2.snd) (some (Sum.inr ((),y.2.fst))) (obnd (czw (decide (x.2.2.2.fst=y.fst))) fun y=>some (Sum.inr ((),y))))
     (some (Sum.inl ((),x.2.2.fst)))))
   (brn (decide (x.2.2.2.snd=20)) (obnd (ozl (x.2.2.2.fst,decide (x.fst=19))) fun y=>obnd (dzt y) fun y=>some (Sum.inr ((),y)))
    (brn (decide (x.2.2.2.snd=26))
     (obnd (idx x.2.fst 1) fun y =>
      obnd (ezB y) fun y=>brn (!y.2.snd) (some (Sum.inr ((),y.2.fst))) (obnd (czw (decide (x.2.2.2.fst=y.fst))) fun y=>some (Sum.inr ((),y))))
     (some (Sum.inl ((),x.2.2.fst))))))
def ez9:CutSpec tb:=⟨51,[(0,.val 3),(1,.val 46),(4,.ref 32),(5,.val 9),(33,.val 3)],[(.normal,[]),(.ret,[])],[35,34,37,38,36,39,40,8,9,41,42,44,43,45,46,47,48,49,50,52,51,54,55,56,57,53,58,59,60,11,10,12,61,62,63,64,65,66,67],cz7⟩
theorem Bzi:∀ x,bzD Tryz.prog tb pz3 [] (azf 51 Tryz.f67) ez9.ins ez9.outs x=ez9.J x:=fun x=>by kernel_rfl
theorem DzD:cutB Tryz.f67.ntmps ez9 (azf 51 Tryz.f67)=true:=by kernel_rfl
theorem Bzj:azg ([]:List (CutSpec tb)) (azf 51 Tryz.f67)=[]:=by kernel_rfl
theorem yzV:azi Tryz.prog tb Tryz.f67.ntmps (azf 51 Tryz.f67) ez9:=bzl mixed DzD pzk rfl Bzj .nil Bzi
def hzC (back:Int×Val×List (Int)×List Val×Int×Int→Option (((List (Int))×Val)⊕((Unit)×Val))) (x:Int×Val×List (Int)×List Val×Int×Int):Option (((List (Int))×Val)⊕((Unit)×Val)) :=
 brn (decide (x.2.2.2.2.snd < x.2.2.2.2.fst))
  (obnd (idx x.2.2.2.fst x.2.2.2.2.snd) fun y =>
   brn (decide (x.fst=17))
    (brn (decide (x.2.2.2.2.snd=0))
     (obnd (lzS (y,1)) fun y =>
      brn (!y.2.snd) (some (Sum.inr ((),y.2.fst)))
       (obnd (inb x.2.2.fst.length x.2.2.2.2.snd) fun k =>
        obnd (nth x.2.2.fst k) fun y_1=>back (x.fst,x.2.fst,x.2.2.fst.set k y.fst,x.2.2.2.fst,x.2.2.2.2.fst,IntKind.i64.wrap (x.2.2.2.2.snd+1))))
     (obnd (lzS (y,0)) fun y =>
      brn (!y.2.snd) (some (Sum.inr ((),y.2.fst)))
       (obnd (inb x.2.2.fst.length x.2.2.2.2.snd) fun k =>
        obnd (nth x.2.2.fst k) fun y_1=>back (x.fst,x.2.fst,x.2.2.fst.set k y.fst,x.2.2.2.fst,x.2.2.2.2.fst,IntKind.i64.wrap (x.2.2.2.2.snd+1)))))
    (obnd (lzS (y,0)) fun y =>
     brn (!y.2.snd) (some (Sum.inr ((),y.2.fst)))
      (obnd (inb x.2.2.fst.length x.2.2.2.2.snd) fun k =>
       obnd (nth x.2.2.fst k) fun y_1=>back (x.fst,x.2.fst,x.2.2.fst.set k y.fst,x.2.2.2.fst,x.2.2.2.2.fst,IntKind.i64.wrap (x.2.2.2.2.snd+1)))))
  (some (Sum.inl (x.2.2.fst,x.2.fst)))
def pzl:Int×Val×List (Int)×List Val×Int×Int→Option (((List (Int))×Val)⊕((Unit)×Val)):=iter hzC big
def hzB:CutSpec tb:=⟨156,[(0,.val 3),(4,.ref 32),(13,.wr 2),(70,.val 46),(71,.val 3),(72,.val 3)],[((.exit 1),[(13,.own 2)]),(.ret,[])],[73,74,75,76,15,14,16,77,78,79,80,81,82,84,85,86,83,87,88,89,18,17,19,90,91,92,93,94,95,96,97,72],pzl⟩
theorem Bzk:∀ back x,azy Tryz.prog tb pz3 [] (azd 156 Tryz.f67) hzB.ins hzB.outs back x=hzC back x:=fun back x=>by kernel_rfl
theorem DzE:cutB Tryz.f67.ntmps hzB (azd 156 Tryz.f67)=true:=by kernel_rfl
theorem Bzl:azg ([]:List (CutSpec tb)) (azd 156 Tryz.f67)=[]:=by kernel_rfl
theorem yzW:azi Tryz.prog tb Tryz.f67.ntmps (.loop (azd 156 Tryz.f67)) hzB:=azw mixed DzE pzk rfl Bzl .nil hzC Bzk rfl
def czn (x:Int×List Val):Option (Val) :=
 obnd (idx x.snd 0) fun y =>
  obnd (ezB y) fun y =>
   brn (!y.2.snd) (some y.2.fst)
    (obnd (cz7 (x.fst,x.snd,{ Kind:=0,N:={ M:=0,S:=0 },S:=[],B:=false,E:=0 },y.fst,x.fst)) fun y_1 =>
     osum y_1
      (fun y_2 =>
       obnd (sub x.snd 1 (↑x.snd.length:Int)) fun z =>
        obnd (pzl (x.fst,y_2.2,[1,1],z,(↑z.length:Int),0)) fun y_3 =>
         osum y_3
          (fun y_4 =>
           brn (decide (x.fst=15)) (obnd (idx y_4.1 0) fun y_5=>obnd (mzm (y.fst,0,y_5)) fun y=>obnd (dzt y) fun y=>some y)
            (brn (decide (x.fst=16))
             (obnd (bif (List.length y.fst).ble 70368744177664 then some (gzY y.fst (List.length y.fst) 0) else none) fun rs =>
              obnd (idx y_4.1 0) fun y_5 =>
               obnd (idx y_4.1 0) fun y_6 =>
                obnd (mzm (y.fst,bif decide (IntKind.i64.wrap ((↑rs.length:Int) - y_5) < 0) then 0 else IntKind.i64.wrap ((↑rs.length:Int) - y_5),y_6))
                 fun y=>obnd (dzt y) fun y=>some y)
             (brn (decide (x.fst=17))
              (obnd (idx y_4.1 0) fun y_5 =>
               obnd (idx y_4.1 1) fun y_6=>obnd (mzm (y.fst,IntKind.i64.wrap (y_5 - 1),y_6)) fun y=>obnd (dzt y) fun y=>some y)
              (obnd (lzs y.fst) fun y_5 =>
               brn (decide (y_5.fst=0)) (obnd (dzt []) fun y=>some y)
                (obnd (idx y_4.1 0) fun y_6 =>
                 brn (decide (y_5.fst=0)) none
                  (brn (decide (IntKind.i64.wrap (Int.tdiv 1000 y_5.fst) < y_6)) (obnd (azq 15) fun y=>some y)
                   (obnd (idx y_4.1 0) fun y_7=>obnd (czN (y.fst,y_7)) fun y=>obnd (dzt y) fun y=>some y)))))))
          fun y=>some y.2)
      fun y=>some y.2)
def jzP:FSpec tb:=⟨[(0,.val 3),(1,.val 46)],[(0,.val 32)],czn⟩
theorem Izx:∀ x,evFn Tryz.prog tb pz3 [ez9,hzB] Tryz.f67 jzP.ins jzP.outs x=jzP.f x:=fun x=>by kernel_rfl
theorem Kzf:fnK Tryz.f67 jzP.ins jzP.outs=true:=by kernel_rfl
theorem Izy:azg ([ez9,hzB]:List (CutSpec tb)) (azA Tryz.f67)=[(51,azf 51 Tryz.f67),(156,.loop (azd 156 Tryz.f67))]:=by kernel_rfl
theorem Bzm:aze Tryz.prog tb 67 jzP:=azJ mixed Tryz.func67 Kzf pzk rfl Izy (.cons rfl yzV rfl (.cons rfl yzW rfl .nil)) Izx
abbrev mzQ:List (Nat×FSpec tb):=[(59,kz6),(32,bzi),(60,mzl),(61,jzK),(62,fzN),(63,ezh),(64,dzB),(65,gz9),(66,gzB),(67,jzP)]
theorem lzB:azz Tryz.prog tb mzQ:=(.cons qzw (.cons az5 (.cons Fz8 (.cons Az2 (.cons nzG (.cons jzl (.cons jz2 (.cons ozX (.cons wzJ (.cons Bzm .nil))))))))))
def bz5 (x:Int×List Arg×Val×Int×Bool):Option (((Unit)×Val)⊕((Unit)×Val)) :=
 brn x.2.2.2.snd (obnd (bzF (x.fst,x.2.fst)) fun y=>some (Sum.inr ((),y)))
  (brn (decide (x.2.2.2.fst=10))
   (brn (decide (x.2.2.2.fst=10)) (obnd (bzI (x.fst,x.2.fst)) fun y=>some (Sum.inr ((),y)))
    (brn (decide (x.2.2.2.fst=28)) (obnd (azq 42) fun y=>some (Sum.inr ((),y))) (some (Sum.inl ((),x.2.2.fst)))))
   (brn (decide (x.2.2.2.fst=23))
    (brn (decide (x.2.2.2.fst=23)) (obnd (bzI (x.fst,x.2.fst)) fun y=>some (Sum.inr ((),y)))
     (brn (decide (x.2.2.2.fst=28)) (obnd (azq 42) fun y=>some (Sum.inr ((),y))) (some (Sum.inl ((),x.2.2.fst)))))
    (brn (decide (x.2.2.2.fst=24))
     (brn (decide (x.2.2.2.fst=24)) (obnd (bzI (x.fst,x.2.fst)) fun y=>some (Sum.inr ((),y)))
      (brn (decide (x.2.2.2.fst=28)) (obnd (azq 42) fun y=>some (Sum.inr ((),y))) (some (Sum.inl ((),x.2.2.fst)))))
     (brn (decide (x.2.2.2.fst=25)) (obnd (bzI (x.fst,x.2.fst)) fun y=>some (Sum.inr ((),y)))
      (brn (decide (x.2.2.2.fst=28)) (obnd (azq 42) fun y=>some (Sum.inr ((),y))) (some (Sum.inl ((),x.2.2.fst))))))))
def gzy:CutSpec tb:=⟨114,[(0,.val 3),(1,.val 34),(4,.ref 32),(42,.val 3),(43,.val 4)],[(.normal,[]),(.ret,[])],[52,53,54,56,55,57,58,59,60,61,62,64,63,65],bz5⟩
theorem Dzc:∀ x,bzD Tryz.prog tb mzQ [] (azf 114 Tryz.f19) gzy.ins gzy.outs x=gzy.J x:=fun x=>by kernel_rfl
theorem FzO:cutB Tryz.f19.ntmps gzy (azf 114 Tryz.f19)=true:=by kernel_rfl
theorem Dzd:azg ([]:List (CutSpec tb)) (azf 114 Tryz.f19)=[]:=by kernel_rfl
theorem AzT:azi Tryz.prog tb Tryz.f19.ntmps (azf 114 Tryz.f19) gzy:=bzl mixed FzO lzB rfl Dzd .nil Dzc
def gzx (x:Int×List Arg×Val×Int):Option (((Unit)×Val)⊕((Unit)×Val)) :=
 brn (decide (x.2.2.snd=0))
  (obnd (bz5 (x.fst,x.2.fst,x.2.2.fst,x.2.2.snd,decide (x.2.2.snd=0))) fun y=>osum y (fun y=>some (Sum.inl ((),y.2))) fun y=>some (Sum.inr ((),y.2)))
  (brn (decide (x.2.2.snd=1))
   (obnd (bz5 (x.fst,x.2.fst,x.2.2.fst,x.2.2.snd,decide (x.2.2.snd=1))) fun y=>osum y (fun y=>some (Sum.inl ((),y.2))) fun y=>some (Sum.inr ((),y.2)))
   (brn (decide (x.2.2.snd=2))
    (obnd (bz5 (x.fst,x.2.fst,x.2.2.fst,x.2.2.snd,decide (x.2.2.snd=2))) fun y=>osum y (fun y=>some (Sum.inl ((),y.2))) fun y=>some (Sum.inr ((),y.2)))
    (brn (decide (x.2.2.snd=3))
     (obnd (bz5 (x.fst,x.2.fst,x.2.2.fst,x.2.2.snd,decide (x.2.2.snd=3))) fun y=>osum y (fun y=>some (Sum.inl ((),y.2))) fun y=>some (Sum.inr ((),y.2)))
     (brn (decide (x.2.2.snd=4))
      (obnd (bz5 (x.fst,x.2.fst,x.2.2.fst,x.2.2.snd,decide (x.2.2.snd=4))) fun y =>
       osum y (fun y=>some (Sum.inl ((),y.2))) fun y=>some (Sum.inr ((),y.2)))
      (brn (decide (x.2.2.snd=11))
       (obnd (bz5 (x.fst,x.2.fst,x.2.2.fst,x.2.2.snd,decide (x.2.2.snd=11))) fun y =>
        osum y (fun y=>some (Sum.inl ((),y.2))) fun y=>some (Sum.inr ((),y.2)))
       (brn (decide (x.2.2.snd=12))
        (obnd (bz5 (x.fst,x.2.fst,x.2.2.fst,x.2.2.snd,decide (x.2.2.snd=12))) fun y =>
         osum y (fun y=>some (Sum.inl ((),y.2))) fun y=>some (Sum.inr ((),y.2)))
        (obnd (bz5 (x.fst,x.2.fst,x.2.2.fst,x.2.2.snd,decide (x.2.2.snd=18))) fun y =>
         osum y (fun y=>some (Sum.inl ((),y.2))) fun y=>some (Sum.inr ((),y.2)))))))))
def gzw:CutSpec tb:=⟨51,[(0,.val 3),(1,.val 34),(4,.ref 32),(42,.val 3)],[(.normal,[]),(.ret,[])],[44,43,45,46,47,48,49,50,51,52,53,54,56,55,57,58,59,60,61,62,64,63,65],gzx⟩
theorem Dza:∀ x,bzD Tryz.prog tb mzQ [gzy] (azf 51 Tryz.f19) gzw.ins gzw.outs x=gzw.J x:=fun x=>by kernel_rfl
theorem FzN:cutB Tryz.f19.ntmps gzw (azf 51 Tryz.f19)=true:=by kernel_rfl
theorem Dzb:azg ([gzy]:List (CutSpec tb)) (azf 51 Tryz.f19)=[(114,azf 114 Tryz.f19)]:=by kernel_rfl
theorem AzS:azi Tryz.prog tb Tryz.f19.ntmps (azf 51 Tryz.f19) gzw:=bzl mixed FzN lzB rfl Dzb (.cons rfl AzT rfl .nil) Dza
def izS (back:List (Val)×List Arg×Int×Int→Option (List (Val))) (x:List (Val)×List Arg×Int×Int):Option (List (Val)) :=
 brn (decide (x.2.2.snd < x.2.2.fst))
  (obnd (idx x.2.fst x.2.2.snd) fun y=>obnd (idx y.L 0) fun y=>obnd (app 56 x.fst [y]) fun zs=>back (zs,x.2.fst,x.2.2.fst,IntKind.i64.wrap (x.2.2.snd+1))) (some x.1)
def lzC:List (Val)×List Arg×Int×Int→Option (List (Val)):=iter izS big
def izR:CutSpec tb:=⟨212,[(6,.own 32),(70,.val 34),(71,.val 3),(72,.val 3)],[((.exit 1),[(6,.own 32)])],[73,74,75,8,76,77,78,79,80,81,82,6,83,72],lzC⟩
theorem Dzg:∀ back x,azy Tryz.prog tb mzQ [] (azd 212 Tryz.f19) izR.ins izR.outs back x=izS back x:=fun back x=>by kernel_rfl
theorem FzQ:cutB Tryz.f19.ntmps izR (azd 212 Tryz.f19)=true:=by kernel_rfl
theorem Dzh:azg ([]:List (CutSpec tb)) (azd 212 Tryz.f19)=[]:=by kernel_rfl
theorem AzV:azi Tryz.prog tb Tryz.f19.ntmps (.loop (azd 212 Tryz.f19)) izR:=azw mixed FzQ lzB rfl Dzh .nil izS Dzg rfl
def dzF (x:Int×Val×List Val×Int):Option (((Unit)×Val)⊕((Unit)×Val)) :=
 brn (decide (x.2.2.snd=21)) (obnd (idx x.2.2.fst 0) fun y=>obnd (czw (decide (y.Kind=0))) fun y=>some (Sum.inr ((),y)))
  (brn (decide (x.2.2.snd=22)) (obnd (idx x.2.2.fst 0) fun y=>obnd (czw (decide (y.Kind=4))) fun y=>some (Sum.inr ((),y)))
   (brn (decide (x.2.2.snd=29))
    (obnd (idx x.2.2.fst 0) fun y =>
     obnd (bzP (mzq keq3 0 y.Kind (mzT keq3 4 16 (mzT keq3 3 4 (mzT keq3 2 2 (mzT keq3 1 1 (mzT keq3 0 1 [])))))))
      fun y=>some (Sum.inr ((),y)))
    (brn (decide (x.2.2.snd=13))
     (obnd (idx x.2.2.fst 0) fun y=>obnd (czO y) fun y=>brn (!y.2.snd) (some (Sum.inr ((),y.2.fst))) (obnd (czw !y.fst) fun y=>some (Sum.inr ((),y))))
     (brn (decide (x.2.2.snd=5)) (brn (decide (x.2.2.snd=5)) (obnd (bzN (x.fst,x.2.2.fst)) fun y=>some (Sum.inr ((),y))) (some (Sum.inl ((),x.2.fst))))
      (brn (decide (x.2.2.snd=6)) (brn (decide (x.2.2.snd=6)) (obnd (bzN (x.fst,x.2.2.fst)) fun y=>some (Sum.inr ((),y))) (some (Sum.inl ((),x.2.fst))))
       (brn (decide (x.2.2.snd=7)) (brn (decide (x.2.2.snd=7)) (obnd (bzN (x.fst,x.2.2.fst)) fun y=>some (Sum.inr ((),y))) (some (Sum.inl ((),x.2.fst))))
        (brn (decide (x.2.2.snd=8)) (brn (decide (x.2.2.snd=8)) (obnd (bzN (x.fst,x.2.2.fst)) fun y=>some (Sum.inr ((),y))) (some (Sum.inl ((),x.2.fst))))
         (brn (decide (x.2.2.snd=9)) (obnd (bzN (x.fst,x.2.2.fst)) fun y=>some (Sum.inr ((),y))) (some (Sum.inl ((),x.2.fst)))))))))))
def gzz:CutSpec tb:=⟨251,[(0,.val 3),(4,.ref 32),(6,.val 46),(84,.val 3)],[(.normal,[]),(.ret,[])],[86,85,87,88,89,90,91,92,94,93,95,96,97,98,99,100,102,101,103,104,105,106,107,108,109,110,112,111,114,115,116,117,113,118,119,120,10,9,11,121,122,123,124,125,126,128,127,129,130,131,132,133,134,135],dzF⟩
theorem Dze:∀ x,bzD Tryz.prog tb mzQ [] (azf 251 Tryz.f19) gzz.ins gzz.outs x=gzz.J x:=fun x=>by kernel_rfl
theorem FzP:cutB Tryz.f19.ntmps gzz (azf 251 Tryz.f19)=true:=by kernel_rfl
theorem Dzf:azg ([]:List (CutSpec tb)) (azf 251 Tryz.f19)=[]:=by kernel_rfl
theorem AzU:azi Tryz.prog tb Tryz.f19.ntmps (azf 251 Tryz.f19) gzz:=bzl mixed FzP lzB rfl Dzf .nil Dze
def czv (x:Int×List Arg):Option (Val) :=
 obnd (pzf ()) fun y =>
  brn (decide (x.fst < 0)) (obnd (azq 15) fun y=>some y)
   (brn (decide ((↑(List.length y):Int)≤x.fst)) (obnd (azq 15) fun y=>some y)
    (obnd (idx y x.fst) fun y_1 =>
     brn (decide ((↑x.snd.length:Int) < y_1.lo)) (obnd (azq 15) fun y=>some y)
      (obnd (idx y x.fst) fun y =>
       brn (decide (y.hi < (↑x.snd.length:Int))) (obnd (azq 15) fun y=>some y)
        (obnd (gzx (x.fst,x.snd,{ Kind:=0,N:={ M:=0,S:=0 },S:=[],B:=false,E:=0 },x.fst)) fun y =>
         osum y
          (fun y =>
           obnd (hze x.snd) fun y_2 =>
            brn (!y_2) (obnd (azq 15) fun y=>some y)
             (obnd (lzC ([],x.snd,(↑x.snd.length:Int),0)) fun y_3 =>
              obnd (dzF (x.fst,y.2,y_3,x.fst)) fun y=>osum y (fun y=>obnd (czn (x.fst,y_3)) fun y=>some y) fun y=>some y.2))
          fun y=>some y.2))))
def jzj:FSpec tb:=⟨[(0,.val 3),(1,.val 34)],[(0,.val 32)],czv⟩
theorem JzX:∀ x,evFn Tryz.prog tb mzQ [gzw,izR,gzz] Tryz.f19 jzj.ins jzj.outs x=jzj.f x:=fun x=>by kernel_rfl
theorem Lz5:fnK Tryz.f19 jzj.ins jzj.outs=true:=by kernel_rfl
theorem JzY:azg ([gzw,izR,gzz]:List (CutSpec tb)) (azA Tryz.f19)=[(51,azf 51 Tryz.f19),(212,.loop (azd 212 Tryz.f19)),(251,azf 251 Tryz.f19)]:=by kernel_rfl
theorem szp:aze Tryz.prog tb 19 jzj:=azJ mixed Tryz.func19 Lz5 lzB rfl JzY (.cons rfl AzS rfl (.cons rfl AzV rfl (.cons rfl AzU rfl .nil))) JzX
abbrev tz1:List (Nat×FSpec tb):=[(32,bzi),(33,ez3),(37,lz8),(86,ez6),(36,jzE)]
theorem uz2:azz Tryz.prog tb tz1:=(.cons az5 (.cons gzs (.cons uzY (.cons gzA (.cons nzr .nil)))))
def qzy (back:Dec×Val×Dec×Int×Int→Option (((Unit)×(Val×Dec))⊕((Unit)×(Val×Dec)))) (x:Dec×Val×Dec×Int×Int):Option (((Unit)×(Val×Dec))⊕((Unit)×(Val×Dec))) :=
 brn (decide (x.2.2.2.snd < x.2.2.2.fst))
  (obnd (AzH (x.2.2.fst,x.fst)) fun y =>
   brn (!decide (y.snd=0)) (obnd (bzc y) fun y_1=>some (Sum.inr ((),y_1,y.fst))) (back (x.fst,x.2.fst,y.fst,x.2.2.2.fst,IntKind.i64.wrap (x.2.2.2.snd+1))))
  (some (Sum.inl ((),x.2.fst,x.2.2.fst)))
def uz3:Dec×Val×Dec×Int×Int→Option (((Unit)×(Val×Dec))⊕((Unit)×(Val×Dec))):=iter qzy big
def izV:CutSpec tb:=⟨52,[(2,.ro 30),(4,.ref 32),(5,.ref 30),(27,.val 2),(28,.val 2)],[((.exit 0),[]),(.ret,[])],[29,31,32,33,30,34,35,6,36,37,38,39,40,41,28],uz3⟩
theorem Dzu:∀ back x,azy Tryz.prog tb tz1 [] (azd 52 Tryz.f88) izV.ins izV.outs back x=qzy back x:=fun back x=>by kernel_rfl
theorem Gze:cutB Tryz.f88.ntmps izV (azd 52 Tryz.f88)=true:=by kernel_rfl
theorem Dzv:azg ([]:List (CutSpec tb)) (azd 52 Tryz.f88)=[]:=by kernel_rfl
theorem Az8:azi Tryz.prog tb Tryz.f88.ntmps (.loop (azd 52 Tryz.f88)) izV:=azw mixed Gze uz2 rfl Dzv .nil qzy Dzu rfl
def Dzt (x:Dec×Dec):Option (Val) :=
 brn (!decide (x.snd.S=0)) (obnd (azq 36) fun y=>some y)
  (brn (decide (x.snd.M < -64)) (obnd (azq 36) fun y=>some y)
   (brn (decide (64 < x.snd.M)) (obnd (azq 36) fun y=>some y)
    (obnd (czu 1) fun y =>
     obnd
      (uz3
       (x.fst,{ Kind:=0,N:={ M:=0,S:=0 },S:=[],B:=false,E:=0 },y,
        bif decide (x.snd.M < IntKind.i64.wrap (0 - x.snd.M)) then IntKind.i64.wrap (0 - x.snd.M) else x.snd.M,0))
      fun y =>
      osum y
       (fun y =>
        brn (decide (x.snd.M < 0)) (obnd (czu 1) fun y_1=>obnd (gzr (y_1,y.2.snd)) fun y=>obnd (bzc y) fun y=>some y)
         (obnd (bzc (y.2.snd,0)) fun y=>some y))
       fun y=>some y.2.fst)))
def kz8:FSpec tb:=⟨[(0,.val 30),(1,.val 30)],[(0,.val 32)],Dzt⟩
theorem Jz8:∀ x,evFn Tryz.prog tb tz1 [izV] Tryz.f88 kz8.ins kz8.outs x=kz8.f x:=fun x=>by kernel_rfl
theorem Mzf:fnK Tryz.f88 kz8.ins kz8.outs=true:=by kernel_rfl
theorem Jz9:azg ([izV]:List (CutSpec tb)) (azA Tryz.f88)=[(52,.loop (azd 52 Tryz.f88))]:=by kernel_rfl
theorem Dzw:aze Tryz.prog tb 88 kz8:=azJ mixed Tryz.func88 Mzf uz2 rfl Jz9 (.cons rfl Az8 rfl .nil) Jz8
abbrev szV:List (Nat×FSpec tb):=[(32,bzi),(84,kzS),(83,jzk),(27,izz),(63,ezh),(85,czo),(87,lz7),(86,ez6),(35,kzZ),(37,lz8),(36,jzE),(88,kz8)]
theorem tzg:azz Tryz.prog tb szV:=(.cons az5 (.cons tzz (.cons pzh (.cons zzW (.cons jzl (.cons cz2 (.cons uzX (.cons gzA (.cons qzs (.cons uzY (.cons nzr (.cons Dzw .nil))))))))))))
def tzh (x:Int×Val×Val×Val):Option (((Unit)×Val)⊕((Unit)×Val)) :=
 brn (decide (x.2.fst.Kind=4)) (some (Sum.inr ((),x.2.fst)))
  (brn (decide (x.2.2.fst.Kind=4)) (some (Sum.inr ((),x.2.2.fst)))
   (brn (decide (x.fst < 1)) (obnd (azq 15) fun y=>some (Sum.inr ((),y)))
    (brn (decide (12 < x.fst)) (obnd (azq 15) fun y=>some (Sum.inr ((),y)))
     (brn (decide (x.fst=6))
      (obnd (fz8 x.2.fst) fun y=>obnd (fz8 x.2.2.fst) fun y_1=>obnd (cat y y_1) fun z=>obnd (dzt z) fun y=>some (Sum.inr ((),y)))
      (brn (decide (6 < x.fst))
       (obnd (xz5 (x.2.fst,x.2.2.fst)) fun y =>
        obnd (idx [decide (y=0),!decide (y=0),decide (y < 0),decide (y≤0),decide (0 < y),decide (0≤y)] (IntKind.i64.wrap (x.fst - 7))) fun y =>
         obnd (czw y) fun y=>some (Sum.inr ((),y)))
       (some (Sum.inl ((),x.2.2.snd))))))))
def ez5:CutSpec tb:=⟨19,[(0,.val 3),(4,.ro 32),(5,.ro 32),(6,.ref 32)],[(.normal,[]),(.ret,[])],[13,14,15,12,16,18,19,20,17,21,23,24,25,26,27,28,22,29,31,32,30,33,34,35,36,37,38,40,41,39,42,43,44,7,45,46,47,48,49,50,51,52,53,54,55,56,57,58,59,60,61,62],tzh⟩
theorem AzW:∀ x,bzD Tryz.prog tb szV [] (azf 19 Tryz.f30) ez5.ins ez5.outs x=ez5.J x:=fun x=>by kernel_rfl
theorem Dzi:cutB Tryz.f30.ntmps ez5 (azf 19 Tryz.f30)=true:=by kernel_rfl
theorem AzX:azg ([]:List (CutSpec tb)) (azf 19 Tryz.f30)=[]:=by kernel_rfl
theorem yzF:azi Tryz.prog tb Tryz.f30.ntmps (azf 19 Tryz.f30) ez5:=bzl mixed Dzi tzg rfl AzX .nil AzW
def Lz6 (x:Int×Val×Val):Option (Val) :=
 obnd (tzh (x.fst,x.2.fst,x.2.snd,{ Kind:=0,N:={ M:=0,S:=0 },S:=[],B:=false,E:=0 })) fun y =>
  osum y
   (fun y =>
    obnd (bzo x.2.fst) fun y =>
     brn (!y.2.snd) (some y.2.fst)
      (obnd (bzo x.2.snd) fun y_1 =>
       brn (!y_1.2.snd) (some y_1.2.fst)
        (brn (decide (x.fst=1)) (obnd (pzd (y.fst,y_1.fst)) fun y=>obnd (bzc y) fun y=>some y)
         (brn (decide (x.fst=2)) (obnd (kzY (y.fst,y_1.fst)) fun y=>obnd (bzc y) fun y=>some y)
          (brn (decide (x.fst=3)) (obnd (AzH (y.fst,y_1.fst)) fun y=>obnd (bzc y) fun y=>some y)
           (brn (decide (x.fst=4)) (obnd (gzr (y.fst,y_1.fst)) fun y=>obnd (bzc y) fun y=>some y)
            (obnd (Dzt (y.fst,y_1.fst)) fun y=>some y)))))))
   fun y=>some y.2
def jzH:FSpec tb:=⟨[(0,.val 3),(1,.val 32),(2,.val 32)],[(0,.val 32)],Lz6⟩
theorem Izb:∀ x,evFn Tryz.prog tb szV [ez5] Tryz.f30 jzH.ins jzH.outs x=jzH.f x:=fun x=>by kernel_rfl
theorem JzZ:fnK Tryz.f30 jzH.ins jzH.outs=true:=by kernel_rfl
theorem Izc:azg ([ez5]:List (CutSpec tb)) (azA Tryz.f30)=[(19,azf 19 Tryz.f30)]:=by kernel_rfl
theorem AzY:aze Tryz.prog tb 30 jzH:=azJ mixed Tryz.func30 JzZ tzg rfl Izc (.cons rfl yzF rfl .nil) Izb
def Nzy (x:Int×Val):Option (Val) :=
 brn (decide (x.fst=2)) (some x.snd)
  (brn (!decide (x.fst=1))
   (brn (!decide (x.fst=3)) (obnd (azq 15) fun y=>some y)
    (obnd (bzo x.snd) fun y =>
     brn (!y.2.snd) (some y.2.fst)
      (brn (decide (x.fst=1)) (obnd (czu 0) fun y_1=>obnd (kzY (y_1,y.fst)) fun y=>obnd (bzc y) fun y=>some y)
       (obnd (czu 100) fun y_1=>obnd (gzr (y.fst,y_1)) fun y=>obnd (bzc y) fun y=>some y))))
   (obnd (bzo x.snd) fun y =>
    brn (!y.2.snd) (some y.2.fst)
     (brn (decide (x.fst=1)) (obnd (czu 0) fun y_1=>obnd (kzY (y_1,y.fst)) fun y=>obnd (bzc y) fun y=>some y)
      (obnd (czu 100) fun y_1=>obnd (gzr (y.fst,y_1)) fun y=>obnd (bzc y) fun y=>some y))))
def kz5:FSpec tb:=⟨[(0,.val 3),(1,.val 32)],[(0,.val 32)],Nzy⟩
theorem Jz2:∀ x,evFn Tryz.prog tb [(32,bzi),(85,czo),(33,ez3),(35,kzZ),(86,ez6),(36,jzE)] [] Tryz.f40 kz5.ins kz5.outs x=kz5.f x:=fun x=>by kernel_rfl
theorem Lz9:fnK Tryz.f40 kz5.ins kz5.outs=true:=by kernel_rfl
theorem Dzj:aze Tryz.prog tb 40 kz5:=azu mixed Tryz.func40 Lz9 (.cons az5 (.cons cz2 (.cons gzs (.cons qzs (.cons gzA (.cons nzr .nil)))))) rfl Jz2
end Go.Proofs.YtdgpkbnnljblmaaGreatDoor

/- H1 -/
namespace Go.Proofs.YtdgpkbnnljblmaaGreatDoor
open Go Go.Ev
set_option linter.unusedVariables false
abbrev tz8:List (Nat×FSpec tb):=[(26,nz4),(25,mzj)]
theorem uz7:azz Tryz.prog tb tz8:=(.cons wzN (.cons uz0 .nil))
def qzA (back:List Int×List (Arg)×Int→Option (List (Arg))) (x:List Int×List (Arg)×Int):Option (List (Arg)) :=
 brn (decide (x.2.snd < (↑x.fst.length:Int)))
  (obnd (idx x.fst x.2.snd) fun y=>obnd (law9_NF y) fun y=>obnd (Jz1 y) fun y=>obnd (app 32 x.2.fst [y]) fun zs=>back (x.fst,zs,IntKind.i64.wrap (x.2.snd+1)))
  (some x.2.1)
def uz8:List Int×List (Arg)×Int→Option (List (Arg)):=iter qzA big
def izX:CutSpec tb:=⟨36,[(0,.val 73),(3,.own 48),(4,.val 3)],[((.exit 0),[(3,.own 48)])],[5,6,7,8,11,12,13,14,15,16,17,18,19,3,9,10,4],uz8⟩
theorem DzN:∀ back x,azy Tryz.prog tb tz8 [] (azd 36 Tryz.f56) izX.ins izX.outs back x=qzA back x:=fun back x=>by kernel_rfl
theorem Gzs:cutB Tryz.f56.ntmps izX (azd 36 Tryz.f56)=true:=by kernel_rfl
theorem DzO:azg ([]:List (CutSpec tb)) (azd 36 Tryz.f56)=[]:=by kernel_rfl
theorem Bzu:azi Tryz.prog tb Tryz.f56.ntmps (.loop (azd 36 Tryz.f56)) izX:=azw mixed Gzs uz7 rfl DzO .nil qzA DzN rfl
def NzL (x:List Int):Option (List (Arg)) :=
 obnd (uz8 (x,[],0)) fun y=>some y
def lza:FSpec tb:=⟨[(0,.val 73)],[(0,.own 48)],NzL⟩
theorem Kzq:∀ x,evFn Tryz.prog tb tz8 [izX] Tryz.f56 lza.ins lza.outs x=lza.f x:=fun x=>by kernel_rfl
theorem Mzm:fnK Tryz.f56 lza.ins lza.outs=true:=by kernel_rfl
theorem Kzr:azg ([izX]:List (CutSpec tb)) (azA Tryz.f56)=[(36,.loop (azd 36 Tryz.f56))]:=by kernel_rfl
theorem DzP:aze Tryz.prog tb 56 lza:=azJ mixed Tryz.func56 Mzm uz7 rfl Kzr (.cons rfl Bzu rfl .nil) Kzq
abbrev pz6:List (Nat×FSpec tb):=[(57,ezt)]
theorem pzr:azz Tryz.prog tb pz6:=(.cons uzl .nil)
def hzG (back:List Arg×Int×Int→Option ((Unit)⊕(Bool))) (x:List Arg×Int×Int):Option ((Unit)⊕(Bool)) :=
 obnd (idx x.fst x.2.fst) fun y =>
  brn (decide (x.2.snd < (↑y.L.length:Int)))
   (obnd (idx x.fst x.2.fst) fun y =>
    obnd (idx y.L x.2.snd) fun y =>
     brn (decide (3000 < (↑y.S.length:Int))) (some (Sum.inr false))
      (obnd (idx x.fst x.2.fst) fun y =>
       obnd (idx y.L x.2.snd) fun y=>obnd (gzm y) fun y=>brn (!decide (y=0)) (some (Sum.inr false)) (back (x.fst,x.2.fst,IntKind.i64.wrap (x.2.snd+1)))))
   (some (Sum.inl PUnit.unit))
def pzt:List Arg×Int×Int→Option ((Unit)⊕(Bool)):=iter hzG big
def hzF:CutSpec tb:=⟨84,[(0,.val 22),(3,.val 3),(4,.val 3)],[((.exit 2),[]),(.ret,[(2,.val 4)])],[21,22,23,24,25,26,27,28,31,32,33,34,35,36,37,38,39,40,41,42,43,44,45,46,47,48,49,50,51,52,53,2,29,30,4],pzt⟩
theorem Bzr:∀ back x,azy Tryz.prog tb pz6 [] (azd 84 Tryz.f17) hzF.ins hzF.outs back x=hzG back x:=fun back x=>by kernel_rfl
theorem DzM:cutB Tryz.f17.ntmps hzF (azd 84 Tryz.f17)=true:=by kernel_rfl
theorem Bzs:azg ([]:List (CutSpec tb)) (azd 84 Tryz.f17)=[]:=by kernel_rfl
theorem yzY:azi Tryz.prog tb Tryz.f17.ntmps (.loop (azd 84 Tryz.f17)) hzF:=azw mixed DzM pzr rfl Bzs .nil hzG Bzr rfl
def hzE (back:List Arg×Int→Option ((Unit)⊕(Bool))) (x:List Arg×Int):Option ((Unit)⊕(Bool)) :=
 brn (decide (x.snd < (↑x.fst.length:Int)))
  (obnd (idx x.fst x.snd) fun y =>
   brn (decide (30 < (↑y.L.length:Int))) (some (Sum.inr false))
    (obnd (pzt (x.fst,x.snd,0)) fun y=>osum y (fun y=>back (x.fst,IntKind.i64.wrap (x.snd+1))) fun y=>some (Sum.inr y)))
  (some (Sum.inl PUnit.unit))
def pzs:List Arg×Int→Option ((Unit)⊕(Bool)):=iter hzE big
def hzD:CutSpec tb:=⟨44,[(0,.val 22),(3,.val 3)],[((.exit 0),[]),(.ret,[(2,.val 4)])],[8,9,10,11,14,15,16,17,18,19,20,2,4,21,22,23,24,25,26,27,28,31,32,33,34,35,36,37,38,39,40,41,42,43,44,45,46,47,48,49,50,51,52,53,29,30,12,13,3],pzs⟩
theorem Bzp:∀ back x,azy Tryz.prog tb pz6 [hzF] (azd 44 Tryz.f17) hzD.ins hzD.outs back x=hzE back x:=fun back x=>by kernel_rfl
theorem DzL:cutB Tryz.f17.ntmps hzD (azd 44 Tryz.f17)=true:=by kernel_rfl
theorem Bzq:azg ([hzF]:List (CutSpec tb)) (azd 44 Tryz.f17)=[(84,.loop (azd 84 Tryz.f17))]:=by kernel_rfl
theorem yzX:azi Tryz.prog tb Tryz.f17.ntmps (.loop (azd 44 Tryz.f17)) hzD:=azw mixed DzL pzr rfl Bzq (.cons rfl yzY rfl .nil) hzE Bzp rfl
def pz5 (x:List Arg):Option (Bool) :=
 brn (decide (30 < (↑x.length:Int))) (some false) (obnd (pzs (x,0)) fun y=>osum y (fun y=>some true) fun y=>some y)
def jzQ:FSpec tb:=⟨[(0,.val 22)],[(0,.val 4)],pz5⟩
theorem IzE:∀ x,evFn Tryz.prog tb pz6 [hzD] Tryz.f17 jzQ.ins jzQ.outs x=jzQ.f x:=fun x=>by kernel_rfl
theorem Kzo:fnK Tryz.f17 jzQ.ins jzQ.outs=true:=by kernel_rfl
theorem IzF:azg ([hzD]:List (CutSpec tb)) (azA Tryz.f17)=[(44,.loop (azd 44 Tryz.f17))]:=by kernel_rfl
theorem Bzt:aze Tryz.prog tb 17 jzQ:=azJ mixed Tryz.func17 Kzo pzr rfl IzF (.cons rfl yzX rfl .nil) IzE
abbrev szw:List (Nat×FSpec tb):=[(68,nzK)]
theorem rzV:azz Tryz.prog tb szw:=(.cons IzK .nil)
def kzw (back:List (Val)×List Arg×Int×Arg×Int→Option ((List (Val))×Arg)) (x:List (Val)×List Arg×Int×Arg×Int):Option ((List (Val))×Arg) :=
 obnd (idx x.2.fst x.2.2.fst) fun y =>
  brn (decide (x.2.2.2.snd < (↑y.L.length:Int)))
   (obnd (idx x.2.fst x.2.2.fst) fun y =>
    obnd (idx y.L x.2.2.2.snd) fun y =>
     obnd (Bzw y) fun y=>obnd (app 56 x.fst [y]) fun zs=>back (zs,x.2.fst,x.2.2.fst,{ Area:=x.2.2.2.fst.Area,L:=zs },IntKind.i64.wrap (x.2.2.2.snd+1)))
   (some (x.fst,{ Area:=x.2.2.2.fst.Area,L:=x.fst }))
def ozy:List (Val)×List Arg×Int×Arg×Int→Option ((List (Val))×Arg):=iter kzw big
def kzv:CutSpec tb:=⟨68,[(8589934597,.own 32),(0,.val 22),(4,.val 3),(5,.ref 48),(6,.val 3)],[((.exit 2),[(8589934597,.own 32)])],[19,20,21,22,23,24,25,26,29,30,31,32,33,34,35,36,37,38,39,40,41,42,27,28,6],ozy⟩
theorem Gzo:∀ back x,azy Tryz.prog tb szw [] (azd 68 Tryz.f20) kzv.ins kzv.outs back x=kzw back x:=fun back x=>by kernel_rfl
theorem IzD:cutB Tryz.f20.ntmps kzv (azd 68 Tryz.f20)=true:=by kernel_rfl
theorem Gzp:azg ([]:List (CutSpec tb)) (azd 68 Tryz.f20)=[]:=by kernel_rfl
theorem DzK:azi Tryz.prog tb Tryz.f20.ntmps (.loop (azd 68 Tryz.f20)) kzv:=azw mixed IzD rzV rfl Gzp .nil kzw Gzo rfl
def kzu (back:List Arg×List (Arg)×Int→Option (List (Arg))) (x:List Arg×List (Arg)×Int):Option (List (Arg)) :=
 brn (decide (x.2.snd < (↑x.fst.length:Int)))
  (obnd (idx x.fst x.2.snd) fun y =>
   obnd (ozy ([],x.fst,x.2.snd,{ Area:=y.Area,L:=[] },0)) fun y =>
    obnd (app 32 x.2.fst [{ Area:=y.2.Area,L:=y.1 }]) fun zs=>back (x.fst,zs,IntKind.i64.wrap (x.2.snd+1)))
  (some x.2.1)
def rzW:List Arg×List (Arg)×Int→Option (List (Arg)):=iter kzu big
def kzt:CutSpec tb:=⟨36,[(0,.val 22),(3,.own 48),(4,.val 3)],[((.exit 0),[(3,.own 48)])],[7,8,9,10,13,14,15,16,17,18,5,6,19,20,21,22,23,24,25,26,29,30,31,32,33,34,35,36,37,38,39,40,41,42,27,28,43,44,45,46,3,11,12,4],rzW⟩
theorem Gzm:∀ back x,azy Tryz.prog tb szw [kzv] (azd 36 Tryz.f20) kzt.ins kzt.outs back x=kzu back x:=fun back x=>by kernel_rfl
theorem IzC:cutB Tryz.f20.ntmps kzt (azd 36 Tryz.f20)=true:=by kernel_rfl
theorem Gzn:azg ([kzv]:List (CutSpec tb)) (azd 36 Tryz.f20)=[(68,.loop (azd 68 Tryz.f20))]:=by kernel_rfl
theorem DzJ:azi Tryz.prog tb Tryz.f20.ntmps (.loop (azd 36 Tryz.f20)) kzt:=azw mixed IzC rzV rfl Gzn (.cons rfl DzK rfl .nil) kzu Gzm rfl
def szv (x:List Arg):Option (List (Arg)) :=
 obnd (rzW (x,[],0)) fun y=>some y
def mzp:FSpec tb:=⟨[(0,.val 22)],[(0,.own 48)],szv⟩
theorem Mzk:∀ x,evFn Tryz.prog tb szw [kzt] Tryz.f20 mzp.ins mzp.outs x=mzp.f x:=fun x=>by kernel_rfl
theorem NzK:fnK Tryz.f20 mzp.ins mzp.outs=true:=by kernel_rfl
theorem Mzl:azg ([kzt]:List (CutSpec tb)) (azA Tryz.f20)=[(36,.loop (azd 36 Tryz.f20))]:=by kernel_rfl
theorem Gzq:aze Tryz.prog tb 20 mzp:=azJ mixed Tryz.func20 NzK rzV rfl Mzl (.cons rfl DzJ rfl .nil) Mzk
def fzp (back:List Arg×Int→Option ((Unit)⊕(Bool))) (x:List Arg×Int):Option ((Unit)⊕(Bool)) :=
 brn (decide (x.snd < (↑x.fst.length:Int)))
  (obnd (idx x.fst x.snd) fun y =>
   brn (!y.Area) (obnd (idx x.fst x.snd) fun y=>brn (!decide ((↑y.L.length:Int)=1)) (some (Sum.inr false)) (back (x.fst,IntKind.i64.wrap (x.snd+1))))
    (back (x.fst,IntKind.i64.wrap (x.snd+1))))
  (some (Sum.inl PUnit.unit))
def nzQ:List Arg×Int→Option ((Unit)⊕(Bool)):=iter fzp big
def fzo:CutSpec tb:=⟨28,[(0,.val 22),(3,.val 3)],[((.exit 0),[]),(.ret,[(2,.val 4)])],[4,5,6,7,10,11,12,13,14,15,16,17,18,19,20,21,22,23,24,2,8,9,3],nzQ⟩
theorem xzz:∀ back x,azy Tryz.prog tb [] [] (azd 28 Tryz.f159) fzo.ins fzo.outs back x=fzp back x:=fun back x=>by kernel_rfl
theorem zzw:cutB Tryz.f159.ntmps fzo (azd 28 Tryz.f159)=true:=by kernel_rfl
theorem xzA:azg ([]:List (CutSpec tb)) (azd 28 Tryz.f159)=[]:=by kernel_rfl
theorem vzT:azi Tryz.prog tb Tryz.f159.ntmps (.loop (azd 28 Tryz.f159)) fzo:=azw mixed zzw .nil rfl xzA .nil fzp xzz rfl
def izZ (x:List Arg):Option (Bool) :=
 obnd (nzQ (x,0)) fun y=>osum y (fun y=>some true) fun y=>some y
def dzI:FSpec tb:=⟨[(0,.val 22)],[(0,.val 4)],izZ⟩
theorem Ezp:∀ x,evFn Tryz.prog tb [] [fzo] Tryz.f159 dzI.ins dzI.outs x=dzI.f x:=fun x=>by kernel_rfl
theorem GzR:fnK Tryz.f159 dzI.ins dzI.outs=true:=by kernel_rfl
theorem Ezq:azg ([fzo]:List (CutSpec tb)) (azA Tryz.f159)=[(28,.loop (azd 28 Tryz.f159))]:=by kernel_rfl
theorem mzx:aze Tryz.prog tb 159 dzI:=azJ mixed Tryz.func159 GzR .nil rfl Ezq (.cons rfl vzT rfl .nil) Ezp
abbrev kzC:List (Nat×FSpec tb):=[(107,czz)]
theorem jz7:azz Tryz.prog tb kzC:=(.cons fzZ .nil)
def jz8 (x:Bool×Val×List (Dec)×Arg×Int):Option (((List (Dec))×Val)⊕((List (Dec)×Bool)×Val)) :=
 obnd (idx x.2.2.2.fst.L x.2.2.2.snd) fun y =>
  brn x.2.2.2.fst.Area
   (brn (!decide (y.Kind=1))
    (brn (!decide (y.Kind=4)) (some (Sum.inl (x.2.2.fst,x.2.fst)))
     (brn x.fst (some (Sum.inl (x.2.2.fst,x.2.fst)))
      (obnd (bzm y) fun y =>
       brn (!y.2.snd)
        (brn x.fst (some (Sum.inl (x.2.2.fst,x.2.fst)))
         (brn (!y.2.snd) (some (Sum.inr (([],false),y.2.fst))) (obnd (app 16 x.2.2.fst [y.fst]) fun zs=>some (Sum.inl (zs,x.2.fst)))))
        (brn (!y.2.snd) (some (Sum.inr (([],false),y.2.fst))) (obnd (app 16 x.2.2.fst [y.fst]) fun zs=>some (Sum.inl (zs,x.2.fst)))))))
    (obnd (bzm y) fun y =>
     brn (!y.2.snd)
      (brn x.fst (some (Sum.inl (x.2.2.fst,x.2.fst)))
       (brn (!y.2.snd) (some (Sum.inr (([],false),y.2.fst))) (obnd (app 16 x.2.2.fst [y.fst]) fun zs=>some (Sum.inl (zs,x.2.fst)))))
      (brn (!y.2.snd) (some (Sum.inr (([],false),y.2.fst))) (obnd (app 16 x.2.2.fst [y.fst]) fun zs=>some (Sum.inl (zs,x.2.fst))))))
   (obnd (bzm y) fun y =>
    brn (!y.2.snd)
     (brn x.fst (some (Sum.inl (x.2.2.fst,x.2.fst)))
      (brn (!y.2.snd) (some (Sum.inr (([],false),y.2.fst))) (obnd (app 16 x.2.2.fst [y.fst]) fun zs=>some (Sum.inl (zs,x.2.fst)))))
     (brn (!y.2.snd) (some (Sum.inr (([],false),y.2.fst))) (obnd (app 16 x.2.2.fst [y.fst]) fun zs=>some (Sum.inl (zs,x.2.fst)))))
def dzj:CutSpec tb:=⟨83,[(1,.val 4),(5,.ref 28),(7,.own 26),(9,.ro 124),(10,.val 3)],[(.normal,[(7,.own 26)]),(.ret,[(4,.own 26),(6,.val 4)])],[32,33,34,35,36,11,37,38,39,40,41,42,43,44,45,46,47,48,49,50,51,53,54,52,55,56,57,12,13,14,58,59,60,61,62,63,64,65,4,6,66,67,68,69,7],jz8⟩
theorem vzF:∀ x,bzD Tryz.prog tb kzC [] (azf 83 Tryz.f160) dzj.ins dzj.outs x=dzj.J x:=fun x=>by kernel_rfl
theorem xzl:cutB Tryz.f160.ntmps dzj (azf 83 Tryz.f160)=true:=by kernel_rfl
theorem vzG:azg ([]:List (CutSpec tb)) (azf 83 Tryz.f160)=[]:=by kernel_rfl
theorem uzq:azi Tryz.prog tb Tryz.f160.ntmps (azf 83 Tryz.f160) dzj:=bzl mixed xzl jz7 rfl vzG .nil vzF
def ezH (back:Bool×Val×List (Dec)×Arg×Int→Option (((List (Dec))×Val)⊕((List (Dec)×Bool)×Val))) (x:Bool×Val×List (Dec)×Arg×Int):Option (((List (Dec))×Val)⊕((List (Dec)×Bool)×Val)) :=
 brn (decide (x.2.2.2.snd < (↑x.2.2.2.fst.L.length:Int)))
  (obnd (jz8 (x.fst,x.2.fst,x.2.2.fst,x.2.2.2)) fun y =>
   osum y (fun y=>back (x.fst,y.2,y.1,x.2.2.2.fst,IntKind.i64.wrap (x.2.2.2.snd+1))) fun y=>some (Sum.inr (y.1,y.2)))
  (some (Sum.inl (x.2.2.fst,x.2.fst)))
def nzb:Bool×Val×List (Dec)×Arg×Int→Option (((List (Dec))×Val)⊕((List (Dec)×Bool)×Val)):=iter ezH big
def ezG:CutSpec tb:=⟨68,[(1,.val 4),(5,.ref 28),(7,.own 26),(9,.ro 124),(10,.val 3)],[((.exit 2),[(7,.own 26)]),(.ret,[(4,.own 26),(6,.val 4)])],[25,26,27,28,29,32,33,34,35,36,11,37,38,39,40,41,42,43,44,45,46,47,48,49,50,51,53,54,52,55,56,57,12,13,14,58,59,60,61,62,63,64,65,4,6,66,67,68,69,7,30,31,10],nzb⟩
theorem vzJ:∀ back x,azy Tryz.prog tb kzC [dzj] (azd 68 Tryz.f160) ezG.ins ezG.outs back x=ezH back x:=fun back x=>by kernel_rfl
theorem xzn:cutB Tryz.f160.ntmps ezG (azd 68 Tryz.f160)=true:=by kernel_rfl
theorem vzK:azg ([dzj]:List (CutSpec tb)) (azd 68 Tryz.f160)=[(83,azf 83 Tryz.f160)]:=by kernel_rfl
theorem uzs:azi Tryz.prog tb Tryz.f160.ntmps (.loop (azd 68 Tryz.f160)) ezG:=azw mixed xzn jz7 rfl vzK (.cons rfl uzq rfl .nil) ezH vzJ rfl
def ezF (back:List Arg×Bool×Val×List (Dec)×Int→Option (((List (Dec))×Val)⊕((List (Dec)×Bool)×Val))) (x:List Arg×Bool×Val×List (Dec)×Int):Option (((List (Dec))×Val)⊕((List (Dec)×Bool)×Val)) :=
 brn (decide (x.2.2.2.snd < (↑x.fst.length:Int)))
  (obnd (idx x.fst x.2.2.2.snd) fun y =>
   obnd (nzb (x.2.fst,x.2.2.fst,x.2.2.2.fst,y,0)) fun y =>
    osum y (fun y=>back (x.fst,x.2.fst,y.2,y.1,IntKind.i64.wrap (x.2.2.2.snd+1))) fun y=>some (Sum.inr (y.1,y.2)))
  (some (Sum.inl (x.2.2.2.fst,x.2.2.fst)))
def jz9:List Arg×Bool×Val×List (Dec)×Int→Option (((List (Dec))×Val)⊕((List (Dec)×Bool)×Val)):=iter ezF big
def ezE:CutSpec tb:=⟨36,[(0,.val 22),(1,.val 4),(5,.ref 28),(7,.own 26),(8,.val 3)],[((.exit 0),[(7,.own 26)]),(.ret,[(4,.own 26),(6,.val 4)])],[15,16,17,18,21,22,23,24,9,10,25,26,27,28,29,32,33,34,35,36,11,37,38,39,40,41,42,43,44,45,46,47,48,49,50,51,53,54,52,55,56,57,12,13,14,58,59,60,61,62,63,64,65,4,6,66,67,68,69,7,30,31,19,20,8],jz9⟩
theorem vzH:∀ back x,azy Tryz.prog tb kzC [ezG] (azd 36 Tryz.f160) ezE.ins ezE.outs back x=ezF back x:=fun back x=>by kernel_rfl
theorem xzm:cutB Tryz.f160.ntmps ezE (azd 36 Tryz.f160)=true:=by kernel_rfl
theorem vzI:azg ([ezG]:List (CutSpec tb)) (azd 36 Tryz.f160)=[(68,.loop (azd 68 Tryz.f160))]:=by kernel_rfl
theorem uzr:azi Tryz.prog tb Tryz.f160.ntmps (.loop (azd 36 Tryz.f160)) ezE:=azw mixed xzm jz7 rfl vzI (.cons rfl uzs rfl .nil) ezF vzH rfl
def mzV (x:List Arg×Bool):Option (List (Dec)×Val×Bool) :=
 obnd (jz9 (x.fst,x.snd,{ Kind:=0,N:={ M:=0,S:=0 },S:=[],B:=false,E:=0 },[],0)) fun y =>
  osum y (fun y=>some (y.1,{ Kind:=0,N:={ M:=0,S:=0 },S:=[],B:=false,E:=0 },true)) fun y=>some (y.1.fst,y.2,y.1.snd)
def fzi:FSpec tb:=⟨[(0,.val 22),(1,.val 4)],[(0,.own 26),(1,.val 28),(2,.val 4)],mzV⟩
theorem BzR:∀ x,evFn Tryz.prog tb kzC [ezE] Tryz.f160 fzi.ins fzi.outs x=fzi.f x:=fun x=>by kernel_rfl
theorem Ezl:fnK Tryz.f160 fzi.ins fzi.outs=true:=by kernel_rfl
theorem BzS:azg ([ezE]:List (CutSpec tb)) (azA Tryz.f160)=[(36,.loop (azd 36 Tryz.f160))]:=by kernel_rfl
theorem vzL:aze Tryz.prog tb 160 fzi:=azJ mixed Tryz.func160 Ezl jz7 rfl BzS (.cons rfl uzr rfl .nil) BzR
def czB (x:Dec):Option (Val) :=
 some { Kind:=1,N:=x,S:=[],B:=false,E:=0 }
def dzD:FSpec tb:=⟨[(0,.val 26)],[(0,.val 28)],czB⟩
theorem GzF:∀ x,evFn Tryz.prog tb [] [] Tryz.f161 dzD.ins dzD.outs x=dzD.f x:=fun x=>by kernel_rfl
theorem IzP:fnK Tryz.f161 dzD.ins dzD.outs=true:=by kernel_rfl
theorem jz4:aze Tryz.prog tb 161 dzD:=azu mixed Tryz.func161 IzP .nil rfl GzF
abbrev uzu:List (Nat×FSpec tb):=[(108,izh)]
theorem vzb:azz Tryz.prog tb uzu:=(.cons zzC .nil)
def iz1 (back:List Dec×Dec×Dec×Int→Option (((Unit)×(Dec×Dec))⊕((Int)×(Dec×Dec)))) (x:List Dec×Dec×Dec×Int):Option (((Unit)×(Dec×Dec))⊕((Int)×(Dec×Dec))) :=
 brn (decide (x.2.2.snd < (↑x.fst.length:Int)))
  (obnd (idx x.fst x.2.2.snd) fun y =>
   obnd (mzy (x.2.2.fst,y)) fun y =>
    brn (!decide (y.snd=0)) (some (Sum.inr (y.snd,{ M:=0,S:=0 },x.2.2.fst))) (back (x.fst,x.2.fst,y.fst,IntKind.i64.wrap (x.2.2.snd+1))))
  (some (Sum.inl ((),x.2.fst,x.2.2.fst)))
def qzC:List Dec×Dec×Dec×Int→Option (((Unit)×(Dec×Dec))⊕((Int)×(Dec×Dec))):=iter iz1 big
def iz0:CutSpec tb:=⟨36,[(0,.val 240),(2,.ref 26),(4,.ref 26),(5,.val 3)],[((.exit 0),[]),(.ret,[(3,.val 3)])],[9,10,11,12,16,17,18,19,20,21,15,22,23,6,7,24,25,26,27,3,28,13,14,5],qzC⟩
theorem Ezt:∀ back x,azy Tryz.prog tb uzu [] (azd 36 Tryz.f163) iz0.ins iz0.outs back x=iz1 back x:=fun back x=>by kernel_rfl
theorem GzT:cutB Tryz.f163.ntmps iz0 (azd 36 Tryz.f163)=true:=by kernel_rfl
theorem Ezu:azg ([]:List (CutSpec tb)) (azd 36 Tryz.f163)=[]:=by kernel_rfl
theorem BzW:azi Tryz.prog tb Tryz.f163.ntmps (.loop (azd 36 Tryz.f163)) iz0:=azw mixed GzT vzb rfl Ezu .nil iz1 Ezt rfl
def ozH (x:List Dec):Option (Dec×Int) :=
 obnd (qzC (x,{ M:=0,S:=0 },{ M:=0,S:=0 },0)) fun y=>osum y (fun y=>some (y.2.snd,0)) fun y=>some (y.2.fst,y.1)
def lzk:FSpec tb:=⟨[(0,.val 240)],[(0,.val 26),(1,.val 3)],ozH⟩
theorem KzI:∀ x,evFn Tryz.prog tb uzu [iz0] Tryz.f163 lzk.ins lzk.outs x=lzk.f x:=fun x=>by kernel_rfl
theorem Mzt:fnK Tryz.f163 lzk.ins lzk.outs=true:=by kernel_rfl
theorem KzJ:azg ([iz0]:List (CutSpec tb)) (azA Tryz.f163)=[(36,.loop (azd 36 Tryz.f163))]:=by kernel_rfl
theorem Ezv:aze Tryz.prog tb 163 lzk:=azJ mixed Tryz.func163 Mzt vzb rfl KzJ (.cons rfl BzW rfl .nil) KzI
def czA (x:Dec×Int):Option (Val) :=
 brn (decide (x.snd=0)) (obnd (czB x.fst) fun y=>some y) (brn (decide (x.snd=9)) (obnd (azo 7) fun y=>some y) (obnd (azo 36) fun y=>some y))
def fz0:FSpec tb:=⟨[(0,.val 26),(1,.val 3)],[(0,.val 28)],czA⟩
theorem GzE:∀ x,evFn Tryz.prog tb [(161,dzD),(77,bzg)] [] Tryz.f113 fz0.ins fz0.outs x=fz0.f x:=fun x=>by kernel_rfl
theorem IzO:fnK Tryz.f113 fz0.ins fz0.outs=true:=by kernel_rfl
theorem qzS:aze Tryz.prog tb 113 fz0:=azu mixed Tryz.func113 IzO (.cons jz4 (.cons bzj .nil)) rfl GzE
abbrev qzB:List (Nat×FSpec tb):=[(159,dzI),(77,bzg),(160,fzi),(161,dzD),(162,czZ),(163,lzk),(111,izk),(113,fz0)]
theorem rz2:azz Tryz.prog tb qzB:=(.cons mzx (.cons bzj (.cons vzL (.cons jz4 (.cons nz6 (.cons Ezv (.cons zzG (.cons qzS .nil))))))))
def fzg (back:Int×List Dec×Dec×Int→Option ((Unit)×Dec)) (x:Int×List Dec×Dec×Int):Option ((Unit)×Dec) :=
 brn (decide (x.2.2.snd < (↑x.2.fst.length:Int)))
  (obnd (idx x.2.fst x.2.2.snd) fun y =>
   obnd (dzU (y,x.2.2.fst)) fun y =>
    brn (decide (x.2.2.snd=0)) (obnd (idx x.2.fst x.2.2.snd) fun y=>back (x.fst,x.2.fst,y,IntKind.i64.wrap (x.2.2.snd+1)))
     (brn (decide (x.fst=1))
      (brn (decide (y < 0)) (obnd (idx x.2.fst x.2.2.snd) fun y=>back (x.fst,x.2.fst,y,IntKind.i64.wrap (x.2.2.snd+1)))
       (brn (decide (x.fst=2))
        (brn (decide (0 < y)) (obnd (idx x.2.fst x.2.2.snd) fun y=>back (x.fst,x.2.fst,y,IntKind.i64.wrap (x.2.2.snd+1)))
         (back (x.fst,x.2.fst,x.2.2.fst,IntKind.i64.wrap (x.2.2.snd+1))))
        (back (x.fst,x.2.fst,x.2.2.fst,IntKind.i64.wrap (x.2.2.snd+1)))))
      (brn (decide (x.fst=2))
       (brn (decide (0 < y)) (obnd (idx x.2.fst x.2.2.snd) fun y=>back (x.fst,x.2.fst,y,IntKind.i64.wrap (x.2.2.snd+1)))
        (back (x.fst,x.2.fst,x.2.2.fst,IntKind.i64.wrap (x.2.2.snd+1))))
       (back (x.fst,x.2.fst,x.2.2.fst,IntKind.i64.wrap (x.2.2.snd+1))))))
  (some ((),x.2.2.fst))
def lzi:Int×List Dec×Dec×Int→Option ((Unit)×Dec):=iter fzg big
def fzf:CutSpec tb:=⟨116,[(0,.val 3),(5,.val 240),(8,.ref 26),(9,.val 3)],[((.exit 1),[])],[39,40,41,42,45,46,47,48,49,50,10,51,52,53,54,55,56,57,58,59,60,61,62,63,64,65,66,67,68,69,70,71,72,43,44,9],lzi⟩
theorem xzf:∀ back x,azy Tryz.prog tb qzB [] (azd 116 Tryz.f69) fzf.ins fzf.outs back x=fzg back x:=fun back x=>by kernel_rfl
theorem zzn:cutB Tryz.f69.ntmps fzf (azd 116 Tryz.f69)=true:=by kernel_rfl
theorem xzg:azg ([]:List (CutSpec tb)) (azd 116 Tryz.f69)=[]:=by kernel_rfl
theorem vzx:azi Tryz.prog tb Tryz.f69.ntmps (.loop (azd 116 Tryz.f69)) fzf:=azw mixed zzn rz2 rfl xzg .nil fzg xzf rfl
def lzE (x:Int×List Arg):Option (Val) :=
 obnd (izZ x.snd) fun y =>
  brn (!y) (obnd (azo 15) fun y=>some y)
   (obnd (mzV (x.snd,decide (x.fst=3))) fun y =>
    brn (!y.2.snd) (some y.2.fst)
     (brn (decide (x.fst=3)) (obnd (czB { M:=(↑(List.length y.fst):Int),S:=0 }) fun y=>some y)
      (brn (decide (x.fst=1))
       (brn (decide (x.fst=1)) (obnd (lzi (x.fst,y.fst,{ M:=0,S:=0 },0)) fun y=>obnd (czB y.2) fun y=>some y)
        (obnd (ozH y.fst) fun y_1 =>
         brn (decide (y_1.snd=0))
          (brn (decide (x.fst=4)) (obnd (fz4 (y_1.fst,{ M:=(↑(List.length y.fst):Int),S:=0 })) fun y=>obnd (czA y) fun y=>some y)
           (obnd (czA y_1) fun y=>some y))
          (obnd (czA y_1) fun y=>some y)))
       (brn (decide (x.fst=2)) (obnd (lzi (x.fst,y.fst,{ M:=0,S:=0 },0)) fun y=>obnd (czB y.2) fun y=>some y)
        (obnd (ozH y.fst) fun y_1 =>
         brn (decide (y_1.snd=0))
          (brn (decide (x.fst=4)) (obnd (fz4 (y_1.fst,{ M:=(↑(List.length y.fst):Int),S:=0 })) fun y=>obnd (czA y) fun y=>some y)
           (obnd (czA y_1) fun y=>some y))
          (obnd (czA y_1) fun y=>some y))))))
def gzH:FSpec tb:=⟨[(0,.val 3),(1,.val 22)],[(0,.val 28)],lzE⟩
theorem Ezh:∀ x,evFn Tryz.prog tb qzB [fzf] Tryz.f69 gzH.ins gzH.outs x=gzH.f x:=fun x=>by kernel_rfl
theorem GzN:fnK Tryz.f69 gzH.ins gzH.outs=true:=by kernel_rfl
theorem Ezi:azg ([fzf]:List (CutSpec tb)) (azA Tryz.f69)=[(116,.loop (azd 116 Tryz.f69))]:=by kernel_rfl
theorem xzh:aze Tryz.prog tb 69 gzH:=azJ mixed Tryz.func69 GzN rz2 rfl Ezi (.cons rfl vzx rfl .nil) Ezh
def fzr (back:List Arg×Int→Option ((Unit)⊕(Bool))) (x:List Arg×Int):Option ((Unit)⊕(Bool)) :=
 brn (decide (x.snd < (↑x.fst.length:Int)))
  (obnd (idx x.fst x.snd) fun y =>
   brn y.Area (some (Sum.inr false)) (obnd (idx x.fst x.snd) fun y=>brn (!decide ((↑y.L.length:Int)=1)) (some (Sum.inr false)) (back (x.fst,IntKind.i64.wrap (x.snd+1)))))
  (some (Sum.inl PUnit.unit))
def nzR:List Arg×Int→Option ((Unit)⊕(Bool)):=iter fzr big
def fzq:CutSpec tb:=⟨44,[(0,.val 22),(7,.val 3)],[((.exit 0),[]),(.ret,[(6,.val 4)])],[18,19,20,21,24,25,26,27,28,29,30,31,32,33,34,35,36,37,6,22,23,7],nzR⟩
theorem xzB:∀ back x,azy Tryz.prog tb [] [] (azd 44 Tryz.f164) fzq.ins fzq.outs back x=fzr back x:=fun back x=>by kernel_rfl
theorem zzx:cutB Tryz.f164.ntmps fzq (azd 44 Tryz.f164)=true:=by kernel_rfl
theorem xzC:azg ([]:List (CutSpec tb)) (azd 44 Tryz.f164)=[]:=by kernel_rfl
theorem vzU:azi Tryz.prog tb Tryz.f164.ntmps (.loop (azd 44 Tryz.f164)) fzq:=azw mixed zzx .nil rfl xzC .nil fzr xzB rfl
def az3 (x:List Arg×Int×Int):Option (Bool) :=
 brn (decide ((↑x.fst.length:Int) < x.2.fst)) (some false)
  (brn (decide (x.2.snd < (↑x.fst.length:Int))) (some false) (obnd (nzR (x.fst,0)) fun y=>osum y (fun y=>some true) fun y=>some y))
def czD:FSpec tb:=⟨[(0,.val 22),(1,.val 3),(2,.val 3)],[(0,.val 4)],az3⟩
theorem Ezr:∀ x,evFn Tryz.prog tb [] [fzq] Tryz.f164 czD.ins czD.outs x=czD.f x:=fun x=>by kernel_rfl
theorem GzS:fnK Tryz.f164 czD.ins czD.outs=true:=by kernel_rfl
theorem Ezs:azg ([fzq]:List (CutSpec tb)) (azA Tryz.f164)=[(44,.loop (azd 44 Tryz.f164))]:=by kernel_rfl
theorem fz3:aze Tryz.prog tb 164 czD:=azJ mixed Tryz.func164 GzS .nil rfl Ezs (.cons rfl vzU rfl .nil) Ezr
def hzJ (back:Int×Int×Int→Option ((Int)⊕(Int×Int))) (x:Int×Int×Int):Option ((Int)⊕(Int×Int)) :=
 brn (decide (x.2.snd < x.fst))
  (brn (decide (922337203685477580 < x.2.fst)) (some (Sum.inr (0,8)))
   (brn (decide (x.2.fst < -922337203685477580)) (some (Sum.inr (0,8))) (back (x.fst,IntKind.i64.wrap (10*x.2.fst),IntKind.i64.wrap (x.2.snd+1)))))
  (some (Sum.inl x.2.1))
def pzA:Int×Int×Int→Option ((Int)⊕(Int×Int)):=iter hzJ big
def hzI:CutSpec tb:=⟨36,[(1,.val 3),(6,.val 2),(7,.val 3)],[((.exit 0),[(6,.val 2)]),(.ret,[(4,.val 2),(5,.val 3)])],[12,13,14,17,18,19,20,21,22,4,5,23,24,6,15,16,7],pzA⟩
theorem BzO:∀ back x,azy Tryz.prog tb [] [] (azd 36 Tryz.f225) hzI.ins hzI.outs back x=hzJ back x:=fun back x=>by kernel_rfl
theorem Ezk:cutB Tryz.f225.ntmps hzI (azd 36 Tryz.f225)=true:=by kernel_rfl
theorem BzP:azg ([]:List (CutSpec tb)) (azd 36 Tryz.f225)=[]:=by kernel_rfl
theorem zzo:azi Tryz.prog tb Tryz.f225.ntmps (.loop (azd 36 Tryz.f225)) hzI:=azw mixed Ezk .nil rfl BzP .nil hzJ BzO rfl
def nzm (x:Dec×Int):Option (Int×Int) :=
 obnd (pzA (x.snd,x.fst.M,x.fst.S)) fun y=>osum y (fun y=>some (y,0)) fun y=>some y
def jzR:FSpec tb:=⟨[(0,.val 26),(1,.val 3)],[(0,.val 2),(1,.val 3)],nzm⟩
theorem IzV:∀ x,evFn Tryz.prog tb [] [hzI] Tryz.f225 jzR.ins jzR.outs x=jzR.f x:=fun x=>by kernel_rfl
theorem KzH:fnK Tryz.f225 jzR.ins jzR.outs=true:=by kernel_rfl
theorem IzW:azg ([hzI]:List (CutSpec tb)) (azA Tryz.f225)=[(36,.loop (azd 36 Tryz.f225))]:=by kernel_rfl
theorem BzQ:aze Tryz.prog tb 225 jzR:=azJ mixed Tryz.func225 KzH .nil rfl IzW (.cons rfl zzo rfl .nil) IzV
abbrev uzm:List (Nat×FSpec tb):=[(225,jzR),(226,lzl)]
theorem vza:azz Tryz.prog tb uzm:=(.cons BzQ (.cons EzG .nil))
def nzu (x:Dec×Int×Bool):Option (Int) :=
 brn x.2.snd (some x.fst.2) (some x.2.1)
def gzE:CutSpec tb:=⟨50,[(3,.ro 26),(6,.val 3),(21,.val 4)],[(.normal,[(6,.val 3)])],[22,23,6],nzu⟩
theorem Dz7:∀ x,bzD Tryz.prog tb uzm [] (azf 50 Tryz.f166) gzE.ins gzE.outs x=gzE.J x:=fun x=>by kernel_rfl
theorem GzB:cutB Tryz.f166.ntmps gzE (azf 50 Tryz.f166)=true:=by kernel_rfl
theorem Dz8:azg ([]:List (CutSpec tb)) (azf 50 Tryz.f166)=[]:=by kernel_rfl
theorem BzK:azi Tryz.prog tb Tryz.f166.ntmps (azf 50 Tryz.f166) gzE:=bzl mixed GzB vza rfl Dz8 .nil Dz7
def rze (x:Dec×Dec):Option (Dec×Int) :=
 brn (decide (x.snd.M=0)) (some ({ M:=0,S:=0 },9))
  (obnd (nzu (x.snd,x.fst.S,decide (x.fst.S < x.snd.S))) fun y =>
   obnd (nzm (x.fst,y)) fun y_1 =>
    brn (!decide (y_1.snd=0)) (some ({ M:=0,S:=0 },y_1.snd))
     (obnd (nzm (x.snd,y)) fun y_2 =>
      brn (!decide (y_2.snd=0)) (some ({ M:=0,S:=0 },y_2.snd))
       (brn (!decide (y_2.fst = -1))
        (brn (decide (y_2.fst=0)) none
         (brn (!decide (Int.tmod y_1.fst y_2.fst=0))
          (brn (!decide (decide (Int.tmod y_1.fst y_2.fst < 0)=decide (y_2.fst < 0)))
           (obnd (jzp { M:=IntKind.i64.wrap (Int.tmod y_1.fst y_2.fst+y_2.fst),S:=y }) fun y=>some (y,0))
           (obnd (jzp { M:=Int.tmod y_1.fst y_2.fst,S:=y }) fun y=>some (y,0)))
          (obnd (jzp { M:=Int.tmod y_1.fst y_2.fst,S:=y }) fun y=>some (y,0))))
        (obnd (jzp { M:=0,S:=y }) fun y=>some (y,0)))))
def lzh:FSpec tb:=⟨[(0,.val 26),(1,.val 26)],[(0,.val 26),(1,.val 3)],rze⟩
theorem KzF:∀ x,evFn Tryz.prog tb uzm [gzE] Tryz.f166 lzh.ins lzh.outs x=lzh.f x:=fun x=>by kernel_rfl
theorem Mzs:fnK Tryz.f166 lzh.ins lzh.outs=true:=by kernel_rfl
theorem KzG:azg ([gzE]:List (CutSpec tb)) (azA Tryz.f166)=[(50,azf 50 Tryz.f166)]:=by kernel_rfl
theorem Dz9:aze Tryz.prog tb 166 lzh:=azJ mixed Tryz.func166 Mzs vza rfl KzG (.cons rfl BzK rfl .nil) KzF
def rz1 (x:Dec×Int×Int):Option (Int×Bool) :=
 brn (decide (x.fst.S=0)) (brn (decide (x.2.fst≤x.fst.M)) (some (x.fst.M,decide (x.fst.M≤x.2.snd))) (some (x.fst.M,false))) (some (x.fst.M,false))
def izc:FSpec tb:=⟨[(0,.val 26),(1,.val 2),(2,.val 2)],[(0,.val 3),(1,.val 4)],rz1⟩
theorem GzI:∀ x,evFn Tryz.prog tb [] [] Tryz.f167 izc.ins izc.outs x=izc.f x:=fun x=>by kernel_rfl
theorem IzS:fnK Tryz.f167 izc.ins izc.outs=true:=by kernel_rfl
theorem zzh:aze Tryz.prog tb 167 izc:=azu mixed Tryz.func167 IzS .nil rfl GzI
abbrev pzB:List (Nat×FSpec tb):=[(164,czD),(77,bzg),(107,czz),(109,izl),(162,czZ),(165,fzC),(166,lzh),(167,izc),(168,fzE),(113,fz0)]
theorem qzT:azz Tryz.prog tb pzB:=(.cons fz3 (.cons bzj (.cons fzZ (.cons zzL (.cons nz6 (.cons vz4 (.cons Dz9 (.cons zzh (.cons wzi (.cons qzS .nil))))))))))
def gzV (x:Val×Dec×Dec×Dec×Int×Int):Option (((Int)×(Val×Dec))⊕((Unit)×(Val×Dec))) :=
 brn (decide (x.2.2.2.2.snd=5))
  (brn (decide (x.2.fst.M < 0)) (obnd (kzG ({ M:=0,S:=0 },x.2.fst)) fun y=>some (Sum.inl (y.snd,x.fst,y.fst))) (some (Sum.inl (x.2.2.2.2.fst,x.fst,x.2.fst))))
  (brn (decide (x.2.2.2.2.snd=6)) (obnd (dzU (x.2.fst,{ M:=0,S:=0 })) fun y=>some (Sum.inl (x.2.2.2.2.fst,x.fst,{ M:=y,S:=0 })))
   (brn (decide (x.2.2.2.2.snd=7)) (obnd (hzL x.2.fst) fun y=>some (Sum.inl (y.snd,x.fst,y.fst)))
    (brn (decide (x.2.2.2.2.snd=8)) (obnd (rze (x.2.fst,x.2.2.fst)) fun y=>some (Sum.inl (y.snd,x.fst,y.fst)))
     (brn (decide (x.2.2.2.2.snd=9))
      (obnd (rz1 (x.2.2.fst,-18,9)) fun y =>
       brn (!y.snd) (obnd (azo 36) fun y=>some (Sum.inr ((),y,x.2.2.2.fst)))
        (obnd (mzX (x.2.fst,y.fst)) fun y=>some (Sum.inl (y.snd,x.fst,y.fst))))
      (some (Sum.inl (x.2.2.2.2.fst,x.fst,x.2.2.2.fst)))))))
def dzk:CutSpec tb:=⟨155,[(4,.ref 28),(6,.ro 26),(9,.ro 26),(13,.ref 26),(14,.val 3),(58,.val 3)],[(.normal,[(14,.val 3)]),(.ret,[])],[60,59,61,62,63,64,66,67,68,65,69,70,14,72,71,73,74,75,76,78,77,80,81,79,82,83,85,84,87,88,89,86,90,91,93,92,95,96,94,97,98,15,16,99,100,101,103,104,105,102,106,107],gzV⟩
theorem vzM:∀ x,bzD Tryz.prog tb pzB [] (azf 155 Tryz.f70) dzk.ins dzk.outs x=dzk.J x:=fun x=>by kernel_rfl
theorem xzo:cutB Tryz.f70.ntmps dzk (azf 155 Tryz.f70)=true:=by kernel_rfl
theorem vzN:azg ([]:List (CutSpec tb)) (azf 155 Tryz.f70)=[]:=by kernel_rfl
theorem uzt:azi Tryz.prog tb Tryz.f70.ntmps (azf 155 Tryz.f70) dzk:=bzl mixed xzo qzT rfl vzN .nil vzM
def kzD (x:Int×List Arg):Option (Val) :=
 brn (decide (8≤x.fst))
  (obnd (az3 (x.snd,2,2)) fun y =>
   brn (!y) (obnd (azo 15) fun y=>some y)
    (obnd (idx x.snd 0) fun y =>
     obnd (idx y.L 0) fun y =>
      obnd (bzm y) fun y =>
       brn (!y.2.snd) (some y.2.fst)
        (obnd (idx x.snd 1) fun y_1 =>
         obnd (idx y_1.L 0) fun y_2 =>
          obnd (bzm y_2) fun y_3 =>
           brn (!y_3.2.snd) (some y_3.2.fst)
            (obnd (gzV ({ Kind:=0,N:={ M:=0,S:=0 },S:=[],B:=false,E:=0 },y.fst,y_3.fst,{ M:=0,S:=0 },0,x.fst)) fun y =>
             osum y (fun y=>obnd (czA (y.2.snd,y.1)) fun y=>some y) fun y=>some y.2.fst))))
  (obnd (az3 (x.snd,1,1)) fun y =>
   brn (!y) (obnd (azo 15) fun y=>some y)
    (obnd (idx x.snd 0) fun y =>
     obnd (idx y.L 0) fun y =>
      obnd (bzm y) fun y =>
       brn (!y.2.snd) (some y.2.fst)
        (obnd (gzV ({ Kind:=0,N:={ M:=0,S:=0 },S:=[],B:=false,E:=0 },y.fst,{ M:=0,S:=0 },{ M:=0,S:=0 },0,x.fst)) fun y =>
         osum y (fun y=>obnd (czA (y.2.snd,y.1)) fun y=>some y) fun y=>some y.2.fst)))
def fzj:FSpec tb:=⟨[(0,.val 3),(1,.val 22)],[(0,.val 28)],kzD⟩
theorem BzT:∀ x,evFn Tryz.prog tb pzB [dzk] Tryz.f70 fzj.ins fzj.outs x=fzj.f x:=fun x=>by kernel_rfl
theorem Ezm:fnK Tryz.f70 fzj.ins fzj.outs=true:=by kernel_rfl
theorem BzU:azg ([dzk]:List (CutSpec tb)) (azA Tryz.f70)=[(155,azf 155 Tryz.f70)]:=by kernel_rfl
theorem vzO:aze Tryz.prog tb 70 fzj:=azJ mixed Tryz.func70 Ezm qzT rfl BzU (.cons rfl uzt rfl .nil) BzT
def dzH (x:Bool):Option (Val) :=
 some { Kind:=3,N:={ M:=0,S:=0 },S:=[],B:=x,E:=0 }
def cz4:FSpec tb:=⟨[(0,.val 4)],[(0,.val 28)],dzH⟩
theorem Ezb:∀ x,evFn Tryz.prog tb [] [] Tryz.f104 cz4.ins cz4.outs x=cz4.f x:=fun x=>by kernel_rfl
theorem GzD:fnK Tryz.f104 cz4.ins cz4.outs=true:=by kernel_rfl
theorem jzo:aze Tryz.prog tb 104 cz4:=azu mixed Tryz.func104 GzD .nil rfl Ezb
abbrev nzv:List (Nat×FSpec tb):=[(77,bzg),(164,czD),(107,czz),(169,ezv),(104,cz4)]
theorem nzM:azz Tryz.prog tb nzv:=(.cons bzj (.cons fz3 (.cons fzZ (.cons mz7 (.cons jzo .nil)))))
def ize (x:List Arg×Val×Bool):Option (((Unit)×Val)⊕((Unit)×Val)) :=
 brn x.2.snd
  (brn (!decide ((↑x.fst.length:Int)=2)) (obnd (azo 15) fun y=>some (Sum.inr ((),y)))
   (obnd (idx x.fst 0) fun y =>
    brn (!y.Area) (obnd (azo 15) fun y=>some (Sum.inr ((),y)))
     (obnd (sub x.fst 1 (↑x.fst.length:Int)) fun z =>
      obnd (az3 (z,1,1)) fun y =>
       brn (!y) (obnd (azo 15) fun y=>some (Sum.inr ((),y)))
        (obnd (idx x.fst 1) fun y =>
         obnd (idx y.L 0) fun y =>
          obnd (bzm y) fun y =>
           brn (!y.2.snd) (some (Sum.inr ((),y.2.fst)))
            (brn (!decide (y.fst.S=0)) (obnd (azo 15) fun y=>some (Sum.inr ((),y)))
             (brn (decide (y.fst.M < 1)) (obnd (azo 23) fun y=>some (Sum.inr ((),y)))
              (obnd (idx x.fst 0) fun y_1 =>
               brn (decide ((↑y_1.L.length:Int) < y.fst.M)) (obnd (azo 23) fun y=>some (Sum.inr ((),y)))
                (obnd (idx x.fst 0) fun y_2=>obnd (idx y_2.L (IntKind.i64.wrap (y.fst.M - 1))) fun y=>some (Sum.inr ((),y))))))))))
  (some (Sum.inl ((),x.2.fst)))
def dzN:CutSpec tb:=⟨42,[(1,.val 22),(4,.ref 28),(21,.val 4)],[(.normal,[]),(.ret,[])],[22,23,24,25,26,27,28,29,30,31,32,33,34,35,36,37,38,40,41,42,43,44,45,46,39,47,48,49,5,6,7,50,51,52,53,54,55,56,57,58,59,60,61,62,63,64,65,66,67,68,69,70,71,72,73,74,75,76,77,78,79],ize⟩
theorem wz5:∀ x,bzD Tryz.prog tb nzv [] (azf 42 Tryz.f71) dzN.ins dzN.outs x=dzN.J x:=fun x=>by kernel_rfl
theorem zzj:cutB Tryz.f71.ntmps dzN (azf 42 Tryz.f71)=true:=by kernel_rfl
theorem wz6:azg ([]:List (CutSpec tb)) (azf 42 Tryz.f71)=[]:=by kernel_rfl
theorem vzt:azi Tryz.prog tb Tryz.f71.ntmps (azf 42 Tryz.f71) dzN:=bzl mixed zzj nzM rfl wz6 .nil wz5
def az4 (x:List Arg×Val×Val×Int×Int):Option (((Int)×Val)⊕((Unit)×Val)) :=
 brn (decide (x.2.2.2.snd=10))
  (brn (decide ((↑x.fst.length:Int) < 2)) (obnd (azo 15) fun y=>some (Sum.inr ((),y)))
   (brn (decide (3 < (↑x.fst.length:Int))) (obnd (azo 15) fun y=>some (Sum.inr ((),y)))
    (obnd (czX x.2.2.fst) fun y =>
     brn (!y.2.snd) (some (Sum.inr ((),y.2.fst)))
      (brn (!y.fst) (brn (decide ((↑x.fst.length:Int)≤2)) (obnd (dzH false) fun y=>some (Sum.inr ((),y))) (some (Sum.inl (2,x.2.fst))))
       (brn (decide ((↑x.fst.length:Int)≤1)) (obnd (dzH false) fun y=>some (Sum.inr ((),y))) (some (Sum.inl (1,x.2.fst))))))))
  (brn (decide (x.2.2.2.snd=23))
   (brn (!decide ((↑x.fst.length:Int)=2)) (obnd (azo 15) fun y=>some (Sum.inr ((),y)))
    (brn (decide (x.2.2.fst.Kind=4)) (some (Sum.inl (1,x.2.fst))) (some (Sum.inl (x.2.2.2.fst,x.2.fst)))))
   (brn (decide (x.2.2.2.snd=25))
    (obnd (bzm x.2.2.fst) fun y =>
     brn (!y.2.snd) (some (Sum.inr ((),y.2.fst)))
      (brn (!decide (y.fst.S=0)) (obnd (azo 15) fun y=>some (Sum.inr ((),y)))
       (brn (decide (y.fst.M < 1)) (obnd (azo 15) fun y=>some (Sum.inr ((),y)))
        (brn (decide ((↑x.fst.length:Int)≤y.fst.M)) (obnd (azo 15) fun y=>some (Sum.inr ((),y))) (some (Sum.inl (y.fst.M,x.2.fst)))))))
    (some (Sum.inl (x.2.2.2.fst,x.2.fst)))))
def dzO:CutSpec tb:=⟨163,[(1,.val 22),(4,.ref 28),(8,.ro 28),(9,.val 3),(100,.val 3)],[(.normal,[(9,.val 3)]),(.ret,[])],[102,101,103,104,105,106,107,108,109,110,111,113,114,112,115,116,117,11,10,12,118,119,120,9,121,122,123,124,125,126,127,129,128,130,131,132,133,134,135,136,138,137,140,141,139,142,143,144,13,14,15,145,146,147,148,149,150,151,152,153,154,155,156,157,158,159,160,161,162,163,164,165],az4⟩
theorem wz7:∀ x,bzD Tryz.prog tb nzv [] (azf 163 Tryz.f71) dzO.ins dzO.outs x=dzO.J x:=fun x=>by kernel_rfl
theorem zzk:cutB Tryz.f71.ntmps dzO (azf 163 Tryz.f71)=true:=by kernel_rfl
theorem wz8:azg ([]:List (CutSpec tb)) (azf 163 Tryz.f71)=[]:=by kernel_rfl
theorem vzu:azi Tryz.prog tb Tryz.f71.ntmps (azf 163 Tryz.f71) dzO:=bzl mixed zzk nzM rfl wz8 .nil wz7
def bzd (x:Int×List Arg):Option (Val) :=
 brn (decide ((↑x.snd.length:Int)=0)) (obnd (azo 15) fun y=>some y)
  (obnd (ize (x.snd,{ Kind:=0,N:={ M:=0,S:=0 },S:=[],B:=false,E:=0 },decide (x.fst=24))) fun y =>
   osum y
    (fun y =>
     brn (decide (x.fst=25))
      (brn (decide ((↑x.snd.length:Int) < 2)) (obnd (azo 15) fun y=>some y)
       (obnd (sub x.snd 0 1) fun z =>
        obnd (az3 (z,1,1)) fun y_1 =>
         brn (!y_1) (obnd (azo 15) fun y=>some y)
          (obnd (idx x.snd 0) fun y_2 =>
           obnd (idx y_2.L 0) fun y_3 =>
            obnd (az4 (x.snd,y.2,y_3,0,x.fst)) fun y =>
             osum y
              (fun y =>
               obnd (sub x.snd y.1 (IntKind.i64.wrap (y.1+1))) fun z =>
                obnd (az3 (z,1,1)) fun y_4 =>
                 brn (!y_4) (obnd (azo 15) fun y=>some y) (obnd (idx x.snd y.1) fun y=>obnd (idx y.L 0) fun y=>some y))
              fun y=>some y.2)))
      (obnd (sub x.snd 0 1) fun z =>
       obnd (az3 (z,1,1)) fun y_1 =>
        brn (!y_1) (obnd (azo 15) fun y=>some y)
         (obnd (idx x.snd 0) fun y_2 =>
          obnd (idx y_2.L 0) fun y_3 =>
           obnd (az4 (x.snd,y.2,y_3,0,x.fst)) fun y =>
            osum y
             (fun y =>
              obnd (sub x.snd y.1 (IntKind.i64.wrap (y.1+1))) fun z =>
               obnd (az3 (z,1,1)) fun y_4 =>
                brn (!y_4) (obnd (azo 15) fun y=>some y) (obnd (idx x.snd y.1) fun y=>obnd (idx y.L 0) fun y=>some y))
             fun y=>some y.2)))
    fun y=>some y.2)
def gzF:FSpec tb:=⟨[(0,.val 3),(1,.val 22)],[(0,.val 28)],bzd⟩
theorem Ezd:∀ x,evFn Tryz.prog tb nzv [dzN,dzO] Tryz.f71 gzF.ins gzF.outs x=gzF.f x:=fun x=>by kernel_rfl
theorem GzL:fnK Tryz.f71 gzF.ins gzF.outs=true:=by kernel_rfl
theorem Eze:azg ([dzN,dzO]:List (CutSpec tb)) (azA Tryz.f71)=[(42,azf 42 Tryz.f71),(163,azf 163 Tryz.f71)]:=by kernel_rfl
theorem wz9:aze Tryz.prog tb 71 gzF:=azJ mixed Tryz.func71 GzL nzM rfl Eze (.cons rfl vzt rfl (.cons rfl vzu rfl .nil)) Ezd
abbrev nzx:List (Nat×FSpec tb):=[(159,dzI),(77,bzg),(169,ezv),(104,cz4)]
theorem nzS:azz Tryz.prog tb nzx:=(.cons mzx (.cons bzj (.cons mz7 (.cons jzo .nil))))
def fzv (back:Int×Val×Int×Bool×Arg×Int→Option (((Int×Bool)×Val)⊕((Unit)×Val))) (x:Int×Val×Int×Bool×Arg×Int):Option (((Int×Bool)×Val)⊕((Unit)×Val)) :=
 brn (decide (x.2.2.2.2.snd < (↑x.2.2.2.2.fst.L.length:Int)))
  (obnd (idx x.2.2.2.2.fst.L x.2.2.2.2.snd) fun y =>
   brn x.2.2.2.2.fst.Area
    (brn (!decide (y.Kind=1))
     (brn (!decide (y.Kind=3))
      (brn (!decide (y.Kind=4)) (back (x.fst,x.2.fst,x.2.2.fst,x.2.2.2.fst,x.2.2.2.2.fst,IntKind.i64.wrap (x.2.2.2.2.snd+1)))
       (obnd (czX y) fun y =>
        brn (!y.2.snd) (some (Sum.inr ((),y.2.fst)))
         (brn (decide (x.fst=11))
          (brn x.2.2.2.fst (back (x.fst,x.2.fst,IntKind.i64.wrap (x.2.2.fst+1),y.fst,x.2.2.2.2.fst,IntKind.i64.wrap (x.2.2.2.2.snd+1)))
           (back (x.fst,x.2.fst,IntKind.i64.wrap (x.2.2.fst+1),false,x.2.2.2.2.fst,IntKind.i64.wrap (x.2.2.2.2.snd+1))))
          (brn x.2.2.2.fst (back (x.fst,x.2.fst,IntKind.i64.wrap (x.2.2.fst+1),true,x.2.2.2.2.fst,IntKind.i64.wrap (x.2.2.2.2.snd+1)))
           (back (x.fst,x.2.fst,IntKind.i64.wrap (x.2.2.fst+1),y.fst,x.2.2.2.2.fst,IntKind.i64.wrap (x.2.2.2.2.snd+1)))))))
      (obnd (czX y) fun y =>
       brn (!y.2.snd) (some (Sum.inr ((),y.2.fst)))
        (brn (decide (x.fst=11))
         (brn x.2.2.2.fst (back (x.fst,x.2.fst,IntKind.i64.wrap (x.2.2.fst+1),y.fst,x.2.2.2.2.fst,IntKind.i64.wrap (x.2.2.2.2.snd+1)))
          (back (x.fst,x.2.fst,IntKind.i64.wrap (x.2.2.fst+1),false,x.2.2.2.2.fst,IntKind.i64.wrap (x.2.2.2.2.snd+1))))
         (brn x.2.2.2.fst (back (x.fst,x.2.fst,IntKind.i64.wrap (x.2.2.fst+1),true,x.2.2.2.2.fst,IntKind.i64.wrap (x.2.2.2.2.snd+1)))
          (back (x.fst,x.2.fst,IntKind.i64.wrap (x.2.2.fst+1),y.fst,x.2.2.2.2.fst,IntKind.i64.wrap (x.2.2.2.2.snd+1)))))))
     (obnd (czX y) fun y =>
      brn (!y.2.snd) (some (Sum.inr ((),y.2.fst)))
       (brn (decide (x.fst=11))
        (brn x.2.2.2.fst (back (x.fst,x.2.fst,IntKind.i64.wrap (x.2.2.fst+1),y.fst,x.2.2.2.2.fst,IntKind.i64.wrap (x.2.2.2.2.snd+1)))
         (back (x.fst,x.2.fst,IntKind.i64.wrap (x.2.2.fst+1),false,x.2.2.2.2.fst,IntKind.i64.wrap (x.2.2.2.2.snd+1))))
        (brn x.2.2.2.fst (back (x.fst,x.2.fst,IntKind.i64.wrap (x.2.2.fst+1),true,x.2.2.2.2.fst,IntKind.i64.wrap (x.2.2.2.2.snd+1)))
         (back (x.fst,x.2.fst,IntKind.i64.wrap (x.2.2.fst+1),y.fst,x.2.2.2.2.fst,IntKind.i64.wrap (x.2.2.2.2.snd+1)))))))
    (obnd (czX y) fun y =>
     brn (!y.2.snd) (some (Sum.inr ((),y.2.fst)))
      (brn (decide (x.fst=11))
       (brn x.2.2.2.fst (back (x.fst,x.2.fst,IntKind.i64.wrap (x.2.2.fst+1),y.fst,x.2.2.2.2.fst,IntKind.i64.wrap (x.2.2.2.2.snd+1)))
        (back (x.fst,x.2.fst,IntKind.i64.wrap (x.2.2.fst+1),false,x.2.2.2.2.fst,IntKind.i64.wrap (x.2.2.2.2.snd+1))))
       (brn x.2.2.2.fst (back (x.fst,x.2.fst,IntKind.i64.wrap (x.2.2.fst+1),true,x.2.2.2.2.fst,IntKind.i64.wrap (x.2.2.2.2.snd+1)))
        (back (x.fst,x.2.fst,IntKind.i64.wrap (x.2.2.fst+1),y.fst,x.2.2.2.2.fst,IntKind.i64.wrap (x.2.2.2.2.snd+1)))))))
  (some (Sum.inl ((x.2.2.fst,x.2.2.2.fst),x.2.fst)))
def nzU:Int×Val×Int×Bool×Arg×Int→Option (((Int×Bool)×Val)⊕((Unit)×Val)):=iter fzv big
def fzu:CutSpec tb:=⟨92,[(0,.val 3),(4,.ref 28),(5,.val 3),(6,.val 4),(8,.ro 124),(9,.val 3)],[((.exit 2),[(5,.val 3),(6,.val 4)]),(.ret,[])],[30,31,32,33,34,37,38,39,40,41,10,42,43,44,45,46,47,48,49,50,51,52,53,54,55,56,57,58,60,61,59,62,63,64,12,11,13,65,66,67,68,69,5,70,71,72,73,74,75,6,76,77,78,79,35,36,9],nzU⟩
theorem xzF:∀ back x,azy Tryz.prog tb nzx [] (azd 92 Tryz.f72) fzu.ins fzu.outs back x=fzv back x:=fun back x=>by kernel_rfl
theorem zzz:cutB Tryz.f72.ntmps fzu (azd 92 Tryz.f72)=true:=by kernel_rfl
theorem xzG:azg ([]:List (CutSpec tb)) (azd 92 Tryz.f72)=[]:=by kernel_rfl
theorem vzW:azi Tryz.prog tb Tryz.f72.ntmps (.loop (azd 92 Tryz.f72)) fzu:=azw mixed zzz nzS rfl xzG .nil fzv xzF rfl
def fzt (back:Int×List Arg×Val×Int×Bool×Int→Option (((Int×Bool)×Val)⊕((Unit)×Val))) (x:Int×List Arg×Val×Int×Bool×Int):Option (((Int×Bool)×Val)⊕((Unit)×Val)) :=
 brn (decide (x.2.2.2.2.snd < (↑x.2.fst.length:Int)))
  (obnd (idx x.2.fst x.2.2.2.2.snd) fun y =>
   obnd (nzU (x.fst,x.2.2.fst,x.2.2.2.fst,x.2.2.2.2.fst,y,0)) fun y =>
    osum y (fun y=>back (x.fst,x.2.fst,y.2,y.1.fst,y.1.snd,IntKind.i64.wrap (x.2.2.2.2.snd+1))) fun y=>some (Sum.inr ((),y.2)))
  (some (Sum.inl ((x.2.2.2.fst,x.2.2.2.2.fst),x.2.2.fst)))
def nzT:Int×List Arg×Val×Int×Bool×Int→Option (((Int×Bool)×Val)⊕((Unit)×Val)):=iter fzt big
def fzs:CutSpec tb:=⟨60,[(0,.val 3),(1,.val 22),(4,.ref 28),(5,.val 3),(6,.val 4),(7,.val 3)],[((.exit 0),[(5,.val 3),(6,.val 4)]),(.ret,[])],[20,21,22,23,26,27,28,29,8,9,30,31,32,33,34,37,38,39,40,41,10,42,43,44,45,46,47,48,49,50,51,52,53,54,55,56,57,58,60,61,59,62,63,64,12,11,13,65,66,67,68,69,5,70,71,72,73,74,75,6,76,77,78,79,35,36,24,25,7],nzT⟩
theorem xzD:∀ back x,azy Tryz.prog tb nzx [fzu] (azd 60 Tryz.f72) fzs.ins fzs.outs back x=fzt back x:=fun back x=>by kernel_rfl
theorem zzy:cutB Tryz.f72.ntmps fzs (azd 60 Tryz.f72)=true:=by kernel_rfl
theorem xzE:azg ([fzu]:List (CutSpec tb)) (azd 60 Tryz.f72)=[(92,.loop (azd 92 Tryz.f72))]:=by kernel_rfl
theorem vzV:azi Tryz.prog tb Tryz.f72.ntmps (.loop (azd 60 Tryz.f72)) fzs:=azw mixed zzy nzS rfl xzE (.cons rfl vzW rfl .nil) fzt xzD rfl
def lzF (x:Int×List Arg):Option (Val) :=
 obnd (izZ x.snd) fun y =>
  brn (!y) (obnd (azo 15) fun y=>some y)
   (obnd (nzT (x.fst,x.snd,{ Kind:=0,N:={ M:=0,S:=0 },S:=[],B:=false,E:=0 },0,decide (x.fst=11),0)) fun y =>
    osum y (fun y=>brn (decide (y.1.fst=0)) (obnd (azo 15) fun y=>some y) (obnd (dzH y.1.snd) fun y=>some y)) fun y=>some y.2)
def gzJ:FSpec tb:=⟨[(0,.val 3),(1,.val 22)],[(0,.val 28)],lzF⟩
theorem Ezw:∀ x,evFn Tryz.prog tb nzx [fzs] Tryz.f72 gzJ.ins gzJ.outs x=gzJ.f x:=fun x=>by kernel_rfl
theorem GzU:fnK Tryz.f72 gzJ.ins gzJ.outs=true:=by kernel_rfl
theorem Ezx:azg ([fzs]:List (CutSpec tb)) (azA Tryz.f72)=[(60,.loop (azd 60 Tryz.f72))]:=by kernel_rfl
theorem xzH:aze Tryz.prog tb 72 gzJ:=azJ mixed Tryz.func72 GzU nzS rfl Ezx (.cons rfl vzV rfl .nil) Ezw
def mzw (x:Int×List Arg):Option (Val) :=
 obnd (az3 (x.snd,1,1)) fun y =>
  brn (!y) (obnd (azo 15) fun y=>some y)
   (obnd (idx x.snd 0) fun y =>
    obnd (idx y.L 0) fun y =>
     brn (decide (x.fst=13)) (obnd (czX y) fun y=>brn (!y.2.snd) (some y.2.fst) (obnd (dzH !y.fst) fun y=>some y))
      (brn (decide (x.fst=21)) (obnd (dzH (decide (y.Kind=0))) fun y=>some y)
       (brn (decide (x.fst=22)) (obnd (dzH (decide (y.Kind=4))) fun y=>some y)
        (brn (decide (y.Kind=2)) (obnd (czB { M:=2,S:=0 }) fun y=>some y)
         (brn (decide (y.Kind=3)) (obnd (czB { M:=4,S:=0 }) fun y=>some y)
          (brn (decide (y.Kind=4)) (obnd (czB { M:=16,S:=0 }) fun y=>some y) (obnd (czB { M:=1,S:=0 }) fun y=>some y)))))))
def izd:FSpec tb:=⟨[(0,.val 3),(1,.val 22)],[(0,.val 28)],mzw⟩
theorem GzK:∀ x,evFn Tryz.prog tb [(164,czD),(77,bzg),(169,ezv),(104,cz4),(161,dzD)] [] Tryz.f73 izd.ins izd.outs x=izd.f x:=fun x=>by kernel_rfl
theorem IzU:fnK Tryz.f73 izd.ins izd.outs=true:=by kernel_rfl
theorem zzi:aze Tryz.prog tb 73 izd:=azu mixed Tryz.func73 IzU (.cons fz3 (.cons bzj (.cons mz7 (.cons jzo (.cons jz4 .nil))))) rfl GzK
abbrev kzB:List (Nat×FSpec tb):=[(1099511627784,mutS)]
theorem jz5:azz Tryz.prog tb kzB:=(.consK wzR .nil)
def mz9 (x:Int×List (UInt8)×Int):Option (Bool×List (UInt8)) :=
 brn (decide (x.fst=19))
  (obnd (inb x.2.fst.length x.2.snd) fun k =>
   obnd (nth x.2.fst k) fun y =>
    brn (decide (97≤(↑(UInt8.toNat y):Int)))
     (obnd (inb x.2.fst.length x.2.snd) fun k=>obnd (nth x.2.fst k) fun y=>some (decide ((↑(UInt8.toNat y):Int)≤122),x.2.fst)) (some (false,x.2.fst)))
  (some (false,x.2.fst))
def dzh:CutSpec tb:=⟨48,[(0,.val 3),(5,.wr 5),(6,.val 3)],[(.normal,[(30,.val 4),(5,.wr 5)])],[15,16,17,18,19,20,21,22,23,24,25,26,27,28,29,30],mz9⟩
theorem vzA:∀ x,bzD Tryz.prog tb kzB [] (azf 48 Tryz.f171) dzh.ins dzh.outs x=dzh.J x:=fun x=>by kernel_rfl
theorem xzj:cutB Tryz.f171.ntmps dzh (azf 48 Tryz.f171)=true:=by kernel_rfl
theorem vzB:azg ([]:List (CutSpec tb)) (azf 48 Tryz.f171)=[]:=by kernel_rfl
theorem uzo:azi Tryz.prog tb Tryz.f171.ntmps (azf 48 Tryz.f171) dzh:=bzl mixed xzj jz5 rfl vzB .nil vzA
def jz6 (x:Int×List (UInt8)×Int):Option (List (UInt8)) :=
 obnd (mz9 (x.fst,x.2)) fun y =>
  brn y.fst
   (obnd (inb (List.length y.snd) x.2.snd) fun k =>
    obnd (nth y.snd k) fun y_1 =>
     obnd (inb (List.length y.snd) x.2.snd) fun k =>
      obnd (nth y.snd k) fun y_2 =>
       brn (decide (x.fst=20))
        (obnd (inb (List.length y.snd) x.2.snd) fun k_1 =>
         obnd (nth (List.set y.snd k (UInt8.ofNat (IntKind.u8.wrap ((↑(UInt8.toNat y_1):Int) - 32)).toNat)) k_1) fun y_3 =>
          brn (decide (65≤(↑(UInt8.toNat y_3):Int)))
           (obnd (inb (List.length y.snd) x.2.snd) fun k_2 =>
            obnd (nth (List.set y.snd k (UInt8.ofNat (IntKind.u8.wrap ((↑(UInt8.toNat y_1):Int) - 32)).toNat)) k_2) fun y_4 =>
             brn (decide ((↑(UInt8.toNat y_4):Int)≤90))
              (obnd (inb (List.length y.snd) x.2.snd) fun k_3 =>
               obnd (nth (List.set y.snd k (UInt8.ofNat (IntKind.u8.wrap ((↑(UInt8.toNat y_1):Int) - 32)).toNat)) k_3) fun y_5 =>
                obnd (inb (List.length y.snd) x.2.snd) fun k_4 =>
                 obnd (nth (List.set y.snd k (UInt8.ofNat (IntKind.u8.wrap ((↑(UInt8.toNat y_1):Int) - 32)).toNat)) k_4) fun y_6 =>
                  some
                   ((List.set y.snd k (UInt8.ofNat (IntKind.u8.wrap ((↑(UInt8.toNat y_1):Int) - 32)).toNat)).set k_4
                    (UInt8.ofNat (IntKind.u8.wrap ((↑(UInt8.toNat y_5):Int)+32)).toNat)))
              (some (List.set y.snd k (UInt8.ofNat (IntKind.u8.wrap ((↑(UInt8.toNat y_1):Int) - 32)).toNat))))
           (some (List.set y.snd k (UInt8.ofNat (IntKind.u8.wrap ((↑(UInt8.toNat y_1):Int) - 32)).toNat))))
        (some (List.set y.snd k (UInt8.ofNat (IntKind.u8.wrap ((↑(UInt8.toNat y_1):Int) - 32)).toNat))))
   (brn (decide (x.fst=20))
    (obnd (inb (List.length y.snd) x.2.snd) fun k =>
     obnd (nth y.snd k) fun y_1 =>
      brn (decide (65≤(↑(UInt8.toNat y_1):Int)))
       (obnd (inb (List.length y.snd) x.2.snd) fun k =>
        obnd (nth y.snd k) fun y_2 =>
         brn (decide ((↑(UInt8.toNat y_2):Int)≤90))
          (obnd (inb (List.length y.snd) x.2.snd) fun k =>
           obnd (nth y.snd k) fun y_3 =>
            obnd (inb (List.length y.snd) x.2.snd) fun k =>
             obnd (nth y.snd k) fun y_4=>some (List.set y.snd k (UInt8.ofNat (IntKind.u8.wrap ((↑(UInt8.toNat y_3):Int)+32)).toNat)))
          (some y.2))
       (some y.2))
    (some y.2))
def dzg:CutSpec tb:=⟨51,[(0,.val 3),(5,.wr 5),(6,.val 3)],[(.normal,[(5,.wr 5)])],[15,16,17,18,19,20,21,22,23,24,25,26,27,28,29,30,31,32,33,34,35,36,37,38,39,40,41,42,43,44,45,46,47,48,49,50,51,52,53,54,55,56,57,58,59,60,61,62],jz6⟩
theorem vzy:∀ x,bzD Tryz.prog tb kzB [dzh] (azf 51 Tryz.f171) dzg.ins dzg.outs x=dzg.J x:=fun x=>by kernel_rfl
theorem xzi:cutB Tryz.f171.ntmps dzg (azf 51 Tryz.f171)=true:=by kernel_rfl
theorem vzz:azg ([dzh]:List (CutSpec tb)) (azf 51 Tryz.f171)=[(48,azf 48 Tryz.f171)]:=by kernel_rfl
theorem uzn:azi Tryz.prog tb Tryz.f171.ntmps (azf 51 Tryz.f171) dzg:=bzl mixed xzi jz5 rfl vzz (.cons rfl uzo rfl .nil) vzy
def dzi (back:Int×List (UInt8)×Int→Option (List (UInt8))) (x:Int×List (UInt8)×Int):Option (List (UInt8)) :=
 brn (decide (x.2.snd < (↑x.2.fst.length:Int))) (obnd (jz6 (x.fst,x.2)) fun y=>back (x.fst,y,IntKind.i64.wrap (x.2.snd+1))) (some x.2.1)
def nza:Int×List (UInt8)×Int→Option (List (UInt8)):=iter dzi big
def ezD:CutSpec tb:=⟨36,[(0,.val 3),(5,.wr 5),(6,.val 3)],[((.exit 0),[(5,.own 5)])],[9,10,11,12,15,16,17,18,19,20,21,22,23,24,25,26,27,28,29,30,31,32,33,34,35,36,37,38,39,40,41,42,43,44,45,46,47,48,49,50,51,52,53,54,55,56,57,58,59,60,61,62,13,14,6],nza⟩
theorem vzC:∀ back x,azy Tryz.prog tb kzB [dzg] (azd 36 Tryz.f171) ezD.ins ezD.outs back x=dzi back x:=fun back x=>by kernel_rfl
theorem xzk:cutB Tryz.f171.ntmps ezD (azd 36 Tryz.f171)=true:=by kernel_rfl
theorem vzD:azg ([dzg]:List (CutSpec tb)) (azd 36 Tryz.f171)=[(51,azf 51 Tryz.f171)]:=by kernel_rfl
theorem uzp:azi Tryz.prog tb Tryz.f171.ntmps (.loop (azd 36 Tryz.f171)) ezD:=azw mixed xzk jz5 rfl vzD (.cons rfl uzn rfl .nil) dzi vzC rfl
def kzA (x:Int×List UInt8):Option (List UInt8) :=
 obnd (nza (x.fst,x.snd,0)) fun y=>some y
def fzh:FSpec tb:=⟨[(0,.val 3),(1,.val 9)],[(0,.val 9)],kzA⟩
theorem BzM:∀ x,evFn Tryz.prog tb kzB [ezD] Tryz.f171 fzh.ins fzh.outs x=fzh.f x:=fun x=>by kernel_rfl
theorem Ezj:fnK Tryz.f171 fzh.ins fzh.outs=true:=by kernel_rfl
theorem BzN:azg ([ezD]:List (CutSpec tb)) (azA Tryz.f171)=[(36,.loop (azd 36 Tryz.f171))]:=by kernel_rfl
theorem vzE:aze Tryz.prog tb 171 fzh:=azJ mixed Tryz.func171 Ezj jz5 rfl BzN (.cons rfl uzp rfl .nil) BzM
def azE (x:List UInt8):Option (Val) :=
 obnd (hzg x) fun y=>brn (!decide (y.snd=0)) (obnd (azo 15) fun y=>some y) (some { Kind:=2,N:={ M:=0,S:=0 },S:=x,B:=false,E:=0 })
def ezu:FSpec tb:=⟨[(0,.val 9)],[(0,.val 28)],azE⟩
theorem GzG:∀ x,evFn Tryz.prog tb [(135,dz7),(77,bzg)] [] Tryz.f105 ezu.ins ezu.outs x=ezu.f x:=fun x=>by kernel_rfl
theorem IzQ:fnK Tryz.f105 ezu.ins ezu.outs=true:=by kernel_rfl
theorem mz6:aze Tryz.prog tb 105 ezu:=azu mixed Tryz.func105 IzQ (.cons lzn (.cons bzj .nil)) rfl GzG
abbrev nzy:List (Nat×FSpec tb):=[(164,czD),(77,bzg),(170,ezw),(135,dz7),(161,dzD),(171,fzh),(105,ezu),(104,cz4),(107,czz)]
theorem nzV:azz Tryz.prog tb nzy:=(.cons fz3 (.cons bzj (.cons mz8 (.cons lzn (.cons jz4 (.cons vzE (.cons mz6 (.cons jzo (.cons fzZ .nil)))))))))
def czY (x:Int×List Arg×Val×List UInt8×Int):Option (((Unit)×Val)⊕((Unit)×Val)) :=
 brn (decide (x.2.2.2.snd=14)) (obnd (hzg x.2.2.2.fst) fun y=>obnd (czB { M:=y.fst,S:=0 }) fun y=>some (Sum.inr ((),y)))
  (brn (decide (x.2.2.2.snd=19))
   (brn (decide (x.2.2.2.snd=19)) (obnd (kzA (x.fst,x.2.2.2.fst)) fun y=>obnd (azE y) fun y=>some (Sum.inr ((),y)))
    (brn (decide (x.2.2.2.snd=26))
     (obnd (idx x.2.fst 1) fun y =>
      obnd (idx y.L 0) fun y =>
       obnd (czC y) fun y=>brn (!y.2.snd) (some (Sum.inr ((),y.2.fst))) (obnd (dzH (decide (x.2.2.2.fst=y.fst))) fun y=>some (Sum.inr ((),y))))
     (some (Sum.inl ((),x.2.2.fst)))))
   (brn (decide (x.2.2.2.snd=20)) (obnd (kzA (x.fst,x.2.2.2.fst)) fun y=>obnd (azE y) fun y=>some (Sum.inr ((),y)))
    (brn (decide (x.2.2.2.snd=26))
     (obnd (idx x.2.fst 1) fun y =>
      obnd (idx y.L 0) fun y =>
       obnd (czC y) fun y=>brn (!y.2.snd) (some (Sum.inr ((),y.2.fst))) (obnd (dzH (decide (x.2.2.2.fst=y.fst))) fun y=>some (Sum.inr ((),y))))
     (some (Sum.inl ((),x.2.2.fst))))))
def dzT:CutSpec tb:=⟨91,[(0,.val 3),(1,.val 22),(4,.ref 28),(6,.val 9),(41,.val 3)],[(.normal,[]),(.ret,[])],[43,42,45,46,44,47,48,9,10,49,50,51,53,52,54,55,56,57,58,60,59,62,63,64,65,66,67,68,61,69,70,71,12,11,13,72,73,74,75,76,77,78],czY⟩
theorem xzI:∀ x,bzD Tryz.prog tb nzy [] (azf 91 Tryz.f74) dzT.ins dzT.outs x=dzT.J x:=fun x=>by kernel_rfl
theorem zzA:cutB Tryz.f74.ntmps dzT (azf 91 Tryz.f74)=true:=by kernel_rfl
theorem xzJ:azg ([]:List (CutSpec tb)) (azf 91 Tryz.f74)=[]:=by kernel_rfl
theorem vzX:azi Tryz.prog tb Tryz.f74.ntmps (azf 91 Tryz.f74) dzT:=bzl mixed zzA nzV rfl xzJ .nil xzI
def fzx (back:List UInt8×Dec×List UInt8×Int→Option (List UInt8)) (x:List UInt8×Dec×List UInt8×Int):Option (List UInt8) :=
 brn (decide (x.2.2.snd < x.2.fst.M)) (obnd (cat x.2.2.fst x.fst) fun z=>back (x.fst,x.2.fst,z,IntKind.i64.wrap (x.2.2.snd+1))) (some x.2.2.1)
def fzy:List UInt8×Dec×List UInt8×Int→Option (List UInt8):=iter fzx big
def fzw:CutSpec tb:=⟨268,[(6,.val 9),(14,.ro 26),(17,.val 9),(18,.val 3)],[((.exit 1),[(17,.val 9)])],[109,110,111,112,115,116,117,17,113,114,18],fzy⟩
theorem xzK:∀ back x,azy Tryz.prog tb nzy [] (azd 268 Tryz.f74) fzw.ins fzw.outs back x=fzx back x:=fun back x=>by kernel_rfl
theorem zzB:cutB Tryz.f74.ntmps fzw (azd 268 Tryz.f74)=true:=by kernel_rfl
theorem xzL:azg ([]:List (CutSpec tb)) (azd 268 Tryz.f74)=[]:=by kernel_rfl
theorem vzY:azi Tryz.prog tb Tryz.f74.ntmps (.loop (azd 268 Tryz.f74)) fzw:=azw mixed zzB nzV rfl xzL .nil fzx xzK rfl
def lzG (x:Int×List Arg):Option (Val) :=
 brn (decide (26≤x.fst))
  (obnd (az3 (x.snd,2,2)) fun y =>
   brn (!y) (obnd (azo 15) fun y=>some y)
    (obnd (idx x.snd 0) fun y =>
     obnd (idx y.L 0) fun y =>
      obnd (czC y) fun y =>
       brn (!y.2.snd) (some y.2.fst)
        (obnd (czY (x.fst,x.snd,{ Kind:=0,N:={ M:=0,S:=0 },S:=[],B:=false,E:=0 },y.fst,x.fst)) fun y_1 =>
         osum y_1
          (fun y_2 =>
           obnd (idx x.snd 1) fun y_3 =>
            obnd (idx y_3.L 0) fun y_4 =>
             obnd (bzm y_4) fun y_5 =>
              brn (!y_5.2.snd) (some y_5.2.fst)
               (brn (!decide (y_5.fst.S=0)) (obnd (azo 15) fun y=>some y)
                (brn (decide (y_5.fst.M < 0)) (obnd (azo 15) fun y=>some y)
                 (brn (decide (y.fst=[])) (obnd (azE []) fun y=>some y)
                  (brn (decide (1000 < y_5.fst.M)) (obnd (azo 15) fun y=>some y)
                   (obnd (fzy (y.fst,y_5.fst,[],0)) fun y=>obnd (azE y) fun y=>some y))))))
          fun y=>some y.2)))
  (obnd (az3 (x.snd,1,1)) fun y =>
   brn (!y) (obnd (azo 15) fun y=>some y)
    (obnd (idx x.snd 0) fun y =>
     obnd (idx y.L 0) fun y =>
      obnd (czC y) fun y =>
       brn (!y.2.snd) (some y.2.fst)
        (obnd (czY (x.fst,x.snd,{ Kind:=0,N:={ M:=0,S:=0 },S:=[],B:=false,E:=0 },y.fst,x.fst)) fun y_1 =>
         osum y_1
          (fun y_2 =>
           obnd (idx x.snd 1) fun y_3 =>
            obnd (idx y_3.L 0) fun y_4 =>
             obnd (bzm y_4) fun y_5 =>
              brn (!y_5.2.snd) (some y_5.2.fst)
               (brn (!decide (y_5.fst.S=0)) (obnd (azo 15) fun y=>some y)
                (brn (decide (y_5.fst.M < 0)) (obnd (azo 15) fun y=>some y)
                 (brn (decide (y.fst=[])) (obnd (azE []) fun y=>some y)
                  (brn (decide (1000 < y_5.fst.M)) (obnd (azo 15) fun y=>some y)
                   (obnd (fzy (y.fst,y_5.fst,[],0)) fun y=>obnd (azE y) fun y=>some y))))))
          fun y=>some y.2)))
def gzK:FSpec tb:=⟨[(0,.val 3),(1,.val 22)],[(0,.val 28)],lzG⟩
theorem Ezy:∀ x,evFn Tryz.prog tb nzy [dzT,fzw] Tryz.f74 gzK.ins gzK.outs x=gzK.f x:=fun x=>by kernel_rfl
theorem GzV:fnK Tryz.f74 gzK.ins gzK.outs=true:=by kernel_rfl
theorem Ezz:azg ([dzT,fzw]:List (CutSpec tb)) (azA Tryz.f74)=[(91,azf 91 Tryz.f74),(268,.loop (azd 268 Tryz.f74))]:=by kernel_rfl
theorem xzM:aze Tryz.prog tb 74 gzK:=azJ mixed Tryz.func74 GzV nzV rfl Ezz (.cons rfl vzX rfl (.cons rfl vzY rfl .nil)) Ezy
abbrev rz3:List (Nat×FSpec tb):=[(227,lzm)]
theorem szB:azz Tryz.prog tb rz3:=(.cons EzJ .nil)
def gzo (back:List Int×List (UInt8)×Int→Option (List (UInt8))) (x:List Int×List (UInt8)×Int):Option (List (UInt8)) :=
 brn (decide (x.2.snd < (↑x.fst.length:Int)))
  (obnd (idx x.fst x.2.snd) fun y=>obnd (rzf y) fun y=>obnd (app 1 x.2.fst y) fun zs=>back (x.fst,zs,IntKind.i64.wrap (x.2.snd+1))) (some x.2.1)
def ozG:List Int×List (UInt8)×Int→Option (List (UInt8)):=iter gzo big
def gzn:CutSpec tb:=⟨36,[(0,.val 53),(3,.own 5),(4,.val 3)],[((.exit 0),[(3,.own 5)])],[5,6,7,8,11,12,13,14,15,16,17,3,9,10,4],ozG⟩
theorem zzt:∀ back x,azy Tryz.prog tb rz3 [] (azd 36 Tryz.f172) gzn.ins gzn.outs back x=gzo back x:=fun back x=>by kernel_rfl
theorem BzV:cutB Tryz.f172.ntmps gzn (azd 36 Tryz.f172)=true:=by kernel_rfl
theorem zzu:azg ([]:List (CutSpec tb)) (azd 36 Tryz.f172)=[]:=by kernel_rfl
theorem xzy:azi Tryz.prog tb Tryz.f172.ntmps (.loop (azd 36 Tryz.f172)) gzn:=azw mixed BzV szB rfl zzu .nil gzo zzt rfl
def azZ (x:List Int):Option (List UInt8) :=
 obnd (ozG (x,[],0)) fun y=>some y
def izg:FSpec tb:=⟨[(0,.val 53)],[(0,.val 9)],azZ⟩
theorem GzP:∀ x,evFn Tryz.prog tb rz3 [gzn] Tryz.f172 izg.ins izg.outs x=izg.f x:=fun x=>by kernel_rfl
theorem IzX:fnK Tryz.f172 izg.ins izg.outs=true:=by kernel_rfl
theorem GzQ:azg ([gzn]:List (CutSpec tb)) (azA Tryz.f172)=[(36,.loop (azd 36 Tryz.f172))]:=by kernel_rfl
theorem zzv:aze Tryz.prog tb 172 izg:=azJ mixed Tryz.func172 IzX szB rfl GzQ (.cons rfl xzy rfl .nil) GzP
abbrev izY:List (Nat×FSpec tb):=[(164,czD),(77,bzg),(170,ezw),(107,czz),(28,hzf),(172,izg),(105,ezu),(1099511627818,mutS)]
theorem izf:azz Tryz.prog tb izY:=(.cons fz3 (.cons bzj (.cons mz8 (.cons fzZ (.cons rz4 (.cons zzv (.cons mz6 (.consK wzR .nil))))))))
def dzR (x:Dec×Int):Option (Bool) :=
 brn (!decide (x.fst.S=0)) (some true) (some (decide (x.fst.M < x.snd)))
def dzQ:CutSpec tb:=⟨176,[(12,.ro 26),(15,.val 2)],[(.normal,[(78,.val 4)])],[70,71,72,73,74,75,76,77,78],dzR⟩
theorem xzr:∀ x,bzD Tryz.prog tb izY [] (azf 176 Tryz.f75) dzQ.ins dzQ.outs x=dzQ.J x:=fun x=>by kernel_rfl
theorem zzq:cutB Tryz.f75.ntmps dzQ (azf 176 Tryz.f75)=true:=by kernel_rfl
theorem xzs:azg ([]:List (CutSpec tb)) (azf 176 Tryz.f75)=[]:=by kernel_rfl
theorem vzQ:azi Tryz.prog tb Tryz.f75.ntmps (azf 176 Tryz.f75) dzQ:=bzl mixed zzq izf rfl xzs .nil xzr
def lzj (x:Int×List Arg×Val×List (Int)×Int):Option (((List (Int))×Val)⊕((Unit)×Val)) :=
 obnd (idx x.2.fst x.2.2.2.snd) fun y =>
  obnd (idx y.L 0) fun y =>
   obnd (bzm y) fun y =>
    brn (!y.2.snd) (some (Sum.inr ((),y.2.fst)))
     (brn (decide (x.fst=17))
      (brn (decide (x.2.2.2.snd=1))
       (obnd (dzR (y.fst,1)) fun y_1 =>
        brn y_1 (obnd (azo 15) fun y=>some (Sum.inr ((),y)))
         (brn (decide (10000 < y.fst.M))
          (obnd (inb x.2.2.2.fst.length (IntKind.i64.wrap (x.2.2.2.snd - 1))) fun k =>
           obnd (nth x.2.2.2.fst k) fun y=>some (Sum.inl (x.2.2.2.fst.set k 10000,x.2.2.fst)))
          (obnd (inb x.2.2.2.fst.length (IntKind.i64.wrap (x.2.2.2.snd - 1))) fun k =>
           obnd (nth x.2.2.2.fst k) fun y_2=>some (Sum.inl (x.2.2.2.fst.set k y.fst.M,x.2.2.fst)))))
       (obnd (dzR (y.fst,0)) fun y_1 =>
        brn y_1 (obnd (azo 15) fun y=>some (Sum.inr ((),y)))
         (brn (decide (10000 < y.fst.M))
          (obnd (inb x.2.2.2.fst.length (IntKind.i64.wrap (x.2.2.2.snd - 1))) fun k =>
           obnd (nth x.2.2.2.fst k) fun y=>some (Sum.inl (x.2.2.2.fst.set k 10000,x.2.2.fst)))
          (obnd (inb x.2.2.2.fst.length (IntKind.i64.wrap (x.2.2.2.snd - 1))) fun k =>
           obnd (nth x.2.2.2.fst k) fun y_2=>some (Sum.inl (x.2.2.2.fst.set k y.fst.M,x.2.2.fst))))))
      (obnd (dzR (y.fst,0)) fun y_1 =>
       brn y_1 (obnd (azo 15) fun y=>some (Sum.inr ((),y)))
        (brn (decide (10000 < y.fst.M))
         (obnd (inb x.2.2.2.fst.length (IntKind.i64.wrap (x.2.2.2.snd - 1))) fun k=>obnd (nth x.2.2.2.fst k) fun y=>some (Sum.inl (x.2.2.2.fst.set k 10000,x.2.2.fst)))
         (obnd (inb x.2.2.2.fst.length (IntKind.i64.wrap (x.2.2.2.snd - 1))) fun k =>
          obnd (nth x.2.2.2.fst k) fun y_2=>some (Sum.inl (x.2.2.2.fst.set k y.fst.M,x.2.2.fst))))))
def dzP:CutSpec tb:=⟨131,[(0,.val 3),(1,.val 22),(4,.ref 28),(10,.wr 3),(11,.val 3)],[(.normal,[(10,.wr 3)]),(.ret,[])],[50,51,52,53,54,55,56,57,49,58,59,60,12,13,14,61,62,63,15,64,65,66,67,68,69,70,71,72,73,74,75,76,77,78,79,80,81,82,83,84,85,86,87,88,89],lzj⟩
theorem xzp:∀ x,bzD Tryz.prog tb izY [dzQ] (azf 131 Tryz.f75) dzP.ins dzP.outs x=dzP.J x:=fun x=>by kernel_rfl
theorem zzp:cutB Tryz.f75.ntmps dzP (azf 131 Tryz.f75)=true:=by kernel_rfl
theorem xzq:azg ([dzQ]:List (CutSpec tb)) (azf 131 Tryz.f75)=[(176,azf 176 Tryz.f75)]:=by kernel_rfl
theorem vzP:azi Tryz.prog tb Tryz.f75.ntmps (azf 131 Tryz.f75) dzP:=bzl mixed zzp izf rfl xzq (.cons rfl vzQ rfl .nil) xzp
def fzm (back:Int×List Arg×Val×List (Int)×Int→Option (((List (Int))×Val)⊕((Unit)×Val))) (x:Int×List Arg×Val×List (Int)×Int):Option (((List (Int))×Val)⊕((Unit)×Val)) :=
 brn (decide (x.2.2.2.snd < (↑x.2.fst.length:Int)))
  (obnd (lzj (x.fst,x.2.fst,x.2.2.fst,x.2.2.2)) fun y =>
   osum y (fun y=>back (x.fst,x.2.fst,y.2,y.1,IntKind.i64.wrap (x.2.2.2.snd+1))) fun y=>some (Sum.inr ((),y.2)))
  (some (Sum.inl (x.2.2.2.fst,x.2.2.fst)))
def fzn:Int×List Arg×Val×List (Int)×Int→Option (((List (Int))×Val)⊕((Unit)×Val)):=iter fzm big
def fzl:CutSpec tb:=⟨116,[(0,.val 3),(1,.val 22),(4,.ref 28),(10,.wr 3),(11,.val 3)],[((.exit 0),[(10,.own 3)]),(.ret,[])],[43,44,45,46,50,51,52,53,54,55,56,57,49,58,59,60,12,13,14,61,62,63,15,64,65,66,67,68,69,70,71,72,73,74,75,76,77,78,79,80,81,82,83,84,85,86,87,88,89,47,48,11],fzn⟩
theorem xzv:∀ back x,azy Tryz.prog tb izY [dzP] (azd 116 Tryz.f75) fzl.ins fzl.outs back x=fzm back x:=fun back x=>by kernel_rfl
theorem zzs:cutB Tryz.f75.ntmps fzl (azd 116 Tryz.f75)=true:=by kernel_rfl
theorem xzw:azg ([dzP]:List (CutSpec tb)) (azd 116 Tryz.f75)=[(131,azf 131 Tryz.f75)]:=by kernel_rfl
theorem vzS:azi Tryz.prog tb Tryz.f75.ntmps (.loop (azd 116 Tryz.f75)) fzl:=azw mixed zzs izf rfl xzw (.cons rfl vzP rfl .nil) fzm xzv rfl
def fzk (x:List Int×List Int×Int×Int×Int):Option (Int×Int) :=
 brn (decide (x.2.2.2.snd=16))
  (brn (decide (IntKind.i64.wrap ((↑x.2.fst.length:Int) - x.2.2.2.fst) < 0)) (some (0,x.2.2.2.fst))
   (some (IntKind.i64.wrap ((↑x.2.fst.length:Int) - x.2.2.2.fst),x.2.2.2.fst)))
  (brn (decide (x.2.2.2.snd=17)) (obnd (idx x.fst 0) fun y=>obnd (idx x.fst 1) fun y_1=>some (IntKind.i64.wrap (y - 1),y_1)) (some (x.2.2.fst,x.2.2.2.fst)))
def dzS:CutSpec tb:=⟨251,[(10,.val 53),(16,.val 53),(18,.val 3),(19,.val 3),(98,.val 3)],[(.normal,[(18,.val 3),(19,.val 3)])],[100,99,101,102,103,104,18,105,106,108,107,109,110,111,112,113,114,115,19],fzk⟩
theorem xzt:∀ x,bzD Tryz.prog tb izY [] (azf 251 Tryz.f75) dzS.ins dzS.outs x=dzS.J x:=fun x=>by kernel_rfl
theorem zzr:cutB Tryz.f75.ntmps dzS (azf 251 Tryz.f75)=true:=by kernel_rfl
theorem xzu:azg ([]:List (CutSpec tb)) (azf 251 Tryz.f75)=[]:=by kernel_rfl
theorem vzR:azi Tryz.prog tb Tryz.f75.ntmps (azf 251 Tryz.f75) dzS:=bzl mixed zzr izf rfl xzu .nil xzt
def ezV (x:Int×List Arg):Option (Val) :=
 brn (decide (x.fst=17))
  (obnd (az3 (x.snd,3,3)) fun y =>
   brn (!y) (obnd (azo 15) fun y=>some y)
    (obnd (idx x.snd 0) fun y =>
     obnd (idx y.L 0) fun y =>
      obnd (czC y) fun y =>
       brn (!y.2.snd) (some y.2.fst)
        (obnd (fzn (x.fst,x.snd,{ Kind:=0,N:={ M:=0,S:=0 },S:=[],B:=false,E:=0 },[1,1],1)) fun y_1 =>
         osum y_1
          (fun y_2 =>
           obnd (jzS y.fst) fun y =>
            obnd (idx y_2.1 0) fun y_3 =>
             obnd (fzk (y_2.1,y.fst,0,y_3,x.fst)) fun y_4 =>
              brn (decide ((↑(List.length y.fst):Int) < y_4.fst))
               (brn (decide (IntKind.i64.wrap ((↑(List.length y.fst):Int) - (↑(List.length y.fst):Int)) < y_4.snd))
                (obnd
                 (sub y.fst (↑(List.length y.fst):Int)
                  (IntKind.i64.wrap ((↑(List.length y.fst):Int)+IntKind.i64.wrap ((↑(List.length y.fst):Int) - (↑(List.length y.fst):Int)))))
                 fun z=>obnd (azZ z) fun y=>obnd (azE y) fun y=>some y)
                (obnd (sub y.fst (↑(List.length y.fst):Int) (IntKind.i64.wrap ((↑(List.length y.fst):Int)+y_4.snd))) fun z =>
                 obnd (azZ z) fun y=>obnd (azE y) fun y=>some y))
               (brn (decide (IntKind.i64.wrap ((↑(List.length y.fst):Int) - y_4.fst) < y_4.snd))
                (obnd (sub y.fst y_4.fst (IntKind.i64.wrap (y_4.fst+IntKind.i64.wrap ((↑(List.length y.fst):Int) - y_4.fst)))) fun z =>
                 obnd (azZ z) fun y=>obnd (azE y) fun y=>some y)
                (obnd (sub y.fst y_4.fst (IntKind.i64.wrap (y_4.fst+y_4.snd))) fun z=>obnd (azZ z) fun y=>obnd (azE y) fun y=>some y)))
          fun y=>some y.2)))
  (obnd (az3 (x.snd,1,2)) fun y =>
   brn (!y) (obnd (azo 15) fun y=>some y)
    (obnd (idx x.snd 0) fun y =>
     obnd (idx y.L 0) fun y =>
      obnd (czC y) fun y =>
       brn (!y.2.snd) (some y.2.fst)
        (obnd (fzn (x.fst,x.snd,{ Kind:=0,N:={ M:=0,S:=0 },S:=[],B:=false,E:=0 },[1,1],1)) fun y_1 =>
         osum y_1
          (fun y_2 =>
           obnd (jzS y.fst) fun y =>
            obnd (idx y_2.1 0) fun y_3 =>
             obnd (fzk (y_2.1,y.fst,0,y_3,x.fst)) fun y_4 =>
              brn (decide ((↑(List.length y.fst):Int) < y_4.fst))
               (brn (decide (IntKind.i64.wrap ((↑(List.length y.fst):Int) - (↑(List.length y.fst):Int)) < y_4.snd))
                (obnd
                 (sub y.fst (↑(List.length y.fst):Int)
                  (IntKind.i64.wrap ((↑(List.length y.fst):Int)+IntKind.i64.wrap ((↑(List.length y.fst):Int) - (↑(List.length y.fst):Int)))))
                 fun z=>obnd (azZ z) fun y=>obnd (azE y) fun y=>some y)
                (obnd (sub y.fst (↑(List.length y.fst):Int) (IntKind.i64.wrap ((↑(List.length y.fst):Int)+y_4.snd))) fun z =>
                 obnd (azZ z) fun y=>obnd (azE y) fun y=>some y))
               (brn (decide (IntKind.i64.wrap ((↑(List.length y.fst):Int) - y_4.fst) < y_4.snd))
                (obnd (sub y.fst y_4.fst (IntKind.i64.wrap (y_4.fst+IntKind.i64.wrap ((↑(List.length y.fst):Int) - y_4.fst)))) fun z =>
                 obnd (azZ z) fun y=>obnd (azE y) fun y=>some y)
                (obnd (sub y.fst y_4.fst (IntKind.i64.wrap (y_4.fst+y_4.snd))) fun z=>obnd (azZ z) fun y=>obnd (azE y) fun y=>some y)))
          fun y=>some y.2)))
def gzI:FSpec tb:=⟨[(0,.val 3),(1,.val 22)],[(0,.val 28)],ezV⟩
theorem Ezn:∀ x,evFn Tryz.prog tb izY [fzl,dzS] Tryz.f75 gzI.ins gzI.outs x=gzI.f x:=fun x=>by kernel_rfl
theorem GzO:fnK Tryz.f75 gzI.ins gzI.outs=true:=by kernel_rfl
theorem Ezo:azg ([fzl,dzS]:List (CutSpec tb)) (azA Tryz.f75)=[(116,.loop (azd 116 Tryz.f75)),(251,azf 251 Tryz.f75)]:=by kernel_rfl
theorem xzx:aze Tryz.prog tb 75 gzI:=azJ mixed Tryz.func75 GzO izf rfl Ezo (.cons rfl vzS rfl (.cons rfl vzR rfl .nil)) Ezn
abbrev nzw:List (Nat×FSpec tb):=[(159,dzI),(77,bzg),(170,ezw),(135,dz7),(105,ezu)]
theorem nzN:azz Tryz.prog tb nzw:=(.cons mzx (.cons bzj (.cons mz8 (.cons lzn (.cons mz6 .nil)))))
def fze (back:List Arg×Val×List UInt8×Bool×Int×Int→Option (((List UInt8×Bool)×Val)⊕((Unit)×Val))) (x:List Arg×Val×List UInt8×Bool×Int×Int):Option (((List UInt8×Bool)×Val)⊕((Unit)×Val)) :=
 obnd (idx x.fst x.2.2.2.2.fst) fun y =>
  brn (decide (x.2.2.2.2.snd < (↑y.L.length:Int)))
   (obnd (idx x.fst x.2.2.2.2.fst) fun y =>
    obnd (idx y.L x.2.2.2.2.snd) fun y =>
     obnd (czC y) fun y =>
      brn (!y.2.snd) (some (Sum.inr ((),y.2.fst)))
       (brn (!x.2.2.2.fst)
        (obnd (cat x.2.2.fst y.fst) fun z =>
         obnd (hzg z) fun y =>
          brn x.2.2.2.fst (back (x.fst,x.2.fst,z,true,x.2.2.2.2.fst,IntKind.i64.wrap (x.2.2.2.2.snd+1)))
           (back (x.fst,x.2.fst,z,!decide (y.snd=0),x.2.2.2.2.fst,IntKind.i64.wrap (x.2.2.2.2.snd+1))))
        (obnd (hzg x.2.2.fst) fun y =>
         brn x.2.2.2.fst (back (x.fst,x.2.fst,x.2.2.fst,true,x.2.2.2.2.fst,IntKind.i64.wrap (x.2.2.2.2.snd+1)))
          (back (x.fst,x.2.fst,x.2.2.fst,!decide (y.snd=0),x.2.2.2.2.fst,IntKind.i64.wrap (x.2.2.2.2.snd+1))))))
   (some (Sum.inl ((x.2.2.fst,x.2.2.2.fst),x.2.fst)))
def nzP:List Arg×Val×List UInt8×Bool×Int×Int→Option (((List UInt8×Bool)×Val)⊕((Unit)×Val)):=iter fze big
def fzd:CutSpec tb:=⟨84,[(0,.val 22),(2,.ref 28),(3,.val 9),(4,.val 4),(5,.val 3),(6,.val 3)],[((.exit 2),[(3,.val 9),(4,.val 4)]),(.ret,[])],[22,23,24,25,26,27,28,29,33,34,35,36,37,38,39,40,41,32,42,43,44,8,7,9,45,46,47,48,49,50,51,52,3,54,55,53,56,57,10,11,58,59,60,61,62,4,30,31,6],nzP⟩
theorem xzc:∀ back x,azy Tryz.prog tb nzw [] (azd 84 Tryz.f76) fzd.ins fzd.outs back x=fze back x:=fun back x=>by kernel_rfl
theorem zzm:cutB Tryz.f76.ntmps fzd (azd 84 Tryz.f76)=true:=by kernel_rfl
theorem xzd:azg ([]:List (CutSpec tb)) (azd 84 Tryz.f76)=[]:=by kernel_rfl
theorem vzw:azi Tryz.prog tb Tryz.f76.ntmps (.loop (azd 84 Tryz.f76)) fzd:=azw mixed zzm nzN rfl xzd .nil fze xzc rfl
def fzc (back:List Arg×Val×List UInt8×Bool×Int→Option (((List UInt8×Bool)×Val)⊕((Unit)×Val))) (x:List Arg×Val×List UInt8×Bool×Int):Option (((List UInt8×Bool)×Val)⊕((Unit)×Val)) :=
 brn (decide (x.2.2.2.snd < (↑x.fst.length:Int)))
  (obnd (nzP (x.fst,x.2.fst,x.2.2.fst,x.2.2.2.fst,x.2.2.2.snd,0)) fun y =>
   osum y (fun y=>back (x.fst,y.2,y.1.fst,y.1.snd,IntKind.i64.wrap (x.2.2.2.snd+1))) fun y=>some (Sum.inr ((),y.2)))
  (some (Sum.inl ((x.2.2.fst,x.2.2.2.fst),x.2.fst)))
def nzO:List Arg×Val×List UInt8×Bool×Int→Option (((List UInt8×Bool)×Val)⊕((Unit)×Val)):=iter fzc big
def fzb:CutSpec tb:=⟨60,[(0,.val 22),(2,.ref 28),(3,.val 9),(4,.val 4),(5,.val 3)],[((.exit 0),[(3,.val 9),(4,.val 4)]),(.ret,[])],[16,17,18,19,6,22,23,24,25,26,27,28,29,33,34,35,36,37,38,39,40,41,32,42,43,44,8,7,9,45,46,47,48,49,50,51,52,3,54,55,53,56,57,10,11,58,59,60,61,62,4,30,31,20,21,5],nzO⟩
theorem xza:∀ back x,azy Tryz.prog tb nzw [fzd] (azd 60 Tryz.f76) fzb.ins fzb.outs back x=fzc back x:=fun back x=>by kernel_rfl
theorem zzl:cutB Tryz.f76.ntmps fzb (azd 60 Tryz.f76)=true:=by kernel_rfl
theorem xzb:azg ([fzd]:List (CutSpec tb)) (azd 60 Tryz.f76)=[(84,.loop (azd 84 Tryz.f76))]:=by kernel_rfl
theorem vzv:azi Tryz.prog tb Tryz.f76.ntmps (.loop (azd 60 Tryz.f76)) fzb:=azw mixed zzl nzN rfl xzb (.cons rfl vzw rfl .nil) fzc xza rfl
def ezU (x:List Arg):Option (Val) :=
 obnd (izZ x) fun y =>
  brn (!y) (obnd (azo 15) fun y=>some y)
   (obnd (nzO (x,{ Kind:=0,N:={ M:=0,S:=0 },S:=[],B:=false,E:=0 },[],false,0)) fun y =>
    osum y (fun y=>brn y.1.snd (obnd (azo 15) fun y=>some y) (obnd (azE y.1.fst) fun y=>some y)) fun y=>some y.2)
def gzG:FSpec tb:=⟨[(0,.val 22)],[(0,.val 28)],ezU⟩
theorem Ezf:∀ x,evFn Tryz.prog tb nzw [fzb] Tryz.f76 gzG.ins gzG.outs x=gzG.f x:=fun x=>by kernel_rfl
theorem GzM:fnK Tryz.f76 gzG.ins gzG.outs=true:=by kernel_rfl
theorem Ezg:azg ([fzb]:List (CutSpec tb)) (azA Tryz.f76)=[(60,.loop (azd 60 Tryz.f76))]:=by kernel_rfl
theorem xze:aze Tryz.prog tb 76 gzG:=azJ mixed Tryz.func76 GzM nzN rfl Ezg (.cons rfl vzv rfl .nil) Ezf
abbrev ezl:List (Nat×FSpec tb):=[(69,gzH),(70,fzj),(71,gzF),(72,gzJ),(73,izd),(74,gzK),(75,gzI),(76,gzG),(77,bzg)]
theorem dzu:azz Tryz.prog tb ezl:=(.cons xzh (.cons vzO (.cons wz9 (.cons xzH (.cons zzi (.cons xzM (.cons xzx (.cons xze (.cons bzj .nil)))))))))
def czM (x:Int×List Arg×Val×Int×Bool):Option (((Unit)×Val)⊕((Unit)×Val)) :=
 brn x.2.2.2.snd (obnd (lzG (x.fst,x.2.fst)) fun y=>some (Sum.inr ((),y)))
  (brn (decide (x.2.2.2.fst=15))
   (brn (decide (x.2.2.2.fst=15)) (obnd (ezV (x.fst,x.2.fst)) fun y=>some (Sum.inr ((),y)))
    (brn (decide (x.2.2.2.fst=18)) (obnd (ezU x.2.fst) fun y=>some (Sum.inr ((),y)))
     (brn (decide (x.2.2.2.fst=28)) (brn (decide ((↑x.2.fst.length:Int)=0)) (obnd (azo 42) fun y=>some (Sum.inr ((),y))) (some (Sum.inl ((),x.2.2.fst))))
      (some (Sum.inl ((),x.2.2.fst))))))
   (brn (decide (x.2.2.2.fst=16))
    (brn (decide (x.2.2.2.fst=16)) (obnd (ezV (x.fst,x.2.fst)) fun y=>some (Sum.inr ((),y)))
     (brn (decide (x.2.2.2.fst=18)) (obnd (ezU x.2.fst) fun y=>some (Sum.inr ((),y)))
      (brn (decide (x.2.2.2.fst=28)) (brn (decide ((↑x.2.fst.length:Int)=0)) (obnd (azo 42) fun y=>some (Sum.inr ((),y))) (some (Sum.inl ((),x.2.2.fst))))
       (some (Sum.inl ((),x.2.2.fst))))))
    (brn (decide (x.2.2.2.fst=17)) (obnd (ezV (x.fst,x.2.fst)) fun y=>some (Sum.inr ((),y)))
     (brn (decide (x.2.2.2.fst=18)) (obnd (ezU x.2.fst) fun y=>some (Sum.inr ((),y)))
      (brn (decide (x.2.2.2.fst=28)) (brn (decide ((↑x.2.fst.length:Int)=0)) (obnd (azo 42) fun y=>some (Sum.inr ((),y))) (some (Sum.inl ((),x.2.2.fst))))
       (some (Sum.inl ((),x.2.2.fst))))))))
def ezs:CutSpec tb:=⟨266,[(0,.val 3),(1,.val 22),(4,.ref 28),(5,.val 3),(46,.val 4)],[(.normal,[]),(.ret,[])],[52,53,54,56,55,57,58,59,60,61,63,62,64,65,67,66,68,69,70,71],czM⟩
theorem zzc:∀ x,bzD Tryz.prog tb ezl [] (azf 266 Tryz.f21) ezs.ins ezs.outs x=ezs.J x:=fun x=>by kernel_rfl
theorem BzH:cutB Tryz.f21.ntmps ezs (azf 266 Tryz.f21)=true:=by kernel_rfl
theorem zzd:azg ([]:List (CutSpec tb)) (azf 266 Tryz.f21)=[]:=by kernel_rfl
theorem wz4:azi Tryz.prog tb Tryz.f21.ntmps (azf 266 Tryz.f21) ezs:=bzl mixed BzH dzu rfl zzd .nil zzc
def dzw (x:Int×List Arg×Val×Int×Bool):Option (((Unit)×Val)⊕((Unit)×Val)) :=
 brn x.2.2.2.snd (obnd (mzw (x.fst,x.2.fst)) fun y=>some (Sum.inr ((),y)))
  (brn (decide (x.2.2.2.fst=14))
   (obnd (czM (x.fst,x.2.fst,x.2.2.fst,x.2.2.2.fst,decide (x.2.2.2.fst=14))) fun y =>
    osum y (fun y=>some (Sum.inl ((),y.2))) fun y=>some (Sum.inr ((),y.2)))
   (brn (decide (x.2.2.2.fst=19))
    (obnd (czM (x.fst,x.2.fst,x.2.2.fst,x.2.2.2.fst,decide (x.2.2.2.fst=19))) fun y =>
     osum y (fun y=>some (Sum.inl ((),y.2))) fun y=>some (Sum.inr ((),y.2)))
    (brn (decide (x.2.2.2.fst=20))
     (obnd (czM (x.fst,x.2.fst,x.2.2.fst,x.2.2.2.fst,decide (x.2.2.2.fst=20))) fun y =>
      osum y (fun y=>some (Sum.inl ((),y.2))) fun y=>some (Sum.inr ((),y.2)))
     (brn (decide (x.2.2.2.fst=26))
      (obnd (czM (x.fst,x.2.fst,x.2.2.fst,x.2.2.2.fst,decide (x.2.2.2.fst=26))) fun y =>
       osum y (fun y=>some (Sum.inl ((),y.2))) fun y=>some (Sum.inr ((),y.2)))
      (obnd (czM (x.fst,x.2.fst,x.2.2.fst,x.2.2.2.fst,decide (x.2.2.2.fst=27))) fun y =>
       osum y (fun y=>some (Sum.inl ((),y.2))) fun y=>some (Sum.inr ((),y.2)))))))
def ezr:CutSpec tb:=⟨218,[(0,.val 3),(1,.val 22),(4,.ref 28),(5,.val 3),(38,.val 4)],[(.normal,[]),(.ret,[])],[43,44,45,47,46,48,49,50,51,52,53,54,56,55,57,58,59,60,61,63,62,64,65,67,66,68,69,70,71],dzw⟩
theorem zza:∀ x,bzD Tryz.prog tb ezl [ezs] (azf 218 Tryz.f21) ezr.ins ezr.outs x=ezr.J x:=fun x=>by kernel_rfl
theorem BzG:cutB Tryz.f21.ntmps ezr (azf 218 Tryz.f21)=true:=by kernel_rfl
theorem zzb:azg ([ezs]:List (CutSpec tb)) (azf 218 Tryz.f21)=[(266,azf 266 Tryz.f21)]:=by kernel_rfl
theorem wz3:azi Tryz.prog tb Tryz.f21.ntmps (azf 218 Tryz.f21) ezr:=bzl mixed BzG dzu rfl zzb (.cons rfl wz4 rfl .nil) zza
def gzl (x:Int×List Arg×Val×Int×Bool):Option (((Unit)×Val)⊕((Unit)×Val)) :=
 brn x.2.2.2.snd (obnd (lzF (x.fst,x.2.fst)) fun y=>some (Sum.inr ((),y)))
  (brn (decide (x.2.2.2.fst=13))
   (obnd (dzw (x.fst,x.2.fst,x.2.2.fst,x.2.2.2.fst,decide (x.2.2.2.fst=13))) fun y =>
    osum y (fun y=>some (Sum.inl ((),y.2))) fun y=>some (Sum.inr ((),y.2)))
   (brn (decide (x.2.2.2.fst=21))
    (obnd (dzw (x.fst,x.2.fst,x.2.2.fst,x.2.2.2.fst,decide (x.2.2.2.fst=21))) fun y =>
     osum y (fun y=>some (Sum.inl ((),y.2))) fun y=>some (Sum.inr ((),y.2)))
    (brn (decide (x.2.2.2.fst=22))
     (obnd (dzw (x.fst,x.2.fst,x.2.2.fst,x.2.2.2.fst,decide (x.2.2.2.fst=22))) fun y =>
      osum y (fun y=>some (Sum.inl ((),y.2))) fun y=>some (Sum.inr ((),y.2)))
     (obnd (dzw (x.fst,x.2.fst,x.2.2.fst,x.2.2.2.fst,decide (x.2.2.2.fst=29))) fun y =>
      osum y (fun y=>some (Sum.inl ((),y.2))) fun y=>some (Sum.inr ((),y.2))))))
def ezq:CutSpec tb:=⟨178,[(0,.val 3),(1,.val 22),(4,.ref 28),(5,.val 3),(32,.val 4)],[(.normal,[]),(.ret,[])],[35,36,37,39,38,40,41,42,43,44,45,47,46,48,49,50,51,52,53,54,56,55,57,58,59,60,61,63,62,64,65,67,66,68,69,70,71],gzl⟩
theorem yz8:∀ x,bzD Tryz.prog tb ezl [ezr] (azf 178 Tryz.f21) ezq.ins ezq.outs x=ezq.J x:=fun x=>by kernel_rfl
theorem BzF:cutB Tryz.f21.ntmps ezq (azf 178 Tryz.f21)=true:=by kernel_rfl
theorem yz9:azg ([ezr]:List (CutSpec tb)) (azf 178 Tryz.f21)=[(218,azf 218 Tryz.f21)]:=by kernel_rfl
theorem wz2:azi Tryz.prog tb Tryz.f21.ntmps (azf 178 Tryz.f21) ezq:=bzl mixed BzF dzu rfl yz9 (.cons rfl wz3 rfl .nil) yz8
def dzv (x:Int×List Arg×Val×Int×Bool):Option (((Unit)×Val)⊕((Unit)×Val)) :=
 brn x.2.2.2.snd (obnd (bzd (x.fst,x.2.fst)) fun y=>some (Sum.inr ((),y)))
  (brn (decide (x.2.2.2.fst=11))
   (obnd (gzl (x.fst,x.2.fst,x.2.2.fst,x.2.2.2.fst,decide (x.2.2.2.fst=11))) fun y =>
    osum y (fun y=>some (Sum.inl ((),y.2))) fun y=>some (Sum.inr ((),y.2)))
   (obnd (gzl (x.fst,x.2.fst,x.2.2.fst,x.2.2.2.fst,decide (x.2.2.2.fst=12))) fun y =>
    osum y (fun y=>some (Sum.inl ((),y.2))) fun y=>some (Sum.inr ((),y.2))))
def ezp:CutSpec tb:=⟨154,[(0,.val 3),(1,.val 22),(4,.ref 28),(5,.val 3),(24,.val 4)],[(.normal,[]),(.ret,[])],[29,30,31,33,32,34,35,36,37,39,38,40,41,42,43,44,45,47,46,48,49,50,51,52,53,54,56,55,57,58,59,60,61,63,62,64,65,67,66,68,69,70,71],dzv⟩
theorem yz6:∀ x,bzD Tryz.prog tb ezl [ezq] (azf 154 Tryz.f21) ezp.ins ezp.outs x=ezp.J x:=fun x=>by kernel_rfl
theorem BzE:cutB Tryz.f21.ntmps ezp (azf 154 Tryz.f21)=true:=by kernel_rfl
theorem yz7:azg ([ezq]:List (CutSpec tb)) (azf 154 Tryz.f21)=[(178,azf 178 Tryz.f21)]:=by kernel_rfl
theorem wz1:azi Tryz.prog tb Tryz.f21.ntmps (azf 154 Tryz.f21) ezp:=bzl mixed BzE dzu rfl yz7 (.cons rfl wz2 rfl .nil) yz6
def czL (x:Int×List Arg×Val×Int×Bool):Option (((Unit)×Val)⊕((Unit)×Val)) :=
 brn x.2.2.2.snd (obnd (kzD (x.fst,x.2.fst)) fun y=>some (Sum.inr ((),y)))
  (brn (decide (x.2.2.2.fst=10))
   (obnd (dzv (x.fst,x.2.fst,x.2.2.fst,x.2.2.2.fst,decide (x.2.2.2.fst=10))) fun y =>
    osum y (fun y=>some (Sum.inl ((),y.2))) fun y=>some (Sum.inr ((),y.2)))
   (brn (decide (x.2.2.2.fst=23))
    (obnd (dzv (x.fst,x.2.fst,x.2.2.fst,x.2.2.2.fst,decide (x.2.2.2.fst=23))) fun y =>
     osum y (fun y=>some (Sum.inl ((),y.2))) fun y=>some (Sum.inr ((),y.2)))
    (brn (decide (x.2.2.2.fst=24))
     (obnd (dzv (x.fst,x.2.fst,x.2.2.fst,x.2.2.2.fst,decide (x.2.2.2.fst=24))) fun y =>
      osum y (fun y=>some (Sum.inl ((),y.2))) fun y=>some (Sum.inr ((),y.2)))
     (obnd (dzv (x.fst,x.2.fst,x.2.2.fst,x.2.2.2.fst,decide (x.2.2.2.fst=25))) fun y =>
      osum y (fun y=>some (Sum.inl ((),y.2))) fun y=>some (Sum.inr ((),y.2))))))
def ezo:CutSpec tb:=⟨114,[(0,.val 3),(1,.val 22),(4,.ref 28),(5,.val 3),(15,.val 4)],[(.normal,[]),(.ret,[])],[21,22,23,25,24,26,27,28,29,30,31,33,32,34,35,36,37,39,38,40,41,42,43,44,45,47,46,48,49,50,51,52,53,54,56,55,57,58,59,60,61,63,62,64,65,67,66,68,69,70,71],czL⟩
theorem yz4:∀ x,bzD Tryz.prog tb ezl [ezp] (azf 114 Tryz.f21) ezo.ins ezo.outs x=ezo.J x:=fun x=>by kernel_rfl
theorem BzD:cutB Tryz.f21.ntmps ezo (azf 114 Tryz.f21)=true:=by kernel_rfl
theorem yz5:azg ([ezp]:List (CutSpec tb)) (azf 114 Tryz.f21)=[(154,azf 154 Tryz.f21)]:=by kernel_rfl
theorem wz0:azi Tryz.prog tb Tryz.f21.ntmps (azf 114 Tryz.f21) ezo:=bzl mixed BzD dzu rfl yz5 (.cons rfl wz1 rfl .nil) yz4
def czK (x:Int×List Arg×Val×Int×Bool):Option (((Unit)×Val)⊕((Unit)×Val)) :=
 brn x.2.2.2.snd (obnd (lzE (x.fst,x.2.fst)) fun y=>some (Sum.inr ((),y)))
  (brn (decide (x.2.2.2.fst=5))
   (obnd (czL (x.fst,x.2.fst,x.2.2.fst,x.2.2.2.fst,decide (x.2.2.2.fst=5))) fun y =>
    osum y (fun y=>some (Sum.inl ((),y.2))) fun y=>some (Sum.inr ((),y.2)))
   (brn (decide (x.2.2.2.fst=6))
    (obnd (czL (x.fst,x.2.fst,x.2.2.fst,x.2.2.2.fst,decide (x.2.2.2.fst=6))) fun y =>
     osum y (fun y=>some (Sum.inl ((),y.2))) fun y=>some (Sum.inr ((),y.2)))
    (brn (decide (x.2.2.2.fst=7))
     (obnd (czL (x.fst,x.2.fst,x.2.2.fst,x.2.2.2.fst,decide (x.2.2.2.fst=7))) fun y =>
      osum y (fun y=>some (Sum.inl ((),y.2))) fun y=>some (Sum.inr ((),y.2)))
     (brn (decide (x.2.2.2.fst=8))
      (obnd (czL (x.fst,x.2.fst,x.2.2.fst,x.2.2.2.fst,decide (x.2.2.2.fst=8))) fun y =>
       osum y (fun y=>some (Sum.inl ((),y.2))) fun y=>some (Sum.inr ((),y.2)))
      (obnd (czL (x.fst,x.2.fst,x.2.2.fst,x.2.2.2.fst,decide (x.2.2.2.fst=9))) fun y =>
       osum y (fun y=>some (Sum.inl ((),y.2))) fun y=>some (Sum.inr ((),y.2)))))))
def ezn:CutSpec tb:=⟨66,[(0,.val 3),(1,.val 22),(4,.ref 28),(5,.val 3),(6,.val 4)],[(.normal,[]),(.ret,[])],[12,13,14,16,15,17,18,19,20,21,22,23,25,24,26,27,28,29,30,31,33,32,34,35,36,37,39,38,40,41,42,43,44,45,47,46,48,49,50,51,52,53,54,56,55,57,58,59,60,61,63,62,64,65,67,66,68,69,70,71],czK⟩
theorem yz2:∀ x,bzD Tryz.prog tb ezl [ezo] (azf 66 Tryz.f21) ezn.ins ezn.outs x=ezn.J x:=fun x=>by kernel_rfl
theorem BzC:cutB Tryz.f21.ntmps ezn (azf 66 Tryz.f21)=true:=by kernel_rfl
theorem yz3:azg ([ezo]:List (CutSpec tb)) (azf 66 Tryz.f21)=[(114,azf 114 Tryz.f21)]:=by kernel_rfl
theorem wzZ:azi Tryz.prog tb Tryz.f21.ntmps (azf 66 Tryz.f21) ezn:=bzl mixed BzC dzu rfl yz3 (.cons rfl wz0 rfl .nil) yz2
def lz1 (x:Int×List Arg×Val×Int):Option (((Unit)×Val)⊕((Unit)×Val)) :=
 brn (decide (x.2.2.snd=0))
  (obnd (czK (x.fst,x.2.fst,x.2.2.fst,x.2.2.snd,decide (x.2.2.snd=0))) fun y=>osum y (fun y=>some (Sum.inl ((),y.2))) fun y=>some (Sum.inr ((),y.2)))
  (brn (decide (x.2.2.snd=1))
   (obnd (czK (x.fst,x.2.fst,x.2.2.fst,x.2.2.snd,decide (x.2.2.snd=1))) fun y=>osum y (fun y=>some (Sum.inl ((),y.2))) fun y=>some (Sum.inr ((),y.2)))
   (brn (decide (x.2.2.snd=2))
    (obnd (czK (x.fst,x.2.fst,x.2.2.fst,x.2.2.snd,decide (x.2.2.snd=2))) fun y=>osum y (fun y=>some (Sum.inl ((),y.2))) fun y=>some (Sum.inr ((),y.2)))
    (brn (decide (x.2.2.snd=3))
     (obnd (czK (x.fst,x.2.fst,x.2.2.fst,x.2.2.snd,decide (x.2.2.snd=3))) fun y =>
      osum y (fun y=>some (Sum.inl ((),y.2))) fun y=>some (Sum.inr ((),y.2)))
     (obnd (czK (x.fst,x.2.fst,x.2.2.fst,x.2.2.snd,decide (x.2.2.snd=4))) fun y =>
      osum y (fun y=>some (Sum.inl ((),y.2))) fun y=>some (Sum.inr ((),y.2))))))
def ezm:CutSpec tb:=⟨27,[(0,.val 3),(1,.val 22),(4,.ref 28),(5,.val 3)],[(.normal,[]),(.ret,[])],[7,6,8,9,10,11,12,13,14,16,15,17,18,19,20,21,22,23,25,24,26,27,28,29,30,31,33,32,34,35,36,37,39,38,40,41,42,43,44,45,47,46,48,49,50,51,52,53,54,56,55,57,58,59,60,61,63,62,64,65,67,66,68,69,70,71],lz1⟩
theorem yz0:∀ x,bzD Tryz.prog tb ezl [ezn] (azf 27 Tryz.f21) ezm.ins ezm.outs x=ezm.J x:=fun x=>by kernel_rfl
theorem BzB:cutB Tryz.f21.ntmps ezm (azf 27 Tryz.f21)=true:=by kernel_rfl
theorem yz1:azg ([ezn]:List (CutSpec tb)) (azf 27 Tryz.f21)=[(66,azf 66 Tryz.f21)]:=by kernel_rfl
theorem wzY:azi Tryz.prog tb Tryz.f21.ntmps (azf 27 Tryz.f21) ezm:=bzl mixed BzB dzu rfl yz1 (.cons rfl wzZ rfl .nil) yz0
def mzv (x:Int×List Arg):Option (Val) :=
 obnd (lz1 (x.fst,x.snd,{ Kind:=0,N:={ M:=0,S:=0 },S:=[],B:=false,E:=0 },x.fst)) fun y =>
  osum y (fun y=>obnd (azo 15) fun y=>some y) fun y=>some y.2
def izb:FSpec tb:=⟨[(0,.val 3),(1,.val 22)],[(0,.val 28)],mzv⟩
theorem Gzy:∀ x,evFn Tryz.prog tb ezl [ezm] Tryz.f21 izb.ins izb.outs x=izb.f x:=fun x=>by kernel_rfl
theorem IzM:fnK Tryz.f21 izb.ins izb.outs=true:=by kernel_rfl
theorem Gzz:azg ([ezm]:List (CutSpec tb)) (azA Tryz.f21)=[(27,azf 27 Tryz.f21)]:=by kernel_rfl
theorem zze:aze Tryz.prog tb 21 izb:=azJ mixed Tryz.func21 IzM dzu rfl Gzz (.cons rfl wzY rfl .nil) Gzy
end Go.Proofs.YtdgpkbnnljblmaaGreatDoor

/- Y1 -/
namespace Go.Proofs.YtdgpkbnnljblmaaGreatDoor
open Go Go.Ev Go.Lib
def v0:Val:=⟨0,⟨0,0⟩,[],false,0⟩
theorem gzv (e:Int):azq e=some (vE e):=rfl
theorem bzw (e:Int):azo e=some (vE e):=rfl
def okA (l:List Arg):Prop:=l.length≤40∧∀ a∈l,a.L.length≤40∧∀ v∈a.L,okW v
def badA (a:Arg):Bool:=!a.Area&&!decide (a.L.length=1)
def badB (a:Arg):Bool:=a.Area||!decide (a.L.length=1)
theorem many1_is (a:Arg):pz1 a=some (badA a):=by
 unfold pz1 badA;cases a.Area with
 | true=>rfl
 | false =>
  simp only [Bool.not_false,azc,Bool.true_and];by_cases h:a.L.length=1<;>simp [h]<;>omega
theorem Ozi (a:Arg):nzt a=some (badB a):=by
 unfold nzt badB;cases a.Area with
 | true=>rfl
 | false =>
  simp only [azb,Bool.false_or];by_cases h:a.L.length=1<;>simp [h]<;>omega
theorem lzy {l:List Arg} (hl:l.length≤1000):bzk (l,())=some (l.any badA):=by
 unfold bzk bz9;have this:bzT (l,(),(l.length:Int),0)=some ((fun (r:Option Nat)=>match r with | some i=>.inr (i:Int) | none=>.inl ()) _):=mzg (F:=azU) (fun i=>(l,(),(l.length:Int),(i:Int))) (fun r=>match r with | some i=>.inr (i:Int) | none=>.inl ()) l badA (by omega)
  (fun back i hi=>by
   unfold azU;simp only;rw [ltT hi,azc,idxG hi,aza,many1_is,aza,wr1 (by omega)];cases badA l[i]<;>rfl)
  (fun back=>by
   unfold azU;simp only;rw [ltF,azb])
 simp only;rw [this,aza,← lzO];cases l.findIdx? badA with
 | none=>rfl
 | some i =>
  simp only [osum,aza,Option.isSome_some];rw [decide_eq_true (by omega)]
theorem HzP {l:List Arg} (hl:l.length≤1000):hze l=some (!l.any badB):=by
 unfold hze bzK bzZ;have this:bzL (l,(),(l.length:Int),0)=some ((fun (r:Option Nat)=>match r with | some i=>.inr (i:Int) | none=>.inl ()) _):=mzg (F:=azR) (fun i=>(l,(),(l.length:Int),(i:Int))) (fun r=>match r with | some i=>.inr (i:Int) | none=>.inl ()) l badB (by omega)
  (fun back i hi=>by
   unfold azR;simp only;rw [ltT hi,azc,idxG hi,aza,Ozi,aza,wr1 (by omega)];cases badB l[i]<;>rfl)
  (fun back=>by
   unfold azR;simp only;rw [ltF,azb])
 simp only;rw [this,aza,← lzO];cases l.findIdx? badB with
 | none=>rfl
 | some i =>
  simp only [osum,aza,Option.isSome_some];rw [decide_eq_true (show (0:Int)≤(i:Int) by omega)];rfl
theorem rz6 {l:List Arg} (hl:l.length≤1000):izZ l=some (!l.any badA):=by
 unfold izZ;have this:nzQ (l,0)=some ((fun (r:Option Nat)=>match r with | some _=>.inr false | none=>.inl ()) _):=mzg (F:=fzp) (fun i=>(l,(i:Int))) (fun r=>match r with | some _=>.inr false | none=>.inl ()) l badA (by omega)
  (fun back i hi=>by
   unfold fzp badA;simp only;rw [ltT hi,azc,idxG hi,aza,wr1 (by omega)];cases (l[i]).Area with
   | true=>rfl
   | false =>
    simp only [Bool.not_false,azc,aza,Bool.true_and];by_cases h:(l[i]).L.length=1
    ·rw [h];rfl
    ·rw [decide_eq_false h,decide_eq_false (by omega)];rfl)
  (fun back=>by
   unfold fzp;simp only;rw [ltF,azb])
 rw [this,aza,← lzO];cases l.findIdx? badA<;>rfl
theorem rz7 {l:List Arg} {p q:Int} (hl:l.length≤1000):az3 (l,p,q)=some (decide (p≤l.length)&&(decide ((l.length:Int)≤q)&&!l.any badB)):=by
 unfold az3;simp only;by_cases h1:(l.length:Int) < p
 ·rw [decide_eq_true h1,azc,decide_eq_false (show ¬ p≤(l.length:Int) by omega)];rfl
 rw [decide_eq_false h1,azb,decide_eq_true (show p≤(l.length:Int) by omega)];by_cases h2:q < (l.length:Int)
 ·rw [decide_eq_true h2,azc,decide_eq_false (show ¬ (l.length:Int)≤q by omega)];rfl
 rw [decide_eq_false h2,azb,decide_eq_true (show (l.length:Int)≤q by omega)];have this:nzR (l,0)=some ((fun (r:Option Nat)=>match r with | some _=>.inr false | none=>.inl ()) _):=mzg (F:=fzr) (fun i=>(l,(i:Int))) (fun r=>match r with | some _=>.inr false | none=>.inl ()) l badB (by omega)
  (fun back i hi=>by
   unfold fzr badB;simp only;rw [ltT hi,azc,idxG hi,aza,wr1 (by omega)];cases (l[i]).Area with
   | true=>rfl
   | false =>
    simp only [azb,aza,Bool.false_or];by_cases h:(l[i]).L.length=1
    ·rw [h];rfl
    ·rw [decide_eq_false h,decide_eq_false (by omega)];rfl)
  (fun back=>by
   unfold fzr;simp only;rw [ltF,azb])
 rw [this,aza,← lzO];cases l.findIdx? badB<;>rfl
end Go.Proofs.YtdgpkbnnljblmaaGreatDoor

/- Y2 -/
namespace Go.Proofs.YtdgpkbnnljblmaaGreatDoor
open Go Go.Ev Go.Lib
def numR (v:Val):Dec×Val×Bool:=(bzo v).getD (⟨0,0⟩,v0,false)
def truR (v:Val):Bool×Val×Bool:=(czO v).getD (false,v0,false)
def worR (v:Val):List UInt8×Val×Bool:=(ezB v).getD ([],v0,false)
theorem kzx {v:Val} (h:okW v):bzo v=some (numR v)∧bzm v=some (numR v):=by
 obtain ⟨r,h1,h2⟩:=number_eq h.1 h.2.1;unfold numR;rw [h1];exact ⟨rfl,h2⟩
theorem tzw {v:Val} (h:okW v):czO v=some (truR v)∧czX v=some (truR v):=by
 obtain ⟨r,h1,h2⟩:=truth_eq h.1;unfold truR;rw [h1];exact ⟨rfl,h2⟩
theorem tzC {v:Val} (h:okW v):ezB v=some (worR v)∧czC v=some (worR v):=by
 obtain ⟨r,h1,h2⟩:=words_eq h.1 h.2.2;unfold worR;rw [h1];exact ⟨rfl,h2⟩
theorem parse_ok (x:List UInt8):okD (jzm x).1∧I64 (jzm x).1.M:=by
 have z:okD ⟨0,0⟩∧I64 (⟨0,0⟩:Dec).M:=⟨ok0,I0⟩;unfold jzm;generalize (cutW (czl x)).1=w;generalize (cutW (czl x)).2.1=b;generalize (cutW (czl x)).2.2=p;generalize cz8 x=m;split
 ·exact z
 ·rename_i hc;have hd:(w++b).all isD=true:=by
   cases h:(w++b).all isD with
   | true=>rfl
   | false=>rw [h] at hc;simp at hc
  unfold nzk;by_cases h1:(if m then 9223372036854775808 < valB (w++b) 0 else 9223372036854775808≤valB (w++b) 0)
  ·rw [if_pos h1];exact z
  rw [if_neg h1];by_cases h2:9 < b.length∨b.getLast? = some 48
  ·rw [if_pos h2];exact z
  rw [if_neg h2];simp only [not_or] at h2;refine ⟨⟨by simp,by simp only;omega,fun h3 hm=>?_⟩,?_⟩
  ·simp only at h3 hm;rcases List.eq_nil_or_concat b with rfl | ⟨l,c,rfl⟩
   ·simp at h3
   ·simp only [List.concat_eq_append] at hd h2 hm;have hc:isD c=true:=by
     rw [List.all_eq_true] at hd;exact hd c (by simp)
    have hne:c≠48:=fun e=>h2.2 (by simp [e])
    have hv:valB (w++(l++[c])) 0 % 10=c.toNat - 48:=by
     rw [← List.append_assoc,sz2];unfold isD at hc;simp only [Bool.and_eq_true,decide_eq_true_eq] at hc;simp only [valB];omega
    have hc48:c.toNat≠48:=fun e=>hne (UInt8.toNat_inj.1 (by simpa using e))
    unfold isD at hc;simp only [Bool.and_eq_true,decide_eq_true_eq] at hc;generalize valB (w++(l++[c])) 0=n at hv hm;cases m
    ·simp at hm;omega
    ·simp at hm;omega
  ·unfold I64;generalize valB (w++b) 0=n at h1;cases m
   ·simp at h1 ⊢;omega
   ·simp at h1 ⊢;omega
theorem ozD {v:Val} (h:okW v):okD (numR v).1∧I64 (numR v).1.M:=by
 have z:okD ⟨0,0⟩∧I64 (⟨0,0⟩:Dec).M:=⟨ok0,I0⟩;obtain ⟨h,hl,hm⟩:=h;rcases h with rfl | ⟨d,rfl,hd⟩ | ⟨s,rfl,hs⟩ | ⟨t,rfl⟩ | ⟨e,rfl⟩
 ·exact z
 ·exact ⟨hd,hm⟩
 ·have hl:s.length≤3000:=hl;unfold numR bzo vS azq;simp [KzA (x:=s) (by omega)];by_cases h:(jzm s).2=0<;>simp [h]
  ·exact parse_ok s
  ·exact z
 ·cases t
  ·exact z
  ·exact ⟨okInt 1,by unfold I64;decide⟩
 ·exact z
def uzH (area:Bool) (v:Val):Bool:=area&&(!decide (v.Kind=1)&&!decide (v.Kind=4))
def gzk (area:Bool) (acc:List Dec) (v:Val):List Dec⊕(List Dec⊕Val) :=
 bif uzH area v then .inl acc else bif (numR v).2.2 then .inl (acc++[(numR v).1]) else .inr (.inr (numR v).2.1)
def numL (area:Bool) (acc:List Dec) (l:List Val):List Dec⊕Val:=azL (gzk area) .inl acc l
def mzr:List Dec⊕Val→((List Dec)×Val)⊕((List Dec×Bool)×Val)
 | .inl acc=>.inl (acc,v0)
 | .inr v=>.inr (([],false),v)
theorem Aze {area:Bool} {acc acc':List Dec} {v:Val} (h:gzk area acc v = .inl acc'):acc'.length≤acc.length+1:=by
 unfold gzk at h;cases hk:uzH area v with
 | true=>rw [hk,cond_true] at h;injection h with h;subst h;omega
 | false =>
  rw [hk,cond_false] at h;cases hn:(numR v).2.2 with
  | true=>rw [hn,cond_true] at h;injection h with h;subst h;simp
  | false=>rw [hn,cond_false] at h;cases h
theorem BzA {area:Bool}:∀ {l:List Val} {acc acc':List Dec},numL area acc l = .inl acc'→acc'.length≤acc.length+l.length
 | [],acc,acc',h=>by simp only [numL,azL] at h;injection h with h;subst h;simp
 | v :: l,acc,acc',h=>by
  simp only [numL,azL] at h;cases hs:gzk area acc v with
  | inl a =>
   rw [hs] at h;have:=BzA (l:=l) h;have:=Aze hs;simp only [List.length_cons];omega
  | inr y =>
   rw [hs] at h;have h:y = .inl acc':=h;subst h;unfold gzk at hs;cases h1:uzH area v<;>cases h2:(numR v).2.2<;>simp [h1,h2] at hs
theorem NzZ {a:Arg} {acc:List Dec} (hL:a.L.length≤40) (hv:∀ v∈a.L,okW v) (ha:acc.length≤100000) :
 ozw (v0,acc,a,a.L,(a.L.length:Int),0)=some (mzr (numL a.Area acc a.L)):=by
 refine bzb (F:=gzh) (fun s i=>(v0,s,a,a.L,(a.L.length:Int),(i:Int))) mzr a.L (gzk a.Area) .inl (fun s i=>s.length≤acc.length+i) (by omega) ?_ ?_ ?_ acc (by simp)
 ·intro back s i hi hs;unfold gzh;simp only;have hn:=(kzx (hv a.L[i] (List.getElem_mem hi))).1;rw [ltT hi,azc,idxG hi,aza,wr1 (by omega)];unfold gzk uzH;have e:obnd (bzo a.L[i]) (fun y=>brn (!y.2.snd) (some (Sum.inr (([],false),y.2.fst))) (obnd (app 16 s [y.fst]) fun zs=>back (v0,zs,a,a.L,(a.L.length:Int),((i+1:Nat):Int)))) =
   ozg (fun s'=>back (v0,s',a,a.L,(a.L.length:Int),((i+1:Nat):Int))) mzr (bif (numR a.L[i]).2.2 then (.inl (s++[(numR a.L[i]).1]):List Dec⊕(List Dec⊕Val)) else .inr (.inr (numR a.L[i]).2.1)):=by
   rw [hn,aza,appN (by simp;omega)];cases (numR a.L[i]).2.2<;>rfl
  cases a.Area with
  | false=>simp only [azb,Bool.false_and,cond_false];exact e
  | true =>
   simp only [azc,Bool.true_and];by_cases h1:(a.L[i]).Kind=1
   ·rw [decide_eq_true h1];simp only [Bool.not_true,azb,Bool.false_and,cond_false];exact e
   ·rw [decide_eq_false h1];simp only [Bool.not_false,azc,Bool.true_and];by_cases h4:(a.L[i]).Kind=4
    ·rw [decide_eq_true h4];simp only [Bool.not_true,azb,cond_false];exact e
    ·rw [decide_eq_false h4];rfl
 ·intro s i hi s' hs hst;have:=Aze hst;omega
 ·intro back s hs;unfold gzh;simp only;rw [ltF,azb];rfl
def numA (acc:List Dec) (l:List Arg):List Dec⊕Val:=azL (fun acc a=>match numL a.Area acc a.L with | .inl x=>.inl x | .inr v=>.inr (.inr v)) .inl acc l
theorem NzY {l:List Arg} (h:okA l):ozt l=some (match numA [] l with | .inl x=>(x,v0,true) | .inr v=>([],v,false)):=by
 unfold ozt;have:=bzb (F:=gzf) (fun s i=>(v0,s,l,(l.length:Int),(i:Int))) mzr l (fun acc a=>match numL a.Area acc a.L with | .inl x=>.inl x | .inr v=>.inr (.inr v)) .inl (fun s i=>s.length≤40*i) (by have:=h.1;omega)
  (fun back s i hi hs=>by
   have hai:=h.2 l[i] (List.getElem_mem hi);have hl:=h.1;unfold gzf;simp only;rw [ltT hi,azc,idxG hi,aza,wr1 (by omega),NzZ hai.1 hai.2 (by omega),aza];cases numL (l[i]).Area s (l[i]).L<;>rfl)
  (fun s i hi s' hs hst=>by
   have hai:=h.2 l[i] (List.getElem_mem hi);cases hn:numL (l[i]).Area s (l[i]).L with
   | inl x =>
    rw [hn] at hst;simp only at hst;injection hst with hst;subst hst;have:=BzA hn;omega
   | inr v=>rw [hn] at hst;cases hst)
  (fun back s hs=>by
   unfold gzf;simp only;rw [ltF,azb];rfl) [] (by simp)
 have this:lz0 (v0,[],l,(l.length:Int),0)=some (mzr (numA [] l)):=this
 show (obnd (lz0 (v0,[],l,(l.length:Int),0)) _)=_
 rw [this,aza];cases numA [] l<;>rfl
def rzk (area count:Bool) (v:Val):Bool:=area&&(!decide (v.Kind=1)&&(!decide (v.Kind=4)||count))
def fzI (area count:Bool) (acc:List Dec) (v:Val):List Dec⊕(List Dec⊕Val) :=
 bif rzk area count v then .inl acc else bif (numR v).2.2 then .inl (acc++[(numR v).1]) else bif count then .inl acc else .inr (.inr (numR v).2.1)
theorem Azm {area count:Bool} {acc acc':List Dec} {v:Val} (h:fzI area count acc v = .inl acc'):acc'.length≤acc.length+1:=by
 unfold fzI at h;cases hk:rzk area count v with
 | true=>rw [hk,cond_true] at h;injection h with h;subst h;omega
 | false =>
  rw [hk,cond_false] at h;cases hn:(numR v).2.2 with
  | true=>rw [hn,cond_true] at h;injection h with h;subst h;simp
  | false =>
   rw [hn,cond_false] at h;cases count with
   | true=>rw [cond_true] at h;injection h with h;subst h;omega
   | false=>rw [cond_false] at h;cases h
def refL (area count:Bool) (acc:List Dec) (l:List Val):List Dec⊕Val:=azL (fzI area count) .inl acc l
theorem Kz5 {area count:Bool}:∀ {l:List Val} {acc acc':List Dec},refL area count acc l = .inl acc'→acc'.length≤acc.length+l.length
 | [],acc,acc',h=>by simp only [refL,azL] at h;injection h with h;subst h;simp
 | v :: l,acc,acc',h=>by
  simp only [refL,azL] at h;cases hs:fzI area count acc v with
  | inl a =>
   rw [hs] at h;have:=Kz5 (l:=l) h;have:=Azm hs;simp only [List.length_cons];omega
  | inr y =>
   rw [hs] at h;have h:y = .inl acc':=h;subst h;unfold fzI at hs;cases h1:rzk area count v<;>cases h2:(numR v).2.2<;>cases count<;>simp [h1,h2] at hs
theorem Jzg {a:Arg} {acc:List Dec} {c:Bool} {i:Nat} (hi:i < a.L.length) (hv:okW a.L[i]) (ha:acc.length≤200000) :
 jz8 (c,v0,acc,a,(i:Int))=some (match fzI a.Area c acc a.L[i] with | .inl s=>.inl (s,v0) | .inr y=>mzr y):=by
 unfold jz8;simp only;rw [idxG hi,aza];have hn:=(kzx hv).2;unfold fzI rzk;generalize hvv:a.L[i]=v at hn ⊢;have e:obnd (bzm v) (fun y=>brn (!y.2.snd) (brn c (some (Sum.inl (acc,v0))) (brn (!y.2.snd) (some (Sum.inr (([],false),y.2.fst))) (obnd (app 16 acc [y.fst]) fun zs=>some (Sum.inl (zs,v0)))))
  (brn (!y.2.snd) (some (Sum.inr (([],false),y.2.fst))) (obnd (app 16 acc [y.fst]) fun zs=>some (Sum.inl (zs,v0))))) =
  some (match (bif (numR v).2.2 then (.inl (acc++[(numR v).1]):List Dec⊕(List Dec⊕Val)) else bif c then .inl acc else .inr (.inr (numR v).2.1)) with | .inl s=>.inl (s,v0) | .inr y=>mzr y):=by
  rw [hn,aza,appN (by simp;omega)];cases (numR v).2.2<;>cases c<;>rfl
 cases a.Area with
 | false=>simp only [azb,Bool.false_and,cond_false];exact e
 | true =>
  simp only [azc,Bool.true_and];by_cases h1:v.Kind=1
  ·rw [decide_eq_true h1];simp only [Bool.not_true,azb,Bool.false_and,cond_false];exact e
  ·rw [decide_eq_false h1];simp only [Bool.not_false,azc,Bool.true_and];by_cases h4:v.Kind=4
   ·rw [decide_eq_true h4];simp only [Bool.not_true,azb,Bool.false_or];cases c with
    | true=>rfl
    | false=>simp only [azb,cond_false];exact e
   ·rw [decide_eq_false h4];rfl
theorem Jzi {a:Arg} {acc:List Dec} {c:Bool} (hL:a.L.length≤40) (hv:∀ v∈a.L,okW v) (ha:acc.length≤100000) :
 nzb (c,v0,acc,a,0)=some (mzr (refL a.Area c acc a.L)):=by
 refine bzb (F:=ezH) (fun s i=>(c,v0,s,a,(i:Int))) mzr a.L (fzI a.Area c) .inl (fun s i=>s.length≤acc.length+i) (by omega) ?_ ?_ ?_ acc (by simp)
 ·intro back s i hi hs;unfold ezH;simp only;rw [ltT hi,azc,Jzg hi (hv _ (List.getElem_mem hi)) (by omega),aza,wr1 (by omega)];cases hst:fzI a.Area c s a.L[i] with
  | inl s'=>rfl
  | inr y =>
   cases y with
   | inr v=>rfl
   | inl x=>exfalso;unfold fzI at hst;cases h1:rzk a.Area c a.L[i]<;>cases h2:(numR a.L[i]).2.2<;>cases c<;>simp [h1,h2] at hst
 ·intro s i hi s' hs hst;have:=Azm hst;omega
 ·intro back s hs;unfold ezH;simp only;rw [ltF,azb];rfl
def refA (c:Bool) (acc:List Dec) (l:List Arg):List Dec⊕Val:=azL (fun acc a=>match refL a.Area c acc a.L with | .inl x=>.inl x | .inr v=>.inr (.inr v)) .inl acc l
theorem Jzh {l:List Arg} {c:Bool} (h:okA l):mzV (l,c)=some (match refA c [] l with | .inl x=>(x,v0,true) | .inr v=>([],v,false)):=by
 unfold mzV;have:=bzb (F:=ezF) (fun s i=>(l,c,v0,s,(i:Int))) mzr l (fun acc a=>match refL a.Area c acc a.L with | .inl x=>.inl x | .inr v=>.inr (.inr v)) .inl (fun s i=>s.length≤40*i) (by have:=h.1;omega)
  (fun back s i hi hs=>by
   have hai:=h.2 l[i] (List.getElem_mem hi);have hl:=h.1;unfold ezF;simp only;rw [ltT hi,azc,idxG hi,aza,wr1 (by omega),Jzi hai.1 hai.2 (by omega),aza];cases refL (l[i]).Area c s (l[i]).L<;>rfl)
  (fun s i hi s' hs hst=>by
   have hai:=h.2 l[i] (List.getElem_mem hi);cases hn:refL (l[i]).Area c s (l[i]).L with
   | inl x =>
    rw [hn] at hst;simp only at hst;injection hst with hst;subst hst;have:=Kz5 hn;omega
   | inr v=>rw [hn] at hst;cases hst)
  (fun back s hs=>by
   unfold ezF;simp only;rw [ltF,azb];rfl) [] (by simp)
 have this:jz9 (l,c,v0,[],0)=some (mzr (refA c [] l)):=this
 show (obnd (jz9 (l,c,v0,[],0)) _)=_
 rw [this,aza];cases refA c [] l<;>rfl
theorem MzI (area:Bool) (acc:List Dec) (v:Val):fzI area false acc v=gzk area acc v:=by
 unfold fzI gzk rzk uzH;simp
theorem refA_num (acc:List Dec) (l:List Arg):refA false acc l=numA acc l:=by
 unfold refA numA refL numL;have:∀ area,fzI area false=gzk area:=fun area=>funext fun acc=>funext fun v=>MzI area acc v
 simp only [this]
end Go.Proofs.YtdgpkbnnljblmaaGreatDoor

/- Y3 -/
namespace Go.Proofs.YtdgpkbnnljblmaaGreatDoor
open Go Go.Ev Go.Lib
def okd (d:Dec):Prop:=okD d∧I64 d.M
theorem okd0:okd ⟨0,0⟩:=⟨ok0,I0⟩
theorem okdI {n:Int} (h:I64 n):okd ⟨n,0⟩:=⟨okInt n,h⟩
def okR (r:Dec×Int):Prop:=(r.2=0→okd r.1)∧(r.2≠0→r.1=⟨0,0⟩)
theorem tzV (v:Int) {p:Nat} (hp:p≤9):okR (decV v p):=by
 have h:=@decV_ok v p;unfold decV at h ⊢;by_cases hc:I64 (azt v p).1
 ·rw [if_pos hc] at h ⊢;exact ⟨fun _=>(by obtain ⟨h1,h2,_⟩:=h hp rfl;exact ⟨h1,h2⟩),fun e=>absurd rfl e⟩
 ·rw [if_neg hc];exact ⟨fun e=>by simp at e,fun _=>rfl⟩
theorem natS {d:Dec} (h:okD d):∃ s:Nat,d=⟨d.M,(s:Int)⟩∧s≤9:=by
 obtain ⟨M,S⟩:=d;obtain ⟨s,rfl⟩:=Int.eq_ofNat_of_zero_le h.1;have:=h.2.1;exact ⟨s,rfl,by simp only at this;omega⟩
theorem add_eq {a b:Dec} (ha:okd a) (hb:okd b):∃ r,pzd (a,b)=some r∧mzy (a,b)=some r∧okR r∧r=decV (V a+V b) 9:=by
 refine ⟨_,Add_is ha.2 hb.2 ha.1 hb.1,?_,tzV _ (by omega),rfl⟩;obtain ⟨s,es,hs⟩:=natS ha.1;obtain ⟨t,et,ht⟩:=natS hb.1;have hm:=ha.2;have hn:=hb.2;generalize a.M=M at *;generalize b.M=N at *;subst es;subst et;exact refAdd_is hm hn hs ht
theorem sub_eq {a b:Dec} (ha:okd a) (hb:okd b):∃ r,kzY (a,b)=some r∧kzG (a,b)=some r∧okR r∧r=decV (V a - V b) 9:=by
 refine ⟨_,Sub_is ha.2 hb.2 ha.1 hb.1,?_,tzV _ (by omega),rfl⟩;obtain ⟨s,es,hs⟩:=natS ha.1;obtain ⟨t,et,ht⟩:=natS hb.1;have hm:=ha.2;have hn:=hb.2;generalize a.M=M at *;generalize b.M=N at *;subst es;subst et;exact refSub_is hm hn hs ht
theorem div_eq {a b:Dec} (ha:okd a) (hb:okd b):∃ r,gzr (a,b)=some r∧fz4 (a,b)=some r∧okR r:=by
 by_cases h0:b.M=0
 ·refine ⟨(⟨0,0⟩,9),?_,?_,fun e=>by simp at e,fun _=>rfl⟩
  ·unfold gzr;simp only;rw [decide_eq_true h0,azc]
  ·unfold fz4;simp only;rw [decide_eq_true h0,azc]
 obtain ⟨s,es,hs⟩:=natS ha.1;obtain ⟨t,et,ht⟩:=natS hb.1;have hm:=ha.2;have hn:=hb.2;generalize a.M=M at *;generalize b.M=N at *;subst es;subst et;exact ⟨_,Nz5 hm hn hs ht h0,refDiv_is hm hn hs ht h0,tzV _ (by omega)⟩
theorem I64_floor {m:Int} {k:Nat} (h:I64 m):I64 (m / 10 ^ k):=by
 unfold I64 at *;have hp:(0:Int) < 10 ^ k:=Int.pow_pos (by decide);generalize (10:Int) ^ k=p at hp;rcases Int.le_total 0 m with hm | hm
 ·have h1:=Int.ediv_nonneg hm (Int.le_of_lt hp);have h2:=Int.ediv_le_self p hm;omega
 ·have h1:m≤m / p:=by
   refine Int.le_ediv_of_mul_le hp ?_;have h3:(-m)*1≤(-m)*p:=Int.mul_le_mul_of_nonneg_left (by omega) (by omega);rw [Int.neg_mul,Int.neg_mul,Int.mul_one] at h3;omega
  have h2:m / p < 1:=Int.ediv_lt_of_lt_mul hp (by omega);omega
theorem floor_eq {a:Dec} (ha:okd a):∃ r,kzU a=some r∧hzL a=some r∧okR r :=
 ⟨_,Floor_is ha.2 ha.1.1 ha.1.2.1,MzE ha.2 ha.1,fun _=>okdI (I64_floor ha.2),fun e=>absurd rfl e⟩
theorem sz9 {a b:Dec} (ha:okd a) (hb:okd b):ezd (a,b)=some (cmpV (V a) (V b))∧dzU (a,b)=some (cmpV (V a) (V b)):=cmp_num ha.1 hb.1 ha.2 hb.2
def numV (r:Dec×Int):Val:=if r.2=0 then vN r.1 else if r.2=9 then vE 7 else vE 36
theorem kzy (r:Dec×Int):bzc r=some (numV r):=by
 unfold bzc numV;by_cases h:r.2=0
 ·simp [h,vN]
 ·by_cases h9:r.2=9<;>simp [h,h9,gzv]
theorem lzc (r:Dec×Int):czA r=some (numV r):=by
 unfold czA numV;by_cases h:r.2=0
 ·simp [h,vN,czB]
 ·by_cases h9:r.2=9<;>simp [h,h9,bzw]
theorem int_is (n:Int):bzP n=some (vN ⟨n,0⟩):=by
 unfold bzP;rw [show czu n=some ⟨n,0⟩ from rfl,aza,kzy];rfl
theorem uzd (d:Dec):czB d=some (vN d):=rfl
def cnt1 (area:Bool) (n:Nat) (v:Val):Nat:=bif (numR v).2.2&&(!area||decide (v.Kind=1)) then n+1 else n
theorem ezQ {A S Y:Type} (f:S→A→S) (fin:S→Y):∀ (l:List A) (s:S),azL (fun s a=>.inl (f s a)) fin s l=fin (l.foldl f s)
 | [],_=>rfl
 | a :: l,s=>by simp only [azL,List.foldl_cons];exact ezQ f fin l _
def cntL (area:Bool) (n:Nat) (l:List Val):Nat:=l.foldl (cnt1 area) n
theorem cnt1_le (area:Bool) (n:Nat) (v:Val):cnt1 area n v≤n+1:=by unfold cnt1;cases (numR v).2.2&&(!area||decide (v.Kind=1))<;>simp
theorem cntL_le (area:Bool):∀ (l:List Val) (n:Nat),cntL area n l≤n+l.length
 | [],n=>by simp [cntL]
 | v :: l,n=>by
  have:=cntL_le area l (cnt1 area n v);have:=cnt1_le area n v;simp only [cntL,List.foldl_cons,List.length_cons] at *;omega
theorem Mz7 {a:Arg} {n:Nat} (hL:a.L.length≤40) (hv:∀ v∈a.L,okW v) (hn:n≤100000) :
 ozq ((n:Int),a,a.L,(a.L.length:Int),0)=some ((cntL a.Area n a.L:Nat):Int):=by
 have:=bzb (F:=gzd) (fun s i=>(((s:Nat):Int),a,a.L,(a.L.length:Int),(i:Int))) (fun s:Nat=>(s:Int)) a.L (fun s v=>.inl (cnt1 a.Area s v)) id (fun s i=>s≤n+i) (by omega)
  (fun back s i hi hs=>by
   unfold gzd;simp only;rw [ltT hi,azc,idxG hi,aza,(kzx (hv _ (List.getElem_mem hi))).1,aza,wr1 (i:=i) (by omega)];have w:IntKind.i64.wrap ((s:Int)+1)=((s+1:Nat):Int):=wr1 (by omega);unfold cnt1;simp only [ozg];rw [w];cases (numR a.L[i]).2.2 with
   | false=>rfl
   | true =>
    cases a.Area with
    | false=>rfl
    | true =>
     by_cases h1:(a.L[i]).Kind=1
     ·rw [decide_eq_true h1];rfl
     ·rw [decide_eq_false h1];rfl)
  (fun s i hi s' hs hst=>by
   injection hst with hst;have:=cnt1_le a.Area s a.L[i];omega)
  (fun back s hs=>by
   unfold gzd;simp only;rw [ltF,azb];rfl) n (by simp)
 rw [ezQ] at this;exact this
def cntA (n:Nat) (l:List Arg):Nat:=l.foldl (fun n a=>cntL a.Area n a.L) n
theorem Mz6 {l:List Arg} (h:okA l):ozm l=some ((cntA 0 l:Nat):Int):=by
 have:=bzb (F:=gzb) (fun s i=>(((s:Nat):Int),l,(l.length:Int),(i:Int))) (fun s:Nat=>(s:Int)) l (fun s a=>.inl (cntL a.Area s a.L)) id (fun s i=>s≤40*i) (by have:=h.1;omega)
  (fun back s i hi hs=>by
   have hai:=h.2 l[i] (List.getElem_mem hi);have hl:=h.1;unfold gzb;simp only;rw [ltT hi,azc,idxG hi,aza,wr1 (by omega),Mz7 hai.1 hai.2 (by omega),aza];rfl)
  (fun s i hi s' hs hst=>by
   have hai:=h.2 l[i] (List.getElem_mem hi);injection hst with hst;have:=cntL_le (l[i]).Area (l[i]).L s;omega)
  (fun back s hs=>by
   unfold gzb;simp only;rw [ltF,azb];rfl) 0 (by simp)
 rw [ezQ] at this;have this:ozp (0,l,(l.length:Int),0)=some ((cntA 0 l:Nat):Int):=this;unfold ozm;rw [this];rfl
def uzh (area:Bool) (acc:List Dec) (v:Val):List Dec:=bif rzk area true v then acc else bif (numR v).2.2 then acc++[(numR v).1] else acc
theorem Kz6 (area:Bool):fzI area true=fun acc v=>.inl (uzh area acc v):=by
 funext acc v;unfold fzI uzh;cases rzk area true v<;>cases (numR v).2.2<;>rfl
theorem push1_len (area:Bool) (acc:List Dec) (v:Val):(uzh area acc v).length=cnt1 area acc.length v:=by
 unfold uzh cnt1 rzk;cases area with
 | false=>cases (numR v).2.2<;>simp
 | true =>
  by_cases h1:v.Kind=1
  ·rw [decide_eq_true h1];cases (numR v).2.2<;>simp
  ·rw [decide_eq_false h1];simp
theorem HzE (area:Bool):∀ (l:List Val) (acc:List Dec),(l.foldl (uzh area) acc).length=cntL area acc.length l
 | [],_=>rfl
 | v :: l,acc=>by
  simp only [List.foldl_cons,cntL];rw [HzE area l,push1_len];rfl
theorem Ez6:∀ (l:List Arg) (acc:List Dec),∃ xs,refA true acc l = .inl xs∧xs.length=cntA acc.length l
 | [],acc=>⟨acc,rfl,rfl⟩
 | a :: l,acc=>by
  have hr:refL a.Area true acc a.L = .inl (a.L.foldl (uzh a.Area) acc):=by
   unfold refL;rw [Kz6,ezQ]
  obtain ⟨xs,h1,h2⟩:=Ez6 l (a.L.foldl (uzh a.Area) acc);refine ⟨xs,?_,?_⟩
  ·unfold refA at h1 ⊢;simp only [azL,hr];exact h1
  ·rw [h2,HzE];rfl
theorem NzX {area:Bool} {acc acc':List Dec} {v:Val} (hv:okW v) (ha:∀ d∈acc,okd d) (h:gzk area acc v = .inl acc'):∀ d∈acc',okd d:=by
 unfold gzk at h;cases hk:uzH area v with
 | true=>rw [hk,cond_true] at h;injection h with h;subst h;exact ha
 | false =>
  rw [hk,cond_false] at h;cases hn:(numR v).2.2 with
  | true =>
   rw [hn,cond_true] at h;injection h with h;subst h;intro d hd;rcases List.mem_append.1 hd with hd | hd
   ·exact ha d hd
   ·rw [List.mem_singleton.1 hd];exact ozD hv
  | false=>rw [hn,cond_false] at h;cases h
theorem numL_ok {area:Bool}:∀ {l:List Val} {acc acc':List Dec},(∀ v∈l,okW v)→(∀ d∈acc,okd d)→numL area acc l = .inl acc'→∀ d∈acc',okd d
 | [],acc,acc',_,ha,h=>by simp only [numL,azL] at h;injection h with h;subst h;exact ha
 | v :: l,acc,acc',hv,ha,h=>by
  simp only [numL,azL] at h;cases hs:gzk area acc v with
  | inl a =>
   rw [hs] at h;exact numL_ok (l:=l) (fun v hv'=>hv v (List.mem_cons_of_mem _ hv')) (NzX (hv v (List.mem_cons_self ..)) ha hs) h
  | inr y =>
   rw [hs] at h;have h:y = .inl acc':=h;subst h;unfold gzk at hs;cases h1:uzH area v<;>cases h2:(numR v).2.2<;>simp [h1,h2] at hs
theorem Gzw:∀ {l:List Arg} {acc acc':List Dec},(∀ a∈l,∀ v∈a.L,okW v)→(∀ d∈acc,okd d)→numA acc l = .inl acc'→∀ d∈acc',okd d
 | [],acc,acc',_,ha,h=>by simp only [numA,azL] at h;injection h with h;subst h;exact ha
 | a :: l,acc,acc',hv,ha,h=>by
  simp only [numA,azL] at h;cases hs:numL a.Area acc a.L with
  | inl x =>
   rw [hs] at h;exact Gzw (l:=l) (fun b hb=>hv b (List.mem_cons_of_mem _ hb)) (numL_ok (hv a (List.mem_cons_self ..)) ha hs) h
  | inr y=>rw [hs] at h;cases h
theorem Bzz:∀ {l:List Arg} {acc acc':List Dec},(∀ a∈l,a.L.length≤40)→numA acc l = .inl acc'→acc'.length≤acc.length+40*l.length
 | [],acc,acc',_,h=>by simp only [numA,azL] at h;injection h with h;subst h;simp
 | a :: l,acc,acc',hv,h=>by
  simp only [numA,azL] at h;cases hs:numL a.Area acc a.L with
  | inl x =>
   rw [hs] at h;have:=Bzz (l:=l) (fun b hb=>hv b (List.mem_cons_of_mem _ hb)) h;have:=BzA hs;have:=hv a (List.mem_cons_self ..);simp only [List.length_cons];omega
  | inr y=>rw [hs] at h;cases h
def minD (m y:Dec):Dec:=if V y < V m then y else m
def maxD (m y:Dec):Dec:=if V m < V y then y else m
theorem AzC (a b:Int):decide (cmpV a b < 0)=decide (a < b):=by
 unfold cmpV;by_cases h:a < b
 ·simp [h]
 ·by_cases h':b < a<;>simp [h,h']
theorem Jzz (a b:Int):decide (0 < cmpV a b)=decide (b < a):=by
 unfold cmpV;by_cases h:a < b
 ·have:¬ b < a:=by omega
  simp [h,this]
 ·by_cases h':b < a<;>simp [h,h']
theorem minD_ok {m y:Dec} (hm:okd m) (hy:okd y):okd (minD m y):=by unfold minD;split<;>assumption
theorem maxD_ok {m y:Dec} (hm:okd m) (hy:okd y):okd (maxD m y):=by unfold maxD;split<;>assumption
theorem min_is {x:Dec} {xs:List Dec} (hx:okd x) (hl:xs.length≤100000) (h:∀ d∈xs,okd d):bzC (x :: xs,())=some (xs.foldl minD x):=by
 have:=bzb (F:=azY) (fun s i=>(x :: xs,(),s,((i+1:Nat):Int))) (fun s:Dec=>((),s)) xs (fun s y=>.inl (minD s y)) id (fun s _=>okd s) (by omega)
  (fun back s i hi hs=>by
   have hy:=h _ (List.getElem_mem hi);have hi':i+1 < (x :: xs).length:=by simpa using hi
   unfold azY;simp only;rw [ltT hi',azc,idxG hi',aza,List.getElem_cons_succ,(sz9 hy hs).1,aza,aza,wr1 (by omega),AzC];simp only [ozg,minD];by_cases c:V xs[i] < V s
   ·rw [decide_eq_true c,if_pos c];rfl
   ·rw [decide_eq_false c,if_neg c];rfl)
  (fun s i hi s' hs hst=>by
   injection hst with hst;subst hst;exact minD_ok hs (h _ (List.getElem_mem hi)))
  (fun back s hs=>by
   unfold azY;simp only;rw [show ((xs.length+1:Nat):Int)=((x :: xs).length:Int) by simp,ltF,azb];rfl) x hx
 rw [ezQ] at this;have this:bz3 (x :: xs,(),x,1)=some ((),xs.foldl minD x):=this;unfold bzC;simp only;rw [decide_eq_false (by simp;omega),azb,idxZ,aza,this];rfl
theorem max_is {x:Dec} {xs:List Dec} (hx:okd x) (hl:xs.length≤100000) (h:∀ d∈xs,okd d):az9 (x :: xs,())=some (xs.foldl maxD x):=by
 have:=bzb (F:=azW) (fun s i=>(x :: xs,(),s,((i+1:Nat):Int))) (fun s:Dec=>((),s)) xs (fun s y=>.inl (maxD s y)) id (fun s _=>okd s) (by omega)
  (fun back s i hi hs=>by
   have hy:=h _ (List.getElem_mem hi);have hi':i+1 < (x :: xs).length:=by simpa using hi
   unfold azW;simp only;rw [ltT hi',azc,idxG hi',aza,List.getElem_cons_succ,(sz9 hy hs).1,aza,aza,wr1 (by omega),Jzz];simp only [ozg,maxD];by_cases c:V s < V xs[i]
   ·rw [decide_eq_true c,if_pos c];rfl
   ·rw [decide_eq_false c,if_neg c];rfl)
  (fun s i hi s' hs hst=>by
   injection hst with hst;subst hst;exact maxD_ok hs (h _ (List.getElem_mem hi)))
  (fun back s hs=>by
   unfold azW;simp only;rw [show ((xs.length+1:Nat):Int)=((x :: xs).length:Int) by simp,ltF,azb];rfl) x hx
 rw [ezQ] at this;have this:bz2 (x :: xs,(),x,1)=some ((),xs.foldl maxD x):=this;unfold az9;simp only;rw [decide_eq_false (by simp;omega),azb,idxZ,aza,this];rfl
def best (op:Int) (s:Option Dec) (y:Dec):Option Dec:=match s with
 | none=>some y
 | some m=>some (if op=1 then minD m y else maxD m y)
theorem best_is {op:Int} (hop:op=1∨op=2) {l:List Dec} (hl:l.length≤100000) (h:∀ d∈l,okd d):lzi (op,l,⟨0,0⟩,0)=some ((),(l.foldl (best op) none).getD ⟨0,0⟩):=by
 have:=bzb (F:=fzg) (fun (s:Option Dec) i=>(op,l,s.getD ⟨0,0⟩,(i:Int))) (fun s:Option Dec=>((),s.getD ⟨0,0⟩)) l (fun s y=>.inl (best op s y)) id (fun s i=>(s=none↔i=0)∧okd (s.getD ⟨0,0⟩)) (by omega)
  (fun back s i hi hs=>by
   have hy:=h _ (List.getElem_mem hi);unfold fzg;simp only;rw [ltT hi,azc,idxG hi,aza,(sz9 hy hs.2).2,aza,aza,wr1 (by omega),AzC,Jzz];simp only [ozg];by_cases hi0:i=0
   ·have:s=none:=hs.1.2 hi0;subst this;subst hi0;rfl
   ·cases s with
    | none=>exact absurd (hs.1.1 rfl) hi0
    | some m =>
     rw [decide_eq_false (show ¬ (i:Int)=0 by omega),azb];simp only [best,Option.getD_some];rcases hop with rfl | rfl
     ·rw [decide_eq_true rfl,azc,if_pos rfl];unfold minD;by_cases c:V l[i] < V m
      ·rw [decide_eq_true c,if_pos c];rfl
      ·rw [decide_eq_false c,if_neg c];rfl
     ·rw [decide_eq_false (by decide),azb,decide_eq_true rfl,azc,if_neg (by decide)];unfold maxD;by_cases c:V m < V l[i]
      ·rw [decide_eq_true c,if_pos c];rfl
      ·rw [decide_eq_false c,if_neg c];rfl)
  (fun s i hi s' hs hst=>by
   have hy:=h _ (List.getElem_mem hi);injection hst with hst;subst hst;refine ⟨by unfold best;cases s<;>simp,?_⟩;unfold best;cases s with
   | none=>exact hy
   | some m =>
    simp only [Option.getD_some];split
    ·exact minD_ok hs.2 hy
    ·exact maxD_ok hs.2 hy)
  (fun back s hs=>by
   unfold fzg;simp only;rw [ltF,azb];rfl) none ⟨by simp,okd0⟩
 rw [ezQ] at this;exact this
theorem Hzo (op:Int):∀ (xs:List Dec) (x:Dec),xs.foldl (best op) (some x)=some (xs.foldl (fun m y=>if op=1 then minD m y else maxD m y) x)
 | [],_=>rfl
 | y :: xs,x=>by simp only [List.foldl_cons,best];exact Hzo op xs _
def addR (t d:Dec):Dec×Int:=decV (V t+V d) 9
def hzZ (t d:Dec):Dec⊕(Dec×Int):=if (addR t d).2=0 then .inl (addR t d).1 else .inr (⟨0,0⟩,(addR t d).2)
def sumD (t:Dec) (l:List Dec):Dec×Int:=azL hzZ (fun t=>(t,0)) t l
theorem addR_ok (t d:Dec):okR (addR t d):=tzV _ (by omega)
theorem uzN {t d t':Dec} (h:hzZ t d = .inl t'):okd t':=by
 unfold hzZ at h;by_cases c:(addR t d).2=0
 ·rw [if_pos c] at h;injection h with h;subst h;exact (addR_ok t d).1 c
 ·rw [if_neg c] at h;cases h
theorem yzu:∀ {l:List Dec} {t:Dec},okd t→okR (sumD t l)
 | [],t,h=>⟨fun _=>h,fun e=>absurd rfl e⟩
 | d :: l,t,h=>by
  unfold sumD;simp only [azL];cases hs:hzZ t d with
  | inl t'=>exact yzu (l:=l) (uzN hs)
  | inr y =>
   unfold hzZ at hs;by_cases c:(addR t d).2=0
   ·rw [if_pos c] at hs;cases hs
   ·rw [if_neg c] at hs;injection hs with hs;subst hs;exact ⟨fun e=>absurd e c,fun _=>rfl⟩
def Fzj (r:Dec×Int):((Unit)×(Val×Dec))⊕((Unit)×(Val×Dec)):=if r.2=0 then .inl ((),v0,r.1) else .inr ((),numV r,r.1)
theorem many_l5 {l:List Dec} (hl:l.length≤100000) (h:∀ d∈l,okd d):rzL (v0,⟨0,0⟩,l,(l.length:Int),0)=some (Fzj (sumD ⟨0,0⟩ l)):=by
 refine bzb (F:=kzp) (fun s i=>(v0,s,l,(l.length:Int),(i:Int))) Fzj l hzZ (fun t=>(t,0)) (fun s _=>okd s) (by omega) ?_ ?_ ?_ ⟨0,0⟩ okd0
 ·intro back s i hi hs;have hy:=h _ (List.getElem_mem hi);obtain ⟨r,h1,_,hr,h3⟩:=add_eq hs hy;unfold kzp;simp only;rw [ltT hi,azc,idxG hi,aza,h1,aza,wr1 (by omega),kzy,aza];unfold hzZ addR;rw [← h3];by_cases c:r.2=0
  ·rw [decide_eq_true c,if_pos c];rfl
  ·rw [decide_eq_false c,if_neg c];obtain ⟨d,e⟩:=r;have:=hr.2 c;simp only at this c;subst this;simp only [ozg,Fzj,if_neg c];rfl
 ·intro s i hi s' hs hst;exact uzN hst
 ·intro back s hs;unfold kzp;simp only;rw [ltF,azb];rfl
theorem refSum_is {l:List Dec} (hl:l.length≤100000) (h:∀ d∈l,okd d):ozH l=some (sumD ⟨0,0⟩ l):=by
 have:=bzb (F:=iz1) (fun (s:Dec) i=>(l,(⟨0,0⟩:Dec),s,(i:Int))) (fun (r:(Dec×Int)×Dec)=>if r.1.2=0 then (.inl ((),(⟨0,0⟩:Dec),r.1.1):((Unit)×(Dec×Dec))⊕((Int)×(Dec×Dec))) else .inr (r.1.2,⟨0,0⟩,r.2)) l
  (fun s y=>match hzZ s y with | .inl t=>.inl t | .inr r=>.inr (r,s)) (fun t=>((t,0),t)) (fun s _=>okd s) (by omega)
  (fun back s i hi hs=>by
   have hy:=h _ (List.getElem_mem hi);obtain ⟨r,_,h1,hr,h3⟩:=add_eq hs hy;unfold iz1;simp only;rw [ltT hi,azc,idxG hi,aza,h1,aza,wr1 (by omega)];unfold hzZ addR;rw [← h3];by_cases c:r.2=0
   ·rw [decide_eq_true c,if_pos c];rfl
   ·rw [decide_eq_false c,if_neg c];simp only [ozg,if_neg c];rfl)
  (fun s i hi s' hs hst=>by
   cases hq:hzZ s l[i] with
   | inl t=>rw [hq] at hst;injection hst with hst;subst hst;exact uzN hq
   | inr r=>rw [hq] at hst;cases hst)
  (fun back s hs=>by
   unfold iz1;simp only;rw [ltF,azb];rfl) ⟨0,0⟩ okd0
 have this:qzC (l,⟨0,0⟩,⟨0,0⟩,0)=_:=this;unfold ozH;rw [this,aza];have key:∀ (l:List Dec) (t:Dec),(azL (fun s y=>match hzZ s y with | .inl t=>.inl t | .inr r=>.inr (r,s)) (fun t=>((t,(0:Int)),t)) t l).1=sumD t l:=by
  intro l;induction l with
  | nil=>intro t;rfl
  | cons y l ih =>
   intro t;unfold sumD;simp only [azL];cases hzZ t y with
   | inl t'=>exact ih t'
   | inr r=>rfl
 have k:=key l ⟨0,0⟩;generalize azL (fun s y=>match hzZ s y with | .inl t=>.inl t | .inr r=>.inr (r,s)) (fun t=>((t,(0:Int)),t)) (⟨0,0⟩:Dec) l=q at k;obtain ⟨⟨d,e⟩,d'⟩:=q;simp only at k;rw [← k];have hok:okR (d,e):=by rw [k];exact yzu okd0
 by_cases c:e=0
 ·subst c;rfl
 ·have:=hok.2 c;simp only at this;subst this;simp only [if_neg c];rfl
end Go.Proofs.YtdgpkbnnljblmaaGreatDoor

/- Y4 -/
namespace Go.Proofs.YtdgpkbnnljblmaaGreatDoor
open Go Go.Ev Go.Lib
theorem Nzg {a b:List UInt8} (ha:a≠[]) (hg:good a):decodeL (a++b)=decodeL a:=by
 have hl:0 < a.length:=List.length_pos_iff.2 ha;have hget:∀ j,j < a.length→(a++b).getD j 0=a.getD j 0:=fun j hj=>by simp [List.getD_eq_getElem?_getD,List.getElem?_append_left hj]
 unfold good at hg;rw [decodeL_N] at hg ⊢;rw [decodeL_N,hget 0 hl,List.length_append];have k0:=(a.getD 0 0).toNat_lt;rcases decodeN_shape a.length (a.getD 0 0).toNat (a.getD 1 0).toNat (a.getD 2 0).toNat (a.getD 3 0).toNat with ⟨c,e⟩ | ⟨c1,c2,c3,cv,e⟩ | ⟨c1,c2,c3,c4,cv,cs,e⟩ | ⟨c1,c2,c3,c4,c5,cv,cw,e⟩ | e
 ·rw [e];unfold decodeN;rw [if_pos c]
 ·rw [e,hget 1 c2];unfold decodeN;rw [if_neg (by omega),if_pos ⟨c1,by omega,c3⟩,if_pos cv]
 ·rw [e,hget 1 (by omega),hget 2 c2];unfold decodeN;rw [if_neg (by omega),if_neg (by omega),if_pos ⟨c1,⟨by omega,c3⟩,by omega,c4⟩];rw [if_pos (by omega)]
 ·rw [e,hget 1 (by omega),hget 2 (by omega),hget 3 c2];unfold decodeN;rw [if_neg (by omega),if_neg (by omega),if_neg (by omega),if_pos ⟨c1,⟨by omega,c3⟩,⟨by omega,c4⟩,by omega,c5⟩];rw [if_pos (by omega)]
 ·rw [e] at hg;exact absurd ⟨rfl,rfl⟩ hg
theorem tzi {a:List UInt8} (ha:a≠[]) (h:validD a=true):good a∧validD (a.drop (decodeL a).2)=true:=by
 rw [validD_step a ha] at h;unfold good;by_cases c:(decodeL a).1=65533∧(decodeL a).2=1
 ·rw [if_pos c] at h;cases h
 ·rw [if_neg c] at h;exact ⟨c,h⟩
theorem Fzs:∀ (n:Nat) (a b:List UInt8),a.length≤n→validD a=true→validD (a++b)=validD b∧rs (a++b)=rs a++rs b
 | n,[],b,_,_=>⟨rfl,rfl⟩
 | 0,c :: a,b,h,_=>by simp at h
 | n+1,c :: a,b,h,hv=>by
  have hne:c :: a≠[]:=by simp
  obtain ⟨hg,hv'⟩:=tzi hne hv;have hne2:(c :: a)++b≠[]:=by simp
  have hd:=Nzg (b:=b) hne hg;have hw:=decodeL_width (c :: a);have hle:=decodeL_le (c :: a) hne;have hdr:((c :: a)++b).drop (decodeL (c :: a)).2=(c :: a).drop (decodeL (c :: a)).2++b:=List.drop_append_of_le_length hle;obtain ⟨i1,i2⟩:=Fzs n ((c :: a).drop (decodeL (c :: a)).2) b (by rw [List.length_drop];simp only [List.length_cons] at *;omega) hv';refine ⟨?_,?_⟩
  ·rw [validD_step _ hne2,hd,hdr,if_neg hg,i1]
  ·rw [mz3 hne2,hd,hdr,i2,mz3 hne];rfl
theorem szO {a b:List UInt8} (ha:validD a=true):validD (a++b)=validD b:=(Fzs _ a b (Nat.le_refl _) ha).1
theorem rs_app {a b:List UInt8} (ha:validD a=true):rs (a++b)=rs a++rs b:=(Fzs _ a b (Nat.le_refl _) ha).2
theorem Czx:∀ (a b:List Int),ulen (a++b)=ulen a+ulen b
 | [],b=>by simp [ulen]
 | r :: a,b=>by simp only [List.cons_append,ulen];rw [Czx a b];omega
def encs (l:List Int):List UInt8:=l.flatMap Lib.encodeRune
theorem yzg:∀ (n:Nat) (a:List UInt8),a.length≤n→validD a=true→encs (rs a)=a
 | _,[],_,_=>rfl
 | 0,c :: a,h,_=>by simp at h
 | n+1,c :: a,h,hv=>by
  have hne:c :: a≠[]:=by simp
  obtain ⟨hg,hv'⟩:=tzi hne hv;have hw:=decodeL_width (c :: a);have ih:=yzg n ((c :: a).drop (decodeL (c :: a)).2) (by rw [List.length_drop];simp only [List.length_cons] at *;omega) hv';rw [mz3 hne];unfold encs at *;rw [List.flatMap_cons,ih,encode_decode _ hne hg,List.take_append_drop]
theorem Gzx:∀ (i:Nat) (a:List UInt8),validD a=true→i≤(rs a).length→∃ x y,a=x++y∧validD x=true∧validD y=true∧rs x=(rs a).take i∧rs y=(rs a).drop i
 | 0,a,hv,_=>⟨[],a,rfl,rfl,hv,rfl,rfl⟩
 | i+1,[],_,h=>by simp [Ez9] at h
 | i+1,c :: a,hv,h=>by
  have hne:c :: a≠[]:=by simp
  obtain ⟨hg,hv'⟩:=tzi hne hv;have hle:=decodeL_le (c :: a) hne;rw [mz3 hne] at h ⊢;simp only [List.length_cons] at h;obtain ⟨x,y,h1,h2,h3,h4,h5⟩:=Gzx i _ hv' (by omega);have hw:=decodeL_width (c :: a);have he:(c :: a).take (decodeL (c :: a)).2≠[]:=fun e=>by
   have:=congrArg List.length e;simp only [List.length_take,List.length_nil] at this;simp only [List.length_cons] at *;omega
  have hd:decodeL ((c :: a).take (decodeL (c :: a)).2)=decodeL (c :: a):=by
   have hs:=decodeN_shape (c :: a).length ((c :: a).getD 0 0).toNat ((c :: a).getD 1 0).toNat ((c :: a).getD 2 0).toNat ((c :: a).getD 3 0).toNat
   unfold good at hg;have hN:=decodeL_N (c :: a);have hget:∀ k j,j < k→((c :: a).take k).getD j 0=(c :: a).getD j 0:=fun k j hj=>by simp [List.getD_eq_getElem?_getD,hj]
   rw [hN] at hg;rcases hs with ⟨c1,e⟩ | ⟨c1,c2,c3,cv,e⟩ | ⟨c1,c2,c3,c4,cv,cs,e⟩ | ⟨c1,c2,c3,c4,c5,cv,cw,e⟩ | e
   ·rw [hN,e];rw [decodeL_N,hget 1 0 (by omega)];unfold decodeN;rw [if_pos c1]
   ·rw [hN,e];rw [decodeL_N,hget 2 0 (by omega),hget 2 1 (by omega),List.length_take];unfold decodeN;rw [if_neg (by omega),if_pos ⟨c1,by omega,c3⟩,if_pos cv]
   ·rw [hN,e];rw [decodeL_N,hget 3 0 (by omega),hget 3 1 (by omega),hget 3 2 (by omega),List.length_take];unfold decodeN;rw [if_neg (by omega),if_neg (by omega),if_pos ⟨c1,⟨by omega,c3⟩,by omega,c4⟩];rw [if_pos (by omega)]
   ·rw [hN,e];rw [decodeL_N,hget 4 0 (by omega),hget 4 1 (by omega),hget 4 2 (by omega),hget 4 3 (by omega),List.length_take];unfold decodeN;rw [if_neg (by omega),if_neg (by omega),if_neg (by omega),if_pos ⟨c1,⟨by omega,c3⟩,⟨by omega,c4⟩,by omega,c5⟩];rw [if_pos (by omega)]
   ·rw [e] at hg;exact absurd ⟨rfl,rfl⟩ hg
  have hdn:((c :: a).take (decodeL (c :: a)).2).drop (decodeL (c :: a)).2=[]:=by
   rw [List.drop_eq_nil_iff,List.length_take];omega
  have hvt:validD ((c :: a).take (decodeL (c :: a)).2)=true:=by
   rw [validD_step _ he,hd,if_neg hg,hdn];rfl
  have hrt:rs ((c :: a).take (decodeL (c :: a)).2)=[((decodeL (c :: a)).1:Int)]:=by
   rw [mz3 he,hd,hdn];rfl
  refine ⟨(c :: a).take (decodeL (c :: a)).2++x,y,?_,?_,h3,?_,h5⟩
  ·rw [List.append_assoc,← h1,List.take_append_drop]
  ·rw [szO hvt,h2]
  ·rw [rs_app hvt,hrt,h4];rfl
theorem slice_rs {a:List UInt8} (hv:validD a=true) {i k:Nat} (h:i+k≤(rs a).length):validD (encs (((rs a).drop i).take k))=true∧rs (encs (((rs a).drop i).take k))=((rs a).drop i).take k∧(encs (((rs a).drop i).take k)).length≤a.length:=by
 obtain ⟨x,y,h1,h2,h3,h4,h5⟩:=Gzx i a hv (by omega);obtain ⟨x',y',k1,k2,k3,k4,k5⟩:=Gzx k y h3 (by rw [h5,List.length_drop];omega);rw [← h5,← k4,yzg _ x' (Nat.le_refl _) k2];refine ⟨k2,rfl,?_⟩;rw [h1,k1];simp;omega
theorem or8:(∀ x:Fin 32,azn .or .u8 192 (x.val:Int)=192+x.val)∧(∀ x:Fin 16,azn .or .u8 224 (x.val:Int)=224+x.val)∧(∀ x:Fin 8,azn .or .u8 240 (x.val:Int)=240+x.val) ∧
 (∀ x:Fin 64,azn .or .u8 128 (x.val:Int)=128+x.val)∧(∀ x:Fin 256,azn .and .u8 (x.val:Int) 63=((x.val % 64:Nat):Int)):=by decide +kernel
theorem u8w (n:Nat):IntKind.u8.wrap (n:Int)=((n % 256:Nat):Int):=by simp [IntKind.wrap,IntKind.bits,IntKind.signed]
theorem yzm (n k:Nat):(n:Int).fdiv (k:Int)=((n / k:Nat):Int):=by
 rw [Int.fdiv_eq_ediv_of_nonneg _ (by omega)];rfl
theorem lo6 (n:Nat):azn .or .u8 128 (azn .and .u8 (IntKind.u8.wrap (n:Int)) 63)=((128+n % 64:Nat):Int):=by
 rw [u8w];have h1:=or8.2.2.2.2 ⟨n % 256,by omega⟩;simp only at h1;rw [h1];have h2:=or8.2.2.2.1 ⟨n % 256 % 64,by omega⟩;simp only at h2;rw [h2];omega
theorem hi5 {n:Nat} (h:n < 32):azn .or .u8 192 (IntKind.u8.wrap (n:Int))=((192+n:Nat):Int):=by
 rw [u8w,Nat.mod_eq_of_lt (by omega)];have:=or8.1 ⟨n,h⟩;simp only at this;rw [this];omega
theorem hi4 {n:Nat} (h:n < 16):azn .or .u8 224 (IntKind.u8.wrap (n:Int))=((224+n:Nat):Int):=by
 rw [u8w,Nat.mod_eq_of_lt (by omega)];have:=or8.2.1 ⟨n,h⟩;simp only at this;rw [this];omega
theorem hi3 {n:Nat} (h:n < 8):azn .or .u8 240 (IntKind.u8.wrap (n:Int))=((240+n:Nat):Int):=by
 rw [u8w,Nat.mod_eq_of_lt (by omega)];have:=or8.2.2.1 ⟨n,h⟩;simp only at this;rw [this];omega
def czc (r:Int):Prop:=0≤r∧r≤1114111∧(r < 55296∨57343 < r)
theorem zz4 (l:List UInt8):czc ((decodeL l).1:Int):=by
 rw [decodeL_N];have h:=decodeN_shape l.length (l.getD 0 0).toNat (l.getD 1 0).toNat (l.getD 2 0).toNat (l.getD 3 0).toNat
 have k0:=(l.getD 0 0).toNat_lt;unfold czc;rcases h with ⟨c,e⟩ | ⟨c1,c2,c3,cv,e⟩ | ⟨c1,c2,c3,c4,cv,cs,e⟩ | ⟨c1,c2,c3,c4,c5,cv,cw,e⟩ | e
 all_goals rw [e];simp only;omega
theorem uzD:∀ (n:Nat) (l:List UInt8),l.length≤n→∀ r∈rs l,czc r
 | _,[],_,r,h=>by simp [Ez9] at h
 | 0,c :: l,h,_,_=>by simp at h
 | n+1,c :: l,hl,r,h=>by
  have hw:=decodeL_width (c :: l);rw [mz3 (by simp)] at h;rcases List.mem_cons.1 h with rfl | h
  ·exact zz4 _
  ·exact uzD n _ (by rw [List.length_drop];simp only [List.length_cons] at *;omega) r h
theorem u32in {r:Int} (h:czc r):IntKind.u32.wrap r=r:=by
 unfold czc at h;have:IntKind.u32.wrap r=r % 4294967296:=by simp [IntKind.wrap,IntKind.bits,IntKind.signed]
 rw [this];omega
theorem encZ (r:Nat) (h:czc r):Lib.encodeRune (r:Int)=if r < 128 then [UInt8.ofNat r] else if r < 2048 then [UInt8.ofNat (192+r / 64),UInt8.ofNat (128+r % 64)] else if r < 65536 then [UInt8.ofNat (224+r / 4096),UInt8.ofNat (128+r / 64 % 64),UInt8.ofNat (128+r % 64)] else
 [UInt8.ofNat (240+r / 262144),UInt8.ofNat (128+r / 4096 % 64),UInt8.ofNat (128+r / 64 % 64),UInt8.ofNat (128+r % 64)]:=by
 unfold czc at h;unfold Lib.encodeRune;have b:∀ z:Int,∀ n:Nat,z=(n:Int)→z.toNat.toUInt8=UInt8.ofNat n:=fun z n e=>by subst e;rfl
 by_cases h1:r < 128
 ·rw [if_pos h1,encodeRuneZ_one (by omega) (by omega)];simp only [List.map_cons,List.map_nil];rw [b _ r rfl]
 rw [if_neg h1];by_cases h2:r < 2048
 ·rw [if_pos h2,encodeRuneZ_two (by omega) (by omega)];simp only [List.map_cons,List.map_nil];rw [b _ (192+r / 64) (by omega),b _ (128+r % 64) (by omega)]
 rw [if_neg h2];by_cases h3:r < 65536
 ·rw [if_pos h3,encodeRuneZ_three (by omega)];simp only [List.map_cons,List.map_nil];rw [b _ (224+r / 4096) (by omega),b _ (128+r / 64 % 64) (by omega),b _ (128+r % 64) (by omega)]
 rw [if_neg h3,encodeRuneZ_four (by omega) (by omega)];simp only [List.map_cons,List.map_nil];rw [b _ (240+r / 262144) (by omega),b _ (128+r / 4096 % 64) (by omega),b _ (128+r / 64 % 64) (by omega),b _ (128+r % 64) (by omega)]
end Go.Proofs.YtdgpkbnnljblmaaGreatDoor

/- Y5 -/
namespace Go.Proofs.YtdgpkbnnljblmaaGreatDoor
open Go Go.Ev Go.Lib
theorem Azt:∀ {l:List UInt8},(∀ c∈l,c.toNat < 128)→validD l=true
 | [],_=>rfl
 | c :: l,h=>by
  have hc:=h c (by simp);have hd:decodeL (c :: l)=(c.toNat,1):=by
   rw [decodeL_N];unfold decodeN;rw [if_pos (by simpa using hc)];rfl
  rw [validD_step _ (by simp),hd,if_neg (by simp only;omega)];exact Azt (l:=l) (fun d hd=>h d (List.mem_cons_of_mem _ hd))
theorem sz4 {D:List Int} (h:bzB D):∀ c∈az2 D,c.toNat < 128:=by
 intro c hc;unfold az2 at hc;simp only [List.mem_reverse,List.mem_map] at hc;obtain ⟨d,hd,rfl⟩:=hc;have:=h d hd;unfold chr;rw [show (UInt8.ofNat (48+d.toNat)).toNat=(48+d.toNat) % 256 from rfl];omega
theorem zz3 {M:Int} {s:Nat} (hM:I64 M) (hs:s≤9):(jzD M s).length≤45∧∀ c∈jzD M s,c.toNat < 128:=by
 have l1:=tz9 hM;have hp:=uzf M.natAbs s;have hd:=Dz0 M.natAbs s;have w:∀ D:List Int,(az2 D).length=D.length:=fun D=>by unfold az2;simp
 unfold jzD ozj;constructor
 ·have hs1:(if M < 0 then [(45:UInt8)] else []).length≤1:=by split<;>simp
  have hp30:(dzC M.natAbs s).length≤20:=by rw [hp];omega
  rw [List.length_append];by_cases h0:s=0
  ·rw [if_pos h0,w];omega
  ·rw [if_neg h0];simp only [List.length_append,List.length_cons,w,List.length_drop,List.length_take];omega
 ·intro c hc;rcases List.mem_append.1 hc with hc | hc
  ·split at hc
   ·simp only [List.mem_singleton] at hc;subst hc;decide
   ·simp at hc
  ·split at hc
   ·exact sz4 hd c hc
   ·rcases List.mem_append.1 hc with hc | hc
    ·exact sz4 (NzI hd _) c hc
    ·rcases List.mem_cons.1 hc with rfl | hc
     ·decide
     ·exact sz4 (NzJ hd _) c hc
def texR (v:Val):List UInt8:=(fz8 v).getD []
theorem tex_eq {v:Val} (h:okW v):fz8 v=some (texR v)∧hzH v=some (texR v):=by
 obtain ⟨r,h1,h2⟩:=text_eq h.1 h.2.2;unfold texR;rw [h1];exact ⟨rfl,h2⟩
theorem szd {v:Val} (h:okW v) (h4:v.Kind≠4):(texR v).length≤3000∧validD (texR v)=true:=by
 obtain ⟨h,hl,hm⟩:=h;rcases h with rfl | ⟨d,rfl,hd⟩ | ⟨s,rfl,hs⟩ | ⟨t,rfl⟩ | ⟨e,rfl⟩
 ·exact ⟨by decide,rfl⟩
 ·obtain ⟨M,S⟩:=d;have hm':I64 M:=hm;obtain ⟨s,rfl⟩:=Int.eq_ofNat_of_zero_le hd.1;have hs:s≤9:=by have:=hd.2.1;simp only at this;omega
  have e:texR (vN ⟨M,(s:Int)⟩)=jzD M s:=by
   unfold texR fz8 vN;simp [tzU hm' hs]
  have:=zz3 hm' hs;rw [e];exact ⟨by omega,Azt this.2⟩
 ·exact ⟨hl,hs⟩
 ·cases t<;>exact ⟨by decide,by decide +kernel⟩
 ·exact absurd rfl h4
def dzK (x:List UInt8):Val:=if (bzu x).2=0 then vS x else vE 15
theorem rzw {x:List UInt8} (hl:x.length≤100000000):dzt x=some (dzK x):=by
 unfold dzt dzK;rw [rzy hl,aza];by_cases h:(bzu x).2=0
 ·rw [if_pos h,h];rfl
 ·rw [if_neg h,decide_eq_false h];rfl
theorem pzy {x:List UInt8} (hl:x.length≤4000000):azE x=some (dzK x):=by
 unfold azE dzK;rw [nzo hl,aza];by_cases h:(bzu x).2=0
 ·rw [if_pos h,h];rfl
 ·rw [if_neg h,decide_eq_false h];rfl
theorem of_is2 (v:Val):Bzv v=some v:=rfl
theorem okW_of {v:Val} (hl:v.S.length≤3000) (hm:I64 v.N.M) (h:ozU v=some 0):okW v:=by
 obtain ⟨e,h1,_,h3⟩:=tzO hl;rw [h1] at h;exact ⟨h3 (Option.some.inj h),hl,hm⟩
end Go.Proofs.YtdgpkbnnljblmaaGreatDoor
