import Derived.Test.YtdgpkbnnljblmaaGreatDoorPP
import Derived.Lib.ValidLaws
import Derived.Lib.IndexLaws
import Derived.Lib.TrimAscii
import Derived.Test.YtdgpkbnnljblmaaGreatDoorT1
import Derived.Test.YtdgpkbnnljblmaaGreatDoorTie
import Derived.Stop.Joined
import Derived.Lib.LaidU8T
import Derived.Lay
import Derived.Test.YtdgpkbnnljblmaaGreatDoorCards
/- QQ -/
namespace Go.Proofs.YtdgpkbnnljblmaaGreatDoor
open Go Go.Ev
def digs (n:Nat):List Int:=if h:n=0 then [] else ((n % 10:Nat):Int) :: digs (n / 10)
termination_by n
decreasing_by omega
theorem az4:digs 0=[]:=by rw [digs];rfl
theorem bzL {n:Nat} (h:n≠0):digs n=((n % 10:Nat):Int) :: digs (n / 10):=by
 conv=>lhs;rw [digs]
 rw [dif_neg h]
def vd:List Int→Nat
 | []=>0
 | d :: D=>d.toNat+10*vd D
def bzD (D:List Int):Prop:=∀ d∈D,0≤d∧d≤9
theorem ezU {d:Int} {D:List Int}:bzD (d :: D)↔(0≤d∧d≤9)∧bzD D:=by simp [bzD]
theorem ezJ:bzD []:=by simp [bzD]
theorem gz5 {D E:List Int}:bzD (D++E)↔bzD D∧bzD E:=by
 simp only [bzD,List.mem_append];exact ⟨fun h=>⟨fun d hd=>h d (.inl hd),fun d hd=>h d (.inr hd)⟩,fun h d hd=>hd.elim (h.1 d) (h.2 d)⟩
theorem kz2:∀ (D E:List Int),vd (D++E)=vd D+10 ^ D.length*vd E
 | [],E=>by simp [vd]
 | d :: D,E=>by
  simp only [List.cons_append,vd,kz2 D E,List.length_cons,Nat.pow_succ];rw [Nat.mul_add,Nat.mul_comm (10 ^ D.length) 10,Nat.mul_assoc];omega
theorem vd_lt:∀ {D:List Int},bzD D→vd D < 10 ^ D.length
 | [],_=>by simp [vd]
 | d :: D,h=>by
  obtain ⟨h1,h2⟩:=ezU.1 h;have:=vd_lt h2;simp only [vd,List.length_cons,Nat.pow_succ];omega
theorem ezg:∀ (n:Nat),bzD (digs n):=by
 intro n;induction n using Nat.strongRecOn with
 | _ n ih =>
  by_cases h:n=0
  ·subst h;rw [az4];exact ezJ
  ·rw [bzL h];exact ezU.2 ⟨by omega,ih _ (by omega)⟩
theorem ezH:∀ (n:Nat),vd (digs n)=n:=by
 intro n;induction n using Nat.strongRecOn with
 | _ n ih =>
  by_cases h:n=0
  ·subst h;rw [az4];rfl
  ·rw [bzL h];simp only [vd];rw [ih _ (by omega)];omega
theorem bz5:∀ (k n:Nat),n < 10 ^ k→(digs n).length≤k
 | 0,n,h=>by
  have:n=0:=by simp at h;omega
  subst this;rw [az4];simp
 | k+1,n,h=>by
  by_cases h0:n=0
  ·subst h0;rw [az4];simp
  ·rw [bzL h0];have:=bz5 k (n / 10) (by rw [Nat.pow_succ] at h;omega);simp;omega
theorem bzx {k n:Nat} (h:(digs n).length≤k):n < 10 ^ k:=by
 have h1:=vd_lt (ezg n);rw [ezH] at h1;exact Nat.lt_of_lt_of_le h1 (Nat.pow_le_pow_right (by omega) h)
theorem gzu {n:Nat}:(digs n).length=0↔n=0:=by
 constructor
 ·intro h;have:=bzx (n:=n) (k:=0) (by omega);simpa using this
 ·intro h;subst h;rw [az4];rfl
def bzW:List Int→List Int
 | []=>[]
 | d :: D=>match bzW D with
  | []=>if d=0 then [] else [d]
  | e :: E=>d :: e :: E
theorem mzO:∀ {D:List Int},bzD D→bzW D=digs (vd D)
 | [],_=>by simp [bzW,vd,az4]
 | d :: D,h=>by
  obtain ⟨h1,h2⟩:=ezU.1 h;have ih:=mzO h2;simp only [bzW,vd];by_cases hv:vd D=0
  ·rw [ih,hv,az4];simp only;by_cases hd:d=0
   ·subst hd;simp [az4]
   ·rw [if_neg hd,bzL (by omega),show (d.toNat+10*0) / 10=0 by omega,az4];congr 1;omega
  ·rw [ih,bzL hv];simp only;rw [← bzL hv,bzL (n:=d.toNat+10*vd D) (by omega),show (d.toNat+10*vd D) / 10=vd D by omega];congr 1;omega
theorem kzR:∀ (D:List Int),bzW (D++[0])=bzW D
 | []=>by simp [bzW]
 | d :: D=>by simp only [List.cons_append,bzW,kzR D]
theorem nzD {x:Int} (hx:x≠0):∀ (D:List Int),bzW (D++[x])=D++[x]
 | []=>by simp [bzW,hx]
 | d :: D=>by
  simp only [List.cons_append,bzW,nzD hx D];cases D<;>simp
theorem ozY:∀ (D:List Int),(bzW D).length≤D.length
 | []=>by simp [bzW]
 | d :: D=>by
  have:=ozY D;simp only [bzW];split
  ·split<;>simp
  ·rename_i e E h;rw [h] at this;simp only [List.length_cons] at *;omega
theorem mzP:∀ (D:List Int),bzW D=D.take (bzW D).length
 | []=>by simp [bzW]
 | d :: D=>by
  have ih:=mzP D;simp only [bzW];split
  ·split<;>simp
  ·rename_i e E h;rw [h] at ih;simp only [List.length_cons] at ih ⊢;rw [List.take_succ_cons,← ih]
theorem tz0:∀ (k n:Nat),(digs n).drop k=digs (n / 10 ^ k)
 | 0,n=>by simp
 | k+1,n=>by
  by_cases h:n=0
  ·subst h;rw [az4];simp [az4]
  ·rw [bzL h,List.drop_succ_cons,tz0 k,Nat.div_div_eq_div_mul,Nat.pow_succ,Nat.mul_comm]
theorem hzO:∀ (k n:Nat),k < (digs n).length→(digs n)[k]? = some ((n / 10 ^ k % 10:Nat):Int)
 | 0,n,h=>by
  by_cases h0:n=0
  ·subst h0;rw [az4] at h;simp at h
  ·rw [bzL h0];simp
 | k+1,n,h=>by
  by_cases h0:n=0
  ·subst h0;rw [az4] at h;simp at h
  ·rw [bzL h0] at h ⊢;simp only [List.length_cons,List.getElem?_cons_succ] at h ⊢;rw [hzO k _ (by omega),Nat.div_div_eq_div_mul,Nat.pow_succ,Nat.mul_comm]
theorem digs_up:∀ (k n:Nat),n≠0→digs (n*10 ^ k)=List.replicate k 0++digs n
 | 0,n,_=>by simp
 | k+1,n,h=>by
  have h1:n*10 ^ (k+1)=n*10 ^ k*10:=by rw [Nat.pow_succ,Nat.mul_assoc]
  have h2:n*10 ^ k≠0:=by
   have:=Nat.pow_pos (a:=10) (n:=k) (by omega);exact Nat.mul_ne_zero h (by omega)
  rw [h1,bzL (by omega),show n*10 ^ k*10 / 10=n*10 ^ k by omega,digs_up k n h,show n*10 ^ k*10 % 10=0 by omega];rfl
theorem idxI {D:List Int} {k:Nat} {v:Int} (h:D[k]? = some v):idx D (k:Int)=some v:=by
 simp [idx,h]
theorem appS {xs ys:List Int} (h:xs.length+ys.length≤10000):app 8 xs ys=some (xs++ys):=by
 have:Nat.ble ((xs.length+ys.length)*8) 140737488355328=true:=Nat.ble_eq_true_of_le (by omega);simp [app,this]
theorem subS {D:List Int} {k:Nat} (h:k≤D.length):sub D (k:Int) (D.length:Int)=some (D.drop k):=by
 simp [sub,h]
theorem vzu {X Y:Type} {F:(X→Option Y)→X→Option Y} (m:X→Nat) (Inv:X→Prop) (Post:Y→Prop)
 (h:∀ back x,Inv x→(∀ x',Inv x'→m x' < m x→∃ y,back x' = some y∧Post y)→∃ y,F back x=some y∧Post y):∀ n x,Inv x→m x < n→∃ y,iter F n x=some y∧Post y
 | 0,_,_,h0=>by omega
 | n+1,x,hp,hn=>by
  rw [bzN];exact h _ x hp fun x' hp' hm=>vzu m Inv Post h n x' hp' (by omega)
theorem dzP {X Y:Type} {F:(X→Option Y)→X→Option Y} (m:X→Nat) (Inv:X→Prop) (Post:Y→Prop)
 (h:∀ back x,Inv x→(∀ x',Inv x'→m x' < m x→∃ y,back x' = some y∧Post y)→∃ y,F back x=some y∧Post y) (x:X) (hx:Inv x) (hm:m x < 9223372036854775808):∃ y,iter F big x=some y∧Post y :=
 vzu m Inv Post h _ x hx (by rw [lzo];omega)
theorem xzB {D:List Int} {m:Bool} (hl:D.length < 10000):nzz (⟨m,D⟩,(D.length:Int))=some ((bzW D).length:Int):=by
 obtain ⟨y,h1,h2⟩:=dzP (F:=izW) (fun x=>x.2.toNat) (fun x=>x.1=⟨m,D⟩∧∃ k,k≤D.length∧x.2=(k:Int)∧bzW (D.take k)=bzW D) (fun y=>y=((bzW D).length:Int)) (by
  rintro back ⟨b,i⟩ ⟨rfl,k,hk,rfl,hr⟩ hb;unfold izW;simp only at hb ⊢;cases k with
  | zero =>
   simp only [List.take_zero,bzW] at hr;refine ⟨0,?_,by rw [← hr];rfl⟩;simp
  | succ k =>
   have hk':k < D.length:=by omega
   rw [decide_eq_true (show (0:Int) < ((k+1:Nat):Int) by omega),azc,azw (by omega) (by omega),show (((k+1:Nat):Int) - 1)=(k:Int) by omega,idxI (v:=D[k]) (List.getElem?_eq_getElem hk'),aza];have ht:D.take (k+1)=D.take k++[D[k]]:=by rw [List.take_add_one,List.getElem?_eq_getElem hk'];rfl
   by_cases hz:D[k]=0
   ·rw [decide_eq_true hz,azc];refine hb _ ⟨rfl,k,by omega,rfl,?_⟩ (by simp only [Int.toNat_natCast];omega);rw [← hr,ht,hz,kzR]
   ·rw [decide_eq_false hz,azb];refine ⟨_,rfl,?_⟩;rw [← hr,ht,nzD hz];simp;omega) (⟨m,D⟩,(D.length:Int)) ⟨rfl,D.length,Nat.le_refl _,rfl,by rw [List.take_length]⟩ (by simp only [Int.toNat_natCast];omega)
 subst h2;exact h1
theorem jzw {D:List Int} {m:Bool} (hd:bzD D) (hl:D.length < 10000):bzs ⟨m,D⟩=some ⟨m&&!decide (vd D=0),digs (vd D)⟩:=by
 unfold bzs;simp only;rw [xzB hl,aza];have h1:=ozY D;have h2:sub D 0 ((bzW D).length:Int)=some (bzW D):=by
  simp only [sub];have:(decide ((0:Int)≤0)&&decide ((0:Int)≤((bzW D).length:Int))&&decide (((bzW D).length:Int)≤(D.length:Int)))=true:=by simp [h1]
  rw [this,cond_true];simp only [Int.toNat_natCast,Int.toNat_zero,List.drop_zero];rw [← mzP]
 rw [h2,aza];rw [mzO hd];by_cases hz:vd D=0
 ·rw [hz,az4];simp
 ·have:=mt gzu.1 hz;rw [decide_eq_false (by omega),azb,decide_eq_false hz];simp
theorem big_is {n:Int} (h:I64 n):ozV n=some (digs n.natAbs,⟨decide (n < 0),digs n.natAbs⟩):=by
 unfold I64 at h;have key:∀ (u:Nat) (m:Bool),u≤9223372036854775808→jz6 ([],⟨m,[]⟩,(u:Int))=some (digs u,⟨m,digs u⟩):=fun u m hu=>by
  have hlen:(digs u).length≤19:=bz5 19 u (by omega);obtain ⟨y,h1,h2⟩:=dzP (F:=jz5) (fun x=>(digs x.2.2.toNat).length) (fun x=>x.2.1.Minus=m∧∃ v:Nat,v≤9223372036854775808∧x.2.2=(v:Int)∧x.1++digs v=digs u) (fun y=>y=(digs u,⟨m,digs u⟩)) (by
   rintro back ⟨D,⟨m',E⟩,i⟩ ⟨hm,v,hv,hi,hD⟩ hb;simp only at hm hi hD;subst hm;subst hi;unfold jz5;simp only at hb ⊢;have hl:D.length+(digs v).length=(digs u).length:=by rw [← hD];simp
   by_cases hz:v=0
   ·subst hz;rw [az4,List.append_nil] at hD;subst hD;exact ⟨_,by simp,rfl⟩
   ·have e1:((v:Int).tmod 10)=((v % 10:Nat):Int):=by rw [Int.tmod_eq_emod_of_nonneg (by omega)];omega
    have e2:((v:Int).tdiv 10)=((v / 10:Nat):Int):=by rw [Int.tdiv_eq_ediv_of_nonneg (by omega)];omega
    rw [bzL hz,List.length_cons] at hl;rw [decide_eq_true (by omega),azc,e1,e2,azw (by omega) (by omega),azS (by omega) (by omega),appS (by simp;omega),aza];refine hb _ ⟨rfl,v / 10,by omega,rfl,?_⟩ ?_
    ·rw [← hD,bzL hz,List.append_assoc];rfl
    ·simp only [Int.toNat_natCast]
     conv=>rhs;rw [bzL hz]
     simp) ([],⟨m,[]⟩,(u:Int)) ⟨rfl,u,hu,rfl,rfl⟩ (by simp only [Int.toNat_natCast];omega)
  subst h2;exact h1
 unfold ozV;by_cases hn:n < 0
 ·rw [decide_eq_true hn,azc,show IntKind.u64.wrap (0 - IntKind.u64.wrap n)=(n.natAbs:Int) by rw [u64,u64];omega,key _ _ (by omega)];rfl
 ·rw [decide_eq_false hn,azb,show IntKind.u64.wrap n=(n.natAbs:Int) by rw [u64];omega,key _ _ (by omega)];rfl
theorem bigP_is {n:Int} (h:I64 n):jzm n=some ⟨decide (n < 0),digs n.natAbs⟩:=by
 unfold jzm;rw [big_is (by assumption)];rfl
theorem oz3 {n k:Nat} {m:Bool} (hk:k≤100) (hl:(digs n).length≤1000):jz7 (⟨m,digs n⟩,(k:Int))=some ⟨m,digs (n*10 ^ k)⟩:=by
 unfold jz7;simp only;by_cases hz:n=0
 ·subst hz;rw [az4,Nat.zero_mul,az4];simp
 ·have:=mt gzu.1 hz;rw [decide_eq_false (by omega),azb];have key:qzp ([],(k:Int),⟨m,[]⟩,0)=some (List.replicate k 0,⟨m,List.replicate k 0⟩):=by
   obtain ⟨y,h1,h2⟩:=dzP (F:=lzh) (fun x=>k - x.2.2.2.toNat) (fun x=>x.2.1=(k:Int)∧x.2.2.1.Minus=m∧∃ i:Nat,i≤k∧x.2.2.2=(i:Int)∧x.1=List.replicate i 0) (fun y=>y=(List.replicate k 0,⟨m,List.replicate k 0⟩)) (by
    rintro back ⟨D,kk,⟨m',E⟩,i⟩ ⟨e1,e2,j,hj,e3,e4⟩ hb;simp only at e1 e2 e3 e4;subst e1;subst e2;subst e3;subst e4;unfold lzh;simp only at hb ⊢;by_cases hlt:j < k
    ·rw [decide_eq_true (by omega),azc,appS (by simp;omega),aza,azw (by omega) (by omega)];refine hb _ ⟨rfl,rfl,j+1,by omega,by simp only;omega,?_⟩ (by simp only;omega);simp only [← List.replicate_succ']
    ·have:j=k:=by omega
     subst this;exact ⟨_,by simp,rfl⟩) ([],(k:Int),⟨m,[]⟩,0) ⟨rfl,rfl,0,by omega,rfl,rfl⟩ (by simp only;omega)
   subst h2;exact h1
  rw [key,aza,appS (by simp;omega),aza,digs_up k n hz]
def at0 (D:List Int) (k:Nat):Int:=D[k]?.getD 0
theorem jzq {D:List Int} (h:bzD D) (k:Nat):0≤at0 D k∧at0 D k≤9:=by
 unfold at0;cases hk:D[k]? with
 | none=>simp
 | some v=>exact h v (List.mem_of_getElem? hk)
theorem mze {D:List Int} (k:Nat):vd (D.drop k)=(at0 D k).toNat+10*vd (D.drop (k+1)):=by
 unfold at0;rcases Nat.lt_or_ge k D.length with h | h
 ·rw [List.drop_eq_getElem_cons h,List.getElem?_eq_getElem h];rfl
 ·rw [List.drop_eq_nil_of_le h,List.drop_eq_nil_of_le (by omega),List.getElem?_eq_none h];rfl
theorem xzp {D E out:List Int} {c:Int} {k:Nat} (hD:bzD D) (hE:bzD E) (hc:0≤c∧c≤1) (_hl:D.length≤5000) (_hl2:E.length≤5000) (ho:out.length≤9000) (_hk:k≤9000) :
 ez5 (D,E,out,c,(k:Int))=some (out++[(c+at0 D k+at0 E k) % 10],(c+at0 D k+at0 E k) / 10):=by
 have hd:=jzq hD k;have he:=jzq hE k;have tm:∀ t:Int,0≤t→t.tmod 10=t % 10:=fun t h=>Int.tmod_eq_emod_of_nonneg h
 have td:∀ t:Int,0≤t→t.tdiv 10=t / 10:=fun t h=>Int.tdiv_eq_ediv_of_nonneg h
 have w1:=azw (n:=c+at0 D k) (by omega) (by omega);have w2:=azw (n:=c+at0 E k) (by omega) (by omega);have w3:=azw (n:=c+at0 D k+at0 E k) (by omega) (by omega);unfold ez5;simp only;rcases Nat.lt_or_ge k D.length with h1 | h1
 ·have g1:D[k]? = some (at0 D k):=by unfold at0;rw [List.getElem?_eq_getElem h1];rfl
  rw [decide_eq_true (show (k:Int) < (D.length:Int) by omega),azc,idxI g1,aza];rcases Nat.lt_or_ge k E.length with h2 | h2
  ·have g2:E[k]? = some (at0 E k):=by unfold at0;rw [List.getElem?_eq_getElem h2];rfl
   rw [decide_eq_true (show (k:Int) < (E.length:Int) by omega),azc,idxI g2,aza,w1,w3,tm _ (by omega),td _ (by omega),azw (by omega) (by omega),appS (by simp;omega)];rfl
  ·have g2:at0 E k=0:=by unfold at0;rw [List.getElem?_eq_none h2];rfl
   rw [decide_eq_false (show ¬ (k:Int) < (E.length:Int) by omega),azb,w1,g2,Int.add_zero,tm _ (by omega),td _ (by omega),azw (by omega) (by omega),appS (by simp;omega)];rfl
 ·have g1:at0 D k=0:=by unfold at0;rw [List.getElem?_eq_none h1];rfl
  rw [decide_eq_false (show ¬ (k:Int) < (D.length:Int) by omega),azb];rcases Nat.lt_or_ge k E.length with h2 | h2
  ·have g2:E[k]? = some (at0 E k):=by unfold at0;rw [List.getElem?_eq_getElem h2];rfl
   rw [decide_eq_true (show (k:Int) < (E.length:Int) by omega),azc,idxI g2,aza,w2,g1,Int.add_zero,tm _ (by omega),td _ (by omega),azw (by omega) (by omega),appS (by simp;omega)];rfl
  ·have g2:at0 E k=0:=by unfold at0;rw [List.getElem?_eq_none h2];rfl
   rw [decide_eq_false (show ¬ (k:Int) < (E.length:Int) by omega),azb,g1,g2,Int.add_zero,Int.add_zero,tm _ (by omega),td _ (by omega),azw (by omega) (by omega),appS (by simp;omega)];rfl
theorem idx0 {D:List Int} {v:Int} (h:D[0]? = some v):idx D 0=some v:=idxI (k:=0) h
theorem sz0 (v p:Nat):azy (v:Int) (p+1)=if v % 10=0 then azy ((v / 10:Nat):Int) p else ((v:Int),p+1):=by
 conv=>lhs;unfold azy
 by_cases h:v % 10=0
 ·rw [if_pos (by omega),if_pos h];rfl
 ·rw [if_neg (by omega),if_neg h]
theorem wzC {n p:Nat} {m:Bool} (hl:(digs n).length≤5000) (hp:p≤1000):lz6 ((p:Int),⟨m,digs n⟩)=some (((azy n p).2:Int),⟨m,digs (azy n p).1.toNat⟩):=by
 obtain ⟨y,h1,h2⟩:=dzP (F:=hz8) (fun x=>x.1.toNat) (fun x=>∃ q v:Nat,q≤p∧(digs v).length≤5000∧x=((q:Int),⟨m,digs v⟩)∧azy v q=azy n p) (fun y=>y=(((azy n p).2:Int),⟨m,digs (azy n p).1.toNat⟩)) (by
  rintro back x ⟨q,v,hq,hv,rfl,hs⟩ hb;unfold hz8;simp only at hb ⊢;rw [← hs];cases q with
  | zero=>exact ⟨(0,⟨m,digs v⟩),by simp,by simp [azy]⟩
  | succ q =>
   rw [decide_eq_true (by omega),azc,azw (n:=((q+1:Nat):Int) - 1) (by omega) (by omega),show (((q+1:Nat):Int) - 1)=(q:Int) by omega];rw [sz0];rw [sz0] at hs;by_cases hz:v=0
   ·subst hz;rw [if_pos (by omega)] at hs ⊢;have:=hb ((q:Int),⟨m,digs 0⟩) ⟨q,0,by omega,hv,rfl,hs⟩ (by simp only [Int.toNat_natCast];omega);rw [az4] at this ⊢;rw [hs];simpa using this
   ·have hne:=mt gzu.1 hz;rw [decide_eq_false (by omega),azb,idx0 (v:=((v % 10:Nat):Int)) (by rw [bzL hz];rfl),aza];by_cases h0:v % 10=0
    ·rw [decide_eq_true (by omega),azc,decide_eq_true (by omega),azc];have hsub:sub (digs v) 1 ((digs v).length:Int)=some (digs (v / 10)):=by
      have:=subS (D:=digs v) (k:=1) (by omega);rw [tz0] at this;simpa using this
     rw [hsub,aza,if_pos h0];rw [if_pos h0] at hs;have hl2:(digs (v / 10)).length≤5000:=by rw [bzL hz] at hv;simp at hv;omega
     rw [hs];exact hb ((q:Int),⟨m,digs (v / 10)⟩) ⟨q,v / 10,by omega,hl2,rfl,hs⟩ (by simp only [Int.toNat_natCast];omega)
    ·rw [decide_eq_false (by omega),azb,if_neg h0];exact ⟨_,rfl,by simp⟩) ((p:Int),⟨m,digs n⟩) ⟨p,n,Nat.le_refl _,hl,rfl,rfl⟩ (by simp only [Int.toNat_natCast];omega)
 subst h2;exact h1
theorem wzD {n:Nat} {m:Bool} (hn:(digs n).length≤19):lz7 (⟨m,digs n⟩,0,((digs n).length:Int) - 1)=some (n:Int):=by
 have hlt:=bzx hn;obtain ⟨y,h1,h2⟩:=dzP (F:=hz9) (fun x=>(x.2.2+1).toNat) (fun x=>x.1=⟨m,digs n⟩∧∃ k:Nat,k≤(digs n).length∧x.2.2=(k:Int) - 1∧x.2.1=((n / 10 ^ k:Nat):Int)) (fun y=>y=(n:Int)) (by
  rintro back ⟨b,u,i⟩ ⟨rfl,k,hk,e1,e2⟩ hb;simp only at e1 e2;subst e1;subst e2;unfold hz9;simp only at hb ⊢;cases k with
  | zero=>exact ⟨(n:Int),by simp,rfl⟩
  | succ k =>
   have e:n / 10 ^ (k+1)=n / 10 ^ k / 10:=by rw [Nat.pow_succ,Nat.div_div_eq_div_mul]
   have hle:n / 10 ^ k≤n:=Nat.div_le_self _ _;rw [decide_eq_true (by omega),azc,show (((k+1:Nat):Int) - 1)=(k:Int) by omega,idxI (hzO k n (by omega)),aza,e];generalize hq:n / 10 ^ k=q at *;rw [azS (n:=10*((q / 10:Nat):Int)) (by omega) (by omega),azS (n:=((q % 10:Nat):Int)) (by omega) (by omega),azS (by omega) (by omega),azw (by omega) (by omega)];refine hb _ ⟨rfl,k,by omega,rfl,?_⟩ (by simp only;omega);simp only [hq];omega) (⟨m,digs n⟩,0,((digs n).length:Int) - 1) ⟨rfl,(digs n).length,Nat.le_refl _,rfl,by
    have h1:=vd_lt (ezg n);rw [ezH] at h1;simp only;rw [Nat.div_eq_of_lt h1];rfl⟩ (by simp only;omega)
 subst h2;exact h1
theorem rzs {n p:Nat} {m:Bool} (hl:(digs n).length≤5000) (hp:p≤1000):czE (⟨m,digs n⟩,(p:Int))=some (decV (sw n m) p):=by
 unfold czE;simp only;rw [wzC hl hp,aza];have h0:=rzu p (v:=(n:Int)) (by omega);have hs:azy (sw n m) p=(sw (azy n p).1 m,(azy n p).2):=by
  cases m
  ·rfl
  ·exact oz1 p n
 unfold decV;rw [hs];generalize hv:(azy (n:Int) p).1=v at *;generalize (azy (n:Int) p).2=q at *;obtain ⟨k,rfl⟩:=Int.eq_ofNat_of_zero_le h0;simp only [Int.toNat_natCast];have hI:I64 (sw (k:Int) m)↔(if m then (k:Int)≤9223372036854775808 else (k:Int)≤9223372036854775807):=by
  unfold I64;cases m<;>simp [sw]<;>omega
 by_cases h19:19 < (digs k).length
 ·have hge:10 ^ 19≤k:=by
   apply Classical.byContradiction;intro hn;have:=bz5 19 k (by omega);omega
  rw [decide_eq_true (by omega),azc,if_neg];rw [hI];cases m<;>simp<;>omega
 ·have hlt:=bzx (n:=k) (k:=19) (by omega);rw [decide_eq_false (by omega),azb,azw (n:=((digs k).length:Int) - 1) (by omega) (by omega),wzD (by omega),aza];cases m
  ·rw [azb];by_cases hb:(9223372036854775807:Int) < (k:Int)
   ·rw [decide_eq_true hb,azc,if_neg (by rw [hI];simp;omega)]
   ·rw [decide_eq_false hb,azb,if_pos (by rw [hI];simp;omega),azw (by omega) (by omega)];rfl
  ·rw [azc];by_cases hb:(9223372036854775808:Int) < (k:Int)
   ·rw [decide_eq_true hb,azc,if_neg (by rw [hI];simp;omega)]
   ·rw [decide_eq_false hb,azb,if_pos (by rw [hI];simp;omega)];have:IntKind.i64.wrap (IntKind.u64.wrap (0 - (k:Int))) = -(k:Int):=by rw [u64,i64];omega
    rw [this];rfl
theorem jz1 (k:Nat):((10 ^ k:Nat):Int)=(10:Int) ^ k:=by simp
theorem sw_and (n:Nat) (m:Bool):sw (n:Int) (m&&!decide (n=0))=sw (n:Int) m:=by
 by_cases h:n=0
 ·subst h;cases m<;>rfl
 ·simp [h]
theorem xzA (n p:Int) (m:Bool):sw (n*p) m=sw n m*p:=by
 cases m
 ·rfl
 ·simp only [sw,cond_true];rw [Int.neg_mul]
theorem tzY {v:Int} (h:I64 v):decV v 0=(⟨v,0⟩,0):=by
 unfold decV azy;rw [if_pos h];rfl
theorem pzf {n j:Nat} (h:j < (digs n).length):10 ^ j≤n:=by
 apply Classical.byContradiction;intro hn;have:=bz5 j n (by omega);omega
theorem digs_of {R:List Int} (hd:bzD R) (hl:R.length≤(digs (vd R)).length):R=digs (vd R):=by
 have h1:=mzO hd;have h2:=mzP R;rw [h1] at h2;rw [List.take_of_length_le hl] at h2;exact h2.symm
theorem ozS {n m:Nat} (hl:(digs n).length≤4000) (hl2:(digs m).length≤4000):hzj (digs n,digs m)=some (digs (n+m)):=by
 have hD:=ezg n;have hE:=ezg m;have key:∃ R,nzy (digs n,digs m,[],0,0)=some R∧(R=digs (n+m)):=by
  refine dzP (F:=izV) (fun x=>4002 - x.2.2.2.2.toNat) (fun x=>x.1=digs n∧x.2.1=digs m∧∃ (c:Int) (k:Nat),x.2.2.2.1=c∧x.2.2.2.2=(k:Int)∧0≤c∧c≤1∧bzD x.2.2.1∧x.2.2.1.length=k∧k≤4001∧(4000 < k→c=0)∧(∀ j,j < k→10 ^ j≤n+m) ∧
   vd x.2.2.1+10 ^ k*(c.toNat+vd ((digs n).drop k)+vd ((digs m).drop k))=n+m) _ ?_ _ ⟨rfl,rfl,0,0,rfl,rfl,by omega,by omega,ezJ,rfl,by omega,by omega,by omega,by simp [vd,ezH]⟩ (by simp only;omega)
  rintro back ⟨D',E',out,c,i⟩ ⟨e1,e2,c',k,e3,e4,c0,c1,ho,hk,hk2,hk3,hp,hv⟩ hb;simp only at e1 e2 e3 e4 ho hk hv;subst e1;subst e2;subst e3;subst e4;unfold izV;simp only at hb ⊢;rw [xzp hD hE ⟨c0,c1⟩ (by omega) (by omega) (by omega) (by omega),aza];simp only;rw [azw (n:=(k:Int)+1) (by omega) (by omega)];have hd:=jzq hD k;have he:=jzq hE k;by_cases hgo:k < (digs n).length∨k < (digs m).length∨0 < c
  ·have step:∃ y,back (digs n,digs m,out++[(c+at0 (digs n) k+at0 (digs m) k) % 10],(c+at0 (digs n) k+at0 (digs m) k) / 10,(k:Int)+1)=some y∧(y=digs (n+m)):=by
    have hk4:k≤4000:=by
     rcases hgo with h | h | h
     ·omega
     ·omega
     ·apply Classical.byContradiction;intro hn;have:=hk3 (by omega);omega
    refine hb _ ⟨rfl,rfl,(c+at0 (digs n) k+at0 (digs m) k) / 10,k+1,rfl,by simp,by omega,by omega,?_,by simp [hk],by omega,fun h4=>?_,fun j hj=>?_,?_⟩ (by simp only;omega)
    ·exact gz5.2 ⟨ho,ezU.2 ⟨by omega,ezJ⟩⟩
    ·have h1:at0 (digs n) k=0:=by unfold at0;rw [List.getElem?_eq_none (by omega)];rfl
     have h2:at0 (digs m) k=0:=by unfold at0;rw [List.getElem?_eq_none (by omega)];rfl
     omega
    ·rcases Nat.lt_or_ge j k with h | h
     ·exact hp j h
     ·have:j=k:=by omega
      subst this;rcases hgo with h | h | h
      ·have:=pzf h;omega
      ·have:=pzf h;omega
      ·have:10 ^ j*1≤10 ^ j*(c.toNat+vd ((digs n).drop j)+vd ((digs m).drop j)):=Nat.mul_le_mul_left _ (by omega);omega
    ·rw [← hv,kz2,hk,mze (D:=digs n) k,mze (D:=digs m) k,Nat.pow_succ];simp only [vd];generalize vd ((digs n).drop (k+1))=X;generalize vd ((digs m).drop (k+1))=Y;generalize 10 ^ k=T;generalize hx:at0 (digs n) k=a at *;generalize hy:at0 (digs m) k=b at *;have q1:((c+a+b) % 10).toNat+10*0=(c.toNat+a.toNat+b.toNat) % 10:=by omega
     have q2:((c+a+b) / 10).toNat=(c.toNat+a.toNat+b.toNat) / 10:=by omega
     rw [q1,q2];generalize c.toNat=cc;generalize a.toNat=aa;generalize b.toNat=bb;have q3:cc+(aa+10*X)+(bb+10*Y)=(cc+aa+bb) % 10+10*((cc+aa+bb) / 10+X+Y):=by omega
     rw [q3,Nat.mul_add T,Nat.mul_assoc T 10];omega
   by_cases g1:k < (digs n).length
   ·rw [decide_eq_true (by omega),azc];exact step
   ·rw [decide_eq_false (by omega),azb];by_cases g2:k < (digs m).length
    ·rw [decide_eq_true (by omega),azc];exact step
    ·rw [decide_eq_false (by omega),azb,decide_eq_true (by omega),azc];exact step
  ·have g1:¬ k < (digs n).length:=fun h=>hgo (.inl h)
   have g2:¬ k < (digs m).length:=fun h=>hgo (.inr (.inl h))
   have g3:¬ 0 < c:=fun h=>hgo (.inr (.inr h))
   rw [decide_eq_false (by omega),azb,decide_eq_false (by omega),azb,decide_eq_false g3,azb];refine ⟨_,rfl,?_⟩;rw [List.drop_eq_nil_of_le (by omega),List.drop_eq_nil_of_le (by omega)] at hv;have:c=0:=by omega
   subst this;have hv2:vd out=n+m:=by simpa [vd] using hv
   rw [← hv2];refine digs_of ho ?_;rw [hv2];apply Classical.byContradiction;intro hn;have h1:=bzx (n:=n+m) (k:=(digs (n+m)).length) (Nat.le_refl _);have h2:=hp (digs (n+m)).length (by omega);omega
 obtain ⟨R,h1,h2⟩:=key;unfold hzj;rw [h1,h2];rfl
theorem rzo {a b:Nat} (hl:(digs a).length≤5000) (hl2:(digs b).length≤5000):hzh (digs a,digs b)=some (decide (a < b)):=by
 unfold hzh;simp only;by_cases hlen:(digs a).length=(digs b).length
 ·rw [decide_eq_true (by omega),Bool.not_true,azb,azw (by omega) (by omega)];obtain ⟨y,h1,h2⟩:=dzP (F:=izS) (fun x=>(x.2.2+1).toNat) (fun x=>x.1=digs a∧x.2.1=digs b∧∃ k:Nat,k≤(digs a).length∧x.2.2=(k:Int) - 1∧a / 10 ^ k=b / 10 ^ k) (fun y=>osum y (fun _=>some false) (fun y=>some y)=some (decide (a < b))) (by
   rintro back ⟨D,E,i⟩ ⟨rfl,rfl,k,hk,e1,e2⟩ hb;simp only at e1;subst e1;unfold izS;simp only at hb ⊢;cases k with
   | zero =>
    simp only [Nat.pow_zero,Nat.div_one] at e2;subst e2;exact ⟨Sum.inl PUnit.unit,by simp,by simp [osum]⟩
   | succ k =>
    rw [decide_eq_true (by omega),azc,show (((k+1:Nat):Int) - 1)=(k:Int) by omega,idxI (hzO k a (by omega)),aza,idxI (hzO k b (by omega)),aza];have ea:a / 10 ^ k=a / 10 ^ k % 10+10*(a / 10 ^ (k+1)):=by rw [Nat.pow_succ,← Nat.div_div_eq_div_mul];omega
    have eb:b / 10 ^ k=b / 10 ^ k % 10+10*(b / 10 ^ (k+1)):=by rw [Nat.pow_succ,← Nat.div_div_eq_div_mul];omega
    by_cases hd:a / 10 ^ k % 10=b / 10 ^ k % 10
    ·rw [decide_eq_true (by omega),Bool.not_true,azb,azw (by omega) (by omega)];exact hb _ ⟨rfl,rfl,k,by omega,rfl,by omega⟩ (by simp only;omega)
    ·rw [decide_eq_false (by omega),Bool.not_false,azc,aza,aza];refine ⟨_,rfl,?_⟩;simp only [osum];congr 1;rw [decide_eq_decide];have hab:a / 10 ^ k < b / 10 ^ k↔a / 10 ^ k % 10 < b / 10 ^ k % 10:=by omega
     have hne:a / 10 ^ k≠b / 10 ^ k:=by omega
     constructor
     ·intro h;have:=hab.2 (by omega);exact Nat.lt_of_not_le fun hle=>by have:=Nat.div_le_div_right (c:=10 ^ k) hle;omega
     ·intro h;have:=Nat.div_le_div_right (c:=10 ^ k) (Nat.le_of_lt h);have:=hab.1 (by omega);omega) (digs a,digs b,((digs a).length:Int) - 1) ⟨rfl,rfl,(digs a).length,Nat.le_refl _,rfl,by
       have h1:=bzx (n:=a) (Nat.le_refl _);have h2:=bzx (n:=b) (k:=(digs a).length) (by omega);rw [Nat.div_eq_of_lt h1,Nat.div_eq_of_lt h2]⟩ (by simp only;omega)
  have h3:nzv (digs a,digs b,((digs a).length:Int) - 1)=some y:=h1;rw [h3,aza];exact h2
 ·rw [decide_eq_false (by omega),Bool.not_false,azc];congr 1;rw [decide_eq_decide];constructor
  ·intro h;have h1:=bzx (n:=a) (Nat.le_refl _);have h2:=pzf (n:=b) (j:=(digs a).length) (by omega);omega
  ·intro h;apply Classical.byContradiction;intro hn;have h1:=bzx (n:=b) (Nat.le_refl _);have h2:=pzf (n:=a) (j:=(digs b).length) (by omega);omega
theorem minus_is {D E:List Int} (hD:bzD D) (hE:bzD E) (hl:D.length≤4000) (hl2:E.length≤D.length) (hle:vd E≤vd D):∃ R,fzf (D,E)=some R∧bzD R∧vd R=vd D - vd E∧R.length≤4000:=by
 have key:∃ R,lz5 (D,E,[],0,0)=some R∧(bzD R∧vd R=vd D - vd E∧R.length≤4000):=by
  refine dzP (F:=hz7) (fun x=>4002 - x.2.2.2.2.toNat) (fun x=>x.1=D∧x.2.1=E∧∃ (c k:Nat),x.2.2.2.1=(c:Int)∧x.2.2.2.2=(k:Int)∧c≤1∧bzD x.2.2.1∧x.2.2.1.length=k∧k≤D.length ∧
   vd D+10 ^ k*(c+vd (E.drop k))=vd x.2.2.1+vd E+10 ^ k*vd (D.drop k)) _ ?_ _ ⟨rfl,rfl,0,0,rfl,rfl,by omega,ezJ,rfl,by omega,by simp [vd];omega⟩ (by simp only;omega)
  rintro back ⟨D',E',out,cc,i⟩ ⟨e1,e2,c,k,e3,e4,c1,ho,hk,hk2,hv⟩ hb;simp only at e1 e2 e3 e4 ho hk hv;subst e1;subst e2;subst e3;subst e4;unfold hz7;simp only at hb ⊢;rcases Nat.lt_or_ge k D'.length with hlt | hge
  ·have hd:=jzq hD k;have he:=jzq hE k;have g1:D'[k]? = some (at0 D' k):=by unfold at0;rw [List.getElem?_eq_getElem hlt];rfl
   rw [decide_eq_true (by omega),azc,idxI g1,aza];have fin:∀ (x:Int) (c':Nat),0≤x→x≤9→c'≤1→at0 D' k - c - at0 E' k+10*c' = x→∃ y,back (D',E',out++[x],(c':Int),IntKind.i64.wrap ((k:Int)+1))=some y∧(bzD y∧vd y=vd D' - vd E'∧y.length≤4000):=fun x c' x0 x9 hc' hx=>by
    rw [azw (by omega) (by omega)];refine hb _ ⟨rfl,rfl,c',k+1,rfl,by simp,hc',gz5.2 ⟨ho,ezU.2 ⟨⟨x0,x9⟩,ezJ⟩⟩,by simp [hk],by omega,?_⟩ (by simp only;omega);simp only;rw [mze (D:=D') k,mze (D:=E') k] at hv;rw [kz2,hk,Nat.pow_succ];simp only [vd];generalize vd (D'.drop (k+1))=X at *;generalize vd (E'.drop (k+1))=Y at *;generalize 10 ^ k=T at *;generalize hp:at0 D' k=a at *;generalize hq:at0 E' k=b at *;have q:x.toNat+c+b.toNat=a.toNat+10*c':=by omega
    rw [Nat.mul_add,Nat.mul_add] at hv;rw [Nat.mul_add];have z1:T*(x.toNat+c+b.toNat)=T*(a.toNat+10*c'):=by rw [q]
    simp only [Nat.mul_add,Nat.mul_assoc] at *;omega
   rcases Nat.lt_or_ge k E'.length with h2 | h2
   ·have g2:E'[k]? = some (at0 E' k):=by unfold at0;rw [List.getElem?_eq_getElem h2];rfl
    rw [decide_eq_true (by omega),azc,idxI g2,aza,azw (n:=at0 D' k - (c:Int)) (by omega) (by omega),azw (n:=at0 D' k - (c:Int) - at0 E' k) (by omega) (by omega)];by_cases hneg:at0 D' k - (c:Int) - at0 E' k < 0
    ·rw [decide_eq_true hneg,azc,azw (by omega) (by omega),appS (by simp;omega),aza];exact fin _ 1 (by omega) (by omega) (by omega) (by omega)
    ·rw [decide_eq_false hneg,azb,appS (by simp;omega),aza];exact fin _ 0 (by omega) (by omega) (by omega) (by omega)
   ·have g2:at0 E' k=0:=by unfold at0;rw [List.getElem?_eq_none h2];rfl
    rw [decide_eq_false (by omega),azb,azw (n:=at0 D' k - (c:Int)) (by omega) (by omega)];by_cases hneg:at0 D' k - (c:Int) < 0
    ·rw [decide_eq_true hneg,azc,azw (by omega) (by omega),appS (by simp;omega),aza];exact fin _ 1 (by omega) (by omega) (by omega) (by omega)
    ·rw [decide_eq_false hneg,azb,appS (by simp;omega),aza];exact fin _ 0 (by omega) (by omega) (by omega) (by omega)
  ·rw [decide_eq_false (by omega),azb];refine ⟨_,rfl,ho,?_,by omega⟩;rw [List.drop_eq_nil_of_le (by omega),List.drop_eq_nil_of_le (by omega)] at hv;have hlt:=vd_lt ho;rw [hk] at hlt;simp only [vd,Nat.mul_zero,Nat.add_zero] at hv;rcases Nat.lt_or_ge 0 c with h0 | h0
   ·have:c=1:=by omega
    subst this;rw [Nat.mul_one] at hv;omega
   ·have:c=0:=by omega
    subst this;rw [Nat.mul_zero] at hv;omega
 obtain ⟨R,h1,h2⟩:=key;refine ⟨R,?_,h2⟩;unfold fzf;rw [h1];rfl
theorem czX {a b:Nat} (h:a≤b):(digs a).length≤(digs b).length:=by
 have:=bzx (n:=b) (Nat.le_refl _);exact bz5 _ _ (by omega)
theorem mzI {a b:Nat} {m:Bool} (hl:(digs a).length≤4000) (hle:b≤a):∃ R,fzf (digs a,digs b)=some R∧bzs ⟨m,R⟩=some ⟨m&&!decide (a - b=0),digs (a - b)⟩:=by
 obtain ⟨R,h1,h2,h3,h4⟩:=minus_is (ezg a) (ezg b) hl (czX hle) (by rw [ezH,ezH];exact hle);rw [ezH,ezH] at h3;refine ⟨R,h1,?_⟩;rw [jzw h2 (by omega),h3]
theorem gzO {a b k:Nat} (h:(digs a).length≤k) (h2:(digs b).length≤k):(digs (a+b)).length≤k+1:=by
 have h1:=bzx h;have h2:=bzx h2;refine bz5 _ _ ?_;rw [Nat.pow_succ];omega
theorem add_is {a b:Nat} {m m':Bool} (hl:(digs a).length≤1000) (hl2:(digs b).length≤1000) :
 ∃ m'',dz6 (⟨m,digs a⟩,⟨m',digs b⟩)=some ⟨m'',digs (sw a m+sw b m').natAbs⟩∧sw (sw (a:Int) m+sw b m').natAbs m'' = sw a m+sw b m':=by
 unfold dz6;simp only;by_cases hm:m=m'
 ·subst hm;rw [decide_eq_true rfl,azc,ozS (by omega) (by omega),aza,jzw (ezg _) (by
   have:=gzO hl hl2;omega),aza,ezH]
  refine ⟨m&&!decide (a+b=0),?_,?_⟩
  ·congr 3;cases m<;>simp [sw]<;>omega
  ·cases m<;>simp [sw]
   ·omega
   ·by_cases ha:a=0<;>by_cases hb:b=0<;>simp [ha,hb]<;>omega
 ·rw [decide_eq_false hm,azb,rzo (by omega) (by omega),aza];by_cases hlt:a < b
  ·rw [decide_eq_true hlt,azc];obtain ⟨R,h1,h2⟩:=mzI (m:=m') (a:=b) (b:=a) (by omega) (by omega);rw [h1,aza,h2,aza];refine ⟨m'&&!decide (b - a=0),?_,?_⟩
   ·congr 3;cases m<;>cases m'<;>simp [sw] at hm ⊢<;>omega
   ·cases m<;>cases m'<;>simp [sw] at hm ⊢
    ·rw [decide_eq_false (by omega)];simp;omega
    ·omega
  ·rw [decide_eq_false hlt,azb];obtain ⟨R,h1,h2⟩:=mzI (m:=m) (a:=a) (b:=b) (by omega) (by omega);rw [h1,aza,h2,aza];refine ⟨m&&!decide (a - b=0),?_,?_⟩
   ·congr 3;cases m<;>cases m'<;>simp [sw] at hm ⊢<;>omega
   ·cases m<;>cases m'<;>simp [sw] at hm ⊢
    ·omega
    ·by_cases h:a - b=0
     ·rw [decide_eq_true h];simp;omega
     ·rw [decide_eq_false h];simp;omega
theorem xzm {b r:Nat} (hb0:0 < b) (hlb:(digs b).length≤1000) (hlr:(digs r).length≤1001) (hr:r < 10*b):nzx (digs b,digs r,0)=some (digs (r % b),((r / b:Nat):Int)):=by
 obtain ⟨y,h1,h2⟩:=dzP (F:=izU) (fun x=>20 - x.2.2.toNat) (fun x=>∃ s n:Nat,x=(digs b,digs s,(n:Int))∧s+n*b=r) (fun y=>y=(digs (r % b),((r / b:Nat):Int))) (by
  rintro back x ⟨s,n,rfl,hs⟩ hb;unfold izU;simp only at hb ⊢;have hsr:s≤r:=by omega
  have hls:=czX hsr;have hn:n≤9:=by
   apply Classical.byContradiction;intro hn;have:10*b≤n*b:=Nat.mul_le_mul_right b (by omega);omega
  rw [rzo (by omega) (by omega),aza];by_cases hlt:s < b
  ·rw [decide_eq_true hlt,Bool.not_true,azb];refine ⟨_,rfl,?_⟩;have e1:r / b=n:=by
    rw [← hs,Nat.add_mul_div_right _ _ hb0,Nat.div_eq_of_lt hlt];omega
   have e2:r % b=s:=by
    rw [← hs,Nat.add_mul_mod_self_right,Nat.mod_eq_of_lt hlt]
   rw [e1,e2]
  ·rw [decide_eq_false hlt,Bool.not_false,azc];obtain ⟨R,h1,h2⟩:=mzI (m:=false) (a:=s) (b:=b) (by omega) (by omega);have hn9:n≤8:=by
    apply Classical.byContradiction;intro hn;have:9*b≤n*b:=Nat.mul_le_mul_right b (by omega);omega
   rw [h1,aza,h2,aza,azw (by omega) (by omega)];refine hb _ ⟨s - b,n+1,rfl,?_⟩ (by simp only;omega);rw [Nat.add_mul];omega) (digs b,digs r,0) ⟨r,0,rfl,by omega⟩ (by simp only;omega)
 subst h2;exact h1
theorem uzD {r d k:Nat} (h:(digs r).length≤k) (hd:d≤9):(digs (d+10*r)).length≤k+1:=by
 have h1:=bzx h;refine bz5 _ _ ?_;rw [Nat.pow_succ];omega
theorem overD_is {a b:Nat} (hb0:0 < b) (hla:(digs a).length≤1000) (hlb:(digs b).length≤1000):mzM (digs a,digs b)=some (digs (a / b),decide (b≤2*(a % b)),decide (a % b≠0)):=by
 have hA:=ezg a;unfold mzM;simp only;rw [azw (by omega) (by omega)];have key:∃ y,nzw (digs a,digs b,[],[],((digs a).length:Int) - 1)=some y∧(∃ q,y=(q,digs (a % b))∧bzD q∧q.length≤1000∧vd q=a / b):=by
  refine dzP (F:=izT) (fun x=>(x.2.2.2.2+1).toNat) (fun x=>∃ (q:List Int) (r k:Nat),x=(digs a,digs b,q,digs r,(k:Int) - 1)∧bzD q∧k≤(digs a).length∧q.length+k=(digs a).length∧r < b∧vd ((digs a).drop k)=vd q*b+r) _ ?_ _ ⟨[],0,(digs a).length,by rw [az4],ezJ,by omega,by simp,hb0,by simp [vd]⟩ (by simp only;omega);rintro back x ⟨q,r,k,rfl,hq,hk,hlq,hr,hv⟩ hb;unfold izT;simp only at hb ⊢;cases k with
  | zero =>
   rw [decide_eq_false (by omega),azb];simp only [List.drop_zero,ezH] at hv;refine ⟨_,rfl,q,?_,hq,by omega,?_⟩
   ·rw [hv,Nat.add_comm,Nat.add_mul_mod_self_right,Nat.mod_eq_of_lt hr]
   ·rw [hv,Nat.add_comm,Nat.add_mul_div_right _ _ hb0,Nat.div_eq_of_lt hr];omega
  | succ k =>
   have hrl:(digs r).length≤(digs b).length:=czX (by omega);rw [decide_eq_true (by omega),azc,show (((k+1:Nat):Int) - 1)=(k:Int) by omega,idxI (hzO k a (by omega)),aza,appS (by simp;omega),aza];have hd:bzD ([((a / 10 ^ k % 10:Nat):Int)]++digs r):=gz5.2 ⟨ezU.2 ⟨by omega,ezJ⟩,ezg r⟩;have hvd:vd ([((a / 10 ^ k % 10:Nat):Int)]++digs r)=a / 10 ^ k % 10+10*r:=by
    simp only [List.singleton_append,vd,ezH,Int.toNat_natCast]
   rw [jzw hd (by simp;omega),aza,hvd];simp only;have hlen:(digs (a / 10 ^ k % 10+10*r)).length≤1001:=uzD (by omega) (by omega);have hr10:a / 10 ^ k % 10+10*r < 10*b:=by omega
   rw [xzm hb0 hlb hlen hr10,aza];simp only;have hq9:(a / 10 ^ k % 10+10*r) / b≤9:=by
    have:=(Nat.div_lt_iff_lt_mul hb0).2 hr10;omega
   rw [appS (by simp;omega),aza,azw (by omega) (by omega)];refine hb _ ⟨_,(a / 10 ^ k % 10+10*r) % b,k,rfl,gz5.2 ⟨ezU.2 ⟨⟨Int.natCast_nonneg _,by exact_mod_cast hq9⟩,ezJ⟩,hq⟩,by omega,by simp;omega,Nat.mod_lt _ hb0,?_⟩ (by simp only;omega);have ea:at0 (digs a) k=((a / 10 ^ k % 10:Nat):Int):=by unfold at0;rw [hzO k a (by omega)];rfl
   rw [mze,ea,hv];simp only [List.singleton_append,vd,Int.toNat_natCast];generalize a / 10 ^ k % 10=d at *;have hdm:=Nat.div_add_mod (d+10*r) b;rw [Nat.add_mul,Nat.mul_assoc 10,Nat.mul_comm ((d+10*r) / b) b];omega
 obtain ⟨y,h1,q,rfl,h2,h3,h4⟩:=key;have hmb:a % b < b:=Nat.mod_lt _ hb0;have hml:(digs (a % b)).length≤1000:=Nat.le_trans (czX (by omega)) hlb;have hml2:=gzO hml hml;rw [h1,aza];simp only;rw [jzw h2 (by omega),aza,ozS (by omega) (by omega),aza,rzo (by omega) (by omega),aza,h4];simp only;congr 3
 ·rw [← decide_not,decide_eq_decide];omega
 ·rw [decide_eq_decide];have:=gzu (n:=a % b);omega
theorem qzu (v:Int) (p:Nat):∀ k,azy (v*10 ^ k) (p+k)=azy v p
 | 0=>by simp
 | k+1=>by
  have e:v*10 ^ (k+1)=v*10 ^ k*10:=by rw [Int.pow_succ,Int.mul_assoc]
  rw [e,← Nat.add_assoc]
  conv=>lhs;unfold azy
  rw [if_pos (Int.mul_emod_left _ _),Int.mul_ediv_cancel _ (by omega)];exact qzu v p k
theorem wzL (v:Int) (p k:Nat):decV (v*10 ^ k) (p+k)=decV v p:=by
 unfold decV;rw [qzu]
theorem Vx {M:Int} {s p:Nat} (hs:s≤p) (hp:p≤9):V ⟨M,(s:Int)⟩=M*10 ^ (p - s)*10 ^ (9 - p):=by
 show M*10 ^ (9 - (s:Int).toNat)=_
 rw [Int.toNat_natCast,Int.mul_assoc,← Int.pow_add,show p - s+(9 - p)=9 - s by omega]
theorem sw_up (M:Int) (k:Nat):sw ((M.natAbs*10 ^ k:Nat):Int) (decide (M < 0))=M*10 ^ k:=by
 have e:((M.natAbs*10 ^ k:Nat):Int)=(M.natAbs:Int)*10 ^ k:=by rw [Int.natCast_mul,jz1]
 rw [e,xzA,ozO]
theorem len19 {M:Int} (h:I64 M):(digs M.natAbs).length≤19:=bz5 19 _ (by unfold I64 at h;omega)
theorem kz6 {n j:Nat} (k:Nat) (h:(digs n).length≤j):(digs (n*10 ^ k)).length≤j+k:=by
 have h1:=bzx h;refine bz5 _ _ ?_;rw [Nat.pow_add];exact Nat.mul_lt_mul_of_pos_right h1 (Nat.pow_pos (by omega))
theorem qzw {M N:Int} {s t:Nat} (hM:I64 M) (hN:I64 N) (hs:s≤9) (ht:t≤9):gzc (⟨M,(s:Int)⟩,⟨N,(t:Int)⟩) =
 some (⟨decide (M < 0),digs (M.natAbs*10 ^ (max s t - s))⟩,⟨decide (N < 0),digs (N.natAbs*10 ^ (max s t - t))⟩,((max s t:Nat):Int)):=by
 have l1:=len19 hM;have l2:=len19 hN;unfold gzc;simp only;rw [bigP_is hM,aza,bigP_is hN,aza];by_cases h:s < t
 ·rw [decide_eq_true (by omega),azc,azw (by omega) (by omega),show (t:Int) - (s:Int)=((t - s:Nat):Int) by omega,oz3 (by omega) (by omega),aza,show max s t=t by omega,Nat.sub_self,Nat.pow_zero,Nat.mul_one]
 ·rw [decide_eq_false (by omega),azb,azw (by omega) (by omega),show (s:Int) - (t:Int)=((s - t:Nat):Int) by omega,oz3 (by omega) (by omega),aza,show max s t=s by omega,Nat.sub_self,Nat.pow_zero,Nat.mul_one]
theorem diff_is {a b:Nat} {m m':Bool} (hl:(digs a).length≤1000) (hl2:(digs b).length≤1000) :
 ∃ m'',(brn (!m') (obnd (dz6 (⟨m,digs a⟩,{ Minus:=decide (0 < ((digs b).length:Int)),D:=digs b })) fun y=>some y) (obnd (dz6 (⟨m,digs a⟩,{ Minus:=false,D:=digs b })) fun y=>some y))=some (⟨m'',digs (sw a m - sw b m').natAbs⟩:Big)∧sw (sw (a:Int) m - sw b m').natAbs m'' = sw a m - sw b m':=by
 cases m'
 ·obtain ⟨m'',h1,h2⟩:=add_is (a:=a) (b:=b) (m:=m) (m':=decide (0 < ((digs b).length:Int))) hl hl2;have e:sw (b:Int) (decide (0 < ((digs b).length:Int))) = - sw (b:Int) false:=by
   by_cases hb:b=0
   ·subst hb;rw [az4];rfl
   ·have:=mt gzu.1 hb;rw [decide_eq_true (by omega)];rfl
  rw [e,← Int.sub_eq_add_neg] at h1 h2;exact ⟨m'',by rw [Bool.not_false,azc,h1];rfl,h2⟩
 ·obtain ⟨m'',h1,h2⟩:=add_is (a:=a) (b:=b) (m:=m) (m':=false) hl hl2;have e:sw (b:Int) false = - sw (b:Int) true:=by simp [sw]
  rw [e,← Int.sub_eq_add_neg] at h1 h2;exact ⟨m'',by rw [Bool.not_true,azb,h1];rfl,h2⟩
section
variable {M N:Int} {s t:Nat} (hM:I64 M) (hN:I64 N) (hs:s≤9) (ht:t≤9)
include hM hN hs ht
theorem x_len:(digs (M.natAbs*10 ^ (max s t - s))).length≤28∧(digs (N.natAbs*10 ^ (max s t - t))).length≤28:=by
 have h1:=kz6 (max s t - s) (len19 hM);have h2:=kz6 (max s t - t) (len19 hN);omega
theorem sum_len (v:Int) (hv:v=M*10 ^ (max s t - s)+N*10 ^ (max s t - t)∨v=M*10 ^ (max s t - s) - N*10 ^ (max s t - t)):(digs v.natAbs).length≤29:=by
 obtain ⟨h1,h2⟩:=x_len hM hN hs ht;have h3:=gzO h1 h2;refine Nat.le_trans (czX ?_) h3;have e1:(M*10 ^ (max s t - s)).natAbs=M.natAbs*10 ^ (max s t - s):=by rw [Int.natAbs_mul,Int.natAbs_pow];rfl
 have e2:(N*10 ^ (max s t - t)).natAbs=N.natAbs*10 ^ (max s t - t):=by rw [Int.natAbs_mul,Int.natAbs_pow];rfl
 rw [← e1,← e2];omega
theorem refAdd_is:jz4 (⟨M,(s:Int)⟩,⟨N,(t:Int)⟩)=some (decV (V ⟨M,(s:Int)⟩+V ⟨N,(t:Int)⟩) 9):=by
 obtain ⟨h1,h2⟩:=x_len hM hN hs ht;unfold jz4;rw [qzw hM hN hs ht,aza];simp only;obtain ⟨m'',h3,h4⟩:=add_is (m:=decide (M < 0)) (m':=decide (N < 0)) (show (digs (M.natAbs*10 ^ (max s t - s))).length≤1000 by omega) (show (digs (N.natAbs*10 ^ (max s t - t))).length≤1000 by omega);rw [sw_up,sw_up] at h3 h4;have h5:=sum_len hM hN hs ht _ (.inl rfl);rw [h3,aza,rzs (by omega) (by omega),h4,aza,Vx (p:=max s t) (by omega) (by omega),Vx (M:=N) (p:=max s t) (by omega) (by omega),← Int.add_mul];have:=wzL (M*10 ^ (max s t - s)+N*10 ^ (max s t - t)) (max s t) (9 - max s t);rw [show max s t+(9 - max s t)=9 by omega] at this;rw [this]
theorem uzR:ezY (⟨M,(s:Int)⟩,⟨N,(t:Int)⟩)=some (cmpV (V ⟨M,(s:Int)⟩) (V ⟨N,(t:Int)⟩)):=by
 obtain ⟨h1,h2⟩:=x_len hM hN hs ht;unfold ezY;rw [qzw hM hN hs ht,aza];simp only;obtain ⟨m'',h3,h4⟩:=diff_is (m:=decide (M < 0)) (m':=decide (N < 0)) (show (digs (M.natAbs*10 ^ (max s t - s))).length≤1000 by omega) (show (digs (N.natAbs*10 ^ (max s t - t))).length≤1000 by omega);rw [sw_up,sw_up] at h3 h4;have hp:(0:Int) < 10 ^ (9 - max s t):=Int.pow_pos (by omega);have hV:cmpV (V ⟨M,(s:Int)⟩) (V ⟨N,(t:Int)⟩)=cmpV (M*10 ^ (max s t - s)) (N*10 ^ (max s t - t)):=by
  rw [Vx (p:=max s t) (by omega) (by omega),Vx (M:=N) (p:=max s t) (by omega) (by omega)];unfold cmpV;have e1:=fun (x y:Int)=>(show x*10 ^ (9 - max s t) < y*10 ^ (9 - max s t)↔x < y from ⟨fun h=>Int.lt_of_mul_lt_mul_right h (Int.le_of_lt hp),fun h=>Int.mul_lt_mul_of_pos_right h hp⟩)
  simp only [e1]
 rw [hV];generalize M*10 ^ (max s t - s)=x at *;generalize N*10 ^ (max s t - t)=y at *;have fin:brn (decide (((digs (x - y).natAbs).length:Int)=0)) (some 0) (brn m'' (some (-1)) (some 1))=some (cmpV x y):=by
  unfold cmpV;have hz:=gzu (n:=(x - y).natAbs);by_cases h0:x - y=0
  ·rw [decide_eq_true (by omega),azc,if_neg (by omega),if_neg (by omega)]
  ·rw [decide_eq_false (by omega),azb];cases m''
   ·rw [azb];simp only [sw,cond_false] at h4;rw [if_neg (by omega),if_pos (by omega)]
   ·rw [azc];simp only [sw,cond_true] at h4;rw [if_pos (by omega)]
 by_cases hn:N < 0
 ·rw [decide_eq_true hn] at h3 ⊢;rw [Bool.not_true,azb] at h3 ⊢;cases hq:dz6 (⟨decide (M < 0),digs (M.natAbs*10 ^ (max s t - s))⟩,{ Minus:=false,D:=digs (N.natAbs*10 ^ (max s t - t)) }) with
  | none=>rw [hq] at h3;simp at h3
  | some z=>rw [hq,aza] at h3;rw [aza];rw [Option.some.inj h3];exact fin
 ·rw [decide_eq_false hn] at h3 ⊢;rw [Bool.not_false,azc] at h3 ⊢;cases hq:dz6 (⟨decide (M < 0),digs (M.natAbs*10 ^ (max s t - s))⟩,{ Minus:=decide (0 < ((digs (N.natAbs*10 ^ (max s t - t))).length:Int)),D:=digs (N.natAbs*10 ^ (max s t - t)) }) with
  | none=>rw [hq] at h3;simp at h3
  | some z=>rw [hq,aza] at h3;rw [aza];rw [Option.some.inj h3];exact fin
end
def rdN (v n:Nat):Nat:=if n≤2*(v % n) then v / n+1 else v / n
theorem rdN_cast (v n:Nat):(rdN v n:Int)=rdiv v n:=by
 unfold rdN rdiv;by_cases h:n≤2*(v % n)
 ·rw [if_pos h,if_pos (by omega)];simp
 ·rw [if_neg h,if_neg (by omega)];simp
theorem rdN_scale {v n c:Nat} (hc:0 < c):rdN (v*c) (n*c)=rdN v n:=by
 unfold rdN;rw [Nat.mul_div_mul_right _ _ hc,Nat.mul_mod_mul_right,← Nat.mul_assoc];have:n*c≤2*(v % n)*c↔n≤2*(v % n):=Nat.mul_le_mul_right_iff hc;simp only [this]
theorem rdN_len {v n j:Nat} (h:(digs v).length≤j):(digs (rdN v n)).length≤j+2:=by
 have h1:(digs (v+1)).length≤j+1+1:=gzO (k:=j+1) (by omega) (by
  have:=bz5 1 1 (by omega);omega)
 refine Nat.le_trans (czX ?_) h1;have:=Nat.div_le_self v n;unfold rdN;split<;>omega
section
variable {M N:Int} {s t:Nat} (hM:I64 M) (hN:I64 N) (hs:s≤9) (ht:t≤9)
def sgnP (M N:Int):Bool:=!decide (decide (M < 0)=decide (N < 0))
include hM hN hs ht
theorem refDiv_is (hN0:N≠0):fzA (⟨M,(s:Int)⟩,⟨N,(t:Int)⟩)=some (decV (sw (rdN (M.natAbs*10 ^ (9 - s+t)) N.natAbs) (sgnP M N)) 9):=by
 obtain ⟨h1,h2⟩:=x_len hM hN hs ht;unfold fzA;simp only;rw [decide_eq_false hN0,azb,qzw hM hN hs ht,aza];simp only;have hc:0 < 10 ^ (max s t - t):=Nat.pow_pos (by omega);have hY:0 < N.natAbs*10 ^ (max s t - t):=Nat.mul_pos (by omega) hc;have l3:=kz6 9 h1;have eX:M.natAbs*10 ^ (max s t - s)*10 ^ 9=M.natAbs*10 ^ (9 - s+t)*10 ^ (max s t - t):=by
  rw [Nat.mul_assoc,Nat.mul_assoc,← Nat.pow_add,← Nat.pow_add];congr 2;omega
 have eR:=rdN_scale (v:=M.natAbs*10 ^ (9 - s+t)) (n:=N.natAbs) hc;rw [← eX] at eR;rw [show (9:Int)=((9:Nat):Int) from rfl,oz3 (by omega) (by omega),aza];simp only;rw [overD_is hY (by omega) (by omega),aza];simp only;rw [← eR];generalize M.natAbs*10 ^ (max s t - s)*10 ^ 9=X at *;generalize N.natAbs*10 ^ (max s t - t)=Y at *;have l4:=rdN_len (n:=Y) l3;have l5:=czX (Nat.div_le_self X Y);have d1:([1]:List Int)=digs 1:=by rw [bzL (by omega)];simp [az4]
 have fin:∀ q:Nat,q=rdN X Y→(obnd (bzs { Minus:=!decide (decide (M < 0)=decide (N < 0)),D:=digs q }) fun y=>obnd (czE (y,((9:Nat):Int))) fun y=>some y)=some (decV (sw (rdN X Y) (sgnP M N)) 9):=fun q hq=>by
  subst hq;rw [jzw (ezg _) (by omega),aza,ezH,rzs (by omega) (by omega),aza,sw_and];rfl
 by_cases hh:Y≤2*(X % Y)
 ·rw [decide_eq_true hh,azc,d1,ozS (by omega) (by have:=bz5 1 1 (by omega);omega),aza];exact fin _ (by unfold rdN;rw [if_pos hh])
 ·rw [decide_eq_false hh,azb];exact fin _ (by unfold rdN;rw [if_neg hh])
theorem xzq (hN0:N≠0):czW (⟨M,(s:Int)⟩,⟨N,(t:Int)⟩)=some (decV (sw (rdN (M.natAbs*10 ^ (9 - s+t)) N.natAbs) (sgnP M N)) 9):=by
 have hA:=hM;have hB:=hN;have hV:=V_le (d:=⟨M,(s:Int)⟩) hM;unfold I64 at hA hB;unfold czW;simp only;have lo:(W N.natAbs (decide (N < 0))).lo=N.natAbs:=by
  show (N.natAbs:Int) % 18446744073709551616=N.natAbs
  omega
 have eV:((V ⟨M,(s:Int)⟩).natAbs:Int)*10 ^ t=((M.natAbs*10 ^ (9 - s+t):Nat):Int):=by
  show (((M*10 ^ (9 - (s:Int).toNat)).natAbs:Nat):Int)*10 ^ t=_
  rw [Int.natAbs_mul,Int.natAbs_pow,Int.toNat_natCast,Int.natCast_mul,Int.natCast_mul,jz1,Int.pow_add,Int.mul_assoc];rfl
 have hb:((M.natAbs*10 ^ (9 - s+t):Nat):Int)≤9223372036854775808*1000000000000000000:=by
  rw [Int.natCast_mul,jz1];have h2:(10:Int) ^ (9 - s+t)≤10 ^ 18:=by
   have:=Nat.pow_le_pow_right (n:=10) (by omega) (show 9 - s+t≤18 by omega);have h3:=Int.ofNat_le.2 this;rw [jz1,jz1] at h3;exact h3
  exact hza (by omega) (Int.le_of_lt (Int.pow_pos (by omega))) (by omega) h2
 rw [decide_eq_false hN0,azb,of_is hN,aza,izF (d:=⟨M,(s:Int)⟩) hM (by simp only;omega) (by simp only;omega),aza,vzE (by omega),aza,
  vzO (inV (d:=⟨M,(s:Int)⟩) hM) (by have:=jz0 (show t≤19 by omega);omega) (by have:=jz0 (show t≤19 by omega);omega) (by rw [eV];exact ⟨by omega,by omega⟩),aza,lo,eV]
 have e1:czk ({ hi:=(W ((M.natAbs*10 ^ (9 - s+t):Nat):Int) (decide (V ⟨M,(s:Int)⟩ < 0))).hi,lo:=(W ((M.natAbs*10 ^ (9 - s+t):Nat):Int) (decide (V ⟨M,(s:Int)⟩ < 0))).lo,minus:=!decide ((W ((M.natAbs*10 ^ (9 - s+t):Nat):Int) (decide (V ⟨M,(s:Int)⟩ < 0))).minus=(W N.natAbs (decide (N < 0))).minus) },(N.natAbs:Int)) =
  some (W (rdiv ((M.natAbs*10 ^ (9 - s+t):Nat):Int) N.natAbs) (!decide (decide (V ⟨M,(s:Int)⟩ < 0)=decide (N < 0)))):=(vzH (by omega) (by omega) (by omega) (by omega)).1
 have hw:=(vzH (v:=((M.natAbs*10 ^ (9 - s+t):Nat):Int)) (n:=N.natAbs) (m:=true) (by omega) (by omega) (by omega) (by omega)).2;rw [e1,aza,show (9:Int)=((9:Nat):Int) from rfl,wdec_is hw (by omega),aza,← rdN_cast,V_neg];rfl
end
theorem okInt (n:Int):okD ⟨n,0⟩:=⟨by simp,by simp,fun h=>by simp at h⟩
end Go.Proofs.YtdgpkbnnljblmaaGreatDoor

/- X1 -/
namespace Go.Proofs.YtdgpkbnnljblmaaGreatDoor
open Go Go.Ev
def chr (d:Int):UInt8:=UInt8.ofNat (48+d.toNat)
def tzS (D:List Int):List UInt8:=(D.map chr).reverse
theorem catS {x y:List UInt8} (h:x.length+y.length≤10000):cat x y=some (x++y):=by
 have:fits (x.length+y.length)=true:=by unfold fits;exact Nat.ble_eq_true_of_le (by unfold azR;omega)
 unfold cat
 rw [this];rfl
theorem subU {D:List UInt8} {i k:Nat} (h:i≤k) (h2:k≤D.length):sub D (i:Int) (k:Int)=some ((D.take k).drop i):=by
 have hd:(decide ((0:Int)≤(i:Int))&&decide ((i:Int)≤(k:Int))&&decide ((k:Int)≤(D.length:Int)))=true:=by
  simp;omega
 simp only [sub,hd,cond_true,Int.toNat_natCast]
 try rfl
end Go.Proofs.YtdgpkbnnljblmaaGreatDoor

/- X2 -/
namespace Go.Proofs.YtdgpkbnnljblmaaGreatDoor
open Go Go.Ev
def pre (D:List Int) (s i:Nat):List UInt8:=if s=0∨i≤s then tzS (D.take i) else tzS ((D.take i).drop s)++46 :: tzS (D.take s)
end Go.Proofs.YtdgpkbnnljblmaaGreatDoor

/- XO -/
namespace Go.Proofs.YtdgpkbnnljblmaaGreatDoor
open Go Go.Ev Go.Lib
def rl:Nat→List UInt8→List Int
 | 0,_=>[]
 | n+1,l=>if l=[] then [] else ((decodeL l).1:Int) :: rl n (l.drop (decodeL l).2)
def rs (l:List UInt8):List Int:=rl l.length l
theorem rune_drop (s:List UInt8) (i:Nat):rune s i=decodeL (s.drop i):=(decodeL_drop ⟨s.toArray⟩ i).symm
structure Ord (α:Type) (c:α→α→Int):Prop where
 vals:∀ a b,c a b = -1∨c a b=0∨c a b=1
 swap:∀ a b,c b a = - c a b
 same:∀ a b,c a b=0↔a=b
 less:∀ a b d,c a b = -1→c b d = -1→c a d = -1
end Go.Proofs.YtdgpkbnnljblmaaGreatDoor

/- X3 -/
namespace Go.Proofs.YtdgpkbnnljblmaaGreatDoor
open Go Go.Ev
theorem i32_in {n:Int} (h0:-2147483648≤n) (h1:n≤2147483647):IntKind.i32.wrap n=n:=by
 rw [IntKind.wrap_i32];omega
def isD (c:UInt8):Bool:=decide (48≤c.toNat)&&decide (c.toNat≤57)
def valB:List UInt8→Nat→Nat
 | [],a=>a
 | c :: l,a=>valB l (a*10+(c.toNat - 48))
theorem valB_ge:∀ (l:List UInt8) (a:Nat),a≤valB l a
 | [],a=>Nat.le_refl _
 | c :: l,a=>Nat.le_trans (by omega) (valB_ge l _)
theorem lzk:∀ (l m:List UInt8) (a:Nat),valB (l++m) a=valB m (valB l a)
 | [],_,_=>rfl
 | _ :: l,m,_=>lzk l m _
def dv (c:UInt8):Int:=((c.toNat - 48:Nat):Int)
def rd9 (l:List UInt8):List Int:=(l.map dv).reverse
theorem vzF (l:List UInt8) (c:UInt8):rd9 (l++[c])=dv c :: rd9 l:=by unfold rd9;simp
theorem vd_rd9:∀ (l:List UInt8) (a:Nat),valB l a=vd (rd9 l)+10 ^ l.length*a
 | [],a=>by simp [valB,rd9,vd]
 | c :: l,a=>by
  rw [valB,vd_rd9 l];unfold rd9;simp only [List.map_cons,List.reverse_cons,List.length_cons];rw [kz2];simp only [vd,List.length_reverse,List.length_map,dv,Int.toNat_natCast,Nat.pow_succ,Nat.mul_zero,Nat.add_zero];rw [Nat.mul_add,Nat.mul_assoc,Nat.mul_comm a 10];omega
theorem isDig_rd9 {l:List UInt8} (h:l.all isD=true):bzD (rd9 l):=fun d hd=>by
 unfold rd9 at hd;simp only [List.mem_reverse,List.mem_map] at hd;obtain ⟨c,hc,rfl⟩:=hd;have:=List.all_eq_true.1 h c hc;simp only [isD,Bool.and_eq_true,decide_eq_true_eq] at this;unfold dv;omega
theorem vz6 {l:List UInt8} {c:UInt8} {t:List UInt8} (hl:l=c :: t) (h:128≤c.toNat):128≤(Lib.decodeL l).1:=by
 subst hl;rw [Lib.decodeL_N];simp only [List.getD_cons_zero];generalize (c :: t).length=n;generalize ((c :: t).getD 1 0).toNat=b1;generalize ((c :: t).getD 2 0).toNat=b2;generalize ((c :: t).getD 3 0).toNat=b3;unfold Lib.decodeN;rw [if_neg (by omega)]
 repeat' split
 all_goals (simp only;omega)
def cutW:List UInt8→List UInt8×List UInt8×Bool
 | []=>([],[],false)
 | c :: l=>if c=46 then ([],l,true) else (c :: (cutW l).1,(cutW l).2.1,(cutW l).2.2)
theorem pzd:∀ l:List UInt8,l=(cutW l).1++(if (cutW l).2.2 then 46 :: (cutW l).2.1 else [])∧((cutW l).2.2=false→(cutW l).2.1=[])∧46 ∉ (cutW l).1
 | []=>by simp [cutW]
 | c :: l=>by
  obtain ⟨h1,h2,h3⟩:=pzd l;unfold cutW;by_cases h:c=46
  ·subst h;simp
  ·rw [if_neg h];refine ⟨?_,h2,?_⟩
   ·simp only [List.cons_append];congr 1
   ·simp only [List.mem_cons,not_or];exact ⟨fun e=>h e.symm,h3⟩
theorem rzH:∀ l:List UInt8,Lib.indexByte l 46=if (cutW l).2.2 then ((cutW l).1.length:Int) else -1
 | []=>rfl
 | c :: l=>by
  have ih:=rzH l;unfold Lib.indexByte cutW;by_cases h:c=46
  ·subst h;simp
  ·have hb:(c == 46)=false:=by simp [h]
   rw [hb,if_neg h,ih];simp only [Bool.false_eq_true,if_false];by_cases h2:(cutW l).2.2=true
   ·simp only [h2,if_true];have:((((cutW l).1.length:Nat):Int) == -1)=false:=by simp
    rw [this];simp
   ·simp only [h2];simp
theorem cut_is {l:List UInt8} (hl:l.length≤10000):hzo (l,[46])=some (cutW l):=by
 obtain ⟨h1,h2,h3⟩:=pzd l;have hi:=rzH l;have hx:dzC (l,[46])=some (Lib.indexByte l 46):=by
  unfold dzC dzH dzq;simp only [List.length_singleton];rw [decide_eq_false (by omega),azb];by_cases he:[46]=l
  ·rw [decide_eq_true he,azc,← he];rfl
  ·rw [decide_eq_false he,azb,decide_eq_true (by rfl),azc,show idx ([46]:List UInt8) 0=some 46 from rfl,aza];rfl
 unfold hzo fzV;rw [hx,aza,hi];generalize hw:(cutW l).1=w at *;generalize hb:(cutW l).2.1=b at *;generalize hp:(cutW l).2.2=p at *;have e:cutW l=(w,b,p):=by rw [← hw,← hb,← hp]
 rw [e];cases p with
 | true =>
  simp only [if_true] at h1 ⊢;have hlen:l.length=w.length+1+b.length:=by rw [h1];simp;omega
  have s1:=subU (D:=l) (i:=0) (k:=w.length) (by omega) (by omega);have s2:=subU (D:=l) (i:=w.length+1) (k:=l.length) (by omega) (by omega);rw [List.take_of_length_le (Nat.le_refl _)] at s2;have z0:((0:Nat):Int)=0:=rfl;rw [List.drop_zero,z0] at s1;rw [decide_eq_true (by omega),azc,s1,aza,List.length_singleton,azw (by omega) (by omega),show (w.length:Int)+((1:Nat):Int)=((w.length+1:Nat):Int) by omega,s2,aza,aza];have t1:l.take w.length=w:=by rw [h1];simp
  have t2:l.drop (w.length+1)=b:=by rw [h1];simp
  rw [t1,t2]
 | false =>
  simp only [Bool.false_eq_true,if_false,List.append_nil] at h1 ⊢;rw [decide_eq_false (by omega),azb,aza,h2 rfl,← h1]
theorem xzn {m w0:Bool} {z:List UInt8} (hl:z.length≤10000):∃ wr lg lo pos,bzl (⟨0,0,m⟩,w0,false,z,0)=some ((wr,lg),⟨0,lo,m⟩,z,pos)∧wr=(w0||!z.all isD) ∧
 (wr=false→lg=true∧9223372036854775808 < valB z 0∨lg=false∧lo=(valB z 0:Int)∧valB z 0 < 18446744073709551616):=by
 have key:∃ y,bzl (⟨0,0,m⟩,w0,false,z,0)=some y∧(∃ wr lg lo pos,y=((wr,lg),⟨0,lo,m⟩,z,pos)∧wr=(w0||!z.all isD) ∧
  (wr=false→lg=true∧9223372036854775808 < valB z 0∨lg=false∧lo=(valB z 0:Int)∧valB z 0 < 18446744073709551616)):=by
  refine dzP (F:=gzh) (fun x=>z.length - x.2.2.2.2) (fun x=>∃ (lo:Int) (wr lg:Bool) (i:Nat),x=(⟨0,lo,m⟩,wr,lg,z,i) ∧
   (wr=true∧(w0||!z.all isD)=true∨wr=w0∧i≤z.length∧(z.take i).all isD=true∧(lg=true∧18446744073709551600 < valB (z.take i) 0∨lg=false∧lo=(valB (z.take i) 0:Int)∧valB (z.take i) 0 < 18446744073709551616))) _ ?_ _ ⟨0,w0,false,0,rfl,.inr ⟨rfl,by omega,by simp,.inr ⟨rfl,by simp [valB],by simp [valB]⟩⟩⟩ (by simp only;omega)
  rintro back x ⟨lo,wr,lg,i,rfl,hst⟩ hb;unfold gzh;simp only at hb ⊢;rcases Nat.lt_or_ge i z.length with hlt | hge
  ·rw [decide_eq_true hlt,azc];have hr:=rune_drop z i;have hw:=Lib.decodeL_width (z.drop i);have hdr:z.drop i=z[i] :: z.drop (i+1):=List.drop_eq_getElem_cons hlt;have bad:∀ lg':Bool,∀ lo':Int,(w0||!z.all isD)=true→∃ y,back (⟨0,lo',m⟩,true,lg',z,i+(rune z i).2)=some y∧_:=fun lg' lo' h=>hb _ ⟨lo',true,lg',_,rfl,.inl ⟨rfl,h⟩⟩ (by simp only;rw [hr];omega)
   have good:∀ lg':Bool,∀ lo':Int,wr=true→∃ y,back (⟨0,lo',m⟩,wr,lg',z,i+(rune z i).2)=some y∧_:=fun lg' lo' h=>hb _ ⟨lo',wr,lg',_,rfl,.inl ⟨h,by rcases hst with ⟨_,h2⟩ | ⟨h1,_⟩;exact h2;rw [← h1,h];rfl⟩⟩ (by simp only;rw [hr];omega)
   have nd:isD z[i]=false→(w0||!z.all isD)=true:=fun h=>by
    have:z.all isD=false:=by
     rw [List.all_eq_false];exact ⟨z[i],List.getElem_mem hlt,by simp [h]⟩
    rw [this];simp
   by_cases h128:128≤z[i].toNat
   ·have hh:=vz6 hdr h128;rw [← hr] at hh;rw [decide_eq_false (by omega),azb,decide_eq_true (by omega),azc];exact bad _ _ (nd (by unfold isD;simp;omega))
   ·have hd:=Lib.decodeL_ascii z[i] (z.drop (i+1)) (by omega);rw [← hdr,← hr] at hd;rw [hd] at bad good ⊢;simp only at bad good ⊢;by_cases c1:((z[i].toNat:Nat):Int) < 48
    ·rw [decide_eq_true c1,azc];exact bad _ _ (nd (by unfold isD;simp;omega))
    ·rw [decide_eq_false c1,azb];by_cases c2:(57:Int) < ((z[i].toNat:Nat):Int)
     ·rw [decide_eq_true c2,azc];exact bad _ _ (nd (by unfold isD;simp;omega))
     ·rw [decide_eq_false c2,azb];have i32:IntKind.i32.wrap (((z[i].toNat:Nat):Int) - 48)=((z[i].toNat - 48:Nat):Int):=by
       rw [i32_in (by omega) (by omega)];omega
      rcases hst with ⟨hwr,hbad⟩ | ⟨hwr,hi,hall,hval⟩
      ·subst hwr;cases lg
       ·rw [azb];by_cases h3:1844674407370955160 < lo
        ·rw [decide_eq_true h3,Bool.not_true,azb];exact good _ _ rfl
        ·rw [decide_eq_false h3,Bool.not_false,azc];exact good _ _ rfl
       ·rw [azc];exact good _ _ rfl
      ·have ht:z.take (i+1)=z.take i++[z[i]]:=by rw [List.take_add_one,List.getElem?_eq_getElem hlt];rfl
       have hD:isD z[i]=true:=by unfold isD;simp;omega
       have hall':(z.take (i+1)).all isD=true:=by rw [ht,List.all_append,hall,Bool.true_and,List.all_cons,hD];rfl
       have hv:valB (z.take (i+1)) 0=valB (z.take i) 0*10+(z[i].toNat - 48):=by rw [ht,lzk];rfl
       rcases hval with ⟨rfl,hbig⟩ | ⟨rfl,rfl,hsm⟩
       ·rw [azc];exact hb _ ⟨lo,wr,true,i+1,rfl,.inr ⟨hwr,by omega,hall',.inl ⟨rfl,by omega⟩⟩⟩ (by simp only;omega)
       ·rw [azb];by_cases h3:(1844674407370955160:Int) < (valB (z.take i) 0:Int)
        ·rw [decide_eq_true h3,Bool.not_true,azb];exact hb _ ⟨_,wr,true,i+1,rfl,.inr ⟨hwr,by omega,hall',.inl ⟨rfl,by omega⟩⟩⟩ (by simp only;omega)
        ·rw [decide_eq_false h3,Bool.not_false,azc,i32,azS (n:=(valB (z.take i) 0:Int)*10) (by omega) (by omega),azS (n:=((z[i].toNat - 48:Nat):Int)) (by omega) (by omega),azS (by omega) (by omega)];exact hb _ ⟨_,wr,false,i+1,rfl,.inr ⟨hwr,by omega,hall',.inr ⟨rfl,by omega,by omega⟩⟩⟩ (by simp only;omega)
  ·rw [decide_eq_false (by omega),azb];refine ⟨_,rfl,wr,lg,lo,i,rfl,?_⟩;rcases hst with ⟨rfl,h2⟩ | ⟨h1,h2,h3,h4⟩
   ·exact ⟨h2.symm,fun h=>by cases h⟩
   ·have:i=z.length:=by omega
    subst this;rw [List.take_of_length_le (Nat.le_refl _)] at h3 h4;refine ⟨by rw [h1,h3];simp,fun _=>?_⟩;rcases h4 with ⟨h5,h6⟩ | h5
    ·exact .inl ⟨h5,by omega⟩
    ·exact .inr h5
 obtain ⟨y,h1,wr,lg,lo,pos,rfl,h2,h3⟩:=key;exact ⟨wr,lg,lo,pos,h1,h2,h3⟩
end Go.Proofs.YtdgpkbnnljblmaaGreatDoor

/- X4 -/
namespace Go.Proofs.YtdgpkbnnljblmaaGreatDoor
open Go Go.Ev
def gzb (m:Bool) (w b:List UInt8):Dec×Int :=
 if (if m then 9223372036854775808 < valB (w++b) 0 else 9223372036854775808≤valB (w++b) 0) then (⟨0,0⟩,8)
 else if 9 < b.length∨b.getLast? = some 48 then (⟨0,0⟩,1)
 else (⟨if m then -(valB (w++b) 0:Int) else (valB (w++b) 0:Int),(b.length:Int)⟩,0)
def headW (x w b:List UInt8) (p:Bool):Bool:=decide (w=[])||(p&&decide (b=[]))||(decide (1 < w.length)&&decide (w.head? = some 48))||decide (x=[45,48])
def bzV (x:List UInt8):Bool:=decide (x.head? = some 45)
def bzo (x:List UInt8):List UInt8:=if x.head? = some 45 then x.tail else x
def dz4 (x:List UInt8):Dec×Int :=
 if (headW x (cutW (bzo x)).1 (cutW (bzo x)).2.1 (cutW (bzo x)).2.2||!((cutW (bzo x)).1++(cutW (bzo x)).2.1).all isD)=true then (⟨0,0⟩,2)
 else gzb (bzV x) (cutW (bzo x)).1 (cutW (bzo x)).2.1
theorem prefix_is {x:List UInt8} (hl:x.length≤10000):ezb (x,[45])=some (bzo x,bzV x):=by
 unfold ezb dzE dzF bzo bzV;cases x with
 | nil=>simp
 | cons c t =>
  have s1:=subU (D:=c :: t) (i:=0) (k:=1) (by omega) (by simp);have s2:=subU (D:=c :: t) (i:=1) (k:=(c :: t).length) (by simp) (by omega);rw [List.take_of_length_le (Nat.le_refl _)] at s2;have z0:((0:Nat):Int)=0:=rfl;have z1:((([45]:List UInt8).length:Nat):Int)=((1:Nat):Int):=rfl;rw [z0] at s1;simp only;rw [z1,decide_eq_true (by simp;omega),azc,s1,aza,aza,s2];simp only [List.take_succ_cons,List.take_zero,List.drop_zero,List.head?_cons,List.drop_succ_cons,List.tail_cons];by_cases h:c=45
  ·subst h;simp
  ·have:¬ ([c]=[(45:UInt8)]):=fun e=>h (by simpa using e)
   rw [decide_eq_false this];simp [h]
theorem suffix_is {b:List UInt8} (hl:b.length≤10000):czQ (b,[48])=some (decide (b.getLast? = some 48)):=by
 unfold czQ dzG;have z1:((([48]:List UInt8).length:Nat):Int)=((1:Nat):Int):=rfl;simp only;rw [z1];rcases List.eq_nil_or_concat b with rfl | ⟨l,c,rfl⟩
 ·simp
 ·simp only [List.concat_eq_append] at hl ⊢;have hlen:(l++[c]).length=l.length+1:=by simp
  have s2:=subU (D:=l++[c]) (i:=l.length) (k:=(l++[c]).length) (by simp) (by omega);rw [List.take_of_length_le (Nat.le_refl _),List.drop_left] at s2;rw [decide_eq_true (by omega),azc,azw (by omega) (by omega),show ((l++[c]).length:Int) - ((1:Nat):Int)=((l.length:Nat):Int) by omega,s2,aza,aza];simp
theorem tailP_is {m w0:Bool} {w b:List UInt8} (hl:w.length+b.length≤10000):(obnd (cat w b) fun z =>
 obnd (bzl (⟨0,0,m⟩,w0,false,z,0)) fun y_2 =>
  obnd (bzu (⟨0,0⟩,m,b,y_2.2.fst,y_2.1)) fun y =>
   osum y (fun _=>some ((⟨IntKind.i64.wrap y_2.2.fst.lo,(b.length:Int)⟩:Dec),(0:Int))) fun y=>some (y.2,y.1))=some (if (w0||!(w++b).all isD)=true then (⟨0,0⟩,2) else gzb m w b):=by
 rw [catS hl,aza];obtain ⟨wr,lg,lo,pos,h1,h2,h3⟩:=xzn (m:=m) (w0:=w0) (z:=w++b) (by simp;omega);rw [h1,aza];unfold bzu;simp only;rw [← h2];cases wr with
 | true=>simp [osum]
 | false =>
  rw [azb,if_neg (by simp)];unfold gzb;rcases h3 rfl with ⟨rfl,h4⟩ | ⟨rfl,rfl,h4⟩
  ·rw [azc,aza,if_pos (by cases m<;>simp<;>omega)];rfl
  ·rw [azb,suffix_is (by omega)];simp only [aza];generalize valB (w++b) 0=N at *;by_cases g1:(9223372036854775808:Int) < (N:Int)
   ·rw [decide_eq_true g1,azc,aza,if_pos (by cases m<;>simp<;>omega)];rfl
   ·rw [decide_eq_false g1,azb];have fin:(m=true∨N < 9223372036854775808)→(obnd (brn (decide (9 < (b.length:Int))) (some (Sum.inr ((1:Int),(⟨0,0⟩:Dec)))) (brn (decide (b.getLast? = some 48)) (some (Sum.inr (1,⟨0,0⟩)))
     (brn m (some (Sum.inr (0,⟨IntKind.i64.wrap (IntKind.u64.wrap (0 - (N:Int))),(b.length:Int)⟩))) (some (Sum.inl ((),(⟨0,0⟩:Dec))))))) fun y=>osum y (fun _=>some ((⟨IntKind.i64.wrap (N:Int),(b.length:Int)⟩:Dec),(0:Int))) fun y=>some (y.2,y.1)) =
     some (if (if m=true then 9223372036854775808 < N else 9223372036854775808≤N) then (⟨0,0⟩,8) else if 9 < b.length∨b.getLast? = some 48 then (⟨0,0⟩,1) else (⟨if m=true then -(N:Int) else (N:Int),(b.length:Int)⟩,0)):=fun hm=>by
     rw [if_neg (by cases m<;>simp at hm ⊢<;>omega)];by_cases g3:9 < b.length
     ·rw [decide_eq_true (by omega),azc,if_pos (.inl g3)];rfl
     ·rw [decide_eq_false (by omega),azb];by_cases g4:b.getLast? = some 48
      ·rw [decide_eq_true g4,azc,if_pos (.inr g4)];rfl
      ·rw [decide_eq_false g4,azb,if_neg (by simp [g3,g4])];cases m with
       | true =>
        rw [azc,aza];have:IntKind.i64.wrap (IntKind.u64.wrap (0 - (N:Int))) = -(N:Int):=by rw [u64,i64];omega
        simp only [osum,this,if_true]
       | false =>
        simp at hm;rw [azb,aza,azw (by omega) (by omega)];simp [osum]
    by_cases g2:(N:Int)=9223372036854775808
    ·rw [decide_eq_true g2,azc];cases m with
     | false=>rw [Bool.not_false,azc,aza,if_pos (by simp;omega)];rfl
     | true=>rw [Bool.not_true,azb];exact fin (.inl rfl)
    ·rw [decide_eq_false g2,azb];exact fin (.inr (by omega))
theorem vzB {x:List UInt8} (hl:x.length≤5000):jze x=some (dz4 x):=by
 unfold jze dz4;rw [prefix_is (by omega),aza];have htl:(bzo x).length≤5000:=by
  unfold bzo;split
  ·simp;omega
  ·exact hl
 simp only;rw [cut_is (by omega),aza];obtain ⟨h1,h2,h3⟩:=pzd (bzo x);have hlen:(cutW (bzo x)).1.length+(cutW (bzo x)).2.1.length≤5000:=by
  have:=congrArg List.length h1;simp only [List.length_append] at this;cases hp:(cutW (bzo x)).2.2 with
  | true=>rw [hp] at this;simp at this;omega
  | false=>rw [h2 hp];simp;omega
 generalize (cutW (bzo x)).1=w at *;generalize (cutW (bzo x)).2.1=b at *;generalize (cutW (bzo x)).2.2=p at *;simp only [tailP_is (m:=bzV x) (w:=w) (b:=b) (show w.length+b.length≤10000 by omega)];unfold headW;by_cases c1:w=[]
 ·simp [c1]
 ·rw [decide_eq_false c1,azb];have tail:(brn (decide (1 < (w.length:Int))) (obnd (idx w 0) fun y_2=>brn (decide ((y_2.toNat:Int)=48)) (some (if (true||!(w++b).all isD)=true then ((⟨0,0⟩:Dec),(2:Int)) else gzb (bzV x) w b)) (some (if (decide (x=[45,48])||!(w++b).all isD)=true then (⟨0,0⟩,2) else gzb (bzV x) w b)))
   (some (if (decide (x=[45,48])||!(w++b).all isD)=true then (⟨0,0⟩,2) else gzb (bzV x) w b))) =
   some (if (((decide (1 < w.length)&&decide (w.head? = some 48))||decide (x=[45,48]))||!(w++b).all isD)=true then (⟨0,0⟩,2) else gzb (bzV x) w b):=by
   cases w with
   | nil=>exact absurd rfl c1
   | cons c t =>
    by_cases c2:1 < (c :: t).length
    ·rw [decide_eq_true (by omega),azc,show idx (c :: t) 0=some c from rfl,aza,decide_eq_true c2];by_cases c3:c=48
     ·subst c3;simp
     ·have:¬ ((c.toNat:Int)=48):=fun e=>c3 (UInt8.toNat_inj.1 (show c.toNat=(48:UInt8).toNat by simp;omega))
      rw [decide_eq_false this,azb];simp [c3]
    ·rw [decide_eq_false (by omega),azb,decide_eq_false c2];simp
  cases p with
  | true =>
   rw [azc];by_cases c4:b=[]
   ·rw [decide_eq_true c4,azc];simp
   ·rw [decide_eq_false c4,azb,tail];simp
  | false=>rw [azb,tail];simp
end Go.Proofs.YtdgpkbnnljblmaaGreatDoor

/- X5 -/
namespace Go.Proofs.YtdgpkbnnljblmaaGreatDoor
open Go Go.Ev
theorem u8_in {n:Int} (h0:0≤n) (h1:n≤255):IntKind.u8.wrap n=n:=by
 unfold IntKind.wrap;simp [IntKind.bits,IntKind.signed];omega
theorem idxB {D:List UInt8} {k:Nat} {v:UInt8} (h:D[k]? = some v):idx D (k:Int)=some v:=by
 simp [idx,h]
theorem rzI:∀ {l:List UInt8},46 ∉ l→cutW l=(l,[],false)
 | [],_=>rfl
 | c :: l,h=>by
  simp only [List.mem_cons,not_or] at h;unfold cutW;rw [if_neg (fun e=>h.1 e.symm),rzI h.2]
theorem qzG:∀ {w b:List UInt8},46 ∉ w→cutW (w++46 :: b)=(w,b,true)
 | [],b,_=>by simp [cutW]
 | c :: w,b,h=>by
  simp only [List.mem_cons,not_or] at h;simp only [List.cons_append];unfold cutW;rw [if_neg (fun e=>h.1 e.symm),qzG h.2]
theorem kzH {l:List UInt8} (h:l.all isD=true):46 ∉ l:=fun hm=>by
 have:=List.all_eq_true.1 h 46 hm;revert this;decide
def dzQ (t:List UInt8) (g:Nat):Option (Int×List Int) :=
 if ((cutW t).1++(cutW t).2.1).all isD=true∧((cutW t).2.2=true→(cutW t).1≠[]) then
  some (if (cutW t).2.2 then (((cutW t).1.length+g:Nat):Int) else -1,rd9 ((cutW t).1++(cutW t).2.1)) else none
inductive At' (t:List UInt8) (g:Nat):Nat→Int→List Int→Prop
 | front (j:Nat) (h:j≤t.length) (hd:(t.take j).all isD=true):At' t g j (-1) (rd9 (t.take j))
 | behind (w b:List UInt8) (j:Nat) (ht:t=w++46 :: b) (hw:w≠[]) (hd:w.all isD=true) (hj:j≤b.length) (hb:(b.take j).all isD=true):At' t g (w.length+1+j) ((w.length+g:Nat):Int) (rd9 (w++b.take j))
theorem scan_is {s t : List UInt8} {g : Nat} {m : Bool} (hs : s.length = t.length + g) (hg : ∀ j, s[j + g]? = t[j]?) (hl : s.length ≤ 5000) :
    ∃ y,iz7 (s,⟨0,0⟩,⟨m,[]⟩,(g:Int),-1,(g:Int))=some y ∧
      (match dzQ t g with | some (dot,D)=>y = .inl (dot,⟨0,0⟩,⟨m,D⟩) | none=>∃ B,y = .inr (2,⟨0,0⟩,B)):=by
  refine dzP (F:=fzY) (fun x=>10000 - x.2.2.2.2.2.toNat) (fun x=>∃ (j:Nat) (dot:Int) (D:List Int),x=(s,⟨0,0⟩,⟨m,D⟩,(g:Int),dot,((j+g:Nat):Int))∧At' t g j dot D) _ ?_ _ ⟨0,-1,[],by simp,by have:=At'.front (t:=t) (g:=g) 0 (by omega) (by simp);simpa [rd9] using this⟩ (by simp only;omega)
  rintro back x ⟨j,dot,D,rfl,hat⟩ hb
  unfold fzY
  simp only at hb ⊢
  have hDl:D.length≤j:=by
    cases hat with
    | front j h hd=>unfold rd9;simp;omega
    | behind w b j ht hw hd hj hb=>unfold rd9;simp;omega
  have hjl:j≤t.length:=by
    cases hat with
    | front j h hd=>exact h
    | behind w b j ht hw hd hj hb=>subst ht;simp;omega
  rcases Nat.lt_or_ge j t.length with hlt | hge
  · have hc:t[j]? = some t[j]:=List.getElem?_eq_getElem hlt
    generalize t[j]=c at hc
    have hsc:s[j+g]? = some c:=by rw [hg];exact hc
    rw [decide_eq_true (by omega),azc,idxB hsc]
    simp only [aza]
    have next : ∀ dot' D', At' t g (j + 1) dot' D' → ∃ y, back (s, ⟨0, 0⟩, ⟨m, D'⟩, (g : Int), dot', IntKind.i64.wrap (((j + g : Nat) : Int) + 1)) = some y ∧
        (match dzQ t g with | some (dot,D)=>y = .inl (dot,⟨0,0⟩,⟨m,D⟩) | none=>∃ B,y = .inr (2,⟨0,0⟩,B)):=fun dot' D' h=>by
      rw [azw (by omega) (by omega)]
      exact hb _ ⟨j+1,dot',D',by simp;omega,h⟩ (by simp only;omega)
    have digit : (isD c = false → dzQ t g = none) → (isD c = true → At' t g (j + 1) dot (dv c :: D)) → ∃ y, (brn (decide (48 ≤ (c.toNat : Int)))
          (brn (decide ((c.toNat:Int)≤57))
            (obnd (app 8 [IntKind.i64.wrap (IntKind.u8.wrap ((c.toNat:Int) - 48))] D) fun zs=>back (s,⟨0,0⟩,⟨m,zs⟩,(g:Int),dot,IntKind.i64.wrap (((j+g:Nat):Int)+1)))
            (some (Sum.inr (2,⟨0,0⟩,⟨m,D⟩))))
          (some (Sum.inr (2,⟨0,0⟩,⟨m,D⟩))))=some y ∧
        (match dzQ t g with | some (dot,D)=>y = .inl (dot,⟨0,0⟩,⟨m,D⟩) | none=>∃ B,y = .inr (2,⟨0,0⟩,B)):=fun hno hyes=>by
      have hcl:=c.toNat_lt
      by_cases c1:(48:Int)≤(c.toNat:Int)
      · rw [decide_eq_true c1,azc]
        by_cases c2:(c.toNat:Int)≤57
        · have e : IntKind.i64.wrap (IntKind.u8.wrap ((c.toNat : Int) - 48)) = dv c := by
            rw [u8_in (by omega) (by omega),azw (by omega) (by omega)];unfold dv;omega
          rw [decide_eq_true c2,azc,e,appS (by simp;omega),aza]
          exact next _ _ (hyes (by unfold isD;simp;omega))
        · rw [decide_eq_false c2,azb,hno (by unfold isD;simp;omega)]
          exact ⟨_,rfl,_,rfl⟩
      · rw [decide_eq_false c1,azb,hno (by unfold isD;simp;omega)]
        exact ⟨_,rfl,_,rfl⟩
    cases hat with
    | front j h hd =>
      have ht:t.take (j+1)=t.take j++[c]:=by rw [List.take_add_one,hc];rfl
      have htt:t=t.take j++c :: t.drop (j+1):=by
        conv=>lhs;rw [← List.take_append_drop (j+1) t,ht]
        simp
      have hyes:isD c=true→At' t g (j+1) (-1) (dv c :: rd9 (t.take j)):=fun h1=>by
        rw [← vzF,← ht]
        exact .front (j+1) (by omega) (by rw [ht,List.all_append,hd,Bool.true_and,List.all_cons,h1];rfl)
      have hno:c≠46→isD c=false→dzQ t g=none:=fun h46 h1=>by
        unfold dzQ
        rw [if_neg]
        rintro ⟨h2,_⟩
        have hm:c∈(cutW t).1:=by
          have:cutW t=(t.take j++c :: (cutW (t.drop (j+1))).1,(cutW (t.drop (j+1))).2.1,(cutW (t.drop (j+1))).2.2):=by
            conv=>lhs;rw [htt]
            clear hb next digit
            generalize t.drop (j+1)=r
            have hnd:=kzH hd
            generalize t.take j=q at hnd
            induction q with
            | nil => simp only [List.nil_append]; conv => lhs; unfold cutW
                     rw [if_neg h46]
            | cons d q ih =>
              simp only [List.mem_cons,not_or] at hnd
              simp only [List.cons_append]
              conv=>lhs;unfold cutW
              rw [if_neg (fun e=>hnd.1 e.symm),ih hnd.2]
          rw [this];simp
        have:=List.all_eq_true.1 h2 c (List.mem_append_left _ hm)
        rw [h1] at this;cases this
      by_cases h46:c=46
      · subst h46
        rw [decide_eq_true (by rfl),azc,decide_eq_true (by omega),azc]
        by_cases hj0:0 < j
        · rw [decide_eq_true (by omega),azc]
          have:=At'.behind (g:=g) (t.take j) (t.drop (j+1)) 0 htt (by
            intro e
            have h9:=congrArg List.length e
            rw [List.length_take,List.length_nil] at h9
            omega) hd (by omega) (by simp)
          rw [List.length_take,Nat.min_eq_left (by omega),List.take_zero,List.append_nil] at this
          exact next _ _ this
        · rw [decide_eq_false (by omega),azb]
          have hj0:j=0:=by omega
          subst hj0
          refine digit (fun _=>?_) (fun h=>absurd h (by decide))
          unfold dzQ
          rw [if_neg]
          rintro ⟨_,h3⟩
          have:cutW t=([],t.drop 1,true):=by
            conv=>lhs;rw [htt]
            simp [cutW]
          rw [this] at h3
          exact h3 rfl rfl
      · have:¬ ((c.toNat:Int)=46):=fun e=>h46 (UInt8.toNat_inj.1 (show c.toNat=(46:UInt8).toNat by simp;omega))
        rw [decide_eq_false this,azb]
        exact digit (hno h46) hyes
    | behind w b i ht hw hd hj hbd =>
      have hcb:b[i]? = some c:=by
        rw [ht,show w.length+1+i=w.length+(i+1) by omega,List.getElem?_append_right (by omega)] at hc
        simpa using hc
      have hib:i < b.length:=(List.getElem?_eq_some_iff.1 hcb).1
      have htk:b.take (i+1)=b.take i++[c]:=by rw [List.take_add_one,hcb];rfl
      have hyes:isD c=true→At' t g (w.length+1+i+1) ((w.length+g:Nat):Int) (dv c :: rd9 (w++b.take i)):=fun h1=>by
        rw [← vzF,List.append_assoc,← htk]
        exact .behind w b (i+1) ht hw hd (by omega) (by rw [htk,List.all_append,hbd,Bool.true_and,List.all_cons,h1];rfl)
      have hno:isD c=false→dzQ t g=none:=fun h1=>by
        unfold dzQ
        rw [if_neg]
        rintro ⟨h2,_⟩
        rw [ht,qzG (kzH hd)] at h2
        have:=List.all_eq_true.1 h2 c (List.mem_append_right _ (List.mem_of_getElem? hcb))
        rw [h1] at this;cases this
      by_cases h46:(c.toNat:Int)=46
      · rw [decide_eq_true h46,azc,decide_eq_false (by omega),azb]
        exact digit hno hyes
      · rw [decide_eq_false h46,azb]
        exact digit hno hyes
  · rw [decide_eq_false (by omega),azb]
    cases hat with
    | front j h hd =>
      have:j=t.length:=by omega
      subst this
      rw [List.take_of_length_le (Nat.le_refl _)] at hd ⊢
      refine ⟨_,rfl,?_⟩
      unfold dzQ
      rw [rzI (kzH hd)]
      simp [hd]
    | behind w b i ht hw hd hj hbd =>
      have:i=b.length:=by rw [ht] at hge;simp at hge;omega
      subst this
      rw [List.take_of_length_le (Nat.le_refl _)] at hbd ⊢
      refine ⟨_,rfl,?_⟩
      unfold dzQ
      rw [ht,qzG (kzH hd)]
      simp only
      rw [if_pos ⟨by rw [List.all_append,hd,hbd];rfl,fun _=>hw⟩]
      simp
end Go.Proofs.YtdgpkbnnljblmaaGreatDoor

/- X6 -/
namespace Go.Proofs.YtdgpkbnnljblmaaGreatDoor
open Go Go.Ev
theorem uz3 {v:Int} (h:¬ I64 v):decV v 0=(⟨0,0⟩,8):=by
 unfold decV;rw [show azy v 0=(v,0) from rfl,if_neg h]
theorem valB_vd (l:List UInt8):vd (rd9 l)=valB l 0:=by rw [vd_rd9];simp
theorem uzr:∀ {l:List UInt8},l.all isD=true→valB l 0=0→∀ c∈l,c=48
 | [],_,_,c,hc=>by simp at hc
 | d :: l,h,h0,c,hc=>by
  rw [List.all_cons,Bool.and_eq_true] at h;rw [valB] at h0;have hge:=valB_ge l (0*10+(d.toNat - 48));have hd:d=48:=by
   have:=h.1;unfold isD at this;simp only [Bool.and_eq_true,decide_eq_true_eq] at this;exact UInt8.toNat_inj.1 (show d.toNat=(48:UInt8).toNat by simp;omega)
  rcases List.mem_cons.1 hc with rfl | hc'
  ·exact hd
  ·subst hd;exact uzr h.2 (by simpa using h0) c hc'
theorem numP_is {m:Bool} {D:List Int} {N:Nat} (hD:bzD D) (hl:D.length≤5000) (hv:vd D=N):bzs ⟨m,D⟩=some ⟨m&&!decide (N=0),digs N⟩ ∧
 czE (⟨m&&!decide (N=0),digs N⟩,0)=some (if (if m then 9223372036854775808 < N else 9223372036854775808≤N) then (⟨0,0⟩,8) else (⟨if m then -(N:Int) else (N:Int),0⟩,0)):=by
 have hln:(digs N).length≤5000:=by rw [← hv,← mzO hD];have:=ozY D;omega
 refine ⟨by rw [jzw hD (by omega),hv],?_⟩;rw [show (0:Int)=((0:Nat):Int) from rfl,rzs hln (by omega),sw_and];congr 1;cases m with
 | true =>
  by_cases h:9223372036854775808 < N
  ·rw [if_pos (by simpa using h),uz3 (by unfold I64;simp only [sw,cond_true];omega)];rfl
  ·rw [if_neg (by simpa using h),tzY (by unfold I64;simp only [sw,cond_true];omega)];rfl
 | false =>
  by_cases h:9223372036854775808≤N
  ·rw [if_pos (by simpa using h),uz3 (by unfold I64;simp only [sw,cond_false];omega)];rfl
  ·rw [if_neg (by simpa using h),tzY (by unfold I64;simp only [sw,cond_false];omega)];rfl
theorem wzy {x:List UInt8} (hl:x.length≤4000):hz6 x=some (dz4 x):=by
 unfold hz6;have b1:fzW x=some (bzV x):=by
  unfold fzW bzV;cases x with
  | nil=>simp
  | cons c t =>
   rw [decide_eq_true (by simp),azc,show idx (c :: t) 0=some c from rfl,aza];by_cases h:c=45
   ·subst h;simp
   ·have:¬ ((c.toNat:Int)=45):=fun e=>h (UInt8.toNat_inj.1 (show c.toNat=(45:UInt8).toNat by simp;omega))
    rw [decide_eq_false this];simp [h]
 rw [b1,aza];obtain ⟨g,hg,b2⟩:∃ g:Nat,(x.length=(bzo x).length+g∧(∀ j,x[j+g]? = (bzo x)[j]?)∧g≤1∧(bzV x=true→x=45 :: bzo x)∧(bzV x=false→x=bzo x))∧fzX (⟨false,[]⟩,0,bzV x)=some ((g:Int),⟨bzV x,[]⟩):=by
  unfold fzX bzV bzo;by_cases h:x.head? = some 45
  ·cases x with
   | nil=>simp at h
   | cons c t =>
    simp only [List.head?_cons,Option.some.injEq] at h;subst h;exact ⟨1,⟨by simp,fun j=>by simp,by omega,by simp,by simp⟩,by simp [azw]⟩
  ·exact ⟨0,⟨by rw [if_neg h];rfl,fun j=>by rw [if_neg h];rfl,by omega,by simp [h],by simp [h]⟩,by simp [h]⟩
 obtain ⟨hg1,hg2,hg3,hgm,hgn⟩:=hg;rw [b2,aza];simp only;obtain ⟨y,h1,h2⟩:=scan_is (m:=bzV x) hg1 hg2 (by omega);rw [h1,aza];unfold dz4;generalize htt:bzo x=t at *;generalize hmm:bzV x=m at *;obtain ⟨k1,k2,k3⟩:=pzd t;unfold dzQ at h2;have hlen:(cutW t).1.length+(cutW t).2.1.length≤4000∧(t.length:Nat)=(cutW t).1.length+(if (cutW t).2.2=true then 1+(cutW t).2.1.length else 0):=by
  have:=congrArg List.length k1;simp only [List.length_append] at this;cases hp:(cutW t).2.2 with
  | true=>rw [hp] at this;simp at this;simp;omega
  | false=>rw [hp] at this;rw [k2 hp];simp at this;simp;omega
 generalize hw:(cutW t).1=w at *;generalize hbb:(cutW t).2.1=b at *;generalize hp:(cutW t).2.2=p at *;by_cases hsc:(w++b).all isD=true∧(p=true→w≠[])
 ·rw [if_pos hsc] at h2;simp only at h2;subst h2;obtain ⟨hall,hpw⟩:=hsc;simp only [osum];have hN:=numP_is (m:=m) (isDig_rd9 hall) (by unfold rd9;simp;omega) (valB_vd (w++b));obtain ⟨hN1,hN2⟩:=hN;have hwx:w≠[]→x[g]? = w.head?:=fun hne=>by
   have:=hg2 0;rw [Nat.zero_add] at this;rw [this,k1];cases w with
   | nil=>exact absurd rfl hne
   | cons c w=>simp
  cases p with
  | true =>
   simp only [if_true] at k1 hlen ⊢;have b4:cz6 ((g:Int),((w.length+g:Nat):Int),IntKind.i64.wrap ((x.length:Int) - (g:Int)),decide ((0:Int)≤((w.length+g:Nat):Int)))=some (w.length:Int):=by
    unfold cz6;simp only;rw [decide_eq_true (by omega),azc,azw (by omega) (by omega)];congr 1;omega
   have hne:=hpw rfl;have hwl:w.length≠0:=fun h=>hne (List.eq_nil_of_length_eq_zero h)
   rw [b4,aza];have b5:cz7 (x,(g:Int),((w.length+g:Nat):Int),(w.length:Int))=some (decide (b=[])||(decide (1 < w.length)&&decide (w.head? = some 48))):=by
    unfold cz7;simp only;rw [decide_eq_false (by omega),azb,azw (by omega) (by omega)];by_cases hb0:b=[]
    ·subst hb0;rw [decide_eq_true (by simp at hlen;omega),azc];simp
    ·have:b.length≠0:=fun h=>hb0 (List.eq_nil_of_length_eq_zero h)
     rw [decide_eq_false (by omega),azb];cases w with
     | nil=>exact absurd rfl hne
     | cons c w' =>
      have hx:=hwx (by simp);simp only [List.head?_cons] at hx ⊢;rw [idxB hx,aza];by_cases h48:c=48
      ·subst h48;rw [decide_eq_true (by rfl),azc];simp [hb0];omega
      ·have:¬ ((c.toNat:Int)=48):=fun e=>h48 (UInt8.toNat_inj.1 (show c.toNat=(48:UInt8).toNat by simp;omega))
       rw [decide_eq_false this,azb];simp [hb0,h48]
   rw [b5,aza];have hx48:decide (x=[45,48])=false:=by
    rw [decide_eq_false];intro e;have hm2:bzV x=true:=by rw [e];rfl
    rw [hmm] at hm2;have:=hgm hm2;rw [e] at this;simp only [List.cons.injEq,true_and] at this;rw [← this] at k1;have:(46:UInt8)∈[(48:UInt8)]:=by rw [k1];simp
    revert this;decide
   unfold headW;rw [decide_eq_false hne,hall,hx48];simp only [Bool.false_or,Bool.true_and,Bool.or_false,Bool.not_true];by_cases hbad:(decide (b=[])||(decide (1 < w.length)&&decide (w.head? = some 48)))=true
   ·rw [hbad,azc,if_pos rfl]
   ·rw [Bool.not_eq_true] at hbad;rw [hbad,azb,if_neg (by simp),decide_eq_true (by omega),azc,hN1,aza];have hb0:b≠[]:=fun e=>by rw [e] at hbad;simp at hbad
    have hbl:b.length≠0:=fun h=>hb0 (List.eq_nil_of_length_eq_zero h)
    have hpl:IntKind.i64.wrap (IntKind.i64.wrap ((x.length:Int) - ((w.length+g:Nat):Int)) - 1)=(b.length:Int):=by
     rw [azw (n:=(x.length:Int) - ((w.length+g:Nat):Int)) (by omega) (by omega),azw (by omega) (by omega)];omega
    have b6:∀ B,czr ((b.length:Int),m,B)=some false:=fun B=>by
     unfold czr;simp only;cases decide ((B.D.length:Int)=0)<;>cases m<;>simp [hbl]<;>omega
    rw [hpl,b6,aza,azb,hN2,aza];unfold gzb;by_cases hbig:(if m=true then 9223372036854775808 < valB (w++b) 0 else 9223372036854775808≤valB (w++b) 0)
    ·rw [if_pos hbig,if_pos hbig];simp
    ·rw [if_neg hbig,if_neg hbig];simp only [decide_true,Bool.not_true,azb];by_cases h9:9 < b.length
     ·rw [decide_eq_true (by omega),azc,if_pos (.inl h9)]
     ·rw [decide_eq_false (by omega),azb,decide_eq_true (by omega),azc,azw (by omega) (by omega)];have hlast:x[x.length - 1]? = b.getLast?:=by
       have e1:x.length - 1=(t.length - 1)+g:=by omega
       have e2:t.length - 1=w.length+(b.length - 1+1):=by omega
       rw [e1,hg2,e2,k1,List.getLast?_eq_getElem?,List.getElem?_append_right (by omega),Nat.add_sub_cancel_left,List.getElem?_cons_succ]
      have hbs:b.getLast? = some (b.getLast hb0):=List.getLast?_eq_some_getLast hb0;rw [hbs] at hlast;rw [show (x.length:Int) - 1=((x.length - 1:Nat):Int) by omega,idxB hlast,aza,hbs];generalize b.getLast hb0=c;by_cases h48:c=48
      ·subst h48;rw [decide_eq_true (by rfl),azc,if_pos (.inr rfl)]
      ·have:¬ ((c.toNat:Int)=48):=fun e=>h48 (UInt8.toNat_inj.1 (show c.toNat=(48:UInt8).toNat by simp;omega))
       have hno:¬ (9 < b.length∨some c=some 48):=by simp [h9,h48]
       rw [decide_eq_false this,azb,if_neg hno]
  | false =>
   simp only [Bool.false_eq_true,if_false,List.append_nil] at k1 hlen ⊢;have hbn:b=[]:=k2 rfl;subst hbn;rw [List.append_nil] at *;have b4:cz6 ((g:Int),-1,IntKind.i64.wrap ((x.length:Int) - (g:Int)),decide ((0:Int)≤-1))=some (w.length:Int):=by
    unfold cz6;simp only;rw [decide_eq_false (by omega),azb,azw (by omega) (by omega)];congr 1;omega
   rw [b4,aza];have b5:cz7 (x,(g:Int),-1,(w.length:Int))=some (decide (w=[])||(decide (1 < w.length)&&decide (w.head? = some 48))):=by
    unfold cz7;simp only;cases w with
    | nil=>simp
    | cons c w' =>
     have hx:=hwx (by simp);simp only [List.length_cons] at hlen;rw [decide_eq_false (by simp;omega),azb,azw (by omega) (by omega),decide_eq_false (by omega),azb];simp only [List.head?_cons] at hx ⊢;rw [idxB hx,aza];by_cases h48:c=48
     ·subst h48;rw [decide_eq_true (by rfl),azc];simp;omega
     ·have:¬ ((c.toNat:Int)=48):=fun e=>h48 (UInt8.toNat_inj.1 (show c.toNat=(48:UInt8).toNat by simp;omega))
      rw [decide_eq_false this,azb];simp [h48]
   rw [b5,aza];unfold headW;rw [hall];simp only [Bool.false_and,Bool.or_false,Bool.not_true];by_cases hbad:(decide (w=[])||(decide (1 < w.length)&&decide (w.head? = some 48)))=true
   ·rw [hbad,azc,if_pos (by simp)]
   ·rw [Bool.not_eq_true] at hbad;rw [hbad,azb,decide_eq_false (by omega),azb,hN1,aza,Bool.false_or];have hne:w≠[]:=fun e=>by rw [e] at hbad;simp at hbad
    have hx48:decide (x=[45,48])=(m&&decide (valB w 0=0)):=by
     cases m with
     | true =>
      have hx:=hgm rfl;rw [Bool.true_and,decide_eq_decide,hx,k1];constructor
      ·intro e;simp only [List.cons.injEq,true_and] at e;rw [e];rfl
      ·intro e;have h8:=uzr hall e;cases w with
       | nil=>exact absurd rfl hne
       | cons c w' =>
        have hc:=h8 c (by simp);subst hc;cases w' with
        | nil=>rfl
        | cons d w''=>simp at hbad
     | false =>
      rw [Bool.false_and,decide_eq_false];intro e;rw [e] at hmm;exact absurd hmm (by decide)
    have b6:czr (0,m,⟨m&&!decide (valB w 0=0),digs (valB w 0)⟩)=some (m&&decide (valB w 0=0)):=by
     unfold czr;simp only;have hz:=gzu (n:=valB w 0);by_cases h0:valB w 0=0
     ·rw [decide_eq_true (by omega),azc,decide_eq_true h0];cases m<;>simp
     ·rw [decide_eq_false (by omega),azb,decide_eq_false h0];simp
    rw [b6,aza,hx48];by_cases hz:(m&&decide (valB w 0=0))=true
    ·rw [hz,azc,if_pos rfl]
    ·rw [Bool.not_eq_true] at hz;rw [hz,azb,if_neg (by simp),hN2,aza];unfold gzb;rw [List.append_nil];by_cases hbig:(if m=true then 9223372036854775808 < valB w 0 else 9223372036854775808≤valB w 0)
     ·rw [if_pos hbig,if_pos hbig];simp
     ·rw [if_neg hbig,if_neg hbig];simp
 ·rw [if_neg hsc] at h2;simp only at h2;obtain ⟨B,rfl⟩:=h2;simp only [osum];rw [if_pos];unfold headW;by_cases hall:(w++b).all isD=true
  ·have:¬ (p=true→w≠[]):=fun h=>hsc ⟨hall,h⟩
   have hw0:w=[]:=by
    apply Classical.byContradiction;intro hn;exact this (fun _=>hn)
   rw [decide_eq_true hw0];simp
  ·rw [Bool.not_eq_true] at hall;rw [hall];simp
end Go.Proofs.YtdgpkbnnljblmaaGreatDoor

/- X8 -/
namespace Go.Proofs.YtdgpkbnnljblmaaGreatDoor
open Go Go.Ev Go.Lib
theorem appN {A:Type} {B:Nat} {xs ys:List A} (h:(xs.length+ys.length)*B≤140737488355328):app B xs ys=some (xs++ys):=by
 have:Nat.ble ((xs.length+ys.length)*B) 140737488355328=true:=Nat.ble_eq_true_of_le h;simp [app,this]
def more:List UInt8→Nat→Nat→Option Nat
 | _,0,v=>some v
 | [],_+1,_=>none
 | d :: l,n+1,v=>if d.toNat / 64=2 then more l n (v*64+d.toNat % 64) else none
end Go.Proofs.YtdgpkbnnljblmaaGreatDoor

/- PA -/
namespace Go.Proofs.YtdgpkbnnljblmaaGreatDoor
open Go Go.Ev Go.Lib
def ltP (a b:Place):Bool:=decide (a.Sheet < b.Sheet)||decide (a.Sheet=b.Sheet)&&(decide (a.At.Row < b.At.Row)||decide (a.At.Row=b.At.Row)&&decide (a.At.Col < b.At.Col))
def eqP (a b:Place):Bool:=decide (a.Sheet=b.Sheet)&&(decide (a.At.Row=b.At.Row)&&decide (a.At.Col=b.At.Col))
theorem or3 (a b c:Int):izj [a,b,c]=some (if a≠0 then a else if b≠0 then b else c):=by
 unfold izj;have this:hzL (0,[a,b,c],(([a,b,c]:List Int).length:Int),0)=some ((fun (r:Option Nat)=>match r with | some i=>.inr (([a,b,c]:List Int).getD i 0) | none=>.inl ()) _) :=
  tz5 (F:=ezv) (fun i=>(0,[a,b,c],(([a,b,c]:List Int).length:Int),(i:Int))) (fun r=>match r with | some i=>.inr (([a,b,c]:List Int).getD i 0) | none=>.inl ()) [a,b,c] (fun y=>!decide (y=0)) (by simp)
  (fun back i hi=>by
   unfold ezv;simp only;rw [ltT hi,azc,idxG hi,aza,wr1 (by simp only [List.length_cons,List.length_nil] at hi;omega)];have hg:([a,b,c]:List Int).getD i 0=([a,b,c]:List Int)[i]:=by rw [List.getD_eq_getElem?_getD,List.getElem?_eq_getElem hi];rfl
   rw [hg];cases decide (([a,b,c]:List Int)[i]=0)<;>rfl)
  (fun back=>by
   unfold ezv;simp only;rw [ltF,azb])
 rw [this,aza];by_cases h1:a=0
 ·by_cases h2:b=0
  ·by_cases h3:c=0<;>simp [h1,h2,h3,List.findIdx?_cons,osum]
  ·simp [h1,h2,List.findIdx?_cons,osum]
 ·simp [h1,List.findIdx?_cons,osum]
theorem vzw (a b:Place):izw (a,b)=some (ltP a b):=by
 unfold izw mzr;simp only;rw [pzc,aza,pzc,aza,pzc,aza,or3,aza,aza];unfold ltP cmpV;congr 1;rcases Int.lt_trichotomy a.Sheet b.Sheet with h1 | h1 | h1
 ·simp [h1]
 ·rcases Int.lt_trichotomy a.At.Row b.At.Row with h2 | h2 | h2
  ·simp [h1,h2]
  ·rcases Int.lt_trichotomy a.At.Col b.At.Col with h3 | h3 | h3
   ·simp [h1,h2,h3]
   ·simp [h1,h2,h3]
   ·simp [h1,h2,h3];omega
  ·have n1:¬ a.At.Row < b.At.Row:=by omega
   have n2:¬ a.At.Row=b.At.Row:=by omega
   simp [h1,h2,n1,n2]
 ·have n1:¬ a.Sheet < b.Sheet:=by omega
  have n2:¬ a.Sheet=b.Sheet:=by omega
  simp [h1,n1,n2]
def gzV (l:List Slot) (p:Place) (k:Nat):Bool:=match l[k]? with | some s=>eqP s.P p | none=>false
theorem half_is {a b:Nat} (h:a+b < 1000000000):IntKind.i64.wrap ((IntKind.i64.wrap ((a:Int)+(b:Int))).tdiv 2)=(((a+b) / 2:Nat):Int):=by
 rw [azw (n:=(a:Int)+b) (by omega) (by omega)];have:((a:Int)+b).tdiv 2=(((a+b) / 2:Nat):Int):=by
  rw [show (a:Int)+b=((a+b:Nat):Int) by omega];rfl
 rw [this,azw (by omega) (by omega)]
theorem found_eq (l:List Slot) (p:Place) (k:Nat):brn (decide ((k:Int) < (l.length:Int))) (obnd (idx l (k:Int)) fun y=>some ((k:Int),bif false then !(decide (y.P.Sheet=p.Sheet)&&(decide (y.P.At.Row=p.At.Row)&&decide (y.P.At.Col=p.At.Col))) else decide (y.P.Sheet=p.Sheet)&&(decide (y.P.At.Row=p.At.Row)&&decide (y.P.At.Col=p.At.Col)))) (some ((k:Int),false))=some ((k:Int),gzV l p k):=by
 unfold gzV;by_cases h:k < l.length
 ·rw [ltT h,azc,idxG h,aza,List.getElem?_eq_getElem h];rfl
 ·rw [decide_eq_false (by omega),azb,List.getElem?_eq_none (by omega)]
theorem find_at {l:List Slot} {p:Place} {k:Nat} (hl:l.length≤100000000) (hk:k≤l.length) (h1:∀ i (h:i < l.length),i < k→ltP l[i].P p=true) (h2:∀ i (h:i < l.length),k≤i→ltP l[i].P p=false) :
 izx (l,p)=some ((k:Int),gzV l p k):=by
 have key:∀ lo hi:Nat,lo≤k→k≤hi→hi≤l.length→fzN (l,p,(lo:Int),(hi:Int))=some ((k:Int),gzV l p k):=by
  intro lo hi a1 a2 a3;refine mzD (F:=hzR) (fun x=>(x.2.2.2 - x.2.2.1).toNat) (fun x=>∃ lo hi:Nat,x=(l,p,(lo:Int),(hi:Int))∧lo≤k∧k≤hi∧hi≤l.length) (fun _=>((k:Int),gzV l p k)) ?_ _ ⟨lo,hi,rfl,a1,a2,a3⟩ (by simp only;omega);rintro back _ ⟨lo,hi,rfl,a1,a2,a3⟩ hb;unfold hzR;simp only;by_cases h:lo=hi
  ·subst h;have:lo=k:=by omega
   subst this;rw [decide_eq_true rfl,azc,found_eq]
  ·rw [decide_eq_false (by omega),azb,half_is (by omega)];have hm:(lo+hi) / 2 < l.length:=by omega
   rw [idxG hm,aza,vzw,aza];by_cases hlt:(lo+hi) / 2 < k
   ·rw [h1 _ hm hlt,azc,wr1 (by omega),hb (l,p,(((lo+hi) / 2+1:Nat):Int),(hi:Int)) ⟨_,_,rfl,by omega,by omega,by omega⟩ (by simp only;omega)];rfl
   ·rw [h2 _ hm (by omega),azb,hb (l,p,(lo:Int),(((lo+hi) / 2:Nat):Int)) ⟨_,_,rfl,by omega,by omega,by omega⟩ (by simp only;omega)];rfl
 unfold izx jzG;simp only;by_cases h:l.length=0
 ·have:k=0:=by omega
  subst this;rw [h,decide_eq_true (by rfl),azc];unfold gzV;rw [List.getElem?_eq_none (by omega)];rfl
 ·have hw:=half_is (a:=0) (b:=l.length) (by omega);simp only [Int.cast_ofNat_Int,Nat.zero_add] at hw;rw [decide_eq_false (by omega),azb,hw];have hm:l.length / 2 < l.length:=by omega
  rw [idxG hm,aza,vzw,aza];by_cases hlt:l.length / 2 < k
  ·rw [h1 _ hm hlt,azc,wr1 (by omega),key _ _ (by omega) (by omega) (by omega)];rfl
  ·have:=key 0 (l.length / 2) (by omega) (by omega) (by omega);simp only [Int.cast_ofNat_Int] at this;rw [h2 _ hm (by omega),azb,this];rfl
theorem clone_is {l:List Slot} (hl:l.length≤100000000):bzw l=some l:=by
 unfold bzw;rw [appN (by simp only [List.length_nil];omega),aza];cases l with
 | nil=>simp [Ev.agree]
 | cons a l=>rfl
theorem put_end {e:Env} {p:Place} {v:Val} (hl:e.Slots.length≤1000000) (h:∀ s∈e.Slots,ltP s.P p=true) (hv:v.Kind≠0):hzQ (e,p,v)=some { e with Slots:=e.Slots++[⟨p,v⟩] }:=by
 unfold hzQ;simp only;rw [find_at (k:=e.Slots.length) (by omega) (Nat.le_refl _) (fun i hi _=>h _ (List.getElem_mem hi)) (fun i hi hk=>by omega),aza,clone_is (by omega),aza];have:gzV e.Slots p e.Slots.length=false:=by unfold gzV;rw [List.getElem?_eq_none (by omega)]
 simp only [this,azb];rw [decide_eq_false hv];simp only [Bool.not_false,azc];unfold bzt;simp only;have hs:sub e.Slots (e.Slots.length:Int) (e.Slots.length:Int)=some []:=by simp [sub]
 rw [hs,aza,decide_eq_false (by simp),azb,decide_true,azc,appN (by simp only [List.length_singleton];omega)];rfl
end Go.Proofs.YtdgpkbnnljblmaaGreatDoor

/- X9 -/
namespace Go.Proofs.YtdgpkbnnljblmaaGreatDoor
open Go Go.Ev Go.Lib
set_option linter.unusedSimpArgs false
end Go.Proofs.YtdgpkbnnljblmaaGreatDoor

/- XA -/
namespace Go.Proofs.YtdgpkbnnljblmaaGreatDoor
open Go Go.Ev Go.Lib
end Go.Proofs.YtdgpkbnnljblmaaGreatDoor

/- X7 -/
namespace Go.Proofs.YtdgpkbnnljblmaaGreatDoor
open Go Go.Ev Go.Lib
def vB:Val:=⟨0,⟨0,0⟩,[],false,0⟩
def vN (d:Dec):Val:=⟨1,d,[],false,0⟩
def vS (s:List UInt8):Val:=⟨2,⟨0,0⟩,s,false,0⟩
def vT (b:Bool):Val:=⟨3,⟨0,0⟩,[],b,0⟩
def vE (e:Int):Val:=⟨4,⟨0,0⟩,[],false,e⟩
def okV (v:Val):Prop:=v=vB∨(∃ d,v=vN d∧okD d)∨(∃ s,v=vS s∧Lib.validD s=true)∨(∃ b,v=vT b)∨∃ e,v=vE e
def key (v:Val):List Int:=v.Kind :: (if v.Kind=1 then [V v.N] else if v.Kind=2 then rs v.S else if v.Kind=3 then [if v.B then 1 else 0] else [v.E])
def okW (v:Val):Prop:=okV v∧v.S.length≤3000∧I64 v.N.M
end Go.Proofs.YtdgpkbnnljblmaaGreatDoor

/- XB -/
namespace Go.Proofs.YtdgpkbnnljblmaaGreatDoor
open Go Go.Ev Go.Lib
def good (l:List UInt8):Prop:=¬ ((decodeL l).1=65533∧(decodeL l).2=1)
end Go.Proofs.YtdgpkbnnljblmaaGreatDoor

/- XC -/
namespace Go.Proofs.YtdgpkbnnljblmaaGreatDoor
open Go Go.Ev Go.Lib
set_option linter.unusedSimpArgs false
theorem number_eq {a:Val} (h:okV a) (hl:a.S.length≤3000):∃ r,azX a=some r∧izR a=some r:=by
 rcases h with rfl | ⟨d,rfl,hd⟩ | ⟨s,rfl,hs⟩ | ⟨t,rfl⟩ | ⟨e,rfl⟩
 ·exact ⟨_,rfl,rfl⟩
 ·exact ⟨_,rfl,rfl⟩
 ·have hl:s.length≤3000:=hl;unfold azX izR vS azm ozU;simp [vzB (x:=s) (by omega),wzy (x:=s) (by omega)];by_cases h:(dz4 s).2=0<;>simp [h]
 ·cases t<;>exact ⟨_,rfl,rfl⟩
 ·exact ⟨_,rfl,rfl⟩
theorem cmp_num {d d':Dec} (h:okD d) (h':okD d') (m:I64 d.M) (m':I64 d'.M):czj (d,d')=some (cmpV (V d) (V d'))∧ezY (d,d')=some (cmpV (V d) (V d')):=by
 refine ⟨wzF m m' h.1 h.2.1 h'.1 h'.2.1,?_⟩;obtain ⟨M,S⟩:=d;obtain ⟨N,T⟩:=d';obtain ⟨s,rfl⟩:=Int.eq_ofNat_of_zero_le h.1;obtain ⟨t,rfl⟩:=Int.eq_ofNat_of_zero_le h'.1;have hs:=h.2.1;have ht:=h'.2.1;simp only at hs ht m m';exact uzR m m' (by omega) (by omega)
theorem ok0:okD ⟨0,0⟩:=⟨by simp,by simp,fun h=>by simp at h⟩
theorem I0:I64 0:=by unfold I64;omega
end Go.Proofs.YtdgpkbnnljblmaaGreatDoor

/- H1 -/
namespace Go.Proofs.YtdgpkbnnljblmaaGreatDoor
open Go Go.Ev
set_option linter.unusedVariables false
end Go.Proofs.YtdgpkbnnljblmaaGreatDoor

/- Y1 -/
namespace Go.Proofs.YtdgpkbnnljblmaaGreatDoor
open Go Go.Ev Go.Lib
def v0:Val:=⟨0,⟨0,0⟩,[],false,0⟩
theorem vzd (e:Int):azm e=some (vE e):=rfl
def okA (l:List Arg):Prop:=l.length≤40∧∀ a∈l,a.L.length≤5000∧∀ v∈a.L,okW v
def badA (a:Arg):Bool:=!a.Area&&!decide (a.L.length=1)
theorem many1_is (a:Arg):izo a=some (badA a):=by
 unfold izo badA;cases a.Area with
 | true=>rfl
 | false =>
  simp only [Bool.not_false,azc,Bool.true_and];by_cases h:a.L.length=1<;>simp [h]<;>omega
theorem mz1 {l:List Arg} (hl:l.length≤1000):azT (l,())=some (l.any badA):=by
 unfold azT bzh;have this:bza (l,(),(l.length:Int),0)=some ((fun (r:Option Nat)=>match r with | some i=>.inr (i:Int) | none=>.inl ()) _):=tz5 (F:=azF) (fun i=>(l,(),(l.length:Int),(i:Int))) (fun r=>match r with | some i=>.inr (i:Int) | none=>.inl ()) l badA (by omega)
  (fun back i hi=>by
   unfold azF;simp only;rw [ltT hi,azc,idxG hi,aza,many1_is,aza,wr1 (by omega)];cases badA l[i]<;>rfl)
  (fun back=>by
   unfold azF;simp only;rw [ltF,azb])
 simp only;rw [this,aza,← vzS];cases l.findIdx? badA with
 | none=>rfl
 | some i =>
  simp only [osum,aza,Option.isSome_some];rw [decide_eq_true (by omega)]
end Go.Proofs.YtdgpkbnnljblmaaGreatDoor

/- Y2 -/
namespace Go.Proofs.YtdgpkbnnljblmaaGreatDoor
open Go Go.Ev Go.Lib
def numR (v:Val):Dec×Val×Bool:=(azX v).getD (⟨0,0⟩,v0,false)
theorem num_eq {v:Val} (h:okW v):azX v=some (numR v)∧izR v=some (numR v):=by
 obtain ⟨r,h1,h2⟩:=number_eq h.1 h.2.1;unfold numR;rw [h1];exact ⟨rfl,h2⟩
theorem parse_ok (x:List UInt8):okD (dz4 x).1∧I64 (dz4 x).1.M:=by
 have z:okD ⟨0,0⟩∧I64 (⟨0,0⟩:Dec).M:=⟨ok0,I0⟩;unfold dz4;generalize (cutW (bzo x)).1=w;generalize (cutW (bzo x)).2.1=b;generalize (cutW (bzo x)).2.2=p;generalize bzV x=m;split
 ·exact z
 ·rename_i hc;have hd:(w++b).all isD=true:=by
   cases h:(w++b).all isD with
   | true=>rfl
   | false=>rw [h] at hc;simp at hc
  unfold gzb;by_cases h1:(if m then 9223372036854775808 < valB (w++b) 0 else 9223372036854775808≤valB (w++b) 0)
  ·rw [if_pos h1];exact z
  rw [if_neg h1];by_cases h2:9 < b.length∨b.getLast? = some 48
  ·rw [if_pos h2];exact z
  rw [if_neg h2];simp only [not_or] at h2;refine ⟨⟨by simp,by simp only;omega,fun h3 hm=>?_⟩,?_⟩
  ·simp only at h3 hm;rcases List.eq_nil_or_concat b with rfl | ⟨l,c,rfl⟩
   ·simp at h3
   ·simp only [List.concat_eq_append] at hd h2 hm;have hc:isD c=true:=by
     rw [List.all_eq_true] at hd;exact hd c (by simp)
    have hne:c≠48:=fun e=>h2.2 (by simp [e])
    have hv:valB (w++(l++[c])) 0 % 10=c.toNat - 48:=by
     rw [← List.append_assoc,lzk];unfold isD at hc;simp only [Bool.and_eq_true,decide_eq_true_eq] at hc;simp only [valB];omega
    have hc48:c.toNat≠48:=fun e=>hne (UInt8.toNat_inj.1 (by simpa using e))
    unfold isD at hc;simp only [Bool.and_eq_true,decide_eq_true_eq] at hc;generalize valB (w++(l++[c])) 0=n at hv hm;cases m
    ·simp at hm;omega
    ·simp at hm;omega
  ·unfold I64;generalize valB (w++b) 0=n at h1;cases m
   ·simp at h1 ⊢;omega
   ·simp at h1 ⊢;omega
theorem num_ok {v:Val} (h:okW v):okD (numR v).1∧I64 (numR v).1.M:=by
 have z:okD ⟨0,0⟩∧I64 (⟨0,0⟩:Dec).M:=⟨ok0,I0⟩;obtain ⟨h,hl,hm⟩:=h;rcases h with rfl | ⟨d,rfl,hd⟩ | ⟨s,rfl,hs⟩ | ⟨t,rfl⟩ | ⟨e,rfl⟩
 ·exact z
 ·exact ⟨hd,hm⟩
 ·have hl:s.length≤3000:=hl;unfold numR azX vS azm;simp [vzB (x:=s) (by omega)];by_cases h:(dz4 s).2=0<;>simp [h]
  ·exact parse_ok s
  ·exact z
 ·cases t
  ·exact z
  ·exact ⟨okInt 1,by unfold I64;decide⟩
 ·exact z
def mzR (area:Bool) (v:Val):Bool:=area&&(!decide (v.Kind=1)&&!decide (v.Kind=4))
def dzk (area:Bool) (acc:List Dec) (v:Val):List Dec⊕(List Dec⊕Val) :=
 bif mzR area v then .inl acc else bif (numR v).2.2 then .inl (acc++[(numR v).1]) else .inr (.inr (numR v).2.1)
def numL (area:Bool) (acc:List Dec) (l:List Val):List Dec⊕Val:=bzC (dzk area) .inl acc l
def ozP:List Dec⊕Val→((List Dec)×Val)⊕((List Dec×Bool)×Val)
 | .inl acc=>.inl (acc,v0)
 | .inr v=>.inr (([],false),v)
theorem qzj {area:Bool} {acc acc':List Dec} {v:Val} (h:dzk area acc v = .inl acc'):acc'.length≤acc.length+1:=by
 unfold dzk at h;cases hk:mzR area v with
 | true=>rw [hk,cond_true] at h;injection h with h;subst h;omega
 | false =>
  rw [hk,cond_false] at h;cases hn:(numR v).2.2 with
  | true=>rw [hn,cond_true] at h;injection h with h;subst h;simp
  | false=>rw [hn,cond_false] at h;cases h
theorem rzp {area:Bool}:∀ {l:List Val} {acc acc':List Dec},numL area acc l = .inl acc'→acc'.length≤acc.length+l.length
 | [],acc,acc',h=>by simp only [numL,bzC] at h;injection h with h;subst h;simp
 | v :: l,acc,acc',h=>by
  simp only [numL,bzC] at h;cases hs:dzk area acc v with
  | inl a =>
   rw [hs] at h;have:=rzp (l:=l) h;have:=qzj hs;simp only [List.length_cons];omega
  | inr y =>
   rw [hs] at h;have h:y = .inl acc':=h;subst h;unfold dzk at hs;cases h1:mzR area v<;>cases h2:(numR v).2.2<;>simp [h1,h2] at hs
theorem xzk {a:Arg} {acc:List Dec} (hL:a.L.length≤5000) (hv:∀ v∈a.L,okW v) (ha:acc.length≤1000000) :
 gz3 (v0,acc,a,a.L,(a.L.length:Int),0)=some (ozP (numL a.Area acc a.L)):=by
 refine bz3 (F:=dz1) (fun s i=>(v0,s,a,a.L,(a.L.length:Int),(i:Int))) ozP a.L (dzk a.Area) .inl (fun s i=>s.length≤acc.length+i) (by omega) ?_ ?_ ?_ acc (by simp)
 ·intro back s i hi hs;unfold dz1;simp only;have hn:=(num_eq (hv a.L[i] (List.getElem_mem hi))).1;rw [ltT hi,azc,idxG hi,aza,wr1 (by omega)];unfold dzk mzR;have e:obnd (azX a.L[i]) (fun y=>brn (!y.2.snd) (some (Sum.inr (([],false),y.2.fst))) (obnd (app 16 s [y.fst]) fun zs=>back (v0,zs,a,a.L,(a.L.length:Int),((i+1:Nat):Int)))) =
   jzc (fun s'=>back (v0,s',a,a.L,(a.L.length:Int),((i+1:Nat):Int))) ozP (bif (numR a.L[i]).2.2 then (.inl (s++[(numR a.L[i]).1]):List Dec⊕(List Dec⊕Val)) else .inr (.inr (numR a.L[i]).2.1)):=by
   rw [hn,aza,appN (by simp;omega)];cases (numR a.L[i]).2.2<;>rfl
  cases a.Area with
  | false=>simp only [azb,Bool.false_and,cond_false];exact e
  | true =>
   simp only [azc,Bool.true_and];by_cases h1:(a.L[i]).Kind=1
   ·rw [decide_eq_true h1];simp only [Bool.not_true,azb,Bool.false_and,cond_false];exact e
   ·rw [decide_eq_false h1];simp only [Bool.not_false,azc,Bool.true_and];by_cases h4:(a.L[i]).Kind=4
    ·rw [decide_eq_true h4];simp only [Bool.not_true,azb,cond_false];exact e
    ·rw [decide_eq_false h4];rfl
 ·intro s i hi s' hs hst;have:=qzj hst;omega
 ·intro back s hs;unfold dz1;simp only;rw [ltF,azb];rfl
def numA (acc:List Dec) (l:List Arg):List Dec⊕Val:=bzC (fun acc a=>match numL a.Area acc a.L with | .inl x=>.inl x | .inr v=>.inr (.inr v)) .inl acc l
theorem xzj {l:List Arg} (h:okA l):gz1 l=some (match numA [] l with | .inl x=>(x,v0,true) | .inr v=>([],v,false)):=by
 unfold gz1;have:=bz3 (F:=dz0) (fun s i=>(v0,s,l,(l.length:Int),(i:Int))) ozP l (fun acc a=>match numL a.Area acc a.L with | .inl x=>.inl x | .inr v=>.inr (.inr v)) .inl (fun s i=>s.length≤5000*i) (by have:=h.1;omega)
  (fun back s i hi hs=>by
   have hai:=h.2 l[i] (List.getElem_mem hi);have hl:=h.1;unfold dz0;simp only;rw [ltT hi,azc,idxG hi,aza,wr1 (by omega),xzk hai.1 hai.2 (by omega),aza];cases numL (l[i]).Area s (l[i]).L<;>rfl)
  (fun s i hi s' hs hst=>by
   have hai:=h.2 l[i] (List.getElem_mem hi);cases hn:numL (l[i]).Area s (l[i]).L with
   | inl x =>
    rw [hn] at hst;simp only at hst;injection hst with hst;subst hst;have:=rzp hn;omega
   | inr v=>rw [hn] at hst;cases hst)
  (fun back s hs=>by
   unfold dz0;simp only;rw [ltF,azb];rfl) [] (by simp)
 have this:fzi (v0,[],l,(l.length:Int),0)=some (ozP (numA [] l)):=this
 show (obnd (fzi (v0,[],l,(l.length:Int),0)) _)=_
 rw [this,aza];cases numA [] l<;>rfl
end Go.Proofs.YtdgpkbnnljblmaaGreatDoor

/- Y3 -/
namespace Go.Proofs.YtdgpkbnnljblmaaGreatDoor
open Go Go.Ev Go.Lib
def okd (d:Dec):Prop:=okD d∧I64 d.M
theorem okd0:okd ⟨0,0⟩:=⟨ok0,I0⟩
theorem okdI {n:Int} (h:I64 n):okd ⟨n,0⟩:=⟨okInt n,h⟩
def okR (r:Dec×Int):Prop:=(r.2=0→okd r.1)∧(r.2≠0→r.1=⟨0,0⟩)
theorem qzH (v:Int) {p:Nat} (hp:p≤9):okR (decV v p):=by
 have h:=@decV_ok v p;unfold decV at h ⊢;by_cases hc:I64 (azy v p).1
 ·rw [if_pos hc] at h ⊢;exact ⟨fun _=>(by obtain ⟨h1,h2,_⟩:=h hp rfl;exact ⟨h1,h2⟩),fun e=>absurd rfl e⟩
 ·rw [if_neg hc];exact ⟨fun e=>by simp at e,fun _=>rfl⟩
theorem natS {d:Dec} (h:okD d):∃ s:Nat,d=⟨d.M,(s:Int)⟩∧s≤9:=by
 obtain ⟨M,S⟩:=d;obtain ⟨s,rfl⟩:=Int.eq_ofNat_of_zero_le h.1;have:=h.2.1;exact ⟨s,rfl,by simp only at this;omega⟩
theorem add_eq {a b:Dec} (ha:okd a) (hb:okd b):∃ r,hzN (a,b)=some r∧jz4 (a,b)=some r∧okR r∧r=decV (V a+V b) 9:=by
 refine ⟨_,Add_is ha.2 hb.2 ha.1 hb.1,?_,qzH _ (by omega),rfl⟩;obtain ⟨s,es,hs⟩:=natS ha.1;obtain ⟨t,et,ht⟩:=natS hb.1;have hm:=ha.2;have hn:=hb.2;generalize a.M=M at *;generalize b.M=N at *;subst es;subst et;exact refAdd_is hm hn hs ht
theorem div_eq {a b:Dec} (ha:okd a) (hb:okd b):∃ r,czW (a,b)=some r∧fzA (a,b)=some r∧okR r:=by
 by_cases h0:b.M=0
 ·refine ⟨(⟨0,0⟩,9),?_,?_,fun e=>by simp at e,fun _=>rfl⟩
  ·unfold czW;simp only;rw [decide_eq_true h0,azc]
  ·unfold fzA;simp only;rw [decide_eq_true h0,azc]
 obtain ⟨s,es,hs⟩:=natS ha.1;obtain ⟨t,et,ht⟩:=natS hb.1;have hm:=ha.2;have hn:=hb.2;generalize a.M=M at *;generalize b.M=N at *;subst es;subst et;exact ⟨_,xzq hm hn hs ht h0,refDiv_is hm hn hs ht h0,qzH _ (by omega)⟩
theorem cmp_eq {a b:Dec} (ha:okd a) (hb:okd b):czj (a,b)=some (cmpV (V a) (V b))∧ezY (a,b)=some (cmpV (V a) (V b)):=cmp_num ha.1 hb.1 ha.2 hb.2
def numV (r:Dec×Int):Val:=if r.2=0 then vN r.1 else if r.2=9 then vE 7 else vE 36
theorem jzv (r:Dec×Int):azU r=some (numV r):=by
 unfold azU numV;by_cases h:r.2=0
 ·simp [h,vN]
 ·by_cases h9:r.2=9<;>simp [h,h9,vzd]
theorem int_is (n:Int):az8 n=some (vN ⟨n,0⟩):=by
 unfold az8;rw [show bzA n=some ⟨n,0⟩ from rfl,aza,jzv];rfl
def cnt1 (area:Bool) (n:Nat) (v:Val):Nat:=bif (numR v).2.2&&(!area||decide (v.Kind=1)) then n+1 else n
theorem czI {A S Y:Type} (f:S→A→S) (fin:S→Y):∀ (l:List A) (s:S),bzC (fun s a=>.inl (f s a)) fin s l=fin (l.foldl f s)
 | [],_=>rfl
 | a :: l,s=>by simp only [bzC,List.foldl_cons];exact czI f fin l _
def cntL (area:Bool) (n:Nat) (l:List Val):Nat:=l.foldl (cnt1 area) n
theorem cnt1_le (area:Bool) (n:Nat) (v:Val):cnt1 area n v≤n+1:=by unfold cnt1;cases (numR v).2.2&&(!area||decide (v.Kind=1))<;>simp
theorem cntL_le (area:Bool):∀ (l:List Val) (n:Nat),cntL area n l≤n+l.length
 | [],n=>by simp [cntL]
 | v :: l,n=>by
  have:=cntL_le area l (cnt1 area n v);have:=cnt1_le area n v;simp only [cntL,List.foldl_cons,List.length_cons] at *;omega
theorem wzJ {a:Arg} {n:Nat} (hL:a.L.length≤5000) (hv:∀ v∈a.L,okW v) (hn:n≤1000000) :
 gz0 ((n:Int),a,a.L,(a.L.length:Int),0)=some ((cntL a.Area n a.L:Nat):Int):=by
 have:=bz3 (F:=dzZ) (fun s i=>(((s:Nat):Int),a,a.L,(a.L.length:Int),(i:Int))) (fun s:Nat=>(s:Int)) a.L (fun s v=>.inl (cnt1 a.Area s v)) id (fun s i=>s≤n+i) (by omega)
  (fun back s i hi hs=>by
   unfold dzZ;simp only;rw [ltT hi,azc,idxG hi,aza,(num_eq (hv _ (List.getElem_mem hi))).1,aza,wr1 (i:=i) (by omega)];have w:IntKind.i64.wrap ((s:Int)+1)=((s+1:Nat):Int):=wr1 (by omega);unfold cnt1;simp only [jzc];rw [w];cases (numR a.L[i]).2.2 with
   | false=>rfl
   | true =>
    cases a.Area with
    | false=>rfl
    | true =>
     by_cases h1:(a.L[i]).Kind=1
     ·rw [decide_eq_true h1];rfl
     ·rw [decide_eq_false h1];rfl)
  (fun s i hi s' hs hst=>by
   injection hst with hst;have:=cnt1_le a.Area s a.L[i];omega)
  (fun back s hs=>by
   unfold dzZ;simp only;rw [ltF,azb];rfl) n (by simp)
 rw [czI] at this;exact this
def cntA (n:Nat) (l:List Arg):Nat:=l.foldl (fun n a=>cntL a.Area n a.L) n
theorem wzI {l:List Arg} (h:okA l):gzX l=some ((cntA 0 l:Nat):Int):=by
 have:=bz3 (F:=dzY) (fun s i=>(((s:Nat):Int),l,(l.length:Int),(i:Int))) (fun s:Nat=>(s:Int)) l (fun s a=>.inl (cntL a.Area s a.L)) id (fun s i=>s≤5000*i) (by have:=h.1;omega)
  (fun back s i hi hs=>by
   have hai:=h.2 l[i] (List.getElem_mem hi);have hl:=h.1;unfold dzY;simp only;rw [ltT hi,azc,idxG hi,aza,wr1 (by omega),wzJ hai.1 hai.2 (by omega),aza];rfl)
  (fun s i hi s' hs hst=>by
   have hai:=h.2 l[i] (List.getElem_mem hi);injection hst with hst;have:=cntL_le (l[i]).Area (l[i]).L s;omega)
  (fun back s hs=>by
   unfold dzY;simp only;rw [ltF,azb];rfl) 0 (by simp)
 rw [czI] at this;have this:gzZ (0,l,(l.length:Int),0)=some ((cntA 0 l:Nat):Int):=this;unfold gzX;rw [this];rfl
theorem xzi {area:Bool} {acc acc':List Dec} {v:Val} (hv:okW v) (ha:∀ d∈acc,okd d) (h:dzk area acc v = .inl acc'):∀ d∈acc',okd d:=by
 unfold dzk at h;cases hk:mzR area v with
 | true=>rw [hk,cond_true] at h;injection h with h;subst h;exact ha
 | false =>
  rw [hk,cond_false] at h;cases hn:(numR v).2.2 with
  | true =>
   rw [hn,cond_true] at h;injection h with h;subst h;intro d hd;rcases List.mem_append.1 hd with hd | hd
   ·exact ha d hd
   ·rw [List.mem_singleton.1 hd];exact num_ok hv
  | false=>rw [hn,cond_false] at h;cases h
theorem numL_ok {area:Bool}:∀ {l:List Val} {acc acc':List Dec},(∀ v∈l,okW v)→(∀ d∈acc,okd d)→numL area acc l = .inl acc'→∀ d∈acc',okd d
 | [],acc,acc',_,ha,h=>by simp only [numL,bzC] at h;injection h with h;subst h;exact ha
 | v :: l,acc,acc',hv,ha,h=>by
  simp only [numL,bzC] at h;cases hs:dzk area acc v with
  | inl a =>
   rw [hs] at h;exact numL_ok (l:=l) (fun v hv'=>hv v (List.mem_cons_of_mem _ hv')) (xzi (hv v (List.mem_cons_self ..)) ha hs) h
  | inr y =>
   rw [hs] at h;have h:y = .inl acc':=h;subst h;unfold dzk at hs;cases h1:mzR area v<;>cases h2:(numR v).2.2<;>simp [h1,h2] at hs
theorem numA_ok:∀ {l:List Arg} {acc acc':List Dec},(∀ a∈l,∀ v∈a.L,okW v)→(∀ d∈acc,okd d)→numA acc l = .inl acc'→∀ d∈acc',okd d
 | [],acc,acc',_,ha,h=>by simp only [numA,bzC] at h;injection h with h;subst h;exact ha
 | a :: l,acc,acc',hv,ha,h=>by
  simp only [numA,bzC] at h;cases hs:numL a.Area acc a.L with
  | inl x =>
   rw [hs] at h;exact numA_ok (l:=l) (fun b hb=>hv b (List.mem_cons_of_mem _ hb)) (numL_ok (hv a (List.mem_cons_self ..)) ha hs) h
  | inr y=>rw [hs] at h;cases h
theorem vzz:∀ {l:List Arg} {acc acc':List Dec},(∀ a∈l,a.L.length≤5000)→numA acc l = .inl acc'→acc'.length≤acc.length+5000*l.length
 | [],acc,acc',_,h=>by simp only [numA,bzC] at h;injection h with h;subst h;simp
 | a :: l,acc,acc',hv,h=>by
  simp only [numA,bzC] at h;cases hs:numL a.Area acc a.L with
  | inl x =>
   rw [hs] at h;have:=vzz (l:=l) (fun b hb=>hv b (List.mem_cons_of_mem _ hb)) h;have:=rzp hs;have:=hv a (List.mem_cons_self ..);simp only [List.length_cons];omega
  | inr y=>rw [hs] at h;cases h
def minD (m y:Dec):Dec:=if V y < V m then y else m
def maxD (m y:Dec):Dec:=if V m < V y then y else m
theorem cmpV_lt0 (a b:Int):decide (cmpV a b < 0)=decide (a < b):=by
 unfold cmpV;by_cases h:a < b
 ·simp [h]
 ·by_cases h':b < a<;>simp [h,h']
theorem cmpV_gt0 (a b:Int):decide (0 < cmpV a b)=decide (b < a):=by
 unfold cmpV;by_cases h:a < b
 ·have:¬ b < a:=by omega
  simp [h,this]
 ·by_cases h':b < a<;>simp [h,h']
theorem minD_ok {m y:Dec} (hm:okd m) (hy:okd y):okd (minD m y):=by unfold minD;split<;>assumption
theorem maxD_ok {m y:Dec} (hm:okd m) (hy:okd y):okd (maxD m y):=by unfold maxD;split<;>assumption
theorem min_is {x:Dec} {xs:List Dec} (hx:okd x) (hl:xs.length≤1000000) (h:∀ d∈xs,okd d):az3 (x :: xs,())=some (xs.foldl minD x):=by
 have:=bz3 (F:=azI) (fun s i=>(x :: xs,(),s,((i+1:Nat):Int))) (fun s:Dec=>((),s)) xs (fun s y=>.inl (minD s y)) id (fun s _=>okd s) (by omega)
  (fun back s i hi hs=>by
   have hy:=h _ (List.getElem_mem hi);have hi':i+1 < (x :: xs).length:=by simpa using hi
   unfold azI;simp only;rw [ltT hi',azc,idxG hi',aza,List.getElem_cons_succ,(cmp_eq hy hs).1,aza,aza,wr1 (by omega),cmpV_lt0];simp only [jzc,minD];by_cases c:V xs[i] < V s
   ·rw [decide_eq_true c,if_pos c];rfl
   ·rw [decide_eq_false c,if_neg c];rfl)
  (fun s i hi s' hs hst=>by
   injection hst with hst;subst hst;exact minD_ok hs (h _ (List.getElem_mem hi)))
  (fun back s hs=>by
   unfold azI;simp only;rw [show ((xs.length+1:Nat):Int)=((x :: xs).length:Int) by simp,ltF,azb];rfl) x hx
 rw [czI] at this;have this:bzc (x :: xs,(),x,1)=some ((),xs.foldl minD x):=this;unfold az3;simp only;rw [decide_eq_false (by simp;omega),azb,idxZ,aza,this];rfl
theorem max_is {x:Dec} {xs:List Dec} (hx:okd x) (hl:xs.length≤1000000) (h:∀ d∈xs,okd d):azO (x :: xs,())=some (xs.foldl maxD x):=by
 have:=bz3 (F:=azH) (fun s i=>(x :: xs,(),s,((i+1:Nat):Int))) (fun s:Dec=>((),s)) xs (fun s y=>.inl (maxD s y)) id (fun s _=>okd s) (by omega)
  (fun back s i hi hs=>by
   have hy:=h _ (List.getElem_mem hi);have hi':i+1 < (x :: xs).length:=by simpa using hi
   unfold azH;simp only;rw [ltT hi',azc,idxG hi',aza,List.getElem_cons_succ,(cmp_eq hy hs).1,aza,aza,wr1 (by omega),cmpV_gt0];simp only [jzc,maxD];by_cases c:V s < V xs[i]
   ·rw [decide_eq_true c,if_pos c];rfl
   ·rw [decide_eq_false c,if_neg c];rfl)
  (fun s i hi s' hs hst=>by
   injection hst with hst;subst hst;exact maxD_ok hs (h _ (List.getElem_mem hi)))
  (fun back s hs=>by
   unfold azH;simp only;rw [show ((xs.length+1:Nat):Int)=((x :: xs).length:Int) by simp,ltF,azb];rfl) x hx
 rw [czI] at this;have this:bzb (x :: xs,(),x,1)=some ((),xs.foldl maxD x):=this;unfold azO;simp only;rw [decide_eq_false (by simp;omega),azb,idxZ,aza,this];rfl
def addR (t d:Dec):Dec×Int:=decV (V t+V d) 9
def gzF (t d:Dec):Dec⊕(Dec×Int):=if (addR t d).2=0 then .inl (addR t d).1 else .inr (⟨0,0⟩,(addR t d).2)
def sumD (t:Dec) (l:List Dec):Dec×Int:=bzC gzF (fun t=>(t,0)) t l
theorem addR_ok (t d:Dec):okR (addR t d):=qzH _ (by omega)
theorem sz3 {t d t':Dec} (h:gzF t d = .inl t'):okd t':=by
 unfold gzF at h;by_cases c:(addR t d).2=0
 ·rw [if_pos c] at h;injection h with h;subst h;exact (addR_ok t d).1 c
 ·rw [if_neg c] at h;cases h
theorem sumD_ok:∀ {l:List Dec} {t:Dec},okd t→okR (sumD t l)
 | [],t,h=>⟨fun _=>h,fun e=>absurd rfl e⟩
 | d :: l,t,h=>by
  unfold sumD;simp only [bzC];cases hs:gzF t d with
  | inl t'=>exact sumD_ok (l:=l) (sz3 hs)
  | inr y =>
   unfold gzF at hs;by_cases c:(addR t d).2=0
   ·rw [if_pos c] at hs;cases hs
   ·rw [if_neg c] at hs;injection hs with hs;subst hs;exact ⟨fun e=>absurd e c,fun _=>rfl⟩
def sz2 (r:Dec×Int):((Unit)×(Val×Dec))⊕((Unit)×(Val×Dec)):=if r.2=0 then .inl ((),v0,r.1) else .inr ((),numV r,r.1)
theorem many_l5 {l:List Dec} (hl:l.length≤1000000) (h:∀ d∈l,okd d):jzM (v0,⟨0,0⟩,l,(l.length:Int),0)=some (sz2 (sumD ⟨0,0⟩ l)):=by
 refine bz3 (F:=fzv) (fun s i=>(v0,s,l,(l.length:Int),(i:Int))) sz2 l gzF (fun t=>(t,0)) (fun s _=>okd s) (by omega) ?_ ?_ ?_ ⟨0,0⟩ okd0
 ·intro back s i hi hs;have hy:=h _ (List.getElem_mem hi);obtain ⟨r,h1,_,hr,h3⟩:=add_eq hs hy;unfold fzv;simp only;rw [ltT hi,azc,idxG hi,aza,h1,aza,wr1 (by omega),jzv,aza];unfold gzF addR;rw [← h3];by_cases c:r.2=0
  ·rw [decide_eq_true c,if_pos c];rfl
  ·rw [decide_eq_false c,if_neg c];obtain ⟨d,e⟩:=r;have:=hr.2 c;simp only at this c;subst this;simp only [jzc,sz2,if_neg c];rfl
 ·intro s i hi s' hs hst;exact sz3 hst
 ·intro back s hs;unfold fzv;simp only;rw [ltF,azb];rfl
end Go.Proofs.YtdgpkbnnljblmaaGreatDoor

/- Y4 -/
namespace Go.Proofs.YtdgpkbnnljblmaaGreatDoor
open Go Go.Ev Go.Lib
theorem good_of {a:List UInt8} (ha:a≠[]) (h:validD a=true):good a∧validD (a.drop (decodeL a).2)=true:=by
 rw [validD_step a ha] at h;unfold good;by_cases c:(decodeL a).1=65533∧(decodeL a).2=1
 ·rw [if_pos c] at h;cases h
 ·rw [if_neg c] at h;exact ⟨c,h⟩
end Go.Proofs.YtdgpkbnnljblmaaGreatDoor

/- Y5 -/
namespace Go.Proofs.YtdgpkbnnljblmaaGreatDoor
open Go Go.Ev Go.Lib
end Go.Proofs.YtdgpkbnnljblmaaGreatDoor

/- Y6 -/
namespace Go.Proofs.YtdgpkbnnljblmaaGreatDoor
open Go Go.Ev Go.Lib
def fnT:List Function:=(jzK ()).getD []
theorem allT_is:jzK ()=some fnT:=rfl
theorem fnT_len:fnT.length=30:=by decide +kernel
def core (k:Int) (l:List Arg):Option Val :=
 obnd (gzk (k,l,v0,k)) fun y =>
  osum y
   (fun y =>
    obnd (fz9 l) fun y_2 =>
     brn (!y_2) (some (vE 15))
      (obnd (izO ([],l,(l.length:Int),0)) fun y_3 =>
       obnd (izN (k,y.2,y_3,k)) fun y=>osum y (fun _=>obnd (lzd (k,y_3)) fun y=>some y) fun y=>some y.2))
   fun y=>some y.2
def arLo (k:Nat):Int:=((fnT[k]?).map (·.lo)).getD 0
def arHi (k:Nat):Int:=((fnT[k]?).map (·.hi)).getD 0
theorem apply_is {k:Nat} (hk:k < 30) (l:List Arg):dzc ((k:Int),l) =
 brn (decide ((l.length:Int) < arLo k)) (some (vE 15)) (brn (decide (arHi k < (l.length:Int))) (some (vE 15)) (core k l)):=by
 have h1:k < fnT.length:=by rw [fnT_len];exact hk
 unfold dzc arLo arHi;rw [allT_is,aza,decide_eq_false (show ¬ (k:Int) < 0 by omega),azb,decide_eq_false (show ¬ (fnT.length:Int)≤(k:Int) by rw [fnT_len];omega),azb,idxG h1,List.getElem?_eq_getElem h1];simp only [vzd,aza];rfl
theorem apply_ok {k:Nat} (hk:k < 30) {l:List Arg} (h1:arLo k≤l.length) (h2:(l.length:Int)≤arHi k):dzc ((k:Int),l)=core k l:=by
 rw [apply_is hk,decide_eq_false (by omega),azb,decide_eq_false (by omega),azb]
theorem core_many {k:Int} {l:List Arg} (h:k=0∨k=1∨k=2∨k=3∨k=4∨k=11∨k=12∨k=18):core k l=bzz (k,l):=by
 unfold core gzk bzQ;rcases h with rfl | rfl | rfl | rfl | rfl | rfl | rfl | rfl
 ·cases bzz (0,l)<;>simp [osum]
 ·cases bzz (1,l)<;>simp [osum]
 ·cases bzz (2,l)<;>simp [osum]
 ·cases bzz (3,l)<;>simp [osum]
 ·cases bzz (4,l)<;>simp [osum]
 ·cases bzz (11,l)<;>simp [osum]
 ·cases bzz (12,l)<;>simp [osum]
 ·cases bzz (18,l)<;>simp [osum]
end Go.Proofs.YtdgpkbnnljblmaaGreatDoor

/- Y7 -/
namespace Go.Proofs.YtdgpkbnnljblmaaGreatDoor
open Go Go.Ev Go.Lib
end Go.Proofs.YtdgpkbnnljblmaaGreatDoor

/- Y8 -/
namespace Go.Proofs.YtdgpkbnnljblmaaGreatDoor
open Go Go.Ev Go.Lib
def one (v:Val):Arg:=⟨false,[v]⟩
theorem okW_N {d:Dec} (h:okd d):okW (vN d):=⟨.inr (.inl ⟨d,rfl,h.1⟩),by simp [vN],h.2⟩
theorem num_vN (d:Dec):numR (vN d)=(d,v0,true):=rfl
end Go.Proofs.YtdgpkbnnljblmaaGreatDoor

/- Y9 -/
namespace Go.Proofs.YtdgpkbnnljblmaaGreatDoor
open Go Go.Ev Go.Lib
def divR (a b:Dec):Dec×Int:=(czW (a,b)).getD (⟨0,0⟩,0)
theorem divR_eq {a b:Dec} (ha:okd a) (hb:okd b):czW (a,b)=some (divR a b)∧fzA (a,b)=some (divR a b):=by
 obtain ⟨r,h1,h2,_⟩:=div_eq ha hb;unfold divR;rw [h1];exact ⟨rfl,h2⟩
def mzy (op:Int) (l:List Dec):Val :=
 if op=1 then (match l with | []=>vN ⟨0,0⟩ | x :: xs=>vN (xs.foldl minD x))
 else if op=2 then (match l with | []=>vN ⟨0,0⟩ | x :: xs=>vN (xs.foldl maxD x))
 else if (sumD ⟨0,0⟩ l).2=0 then (if op=0 then vN (sumD ⟨0,0⟩ l).1 else numV (divR (sumD ⟨0,0⟩ l).1 ⟨l.length,0⟩)) else numV (sumD ⟨0,0⟩ l)
theorem xzf {l:List Arg} (h:okA l) (hb:l.any badA=false):bzz (3,l)=some (vN ⟨(cntA 0 l:Nat),0⟩):=by
 unfold bzz fzu;simp only;rw [mz1 (by have:=h.1;omega),hb,aza,azb,wzI h];simp only [decide_true,azc,aza];rw [int_is];rfl
theorem b4_one {x:List Dec} (hx:∀ d∈x,okd d) (hl:x.length≤1000000):czJ (1,v0,x)=some (.inr ((),mzy 1 x)):=by
 unfold czJ mzy;simp only [decide_true,azc,if_true];cases x with
 | nil=>rfl
 | cons d xs =>
  rw [decide_eq_true (show 0 < ((d :: xs).length:Int) by simp only [List.length_cons];omega),azc,min_is (hx d (by simp)) (by simp only [List.length_cons] at hl;omega) (fun e he=>hx e (by simp [he])),aza,jzv];rfl
theorem b4_two {x:List Dec} (hx:∀ d∈x,okd d) (hl:x.length≤1000000):czJ (2,v0,x)=some (.inr ((),mzy 2 x)):=by
 unfold czJ mzy;simp only;rw [show decide ((2:Int)=1)=false from rfl,azb,if_neg (by decide)];simp only [decide_true,azc,if_true];cases x with
 | nil=>rfl
 | cons d xs =>
  rw [decide_eq_true (show 0 < ((d :: xs).length:Int) by simp only [List.length_cons];omega),azc,max_is (hx d (by simp)) (by simp only [List.length_cons] at hl;omega) (fun e he=>hx e (by simp [he])),aza,jzv];rfl
theorem many_num {op:Int} {l:List Arg} (hop:op=0∨op=1∨op=2∨op=4) (h:okA l) (hb:l.any badA=false) :
 bzz (op,l)=some (match numA [] l with | .inl x=>mzy op x | .inr v=>v):=by
 have hb1:fzu (op,l,v0,op)=some (.inl ((),v0)):=by
  unfold fzu;rcases hop with rfl | rfl | rfl | rfl<;>rfl
 unfold bzz;simp only;rw [mz1 (by have:=h.1;omega),hb,aza,azb,show (⟨0,⟨0,0⟩,[],false,0⟩:Val)=v0 from rfl,hb1,xzj h];simp only [aza,osum];cases hn:numA [] l with
 | inr v=>rfl
 | inl x =>
  have hx:=numA_ok (fun a ha=>(h.2 a ha).2) (by simp) hn;have hl:=vzz (fun a ha=>(h.2 a ha).1) hn;have h40:=h.1;simp only [List.length_nil] at hl;simp only [Bool.not_true,azb];rcases (show op=1∨op=2∨(op=0∨op=4) by omega) with rfl | rfl | ho
  ·rw [b4_one hx (by omega)];rfl
  ·rw [b4_two hx (by omega)];rfl
  ·have hb4:czJ (op,v0,x)=some (.inl ((),v0)):=by
    unfold czJ;rcases ho with rfl | rfl<;>rfl
   rw [hb4,show bzA 0=some ⟨0,0⟩ from rfl];simp only [aza];rw [many_l5 (by omega) hx,aza];unfold sz2 mzy;rw [if_neg (show ¬ op=1 by omega),if_neg (show ¬ op=2 by omega)];by_cases hs:(sumD ⟨0,0⟩ x).2=0
   ·rw [if_pos hs,if_pos hs];simp only;by_cases h0:op=0
    ·rw [decide_eq_true h0,azc,if_pos h0,jzv];rfl
    ·have so:=(sumD_ok (l:=x) okd0).1 hs;rw [decide_eq_false h0,azb,if_neg h0,show bzA (x.length:Int)=some ⟨x.length,0⟩ from rfl,aza,(divR_eq so (okdI (by unfold I64;omega))).1,aza,jzv,aza]
   ·rw [if_neg hs,if_neg hs]
theorem rzC {k:Nat} {l:List Arg} (hl:l.length≤1000) (h:k=0∨k=1∨k=2∨k=3∨k=4∨k=11∨k=12∨k=18):dzc ((k:Int),l)=bzz ((k:Int),l):=by
 have ha:arLo k=0∧arHi k=9223372036854775807:=by
  rcases h with rfl | rfl | rfl | rfl | rfl | rfl | rfl | rfl<;>decide +kernel
 rw [apply_ok (by omega) (by rw [ha.1];omega) (by rw [ha.2];omega),core_many (by omega)]
end Go.Proofs.YtdgpkbnnljblmaaGreatDoor

/- PB -/
namespace Go.Proofs.YtdgpkbnnljblmaaGreatDoor
open Go Go.Ev Go.Lib
theorem mod_is {x m:Int} (h0:0≤x) (h1:x < m) (hm:m≤1000000):fzB (x,m)=some x:=by
 unfold fzB;simp only;rw [decide_eq_false (by omega),azb,azb,Int.tmod_eq_of_lt h0 h1,azw (by omega) (by omega)];rw [Int.tmod_eq_emod_of_nonneg (by omega),Int.add_emod_right,Int.emod_eq_of_lt h0 h1]
theorem at_fix {r c:Int} {b:Cell} (h0:0≤r) (h1:r < 65536) (h2:0≤c) (h3:c < 256):iza (⟨r,c,false,false⟩,b)=some ⟨r,c⟩:=by
 unfold iza;simp only;rw [mod_is h0 h1 (by omega),aza,mod_is h2 h3 (by omega),aza,azb,azb]
def ezZ (x y:Cell) (r:Int):List Cell:=(List.range (y.Col - x.Col+1).toNat).map fun (j:Nat)=>(⟨r,x.Col+(j:Int)⟩:Cell)
def cellsOf (x y:Cell):List Cell:=(List.range (y.Row - x.Row+1).toNat).flatMap fun (i:Nat)=>ezZ x y (x.Row+(i:Int))
theorem cells_l2 {x y:Cell} {r:Int} {acc:List Cell} (h0:0≤x.Col) (h1:y.Col < 256) (ha:acc.length≤100000000):gzo (y,acc,r,x.Col)=some (acc++ezZ x y r):=by
 have this:gzo (y,acc,r,x.Col+((0:Nat):Int))=some (id (bzC (fun (s:List Cell) (j:Nat)=>(.inl (s++[(⟨r,x.Col+(j:Int)⟩:Cell)]):List Cell⊕List Cell)) id acc (List.range (y.Col - x.Col+1).toNat))) :=
  bz3 (F:=ez7) (fun (s:List Cell) (i:Nat)=>(y,s,r,x.Col+(i:Int))) id (List.range (y.Col - x.Col+1).toNat) (fun s j=>.inl (s++[(⟨r,x.Col+(j:Int)⟩:Cell)])) id (fun s i=>s.length=acc.length+i) (by rw [List.length_range];omega)
  (fun back s i hi hs=>by
   have hi':=hi;rw [List.length_range] at hi';unfold ez7;simp only;rw [decide_eq_true (by omega),azc,appN (by simp only [List.length_singleton];omega),aza,List.getElem_range,azw (by omega) (by omega)];simp only [jzc];rw [show x.Col+(i:Int)+1=x.Col+((i+1:Nat):Int) by omega])
  (fun s i hi s' hs e=>by cases e;simp only [List.length_append,List.length_singleton];omega)
  (fun back s hs=>by
   unfold ez7;simp only;rw [List.length_range,decide_eq_false (by omega),azb];rfl) acc rfl
 rw [czI,show x.Col+((0:Nat):Int)=x.Col by omega] at this;rw [this];have:∀ (m:List Nat) (s:List Cell),m.foldl (fun s (j:Nat)=>s++[(⟨r,x.Col+(j:Int)⟩:Cell)]) s=s++m.map fun (j:Nat)=>(⟨r,x.Col+(j:Int)⟩:Cell):=by
  intro m;induction m with
  | nil=>intro s;simp
  | cons v m ih=>intro s;rw [List.foldl_cons,ih];simp
 rw [id,id,this];rfl
theorem cells_l1 {x y:Cell} (h0:0≤x.Col) (h1:y.Col < 256) (h2:0≤x.Row) (h3:y.Row < 65536):gzn (x,y,[],x.Row)=some (cellsOf x y):=by
 have hrow:∀ r,(ezZ x y r).length≤300:=fun r=>by unfold ezZ;rw [List.length_map,List.length_range];omega
 have this:gzn (x,y,[],x.Row+((0:Nat):Int))=some (id (bzC (fun (s:List Cell) (i:Nat)=>(.inl (s++ezZ x y (x.Row+(i:Int))):List Cell⊕List Cell)) id [] (List.range (y.Row - x.Row+1).toNat))) :=
  bz3 (F:=ez6) (fun (s:List Cell) (i:Nat)=>(x,y,s,x.Row+(i:Int))) id (List.range (y.Row - x.Row+1).toNat) (fun s i=>.inl (s++ezZ x y (x.Row+(i:Int)))) id (fun s i=>s.length≤300*i) (by rw [List.length_range];omega)
  (fun back s i hi hs=>by
   have hi':=hi;rw [List.length_range] at hi';have hrr:x.Row+(i:Int)≤y.Row:=by omega
   unfold ez6;simp only;rw [decide_eq_true hrr,azc];have hs':s.length≤300*i:=hs;rw [cells_l2 h0 h1 (by omega),aza,List.getElem_range,azw (by omega) (by omega)];simp only [jzc];rw [show x.Row+(i:Int)+1=x.Row+((i+1:Nat):Int) by omega])
  (fun s i hi s' hs e=>by
   cases e;have:=hrow (x.Row+(((List.range (y.Row - x.Row+1).toNat)[i]:Nat):Int));have hs':s.length≤300*i:=hs
   show (s++_).length≤300*(i+1)
   rw [List.length_append];omega)
  (fun back s hs=>by
   unfold ez6;simp only;rw [List.length_range,decide_eq_false (by omega),azb];rfl) [] (Nat.zero_le _)
 rw [czI,show x.Row+((0:Nat):Int)=x.Row by omega] at this;rw [this];have:∀ (m:List Nat) (s:List Cell),m.foldl (fun s (i:Nat)=>s++ezZ x y (x.Row+(i:Int))) s=s++m.flatMap fun (i:Nat)=>ezZ x y (x.Row+(i:Int)):=by
  intro m;induction m with
  | nil=>intro s;simp
  | cons v m ih=>intro s;rw [List.foldl_cons,ih];simp
 rw [id,id,this];rfl
def pzs (x y:Cell):Int:=(y.Row - x.Row+1)*(y.Col - x.Col+1)
theorem cells_is {a:Area} {b x y:Cell} (hb:fzg (a,b)=some (x,y)) (h0:0≤x.Col) (h1:y.Col < 256) (h2:0≤x.Row) (h3:y.Row < 65536) (h4:x.Row≤y.Row) (h5:x.Col≤y.Col) :
 hzk (a,b)=some (if 4096 < pzs x y then [] else cellsOf x y):=by
 unfold hzk;rw [hb,aza];simp only;have hm:0≤(y.Row - x.Row+1)*(y.Col - x.Col+1)∧(y.Row - x.Row+1)*(y.Col - x.Col+1)≤65536*256:=by
  refine ⟨Int.mul_nonneg (by omega) (by omega),?_⟩;exact Int.mul_le_mul (by omega) (by omega) (by omega) (by omega)
 rw [azw (n:=y.Row - x.Row) (by omega) (by omega),azw (n:=y.Row - x.Row+1) (by omega) (by omega),azw (n:=y.Col - x.Col) (by omega) (by omega),azw (n:=y.Col - x.Col+1) (by omega) (by omega),azw (by omega) (by omega)];unfold pzs;by_cases h:4096 < (y.Row - x.Row+1)*(y.Col - x.Col+1)
 ·rw [decide_eq_true h,azc,if_pos h]
 ·rw [decide_eq_false h,azb,if_neg h,cells_l1 h0 h1 h2 h3];rfl
theorem area_l2 {w:Worker} {sh:Int} {cs:List Cell} {g:Cell→Val} (hl:cs.length≤1000000) (hg:∀ c∈cs,ezR (w.v,⟨sh,c⟩)=some (g c)) :
 czm ([],sh,w,⟨true,[]⟩,cs,(cs.length:Int),0)=some (cs.map g,⟨true,cs.map g⟩):=by
 have this:czm ([],sh,w,⟨true,[]⟩,cs,(cs.length:Int),((0:Nat):Int))=some ((fun (s:List Val)=>(s,(⟨true,s⟩:Arg))) (bzC (fun (s:List Val) (c:Cell)=>(.inl (s++[g c]):List Val⊕List Val)) id [] cs)) :=
  bz3 (F:=czl) (fun (s:List Val) (i:Nat)=>(s,sh,w,(⟨true,s⟩:Arg),cs,(cs.length:Int),(i:Int))) (fun (s:List Val)=>(s,(⟨true,s⟩:Arg))) cs (fun s c=>.inl (s++[g c])) id (fun s i=>s.length=i) (by omega)
  (fun back s i hi hs=>by
   unfold czl;simp only;rw [ltT hi,azc,idxG hi,aza,hg _ (List.getElem_mem hi),aza,appN (by simp only [List.length_singleton];omega),aza,wr1 (by omega)];rfl)
  (fun s i hi s' hs e=>by cases e;simp [hs])
  (fun back s hs=>by
   unfold czl;simp only;rw [ltF,azb];rfl) [] rfl
 rw [czI] at this;rw [show (0:Int)=((0:Nat):Int) from rfl,this];have:∀ (m:List Cell) (s:List Val),m.foldl (fun s c=>s++[g c]) s=s++m.map g:=by
  intro m;induction m with
  | nil=>intro s;simp
  | cons v m ih=>intro s;rw [List.foldl_cons,ih];simp
 rw [id,this];rfl
theorem wzH {w:Worker} {sh:Int} {a:Area} {wh:Bool} {cs:List Cell} {g:Cell→Val} (hw:w.rows=0) (hc:hzk (a,w.at_.At)=some cs) (hne:cs≠[]) (hl:cs.length≤1000000) (h0:0≤sh) (h1:sh < w.v.Sheets)
 (hg:∀ c∈cs,ezR (w.v,⟨sh,c⟩)=some (g c)):cz4 (w,sh,a,wh)=some ⟨true,cs.map g⟩:=by
 unfold cz4;simp only;have hlen:0 < cs.length:=List.length_pos_iff.2 hne;rw [hc,aza,decide_eq_false (by omega),azb,decide_eq_false (by omega),azb,decide_eq_false (by omega),azb,hw,decide_eq_false (by omega),azb];unfold dzb;simp only [azb,aza,osum];rw [area_l2 hl hg];rfl
theorem args_is {self:Worker×Expr×Bool→Option Arg} {w:Worker} {e:Expr} {kids:List Expr} {wh:Bool} {f:Expr→Arg} (hl:kids.length≤1000000) (hw:ezz e.Op=some wh) (hf:∀ k∈kids,self (w,k,wh)=some (f k)) :
 dzB self (w,e,[],kids,(kids.length:Int),0)=some (kids.map f):=by
 have this:dzB self (w,e,[],kids,(kids.length:Int),((0:Nat):Int))=some (id (bzC (fun (s:List Arg) (k:Expr)=>(.inl (s++[f k]):List Arg⊕List Arg)) id [] kids)) :=
  bz3 (F:=czx self) (fun (s:List Arg) (i:Nat)=>(w,e,s,kids,(kids.length:Int),(i:Int))) id kids (fun s k=>.inl (s++[f k])) id (fun s i=>s.length=i) (by omega)
  (fun back s i hi hs=>by
   unfold czx;simp only;rw [ltT hi,azc,idxG hi,aza,hw,aza,czz,czz,hf _ (List.getElem_mem hi),aza,appN (by simp only [List.length_singleton];omega),aza,wr1 (by omega)];rfl)
  (fun s i hi s' hs e=>by cases e;simp [hs])
  (fun back s hs=>by
   unfold czx;simp only;rw [ltF,azb];rfl) [] rfl
 rw [czI] at this;rw [show (0:Int)=((0:Nat):Int) from rfl,this];have:∀ (m:List Expr) (s:List Arg),m.foldl (fun s c=>s++[f c]) s=s++m.map f:=by
  intro m;induction m with
  | nil=>intro s;simp
  | cons v m ih=>intro s;rw [List.foldl_cons,ih];simp
 rw [id,id,this];rfl
end Go.Proofs.YtdgpkbnnljblmaaGreatDoor

/- E0 -/
namespace Go.Proofs.YtdgpkbnnljblmaaGreatDoor
open Go Go.Ev
set_option linter.unusedVariables false
noncomputable section
def gz7 (x:Unit):Option (Bool) :=
  obnd (gzl ()) fun y =>
    obnd (fzw (0,0,5)) fun y_1 =>
      obnd (czf (0,2,0)) fun y_2 =>
        obnd (ezj (0,[bzf y_2])) fun y_3 =>
          obnd (czf (0,2,0)) fun y_4 =>
            obnd (szw 10) fun y_5 =>
              obnd (jzk (3,bzf y_4,bzf y_5)) fun y_6 =>
                obnd (izm (bzf y_6,y,y_1,3,1)) fun y_7 =>
                  obnd (izm (bzf y_3,y,y_1,2,1)) fun y_8 =>
                    brn (!decide ((↑(List.length y_7):Int)=3)) (some false)
                      (brn (!decide ((↑(List.length y_8):Int)=2)) (some false)
                        (obnd (bzB (bzf y_3,y,y_1)) fun y_9 =>
                          obnd (czq 6) fun y_10 =>
                            brn
                              (bif false then
                                !(decide (y_9.Kind = y_10.Kind) &&
                                    (decide (y_9.N.M=y_10.N.M) &&
                                      (decide (y_9.N.S=y_10.N.S)&&(decide (y_9.S=y_10.S)&&(decide (y_9.B=y_10.B)&&decide (y_9.E=y_10.E))))))
                              else
                                decide (y_9.Kind=y_10.Kind) &&
                                  (decide (y_9.N.M=y_10.N.M)&&(decide (y_9.N.S=y_10.N.S)&&(decide (y_9.S=y_10.S)&&(decide (y_9.B=y_10.B)&&decide (y_9.E=y_10.E))))))
                              (obnd (bzB (bzf y_6,y,y_1)) fun y_11 =>
                                obnd (azm 15) fun y_12 =>
                                  brn
                                    (bif false then
                                      !(decide (y_11.Kind = y_12.Kind) &&
                                          (decide (y_11.N.M=y_12.N.M) &&
                                            (decide (y_11.N.S=y_12.N.S)&&(decide (y_11.S=y_12.S)&&(decide (y_11.B=y_12.B)&&decide (y_11.E=y_12.E))))))
                                    else
                                      decide (y_11.Kind=y_12.Kind) &&
                                        (decide (y_11.N.M=y_12.N.M) &&
                                          (decide (y_11.N.S=y_12.N.S)&&(decide (y_11.S=y_12.S)&&(decide (y_11.B=y_12.B)&&decide (y_11.E=y_12.E))))))
                                    (obnd (uzc (7,7)) fun y_13 =>
                                      obnd (bzB (bzf y_13,y,y_1)) fun y_14 =>
                                        obnd (czq 0) fun y_15 =>
                                          brn
                                            (bif false then
                                              !(decide (y_14.Kind = y_15.Kind) &&
                                                  (decide (y_14.N.M=y_15.N.M) &&
                                                    (decide (y_14.N.S=y_15.N.S)&&(decide (y_14.S=y_15.S)&&(decide (y_14.B=y_15.B)&&decide (y_14.E=y_15.E))))))
                                            else
                                              decide (y_14.Kind=y_15.Kind) &&
                                                (decide (y_14.N.M=y_15.N.M) &&
                                                  (decide (y_14.N.S=y_15.N.S)&&(decide (y_14.S=y_15.S)&&(decide (y_14.B=y_15.B)&&decide (y_14.E=y_15.E))))))
                                            (obnd
                                              (bzB
                                                ({ Kind := 6, V := { Kind := 0, N := { M := 0, S := 0 }, S := [], B := false, E := 0 },
                                                    A :=
                                                      { A := { Row := 0, Col := 0, RelRow := false, RelCol := false },
                                                        B := { Row := 0, Col := 0, RelRow := false, RelCol := false } },
                                                    Sheet := 0, Op := 0, Kids := [] },
                                                  y,y_1))
                                              fun y_16 =>
                                              obnd (azm 29) fun y_17 =>
                                                brn
                                                  (bif false then
                                                    !(decide (y_16.Kind = y_17.Kind) &&
                                                        (decide (y_16.N.M=y_17.N.M) &&
                                                          (decide (y_16.N.S=y_17.N.S)&&(decide (y_16.S=y_17.S)&&(decide (y_16.B=y_17.B)&&decide (y_16.E=y_17.E))))))
                                                  else
                                                    decide (y_16.Kind=y_17.Kind) &&
                                                      (decide (y_16.N.M=y_17.N.M) &&
                                                        (decide (y_16.N.S=y_17.N.S)&&(decide (y_16.S=y_17.S)&&(decide (y_16.B=y_17.B)&&decide (y_16.E=y_17.E))))))
                                                  (obnd (idx y_7 2) fun y_18 =>
                                                    obnd (czq 30) fun y_19 =>
                                                      brn
                                                        (bif false then
                                                          !(decide (y_18.Kind = y_19.Kind) &&
                                                              (decide (y_18.N.M=y_19.N.M) &&
                                                                (decide (y_18.N.S=y_19.N.S) &&
                                                                  (decide (y_18.S=y_19.S)&&(decide (y_18.B=y_19.B)&&decide (y_18.E=y_19.E))))))
                                                        else
                                                          decide (y_18.Kind=y_19.Kind) &&
                                                            (decide (y_18.N.M=y_19.N.M) &&
                                                              (decide (y_18.N.S=y_19.N.S)&&(decide (y_18.S=y_19.S)&&(decide (y_18.B=y_19.B)&&decide (y_18.E=y_19.E))))))
                                                        (obnd (idx y_8 0) fun y_20 =>
                                                          obnd (czq 6) fun y_21 =>
                                                            brn
                                                              (bif false then
                                                                !(decide (y_20.Kind = y_21.Kind) &&
                                                                    (decide (y_20.N.M=y_21.N.M) &&
                                                                      (decide (y_20.N.S=y_21.N.S) &&
                                                                        (decide (y_20.S=y_21.S)&&(decide (y_20.B=y_21.B)&&decide (y_20.E=y_21.E))))))
                                                              else
                                                                decide (y_20.Kind=y_21.Kind) &&
                                                                  (decide (y_20.N.M=y_21.N.M) &&
                                                                    (decide (y_20.N.S=y_21.N.S) &&
                                                                      (decide (y_20.S=y_21.S)&&(decide (y_20.B=y_21.B)&&decide (y_20.E=y_21.E))))))
                                                              (obnd (idx y_8 1) fun y_22 =>
                                                                obnd (czq 6) fun y_23 =>
                                                                  brn
                                                                    (bif false then
                                                                      !(decide (y_22.Kind = y_23.Kind) &&
                                                                          (decide (y_22.N.M=y_23.N.M) &&
                                                                            (decide (y_22.N.S=y_23.N.S) &&
                                                                              (decide (y_22.S=y_23.S)&&(decide (y_22.B=y_23.B)&&decide (y_22.E=y_23.E))))))
                                                                    else
                                                                      decide (y_22.Kind=y_23.Kind) &&
                                                                        (decide (y_22.N.M=y_23.N.M) &&
                                                                          (decide (y_22.N.S=y_23.N.S) &&
                                                                            (decide (y_22.S=y_23.S)&&(decide (y_22.B=y_23.B)&&decide (y_22.E=y_23.E))))))
                                                                    (obnd (izm (bzf y_6,y,y_1,0,1)) fun y_24 =>
                                                                      brn (decide ((↑(List.length y_24):Int)=0))
                                                                        (obnd
                                                                          (bzB
                                                                            ({ Kind := 4, V := { Kind := 0, N := { M := 0, S := 0 }, S := [], B := false, E := 0 },
                                                                                A :=
                                                                                  { A := { Row := 0, Col := 0, RelRow := false, RelCol := false },
                                                                                    B := { Row := 0, Col := 0, RelRow := false, RelCol := false } },
                                                                                Sheet := 2, Op := 0, Kids := [] },
                                                                              y,y_1))
                                                                          fun y =>
                                                                          obnd (azm 23) fun y_25 =>
                                                                            some
                                                                              (match decide (y.Kind=y_25.Kind) with
                                                                              | false=>false
                                                                              | true =>
                                                                                decide (y.N.M=y_25.N.M) &&
                                                                                  (decide (y.N.S=y_25.N.S) &&
                                                                                    (decide (y.S=y_25.S)&&(decide (y.B=y_25.B)&&decide (y.E=y_25.E))))))
                                                                        (some false))
                                                                    (some false))
                                                              (some false))
                                                        (some false))
                                                  (some false))
                                            (some false))
                                    (some false))
                              (some false)))
def ozK:FSpec tb:=⟨[],[(0,.val 4)],gz7⟩
theorem pzS:aze Tryz.prog tb 42 ozK:=azt mixed Tryz.func42 (by kernel_rfl) (.cons ozJ (.cons izQ (.cons jzW (.cons jzV (.cons szx (.cons kzJ (.cons qzW (.cons kzy (.cons gz8 (.cons azB (.cons tzJ .nil))))))))))) rfl (fun x=>by kernel_rfl)
end
end Go.Proofs.YtdgpkbnnljblmaaGreatDoor

/- KA -/
namespace Go.Proofs.YtdgpkbnnljblmaaGreatDoor
open Go Go.Ev
set_option linter.unusedVariables false
noncomputable section
end
end Go.Proofs.YtdgpkbnnljblmaaGreatDoor

/- PD -/
namespace Go.Proofs.YtdgpkbnnljblmaaGreatDoor
open Go Go.Ev Go.Lib
def colE:Env:=⟨2,[⟨⟨0,⟨0,0⟩⟩,vN ⟨1,0⟩⟩,⟨⟨0,⟨1,0⟩⟩,vN ⟨2,0⟩⟩,⟨⟨0,⟨2,0⟩⟩,vN ⟨3,0⟩⟩],[]⟩
theorem column_is:gzl ()=some colE:=by
 have this:gzx (⟨2,[],[]⟩,((0:Nat):Int))=some ((fun e:Env=>((),e)) _):=bz3 (F:=dzs) (fun (e:Env) (i:Nat)=>(e,(i:Int))) (fun e=>((),e)) [0,1,2] (fun (e:Env) (i:Nat)=>.inl { e with Slots:=e.Slots++[⟨⟨0,⟨(i:Int),0⟩⟩,vN ⟨(i:Int)+1,0⟩⟩] }) id
  (fun e i=>e.Slots.length≤i∧∀ s∈e.Slots,s.P.Sheet=0∧s.P.At.Row < (i:Int)) (by simp)
  (fun back e i hi hp=>by
   have hi':i < 3:=by simpa using hi
   have hg:([0,1,2]:List Nat)[i]=i:=by
    match i,hi' with
    | 0,_=>rfl
    | 1,_=>rfl
    | 2,_=>rfl
   unfold dzs;simp only;rw [decide_eq_true (by omega),azc,show fzw (0,(i:Int),0)=some ⟨0,⟨(i:Int),0⟩⟩ from rfl,aza,wr1 (by omega),show czq ((i+1:Nat):Int)=some (vN ⟨((i+1:Nat):Int),0⟩) from rfl,aza,
    put_end (by omega) (fun s hs=>by
     obtain ⟨h1,h2⟩:=hp.2 s hs;unfold ltP;simp [h1,h2]) (show (1:Int)≠0 by decide),aza,hg]
   simp [jzc])
  (fun e i hi e' hp h=>by
   have hi':i < 3:=by simpa using hi
   have hg:([0,1,2]:List Nat)[i]=i:=by
    match i,hi' with
    | 0,_=>rfl
    | 1,_=>rfl
    | 2,_=>rfl
   rw [hg] at h;cases h;refine ⟨by simp only [List.length_append,List.length_singleton];omega,fun s hs=>?_⟩;rcases List.mem_append.1 hs with hs | hs
   ·obtain ⟨h1,h2⟩:=hp.2 s hs;exact ⟨h1,by omega⟩
   ·rw [List.mem_singleton] at hs;subst hs;exact ⟨rfl,by simp only;omega⟩)
  (fun back e _=>by
   unfold dzs;simp only;rw [decide_eq_false (by simp),azb];rfl) ⟨2,[],[]⟩ ⟨by simp,by simp⟩
 unfold gzl;rw [show (0:Int)=((0:Nat):Int) from rfl,this];rfl
theorem xzb:gz7 ()=some true:=by
 unfold gz7;rw [column_is,aza];kernel_rfl
end Go.Proofs.YtdgpkbnnljblmaaGreatDoor

/- KB -/
namespace Go.Proofs.YtdgpkbnnljblmaaGreatDoor
open Go Go.Ev
set_option linter.unusedVariables false
noncomputable section
abbrev szy:List (Nat×FSpec tb):=[(42,ozK),(51,rzn),(26,tzK),(50,qzQ),(53,qzg),(52,qzf),(54,szv),(44,rz1)]
theorem izC:azz Tryz.prog tb (szy):=(.cons pzS (.cons izQ (.cons gz8 (.cons mz8 (.cons jzW (.cons jzV (.cons kzJ (.cons kzy .nil))))))))
def czL (back:List Int×Env×Int×Int→Option ((Int)×Env)) (x:List Int×Env×Int×Int):Option ((Int)×Env) :=
 brn (decide (x.2.2.snd < (↑x.fst.length:Int)))
  (obnd (fzw (0,x.2.2.snd,2)) fun y =>
   obnd (idx x.fst x.2.2.snd) fun y_1 =>
    obnd (czq (IntKind.i64.wrap y_1)) fun y_2 =>
     obnd (hzQ (x.2.fst,y,y_2)) fun y =>
      obnd (idx x.fst x.2.2.snd) fun y_3=>back (x.fst,y,IntKind.i64.wrap (x.2.2.fst+IntKind.i64.wrap y_3),IntKind.i64.wrap (x.2.2.snd+1)))
  (some (x.2.2.fst,x.2.fst))
def dz3:List Int×Env×Int×Int→Option ((Int)×Env):=iter czL big
def izD:CutSpec tb:=⟨76,[(0,.val 111),(5,.ref 100),(6,.val 2),(7,.val 3)],[((.exit 0),[(6,.val 2)])],[24,25,26,27,30,31,32,33,34,35,36,37,38,39,40,41,42,43,44,45,46,6,28,29,7],dz3⟩
theorem mzE:azl ([]:List (CutSpec tb)) (azk 76 Tryz.f13)=[]:=by kernel_rfl
theorem lzZ:azo Tryz.prog tb Tryz.f13.ntmps (.loop (azk 76 Tryz.f13)) (izD):=azJ mixed (by kernel_rfl) izC rfl mzE .nil czL (fun back x=>by kernel_rfl) rfl
def gz6 (x:List Int×UInt8):Option (Bool) :=
 obnd (gz7 ()) fun y =>
  brn (!y) (some false)
   (brn (decide ((↑x.fst.length:Int) < 2)) (some true)
    (brn (decide (60 < (↑x.fst.length:Int))) (some true)
     (obnd (dz3 (x.fst,{ Sheets:=1,Slots:=[],Names:=[] },0,0)) fun y =>
      brn (decide (IntKind.i64.wrap ((↑x.fst.length:Int) - 1)=0)) none
       (obnd (fzw (0,99,9)) fun y_1 =>
        obnd (czf (0,IntKind.i64.wrap ((↑x.fst.length:Int) - 1),2)) fun y_2 =>
         obnd (ezj (0,[bzf y_2])) fun y_3 =>
          obnd
           (czf (0,IntKind.i64.wrap (IntKind.i64.wrap (1+(IntKind.i64.wrap (↑x.snd.toNat:Int)).tmod (IntKind.i64.wrap ((↑x.fst.length:Int) - 1))) - 1),2))
           fun y_4 =>
           obnd (ezj (0,[bzf y_4])) fun y_5 =>
            obnd
             (czf
              (IntKind.i64.wrap (1+(IntKind.i64.wrap (↑x.snd.toNat:Int)).tmod (IntKind.i64.wrap ((↑x.fst.length:Int) - 1))),
               IntKind.i64.wrap ((↑x.fst.length:Int) - 1),2))
             fun y_6 =>
             obnd (ezj (0,[bzf y_6])) fun y_7 =>
              obnd (jzk (1,bzf y_5,bzf y_7)) fun y_8 =>
               obnd (czf (IntKind.i64.wrap ((↑x.fst.length:Int)+5),0,2)) fun y_9 =>
                obnd (ezj (3,[bzf y_9])) fun y_10 =>
                 obnd (bzB (bzf y_3,y.2,y_1)) fun y_11 =>
                  obnd (czq y.1) fun y_12 =>
                   brn
                    (bif false then
                     !(decide (y_11.Kind=y_12.Kind) &&
                      (decide (y_11.N.M=y_12.N.M) &&
                       (decide (y_11.N.S=y_12.N.S)&&(decide (y_11.S=y_12.S)&&(decide (y_11.B=y_12.B)&&decide (y_11.E=y_12.E))))))
                    else
                     decide (y_11.Kind=y_12.Kind) &&
                      (decide (y_11.N.M=y_12.N.M) &&
                       (decide (y_11.N.S=y_12.N.S)&&(decide (y_11.S=y_12.S)&&(decide (y_11.B=y_12.B)&&decide (y_11.E=y_12.E))))))
                    (obnd (bzB (bzf y_8,y.2,y_1)) fun y_13 =>
                     obnd (czq y.1) fun y_14 =>
                      brn
                       (bif false then
                        !(decide (y_13.Kind=y_14.Kind) &&
                         (decide (y_13.N.M=y_14.N.M) &&
                          (decide (y_13.N.S=y_14.N.S)&&(decide (y_13.S=y_14.S)&&(decide (y_13.B=y_14.B)&&decide (y_13.E=y_14.E))))))
                       else
                        decide (y_13.Kind=y_14.Kind) &&
                         (decide (y_13.N.M=y_14.N.M) &&
                          (decide (y_13.N.S=y_14.N.S)&&(decide (y_13.S=y_14.S)&&(decide (y_13.B=y_14.B)&&decide (y_13.E=y_14.E))))))
                       (obnd (bzB (bzf y_10,y.2,y_1)) fun y =>
                        obnd (czq (↑x.fst.length:Int)) fun y_15 =>
                         some
                          (match decide (y.Kind=y_15.Kind) with
                          | false=>false
                          | true =>
                           decide (y.N.M=y_15.N.M) &&
                            (decide (y.N.S=y_15.N.S)&&(decide (y.S=y_15.S)&&(decide (y.B=y_15.B)&&decide (y.E=y_15.E))))))
                       (some false))
                    (some false)))))
def kzK:FSpec tb:=⟨[(0,.val 111),(1,.val 5)],[(0,.val 4)],gz6⟩
theorem pzQ:azl ([izD]:List (CutSpec tb)) (azE Tryz.f13)=[(76,.loop (azk 76 Tryz.f13))]:=by kernel_rfl
theorem mzF:aze Tryz.prog tb 13 kzK:=az2 mixed Tryz.func13 (by kernel_rfl) izC rfl pzQ (.cons rfl lzZ rfl .nil) (fun x=>by kernel_rfl)
end
end Go.Proofs.YtdgpkbnnljblmaaGreatDoor

/- PE -/
namespace Go.Proofs.YtdgpkbnnljblmaaGreatDoor
open Go Go.Ev Go.Lib
def dJ (n:Int):Dec:=⟨n,0⟩
def fzc (l:List Int) (k:Nat):List Slot:=(List.range k).map fun (i:Nat)=>(⟨⟨0,⟨(i:Int),2⟩⟩,vN (dJ (l.getD i 0))⟩:Slot)
def envN (l:List Int) (k:Nat):Env:=⟨1,fzc l k,[]⟩
def i16 (n:Int):Prop:=-32768≤n∧n≤32767
theorem xzx (l:List Int) (k:Nat):fzc l (k+1)=fzc l k++[(⟨⟨0,⟨(k:Int),2⟩⟩,vN (dJ (l.getD k 0))⟩:Slot)]:=by
 unfold fzc;rw [List.range_succ,List.map_append];rfl
theorem oz2:∀ {l:List Int},(∀ n∈l,i16 n)→-(l.length:Int)*32768≤l.sum∧l.sum≤(l.length:Int)*32768
 | [],_=>by simp
 | n :: l,h=>by
  have ih:=oz2 fun m hm=>h m (List.mem_cons_of_mem _ hm)
  have:=h n (by simp);unfold i16 at this;rw [List.sum_cons,List.length_cons];omega
theorem sums_l1 {l:List Int} (hl:l.length≤60) (h:∀ n∈l,i16 n):dz3 (l,⟨1,[],[]⟩,0,0)=some (l.sum,envN l l.length):=by
 have hb:∀ k,-2000000≤(l.take k).sum∧(l.take k).sum≤2000000:=fun k=>by
  have h1:=oz2 (l:=l.take k) fun n hn=>h n (List.mem_of_mem_take hn)
  have h2:(l.take k).length≤60:=by rw [List.length_take];omega
  omega
 have this:dz3 (l,envN l 0,(l.take 0).sum,((0:Nat):Int))=some (id (bzC (fun (k:Nat) (_:Int)=>(.inl (k+1):Nat⊕(Int×Env))) (fun k=>((l.take k).sum,envN l k)) 0 l)) :=
  bz3 (F:=czL) (fun (k i:Nat)=>(l,envN l k,(l.take k).sum,(i:Int))) id l (fun k _=>.inl (k+1)) (fun k=>((l.take k).sum,envN l k)) (fun k i=>k=i) (by omega)
  (fun back k i hi hk=>by
   subst hk;have hn:=h _ (List.getElem_mem hi);unfold i16 at hn;have h1:=hb k;have h2:=hb (k+1);have hs:(l.take (k+1)).sum=(l.take k).sum+l[k]:=by rw [List.take_succ_eq_append_getElem hi,List.sum_append];simp
   have hg:l.getD k 0=l[k]:=by rw [List.getD_eq_getElem?_getD,List.getElem?_eq_getElem hi];rfl
   have hp:hzQ (envN l k,⟨0,⟨(k:Int),2⟩⟩,vN (dJ l[k]))=some (envN l (k+1)):=by
    rw [put_end (by unfold envN fzc;simp only [List.length_map,List.length_range];omega) (fun s hs=>by
     unfold envN fzc at hs;obtain ⟨i,hi,rfl⟩:=List.mem_map.1 hs;have:=List.mem_range.1 hi;unfold ltP;simp;omega) (show (1:Int)≠0 by decide)]
    unfold envN;rw [xzx,hg]
   unfold czL;simp only;rw [ltT hi,azc,show fzw (0,(k:Int),2)=some ⟨0,⟨(k:Int),2⟩⟩ from rfl,aza,idxG hi,aza,azw (n:=l[k]) (by omega) (by omega),show czq l[k]=some (vN (dJ l[k])) from rfl,aza,hp,aza,aza,azw (n:=l[k]) (by omega) (by omega),
    azw (n:=(l.take k).sum+l[k]) (by omega) (by omega),wr1 (by omega),← hs]
   rfl)
  (fun k i hi k' hk e=>by cases e;rw [hk])
  (fun back k hk=>by
   subst hk;unfold czL;simp only;rw [ltF,azb];rfl) 0 rfl
 rw [czI] at this;have hf:∀ (m:List Int) (k:Nat),m.foldl (fun k _=>k+1) k=k+m.length:=by
  intro m;induction m with
  | nil=>intro k;rfl
  | cons v m ih=>intro k;rw [List.foldl_cons,ih,List.length_cons];omega
 rw [hf,Nat.zero_add,List.take_length] at this;exact this
def colV (l:List Int) (r:Nat):Val:=if r < l.length then vN (dJ (l.getD r 0)) else v0
theorem get_N {l:List Int} {r:Nat} (hl:l.length≤60) (hr:r < 65536):ezR (envN l l.length,⟨0,⟨(r:Int),2⟩⟩)=some (colV l r):=by
 have hlen:(fzc l l.length).length=l.length:=by unfold fzc;simp
 have hget:∀ i (h:i < (fzc l l.length).length),(fzc l l.length)[i]=⟨⟨0,⟨(i:Int),2⟩⟩,vN (dJ (l.getD i 0))⟩:=fun i h=>by unfold fzc;simp
 unfold ezR nz8 ozX;simp only;rw [decide_eq_true (show (0:Int)≤0 by omega),azc,decide_eq_true (show (0:Int) < (envN l l.length).Sheets from (by decide:(0:Int) < 1)),azc,decide_eq_true (by omega),azc,decide_eq_true (by omega),azc,decide_eq_true (by omega),azc,aza,aza,decide_eq_true (by omega)];simp only [Bool.not_true,azb];rw [show (envN l l.length).Slots=fzc l l.length from rfl,find_at (k:=min r l.length) (by omega) (by omega) (fun i hi hk=>by
  rw [hget i hi];unfold ltP;simp;omega) (fun i hi hk=>by
  rw [hget i hi];unfold ltP;simp;omega),aza]
 simp only;unfold gzV colV;by_cases h:r < l.length
 ·have hm:min r l.length=r:=by omega
  rw [hm,List.getElem?_eq_getElem (by omega),hget r (by omega),if_pos h];simp only;rw [show eqP ⟨0,⟨(r:Int),2⟩⟩ ⟨0,⟨(r:Int),2⟩⟩=true by simp [eqP],azc,idxG (by omega),aza,hget r (by omega)]
 ·have hm:min r l.length=l.length:=by omega
  rw [hm,List.getElem?_eq_none (by omega),if_neg h,azb];rfl
def a0:Area:=⟨⟨0,0,false,false⟩,⟨0,0,false,false⟩⟩
def czU (a b:Nat):Expr:=⟨3,v0,⟨⟨(a:Int),2,false,false⟩,⟨(b:Int),2,false,false⟩⟩,0,0,[]⟩
def czC (op:Int) (l:List Expr):Expr:=⟨9,v0,a0,0,op,l⟩
def binE (op:Int) (a b:Expr):Expr:=⟨8,v0,a0,0,op,[bzf a,bzf b]⟩
theorem span_is (a b:Nat):czf ((a:Int),(b:Int),2)=some (czU a b):=rfl
def wk (l:List Int):Worker:=⟨envN l l.length,⟨0,⟨99,9⟩⟩,0,0,0⟩
theorem vz0 {a b:Nat} {c:Cell} (ha:a < 65536) (hb:b < 65536):fzg ((czU a b).A,c)=some (⟨((min a b:Nat):Int),2⟩,⟨((max a b:Nat):Int),2⟩):=by
 unfold fzg czU;simp only;rw [at_fix (by omega) (by omega) (by omega) (by omega),aza,at_fix (by omega) (by omega) (by omega) (by omega),aza];simp only;rw [decide_eq_false (show ¬ (2:Int) < 2 by omega)];by_cases h:b < a
 ·rw [decide_eq_true (by omega),decide_eq_false (by omega),show min a b=b by omega,show max a b=a by omega];rfl
 ·by_cases h2:a < b
  ·rw [decide_eq_false (by omega),decide_eq_true (by omega),show min a b=a by omega,show max a b=b by omega];rfl
  ·have:a=b:=by omega
   subst this;rw [decide_eq_false (by omega),show min a a=a by omega,show max a a=a by omega];rfl
def pzt (l:List Int) (a b:Nat):List Val:=(List.range (max a b - min a b+1)).map fun j=>colV l (min a b+j)
theorem span_n {l:List Int} {a b n:Nat} {wh:Bool} (hl:l.length≤60) (ha:a < 1000) (hb:b < 1000):iter azL (n+1) (wk l,czU a b,wh)=some ⟨true,pzt l a b⟩:=by
 rw [bzN];unfold azL;simp only;rw [show decide ((czU a b).Kind=1)=false from rfl,show decide ((czU a b).Kind=2)=false from rfl,show decide ((czU a b).Kind=4)=false from rfl,show decide ((czU a b).Kind=3)=true from rfl,azb,azb,azb,azc];have hsz:pzs ⟨((min a b:Nat):Int),2⟩ ⟨((max a b:Nat):Int),2⟩=((max a b - min a b+1:Nat):Int):=by
  unfold pzs;simp only;omega
 have hc:=cells_is (b:=(wk l).at_.At) (vz0 (a:=a) (b:=b) (by omega) (by omega)) (by simp only;omega) (by simp only;omega) (by simp only;omega) (by simp only;omega) (by simp only;omega) (by simp only;omega);rw [hsz,if_neg (by omega)] at hc;have hcs:cellsOf ⟨((min a b:Nat):Int),2⟩ ⟨((max a b:Nat):Int),2⟩=(List.range (max a b - min a b+1)).map fun (j:Nat)=>(⟨((min a b+j:Nat):Int),2⟩:Cell):=by
  unfold cellsOf ezZ;simp only;rw [show (((max a b:Nat):Int) - ((min a b:Nat):Int)+1).toNat=max a b - min a b+1 by omega,show ((2:Int) - 2+1).toNat=1 from rfl];generalize max a b - min a b+1=n;induction n with
  | zero=>rfl
  | succ n ih=>rw [List.range_succ (n:=n),List.flatMap_append,ih,List.map_append];simp
 rw [hcs] at hc;have:=wzH (w:=wk l) (sh:=0) (a:=(czU a b).A) (wh:=wh) (g:=fun c=>colV l c.Row.toNat) rfl hc (by simp) (by rw [List.length_map,List.length_range];omega) (by omega) (show (0:Int) < (wk l).v.Sheets from (by decide:(0:Int) < 1)) (fun c hc=>by
  obtain ⟨j,hj,rfl⟩:=List.mem_map.1 hc;have:=List.mem_range.1 hj;simp only [Int.toNat_natCast];exact get_N hl (by omega))
 rw [show (wk l).at_.Sheet=0 from rfl,this,aza];unfold pzt;rw [List.map_map];rfl
theorem wholly_0:ezz 0=some true:=by kernel_rfl
theorem wholly_3:ezz 3=some true:=by kernel_rfl
theorem call_n {l:List Int} {op:Int} {e:Expr} {a:Arg} {v:Val} {n:Nat} {wh:Bool} (hw:ezz op=some true) (ha:iter azL (n+1) (wk l,e,true)=some a) (hv:dzc (op,[a])=some v) :
 iter azL (n+2) (wk l,czC op [e],wh)=some ⟨false,[v]⟩:=by
 rw [bzN];generalize iter azL (n+1)=self at ha ⊢;unfold azL;simp only;rw [show decide ((czC op [e]).Kind=1)=false from rfl,show decide ((czC op [e]).Kind=2)=false from rfl,show decide ((czC op [e]).Kind=4)=false from rfl,show decide ((czC op [e]).Kind=3)=false from rfl,show decide ((czC op [e]).Kind=5)=false from rfl,
  show decide ((czC op [e]).Kind=6)=false from rfl,show decide ((czC op [e]).Kind=10)=false from rfl,show decide ((czC op [e]).Kind=9)=true from rfl,azb,azb,azb,azb,azb,azb,azb,azc,czz,
  show (czC op [e]).Kids=[e] from rfl,show (czC op [e]).Op=op from rfl,args_is (wh:=true) (f:=fun _=>a) (by simp) hw (fun k hk=>by rw [List.mem_singleton.1 hk];exact ha),aza,List.map_singleton,hv,aza]
 rfl
theorem ops_is {self:Worker×Expr×Bool→Option Arg} {w:Worker} {kids:List Expr} {f:Expr→Val} (hl:kids.length≤1000000) (hf:∀ k∈kids,self (w,k,false)=some ⟨false,[f k]⟩) :
 czT self (w,kids)=some (kids.map f,true):=by
 have this:dzr self (w,[],true,kids,(kids.length:Int),((0:Nat):Int))=some ((fun s:List Val=>(s,true)) (bzC (fun (s:List Val) (k:Expr)=>(.inl (s++[f k]):List Val⊕List Val)) id [] kids)) :=
  bz3 (F:=bzM self) (fun (s:List Val) (i:Nat)=>(w,s,true,kids,(kids.length:Int),(i:Int))) (fun s=>(s,true)) kids (fun s k=>.inl (s++[f k])) id (fun s i=>s.length=i) (by omega)
  (fun back s i hi hs=>by
   unfold bzM;simp only;rw [ltT hi,azc,idxG hi,aza,czz,hf _ (List.getElem_mem hi),aza];simp only [azb];rw [idxZ,aza,appN (by simp only [List.length_singleton];omega),aza,wr1 (by omega)];rfl)
  (fun s i hi s' hs e=>by cases e;simp [hs])
  (fun back s hs=>by
   unfold bzM;simp only;rw [ltF,azb];rfl) [] rfl
 rw [czI] at this;unfold czT;simp only;rw [show (0:Int)=((0:Nat):Int) from rfl,this];have:∀ (m:List Expr) (s:List Val),m.foldl (fun s c=>s++[f c]) s=s++m.map f:=by
  intro m;induction m with
  | nil=>intro s;simp
  | cons v m ih=>intro s;rw [List.foldl_cons,ih];simp
 rw [id,this];rfl
theorem bin_n {l:List Int} {op:Int} {e f:Expr} {u v r:Val} {n:Nat} {wh:Bool} (he:iter azL (n+2) (wk l,e,false)=some ⟨false,[u]⟩) (hf:iter azL (n+2) (wk l,f,false)=some ⟨false,[v]⟩)
 (hr:fz7 (op,u,v)=some r) (hd:∃ g:Expr→Val,g e=u∧g f=v) :
 iter azL (n+3) (wk l,binE op e f,wh)=some ⟨false,[r]⟩:=by
 obtain ⟨g,hg1,hg2⟩:=hd;rw [bzN];generalize iter azL (n+2)=self at he hf ⊢;unfold azL;simp only;rw [show decide ((binE op e f).Kind=1)=false from rfl,show decide ((binE op e f).Kind=2)=false from rfl,show decide ((binE op e f).Kind=4)=false from rfl,show decide ((binE op e f).Kind=3)=false from rfl,show decide ((binE op e f).Kind=5)=false from rfl,
  show decide ((binE op e f).Kind=6)=false from rfl,show decide ((binE op e f).Kind=10)=false from rfl,show decide ((binE op e f).Kind=9)=false from rfl,show decide ((binE op e f).Kind=7)=false from rfl,
  azb,azb,azb,azb,azb,azb,azb,azb,
  show (binE op e f).Kids=[e,f] by unfold binE;rw [czz,czz],show (binE op e f).Op=op from rfl,ops_is (f:=g) (by simp) (fun k hk=>by
   simp only [List.mem_cons,List.not_mem_nil,or_false] at hk;rcases hk with rfl | rfl
   ·rw [he,hg1]
   ·rw [hf,hg2]),aza]
 simp only [List.map_cons,List.map_nil,hg1,hg2,Bool.not_true,azb];rw [idxZ,aza,show idx [u,v] 1=some v from rfl,aza,hr,aza];rfl
theorem tzs {l:List Int} {e:Expr} {d:Dec} (h:iter azL big (wk l,e,false)=some ⟨false,[vN d]⟩):bzB (e,envN l l.length,⟨0,⟨99,9⟩⟩)=some (vN d):=by
 unfold bzB dzX;simp only;simp only [czz];rw [show (⟨envN l l.length,⟨0,⟨99,9⟩⟩,0,0,0⟩:Worker)=wk l from rfl,show gzv=iter azL big from rfl,h,aza];simp only [azb];rw [idxZ,aza,show decide ((vN d).Kind=0)=false from rfl,azb,aza,aza]
theorem okd_J {n:Int} (h:i16 n):okd (dJ n):=okdI (by unfold I64;unfold i16 at h;omega)
theorem V_J (n:Int):V (dJ n)=n*1000000000:=by unfold V dJ;simp
theorem numL_J (area:Bool) (acc:List Dec) (l:List Int):numL area acc (l.map (fun n=>vN (dJ n))) = .inl (acc++l.map dJ):=by
 induction l generalizing acc with
 | nil=>simp [numL,bzC]
 | cons n l ih =>
  have e:dzk area acc (vN (dJ n)) = .inl (acc++[dJ n]):=by
   unfold dzk mzR;rw [num_vN];cases area<;>rfl
  have ih:=ih (acc++[dJ n]);unfold numL at ih ⊢;simp only [List.map_cons,bzC];rw [e];simp only;rw [ih];simp
theorem add_J {a b:Int} (h:(a+b).natAbs≤1000000000000):decV (V (dJ a)+V (dJ b)) 9=(dJ (a+b),0):=by
 rw [V_J,V_J,← Int.add_mul,← V_J];exact decV_V (okInt _) (by unfold I64 dJ;simp only;omega)
theorem sum_J:∀ (l:List Int) (t:Int),t.natAbs+l.length*32768≤1000000000000→(∀ n∈l,i16 n)→sumD (dJ t) (l.map dJ)=(dJ (t+l.sum),0)
 | [],t,_,_=>by simp [sumD,bzC]
 | n :: l,t,h,hn=>by
  have h1:=hn n (by simp);unfold i16 at h1;simp only [List.length_cons] at h;have e:addR (dJ t) (dJ n)=(dJ (t+n),0):=add_J (by omega);have ih:=sum_J l (t+n) (by omega) (fun m hm=>hn m (by simp [hm]));unfold sumD at ih ⊢;simp only [List.map_cons,bzC,gzF];rw [e];simp only [if_true];rw [ih,List.sum_cons,Int.add_assoc]
theorem okA_J {l:List Val} (hl:l.length≤5000) (h:∀ v∈l,okW v):okA [⟨true,l⟩]:=by
 refine ⟨by simp,fun a ha=>?_⟩;rw [List.mem_singleton] at ha;subst ha;exact ⟨hl,h⟩
theorem sumApp {l:List Int} (hl:l.length≤60) (h:∀ n∈l,i16 n):dzc (0,[⟨true,l.map (fun n=>vN (dJ n))⟩])=some (vN (dJ l.sum)):=by
 rw [show (0:Int)=((0:Nat):Int) from rfl,rzC (by simp) (by omega),many_num (by omega) (okA_J (by rw [List.length_map];omega) (fun v hv=>by
  obtain ⟨n,hn,rfl⟩:=List.mem_map.1 hv;exact okW_N (okd_J (h n hn)))) (by simp [badA])]
 have e:numA [] [⟨true,l.map (fun n=>vN (dJ n))⟩] = .inl (l.map dJ):=by
  have:=numL_J true [] l;rw [List.nil_append] at this;unfold numA;simp only [bzC];rw [this]
 rw [e];simp only;have:=sum_J l 0 (by simp only [Int.natAbs_zero];omega) h;rw [Int.zero_add] at this;unfold mzy;rw [if_neg (by decide),if_neg (by decide),show (⟨0,0⟩:Dec)=dJ 0 from rfl,this];rfl
theorem okW_v0:okW v0:=⟨.inl rfl,by simp [v0],by unfold I64 v0;simp⟩
theorem cnt_cols (l:List Int):∀ (m k:Nat),cntL true k ((List.range m).map fun j=>colV l (0+j))=k+min m l.length:=by
 intro m;induction m with
 | zero=>intro k;simp [cntL]
 | succ m ih =>
  intro k;have ih:=ih k;unfold cntL at ih ⊢;rw [List.range_succ,List.map_append,List.foldl_append,ih];simp only [List.map_cons,List.map_nil,List.foldl_cons,List.foldl_nil,Nat.zero_add];unfold colV;by_cases h:m < l.length
  ·rw [if_pos h]
   show k+min m l.length+1=_
   omega
  ·rw [if_neg h]
   show k+min m l.length=_
   omega
theorem cntApp {l:List Int} {m:Nat} (hm:m≤5000) (h:∀ n∈l,i16 n) (hlm:l.length≤m):dzc (3,[⟨true,(List.range m).map fun j=>colV l (0+j)⟩])=some (vN (dJ l.length)):=by
 have ho:=okA_J (l:=(List.range m).map fun j=>colV l (0+j)) (by rw [List.length_map,List.length_range];omega) (fun v hv=>by
  obtain ⟨j,hj,rfl⟩:=List.mem_map.1 hv;unfold colV;split
  ·rename_i hlt;refine okW_N (okd_J ?_);rw [List.getD_eq_getElem?_getD,List.getElem?_eq_getElem hlt];exact h _ (List.getElem_mem hlt)
  ·exact okW_v0)
 rw [show (3:Int)=((3:Nat):Int) from rfl,rzC (by simp) (by omega),show (((3:Nat)):Int)=3 from rfl,xzf ho (by simp [badA])];unfold cntA;simp only [List.foldl_cons,List.foldl_nil];rw [cnt_cols,Nat.zero_add,show min m l.length=l.length by omega];rfl
theorem binApp {a b:Int} (ha:a.natAbs≤10000000) (hb:b.natAbs≤10000000):fz7 (1,vN (dJ a),vN (dJ b))=some (vN (dJ (a+b))):=by
 have h1:okd (dJ a):=okdI (by unfold I64;omega);have h2:okd (dJ b):=okdI (by unfold I64;omega);obtain ⟨r,e1,_,_,e2⟩:=add_eq h1 h2;have hnum:∀ d,azX (vN d)=some (d,v0,true):=fun _=>rfl
 unfold fz7 hzS;simp only;rw [show decide ((1:Int)=6)=false from rfl];simp only [azb,aza,osum,hnum,Bool.not_true,decide_true,azc,e1];rw [e2,add_J (by omega)];rfl
theorem span_take {l:List Int} {a b:Nat} (hab:a≤b) (hb:b < l.length):pzt l a b=((l.drop a).take (b - a+1)).map (fun n=>vN (dJ n)):=by
 unfold pzt;rw [show max a b=b by omega,show min a b=a by omega];apply List.ext_getElem
 ·simp;omega
 ·intro i h1 h2;simp only [List.length_map,List.length_range] at h1;simp only [List.getElem_map,List.getElem_range,List.getElem_take,List.getElem_drop];unfold colV;rw [if_pos (by omega),List.getD_eq_getElem?_getD,List.getElem?_eq_getElem (by omega)];rfl
theorem sum_abs {l:List Int} (hl:l.length≤60) (h:∀ n∈l,i16 n):l.sum.natAbs≤10000000:=by
 have:=oz2 h;omega
theorem sumC {l:List Int} {a b n:Nat} {wh:Bool} (hl:l.length≤60) (h:∀ n∈l,i16 n) (hab:a≤b) (hb:b < l.length):iter azL (n+2) (wk l,czC 0 [czU a b],wh)=some ⟨false,[vN (dJ ((l.drop a).take (b - a+1)).sum)]⟩:=by
 refine call_n wholly_0 (span_n hl (by omega) (by omega)) ?_;rw [span_take hab hb];exact sumApp (by rw [List.length_take,List.length_drop];omega) (fun n hn=>h n (List.mem_of_mem_drop (List.mem_of_mem_take hn)))
theorem veq2 (d:Dec):(decide ((vN d).Kind=(vN d).Kind)&&(decide ((vN d).N.M=(vN d).N.M)&&(decide ((vN d).N.S=(vN d).N.S)&&(decide ((vN d).S=(vN d).S)&&(decide ((vN d).B=(vN d).B)&&decide ((vN d).E=(vN d).E))))))=true:=by simp
theorem uzv {l:List Int} (at_:UInt8) (h:∀ n∈l,i16 n):gz6 (l,at_)=some true:=by
 unfold gz6;rw [xzb,aza];simp only [Bool.not_true,azb];by_cases h0:(l.length:Int) < 2
 ·rw [decide_eq_true h0,azc]
 rw [decide_eq_false h0,azb];by_cases h1:60 < (l.length:Int)
 ·rw [decide_eq_true h1,azc]
 rw [decide_eq_false h1,azb];have hl:l.length≤60:=by omega
 have hu:at_.toNat < 256:=at_.toNat_lt;rw [sums_l1 hl h,aza,azw (n:=(l.length:Int) - 1) (by omega) (by omega),decide_eq_false (by omega),azb,azw (n:=(at_.toNat:Int)) (by omega) (by omega)];have hk:(at_.toNat:Int).tmod ((l.length:Int) - 1)=((at_.toNat % (l.length - 1):Nat):Int):=by
  rw [show (l.length:Int) - 1=((l.length - 1:Nat):Int) by omega];rfl
 have hk2:=Nat.mod_lt at_.toNat (show 0 < l.length - 1 by omega);rw [hk];generalize at_.toNat % (l.length - 1)=k at hk2;rw [azw (n:=1+(k:Int)) (by omega) (by omega),azw (n:=1+(k:Int) - 1) (by omega) (by omega),azw (n:=(l.length:Int)+5) (by omega) (by omega),
  show (l.length:Int) - 1=((l.length - 1:Nat):Int) by omega,show 1+(k:Int) - 1=(k:Int) by omega,show 1+(k:Int)=((k+1:Nat):Int) by omega,show (l.length:Int)+5=((l.length+5:Nat):Int) by omega]
 have c1:∀ (op:Int) (e:Expr),ezj (op,[bzf e])=some (czC op [e]):=fun op e=>by rw [czz];rfl
 have c2:∀ (a b:Expr),jzk (1,a,b)=some (binE 1 a b):=fun a b=>rfl
 have c3:∀ b:Nat,czf (0,(b:Int),2)=some (czU 0 b):=fun b=>rfl
 have c4:∀ a:Nat,czf ((a:Int),0,2)=some (czU a 0):=fun a=>rfl
 have c5:fzw (0,99,9)=some ⟨0,⟨99,9⟩⟩:=rfl;have b1:big=9223372036854775805+3:=by rw [lzo]
 have e1:bzB (czC 0 [czU 0 (l.length - 1)],envN l l.length,⟨0,⟨99,9⟩⟩)=some (vN (dJ l.sum)):=by
  refine tzs ?_;rw [b1,show 9223372036854775805+3=9223372036854775806+2 from rfl,sumC hl h (by omega) (by omega),show ((l.drop 0).take (l.length - 1 - 0+1))=l by rw [List.drop_zero,show l.length - 1 - 0+1=l.length by omega,List.take_length]]
 have e2:bzB (binE 1 (czC 0 [czU 0 k]) (czC 0 [czU (k+1) (l.length - 1)]),envN l l.length,⟨0,⟨99,9⟩⟩)=some (vN (dJ l.sum)):=by
  refine tzs ?_;have s1:=sumC (n:=9223372036854775805) (wh:=false) hl h (a:=0) (b:=k) (by omega) (by omega);have s2:=sumC (n:=9223372036854775805) (wh:=false) hl h (a:=k+1) (b:=l.length - 1) (by omega) (by omega);rw [List.drop_zero,show k - 0+1=k+1 by omega] at s1;rw [List.take_of_length_le (by rw [List.length_drop];omega)] at s2;have hs:(l.take (k+1)).sum+(l.drop (k+1)).sum=l.sum:=by rw [← List.sum_append,List.take_append_drop]
  have hne:czC 0 [czU 0 k]≠czC 0 [czU (k+1) (l.length - 1)]:=fun e=>by
   unfold czC czU at e;simp at e;omega
  have hA:=sum_abs (l:=l.take (k+1)) (by rw [List.length_take];omega) (fun n hn=>h n (List.mem_of_mem_take hn));have hB:=sum_abs (l:=l.drop (k+1)) (by rw [List.length_drop];omega) (fun n hn=>h n (List.mem_of_mem_drop hn))
  classical
  rw [b1,bin_n s1 s2 (binApp hA hB) ⟨fun e=>if e=czC 0 [czU 0 k] then vN (dJ (l.take (k+1)).sum) else vN (dJ (l.drop (k+1)).sum),by simp,by simp only [];rw [if_neg (fun e=>hne e.symm)]⟩,hs]
 have e3:bzB (czC 3 [czU (l.length+5) 0],envN l l.length,⟨0,⟨99,9⟩⟩)=some (vN (dJ l.length)):=by
  refine tzs ?_;rw [b1,show 9223372036854775805+3=9223372036854775806+2 from rfl];refine call_n wholly_3 (span_n hl (by omega) (by omega)) ?_;have:pzt l (l.length+5) 0=(List.range (l.length+6)).map fun j=>colV l (0+j):=by
   unfold pzt;rw [show max (l.length+5) 0=l.length+5 by omega,show min (l.length+5) 0=0 by omega,show l.length+5 - 0+1=l.length+6 by omega]
  rw [this];exact cntApp (by omega) h (by omega)
 rw [c5,aza,c3,aza,c1,aza,c3,aza,c1,aza,span_is,aza,c1,aza,czz,czz,c2,aza,c4,aza,c1,aza,czz,czz,czz];rw [e1,aza,show czq l.sum=some (vN (dJ l.sum)) from rfl,aza,veq2];rw [cond_false,azc,e2,aza,aza,veq2,cond_false,azc,e3,aza,show czq (l.length:Int)=some (vN (dJ l.length)) from rfl,aza];simp
end Go.Proofs.YtdgpkbnnljblmaaGreatDoor

/- RW -/
namespace Go.Proofs.YtdgpkbnnljblmaaGreatDoor
open Go Go.Ev
theorem own:ownKnob Tryz.prog.godebug=none:=by kernel_rfl
theorem laidOut:laidOutB Tryz.prog=true:=by kernel_rfl
theorem and2 {a b:Bool} (h:a=true) (k:b=true):(a&&b)=true:=by rw [h,k];rfl
theorem main_is:Tryz.pinned.checked.prog.mainIs=some (true, "77b88d5647d88579fe249790164f29ba538a169e38f55a49c9c0a729a43cbb40".toList):=by kernel_rfl
theorem looks_is:false=Tryz.pinned.checked.prog.looks []:=by kernel_rfl
theorem xzg:mapsRowed Tryz.prog=true:=by kernel_rfl
theorem xzo:(Rows.evalFaultsRow.plainKeys == Tryz.prog.plainKeys)=true:=by kernel_rfl
theorem wzE:Tryz.prog.stopsHeard=true:=by kernel_rfl
theorem may_enter:Tryz.prog.mayEnter=true:=by kernel_rfl
theorem lifts_is:(Rows.evalFaultsRow.lifted == Tryz.prog.liftsFinal)=true:=by kernel_rfl
theorem make_is:(Tryz.prog.make == some Rows.evalFaultsRow.make)=true:=by kernel_rfl
def rd:RdTab Tryz.prog tb:=⟨[5,114,111],20,fun t ht=>by
 simp only [List.mem_cons,List.not_mem_nil,or_false] at ht;rcases ht with rfl | rfl | rfl
 ·exact tzN (ks:=[.int .u8]) (by kernel_rfl) rfl (fun _=>rfl)
 ·exact tzN (ks:=[.int .i16]) (by kernel_rfl) rfl (fun _=>rfl)
 ·exact tzN (ks:=[.sl 114]) (by kernel_rfl) (by kernel_rfl) (fun _=>rfl)⟩
theorem readable:∀ t∈[5,111],Tryz.prog.readableRec t=true∧t < Tryz.prog.types.size:=by
 intro t ht;simp only [List.mem_cons,List.not_mem_nil,or_false] at ht;rcases ht with rfl | rfl<;>exact ⟨by kernel_rfl,of_decide_eq_true (by kernel_rfl)⟩
abbrev laidL:List (String×DataW Unit):=[("math/bits.deBruijn32tab",Rows.laid_math_bits_deBruijn32tab),("math/bits.deBruijn64tab",Rows.laid_math_bits_deBruijn64tab),("internal/strconv.uint64pow10",Rows.laid_internal_strconv_uint64pow10),("unicode/utf8.acceptRanges",Rows.laid_unicode_utf8_acceptRanges),("unicode/utf8.first",Rows.laid_unicode_utf8_first)]
theorem extra:Go.Proofs.U8Extra Tryz.prog Tryz.lays196_ren:=⟨by kernel_rfl,by kernel_rfl,by kernel_rfl,by kernel_rfl,by kernel_rfl,by kernel_rfl,by kernel_rfl⟩
theorem first_is:(Rows.laid_unicode_utf8_first:DataW Unit)=Lib.firstData:=by kernel_rfl
theorem accept_is:(Rows.laid_unicode_utf8_acceptRanges:DataW Unit)=Lib.acceptData:=by kernel_rfl
theorem inv_of {W:World} (h:laidMetH Tryz.prog laidL W):tb.inv (fun _=>.con) W:=by
 rw [MakeChecks.laidMetH_plain _ _ _ (by kernel_rfl)] at h;have h3:=Lib.laidMet.reads h (n := "unicode/utf8.first") (d:=Rows.laid_unicode_utf8_first) (by simp);have h4:=Lib.laidMet.reads h (n := "unicode/utf8.acceptRanges") (d:=Rows.laid_unicode_utf8_acceptRanges) (by simp);rw [first_is] at h3;rw [accept_is] at h4;obtain ⟨g2,t2,cs2,f2,p2,hg2,ht2,hv2,hd2⟩:=Lib.laidMet.reads h (n := "internal/strconv.uint64pow10") (d:=Rows.laid_internal_strconv_uint64pow10) (by simp);obtain rfl:=Option.some.inj ((show Tryz.prog.globalNamed "internal/strconv.uint64pow10" = some 5 by kernel_rfl).symm.trans hg2);obtain rfl:=Option.some.inj ((show (Tryz.prog.globals[5]?).map (·.type)=some 362 by kernel_rfl).symm.trans ht2);refine ⟨rfl,rfl,Go.Proofs.utf8Tabs_of_readsT (.of196 Tryz.lays196) extra h3 h4,5,by kernel_rfl,rfl,?_⟩;have:=Lib.cells_of_tab (k:=.u64) (zs:=Lib.pow10Tab) (n:=20) Tryz.underlying362 Tryz.underlying152 (by kernel_rfl) (by kernel_rfl) (show DataW.trod _ _ _ _ _ _ _ _ _=some (Lib.tabData .u64 Lib.pow10Tab,_) from hd2);unfold Lib.TabIs;rw [hv2,← this]
theorem true_out {P:Program}:∀ g w us cs v,azN P tb g w [(0,.val 4)] true us cs→RetV [(0,.val 4)] us v→azC P 4=false→v = .bool true:=by
 intro g w us cs v h hr ha;cases us with
 | nil=>cases cs<;>exact h.elim
 | cons u us =>
  cases us with
  | cons _ _=>cases cs<;>exact h.elim
  | nil =>
   cases cs with
   | nil=>exact h.elim
   | cons c cs =>
    cases cs with
    | cons _ _=>exact h.elim
    | nil =>
     have hr:v=u:=hr;subst hr;obtain ⟨h1,_⟩:=h;unfold azG at h1;simp only [ha,Bool.false_eq_true,if_false] at h1;obtain ⟨c,hc,hrep⟩:=h1;have hc:[CV.bool true]=[c]:=hc;simp only [List.cons.injEq,and_true] at hc;subst hc;cases hrep;rfl
theorem wf_int {k:IntKind} {n:Int} (h:Wf Tryz.prog tb (.int k n)):inR k n:=by cases h;assumption
theorem wf_i16 {n:Int} (h:∀ c∈tb.enc 114 n,Wf Tryz.prog tb c):-32768≤n∧n≤32767:=by
 rw [enc114_eq] at h;have:=wf_int (h (.int .i16 n) (by simp));simp only [Ev.inR,lo,hi] at this;exact this
theorem wf_i16s {l:List Int} (h:∀ c∈tb.enc 111 l,Wf Tryz.prog tb c):∀ n∈l,-32768≤n∧n≤32767:=by
 rw [enc111_eq] at h;have hw:=h (.sl 114 l) (by simp);cases hw with
 | sl e xs h hx=>exact fun n hn=>wf_i16 (hx n hn)
end Go.Proofs.YtdgpkbnnljblmaaGreatDoor

/- DB -/
namespace Go.Proofs.YtdgpkbnnljblmaaGreatDoor
open Go Go.Ev Go.ChangeShapes Go.WideShapes Go.RowKit
theorem nzS:tzU Tryz.prog tb kzK:=fun x hx=>by
 obtain ⟨l,a⟩:=x;exact ⟨true,uzv a (wf_i16s hx.1),fun g w us cs v h hr=>true_out g w us cs v h hr notAgg4⟩
set_option maxRecDepth 100000 in
theorem lz0 (os:Os) (started:os.Started) (H:Type) (enc:TypeId×Value→H) :
 ReturnsInHanded {} Tryz.checked os 13 .any (fun w args=>(Rows.evalSumsSpec.pre enc Tryz.prog Tryz.f13 [] false w args∧laidMetH Tryz.prog laidL w)∧sizedMet enc Tryz.prog Tryz.f13 (OpenSpec.ofChange Rows.evalSumsSpec) false w args)
  (Rows.evalSumsSpec.post enc Tryz.prog Tryz.f13 false true false false):=by
 refine returnsInHanded_of_change_and (C:=Tryz.checked) (X:=fun w _=>laidMetH Tryz.prog laidL w) (fun _ _ _ hh h=>h.of_heap hh) own started (by kernel_rfl) Tryz.func13
  (ChangeSpec.witness_shaped (enc:=enc) (C:=Tryz.checked) (os:=os) (X:=fun w _=>laidMetH Tryz.prog laidL w) false (World.laidAll Tryz.prog os laidL) #[.slice none 0 0,.int .u8 0] 8 (World.laidAll_os _ _ _) (World.shaped_of_ZipB (by kernel_rfl) (by kernel_rfl)) (by kernel_rfl) (by kernel_rfl) (by kernel_rfl) (by rw [MakeChecks.laidMetH_plain _ _ _ (by kernel_rfl)];exact laidMet_laidAll _ (by kernel_rfl) (by kernel_rfl))) ?_
 intro W base args ds gs before hval hW _ hz hL _;exact law_calls (P:=Tryz.prog) (tb:=tb) rd (ts:=[111,5]) (rb:=4) mzF nzS (by rw [Tryz.params13]) rfl (fun t ht=>by revert t;decide) rfl Tryz.underlying4 rfl (fun ds h=>by
  match ds,h with
  | [d0,d1],_=>rfl) laidOut (fun t ht=>readable t (by revert t;decide)) hval hW hz (inv_of hL)
theorem pzR:(Rows.evalSumsRow.inPlace == Tryz.prog.inPlace 13)=true:=by kernel_rfl
theorem ozF:(Rows.evalSumsRow.unfollowed == Tryz.prog.unfollowed 13)=true:=by kernel_rfl
theorem ozG:(Rows.evalSumsRow.recurses == Tryz.prog.recurses 13)=true:=by kernel_rfl
theorem ozH:(Rows.evalSumsRow.named == Tryz.prog.varsNamed 13)=true:=by kernel_rfl
theorem lzY:joinedFacts Tryz.pinned.checked.prog 13 Tryz.f13 Rows.evalSumsSpec Rows.evalSumsRow=true :=
 and2 (and2 (and2 (and2 (and2 (and2 (and2 (and2 (and2 (and2 (and2 (and2 (and2 (and2 (and2 (and2 (and2 (and2 (and2 (and2 (and2 (and2 (and2 (and2 (and2 (and2 (and2 (and2 (and2 (and2 (and2 (by kernel_rfl) laidOut) xzg) (by kernel_rfl)) (by kernel_rfl)) (by kernel_rfl)) (by kernel_rfl)) (by kernel_rfl)) (by kernel_rfl)) pzR) ozF) ozG) ozH) (by kernel_rfl)) (by kernel_rfl)) (by kernel_rfl)) (by kernel_rfl)) (by kernel_rfl)) (by kernel_rfl)) (by kernel_rfl)) (by kernel_rfl)) (by kernel_rfl)) xzo) (by kernel_rfl)) wzE) may_enter) lifts_is) make_is) (by kernel_rfl)) (by kernel_rfl)) (by kernel_rfl)) (by kernel_rfl)
theorem law15_EvalSums_holds:Rows.EvalSumsSaid :=
 OpenClaim.holds_of_wide 13 Tryz.f13 rfl rfl rfl rfl rfl rfl rfl ⟨rfl,rfl,rfl,rfl,rfl⟩ rfl rfl rfl rfl rfl (by kernel_rfl) Tryz.func13 lzY
  (of_decide_eq_true (by kernel_rfl)) (by unfold Func.isWrapper;first | (rw [if_pos (by decide +kernel)];kernel_rfl) | (rw [if_neg (by decide +kernel)];exact ⟨rfl,rfl⟩))
  (fun os started H enc _=>lz0 os started H enc)
theorem nzR:false=Rows.evalSumsRow.goesBy Tryz.pinned.checked.prog:=by kernel_rfl
theorem law15_EvalSums_card:Rows.EvalSumsCardSaid :=
 Claim7.holds_tied_plain_at .later [] [.data,.data,.data,.data,.pinned] true (true, "77b88d5647d88579fe249790164f29ba538a169e38f55a49c9c0a729a43cbb40") false
  law15_EvalSums_holds (fun _ h=>by cases h) (by kernel_rfl) (fun _ h=>by cases h) evalSums_row_tie rfl ⟨rfl,rfl⟩ main_is rfl
  (fun f fn hf hfn=>by
   obtain rfl:f=13:=Option.some.inj ((show Tryz.prog.funcNamed "cashbook/cashbooklaw15.EvalSums" = some 13 by kernel_rfl).symm.trans hf) |>.symm;obtain rfl:fn=Tryz.f13:=(Option.some.inj (Tryz.func13.symm.trans hfn)).symm;exact ⟨looks_is,fun j t ht=>by
    rw [Tryz.params13] at ht;have hm:t∈[111,5]:=by simpa using Array.mem_of_getElem? ht
    have hall:([111,5].all fun u=>!Tryz.prog.wantsStandIn u)=true:=by kernel_rfl
    exact (show Tryz.prog.wantsStandIn t=false by simpa using List.all_eq_true.1 hall t hm)⟩)
  nzR
end Go.Proofs.YtdgpkbnnljblmaaGreatDoor
