import Derived.Test.YtkafbjodbjkieaaGreatDoorA0
import Derived.Lib.ValidLaws
import Derived.Test.YtkafbjodbjkieaaGreatDoorU1
import Derived.Test.YtkafbjodbjkieaaGreatDoorTie
import Derived.Stop.Joined
import Derived.Lib.LaidU8T
import Derived.Lay
import Derived.Test.YtkafbjodbjkieaaGreatDoorCards
/- XX -/
namespace Go.Proofs.YtkafbjodbjkieaaGreatDoor
open Go Go.Ev Go.Lib
open Go.IntKind (i64 u64 u8 i32 u32 i16 u16)
set_option linter.unusedSimpArgs false
theorem idxB {D:List UInt8}{k:Nat}{v:UInt8}(h:D[k]?=some v):idx D (k:Int)=some v:=by simp[idx,h]
def okD (d:Dec):Prop:=0<=d.S/\d.S<=9/\(0<d.S->¬d.M%10=0)
def V (d:Dec):Int:=d.M*10^(9-d.S.toNat)
def I64 (n:Int):Prop:=-9223372036854775808<=n/\n<=9223372036854775807
instance (n:Int):Decidable (I64 n):=inferInstanceAs (Decidable (_/\_))
def cmpV (x y:Int):Int:=if x<y then -1 else if y<x then 1 else 0
theorem wu64 (n:Int):u64.wrap n=n%18446744073709551616:=by simp[IntKind.wrap,IntKind.bits,IntKind.signed]
theorem wi64 (n:Int):i64.wrap n=(n+9223372036854775808)%18446744073709551616-9223372036854775808:=IntKind.wrap_i64 n
theorem Gzp {n:Int}(h0:0<=n)(h1:n<18446744073709551616):u64.wrap n=n:=by rw[wu64];omega
theorem azW {n:Int}(h0:-9223372036854775808<=n)(h1:n<=9223372036854775807):i64.wrap n=n:=by rw[wi64];omega
theorem GzG (x y:Int):bzH (x,y)=some (cmpV x y):=by
 unfold bzH mzg cmpV;simp only[decide_true,cond_true,aza,azd];by_cases h:x<y
 .simp[h]
 .by_cases h2:y<x<;>simp[h,h2]
theorem tmod10 (m:Int):(m.tmod 10=0↔m%10=0)/\(m%10=0->m.tdiv 10=m/10) :=
 ⟨by rw[<-Int.dvd_iff_tmod_eq_zero,<-Int.dvd_iff_emod_eq_zero],fun h=>Int.tdiv_eq_ediv_of_dvd (Int.dvd_of_emod_eq_zero h)⟩
theorem KzY (d:Dec):izj d=some 0/\okD d\/∃e,izj d=some e/\e≠0:=by
 unfold izj okD;by_cases h1:d.S<0
 .exact .inr ⟨1,by simp[h1],by omega⟩
 .by_cases h2:9<d.S
  .exact .inr ⟨1,by simp[h1,h2],by omega⟩
  .by_cases h3:0<d.S
   .by_cases h4:d.M.tmod 10=0
    .exact .inr ⟨1,by simp[h1,h2,h3,h4],by omega⟩
    .exact .inl ⟨by simp[h1,h2,h3,h4],by omega,by omega,fun _ h=>h4 ((tmod10 d.M).1.2 h)⟩
   .exact .inl ⟨by simp[h1,h2,h3],by omega,by omega,fun h=>absurd h h3⟩
theorem idxI {D:List Int}{k:Nat}{v:Int}(h:D[k]?=some v):idx D (k:Int)=some v:=by
 simp[idx,h]
theorem Jz0 {X Y:Type}{F:(X->Option Y)->X->Option Y}(m:X->Nat)(Inv:X->Prop)(Post:Y->Prop)
 (h:∀back x,Inv x->(∀x',Inv x'->m x'<m x->∃y,back x'=some y/\Post y)->∃y,F back x=some y/\Post y):∀n x,Inv x->m x<n->∃y,iter F n x=some y/\Post y
 | 0,_,_,h0=>by omega
 | n+1,x,hp,hn=>by
  rw[azN];exact h _ x hp fun x' hp' hm=>Jz0 m Inv Post h n x' hp' (by omega)
theorem nzQ {X Y:Type}{F:(X->Option Y)->X->Option Y}(m:X->Nat)(Inv:X->Prop)(Post:Y->Prop)
 (h:∀back x,Inv x->(∀x',Inv x'->m x'<m x->∃y,back x'=some y/\Post y)->∃y,F back x=some y/\Post y) (x:X) (hx:Inv x) (hm:m x<9223372036854775808):∃y,iter F big x=some y/\Post y :=
 Jz0 m Inv Post h _ x hx (by rw[ezd];omega)
section
variable {M N:Int} {s t:Nat} (hM:I64 M) (hN:I64 N) (hs:s<=9) (ht:t<=9)
include hM hN hs ht
end
section
variable {M N:Int} {s t:Nat} (hM:I64 M) (hN:I64 N) (hs:s<=9) (ht:t<=9)
include hM hN hs ht
end
open Go Go.Ev Go.Lib
def rl:Nat->List UInt8->List Int
 | 0,_=>[]
 | n+1,l=>if l=[]then []else((decodeL l).1:Int)::rl n (l.drop (decodeL l).2)
theorem Fz6:∀n,rl n []=[]
 | 0=>rfl
 | n+1=>by simp[rl]
theorem rl_fuel:∀(n m:Nat) (l:List UInt8),l.length<=n->l.length<=m->rl n l=rl m l
 | 0,m,l,hn,_=>by
  have:l=[]:=List.eq_nil_of_length_eq_zero (by omega);subst this;rw[Fz6,Fz6]
 | n+1,0,l,_,hm=>by
  have:l=[]:=List.eq_nil_of_length_eq_zero (by omega);subst this;rw[Fz6,Fz6]
 | n+1,m+1,l,hn,hm=>by
  unfold rl;by_cases hne:l=[]
  .simp[hne]
  .have hw:=decodeL_width l;have hl:0<l.length:=List.length_pos_iff.2 hne;rw[if_neg hne,if_neg hne,rl_fuel n m (l.drop (decodeL l).2) (by rw[List.length_drop];omega) (by rw[List.length_drop];omega)]
def rs (l:List UInt8):List Int:=rl l.length l
theorem rs_nil:rs []=[]:=rfl
theorem vzC {l:List UInt8}(h:l≠[]):rs l=((decodeL l).1:Int)::rs (l.drop (decodeL l).2):=by
 have hl:0<l.length:=List.length_pos_iff.2 h;have hw:=decodeL_width l;obtain⟨n,hn⟩:∃n,l.length=n+1:=⟨l.length-1,by omega⟩;unfold rs;rw[hn]
 show(if l=[]then []else _)=_
 rw[if_neg h,rl_fuel n (l.drop (decodeL l).2).length _ (by rw[List.length_drop];omega) (Nat.le_refl _)]
theorem zz6 (s:List UInt8)(i:Nat):rune s i=decodeL (s.drop i):=(decodeL_drop ⟨s.toArray⟩ i).symm
theorem tzJ:∀(l:List UInt8),(rs l).length<=l.length:=fun l=>by
 have:∀(n:Nat) (l:List UInt8),(rl n l).length<=n:=by
  intro n;induction n with
  | zero=>intro l;simp[rl]
  | succ n ih =>
   intro l;unfold rl;split
   .simp
   .have:=ih (l.drop (decodeL l).2);simp;omega
 exact this l.length l
structure Ord (α:Type) (c:α->α->Int):Prop where
 vals:∀a b,c a b = -1\/c a b=0\/c a b=1
 swap:∀a b,c b a = - c a b
 same:∀a b,c a b=0↔a=b
 less:∀a b d,c a b = -1->c b d = -1->c a d = -1
open Go Go.Ev Go.Lib
def vB:Val:=⟨0,⟨0,0⟩,[],false,0⟩
def vN (d:Dec):Val:=⟨1,d,[],false,0⟩
def vS (s:List UInt8):Val:=⟨2,⟨0,0⟩,s,false,0⟩
def vT (b:Bool):Val:=⟨3,⟨0,0⟩,[],b,0⟩
def vE (e:Int):Val:=⟨4,⟨0,0⟩,[],false,e⟩
def okV (v:Val):Prop:=v=vB\/(∃d,v=vN d/\okD d)\/(∃s,v=vS s/\Lib.validD s=true)\/(∃b,v=vT b)\/∃e,v=vE e
theorem ezm {α:Type}{b:Bool}{x y:Option α}(hx:∃n,x=some n)(hy:∃n,y=some n):∃n,brn b x y=some n:=by cases b<;>assumption
theorem name_is (e:Int):∃n,Azs e=some n :=
 ezm ⟨_,rfl⟩ (ezm ⟨_,rfl⟩ (ezm ⟨_,rfl⟩ (ezm ⟨_,rfl⟩ (ezm ⟨_,rfl⟩ (ezm ⟨_,rfl⟩ (ezm ⟨_,rfl⟩ ⟨_,rfl⟩))))))
def key (v:Val):List Int:=v.Kind::(if v.Kind=1 then [V v.N]else if v.Kind=2 then rs v.S else if v.Kind=3 then [if v.B then 1 else 0]else [v.E])
open Go Go.Ev Go.Lib
theorem appN {A:Type}{B:Nat}{xs ys:List A}(h:(xs.length+ys.length)*B<=140737488355328):app B xs ys=some (xs++ys):=by
 have:Nat.ble ((xs.length+ys.length)*B) 140737488355328=true:=Nat.ble_eq_true_of_le h;simp[app,this]
theorem szU {n:Nat}(h:n<9223372036854775808):i64.wrap (n:Int)=n:=azW (by omega) (by omega)
theorem uzA {x y:Nat}(hx:x<9223372036854775808)(hy:y<9223372036854775808):bzc .and .i64 (x:Int) (y:Int)=((x &&& y:Nat):Int):=by
 simp only[bzc];rw[BitVec.toNat_and,BitVec.ofInt_natCast,BitVec.ofInt_natCast,BitVec.toNat_ofNat,BitVec.toNat_ofNat];simp only[IntKind.bits];rw[Nat.mod_eq_of_lt (by omega),Nat.mod_eq_of_lt (by omega)];exact szU (Nat.lt_of_le_of_lt Nat.and_le_left hx)
theorem or_nat {x y:Nat}(hx:x<1073741824)(hy:y<64):bzc .or .i64 ((x*64:Nat):Int) (y:Int)=((x*64+y:Nat):Int):=by
 simp only[bzc];rw[BitVec.toNat_or,BitVec.ofInt_natCast,BitVec.ofInt_natCast,BitVec.toNat_ofNat,BitVec.toNat_ofNat];simp only[IntKind.bits];rw[Nat.mod_eq_of_lt (by omega),Nat.mod_eq_of_lt (by omega)];have:=Nat.two_pow_add_eq_or_of_lt (i:=6) (b:=y) (by omega) x;rw[Nat.mul_comm x 64,show(64:Nat)=2^6 from rfl,<-this];exact szU (by omega)
theorem byte_and:∀b:Fin 256,(b.val &&& 31=b.val%32)/\(b.val &&& 15=b.val%16)/\(b.val &&& 7=b.val%8)/\(b.val &&& 63=b.val%64)/\((b.val &&& 192=128)↔b.val/64=2):=by decide +kernel
theorem bAnd {b:Nat}(h:b<256):bzc .and .i64 (b:Int) 31=((b%32:Nat):Int)/\bzc .and .i64 (b:Int) 15=((b%16:Nat):Int)/\bzc .and .i64 (b:Int) 7=((b%8:Nat):Int) /\
 bzc .and .i64 (b:Int) 63=((b%64:Nat):Int)/\(bzc .and .i64 (b:Int) 192=128↔b/64=2):=by
 obtain⟨h1,h2,h3,h4,h5⟩:=byte_and ⟨b,h⟩;simp only at h1 h2 h3 h4 h5;refine⟨?_,?_,?_,?_,?_⟩
 .rw[<-h1];exact uzA (y:=31) (by omega) (by omega)
 .rw[<-h2];exact uzA (y:=15) (by omega) (by omega)
 .rw[<-h3];exact uzA (y:=7) (by omega) (by omega)
 .rw[<-h4];exact uzA (y:=63) (by omega) (by omega)
 .have e:bzc .and .i64 (b:Int) 192=((b &&& 192:Nat):Int):=uzA (y:=192) (by omega) (by omega);rw[e];constructor
  .intro h;exact h5.1 (by omega)
  .intro h;have:=h5.2 h;omega
def more:List UInt8->Nat->Nat->Option Nat
 | _,0,v=>some v
 | [],_+1,_=>none
 | d::l,n+1,v=>if d.toNat/64=2 then more l n (v*64+d.toNat%64)else none
theorem Hzi {x:List UInt8}{i n v:Nat}(hl:x.length<=5000000)(hn:i+n<x.length)(hn3:n<=3)(hv:v<64):kzy (x,(i:Int),(n:Int),(v:Int),1)=some (match more (x.drop (i+1)) n v with|some w=>.inl (w:Int)|none=>.inr ([],false)):=by
 obtain⟨y,h1,h2⟩:=nzQ (F:=kzx) (fun z=>10-z.2.2.2.2.toNat) (fun z=>∃k w:Nat,z=(x,(i:Int),(n:Int),(w:Int),((k+1:Nat):Int))/\k<=n/\w<64*64^k/\more (x.drop (i+1+k)) (n-k) w=more (x.drop (i+1)) n v)
  (fun y=>y=(match more (x.drop (i+1)) n v with|some w=>.inl (w:Int)|none=>.inr ([],false))) (by
  rintro back z ⟨k,w,rfl,hk,hw,hm⟩ hb;unfold kzx;simp only at hb ⊢;rw[<-hm];rcases Nat.lt_or_ge k n with hlt|hge
  .have hx:i+1+k<x.length:=by omega
   have hdl:=(x[i+1+k]'hx).toNat_lt;obtain⟨_,_,_,b63,b192⟩:=bAnd hdl;have hw3:w<64*64^3:=Nat.lt_of_lt_of_le hw (Nat.mul_le_mul_left _ (Nat.pow_le_pow_right (by omega) (by omega)));rw[dT0 (by omega),azc,azW (by omega) (by omega),show(i:Int)+((k+1:Nat):Int)=((i+1+k:Nat):Int) by omega,idxB (List.getElem?_eq_getElem hx),aza,szU (by omega)];have hd:x.drop (i+1+k)=x[i+1+k]'hx::x.drop (i+1+k+1):=List.drop_eq_getElem_cons hx;rw[hd,show n-k=(n-(k+1))+1 by omega];generalize x[i+1+k]'hx=d at *;by_cases h2:d.toNat/64=2
   .rw[dT0 (b192.2 h2),Bool.not_true,azd,b63,show(w:Int)*64=((w*64:Nat):Int) by omega,szU (by omega),or_nat (by omega) (by omega),azW (by omega) (by omega)];have e:more (d::x.drop (i+1+k+1)) (n-(k+1)+1) w=more (x.drop (i+1+k+1)) (n-(k+1)) (w*64+d.toNat%64):=by
     show(if _ then _ else _)=_
     rw[if_pos h2]
    rw[e];rw[hd,show n-k=(n-(k+1))+1 by omega,e]at hm;rw[hm];exact hb _ ⟨k+1,w*64+d.toNat%64,by simp,by omega,by rw[Nat.pow_succ];omega,by rw[<-hm];rfl⟩ (by simp only;omega)
   .rw[dF0 (fun h=>h2 (b192.1 h)),Bool.not_false,azc];have e:more (d::x.drop (i+1+k+1)) (n-(k+1)+1) w=none:=by
     show(if _ then _ else _)=_
     rw[if_neg h2]
    rw[e];exact⟨_,rfl,rfl⟩
  .have:k=n:=by omega
   subst this;rw[dF0 (by omega),azd,Nat.sub_self];refine⟨_,rfl,?_⟩;have:∀l,more l 0 w=some w:=fun l=>by cases l<;>rfl
   rw[this]) (x,(i:Int),(n:Int),(v:Int),1) ⟨0,v,by simp,by omega,by omega,by simp⟩ (by simp only;omega)
 subst h2;exact h1
open Go Go.Ev Go.Lib
set_option linter.unusedSimpArgs false
theorem more0_is {x:List UInt8}{i v:Nat}:kzy (x,(i:Int),0,(v:Int),1)=some (.inl (v:Int)):=by
 unfold kzy;rw[ezd,azN];unfold kzx;simp
theorem more1 {l:List UInt8}(h:0<l.length)(v:Nat):more l 1 v=if(l.getD 0 0).toNat/64=2 then some (v*64+(l.getD 0 0).toNat%64)else none:=by
 cases l with
 | nil=>simp at h
 | cons a l=>cases l<;>rfl
theorem more2 {l:List UInt8}(h:1<l.length)(v:Nat):more l 2 v=if(l.getD 0 0).toNat/64=2/\(l.getD 1 0).toNat/64=2 then some ((v*64+(l.getD 0 0).toNat%64)*64+(l.getD 1 0).toNat%64)else none:=by
 cases l with
 | nil=>simp at h
 | cons a l =>
  have:=more1 (l:=l) (by simp at h;omega)
  show(if a.toNat/64=2 then more l 1 (v*64+a.toNat%64)else none)=_
  rw[this];simp only[List.getD_cons_zero,List.getD_cons_succ];by_cases h1:a.toNat/64=2
  .rw[if_pos h1];simp[h1]
  .rw[if_neg h1];simp[h1]
theorem more3 {l:List UInt8}(h:2<l.length)(v:Nat):more l 3 v=if(l.getD 0 0).toNat/64=2/\(l.getD 1 0).toNat/64=2/\(l.getD 2 0).toNat/64=2 then some (((v*64+(l.getD 0 0).toNat%64)*64+(l.getD 1 0).toNat%64)*64+(l.getD 2 0).toNat%64)else none:=by
 cases l with
 | nil=>simp at h
 | cons a l =>
  have:=more2 (l:=l) (by simp at h;omega)
  show(if a.toNat/64=2 then more l 2 (v*64+a.toNat%64)else none)=_
  rw[this];simp only[List.getD_cons_zero,List.getD_cons_succ];by_cases h1:a.toNat/64=2
  .rw[if_pos h1];simp[h1]
  .rw[if_neg h1];simp[h1]
def oneR (x:List UInt8)(out:List Int)(i:Nat):(List Int×Int)⊕(List Int×Bool):=if(decodeL (x.drop i)).1=65533/\(decodeL (x.drop i)).2=1 then .inr ([],false)else .inl (out++[((decodeL (x.drop i)).1:Int)],((i+(decodeL (x.drop i)).2:Nat):Int))
theorem wzf {out:List Int}{i n w least:Nat}(ho:out.length<=5000000)(hi:i<=5000000)(hn:n<=3):
 brn (decide ((w:Int)<(least:Int))) (some (Sum.inr (([]:List Int),false)))
  (brn (decide ((55296:Int)<=(w:Int)))
   (brn (decide ((w:Int)<57344)) (some (Sum.inr ([],false)))
    (brn (decide ((1114111:Int)<(w:Int))) (some (Sum.inr ([],false)))
     (obnd (app 8 out [(w:Int)]) fun zs=>some (Sum.inl (zs,i64.wrap (i64.wrap ((i:Int)+(n:Int))+1))))))
   (brn (decide ((1114111:Int)<(w:Int))) (some (Sum.inr ([],false)))
    (obnd (app 8 out [(w:Int)]) fun zs=>some (Sum.inl (zs,i64.wrap (i64.wrap ((i:Int)+(n:Int))+1)))))) =
  some (if w<least\/(55296<=w/\w<57344)\/1114111<w then Sum.inr ([],false)else Sum.inl (out++[(w:Int)],((i+(n+1):Nat):Int))):=by
 rw[appN (by simp only[List.length_singleton];omega),aza,azW (n:=(i:Int)+(n:Int)) (by omega) (by omega),azW (by omega) (by omega),show(i:Int)+(n:Int)+1=((i+(n+1):Nat):Int) by omega];by_cases h1:w<least
 .rw[dT0 (by omega),azc,if_pos (.inl h1)]
 .rw[dF0 (by omega),azd];by_cases h2:55296<=w
  .rw[dT0 (by omega),azc];by_cases h3:w<57344
   .rw[dT0 (by omega),azc,if_pos (.inr (.inl ⟨h2,h3⟩))]
   .rw[dF0 (by omega),azd];by_cases h4:1114111<w
    .rw[dT0 (by omega),azc,if_pos (.inr (.inr h4))]
    .rw[dF0 (by omega),azd,if_neg (by omega)]
  .rw[dF0 (by omega),azd];by_cases h4:1114111<w
   .rw[dT0 (by omega),azc,if_pos (.inr (.inr h4))]
   .rw[dF0 (by omega),azd,if_neg (by omega)]
theorem b3_is {c:Nat}(h:c<256):mzx ((c:Int),0,0)=some (if c<128 then .inl (0,(c:Int),0)else if 194<=c/\c<224 then .inl (1,((c%32:Nat):Int),128)else if 224<=c/\c<240 then .inl (2,((c%16:Nat):Int),2048)
 else if 240<=c/\c<245 then .inl (3,((c%8:Nat):Int),65536)else .inr ([],false)):=by
 obtain⟨a1,a2,a3,_,_⟩:=bAnd h;unfold mzx;simp only[a1,a2,a3];by_cases h1:c<128
 .rw[dT0 (by omega),azc,if_pos h1]
 .rw[dF0 (by omega),azd,if_neg h1];by_cases h2:194<=c
  .rw[dT0 (by omega),azc];by_cases h3:c<224
   .rw[dT0 (by omega),azc,if_pos ⟨h2,h3⟩]
   .rw[dF0 (by omega),azd,dT0 (by omega),azc,if_neg (by omega)];by_cases h4:c<240
    .rw[dT0 (by omega),azc,if_pos (by omega)]
    .rw[dF0 (by omega),azd,dT0 (by omega),azc,if_neg (by omega)];by_cases h5:c<245
     .rw[dT0 (by omega),azc,if_pos (by omega)]
     .rw[dF0 (by omega),azd,if_neg (by omega)]
  .rw[dF0 (by omega),azd,dF0 (by omega),azd,dF0 (by omega),azd,if_neg (by omega),if_neg (by omega),if_neg (by omega)]
theorem rune_is {x:List UInt8}{out:List Int}{i:Nat}(hl:x.length<=4000000)(ho:out.length<=5000000)(hi:i<x.length):mzw (x,out,(i:Int))=some (oneR x out i):=by
 unfold mzw oneR;have hd:x.drop i=x[i]::x.drop (i+1):=List.drop_eq_getElem_cons hi;have hb0:=(x[i]'hi).toNat_lt;have hL:(x.drop i).length=x.length-i:=by simp
 have hL2:(x.drop (i+1)).length=x.length-i-1:=by simp;omega
 have hD:=decodeL_N (x.drop i);rw[hL,hd]at hD;simp only[List.getD_cons_zero,List.getD_cons_succ]at hD;rw[<-hd]at hD;simp only;rw[idxB (List.getElem?_eq_getElem hi),aza,szU (by omega),b3_is hb0,aza,azW (n:=(x.length:Int)-(i:Int)) (by omega) (by omega),hD];have k0:=((x.drop (i+1)).getD 0 0).toNat_lt;have k1:=((x.drop (i+1)).getD 1 0).toNat_lt;have k2:=((x.drop (i+1)).getD 2 0).toNat_lt;generalize hc:(x[i]'hi).toNat=c at *;have m1:=fun h v=>more1 (l:=x.drop (i+1)) h v
 have m2:=fun h v=>more2 (l:=x.drop (i+1)) h v
 have m3:=fun h v=>more3 (l:=x.drop (i+1)) h v
 have r1:=fun v h h2=>Hzi (x:=x) (i:=i) (n:=1) (v:=v) (by omega) h (by omega) h2
 have r2:=fun v h h2=>Hzi (x:=x) (i:=i) (n:=2) (v:=v) (by omega) h (by omega) h2
 have r3:=fun v h h2=>Hzi (x:=x) (i:=i) (n:=3) (v:=v) (by omega) h (by omega) h2
 generalize ((x.drop (i+1)).getD 0 0).toNat=b1 at *;generalize ((x.drop (i+1)).getD 1 0).toNat=b2 at *;generalize ((x.drop (i+1)).getD 2 0).toNat=b3 at *;by_cases h1:c<128
 .rw[if_pos h1];simp only[osum];have ck:=wzf (out:=out) (i:=i) (n:=0) (w:=c) (least:=0) ho (by omega) (by omega);rw[dF0 (by omega),azd,more0_is,aza];simp only[osum];have z0:((0:Nat):Int)=0:=rfl;rw[z0]at ck;rw[ck,decodeN_ascii _ _ _ _ _ h1,if_neg (by omega),if_neg (by simp;omega)]
 .rw[if_neg h1];by_cases h2:194<=c/\c<224
  .rw[if_pos h2];simp only[osum];by_cases hlen:x.length-i<=1
   .rw[dT0 (by omega),azc];have:decodeN (x.length-i) c b1 b2 b3=(65533,1):=by
     unfold decodeN;rw[if_neg h1,if_neg (by omega),if_neg (by omega),if_neg (by omega)]
    rw[this,if_pos ⟨rfl,rfl⟩]
   .have r:=r1 (c%32) (by omega) (by omega);rw[m1 (by omega)]at r;have ck:=wzf (out:=out) (i:=i) (n:=1) (w:=c%32*64+b1%64) (least:=128) ho (by omega) (by omega);have z1:((1:Nat):Int)=1:=rfl;have z2:((128:Nat):Int)=128:=rfl;rw[z1]at r ck;rw[z2]at ck;rw[dF0 (by omega),azd,r,aza];by_cases hb:b1/64=2
    .rw[if_pos hb];simp only[osum];rw[ck];have:decodeN (x.length-i) c b1 b2 b3=(c%32*64+b1%64,2):=by
      unfold decodeN;rw[if_neg h1,if_pos (by omega),if_pos (by omega)]
     rw[this,if_neg (by omega),if_neg (by simp)]
    .rw[if_neg hb];simp only[osum];have:decodeN (x.length-i) c b1 b2 b3=(65533,1):=by
      unfold decodeN;rw[if_neg h1,if_neg (by omega),if_neg (by omega),if_neg (by omega)]
     rw[this,if_pos ⟨rfl,rfl⟩]
  .rw[if_neg h2];by_cases h3:224<=c/\c<240
   .rw[if_pos h3];simp only[osum];by_cases hlen:x.length-i<=2
    .rw[dT0 (by omega),azc];have:decodeN (x.length-i) c b1 b2 b3=(65533,1):=by
      unfold decodeN;rw[if_neg h1,if_neg (by omega),if_neg (by omega),if_neg (by omega)]
     rw[this,if_pos ⟨rfl,rfl⟩]
    .have r:=r2 (c%16) (by omega) (by omega);rw[m2 (by omega)]at r;have ck:=wzf (out:=out) (i:=i) (n:=2) (w:=(c%16*64+b1%64)*64+b2%64) (least:=2048) ho (by omega) (by omega);have z1:((2:Nat):Int)=2:=rfl;have z2:((2048:Nat):Int)=2048:=rfl;rw[z1]at r ck;rw[z2]at ck;rw[dF0 (by omega),azd,r,aza];by_cases hb:b1/64=2/\b2/64=2
     .rw[if_pos hb];simp only[osum];rw[ck];have e:(c%16*64+b1%64)*64+b2%64=c%16*4096+b1%64*64+b2%64:=by omega
      rw[e];by_cases hv:c%16*4096+b1%64*64+b2%64>=2048/\(c%16*4096+b1%64*64+b2%64<55296\/(57344<=c%16*4096+b1%64*64+b2%64/\c%16*4096+b1%64*64+b2%64<=1114111))
      .have:decodeN (x.length-i) c b1 b2 b3=(c%16*4096+b1%64*64+b2%64,3):=by
        unfold decodeN;rw[if_neg h1,if_neg (by omega),if_pos (by omega),if_pos hv]
       rw[this,if_neg (by omega),if_neg (by simp)]
      .have:decodeN (x.length-i) c b1 b2 b3=(65533,1):=by
        unfold decodeN;rw[if_neg h1,if_neg (by omega),if_pos (by omega),if_neg hv]
       rw[this,if_pos (by omega),if_pos ⟨rfl,rfl⟩]
     .rw[if_neg hb];simp only[osum];have:decodeN (x.length-i) c b1 b2 b3=(65533,1):=by
       unfold decodeN;rw[if_neg h1,if_neg (by omega),if_neg (by omega),if_neg (by omega)]
      rw[this,if_pos ⟨rfl,rfl⟩]
   .rw[if_neg h3];by_cases h4:240<=c/\c<245
    .rw[if_pos h4];simp only[osum];by_cases hlen:x.length-i<=3
     .rw[dT0 (by omega),azc];have:decodeN (x.length-i) c b1 b2 b3=(65533,1):=by
       unfold decodeN;rw[if_neg h1,if_neg (by omega),if_neg (by omega),if_neg (by omega)]
      rw[this,if_pos ⟨rfl,rfl⟩]
     .have r:=r3 (c%8) (by omega) (by omega);rw[m3 (by omega)]at r;have ck:=wzf (out:=out) (i:=i) (n:=3) (w:=((c%8*64+b1%64)*64+b2%64)*64+b3%64) (least:=65536) ho (by omega) (by omega);have z1:((3:Nat):Int)=3:=rfl;have z2:((65536:Nat):Int)=65536:=rfl;rw[z1]at r ck;rw[z2]at ck;rw[dF0 (by omega),azd,r,aza];by_cases hb:b1/64=2/\b2/64=2/\b3/64=2
      .rw[if_pos hb];simp only[osum];rw[ck];have e:((c%8*64+b1%64)*64+b2%64)*64+b3%64=c%8*262144+b1%64*4096+b2%64*64+b3%64:=by omega
       rw[e];by_cases hv:c%8*262144+b1%64*4096+b2%64*64+b3%64>=65536/\(c%8*262144+b1%64*4096+b2%64*64+b3%64<55296\/(57344<=c%8*262144+b1%64*4096+b2%64*64+b3%64/\c%8*262144+b1%64*4096+b2%64*64+b3%64<=1114111))
       .have:decodeN (x.length-i) c b1 b2 b3=(c%8*262144+b1%64*4096+b2%64*64+b3%64,4):=by
         unfold decodeN;rw[if_neg h1,if_neg (by omega),if_neg (by omega),if_pos (by omega),if_pos hv]
        rw[this,if_neg (by omega),if_neg (by simp)]
       .have:decodeN (x.length-i) c b1 b2 b3=(65533,1):=by
         unfold decodeN;rw[if_neg h1,if_neg (by omega),if_neg (by omega),if_pos (by omega),if_neg hv]
        rw[this,if_pos (by omega),if_pos ⟨rfl,rfl⟩]
      .rw[if_neg hb];simp only[osum];have:decodeN (x.length-i) c b1 b2 b3=(65533,1):=by
        unfold decodeN;rw[if_neg h1,if_neg (by omega),if_neg (by omega),if_neg (by omega)]
       rw[this,if_pos ⟨rfl,rfl⟩]
    .rw[if_neg h4];simp only[osum];have:decodeN (x.length-i) c b1 b2 b3=(65533,1):=by
      unfold decodeN;rw[if_neg h1];split
      .rw[if_neg (by omega)]
      .rw[if_neg (by omega)];split
       .rw[if_neg (by omega)]
       .rfl
     rw[this,if_pos ⟨rfl,rfl⟩]
theorem pzP {x:List UInt8}(hl:x.length<=4000000):jzQ x=some (if validD x=true then(rs x,true)else([],false)):=by
 obtain⟨y,h1,h2⟩:=nzQ (F:=mzy) (fun z=>x.length-z.2.2.toNat) (fun z=>∃(i:Nat) (out:List Int),z=(x,out,(i:Int))/\i<=x.length/\out.length<=i/\validD (x.drop i)=validD x/\out++rs (x.drop i)=rs x)
  (fun y=>osum y (fun y=>some (y,true)) (fun y=>some y)=some (if validD x=true then(rs x,true)else([],false))) (by
  rintro back z ⟨i,out,rfl,hi,ho,hv,hr⟩ hb;unfold mzy;simp only at hb ⊢;rcases Nat.lt_or_ge i x.length with hlt|hge
  .have hne:x.drop i≠[]:=fun e=>by have:=congrArg List.length e;simp at this;omega
   have hw:=decodeL_width (x.drop i);have hle:=decodeL_le (x.drop i) hne;rw[List.length_drop]at hle;rw[dT0 (by omega),azc,rune_is (by omega) (by omega) hlt,aza];unfold oneR;rw[validD_step _ hne]at hv;by_cases hbad:(decodeL (x.drop i)).1=65533/\(decodeL (x.drop i)).2=1
   .rw[if_pos hbad]at hv ⊢;rw[<-hv];exact⟨_,rfl,rfl⟩
   .rw[if_neg hbad]at hv ⊢;simp only[osum];rw[List.drop_drop]at hv;refine hb _ ⟨i+(decodeL (x.drop i)).2,_,rfl,by omega,by simp;omega,hv,?_⟩ (by simp only;omega);rw[vzC hne,List.drop_drop]at hr;rw[<-hr,List.append_assoc];rfl
  .rw[dF0 (by omega),azd];refine⟨_,rfl,?_⟩;rw[List.drop_eq_nil_of_le hge]at hv hr;rw[<-hv,<-hr];simp[osum,validD_nil,rs_nil]) (x,[],0) ⟨0,[],rfl,by omega,by simp,by simp,by simp⟩ (by simp only;omega)
 unfold jzQ;have h3:pzu (x,[],0)=some y:=h1;rw[h3,aza];exact h2
open Go Go.Ev Go.Lib
def ulen:List Int->Nat
 | []=>0
 | r::l=>(if r<65536 then 1 else 2)+ulen l
theorem LzN {x:List UInt8}(hl:x.length<=100000000):∃us,jzH x=some us/\us.length=ulen (rs x):=by
 have key:∃y,nzw ([],x,0)=some y/\(y.1.length=ulen (rs x)):=by
  refine nzQ (F:=iz0) (fun z=>x.length-z.2.2) (fun z=>∃(out:List Int) (p:Nat),z=(out,x,p)/\out.length<=2*p/\(p<x.length\/rs (x.drop p)=[])/\out.length+ulen (rs (x.drop p))=ulen (rs x)) _ ?_ _ ⟨[],0,rfl,by simp,by
   by_cases h:x=[]
   .subst h;exact .inr rfl
   .exact .inl (List.length_pos_iff.2 h),by simp⟩ (by simp only;omega)
  rintro back z ⟨out,p,rfl,ho,hp,hv⟩ hb;unfold iz0;simp only at hb ⊢;by_cases hlt:p<x.length
  .have hne:x.drop p≠[]:=fun e=>by have:=congrArg List.length e;simp at this;omega
   have hr:=zz6 x p;have hw:=decodeL_width (x.drop p);have hle:=decodeL_le (x.drop p) hne;rw[List.length_drop]at hle;rw[vzC hne,List.drop_drop]at hv;simp only[ulen]at hv;rw[dT0 hlt,azc,hr];have step:∀us:List Int,us.length=(if((decodeL (x.drop p)).1:Int)<65536 then 1 else 2)->∃y,back (out++us,x,p+(decodeL (x.drop p)).2)=some y/\y.1.length=ulen (rs x):=fun us hus=>by
    refine hb _ ⟨_,_,rfl,?_,?_,?_⟩ (by simp only;omega)
    .simp only[List.length_append,hus];split<;>omega
    .rcases Nat.lt_or_ge (p+(decodeL (x.drop p)).2) x.length with h|h
     .exact .inl h
     .right;rw[List.drop_eq_nil_of_le h];rfl
    .simp only[List.length_append,hus];omega
   have hs:(if((decodeL (x.drop p)).1:Int)<65536 then 1 else 2)<=2:=by split<;>omega
   by_cases h6:((decodeL (x.drop p)).1:Int)<65536
   .rw[dT0 h6,azc,appN (by simp;omega),aza];exact step _ (by rw[if_pos h6];rfl)
   .rw[dF0 h6,azd,appN (by simp;omega),aza];exact step _ (by rw[if_neg h6];rfl)
  .rw[dF0 hlt,azd];rcases hp with h|h
   .exact absurd h hlt
   .rw[h]at hv;exact⟨_,rfl,by simpa[ulen]using hv⟩
 obtain⟨y,h1,h2⟩:=key;refine⟨y.1,?_,h2⟩;unfold jzH;rw[h1];rfl
theorem HzK {l:List Int}(hl:l.length<=4000000):∃us,hz9 l=some us/\us.length=ulen l:=by
 have key:∃y,mzz (l,[],0)=some y/\(y.length=ulen l):=by
  refine nzQ (F:=gzi) (fun z=>l.length-z.2.2.toNat) (fun z=>∃(out:List Int) (i:Nat),z=(l,out,(i:Int))/\i<=l.length/\out.length<=2*i/\out.length+ulen (l.drop i)=ulen l) _ ?_ _ ⟨[],0,rfl,by omega,by simp,by simp⟩ (by simp only;omega);rintro back z ⟨out,i,rfl,hi,ho,hv⟩ hb;unfold gzi;simp only at hb ⊢;rcases Nat.lt_or_ge i l.length with hlt|hge
  .have hd:l.drop i=l[i]::l.drop (i+1):=List.drop_eq_getElem_cons hlt;rw[hd]at hv;simp only[ulen]at hv;rw[dT0 (by omega),azc,idxI (List.getElem?_eq_getElem hlt)];simp only[aza];generalize l[i]=r at *;rw[azW (n:=(i:Int)+1) (by omega) (by omega)];have step:∀us:List Int,us.length=(if r<65536 then 1 else 2)->∃y,back (l,out++us,(i:Int)+1)=some y/\y.length=ulen l:=fun us hus=>by
    refine hb _ ⟨_,i+1,by simp;rfl,by omega,?_,?_⟩ (by simp only;omega)
    .simp only[List.length_append,hus];split<;>omega
    .simp only[List.length_append,hus];omega
   by_cases h6:r<65536
   .rw[dT0 h6,azc,appN (by simp;omega),aza];exact step _ (by rw[if_pos h6];rfl)
   .rw[dF0 h6,azd,appN (by simp;omega),aza];exact step _ (by rw[if_neg h6];rfl)
  .rw[dF0 (by omega),azd];rw[List.drop_eq_nil_of_le hge]at hv;exact⟨_,rfl,by simpa[ulen]using hv⟩
 obtain⟨y,h1,h2⟩:=key;refine⟨y,?_,h2⟩;unfold hz9;rw[h1];rfl
def dzC (x:List UInt8):Int×Int:=if validD x=true then(if 1000<ulen (rs x)then(0,4)else((ulen (rs x):Int),0))else(0,2)
theorem Jzp {x:List UInt8}(hl:x.length<=100000000):hz5 x=some (dzC x):=by
 unfold hz5 dzC;rw[aza];cases hv:validD x with
 | false=>simp
 | true =>
  obtain⟨us,h1,h2⟩:=LzN hl;rw[Bool.not_true,azd,h1,aza,h2];by_cases h:1000<ulen (rs x)
  .rw[dT0 (by omega),azc];simp[h]
  .rw[dF0 (by omega),azd];simp[h]
theorem lzu {x:List UInt8}(hl:x.length<=4000000):gzz x=some (dzC x):=by
 unfold gzz dzC;rw[pzP (by omega),aza];cases hv:validD x with
 | false=>simp
 | true =>
  obtain⟨us,h1,h2⟩:=HzK (l:=rs x) (by have:=tzJ x;omega);simp only[if_true,Bool.not_true,azd];rw[h1,aza,h2];by_cases h:1000<ulen (rs x)
  .rw[dT0 (by omega),azc,if_pos h]
  .rw[dF0 (by omega),azd,if_neg h]
open Go Go.Ev Go.Lib
set_option linter.unusedSimpArgs false
theorem wze {x:Val}(hl:x.S.length<=3000):∃e,mzM x=some e/\bzZ x=some e/\(e=0->okV x):=by
 obtain⟨K,⟨M,S⟩,s,B,E⟩:=x;simp only at hl;unfold mzM bzZ;simp only;by_cases k0:K<0
 .exact⟨1,by simp[k0],by simp[k0],by omega⟩
 by_cases k4:4<K
 .exact⟨1,by simp[k0,k4],by simp[k0,k4],by omega⟩
 rw[dF0 k0,dF0 k4];simp only[azd];have hK:K=0\/K=1\/K=2\/K=3\/K=4:=by omega
 have hun:=Jzp (x:=s) (by omega);have hru:=lzu (x:=s) (by omega);obtain⟨n,hn⟩:=name_is E;have hn':pzl E=some n:=hn;rcases hK with rfl|rfl|rfl|rfl|rfl
 .unfold nzK dzX;by_cases hM:M=0<;>by_cases hS:S=0<;>by_cases hs:s=[]<;>cases B<;>by_cases hE:E=0<;>simp[hM,hS,hs,hE,okV,vB]
 .unfold nzK dzX;have hc:wzi ⟨M,S⟩=izj ⟨M,S⟩:=rfl;rcases KzY ⟨M,S⟩with⟨h1,h2⟩|⟨e,h1,h2⟩
  .by_cases hs:s=[]<;>cases B<;>by_cases hE:E=0<;>simp[hs,hE,hc,h1,okV,vB,vN,vS,vT,vE,h2]
  .by_cases hs:s=[]<;>cases B<;>by_cases hE:E=0<;>simp[hs,hE,hc,h1,h2]
 .unfold nzK dzX;by_cases hM:M=0<;>by_cases hS:S=0<;>cases B<;>by_cases hE:E=0<;>simp[hM,hS,hE,hun,hru,okV,vB,vN,vS,vT,vE];unfold dzC;cases hv:validD s with
  | true=>simp
  | false=>simp
 .unfold nzK dzX;by_cases hM:M=0<;>by_cases hS:S=0<;>by_cases hs:s=[]<;>cases B<;>by_cases hE:E=0<;>simp[hM,hS,hs,hE,okV,vB,vN,vS,vT,vE]
 .unfold nzK dzX wz8;by_cases hn0:n=[]<;>by_cases hM:M=0<;>by_cases hS:S=0<;>by_cases hs:s=[]<;>cases B<;>simp[hM,hS,hs,hn,hn',hn0,okV,vB,vN,vS,vT,vE]
end Go.Proofs.YtkafbjodbjkieaaGreatDoor
/- PA -/
namespace Go.Proofs.YtkafbjodbjkieaaGreatDoor
open Go Go.Ev Go.Lib
open Go.IntKind (i64 u64 u8 i32 u32 i16 u16)
def mzm {A S Y:Type}(step:S->A->S⊕Y)(fin:S->Y):S->List A->Y
 | s,[]=>fin s
 | s,a::l=>match step s a with
  | .inl s'=>mzm step fin s' l
  | .inr y=>y
def wzg {S Y Z:Type}(b:S->Option Z)(g:Y->Z):S⊕Y->Option Z
 | .inl s=>b s
 | .inr y=>some (g y)
theorem bzL {A S X Y Z:Type}{F:(X->Option Z)->X->Option Z}(mk:S->Nat->X)(g:Y->Z)(l:List A)(step:S->A->S⊕Y)(fin:S->Y)(Pre:S->Nat->Prop)
 (hl:l.length<=1000000000)
 (h:∀back s i (hi:i<l.length),Pre s i->F back (mk s i)=wzg (fun s'=>back (mk s' (i+1))) g (step s l[i]))
 (hp:∀s i (hi:i<l.length) s',Pre s i->step s l[i] = .inl s'->Pre s' (i+1))
 (hend:∀back s,Pre s l.length->F back (mk s l.length)=some (g (fin s))) (s:S) (h0:Pre s 0):iter F big (mk s 0)=some (g (mzm step fin s l)):=by
 have key:∀k n i s,i+k=l.length->k<n->Pre s i->iter F n (mk s i)=some (g (mzm step fin s (l.drop i))):=by
  intro k;induction k with
  | zero =>
   intro n i s hi hn hs;obtain⟨m,rfl⟩:∃m,n=m+1:=⟨n-1,by omega⟩;have:i=l.length:=by omega
   subst this;rw[azN,hend _ _ hs,List.drop_length];rfl
  | succ k ih =>
   intro n i s hi hn hs;obtain⟨m,rfl⟩:∃m,n=m+1:=⟨n-1,by omega⟩;have hlt:i<l.length:=by omega
   rw[azN,h _ _ _ hlt hs,List.drop_eq_getElem_cons hlt];simp only[mzm];cases hst:step s l[i]with
   | inl s'=>exact ih m (i+1) s' (by omega) (by omega) (hp _ _ hlt _ hs hst)
   | inr y=>rfl
 have:=key l.length big 0 s (by omega) (by rw[ezd];omega) h0;simpa using this
theorem yz2 {A X Z:Type}{F:(X->Option Z)->X->Option Z}(mk:Nat->X)(g:Option Nat->Z)(l:List A)(p:A->Bool)(hl:l.length<=1000000000)
 (h:∀back i (hi:i<l.length),F back (mk i)=bif p l[i]then some (g (some i))else back (mk (i+1)))
 (hend:∀back,F back (mk l.length)=some (g none)):iter F big (mk 0)=some (g (l.findIdx? p)):=by
 have key:∀k n i,i+k=l.length->k<n->iter F n (mk i)=some (g (((l.drop i).findIdx? p).map (·+i))):=by
  intro k;induction k with
  | zero =>
   intro n i hi hn;obtain⟨m,rfl⟩:∃m,n=m+1:=⟨n-1,by omega⟩;have:i=l.length:=by omega
   subst this;rw[azN,hend,List.drop_length];rfl
  | succ k ih =>
   intro n i hi hn;obtain⟨m,rfl⟩:∃m,n=m+1:=⟨n-1,by omega⟩;have hlt:i<l.length:=by omega
   rw[azN,h _ _ hlt,List.drop_eq_getElem_cons hlt,List.findIdx?_cons];cases hpl:p l[i]with
   | true=>simp
   | false =>
    simp only[cond_false];rw[ih m (i+1) (by omega) (by omega)];simp only[Bool.false_eq_true,if_false,Option.map_map];congr 3;funext j;simp only[Function.comp];omega
 have:=key l.length big 0 (by omega) (by rw[ezd];omega);simpa using this
theorem idxG {A:Type}{l:List A}{i:Nat}(hi:i<l.length):idx l (i:Int)=some l[i]:=by simp[idx,hi]
theorem wr1 {i:Nat}(h:i<1000000000):i64.wrap ((i:Int)+1)=((i+1:Nat):Int):=by
 simp[IntKind.wrap,IntKind.bits,IntKind.signed];omega
theorem ltT {i n:Nat}(h:i<n):decide ((i:Int)<(n:Int))=true:=dT0 (by omega)
theorem ltF {n:Nat}:decide ((n:Int)<(n:Int))=false:=dF0 (by omega)
theorem czX {A S Y:Type}(f:S->A->S)(fin:S->Y):∀(l:List A) (s:S),mzm (fun s a=>.inl (f s a)) fin s l=fin (l.foldl f s)
 | [],_=>rfl
 | a::l,s=>by simp only[mzm,List.foldl_cons];exact czX f fin l _
def sz:Nat->Expr->Nat
 | 0,_=>1
 | d+1,e=>1+(e.Kids.map (sz d)).sum
def tr:Nat->Expr->Prop
 | 0,_=>False
 | d+1,e=>e.V.S.length<=3000/\∀k∈e.Kids,tr d k
theorem Gzo:∀d e,1<=sz d e
 | 0,_=>Nat.le_refl _
 | d+1,e=>by unfold sz;omega
theorem Hzh:∀(l:List Expr) (f:Expr->Nat),(∀k∈l,1<=f k)->l.length<=(l.map f).sum
 | [],_,_=>by simp
 | k::l,f,h=>by
  have h1:=Hzh l f fun x hx=>h x (by simp[hx])
  have h2:=h k (by simp);rw[List.map_cons,List.sum_cons,List.length_cons];omega
theorem Gz4 (d:Nat)(e:Expr):e.Kids.length+1<=sz (d+1) e:=by
 have:=Hzh e.Kids (sz d) fun k _=>Gzo d k
 unfold sz;omega
theorem mem_sum:∀{l:List Expr} {f:Expr->Nat} {k:Expr},k∈l->f k<=(l.map f).sum
 | x::l,f,k,h=>by
  rw[List.map_cons,List.sum_cons];rcases List.mem_cons.1 h with rfl|h
  .omega
  .have:=mem_sum (f:=f) h;omega
theorem kid_sz {d:Nat}{e k:Expr}(h:k∈e.Kids):sz d k+1<=sz (d+1) e:=by
 have:=mem_sum (f:=sz d) h
 show sz d k+1<=1+(e.Kids.map (sz d)).sum
 omega
theorem JzR {self:Expr×Int×Int×Int->Option (Bool×Int)}{d m:Nat}{e:Expr}(hm:m<=1000)(hd:d<=1000)
 (hs:∀k∈e.Kids,∀n:Nat,n<=m->∃b n',self (k,(d:Int),(m:Int),(n:Int))=some (b,((n':Nat):Int))/\(b=true->n'<=m/\n+sz d k<=n'/\tr d k)) :
 ∀t N (n i:Nat),t<N->m<n+t->n<=m->i<=n->i<=e.Kids.length->∃r,iter (izY self) N (((d+1:Nat):Int),(m:Int),(n:Int),e,(i:Int))=some r /\
  (∀n',r = .inl ((),n')->∃n2:Nat,n'=n2/\n2<=m/\n+((e.Kids.drop i).map (sz d)).sum<=n2/\∀k∈e.Kids.drop i,tr d k)/\∀b n',r = .inr (b,n')->b=false/\∃n2:Nat,n'=n2
 | 0,_,n,i,_,h,h',_,_=>absurd h (by omega)
 | t+1,0,_,_,h,_,_,_,_=>absurd h (by omega)
 | t+1,N+1,n,i,hN,ht,hn,hin,hi=>by
  rw[azN];generalize hB:iter (izY self) N=B;unfold izY;simp only[azp];by_cases hlt:i<e.Kids.length
  .rw[ltT hlt,azc,idxG hlt,aza,show((d+1:Nat):Int)-1=((d:Nat):Int) by omega,azW (by omega) (by omega)];obtain⟨b,n1,h1,h2⟩:=hs _ (List.getElem_mem hlt) n hn;rw[h1,aza];cases b with
   | false=>exact⟨_,rfl,(fun n' h=>by cases h),fun b n' h=>by cases h;exact⟨rfl,_,rfl⟩⟩
   | true =>
    obtain⟨h3,h4,h5⟩:=h2 rfl;have sp:=Gzo d e.Kids[i];simp only[Bool.not_true,azd];rw[wr1 (by omega)];obtain⟨r,e1,e2,e3⟩:=JzR hm hd hs t N n1 (i+1) (by omega) (by omega) h3 (by omega) hlt;rw[hB]at e1;refine⟨r,e1,fun n' h=>?_,e3⟩;obtain⟨n2,a1,a2,a3,a4⟩:=e2 n' h;rw[List.drop_eq_getElem_cons hlt];refine⟨n2,a1,a2,by rw[List.map_cons,List.sum_cons];omega,fun k hk=>?_⟩;rcases List.mem_cons.1 hk with rfl|hk
    .exact h5
    .exact a4 k hk
  .have hi:i=e.Kids.length:=by omega
   subst hi;rw[ltF,azd];refine⟨_,rfl,fun n' h=>?_,fun b n' h=>by cases h⟩;cases h;exact⟨n,rfl,hn,by simp,by simp⟩
theorem few_is:∀(d N:Nat) (e:Expr) (m n:Nat),d<N->d<=1000->m<=1000->n<=m->∃b n',iter fzg N (e,(d:Int),(m:Int),(n:Int))=some (b,((n':Nat):Int))/\(b=true->n'<=m/\n+sz d e<=n'/\tr d e)
 | _,0,_,_,_,h,_,_,_=>absurd h (by omega)
 | 0,N+1,e,m,n,_,_,hm,hn=>by
  rw[azN];unfold fzg;simp only;rw[wr1 (by omega)];exact⟨false,_,rfl,fun h=>by cases h⟩
 | d+1,N+1,e,m,n,hN,hd,hm,hn=>by
  rw[azN];generalize hS:iter fzg N=S;unfold fzg;simp only[azp];rw[wr1 (by omega),dF0 (show ¬((d+1:Nat):Int)=0 by omega),azd];by_cases h1:(m:Int)<((n+1:Nat):Int)
  .rw[dT0 h1];exact⟨false,_,rfl,fun h=>by cases h⟩
  rw[dF0 h1,azd];by_cases h2:3000<((e.V.S.length:Nat):Int)
  .rw[dT0 h2];exact⟨false,_,rfl,fun h=>by cases h⟩
  rw[dF0 h2,azd];obtain⟨r,e1,e2,e3⟩:=JzR (self:=S) (d:=d) (m:=m) (e:=e) hm (by omega)
   (fun k _ n hn=>by
    obtain⟨b,n',a1,a2⟩:=few_is d N k m n (by omega) (by omega) hm hn;rw[<-hS];exact⟨b,n',a1,a2⟩) (m+1) big (n+1) 0 (by rw[ezd];omega) (by omega) (by omega) (by omega) (by omega)
  rw[show qzx S (((d+1:Nat):Int),(m:Int),((n+1:Nat):Int),e,0)=some r from e1,aza];rcases r with⟨_,n2⟩|⟨b,n2⟩
  .obtain⟨n3,rfl,a2,a3,a4⟩:=e2 n2 rfl;refine⟨true,n3,rfl,fun _=>⟨a2,?_,?_⟩⟩
   .show n+(1+(e.Kids.map (sz d)).sum)<=n3
    rw[List.drop_zero]at a3;omega
   .rw[List.drop_zero]at a4;exact⟨by omega,a4⟩
  .obtain⟨rfl,n3,rfl⟩:=e3 _ _ rfl;exact⟨false,n3,rfl,fun h=>by cases h⟩
theorem Few_is {e:Expr}{m:Nat}(hm:m<=1000):∃b,iz5 (e,(m:Int))=some b/\(b=true->sz 40 e<=m/\tr 40 e):=by
 obtain⟨b,n,h1,h2⟩:=few_is 40 big e m 0 (by rw[ezd];omega) (by omega) hm (by omega);unfold iz5;simp only[azp];have h1:wzt (e,40,(m:Int),0)=some (b,(n:Int)):=h1;rw[h1,aza];exact⟨b,rfl,fun h=>by obtain⟨a1,a2,a3⟩:=h2 h;exact⟨by omega,a3⟩⟩
theorem ozV {d:Nat}{e k:Expr}(h:tr (d+1) e)(hk:k∈e.Kids):tr d k:=h.2 k hk
theorem lenK {d m:Nat}{e:Expr}(h:sz (d+1) e<=m):e.Kids.length<m:=by have:=Gz4 d e;omega
theorem szK {d m:Nat}{e k:Expr}(h:sz (d+1) e<=m)(hk:k∈e.Kids):sz d k<=m:=by have:=kid_sz (d:=d) hk;omega
def okK (e:Expr):Prop:=1<=e.Kind/\e.Kind<=10/\(e.Kind=1->bzZ e.V=some 0)/\(e.Kind=7->e.Kids.length=1)/\(e.Kind=8->e.Kids.length=2)/\(e.Kind=10->e.Kids.length=1)/\e.Kids.length<=30/\(2<=e.Kind->e.Kind<=5->bz2 e.A=some 0)
theorem b2_tot (x:Expr×Bool×Int×Bool×Bool×Int):∃b,kzf x=some b:=by
 unfold kzf
 repeat' apply ezm
 all_goals exact⟨_,rfl⟩
theorem b3_tot (x:Expr×Bool):∃b,dzE x=some b:=by
 unfold dzE
 repeat' apply ezm
 all_goals exact⟨_,rfl⟩
theorem Jzt (a:Area):∃b,bz2 a=some b:=by
 have h:∀r,∃b,hzm r=some b:=fun r=>by
  have:∃g,ezv ⟨r.Row,r.Col⟩=some g:=by
   unfold ezv
   repeat' apply ezm
   all_goals exact⟨_,rfl⟩
  obtain⟨g,hg⟩:=this;unfold hzm;rw[hg,aza];exact ezm ⟨_,rfl⟩ ⟨_,rfl⟩
 obtain⟨x,hx⟩:=h a.A;obtain⟨y,hy⟩:=h a.B;unfold bz2;rw[hx,aza,hy,aza];exact ezm ⟨_,rfl⟩ ⟨_,rfl⟩
theorem b5_kids {e:Expr}{k lo hi:Int}{b:Bool}(h:bzC (e,k,lo,hi)=some b)(hb:b=false):(0<k->e.Kids.length=k)/\e.Kids.length<=30:=by
 subst hb;unfold bzC at h;by_cases h1:e.Op<lo
 .simp[h1]at h
 by_cases h2:hi<e.Op
 .simp[h1,h2]at h
 by_cases h3:0<k
 .by_cases h4:(e.Kids.length:Int)=k
  .simp[h1,h2,h3,h4]at h;exact⟨fun _=>h4,by omega⟩
  .simp[h1,h2,h3,h4]at h
 .simp[h1,h2,h3]at h;exact⟨fun c=>absurd c h3,by omega⟩
theorem b5_tot (x:Expr×Int×Int×Int):∃b,bzC x=some b:=by
 unfold bzC
 repeat' apply ezm
 all_goals exact⟨_,rfl⟩
theorem tail_is (e:Expr)(s:Bool)(k:Int):∃r,(obnd (dzE (e,s)) fun y=>brn y (some 1) (obnd (dzF (0,0,e.Kind)) fun y_4=>obnd (bzC (e,k,y_4)) fun y=>brn y (some (1:Int)) (some 0)))=some r/\(r=0->(0<k->e.Kids.length=k)/\e.Kids.length<=30):=by
 obtain⟨b,hb⟩:=b3_tot (e,s);rw[hb,aza];cases b with
 | true=>exact⟨_,rfl,fun h=>by cases h⟩
 | false =>
  have:∃z,dzF (0,0,e.Kind)=some z:=by
   unfold dzF
   repeat' apply ezm
   all_goals exact⟨_,rfl⟩
  obtain⟨z,hz⟩:=this;obtain⟨c,hc⟩:=b5_tot (e,k,z);rw[azd,hz,aza,hc,aza];cases c with
  | true=>exact⟨_,rfl,fun h=>by cases h⟩
  | false=>exact⟨_,rfl,fun _=>b5_kids hc rfl⟩
theorem Hzj {e:Expr}(hl:e.V.S.length<=3000):∃r,ezy e=some r/\(r=0->okK e):=by
 unfold ezy;simp only[azp];unfold izi;by_cases h1:e.Kind<1
 .rw[dT0 h1];exact⟨1,rfl,fun h=>by cases h⟩
 by_cases h2:10<e.Kind
 .rw[dF0 h1,dT0 h2];exact⟨1,rfl,fun h=>by cases h⟩
 rw[dF0 h1,dF0 h2];simp only[azd,aza];have hy:∃y,kzi e.Kind=some y/\(e.Kind=1->y.1=true)/\(e.Kind=7->y.2.2.2.2=1)/\(e.Kind=8->y.2.2.2.2=2)/\(e.Kind=10->y.2.2.2.2=1)/\(2<=e.Kind->e.Kind<=5->0<y.2.1):=by
  rcases(show e.Kind=1\/e.Kind=2\/e.Kind=3\/e.Kind=4\/e.Kind=5\/e.Kind=6\/e.Kind=7\/e.Kind=8\/e.Kind=9\/e.Kind=10 by omega)with h|h|h|h|h|h|h|h|h|h<;>rw[h]<;>exact⟨_,rfl,by decide,by decide,by decide,by decide,by decide⟩
 obtain⟨y,hs,k1,k7,k8,k10,kA⟩:=hy;rw[hs,aza];obtain⟨b,hb⟩:=b2_tot (e,y.1,y.2.1,y.2.2.1,y.2.2.2);rw[hb,aza];cases b with
 | true=>exact⟨_,rfl,fun h=>by cases h⟩
 | false =>
  rw[azd];obtain⟨t,ht,htk⟩:=tail_is e y.2.2.1 y.2.2.2.2;have ok:(e.Kind=1->bzZ e.V=some 0)->(0<y.2.1->bz2 e.A=some 0)->t=0->okK e:=fun hv hA h0=>by
   obtain⟨a1,a2⟩:=htk h0;refine⟨by omega,by omega,hv,fun h=>?_,fun h=>?_,fun h=>?_,a2,fun b1 b2=>hA (kA b1 b2)⟩
   .have:=a1 (by rw[k7 h];omega);rw[k7 h]at this;omega
   .have:=a1 (by rw[k8 h];omega);rw[k8 h]at this;omega
   .have:=a1 (by rw[k10 h];omega);rw[k10 h]at this;omega
  obtain⟨g,hg⟩:=Jzt e.A;rw[hg,ht];cases hv:y.1 with
  | true =>
   obtain⟨c,_,hc,_⟩:=wze hl;rw[azc,hc,aza];by_cases h0:c=0
   .subst h0;rw[dT0 rfl];simp only[Bool.not_true,azd];by_cases hk:e.V.Kind=0
    .rw[dT0 hk];exact⟨_,rfl,fun h=>by cases h⟩
    rw[dF0 hk,azd];by_cases hp:0<y.2.1
    .rw[dT0 hp,azc,aza];by_cases hgg:g=0
     .rw[dT0 hgg];exact⟨t,rfl,ok (fun _=>hc) fun _=>by rw[hg,hgg]⟩
     .rw[dF0 hgg];exact⟨_,rfl,fun h=>by cases h⟩
    .rw[dF0 hp];exact⟨t,rfl,ok (fun _=>hc) fun c=>absurd c hp⟩
   .rw[dF0 h0];exact⟨c,rfl,fun h=>absurd h h0⟩
  | false =>
   have nv:e.Kind=1->bzZ e.V=some 0:=fun h=>by rw[k1 h]at hv;cases hv
   rw[azd];by_cases hp:0<y.2.1
   .rw[dT0 hp,azc,aza];by_cases hgg:g=0
    .rw[dT0 hgg];exact⟨t,rfl,ok nv fun _=>by rw[hg,hgg]⟩
    .rw[dF0 hgg];exact⟨_,rfl,fun h=>by cases h⟩
   .rw[dF0 hp];exact⟨t,rfl,ok nv fun c=>absurd c hp⟩
theorem bz8 {X Z:Type}{F:(X->Option Z)->X->Option Z}(mk:Nat->X)(n:Nat)(C:Nat->Prop)(Q:Z->Prop)(z0:Z)(hn:n<=1000000000)
 (h:∀back i,i<n->(F back (mk i)=back (mk (i+1))/\C i)\/∃z,F back (mk i)=some z/\Q z) (hend:∀back,F back (mk n)=some z0) :
 ∃z,iter F big (mk 0)=some z/\(Q z\/z=z0/\∀i,i<n->C i):=by
 have key:∀k N i,i+k=n->k<N->∃z,iter F N (mk i)=some z/\(Q z\/z=z0/\∀j,i<=j->j<n->C j):=by
  intro k;induction k with
  | zero =>
   intro N i hi hN;obtain⟨m,rfl⟩:∃m,N=m+1:=⟨N-1,by omega⟩;have:i=n:=by omega
   subst this;exact⟨z0,by rw[azN,hend],.inr ⟨rfl,fun j h1 h2=>absurd h2 (by omega)⟩⟩
  | succ k ih =>
   intro N i hi hN;obtain⟨m,rfl⟩:∃m,N=m+1:=⟨N-1,by omega⟩;rcases h (iter F m) i (by omega)with⟨h1,h2⟩|⟨z,h1,h2⟩
   .obtain⟨z,e1,e2⟩:=ih m (i+1) (by omega) (by omega);refine⟨z,by rw[azN,h1,e1],?_⟩;rcases e2 with e2|⟨hz,e2⟩
    .exact .inl e2
    .refine .inr ⟨hz,fun j a b=>?_⟩;by_cases c:j=i
     .rw[c];exact h2
     .exact e2 j (by omega) b
   .exact⟨z,by rw[azN,h1],.inl h2⟩
 obtain⟨z,e1,e2⟩:=key n big 0 (by omega) (by rw[ezd];omega);rcases e2 with e2|⟨hz,e2⟩
 .exact⟨z,e1,.inl e2⟩
 .exact⟨z,e1,.inr ⟨hz,fun j hj=>e2 j (by omega) hj⟩⟩
def pre:Nat->Int->Expr->List Node2
 | 0,_,_=>[]
 | d+1,k,e=>⟨e,k⟩::e.Kids.flatMap (pre d (k+1))
theorem pre_len:∀(d:Nat) (k:Int) (e:Expr),tr d e->(pre d k e).length=sz d e
 | 0,_,_,h=>h.elim
 | d+1,k,e,h=>by
  have key:∀l:List Expr,(∀x∈l,tr d x)->(l.flatMap (pre d (k+1))).length=(l.map (sz d)).sum:=fun l=>by
   induction l with
   | nil=>intro _;rfl
   | cons x l ih =>
    intro h;rw[List.flatMap_cons,List.length_append,List.map_cons,List.sum_cons,pre_len d (k+1) x (h x (by simp)),ih fun y hy=>h y (by simp[hy])]
  show(_::_:List Node2).length=1+_
  rw[List.length_cons,key e.Kids h.2];omega
theorem inbL {n k:Nat}(h:k<n)(h1:n<=1000000):inb n (i64.wrap ((((k+1:Nat):Int))-1))=some k:=by
 rw[azW (by omega) (by omega)];unfold inb;rw[dT0 (by omega),dT0 (by omega)];simp
theorem sub0 {A:Type}{zs:List A}{a:A}(h:zs.length<=1000000):sub (zs++[a]) 0 (i64.wrap ((((zs++[a]).length:Nat):Int)-1))=some zs:=by
 rw[List.length_append,List.length_singleton,azW (by omega) (by omega)];unfold sub;rw[dT0 (by omega),dT0 (by omega),dT0 (by simp;omega)];have:(((zs.length+1:Nat):Int)-1).toNat=zs.length:=by omega
 simp only[Bool.and_self,cond_true,this];simp
theorem EzY {e:Expr}{k:Int}{ks:List Expr}(hk:0<=k/\k<=1000):∀(l:List (Int×Expr)) (zs:List Node2),zs.length+l.length<=100000 ->
 mz8 izW l (zs,(),⟨e,k⟩,ks)=some (zs++l.map (fun p=>⟨p.2,k+1⟩),(),⟨e,k⟩,ks)
 | [],zs,_=>by simp[mz8]
 | p::l,zs,h=>by
  simp only[List.length_cons]at h;have e1:izW p (zs,(),⟨e,k⟩,ks)=some (zs++[⟨p.2,k+1⟩],(),⟨e,k⟩,ks):=by
   unfold izW;simp only[azp];rw[appN (by simp;omega),aza,azW (by omega) (by omega)]
  rw[mz8,e1,aza,EzY hk l _ (by simp;omega)];simp
theorem revs_kids {A:Type}(l:List A)(f:A->Node2):(revs l).map (fun p=>f p.2)=(l.map f).reverse:=by
 unfold revs;rw[List.map_reverse,List.map_map];congr 1;have:((fun p:Int×A=>f p.2) ∘ fun p:A×Nat=>((p.2:Int),p.1))=f ∘ Prod.fst:=rfl;rw[this,<-List.map_map,List.zipIdx_map_fst]
theorem kids_is {e:Expr}{k:Int}{zs:List Node2}(hk:0<=k/\k<=1000)(hz:zs.length+e.Kids.length<=100000):
 kz8 (zs,(),⟨e,k⟩,e.Kids)=some (zs++(e.Kids.map fun x=>(⟨x,k+1⟩:Node2)).reverse,()):=by
 unfold kz8 nzj qzw;have hl:(revs e.Kids).length=e.Kids.length:=by simp[revs]
 rw[EzY hk _ _ (by rw[hl];exact hz),aza,revs_kids e.Kids fun x=>⟨x,k+1⟩]
theorem step_is {e:Expr}{k:Int}{zs out:List Node2}{back:List Node2×List Node2×Unit->Option ((List Node2×List Node2)×Unit)}(hk:0<=k/\k<=1000)(hz:zs.length+e.Kids.length<=100000)(ho:out.length<=100000):
 hzl back (zs++[⟨e,k⟩],out,())=obnd (back (zs++(e.Kids.map fun x=>(⟨x,k+1⟩:Node2)).reverse,out++[⟨e,k⟩],())) fun y=>some (y.1,()):=by
 unfold hzl;simp only[azp];have hl1:(zs++[(⟨e,k⟩:Node2)]).length=zs.length+1:=by simp
 have e1:nth (zs++[(⟨e,k⟩:Node2)]) zs.length=some ⟨e,k⟩:=by unfold nth;simp
 have e2:sub (zs++[(⟨e,k⟩:Node2)]) 0 (i64.wrap (((zs.length+1:Nat):Int)-1))=some zs:=by
  have:=sub0 (zs:=zs) (a:=(⟨e,k⟩:Node2)) (by omega);rw[hl1]at this;exact this
 have e3:bzp e.Kids=some e.Kids:=rfl;rw[dF0 (by rw[hl1];omega),azd,hl1,inbL (by omega) (by omega),aza,Nat.zero_add,e1,aza,e2,aza,appN (by simp;omega),aza];simp only;rw[e3,aza,kids_is hk hz,aza]
abbrev Pl:=Nat×Int×Expr
def ofP (p:Pl):Node2:=⟨p.2.2,p.2.1⟩
def okP (p:Pl):Prop:=tr p.1 p.2.2/\0<=p.2.1/\p.2.1+p.1<=1000
def tot (S:List Pl):Nat:=(S.map fun p=>sz p.1 p.2.2).sum
theorem IzG:∀(n N:Nat) (S:List Pl) (out:List Node2),tot S<=n->n<N->(∀p∈S,okP p)->out.length+n<=10000 ->
 iter hzl N ((S.map ofP).reverse,out,())=some (([],out++S.flatMap fun p=>pre p.1 p.2.1 p.2.2),())
 | n,0,_,_,_,h,_,_=>by omega
 | n,N+1,[],out,_,_,_,_=>by
  rw[azN];unfold hzl;simp
 | n,N+1,(0,k,e)::S,out,_,_,h,_=>False.elim (h (0,k,e) (by simp)).1
 | n,N+1,(d+1,k,e)::S,out,hn,hN,h,ho=>by
  obtain⟨ht,hk0,hk1⟩:=h (d+1,k,e) (by simp);simp only at ht hk0 hk1;have hS:S.length<=tot S:=by
   have:=Hzh;clear hn hN h ho ht hk0 hk1;induction S with
   | nil=>simp[tot]
   | cons p S ih =>
    have:=Gzo p.1 p.2.2;simp only[tot,List.map_cons,List.sum_cons,List.length_cons]at ih ⊢;omega
  have ht0:tot ((d+1,k,e)::S)=sz (d+1) e+tot S:=by simp[tot]
  have hkz:=Gz4 d e;rw[ht0]at hn;have hlen:((S.map ofP).reverse).length=S.length:=by simp
  have e0:(((d+1,k,e)::S).map ofP).reverse=(S.map ofP).reverse++[⟨e,k⟩]:=by simp[ofP]
  have e5:tot ((e.Kids.map fun x=>((d,k+1,x):Pl))++S)+1=sz (d+1) e+tot S:=by
   simp only[tot,List.map_append,List.sum_append,List.map_map]
   show _=1+(e.Kids.map (sz d)).sum+_
   have:((fun p:Pl=>sz p.1 p.2.2) ∘ fun x=>((d,k+1,x):Pl))=sz d:=rfl;rw[this];omega
  have ih:=IzG (n-1) N ((e.Kids.map fun x=>((d,k+1,x):Pl))++S) (out++[⟨e,k⟩]) (by omega) (by omega) (fun p hp=>by
   rcases List.mem_append.1 hp with hp|hp
   .obtain⟨x,hx,rfl⟩:=List.mem_map.1 hp;exact⟨ht.2 x hx,by simp only;omega,by simp only;omega⟩
   .exact h p (by simp[hp])) (by simp;omega)
  have e4:(S.map ofP).reverse++(e.Kids.map fun x=>(⟨x,k+1⟩:Node2)).reverse=(((e.Kids.map fun x=>((d,k+1,x):Pl))++S).map ofP).reverse:=by
   rw[List.map_append,List.reverse_append,List.map_map];rfl
  rw[e0,azN,step_is ⟨hk0,by omega⟩ (by omega) (by omega),e4,ih,aza];rw[List.flatMap_append,List.flatMap_cons,List.append_assoc];have:((e.Kids.map fun x=>((d,k+1,x):Pl)).flatMap fun p=>pre p.1 p.2.1 p.2.2)=e.Kids.flatMap (pre d (k+1)):=by
   rw[List.flatMap_map]
  rw[this];simp[pre]
theorem walkF_is {e:Expr}(hs:sz 40 e<=1000)(ht:tr 40 e):mzk e=some (pre 40 1 e):=by
 have hkz:e.Kids.length+1<=sz 40 e:=Gz4 39 e;have e5:tot (e.Kids.map fun x=>((39,2,x):Pl))+1=sz 40 e:=by
  simp only[tot,List.map_map]
  show _=1+(e.Kids.map (sz 39)).sum
  have:((fun p:Pl=>sz p.1 p.2.2) ∘ fun x=>((39,2,x):Pl))=sz 39:=rfl;rw[this];omega
 have hw:=IzG 1000 big (e.Kids.map fun x=>((39,2,x):Pl)) [⟨e,1⟩] (by omega) (by rw[ezd];omega) (fun p hp=>by
  obtain⟨x,hx,rfl⟩:=List.mem_map.1 hp;exact⟨ht.2 x hx,by simp,by simp⟩) (by simp)
 have key:nzk e=some (.inr (pre 40 1 e)):=by
  have e4:(e.Kids.map fun x=>(⟨x,1+1⟩:Node2)).reverse=((e.Kids.map fun x=>((39,2,x):Pl)).map ofP).reverse:=by
   rw[List.map_map];rfl
  unfold nzk;simp only[azp];have a1:inb [(⟨e,1⟩:Node2)].length (i64.wrap ((([(⟨e,1⟩:Node2)].length:Nat):Int)-1))=some 0:=rfl;have a2:sub [(⟨e,1⟩:Node2)] 0 (i64.wrap ((([(⟨e,1⟩:Node2)].length:Nat):Int)-1))=some []:=rfl;have a3:nth [(⟨e,1⟩:Node2)] (0+0)=some ⟨e,1⟩:=rfl;have a4:bzp e.Kids=some e.Kids:=rfl;rw[a1,aza,a3,aza,a2,aza,appN (by simp),aza,a4,aza,kids_is (by simp) (by simp;omega),aza];simp only[List.nil_append];rw[e4]
  show obnd (iter hzl big _) _=_
  rw[hw,aza];have:((e.Kids.map fun x=>((39,2,x):Pl)).flatMap fun p=>pre p.1 p.2.1 p.2.2)=e.Kids.flatMap (pre 39 2):=by
   rw[List.flatMap_map]
  rw[this];rfl
 unfold mzk;rw[azp,key];rfl
set_option linter.unusedSimpArgs false
theorem brnA (b c:Bool):brn b (some c) (some false)=some (b&&c):=by cases b<;>rfl
theorem brnO (b c:Bool):brn b (some true) (some c)=some (b||c):=by cases b<;>rfl
theorem brnN {α:Type}(b:Bool)(x y:Option α):brn (!b) x y=brn b y x:=by cases b<;>rfl
theorem obndB {α β:Type}(b:Bool)(x y:Option α)(f:α->Option β):obnd (brn b x y) f=brn b (obnd x f) (obnd y f):=by cases b<;>rfl
theorem brnI {α:Type}(b:Bool)(x y:α):brn b x y=if b=true then x else y:=by cases b<;>rfl
theorem goodE (x:Cell):jzr x=ezv x:=rfl
def gd (x:Ref):Bool:=decide (0<=x.Row)&&(decide (x.Row<65536)&&(decide (0<=x.Col)&&decide (x.Col<256)))
theorem pzO (x:Ref):mzA x=some (bif gd x then 0 else 12):=by
 unfold mzA jzr gd;simp only[brnA,aza];rw[brnN];cases(decide (0<=x.Row)&&(decide (x.Row<65536)&&(decide (0<=x.Col)&&decide (x.Col<256))))<;>rfl
theorem Jzs (a:Area):kzz a=some (bif gd a.A&&gd a.B then 0 else 12):=by
 unfold kzz;rw[pzO,pzO];cases gd a.A<;>cases gd a.B<;>rfl
theorem uzB (a:Area):bz2 a=some (bif gd a.A&&gd a.B then 0 else 12):=by
 unfold bz2;have h:∀x,hzm x=mzA x:=fun _=>rfl
 rw[h,h,pzO,pzO];cases gd a.A<;>cases gd a.B<;>rfl
theorem part_eq {e:Expr}(hl:e.V.S.length<=3000):nz5 e=ezy e:=by
 obtain⟨c,hc1,hc2,_⟩:=wze hl;obtain⟨K,V,⟨⟨a1,a2,a3,a4⟩,⟨b1,b2,b3,b4⟩⟩,Sh,Op,Kids⟩:=e;simp only at hc1 hc2;unfold nz5 ezy dzh izi;simp only[azp,hc1,hc2,Jzs,uzB];by_cases k0:K<1
 .simp[k0,show ¬1<=K by omega]
 by_cases k1:10<K
 .simp[k0,k1,show 1<=K by omega,show ¬K<=10 by omega]
 have hK:K=1\/K=2\/K=3\/K=4\/K=5\/K=6\/K=7\/K=8\/K=9\/K=10:=by omega
 have hz:gd ⟨0,0,false,false⟩=true:=rfl;obtain⟨vk,⟨vm,vs⟩,vt,vb,ve⟩:=V;rcases hK with rfl|rfl|rfl|rfl|rfl|rfl|rfl|rfl|rfl|rfl
 all_goals
  simp (config:={decide:=false}) only[tz2,yzX,azp,kzi,kzf,dzE,dzF,bzC,nz4,dzh,aza,azc,azd,brnA,Int.reduceEq,Int.reduceLT,Int.reduceLE,decide_true,decide_false,cond_true,cond_false,Bool.not_true,Bool.not_false,Bool.and_true,Bool.true_and,Bool.and_false,Bool.false_and,List.length_nil,Int.ofNat_zero,obndB];simp only[brnI]
  grind
set_option linter.unusedSimpArgs false
def mx (l:List Int):Int:=l.foldl (fun s n=>if s<n then n else s) 0
theorem mx_is:∀(l:List Int) (s:Int),(∀m,m<l.foldl (fun s n=>if s<n then n else s) s↔m<s\/∃n∈l,m<n)
 | [],s,m=>by simp
 | a::l,s,m=>by
  rw[List.foldl_cons,mx_is l _ m];by_cases c:s<a
  .rw[if_pos c];simp only[List.mem_cons,exists_eq_or_imp];constructor
   .rintro(h|h)
    .exact .inr (.inl h)
    .exact .inr (.inr h)
   .rintro(h|h|h)
    .exact .inl (by omega)
    .exact .inl h
    .exact .inr h
  .rw[if_neg c];simp only[List.mem_cons,exists_eq_or_imp];constructor
   .rintro(h|h)
    .exact .inl h
    .exact .inr (.inr h)
   .rintro(h|h|h)
    .exact .inl h
    .exact .inl (by omega)
    .exact .inr h
def dp:Nat->Expr->Int
 | 0,_=>0
 | d+1,e=>mx (e.Kids.map (dp d))+1
theorem dp_le:∀(d:Nat) (e:Expr),0<=dp d e/\dp d e<=d
 | 0,_=>by simp[dp]
 | d+1,e=>by
  have h:=mx_is (e.Kids.map (dp d)) 0;have h1:=h (-1);have h2:=h d;simp only[dp,mx];constructor
  .have:=h1.2 (.inl (by omega));omega
  .have:¬((d:Int)<(e.Kids.map (dp d)).foldl (fun s n=>if s<n then n else s) 0):=fun c=>by
    rcases h2.1 c with c|⟨n,hn,c⟩
    .omega
    .obtain⟨k,_,rfl⟩:=List.mem_map.1 hn;have:=(dp_le d k).2;omega
   omega
theorem JzJ:∀(d N:Nat) (e:Expr),d<N->sz d e<=1000->d<=1000->tr d e->iter kzc N e=some (dp d e)
 | _,0,_,h,_,_,_=>absurd h (by omega)
 | 0,_,_,_,_,_,h=>h.elim
 | d+1,N+1,e,hN,hs,hd,ht=>by
  have hl:=lenK hs;have hk:∀k∈e.Kids,iter kzc N k=some (dp d k):=fun k hk=>JzJ d N k (by omega) (szK hs hk) (by omega) (ozV ht hk)
  rw[azN];generalize iter kzc N=S at hk;unfold kzc;rw[azp];have:=bzL (F:=jzd S) (fun(s:Int) (i:Nat)=>(e,s,(i:Int))) id e.Kids (fun s k=>.inl (if s<dp d k then dp d k else s)) id (fun _ _=>True) (by omega)
   (fun back s i hi _=>by
    unfold jzd;simp only[azp];rw[ltT hi,azc,idxG hi,aza,hk _ (List.getElem_mem hi),aza,wr1 (by omega)];by_cases c:s<dp d e.Kids[i]
    .rw[dT0 c,if_pos c];rfl
    .rw[dF0 c,if_neg c];rfl)
   (fun _ _ _ _ _ _=>trivial)
   (fun back s _=>by
    unfold jzd;simp only;rw[ltF,azd];rfl) 0 trivial
  have hb:=dp_le (d+1) e;rw[show ozs S (e,0,0)=_ from this,aza,czX];have e1:e.Kids.foldl (fun s k=>if s<dp d k then dp d k else s) 0=mx (e.Kids.map (dp d)):=by rw[mx,List.foldl_map]
  rw[e1];simp only[id];rw[azW (by simp only[dp]at hb;omega) (by simp only[dp]at hb;omega)];rfl
theorem JzG:∀(d N:Nat) (e:Expr),d<N->sz d e<=1000->tr d e->iter kza N e=some (sz d e:Int)
 | _,0,_,h,_,_=>absurd h (by omega)
 | 0,_,_,_,_,h=>h.elim
 | d+1,N+1,e,hN,hs,ht=>by
  have hl:=lenK hs;have hk:∀k∈e.Kids,iter kza N k=some (sz d k:Int):=fun k hk=>JzG d N k (by omega) (szK hs hk) (ozV ht hk)
  rw[azN];generalize iter kza N=S at hk;unfold kza;rw[azp];have hsum:∀i,i<=e.Kids.length->((e.Kids.take i).map (sz d)).sum<=(e.Kids.map (sz d)).sum:=fun i _=>by
   conv=>rhs;rw[<-List.take_append_drop i e.Kids,List.map_append,List.sum_append]
   omega
  have hsz:sz (d+1) e=1+(e.Kids.map (sz d)).sum:=rfl;have:=bzL (F:=jzc S) (fun(s:Nat) (i:Nat)=>(e,(s:Int),(i:Int))) id e.Kids (fun(s:Nat) k=>(.inl (s+sz d k):Nat⊕Int)) (fun s=>(s:Int)) (fun s i=>s=1+((e.Kids.take i).map (sz d)).sum) (by omega)
   (fun back s i hi hp=>by
    unfold jzc;simp only[azp];have h1:=hsum (i+1) hi;rw[List.take_succ_eq_append_getElem hi,List.map_append,List.sum_append]at h1;simp only[List.map_cons,List.map_nil,List.sum_cons,List.sum_nil]at h1;rw[ltT hi,azc,idxG hi,aza,hk _ (List.getElem_mem hi),aza,wr1 (by omega),azW (by omega) (by omega)];simp[wzg])
   (fun s i hi s' hp hs=>by
    simp only[Sum.inl.injEq]at hs;rw[List.take_succ_eq_append_getElem hi,List.map_append,List.sum_append];simp only[List.map_cons,List.map_nil,List.sum_cons,List.sum_nil];omega)
   (fun back s _=>by
    unfold jzc;simp only;rw[ltF,azd];rfl) 1 (by simp)
  rw[show ozr S (e,1,0)=_ from this,aza,czX];have e1:∀(l:List Expr) (s:Nat),l.foldl (fun s k=>s+sz d k) s=s+(l.map (sz d)).sum:=fun l=>by
   induction l with
   | nil=>intro s;rfl
   | cons a l ih=>intro s;rw[List.foldl_cons,ih,List.map_cons,List.sum_cons];omega
  rw[e1,hsz];rfl
def fb (f:Expr->Int):List Expr->Int
 | []=>0
 | e::l=>if f e=0 then fb f l else f e
theorem fb_app (f:Expr->Int):∀(l m:List Expr),fb f (l++m)=if fb f l=0 then fb f m else fb f l
 | [],m=>by simp[fb]
 | e::l,m=>by
  simp only[List.cons_append,fb,fb_app f l m];by_cases c:f e=0
  .simp[c]
  .simp[c]
def nd (e:Expr):Int:=(ezy e).getD 0
theorem Kzn:∀(d N:Nat) (k:Int) (e:Expr),d<N->sz d e<=1000->tr d e->iter kzg N e=some (fb nd ((pre d k e).map (·.e)))
 | _,0,_,_,h,_,_=>absurd h (by omega)
 | 0,_,_,_,_,_,h=>h.elim
 | d+1,N+1,k,e,hN,hs,ht=>by
  have hl:=lenK hs;have hk:∀x∈e.Kids,iter kzg N x=some (fb nd ((pre d (k+1) x).map (·.e))):=fun x hx=>Kzn d N (k+1) x (by omega) (szK hs hx) (ozV ht hx)
  rw[azN];generalize iter kzg N=S at hk;obtain⟨n0,hn0,_⟩:=Hzj ht.1;have hnd:nd e=n0:=by unfold nd;rw[hn0];rfl
  unfold kzg;rw[azp,hn0,aza];have:=bzL (F:=jzf S) (fun(s:Int) (i:Nat)=>(e,s,(i:Int))) id e.Kids (fun(s:Int) x=>if s=0 then(.inl (fb nd ((pre d (k+1) x).map (·.e))):Int⊕Int)else .inr s) id (fun _ _=>True) (by omega)
   (fun back s i hi _=>by
    unfold jzf;simp only[azp];rw[ltT hi,azc,idxG hi,aza,hk _ (List.getElem_mem hi),aza,wr1 (by omega)];by_cases c:s=0
    .rw[dT0 c,if_pos c];rfl
    .rw[dF0 c,if_neg c];rfl)
   (fun _ _ _ _ _ _=>trivial)
   (fun back s _=>by
    unfold jzf;simp only;rw[ltF,azd];rfl) n0 trivial
  rw[show ozu S (e,n0,0)=_ from this,aza];have key:∀(l:List Expr) (s:Int),mzm (fun(s:Int) x=>if s=0 then(.inl (fb nd ((pre d (k+1) x).map (·.e))):Int⊕Int)else .inr s) id s l=if s=0 then fb nd ((l.flatMap (pre d (k+1))).map (·.e))else s:=fun l=>by
   induction l with
   | nil=>intro s;by_cases c:s=0<;>simp[mzm,c,fb]
   | cons a l ih =>
    intro s;simp only[mzm];by_cases c:s=0
    .rw[if_pos c,if_pos c];simp only;rw[ih,List.flatMap_cons,List.map_append,fb_app]
    .rw[if_neg c,if_neg c]
  rw[key];simp only[pre,List.map_cons,fb,hnd,id]
theorem GzH:∀(d:Nat) (k m:Int) (e:Expr),tr d e->((∃x∈pre d k e,m<x.deep)↔m<k+dp d e-1)
 | 0,_,_,_,h=>h.elim
 | d+1,k,m,e,h=>by
  have hm:=mx_is (e.Kids.map (dp d)) 0 (m-k);have hd:=(dp_le (d+1) e).1;simp only[pre,List.mem_cons,List.mem_flatMap,dp,mx];constructor
  .rintro⟨x,rfl|⟨y,hy,hx⟩,hlt⟩
   .simp only at hlt;have:=hm.2 (.inl (by omega));omega
   .have:=(GzH d (k+1) m y (h.2 y hy)).1 ⟨x,hx,hlt⟩;have:=hm.2 (.inr ⟨dp d y,List.mem_map.2 ⟨y,hy,rfl⟩,by omega⟩);omega
  .intro hlt;rcases hm.1 (by omega)with c|⟨n,hn,c⟩
   .exact⟨_,.inl rfl,by simp only;omega⟩
   .obtain⟨y,hy,rfl⟩:=List.mem_map.1 hn;obtain⟨x,hx,hlt⟩:=(GzH d (k+1) m y (h.2 y hy)).2 (by omega);exact⟨x,.inr ⟨y,hy,hx⟩,hlt⟩
set_option linter.unusedSimpArgs false
theorem pre_txt:∀(d:Nat) (k:Int) (e:Expr),tr d e->∀x∈pre d k e,x.e.V.S.length<=3000
 | 0,_,_,h=>h.elim
 | d+1,k,e,h=>fun x hx=>by
  simp only[pre,List.mem_cons,List.mem_flatMap]at hx;rcases hx with rfl|⟨y,hy,hx⟩
  .exact h.1
  .exact pre_txt d (k+1) y (h.2 y hy) x hx
theorem nd_is {e:Expr}(h:e.V.S.length<=3000):nz5 e=some (nd e)/\ezy e=some (nd e):=by
 obtain⟨r,hr,_⟩:=Hzj h;have:nd e=r:=by unfold nd;rw[hr];rfl
 rw[part_eq h,hr,this];exact⟨rfl,rfl⟩
theorem deep_find {l:List Node2}(hl:l.length<=1000000):azV (l,())=some (l.any fun x=>decide (16<x.deep)):=by
 have:=yz2 (F:=azL) (fun i:Nat=>(l,(),(l.length:Int),(i:Int))) (fun o=>match o with|none=>(.inl ():Unit⊕Int)|some i=>.inr (i:Int)) l (fun x=>decide (16<x.deep)) (by omega)
  (fun back i hi=>by
   unfold azL;simp only[azp];rw[ltT hi,azc,idxG hi,aza,wr1 (by omega)]
   show obnd (some (decide (16<l[i].deep))) _=_
   rw[aza];cases decide (16<l[i].deep)<;>rfl)
  (fun back=>by
   unfold azL;simp only;rw[ltF];rfl)
 unfold azV bzS;rw[show bzz (l,(),(l.length:Int),0)=_ from this];have ha:=List.findIdx?_isSome (xs:=l) (p:=fun x=>decide (16<x.deep));cases hf:l.findIdx? fun x=>decide (16<x.deep)with
 | none=>rw[hf]at ha;rw[<-ha];rfl
 | some i=>rw[hf]at ha;rw[<-ha];simp[osum]
theorem Mzy {l:List Node2}(hl:l.length<=1000000)(ht:∀x∈l,x.e.V.S.length<=3000):(obnd (mzj (l,(l.length:Int),0)) fun y=>osum y (fun _=>some 0) fun y=>some y)=some (fb nd (l.map (·.e))):=by
 have:=bzL (F:=jz7) (fun(_:Unit) (i:Nat)=>(l,(l.length:Int),(i:Int))) id l (fun(_:Unit) x=>if nd x.e=0 then(.inl ():Unit⊕(Unit⊕Int))else .inr (.inr (nd x.e))) (fun _=>.inl ()) (fun _ _=>True) (by omega)
  (fun back s i hi _=>by
   unfold jz7;simp only[azp];rw[ltT hi,azc,idxG hi,aza,(nd_is (ht _ (List.getElem_mem hi))).1,aza,wr1 (by omega)];by_cases c:nd l[i].e=0
   .rw[dT0 c,if_pos c];rfl
   .rw[dF0 c,if_neg c];rfl)
  (fun _ _ _ _ _ _=>trivial)
  (fun back s _=>by
   unfold jz7;simp only;rw[ltF];rfl) () trivial
 rw[show mzj (l,(l.length:Int),0)=_ from this,aza];clear this hl ht;induction l with
 | nil=>rfl
 | cons x l ih =>
  simp only[mzm,List.map_cons,fb];by_cases c:nd x.e=0
  .rw[if_pos c,if_pos c];exact ih
  .rw[if_neg c,if_neg c];rfl
def ck (e:Expr):Int:=if 16<dp 40 e then 11 else if 1024<sz 40 e then 4 else fb nd ((pre 40 1 e).map (·.e))
theorem yzT {e:Expr}(hs:sz 40 e<=1000)(ht:tr 40 e):mz3 e=some (ck e):=by
 unfold mz3 ck;have hl:=pre_len 40 1 e ht;rw[azp,walkF_is hs ht,aza,deep_find (by omega),aza,Mzy (by omega) (pre_txt 40 1 e ht),hl];have hd:=GzH 40 1 16 e ht;by_cases c:16<dp 40 e
 .have:((pre 40 1 e).any fun x=>decide (16<x.deep))=true:=List.any_eq_true.2 (by
   obtain⟨x,hx,h⟩:=hd.2 (by omega);exact⟨x,hx,by simp[h]⟩)
  rw[this,if_pos c];rfl
 .have:((pre 40 1 e).any fun x=>decide (16<x.deep))=false:=by
   cases h:(pre 40 1 e).any fun x=>decide (16<x.deep)with
   | false=>rfl
   | true =>
    obtain⟨x,hx,h⟩:=List.any_eq_true.1 h;have:=hd.1 ⟨x,hx,by simpa using h⟩;omega
  rw[this,if_neg c,azd];by_cases c2:1024<sz 40 e
  .rw[if_pos c2,dT0 (by omega)];rfl
  .rw[if_neg c2,dF0 (by omega)];rfl
theorem JzE {e:Expr}(hs:sz 40 e<=1000)(ht:tr 40 e):kzO e=some (ck e):=by
 unfold kzO ck;simp only[azp];rw[show szm e=_ from JzJ 40 big e (by rw[ezd];omega) hs (by omega) ht,show szl e=_ from JzG 40 big e (by rw[ezd];omega) hs ht,show szn e=_ from Kzn 40 big 1 e (by rw[ezd];omega) hs ht,aza];by_cases c:16<dp 40 e
 .rw[if_pos c,dT0 c];rfl
 .rw[if_neg c,dF0 c,azd,aza];by_cases c2:1024<sz 40 e
  .rw[if_pos c2,dT0 (by omega)];rfl
  .rw[if_neg c2,dF0 (by omega)];rfl
set_option linter.unusedSimpArgs false
def rf:Nat->Expr->List Expr
 | 0,_=>[]
 | d+1,e=>if 2<=e.Kind/\e.Kind<=6 then [e]else e.Kids.flatMap (rf d)
theorem zz5:∀(d:Nat) (e:Expr),(rf d e).length<=sz d e
 | 0,_=>by simp[rf]
 | d+1,e=>by
  unfold rf;split
  .exact Gzo _ _
  .have key:∀l:List Expr,(l.flatMap (rf d)).length<=(l.map (sz d)).sum:=fun l=>by
    induction l with
    | nil=>simp
    | cons a l ih=>rw[List.flatMap_cons,List.length_append,List.map_cons,List.sum_cons];have:=zz5 d a;omega
   have:=key e.Kids
   show _<=1+(e.Kids.map (sz d)).sum
   omega
theorem rf_take {d:Nat}{e:Expr}(i:Nat):((e.Kids.take i).flatMap (rf d)).length<=sz (d+1) e:=by
 have key:∀l:List Expr,(l.flatMap (rf d)).length<=(l.map (sz d)).sum:=fun l=>by
  induction l with
  | nil=>simp
  | cons a l ih=>rw[List.flatMap_cons,List.length_append,List.map_cons,List.sum_cons];have:=zz5 d a;omega
 have h1:=key (e.Kids.take i);have h2:((e.Kids.take i).map (sz d)).sum<=(e.Kids.map (sz d)).sum:=by
  conv=>rhs;rw[<-List.take_append_drop i e.Kids,List.map_append,List.sum_append]
  omega
 show _<=1+(e.Kids.map (sz d)).sum
 omega
theorem iz4 {A B:Type}(f:A->List B):∀(l:List A) (s:List B),l.foldl (fun s a=>s++f a) s=s++l.flatMap f
 | [],s=>by simp
 | a::l,s=>by rw[List.foldl_cons,iz4 f l,List.flatMap_cons,List.append_assoc]
theorem refs_is:∀(d N:Nat) (e:Expr),d<N->sz d e<=1000->tr d e->iter fze N e=some (rf d e)/\iter ezw N e=some (rf d e)
 | _,0,_,h,_,_=>absurd h (by omega)
 | 0,_,_,_,_,h=>h.elim
 | d+1,N+1,e,hN,hs,ht=>by
  have hl:=lenK hs;have hk:∀x∈e.Kids,iter fze N x=some (rf d x)/\iter ezw N x=some (rf d x):=fun x hx=>refs_is d N x (by omega) (szK hs hx) (ozV ht hx)
  rw[azN,azN];generalize iter fze N=S at hk;generalize iter ezw N=S' at hk;have step:∀i (hi:i<e.Kids.length) (s:List Expr),s=(e.Kids.take i).flatMap (rf d)->app 152 s (rf d e.Kids[i])=some (s++rf d e.Kids[i]):=fun i hi s hs'=>by
   have h1:=rf_take (d:=d) (e:=e) i;have h2:=zz5 d e.Kids[i];have h3:=szK hs (List.getElem_mem hi);exact appN (by rw[hs'];omega)
  have nxt:∀(s:List Expr) i (hi:i<e.Kids.length) (s':List Expr),s=(e.Kids.take i).flatMap (rf d)->(.inl (s++rf d e.Kids[i]):List Expr⊕List Expr) = .inl s'->s'=(e.Kids.take (i+1)).flatMap (rf d):=fun s i hi s' h1 h2=>by
   injection h2 with h2;rw[<-h2,h1,List.take_succ_eq_append_getElem hi,List.flatMap_append];simp
  have p1:=bzL (F:=izV S) (fun(s:List Expr) (i:Nat)=>(s,e.Kids,(e.Kids.length:Int),(i:Int))) id e.Kids (fun s x=>(.inl (s++rf d x):List Expr⊕List Expr)) id (fun s i=>s=(e.Kids.take i).flatMap (rf d)) (by omega)
   (fun back s i hi hp=>by
    unfold izV;simp only[azp];rw[ltT hi,azc,idxG hi,aza,(hk _ (List.getElem_mem hi)).1,aza,step i hi s hp,aza,wr1 (by omega)];rfl)
   nxt
   (fun back s _=>by
    unfold izV;simp only;rw[ltF];rfl) [] (by simp)
  have p2:=bzL (F:=izg S') (fun(s:List Expr) (i:Nat)=>(e,s,(i:Int))) id e.Kids (fun s x=>(.inl (s++rf d x):List Expr⊕List Expr)) id (fun s i=>s=(e.Kids.take i).flatMap (rf d)) (by omega)
   (fun back s i hi hp=>by
    unfold izg;simp only[azp];rw[ltT hi,azc,idxG hi,aza,(hk _ (List.getElem_mem hi)).2,aza,step i hi s hp,aza,wr1 (by omega)];rfl)
   nxt
   (fun back s _=>by
    unfold izg;simp only;rw[ltF];rfl) [] (by simp)
  rw[czX,iz4]at p1 p2;unfold fze ezw dzh;rw[azp,show qzv S ([],e.Kids,(e.Kids.length:Int),0)=_ from p1,show mzo S' (e,[],0)=_ from p2];unfold rf;by_cases c:2<=e.Kind<;>by_cases c2:e.Kind<=6<;>simp[c,c2]
theorem Czg {e:Expr}(hs:sz 40 e<=1000)(ht:tr 40 e):rze e=some (rf 40 e)/\uzc e=some (rf 40 e):=refs_is 40 big e (by rw[ezd];omega) hs ht
set_option linter.unusedSimpArgs false
def ltP (a b:Place):Bool:=decide (a.Sheet<b.Sheet)||decide (a.Sheet=b.Sheet)&&(decide (a.At.Row<b.At.Row)||decide (a.At.Row=b.At.Row)&&decide (a.At.Col<b.At.Col))
theorem or3 (a b c:Int):jzJ [a,b,c]=some (if a≠0 then a else if b≠0 then b else c):=by
 unfold jzJ;have this:pzb (0,[a,b,c],(([a,b,c]:List Int).length:Int),0)=some ((fun(r:Option Nat)=>match r with|some i=>.inr (([a,b,c]:List Int).getD i 0)|none=>.inl ()) _) :=
  yz2 (F:=jz4) (fun i=>(0,[a,b,c],(([a,b,c]:List Int).length:Int),(i:Int))) (fun r=>match r with|some i=>.inr (([a,b,c]:List Int).getD i 0)|none=>.inl ()) [a,b,c] (fun y=>!decide (y=0)) (by simp)
  (fun back i hi=>by
   unfold jz4;simp only;rw[ltT hi,azc,idxG hi,aza,wr1 (by simp only[List.length_cons,List.length_nil]at hi;omega)];have hg:([a,b,c]:List Int).getD i 0=([a,b,c]:List Int)[i]:=by rw[List.getD_eq_getElem?_getD,List.getElem?_eq_getElem hi];rfl
   rw[hg];cases decide (([a,b,c]:List Int)[i]=0)<;>rfl)
  (fun back=>by
   unfold jz4;simp only;rw[ltF,azd])
 rw[this,aza];by_cases h1:a=0
 .by_cases h2:b=0
  .by_cases h3:c=0<;>simp[h1,h2,h3,List.findIdx?_cons,osum]
  .simp[h1,h2,List.findIdx?_cons,osum]
 .simp[h1,List.findIdx?_cons,osum]
theorem wzA (a b:Place):nzN (a,b)=some (ltP a b):=by
 unfold nzN wzj;simp only;rw[GzG,aza,GzG,aza,GzG,aza,or3,aza,aza];unfold ltP cmpV;congr 1;rcases Int.lt_trichotomy a.Sheet b.Sheet with h1|h1|h1
 .simp[h1]
 .rcases Int.lt_trichotomy a.At.Row b.At.Row with h2|h2|h2
  .simp[h1,h2]
  .rcases Int.lt_trichotomy a.At.Col b.At.Col with h3|h3|h3
   .simp[h1,h2,h3]
   .simp[h1,h2,h3]
   .simp[h1,h2,h3];omega
  .have n1:¬a.At.Row<b.At.Row:=by omega
   have n2:¬a.At.Row=b.At.Row:=by omega
   simp[h1,h2,n1,n2]
 .have n1:¬a.Sheet<b.Sheet:=by omega
  have n2:¬a.Sheet=b.Sheet:=by omega
  simp[h1,n1,n2]
set_option linter.unusedSimpArgs false
theorem to_tot:∀(d N:Nat) (e:Expr),d<N->sz d e<=1000->tr d e->iter nzR N e=some e
 | _,0,_,h,_,_=>absurd h (by omega)
 | 0,_,_,_,_,h=>h.elim
 | d+1,N+1,e,hN,hs,ht=>by
  have hl:=lenK hs;have hk:∀k∈e.Kids,iter nzR N k=some k:=fun k hk=>to_tot d N k (by omega) (szK hs hk) (ozV ht hk)
  rw[azN];generalize iter nzR N=S at hk;have this:=bzL (F:=lzT S) (fun(s:List Expr) (i:Nat)=>(s,e,(⟨e.Kind,e.V,e.A,e.Sheet,e.Op,s⟩:Expr),(i:Int))) (fun s:List Expr=>(s,(⟨e.Kind,e.V,e.A,e.Sheet,e.Op,s⟩:Expr))) e.Kids (fun(s:List Expr) k=>(.inl (s++[k]):List Expr⊕List Expr)) id (fun s i=>s.length=i) (by omega)
   (fun back s i hi hp=>by
    unfold lzT;simp only[azp];rw[ltT hi,azc,idxG hi,aza,hk _ (List.getElem_mem hi),aza,appN (by simp only[List.length_singleton];omega),aza,wr1 (by omega)];rfl)
   (fun s i hi s' hp h=>by cases h;simp[hp])
   (fun back s _=>by
    unfold lzT;simp only;rw[ltF,azd];rfl) [] rfl
  rw[czX]at this;have hf:∀(m s:List Expr),m.foldl (fun s c=>s++[c]) s=s++m:=by
   intro m;induction m with
   | nil=>intro s;simp
   | cons v m ih=>intro s;rw[List.foldl_cons,ih];simp
  rw[id,hf,List.nil_append]at this;unfold nzR;simp only[azp];rw[show szb e.V=some e.V from rfl,show sza e.A=some e.A from rfl,aza,aza,show rz5 S ([],e,⟨e.Kind,e.V,e.A,e.Sheet,e.Op,[]⟩,0)=_ from this,aza];cases e;rfl
theorem toE {e:Expr}(hs:sz 40 e<=1000)(ht:tr 40 e):pz3 e=some e:=to_tot 40 big e (by rw[ezd];omega) hs ht
theorem nzM {A X Z:Type}{F:(X->Option Z)->X->Option Z}(mk:List A->Nat->X)(g:List A->Z)(l:List A)(hl:l.length<=1000000)
 (h:∀back s i (hi:i<l.length),s.length=i->F back (mk s i)=back (mk (s++[l[i]]) (i+1))) (hend:∀back s,F back (mk s l.length)=some (g s)):iter F big (mk [] 0)=some (g l):=by
 have this:=bzL (F:=F) mk g l (fun(s:List A) k=>(.inl (s++[k]):List A⊕List A)) id (fun s i=>s.length=i) (by omega)
  (fun back s i hi hp=>h back s i hi hp) (fun s i hi s' hp h=>by cases h;simp[hp]) (fun back s _=>hend back s) [] rfl
 rw[czX]at this;have hf:∀(m s:List A),m.foldl (fun s c=>s++[c]) s=s++m:=by
  intro m;induction m with
  | nil=>intro s;simp
  | cons v m ih=>intro s;rw[List.foldl_cons,ih];simp
 rw[id,hf,List.nil_append]at this;exact this
def fewE (e:Expr):Prop:=sz 40 e<=200/\tr 40 e
theorem toAll {l:List Expr}(hl:l.length<=1000)(h:∀x∈l,fewE x):ozb l=some l:=by
 have:=nzM (F:=iz6) (fun s i=>(l,s,(i:Int))) id l (by omega)
  (fun back s i hi hp=>by
   obtain⟨a1,a2⟩:=h _ (List.getElem_mem hi);unfold iz6;simp only[azp];rw[ltT hi,azc,idxG hi,aza,toE (by omega) a2,aza,appN (by simp only[List.length_singleton];omega),aza,wr1 (by omega)])
  (fun back s=>by unfold iz6;simp only;rw[ltF];rfl)
 unfold ozb;rw[show ozc (l,[],0)=_ from this];rfl
theorem toPlaces {l:List Place}(hl:l.length<=1000):lzJ l=some l:=by
 have:=nzM (F:=gzU) (fun s i=>(l,s,(i:Int))) id l (by omega)
  (fun back s i hi hp=>by
   unfold gzU;simp only;rw[ltT hi,azc,idxG hi,aza,show pzj l[i]=some l[i] from rfl,aza,appN (by simp only[List.length_singleton];omega),aza,wr1 (by omega)])
  (fun back s=>by unfold gzU;simp only;rw[ltF];rfl)
 unfold lzJ;rw[show lzU (l,[],0)=_ from this];rfl
theorem toCells {l:List Cell2}(hl:l.length<=1000)(h:∀x∈l,fewE x.E):ozf l=some l:=by
 have:=nzM (F:=iz8) (fun s i=>(l,s,(i:Int))) id l (by omega)
  (fun back s i hi hp=>by
   obtain⟨a1,a2⟩:=h _ (List.getElem_mem hi);unfold iz8 zze;simp only[azp];rw[ltT hi,azc,idxG hi,aza,show gzV l[i].At=some l[i].At from rfl,aza,show szb l[i].V=some l[i].V from rfl,aza,toE (by omega) a2,aza,aza,appN (by simp only[List.length_singleton];omega),aza,wr1 (by omega)])
  (fun back s=>by unfold iz8;simp only;rw[ltF];rfl)
 unfold ozf;rw[show ozg (l,[],0)=_ from this];rfl
theorem toGroups {l:List Group}(hl:l.length<=1000)(h:∀x∈l,fewE x.E):ozd l=some l:=by
 have:=nzM (F:=iz7) (fun s i=>(l,s,(i:Int))) id l (by omega)
  (fun back s i hi hp=>by
   obtain⟨a1,a2⟩:=h _ (List.getElem_mem hi);unfold iz7 zzb;simp only[azp];rw[ltT hi,azc,idxG hi,aza,show gzV l[i].A=some l[i].A from rfl,aza,show gzV l[i].B=some l[i].B from rfl,aza,toE (by omega) a2,aza,aza,appN (by simp only[List.length_singleton];omega),aza,wr1 (by omega)])
  (fun back s=>by unfold iz7;simp only;rw[ltF];rfl)
 unfold ozd;rw[show oze (l,[],0)=_ from this];rfl
structure fewS (s:Sheet):Prop where
 rows:s.Rows.length<=60
 cells:s.Cells.length<=120
 groups:s.Groups.length<=20
 cellE:∀x∈s.Cells,fewE x.E/\x.V.S.length<=3000
 groupE:∀x∈s.Groups,fewE x.E
structure fewG (g:Globals):Prop where
 sheets:g.Sheets.length<=20
 formats:g.Formats.length<=100
 xfs:g.XFs.length<=400
 names:g.Names.length<=30
 texts:g.Texts.Texts.length<=60
 chain:g.Chain.length<=200
 nameE:∀x∈g.Names,fewE x
structure fewB (b:Book):Prop where
 glob:fewG b.Globals
 sheets:b.Sheets.length<=12
 sheet:∀s∈b.Sheets,fewS s
theorem toSheet {s:Sheet}(h:fewS s):tzr s=some s:=by
 have h0:=h.rows;have:=nzM (F:=lzV) (fun r i=>(r,s,(⟨r,s.Cells,s.Groups⟩:Sheet),(i:Int))) (fun r=>(r,(⟨r,s.Cells,s.Groups⟩:Sheet))) s.Rows (by omega)
  (fun back r i hi hp=>by
   unfold lzV;simp only;rw[ltT hi,azc,idxG hi,aza,aza,aza,appN (by simp only[List.length_singleton];omega),aza,wr1 (by omega)])
  (fun back r=>by unfold lzV;simp only;rw[ltF];rfl)
 unfold tzr;rw[toCells (by have:=h.cells;omega) (fun x hx=>(h.cellE x hx).1),aza,toGroups (by have:=h.groups;omega) h.groupE,aza,show rz6 ([],s,⟨[],s.Cells,s.Groups⟩,0)=_ from this];rfl
theorem toGlobals {g:Globals}(h:fewG g):tzs g=some g:=by
 obtain⟨h1,h2,h3,h4,h5,h6,h7⟩:=h;unfold tzs;rw[appN (by simp;omega),aza,appN (by simp;omega),aza,appN (by simp;omega),aza,toAll (by omega) h7,aza];have e:wzy g.Texts=some g.Texts:=by
  unfold wzy;rw[appN (by simp;omega)];rfl
 rw[e,aza,toPlaces (by omega)];rfl
theorem toBook {b:Book}(h:fewB b):tzt b=some b:=by
 have h0:=h.sheets;have:=nzM (F:=lzW) (fun r i=>(r,b,(⟨b.Globals,r⟩:Book),(i:Int))) (fun r=>(r,(⟨b.Globals,r⟩:Book))) b.Sheets (by omega)
  (fun back r i hi hp=>by
   unfold lzW;simp only;rw[ltT hi,azc,idxG hi,aza,toSheet (h.sheet _ (List.getElem_mem hi)),aza,appN (by simp only[List.length_singleton];omega),aza,wr1 (by omega)])
  (fun back r=>by unfold lzW;simp only;rw[ltF];rfl)
 unfold tzt;rw[toGlobals h.glob,aza,show rz8 ([],b,⟨b.Globals,[]⟩,0)=_ from this];rfl
set_option linter.unusedSimpArgs false
theorem few60 {e:Expr}:∃b,iz5 (e,60)=some b/\(b=true->fewE e):=by
 obtain⟨b,h1,h2⟩:=Few_is (e:=e) (m:=60) (by omega);exact⟨b,h1,fun h=>by obtain⟨a1,a2⟩:=h2 h;exact⟨by omega,a2⟩⟩
theorem few100 {e:Expr}:∃b,iz5 (e,100)=some b/\(b=true->fewE e):=by
 obtain⟨b,h1,h2⟩:=Few_is (e:=e) (m:=100) (by omega);exact⟨b,h1,fun h=>by obtain⟨a1,a2⟩:=h2 h;exact⟨by omega,a2⟩⟩
theorem fewCells (l:List Cell2):∃b,rzl l=some b/\(b=true->l.length<=120/\∀x∈l,fewE x.E/\x.V.S.length<=3000):=by
 unfold rzl;by_cases h1:120<(l.length:Int)
 .rw[dT0 h1];exact⟨false,rfl,fun h=>by cases h⟩
 rw[dF0 h1,azd];obtain⟨z,e1,e2⟩:=bz8 (F:=lzc) (fun i=>(l,(i:Int))) l.length (fun i=>∃h:i<l.length,fewE l[i].E/\l[i].V.S.length<=3000) (fun z=>z = .inr false) (.inl ()) (by omega)
  (fun back i hi=>by
   obtain⟨b,hb,hb2⟩:=few60 (e:=l[i].E);unfold lzc;simp only[azp];rw[ltT hi,azc,idxG hi,aza,hb,aza,aza,wr1 (by omega)];cases b with
   | false=>exact .inr ⟨_,rfl,rfl⟩
   | true =>
    by_cases c:3000<((l[i].V.S.length:Nat):Int)
    .rw[dT0 c];exact .inr ⟨_,rfl,rfl⟩
    .rw[dF0 c];exact .inl ⟨rfl,hi,hb2 rfl,by omega⟩)
  (fun back=>by unfold lzc;simp only;rw[ltF];rfl)
 rw[show qzz (l,0)=_ from e1,aza];rcases e2 with rfl|⟨rfl,e2⟩
 .exact⟨false,rfl,fun h=>by cases h⟩
 .exact⟨true,rfl,fun _=>⟨by omega,fun x hx=>by
   obtain⟨i,hi,rfl⟩:=List.getElem_of_mem hx;exact(e2 i hi).2⟩⟩
theorem fewGroups (l:List Group):∃b,rzk l=some b/\(b=true->l.length<=20/\∀x∈l,fewE x.E):=by
 unfold rzk;by_cases h1:20<(l.length:Int)
 .rw[dT0 h1];exact⟨false,rfl,fun h=>by cases h⟩
 rw[dF0 h1,azd];obtain⟨z,e1,e2⟩:=bz8 (F:=lzb) (fun i=>(l,(i:Int))) l.length (fun i=>∃h:i<l.length,fewE l[i].E) (fun z=>z = .inr false) (.inl ()) (by omega)
  (fun back i hi=>by
   obtain⟨b,hb,hb2⟩:=few60 (e:=l[i].E);unfold lzb;simp only[azp];rw[ltT hi,azc,idxG hi,aza,hb,aza,wr1 (by omega)];cases b with
   | false=>exact .inr ⟨_,rfl,rfl⟩
   | true=>exact .inl ⟨rfl,hi,hb2 rfl⟩)
  (fun back=>by unfold lzb;simp only;rw[ltF];rfl)
 rw[show qzy (l,0)=_ from e1,aza];rcases e2 with rfl|⟨rfl,e2⟩
 .exact⟨false,rfl,fun h=>by cases h⟩
 .exact⟨true,rfl,fun _=>⟨by omega,fun x hx=>by
   obtain⟨i,hi,rfl⟩:=List.getElem_of_mem hx;exact(e2 i hi).2⟩⟩
theorem fewSheet (s:Sheet):∃b,rzm s=some b/\(b=true->fewS s):=by
 obtain⟨b1,h1,k1⟩:=fewCells s.Cells;obtain⟨b2,h2,k2⟩:=fewGroups s.Groups;unfold rzm;rw[h1,h2,aza,aza];by_cases h:(s.Rows.length:Int)<=60
 .rw[dT0 h,azc];cases b1 with
  | false=>exact⟨false,rfl,fun h=>by cases h⟩
  | true=>exact⟨b2,rfl,fun h2=>⟨by omega,(k1 rfl).1,(k2 h2).1,(k1 rfl).2,(k2 h2).2⟩⟩
 .rw[dF0 h];exact⟨false,rfl,fun h=>by cases h⟩
def kz3 (l:List (List UInt8)):Prop:=∀x∈l,x.length<=1048576
def fitL (l:List (List UInt8)):Prop:=∀x∈l,x.length<=140737488351232
def totB (l:List (List UInt8)):Nat:=(l.map List.length).sum
theorem AzS:∀{l:List (List UInt8)},fitL l->totB l<=140737488351232*l.length
 | [],_=>Nat.zero_le _
 | a::l,h=>by
  have h1:=AzS (l:=l) fun x hx=>h x (by simp[hx])
  have h2:=h a (by simp);unfold totB at h1 ⊢;rw[List.map_cons,List.sum_cons,List.length_cons];omega
theorem wz6:∀{l:List (List UInt8)} {x:List UInt8},x∈l->x.length<=totB l
 | a::l,x,h=>by
  unfold totB;rw[List.map_cons,List.sum_cons];rcases List.mem_cons.1 h with rfl|h
  .omega
  .have:=wz6 h;unfold totB at this;omega
theorem Ezc {l:List (List UInt8)}(hl:l.length<=1000)(hs:fitL l){F:(Globals×Int×Int->Option Int)->Globals×Int×Int->Option Int}{g:Globals}{n:Nat}(hn:n<=1000000000000000000)
 (h:∀back (m:Int) i (hi:i<l.length),F back (g,m,(i:Int))=back (g,i64.wrap (m+(l[i].length:Int)),i64.wrap ((i:Int)+1)))
 (hend:∀back m,F back (g,m,(l.length:Int))=some m):iter F big (g,(n:Int),0)=some ((n+totB l:Nat):Int):=by
 have hb:∀i (hi:i<l.length),l[i].length<=140737488351232:=fun i hi=>hs _ (List.getElem_mem hi)
 have:=bzL (F:=F) (fun(m:Nat) i=>(g,(m:Int),(i:Int))) (fun m:Nat=>(m:Int)) l (fun(m:Nat) x=>(.inl (m+x.length):Nat⊕Nat)) id (fun m i=>m<=n+140737488351232*i) (by omega)
  (fun back m i hi hp=>by
   have:=hb i hi;rw[h back m i hi,azW (by omega) (by omega),wr1 (by omega)];simp[wzg])
  (fun m i hi m' hp he=>by
   have:=hb i hi;injection he with he;omega)
  (fun back m _=>hend back m) n (by omega)
 rw[czX]at this;have key:∀(l:List (List UInt8)) (s:Nat),l.foldl (fun m x=>m+x.length) s=s+totB l:=fun l=>by
  induction l with
  | nil=>intro s;rfl
  | cons a l ih =>
   intro s;unfold totB at ih ⊢;rw[List.foldl_cons,ih,List.map_cons,List.sum_cons,Nat.add_assoc]
 rw[id,key]at this;exact this
theorem Mza (g:Globals)(h1:fitL g.Sheets)(h2:fitL g.Formats)(h3:fitL g.Texts.Texts):∃b,rzn g=some b/\(b=true->g.Sheets.length<=20/\g.Formats.length<=100/\g.XFs.length<=400/\g.Names.length<=30/\g.Texts.Texts.length<=60/\g.Chain.length<=200/\(kz3 g.Sheets/\kz3 g.Formats/\kz3 g.Texts.Texts)/\∀x∈g.Names,fewE x):=by
 unfold rzn;by_cases c1:20<(g.Sheets.length:Int)
 .rw[dT0 c1];exact⟨false,rfl,fun h=>by cases h⟩
 by_cases c2:100<(g.Formats.length:Int)
 .rw[dF0 c1,dT0 c2];exact⟨false,rfl,fun h=>by cases h⟩
 by_cases c3:400<(g.XFs.length:Int)
 .rw[dF0 c1,dF0 c2,dT0 c3];exact⟨false,rfl,fun h=>by cases h⟩
 by_cases c4:30<(g.Names.length:Int)
 .rw[dF0 c1,dF0 c2,dF0 c3,dT0 c4];exact⟨false,rfl,fun h=>by cases h⟩
 by_cases c5:60<(g.Texts.Texts.length:Int)
 .rw[dF0 c1,dF0 c2,dF0 c3,dF0 c4,dT0 c5];exact⟨false,rfl,fun h=>by cases h⟩
 by_cases c6:200<(g.Chain.length:Int)
 .rw[dF0 c1,dF0 c2,dF0 c3,dF0 c4,dF0 c5,dT0 c6];exact⟨false,rfl,fun h=>by cases h⟩
 rw[dF0 c1,dF0 c2,dF0 c3,dF0 c4,dF0 c5,dF0 c6];simp only[azd];have b1:=AzS h1;have b2:=AzS h2;have b3:=AzS h3;have e1:=Ezc (F:=lze) (g:=g) (n:=0) (l:=g.Sheets) (by omega) h1 (by omega)
  (fun back m i hi=>by unfold lze;simp only;rw[ltT hi,azc,idxG hi,aza]) (fun back m=>by unfold lze;simp only;rw[ltF];rfl)
 have e2:=Ezc (F:=lzf) (g:=g) (n:=0+totB g.Sheets) (l:=g.Formats) (by omega) h2 (by omega)
  (fun back m i hi=>by unfold lzf;simp only;rw[ltT hi,azc,idxG hi,aza]) (fun back m=>by unfold lzf;simp only;rw[ltF];rfl)
 have e3:=Ezc (F:=lzg) (g:=g) (n:=0+totB g.Sheets+totB g.Formats) (l:=g.Texts.Texts) (by omega) h3 (by omega)
  (fun back m i hi=>by unfold lzg;simp only;rw[ltT hi,azc,idxG hi,aza]) (fun back m=>by unfold lzg;simp only;rw[ltF];rfl)
 have e1:qzA (g,0,0)=some ((0+totB g.Sheets:Nat):Int):=e1;rw[e1,aza,show qzB (g,((0+totB g.Sheets:Nat):Int),0)=_ from e2,aza,show qzC (g,((0+totB g.Sheets+totB g.Formats:Nat):Int),0)=_ from e3,aza];obtain⟨z,f1,f2⟩:=bz8 (F:=lzh) (fun i=>(g,(i:Int))) g.Names.length (fun i=>∃h:i<g.Names.length,fewE g.Names[i]) (fun z=>z = .inr false) (.inl ()) (by omega)
  (fun back i hi=>by
   obtain⟨b,hb,hb2⟩:=few100 (e:=g.Names[i]);unfold lzh;simp only[azp];rw[ltT hi,azc,idxG hi,aza,hb,aza,wr1 (by omega)];cases b with
   | false=>exact .inr ⟨_,rfl,rfl⟩
   | true=>exact .inl ⟨rfl,hi,hb2 rfl⟩)
  (fun back=>by unfold lzh;simp only;rw[ltF];rfl)
 rw[show qzD (g,0)=_ from f1,aza];rcases f2 with rfl|⟨rfl,f2⟩
 .exact⟨false,rfl,fun h=>by cases h⟩
 .refine⟨_,rfl,fun hd=>?_⟩;have hd:=of_decide_eq_true hd;exact⟨by omega,by omega,by omega,by omega,by omega,by omega,⟨fun x hx=>by have:=wz6 hx;omega,fun x hx=>by have:=wz6 hx;omega,fun x hx=>by have:=wz6 hx;omega⟩,fun x hx=>by
   obtain⟨i,hi,rfl⟩:=List.getElem_of_mem hx;exact(f2 i hi).2⟩
set_option linter.unusedSimpArgs false
def smallB (b:Book):Prop:=kz3 b.Globals.Sheets/\kz3 b.Globals.Formats/\kz3 b.Globals.Texts.Texts
def fitB (b:Book):Prop:=fitL b.Globals.Sheets/\fitL b.Globals.Formats/\fitL b.Globals.Texts.Texts
theorem fewBook (b:Book)(h:fitB b):∃r,rzo b=some r/\(r=true->b.Sheets.length<=12/\(∀s∈b.Sheets,fewS s)/\b.Globals.Sheets.length<=20/\b.Globals.Formats.length<=100/\b.Globals.XFs.length<=400/\b.Globals.Names.length<=30/\b.Globals.Texts.Texts.length<=60/\b.Globals.Chain.length<=200/\smallB b/\∀x∈b.Globals.Names,fewE x):=by
 obtain⟨r,hr,hk⟩:=Mza b.Globals h.1 h.2.1 h.2.2;unfold rzo;rw[hr,aza];cases r with
 | false=>exact⟨false,rfl,fun h=>by cases h⟩
 | true =>
  simp only[Bool.not_true,azd];by_cases c:12<(b.Sheets.length:Int)
  .rw[dT0 c];exact⟨false,rfl,fun h=>by cases h⟩
  rw[dF0 c,azd];obtain⟨z,e1,e2⟩:=bz8 (F:=lzi) (fun i=>(b,(i:Int))) b.Sheets.length (fun i=>∃h:i<b.Sheets.length,fewS b.Sheets[i]) (fun z=>z = .inr false) (.inl ()) (by omega)
   (fun back i hi=>by
    obtain⟨q,hb,hb2⟩:=fewSheet b.Sheets[i];unfold lzi;simp only;rw[ltT hi,azc,idxG hi,aza,hb,aza,wr1 (by omega)];cases q with
    | false=>exact .inr ⟨_,rfl,rfl⟩
    | true=>exact .inl ⟨rfl,hi,hb2 rfl⟩)
   (fun back=>by unfold lzi;simp only;rw[ltF];rfl)
  rw[show qzE (b,0)=_ from e1,aza];rcases e2 with rfl|⟨rfl,e2⟩
  .exact⟨false,rfl,fun h=>by cases h⟩
  .exact⟨true,rfl,fun _=>⟨by omega,fun x hx=>by
    obtain⟨i,hi,rfl⟩:=List.getElem_of_mem hx;exact(e2 i hi).2,hk rfl⟩⟩
set_option linter.unusedSimpArgs false
def by1 (v:Int)(i:Nat):UInt8:=UInt8.ofNat (u8.wrap (v.fdiv (2^(8*i)))).toNat
def lw (n:Nat)(v:Int):List UInt8:=(List.range n).map (by1 v)
theorem ezP (n:Nat)(v:Int):(lw n v).length=n:=by simp[lw]
theorem wzo {A B:Type}(f:A->B):∀(l:List A) (s:List B),l.foldl (fun s a=>s++[f a]) s=s++l.map f
 | [],s=>by simp
 | a::l,s=>by rw[List.foldl_cons,wzo f l];simp
theorem lePut_l1 {zs:List UInt8}{v:Int}{n:Nat}(hn:n<=8)(hz:zs.length<=1000000000):wzz (zs,v,(n:Int),0)=some (zs++lw n v):=by
 have:=bzL (F:=ozh) (fun(s:List UInt8) (i:Nat)=>(s,v,(n:Int),(i:Int))) id (List.range n) (fun s i=>(.inl (s++[by1 v i]):List UInt8⊕List UInt8)) id (fun s i=>s.length=zs.length+i) (by simp;omega)
  (fun back s i hi hp=>by
   have hi':i<n:=by simpa using hi
   unfold ozh;simp only[List.getElem_range];rw[ltT hi',azc,azW (by omega) (by omega),dF0 (by omega),azd];have e:(2:Int)^min ((8:Int)*(i:Int)).toNat 64=2^(8*i):=by congr 1;omega
   rw[e,appN (by simp;omega),aza,wr1 (by omega)];rfl)
  (fun s i hi s' hp h=>by cases h;simp[hp];omega)
  (fun back s _=>by unfold ozh;simp only[List.length_range];rw[ltF];rfl) zs (by simp)
 rw[czX,wzo]at this;exact this
theorem refPut_l1 {zs:List UInt8}{v:Int}{n:Nat}(hn:n<=8)(hz:zs.length<=1000000000):ozG (v,(n:Int),zs,0)=some (zs++lw n v):=by
 have:=bzL (F:=jzn) (fun(s:List UInt8) (i:Nat)=>(v,(n:Int),s,(i:Int))) id (List.range n) (fun s i=>(.inl (s++[by1 v i]):List UInt8⊕List UInt8)) id (fun s i=>s.length=zs.length+i) (by simp;omega)
  (fun back s i hi hp=>by
   have hi':i<n:=by simpa using hi
   unfold jzn;simp only[List.getElem_range];rw[ltT hi',azc,azW (by omega) (by omega),Gzp (by omega) (by omega),dF0 (by omega),azd];have e:(2:Int)^min ((8:Int)*(i:Int)).toNat 64=2^(8*i):=by congr 1;omega
   rw[e,appN (by simp;omega),aza,wr1 (by omega)];rfl)
  (fun s i hi s' hp h=>by cases h;simp[hp];omega)
  (fun back s _=>by unfold jzn;simp only[List.length_range];rw[ltF];rfl) zs (by simp)
 rw[czX,wzo]at this;exact this
theorem rzR {A:Type}{B:Nat}{l:List A}(h:l.length*B<=140737488355328):app B [] l=some l:=by rw[appN (by simpa using h)];rfl
theorem lePut_is {b:List UInt8}{v:Int}{n:Nat}(hn:n<=8)(hb:b.length<=1000000000):rzD (b,v,(n:Int))=some (b++lw n v):=by
 unfold rzD bzM;simp only;rw[rzR (by omega),aza,lePut_l1 hn hb];rfl
theorem iza {b:List UInt8}{v:Int}{n:Nat}(hn:n<=8)(hb:b.length<=1000000000):bzO (b,v,(n:Int))=some (b++lw n v):=by
 unfold bzO;simp only;rw[rzR (by omega),aza,refPut_l1 hn hb];rfl
theorem lw2 (v:Int):lw 2 v=[UInt8.ofNat (u8.wrap v).toNat,UInt8.ofNat (u8.wrap (v.fdiv 256)).toNat]:=by
 show [by1 v 0,by1 v 1]=_
 unfold by1;simp
def rfB (x:Ref):List UInt8:=lw 2 x.Row++[UInt8.ofNat (u8.wrap x.Col).toNat,UInt8.ofNat ((if x.RelRow then 1 else 0)+(if x.RelCol then 2 else 0))]
theorem wzU (x:Ref):(rfB x).length=4:=by simp[rfB,ezP]
theorem nzV {b:List UInt8}{x:Ref}(hb:b.length<=1000000000)(h0:0<=x.Row)(h1:x.Row<65536):ezK (b,x)=some (b++rfB x):=by
 unfold ezK rfB;simp only;rw[Gzp h0 (by omega)];have:=iza (b:=b) (v:=x.Row) (n:=2) (by omega) hb;rw[show((2:Nat):Int)=2 from rfl]at this;rw[this];have hl:(b++lw 2 x.Row).length<=1000000002:=by simp[ezP];omega
 cases x.RelRow<;>cases x.RelCol<;>simp only[azc,azd,aza]<;>rw[appN (by simp[ezP];omega)]<;>simp[List.append_assoc]
theorem AzP {b:List UInt8}{l:List Ref}(hb:b.length<=100000000)(hl:l.length<=100):lzY (b,l)=some (b++l.flatMap rfB):=by
 have:=bzL (F:=lzZ) (fun(s:List UInt8) (i:Nat)=>(s,l,(l.length:Int),(i:Int))) id l (fun s x=>(.inl (s++rfB x):List UInt8⊕List UInt8)) id (fun s i=>s.length=b.length+4*i) (by omega)
  (fun back s i hi hp=>by
   unfold lzZ;simp only;rw[ltT hi,azc,idxG hi,aza,wr1 (by omega)];simp only[wzg,rfB,lw2];cases l[i].RelRow<;>cases l[i].RelCol<;>simp only[azc,azd]<;>rw[appN (by simp;omega),aza]<;>rfl)
  (fun s i hi s' hp h=>by
   injection h with h;rw[<-h,List.length_append,wzU];omega)
  (fun back s _=>by unfold lzZ;simp only;rw[ltF];rfl) b (by simp)
 rw[czX,iz4]at this;unfold lzY;rw[show szh (b,l,(l.length:Int),0)=_ from this];rfl
set_option linter.unusedSimpArgs false
def ut (r:Int):List Int:=if r<65536 then [r]else [55296+(r-65536)/1024,56320+(r-65536)%1024]
def us (l:List Int):List Int:=l.flatMap ut
theorem vz2:∀l:List Int,(us l).length=ulen l
 | []=>rfl
 | r::l=>by
  have:=vz2 l;simp only[us,List.flatMap_cons,List.length_append,ulen,ut]at this ⊢;rw[this];split<;>simp
theorem KzL (x:List UInt8):∀r∈rs x,0<=r/\r<=1114111:=by
 have key:∀(n:Nat) (x:List UInt8),x.length<=n->∀r∈rs x,0<=r/\r<=1114111:=fun n=>by
  induction n with
  | zero=>intro x hx r hr;have:x=[]:=List.eq_nil_of_length_eq_zero (by omega);subst this;simp[rs_nil]at hr
  | succ n ih =>
   intro x hx r hr;by_cases h:x=[]
   .subst h;simp[rs_nil]at hr
   .rw[vzC h]at hr;rcases List.mem_cons.1 hr with rfl|hr
    .have:=decodeL_rune x;omega
    .exact ih (x.drop (decodeL x).2) (by rw[List.length_drop];have:=decodeL_width x;omega) r hr
 exact key x.length x (Nat.le_refl _)
theorem i32_in' {n:Int}(h0:-2147483648<=n)(h1:n<=2147483647):i32.wrap n=n:=lzx ⟨h0,h1⟩
theorem and1023 (k:IntKind)(hk:k = .i32\/k = .i64){x:Int}(h0:0<=x)(h1:x<1048576):bzc .and k x 1023=x%1024:=by
 obtain⟨n,rfl⟩:=Int.eq_ofNat_of_zero_le h0;simp only[bzc];rw[BitVec.toNat_and];rcases hk with rfl|rfl
 .have e1:(BitVec.ofInt i32.bits (n:Int)).toNat=n:=by
   rw[BitVec.ofInt_natCast,BitVec.toNat_ofNat];exact Nat.mod_eq_of_lt (by simp only[IntKind.bits];omega)
  have e2:(BitVec.ofInt i32.bits (1023:Int)).toNat=2^10-1:=by decide
  rw[e1,e2,Nat.and_two_pow_sub_one_eq_mod];have:((n%2^10:Nat):Int)=(n:Int)%1024:=by omega
  rw[this,i32_in' (by omega) (by omega)]
 .have e1:(BitVec.ofInt i64.bits (n:Int)).toNat=n:=by
   rw[BitVec.ofInt_natCast,BitVec.toNat_ofNat];exact Nat.mod_eq_of_lt (by simp only[IntKind.bits];omega)
  have e2:(BitVec.ofInt i64.bits (1023:Int)).toNat=2^10-1:=by decide
  rw[e1,e2,Nat.and_two_pow_sub_one_eq_mod];have:((n%2^10:Nat):Int)=(n:Int)%1024:=by omega
  rw[this,azW (by omega) (by omega)]
theorem or10 {a:Int}(ha:a=55296\/a=56320){x:Int}(h0:0<=x)(h1:x<1024):bzc .or .i64 a x=a+x:=by
 obtain⟨n,rfl⟩:=Int.eq_ofNat_of_zero_le h0;have hn:n<2^10:=by omega
 simp only[bzc];rw[BitVec.toNat_or];have e1:(BitVec.ofInt i64.bits (n:Int)).toNat=n:=by
  rw[BitVec.ofInt_natCast,BitVec.toNat_ofNat];exact Nat.mod_eq_of_lt (by simp only[IntKind.bits];omega)
 rw[e1];rcases ha with rfl|rfl
 .have e2:(BitVec.ofInt i64.bits (55296:Int)).toNat=54*2^10:=by decide
  rw[e2,<-Nat.shiftLeft_eq,<-Nat.shiftLeft_add_eq_or_of_lt hn,Nat.shiftLeft_eq,azW (by omega) (by omega)];omega
 .have e2:(BitVec.ofInt i64.bits (56320:Int)).toNat=55*2^10:=by decide
  rw[e2,<-Nat.shiftLeft_eq,<-Nat.shiftLeft_add_eq_or_of_lt hn,Nat.shiftLeft_eq,azW (by omega) (by omega)];omega
theorem fdiv10 (x:Int):x.fdiv 1024=x/1024:=by rw[Int.fdiv_eq_ediv_of_nonneg _ (by omega)]
theorem units_is {x:List UInt8}(hl:x.length<=100000000):jzH x=some (us (rs x)):=by
 have key:∃y,nzw ([],x,0)=some y/\(y.1=us (rs x)):=by
  refine nzQ (F:=iz0) (fun z=>x.length-z.2.2) (fun z=>∃(out:List Int) (p:Nat),z=(out,x,p)/\out.length<=2*p/\(p<x.length\/rs (x.drop p)=[])/\out++us (rs (x.drop p))=us (rs x)) _ ?_ _ ⟨[],0,rfl,by simp,by
   by_cases h:x=[]
   .subst h;exact .inr rfl
   .exact .inl (List.length_pos_iff.2 h),by simp⟩ (by simp only;omega)
  rintro back z ⟨out,p,rfl,ho,hp,hv⟩ hb;unfold iz0;simp only at hb ⊢;by_cases hlt:p<x.length
  .have hne:x.drop p≠[]:=fun e=>by have:=congrArg List.length e;simp at this;omega
   have hr:=zz6 x p;have hw:=decodeL_width (x.drop p);have hle:=decodeL_le (x.drop p) hne;have hrb:=decodeL_rune (x.drop p);rw[List.length_drop]at hle;rw[vzC hne,List.drop_drop]at hv;have hv2:out++ut ((decodeL (x.drop p)).1:Int)++us (rs (x.drop (p+(decodeL (x.drop p)).2)))=us (rs x):=by rw[<-hv];simp[us]
   rw[dT0 hlt,azc,hr];have step:∃y,back (out++ut ((decodeL (x.drop p)).1:Int),x,p+(decodeL (x.drop p)).2)=some y/\y.1=us (rs x):=by
    refine hb _ ⟨_,_,rfl,?_,?_,hv2⟩ (by simp only;omega)
    .simp only[List.length_append,ut];split<;>simp<;>omega
    .rcases Nat.lt_or_ge (p+(decodeL (x.drop p)).2) x.length with h|h
     .exact .inl h
     .right;rw[List.drop_eq_nil_of_le h];rfl
   generalize (decodeL (x.drop p)).1=r at *;by_cases h6:(r:Int)<65536
   .rw[dT0 h6,azc,appN (by simp;omega),aza,azW (by omega) (by omega)];unfold ut at step;rw[if_pos h6]at step;exact step
   .have e1:i32.wrap ((r:Int)-65536)=(r:Int)-65536:=i32_in' (by omega) (by omega);rw[dF0 h6,azd,appN (by simp;omega),aza,e1,fdiv10,and1023 _ (.inl rfl) (by omega) (by omega),azW (n:=((r:Int)-65536)/1024) (by omega) (by omega),azW (n:=((r:Int)-65536)%1024) (by omega) (by omega),
     azW (by omega) (by omega),azW (by omega) (by omega)]
    unfold ut at step;rw[if_neg h6]at step;exact step
  .rw[dF0 hlt,azd];rcases hp with h|h
   .exact absurd h hlt
   .rw[h]at hv;exact⟨_,rfl,by simpa[us]using hv⟩
 obtain⟨y,h1,h2⟩:=key;unfold jzH;rw[h1,aza,h2]
theorem zz2 {l:List Int}(hl:l.length<=4000000)(hr:∀r∈l,0<=r/\r<=1114111):hz9 l=some (us l):=by
 have:=bzL (F:=gzi) (fun(s:List Int) (i:Nat)=>(l,s,(i:Int))) id l (fun s r=>(.inl (s++ut r):List Int⊕List Int)) id (fun s i=>s.length<=2*i) (by omega)
  (fun back s i hi hp=>by
   obtain⟨r0,r1⟩:=hr _ (List.getElem_mem hi);unfold gzi;simp only;rw[ltT hi,azc,idxG hi,aza,aza,aza,wr1 (by omega)];simp only[wzg,ut];generalize l[i]=r at *;by_cases h6:r<65536
   .rw[dT0 h6,azc,if_pos h6,appN (by simp;omega),aza]
   .rw[dF0 h6,azd,if_neg h6,azW (n:=r-65536) (by omega) (by omega),fdiv10,and1023 _ (.inr rfl) (by omega) (by omega),or10 (.inl rfl) (by omega) (by omega),or10 (.inr rfl) (by omega) (by omega),appN (by simp;omega),aza])
  (fun s i hi s' hp h=>by
   injection h with h;rw[<-h,List.length_append];unfold ut;split<;>simp<;>omega)
  (fun back s _=>by unfold gzi;simp only;rw[ltF];rfl) [] (by simp)
 rw[czX,iz4]at this;unfold hz9;rw[show mzz (l,[],0)=_ from this];rfl
set_option linter.unusedSimpArgs false
def nar (x:List UInt8):Bool:=(rs x).all fun r=>decide (r<256)
def tub (n:Bool)(r:Int):List UInt8:=if n then [UInt8.ofNat (u8.wrap r).toNat]else lw 2 r
def stB (x:List UInt8):List UInt8:=lw 2 ((us (rs x)).length:Int)++[if nar x then 0 else 1]++(us (rs x)).flatMap (tub (nar x))
theorem tub_le (n:Bool)(r:Int):(tub n r).length<=2:=by unfold tub;split<;>simp[ezP]
theorem narrow_is {x:List UInt8}(hl:x.length<=100000000):pzR x=some (nar x):=by
 have key:∃y,pzB (x,0)=some y/\osum y (fun _=>some true) (fun y=>some y.1)=some (nar x):=by
  refine nzQ (F:=mzK) (fun z=>x.length-z.2) (fun z=>∃p:Nat,z=(x,p)/\(p<x.length\/rs (x.drop p)=[])/\(rs (x.drop p)).all (fun r=>decide (r<256))=nar x) _ ?_ _ ⟨0,rfl,by
   by_cases h:x=[]
   .subst h;exact .inr rfl
   .exact .inl (List.length_pos_iff.2 h),by simp[nar]⟩ (by simp only;omega)
  rintro back z ⟨p,rfl,hp,hv⟩ hb;unfold mzK;simp only at hb ⊢;by_cases hlt:p<x.length
  .have hne:x.drop p≠[]:=fun e=>by have:=congrArg List.length e;simp at this;omega
   have hr:=zz6 x p;have hw:=decodeL_width (x.drop p);rw[vzC hne,List.drop_drop,List.all_cons]at hv;rw[dT0 hlt,azc,hr];by_cases h6:(255:Int)<((decodeL (x.drop p)).1:Int)
   .rw[dT0 h6,azc];refine⟨_,rfl,?_⟩;rw[dF0 (by omega),Bool.false_and]at hv;rw[<-hv];rfl
   .rw[dF0 h6,azd];rw[dT0 (by omega),Bool.true_and]at hv;refine hb _ ⟨_,rfl,?_,hv⟩ (by simp only;omega);rcases Nat.lt_or_ge (p+(decodeL (x.drop p)).2) x.length with h|h
    .exact .inl h
    .right;rw[List.drop_eq_nil_of_le h];rfl
  .rw[dF0 hlt,azd];rcases hp with h|h
   .exact absurd h hlt
   .rw[h]at hv;exact⟨_,rfl,by rw[<-hv];rfl⟩
 obtain⟨y,h1,h2⟩:=key;unfold pzR;rw[h1,aza];exact h2
theorem Izc (p:Int->Bool):∀(l:List Int) (b:Bool),l.foldl (fun s r=>s&&p r) b=(b&&l.all p)
 | [],b=>by simp
 | r::l,b=>by rw[List.foldl_cons,Izc p l,List.all_cons,Bool.and_assoc]
theorem KzJ {l:List Int}(hl:l.length<=100000000)(b:Bool):ozF (l,b,0)=some (b&&l.all fun r=>decide (r<256)):=by
 have:=bzL (F:=jzm) (fun(s:Bool) (i:Nat)=>(l,s,(i:Int))) id l (fun s r=>(.inl (s&&decide (r<256)):Bool⊕Bool)) id (fun _ _=>True) (by omega)
  (fun back s i hi _=>by
   unfold jzm;simp only;rw[ltT hi,azc,idxG hi,aza,wr1 (by omega)];cases s<;>rfl)
  (fun _ _ _ _ _ _=>trivial)
  (fun back s _=>by unfold jzm;simp only;rw[ltF];rfl) b trivial
 rw[czX,Izc]at this;exact this
theorem zz1 {x:List UInt8}(hl:x.length<=4000000)(hv:validD x=true):lz4 x=some (nar x):=by
 have:=tzJ x;unfold lz4;rw[pzP hl,if_pos hv,aza,KzJ (by simp only;omega)];rfl
theorem put_l1 {zs:List UInt8}{l:List Int}{n:Bool}(hz:zs.length<=500000000)(hl:l.length<=100000000):pzS (zs,n,l,(l.length:Int),0)=some (zs++l.flatMap (tub n)):=by
 have:=bzL (F:=nze) (fun(s:List UInt8) (i:Nat)=>(s,n,l,(l.length:Int),(i:Int))) id l (fun s r=>(.inl (s++tub n r):List UInt8⊕List UInt8)) id (fun s i=>s.length<=zs.length+2*i) (by omega)
  (fun back s i hi hp=>by
   unfold nze;simp only;rw[ltT hi,azc,idxG hi,aza,appN (by simp;omega),aza,wr1 (by omega)];cases n
   .rw[show(!false)=true from rfl,azc,appN (by simp;omega),aza];simp only[wzg,tub,lw2,List.append_assoc];rfl
   .rfl)
  (fun s i hi s' hp h=>by
   injection h with h;rw[<-h,List.length_append];have:=tub_le n l[i];omega)
  (fun back s _=>by unfold nze;simp only;rw[ltF];rfl) zs (by simp)
 rw[czX,iz4]at this;exact this
theorem Fz4 {zs:List UInt8}{l:List Int}{n:Bool}(hz:zs.length<=500000000)(hl:l.length<=100000000):lzM (zs,l,n,0)=some (zs++l.flatMap (tub n)):=by
 have:=bzL (F:=jzo) (fun(s:List UInt8) (i:Nat)=>(s,l,n,(i:Int))) id l (fun s r=>(.inl (s++tub n r):List UInt8⊕List UInt8)) id (fun s i=>s.length<=zs.length+2*i) (by omega)
  (fun back s i hi hp=>by
   unfold jzo;simp only;rw[ltT hi,azc,idxG hi,aza,appN (by simp;omega),aza,wr1 (by omega)];cases n
   .rw[show(!false)=true from rfl,azc,aza,appN (by simp;omega),aza];simp only[wzg,tub,lw2,List.append_assoc];rfl
   .rfl)
  (fun s i hi s' hp h=>by
   injection h with h;rw[<-h,List.length_append];have:=tub_le n l[i];omega)
  (fun back s _=>by unfold jzo;simp only;rw[ltF];rfl) zs (by simp)
 rw[czX,iz4]at this;exact this
theorem tzW {x:List UInt8}(h:(dzC x).2=0):validD x=true/\ulen (rs x)<=1000/\(dzC x).1=((us (rs x)).length:Int):=by
 unfold dzC at *;rw[vz2];split at h
 .split at h
  .simp at h
  .exact⟨by assumption,by omega,by simp[*]⟩
 .simp at h
theorem put_is {b x:List UInt8}(hb:b.length<=100000000)(hl:x.length<=4000000):szS (b,x)=some (if(dzC x).2=0 then b++stB x else b,(dzC x).2):=by
 unfold szS hzZ;simp only;rw[rzR (by omega),aza,Jzp (by omega),aza];by_cases h:(dzC x).2=0
 .obtain⟨h1,h2,h3⟩:=tzW h;rw[dT0 h,if_pos h,h,h3,narrow_is (by omega),units_is (by omega)];have hu:=vz2 (rs x);rw[show(!true)=false from rfl,azd,aza,appN (by simp;omega),aza];have hlen:(b++[UInt8.ofNat (u8.wrap ((us (rs x)).length:Int)).toNat,UInt8.ofNat (u8.wrap (((us (rs x)).length:Int).fdiv 256)).toNat,UInt8.ofNat 1]).length=b.length+3:=by simp
  cases hn:nar x
  .rw[azd,aza,put_l1 (by omega) (by omega),aza];simp[stB,lw2,hn]
  .rw[azc,hlen,azW (by omega) (by omega)];have e1:inb (b.length+3) (((b.length+3:Nat):Int)-1)=some (b.length+2):=by
    unfold inb;rw[dT0 (by omega),dT0 (by omega)];simp;omega
   rw[e1,aza];simp only[Nat.zero_add];have e2:∃c,nth (b++[UInt8.ofNat (u8.wrap ((us (rs x)).length:Int)).toNat,UInt8.ofNat (u8.wrap (((us (rs x)).length:Int).fdiv 256)).toNat,UInt8.ofNat 1]) (b.length+2)=some c:=⟨_,by
    unfold nth;rw[List.getElem?_eq_getElem (by simp)]⟩
   obtain⟨c,e2⟩:=e2;rw[e2,aza,aza,put_l1 (by simp;omega) (by omega),aza];simp[stB,lw2,hn,List.set_append]
 .rw[dF0 h,if_neg h];rfl
theorem KzK {b x:List UInt8}(hb:b.length<=100000000)(hl:x.length<=4000000):ozH (b,x)=some (if(dzC x).2=0 then b++stB x else b,(dzC x).2):=by
 unfold ozH;simp only;rw[lzu hl,aza];by_cases h:(dzC x).2=0
 .obtain⟨h1,h2,h3⟩:=tzW h;have hu:=vz2 (rs x);have hrl:=tzJ x;rw[dT0 h,if_pos h,h,h3,Gzp (by omega) (by omega),show(!true)=false from rfl,azd];have:=iza (b:=b) (v:=((us (rs x)).length:Int)) (n:=2) (by omega) (by omega);rw[show((2:Nat):Int)=2 from rfl]at this;rw[this,aza,pzP hl,if_pos h1,aza,zz1 hl h1];simp only;rw[zz2 (by omega) (KzL x),aza,aza];cases hn:nar x
  .rw[azd,appN (by simp[ezP];omega),aza,Fz4 (by simp[ezP];omega) (by omega),aza];simp[stB,hn]
  .rw[azc,appN (by simp[ezP];omega),aza,Fz4 (by simp[ezP];omega) (by omega),aza];simp[stB,hn]
 .rw[dF0 h,if_neg h,show(!false)=true from rfl,azc,rzR (by omega)];rfl
set_option linter.unusedSimpArgs false
def opR (e:Expr):Prop:=(e.Kind=6->0<=e.Op/\e.Op<=1023)/\(e.Kind=7->1<=e.Op/\e.Op<=3)/\(e.Kind=8->1<=e.Op/\e.Op<=12)/\(e.Kind=9->0<=e.Op/\e.Op<=29)
theorem b5_range {e:Expr}{k lo hi:Int}(h:(obnd (bzC (e,k,lo,hi)) fun y=>brn y (some (1:Int)) (some 0))=some 0):lo<=e.Op/\e.Op<=hi:=by
 unfold bzC at h;simp only at h;by_cases h1:e.Op<lo
 .rw[dT0 h1]at h;cases h
 rw[dF0 h1,azd]at h;by_cases h2:hi<e.Op
 .rw[dT0 h2]at h;cases h
 omega
theorem tail_op {e:Expr}{s:Bool}{k:Int}(h:(obnd (dzE (e,s)) fun y=>brn y (some 1) (obnd (dzF (0,0,e.Kind)) fun y_4=>obnd (bzC (e,k,y_4)) fun y=>brn y (some (1:Int)) (some 0)))=some 0):opR e:=by
 obtain⟨b,hb⟩:=b3_tot (e,s);rw[hb,aza]at h;cases b
 .rw[azd]at h;refine⟨fun hk=>?_,fun hk=>?_,fun hk=>?_,fun hk=>?_⟩<;>rw[hk]at h<;>exact b5_range h
 .rw[azc]at h;cases h
theorem op_is {e:Expr}(h:ezy e=some 0):opR e:=by
 unfold ezy at h;rw[azp]at h;obtain⟨b1,h1⟩:∃b,izi e=some b:=by unfold izi;rw[brnI];split<;>exact⟨_,rfl⟩
 rw[h1,aza]at h;cases b1
 .rw[azd]at h;obtain⟨y,hy⟩:∃y,kzi e.Kind=some y:=by
   cases hy:kzi e.Kind
   .rw[hy]at h;cases h
   .exact⟨_,rfl⟩
  rw[hy,aza]at h;obtain⟨b2,h2⟩:=b2_tot (e,y.1,y.2.1,y.2.2.1,y.2.2.2);rw[h2,aza]at h;cases b2
  .rw[azd]at h;have tl:=@tail_op e y.2.2.1 y.2.2.2.2;obtain⟨a,ha⟩:=Jzt e.A;have area:∀x:Option Int,(obnd (bz2 e.A) fun y_3=>brn (!decide (y_3=0)) (some 12) x)=some 0->x=some 0:=fun x hx=>by
    rw[ha,aza]at hx;cases hd:(!decide (a=0))
    .rw[hd,azd]at hx;exact hx
    .rw[hd,azc]at hx;cases hx
   have two:∀x:Option Int,brn (decide (0<y.2.1)) (obnd (bz2 e.A) fun y_3=>brn (!decide (y_3=0)) (some 12) x) x=some 0->x=some 0:=fun x hx=>by
    cases hd:decide (0<y.2.1)
    .rw[hd,azd]at hx;exact hx
    .rw[hd,azc]at hx;exact area x hx
   cases hv:y.1
   .rw[hv,azd]at h;exact tl (two _ h)
   .rw[hv,azc]at h;cases hc:bzZ e.V with
    | none=>rw[hc]at h;cases h
    | some c =>
     rw[hc,aza]at h;cases hd:(!decide (c=0))
     .rw[hd,azd]at h;cases hd:decide (e.V.Kind=0)
      .rw[hd,azd]at h;exact tl (two _ h)
      .rw[hd,azc]at h;cases h
     .rw[hd,azc]at h;injection h with h;simp[h]at hd
  .rw[azc]at h;cases h
 .rw[azc]at h;cases h
def b8 (x:Int):UInt8:=UInt8.ofNat (u8.wrap x).toNat
def cnB (v:Val):List UInt8:=if v.Kind=1 then 31::(lw 8 (u64.wrap v.N.M)++[b8 v.N.S])else if v.Kind=2 then 23::(if(dzC v.S).2=0 then stB v.S else [])else if v.Kind=3 then [29,if v.B then 1 else 0]else [28,b8 v.E]
def tok (e:Expr):List UInt8:=if e.Kind=1 then cnB e.V else if e.Kind=2 then 36::rfB e.A.A else if e.Kind=3 then 37::(rfB e.A.A++rfB e.A.B)else if e.Kind=4 then [58,b8 e.Sheet]++rfB e.A.A else if e.Kind=5 then [59,b8 e.Sheet]++(rfB e.A.A++rfB e.A.B)else if e.Kind=6 then 35::lw 2 e.Op else if e.Kind=7 then [if e.Op=1 then 19 else if e.Op=2 then 18 else 20]else if e.Kind=8 then [b8 (2+e.Op)]else if e.Kind=9 then [34,b8 e.Kids.length,b8 e.Op]else [21]
theorem flat_le {A B:Type}{f:A->List B}{k:Nat}(h:∀a,(f a).length<=k):∀l:List A,(l.flatMap f).length<=k*l.length
 | []=>by simp
 | a::l=>by rw[List.flatMap_cons,List.length_append,List.length_cons];have:=h a;have:=flat_le h l;rw[Nat.mul_add];omega
theorem stB_le {x:List UInt8}(h:(dzC x).2=0):(stB x).length<=2003:=by
 obtain⟨-,h2,-⟩:=tzW h;have:=flat_le (tub_le (nar x)) (us (rs x));rw[vz2]at this;simp only[stB,List.length_append,ezP,List.length_cons,List.length_nil];omega
theorem cnB_le (v:Val):(cnB v).length<=2004:=by
 unfold cnB;split
 .simp[ezP]
 .split
  .rw[List.length_cons];split
   .have:=stB_le (x:=v.S) (by assumption);omega
   .simp
  .split<;>simp
theorem tok_le (e:Expr):(tok e).length<=2004:=by
 unfold tok;have:=cnB_le e.V
 repeat' split
 all_goals (try simp[wzU,ezP]);try omega
theorem const_is {b:List UInt8}{v:Val}(hb:b.length<=90000000)(hl:v.S.length<=3000):nzp (b,v)=some (b++cnB v):=by
 unfold nzp cnB;simp only;by_cases h1:v.Kind=1
 .rw[dT0 h1,azc,if_pos h1,appN (by simp;omega),aza];have:=lePut_is (b:=b++[UInt8.ofNat 31]) (v:=u64.wrap v.N.M) (n:=8) (by omega) (by simp;omega);unfold zzm;rw[show((8:Nat):Int)=8 from rfl]at this;simp only;rw[this,aza,aza,appN (by simp[ezP];omega)];simp[b8]
 rw[dF0 h1,azd,if_neg h1];by_cases h2:v.Kind=2
 .rw[dT0 h2,azc,if_pos h2,appN (by simp;omega),aza,put_is (by simp;omega) (by omega),aza];simp only;split<;>simp
 rw[dF0 h2,azd,if_neg h2];by_cases h3:v.Kind=3
 .rw[dT0 h3,azc,if_pos h3];cases v.B
  .rw[azd,appN (by simp;omega)];rfl
  .rw[azc,appN (by simp;omega)];rfl
 rw[dF0 h3,azd,if_neg h3,appN (by simp;omega)];rfl
theorem rowR {e:Expr}(hk:okK e)(h0:2<=e.Kind)(h1:e.Kind<=5):(0<=e.A.A.Row/\e.A.A.Row<65536)/\(0<=e.A.B.Row/\e.A.B.Row<65536):=by
 have:=hk.2.2.2.2.2.2.2 h0 h1;rw[uzB]at this;cases hg:gd e.A.A&&gd e.A.B
 .rw[hg]at this;cases this
 .simp[gd]at hg;omega
theorem token_is {b:List UInt8}{e:Expr}(hb:b.length<=80000000)(hl:e.V.S.length<=3000)(ho:opR e):rzp (b,e)=some (b++tok e):=by
 unfold rzp tok;simp only;by_cases h1:e.Kind=1
 .rw[dT0 h1,azc,if_pos h1,const_is (by omega) hl];rfl
 rw[dF0 h1,azd,if_neg h1];by_cases h2:e.Kind=2
 .rw[dT0 h2,azc,if_pos h2,appN (by simp;omega),aza,AzP (by simp;omega) (by simp)];simp
 rw[dF0 h2,azd,if_neg h2];by_cases h3:e.Kind=3
 .rw[dT0 h3,azc,if_pos h3,appN (by simp;omega),aza,AzP (by simp;omega) (by simp)];simp
 rw[dF0 h3,azd,if_neg h3];by_cases h4:e.Kind=4
 .rw[dT0 h4,azc,if_pos h4,appN (by simp;omega),aza,AzP (by simp;omega) (by simp)];simp[b8]
 rw[dF0 h4,azd,if_neg h4];by_cases h5:e.Kind=5
 .rw[dT0 h5,azc,if_pos h5,appN (by simp;omega),aza,AzP (by simp;omega) (by simp)];simp[b8]
 rw[dF0 h5,azd,if_neg h5];by_cases h6:e.Kind=6
 .rw[dT0 h6,azc,if_pos h6,appN (by simp;omega),aza];simp[lw2]
 rw[dF0 h6,azd,if_neg h6];by_cases h7:e.Kind=7
 .obtain⟨a,c⟩:=ho.2.1 h7;rw[dT0 h7,azc,if_pos h7];rcases(by omega:e.Op=1\/e.Op=2\/e.Op=3)with h|h|h<;>rw[h]
  .rw[show idx [UInt8.ofNat 19,UInt8.ofNat 18,UInt8.ofNat 20] (i64.wrap (1-1))=some 19 from rfl,aza,appN (by simp;omega)];rfl
  .rw[show idx [UInt8.ofNat 19,UInt8.ofNat 18,UInt8.ofNat 20] (i64.wrap (2-1))=some 18 from rfl,aza,appN (by simp;omega)];rfl
  .rw[show idx [UInt8.ofNat 19,UInt8.ofNat 18,UInt8.ofNat 20] (i64.wrap (3-1))=some 20 from rfl,aza,appN (by simp;omega)];rfl
 rw[dF0 h7,azd,if_neg h7];by_cases h8:e.Kind=8
 .obtain⟨a,c⟩:=ho.2.2.1 h8;rw[dT0 h8,azc,if_pos h8,show u8.wrap e.Op=e.Op from lzx ⟨by show(0:Int)<=_;omega,by show _<=(255:Int);omega⟩,appN (by simp;omega)];rfl
 rw[dF0 h8,azd,if_neg h8];by_cases h9:e.Kind=9
 .rw[dT0 h9,azc,if_pos h9,appN (by simp;omega)];rfl
 rw[dF0 h9,azd,if_neg h9,appN (by simp;omega)];rfl
set_option linter.unusedSimpArgs false
theorem refTok_is {b:List UInt8}{e:Expr}(hb:b.length<=80000000)(hl:e.V.S.length<=3000)(hk:okK e)(ho:opR e)
 {self:List UInt8×Expr->Option (List UInt8)} {b0:List UInt8} (h0:nzq self (b0,e,0)=some b):ezJ self (b0,e)=some (b++tok e):=by
 unfold ezJ tok;simp only[azp];rw[h0,aza];by_cases h1:e.Kind=1
 .rw[dT0 h1,azc,if_pos h1];unfold cnB;by_cases v1:e.V.Kind=1
  .rw[dT0 v1,azc,if_pos v1,appN (by simp;omega),aza];have:=iza (b:=b++[UInt8.ofNat 31]) (v:=u64.wrap e.V.N.M) (n:=8) (by omega) (by simp;omega);rw[show((8:Nat):Int)=8 from rfl]at this;rw[this,aza,appN (by simp[ezP];omega)];simp[b8]
  rw[dF0 v1,azd,if_neg v1];by_cases v2:e.V.Kind=2
  .rw[dT0 v2,azc,if_pos v2,appN (by simp;omega),aza,KzK (by simp;omega) (by omega),aza];simp only;split<;>simp
  rw[dF0 v2,azd,if_neg v2];by_cases v3:e.V.Kind=3
  .rw[dT0 v3,azc,if_pos v3];cases e.V.B
   .rw[azd,appN (by simp;omega)];rfl
   .rw[azc,appN (by simp;omega)];rfl
  rw[dF0 v3,azd,if_neg v3,appN (by simp;omega)];rfl
 rw[dF0 h1,azd,if_neg h1];by_cases h2:e.Kind=2
 .obtain⟨⟨r0,r1⟩,r2,r3⟩:=rowR hk (by omega) (by omega);rw[dT0 h2,azc,if_pos h2,appN (by simp;omega),aza,nzV (by simp;omega) r0 r1];simp
 rw[dF0 h2,azd,if_neg h2];by_cases h3:e.Kind=3
 .obtain⟨⟨r0,r1⟩,r2,r3⟩:=rowR hk (by omega) (by omega);rw[dT0 h3,azc,if_pos h3,appN (by simp;omega),aza,nzV (by simp;omega) r0 r1,aza,nzV (by simp[wzU];omega) r2 r3];simp
 rw[dF0 h3,azd,if_neg h3];by_cases h4:e.Kind=4
 .obtain⟨⟨r0,r1⟩,r2,r3⟩:=rowR hk (by omega) (by omega);rw[dT0 h4,azc,if_pos h4,appN (by simp;omega),aza,nzV (by simp;omega) r0 r1];simp[b8]
 rw[dF0 h4,azd,if_neg h4];by_cases h5:e.Kind=5
 .obtain⟨⟨r0,r1⟩,r2,r3⟩:=rowR hk (by omega) (by omega);rw[dT0 h5,azc,if_pos h5,appN (by simp;omega),aza,nzV (by simp;omega) r0 r1,aza,nzV (by simp[wzU];omega) r2 r3];simp[b8]
 rw[dF0 h5,azd,if_neg h5];by_cases h6:e.Kind=6
 .obtain⟨a,c⟩:=ho.1 h6;rw[dT0 h6,azc,if_pos h6,appN (by simp;omega),aza,Gzp a (by omega)];have:=iza (b:=b++[UInt8.ofNat 35]) (v:=e.Op) (n:=2) (by omega) (by simp;omega);rw[show((2:Nat):Int)=2 from rfl]at this;rw[this];simp
 rw[dF0 h6,azd,if_neg h6];by_cases h7:e.Kind=7
 .obtain⟨a,c⟩:=ho.2.1 h7;rw[dT0 h7,azc,if_pos h7];rcases(by omega:e.Op=1\/e.Op=2\/e.Op=3)with h|h|h<;>rw[h]
  .rw[show idx [(19:Int),18,20] (i64.wrap (1-1))=some 19 from rfl,aza,appN (by simp;omega)];rfl
  .rw[show idx [(19:Int),18,20] (i64.wrap (2-1))=some 18 from rfl,aza,appN (by simp;omega)];rfl
  .rw[show idx [(19:Int),18,20] (i64.wrap (3-1))=some 20 from rfl,aza,appN (by simp;omega)];rfl
 rw[dF0 h7,azd,if_neg h7];by_cases h8:e.Kind=8
 .obtain⟨a,c⟩:=ho.2.2.1 h8;rw[dT0 h8,azc,if_pos h8,azW (by omega) (by omega),appN (by simp;omega)];rfl
 rw[dF0 h8,azd,if_neg h8];by_cases h9:e.Kind=9
 .rw[dT0 h9,azc,if_pos h9,appN (by simp;omega)];rfl
 rw[dF0 h9,azd,if_neg h9,appN (by simp;omega)];rfl
def pb:Nat->Expr->List UInt8
 | 0,_=>[]
 | d+1,e=>e.Kids.flatMap (pb d)++tok e
theorem pb_le:∀(d:Nat) (e:Expr),(pb d e).length<=2004*sz d e
 | 0,_=>by simp[pb]
 | d+1,e=>by
  have key:∀l:List Expr,(l.flatMap (pb d)).length<=2004*(l.map (sz d)).sum:=fun l=>by
   induction l with
   | nil=>simp
   | cons a l ih=>rw[List.flatMap_cons,List.length_append,List.map_cons,List.sum_cons];have:=pb_le d a;omega
  have:=key e.Kids;have:=tok_le e
  show(e.Kids.flatMap (pb d)++tok e).length<=2004*(1+(e.Kids.map (sz d)).sum)
  rw[List.length_append];omega
theorem sz_take {d:Nat}{e:Expr}(i:Nat):((e.Kids.take i).flatMap (pb d)).length+2004<=2004*sz (d+1) e:=by
 have key:∀l:List Expr,(l.flatMap (pb d)).length<=2004*(l.map (sz d)).sum:=fun l=>by
  induction l with
  | nil=>simp
  | cons a l ih=>rw[List.flatMap_cons,List.length_append,List.map_cons,List.sum_cons];have:=pb_le d a;omega
 have h1:=key (e.Kids.take i);have h2:((e.Kids.take i).map (sz d)).sum<=(e.Kids.map (sz d)).sum:=by
  conv=>rhs;rw[<-List.take_append_drop i e.Kids,List.map_append,List.sum_append]
  omega
 show _<=2004*(1+(e.Kids.map (sz d)).sum)
 omega
theorem sz_takeK {d:Nat}{e:Expr}{i:Nat}(hi:i<e.Kids.length):((e.Kids.take i).flatMap (pb d)).length+2004*sz d e.Kids[i]<=2004*sz (d+1) e:=by
 have key:∀l:List Expr,(l.flatMap (pb d)).length<=2004*(l.map (sz d)).sum:=fun l=>by
  induction l with
  | nil=>simp
  | cons a l ih=>rw[List.flatMap_cons,List.length_append,List.map_cons,List.sum_cons];have:=pb_le d a;omega
 have h1:=key (e.Kids.take i);have h2:((e.Kids.take i).map (sz d)).sum+sz d e.Kids[i]<=(e.Kids.map (sz d)).sum:=by
  conv=>rhs;rw[<-List.take_append_drop i e.Kids,List.map_append,List.sum_append]
  rw[List.drop_eq_getElem_cons hi,List.map_cons,List.sum_cons];omega
 show _<=2004*(1+(e.Kids.map (sz d)).sum)
 omega
def gN:Nat->Expr->Prop
 | 0,_=>False
 | d+1,e=>ezy e=some 0/\∀k∈e.Kids,gN d k
theorem fb0 {f:Expr->Int}:∀{l:List Expr},fb f l=0->∀e∈l,f e=0
 | [],_,e,h=>by cases h
 | a::l,h,e,he=>by
  unfold fb at h;split at h
  .rcases List.mem_cons.1 he with rfl|he
   .assumption
   .exact fb0 h e he
  .contradiction
theorem gN_of:∀(d:Nat) (k:Int) (e:Expr),tr d e->(∀x∈pre d k e,nd x.e=0)->gN d e
 | 0,_,_,h,_=>h.elim
 | d+1,k,e,ht,h=>by
  refine⟨?_,fun x hx=>gN_of d (k+1) x (ozV ht hx) fun y hy=>h y ?_⟩
  .have:=h ⟨e,k⟩ (by simp[pre]);rw[(nd_is ht.1).2];rw[this]
  .simp only[pre,List.mem_cons,List.mem_flatMap];exact .inr ⟨x,hx,hy⟩
theorem ck0 {e:Expr}(ht:tr 40 e)(h:ck e=0):gN 40 e/\dp 40 e<=16:=by
 unfold ck at h;split at h
 .cases h
 .split at h
  .cases h
  .exact⟨gN_of 40 1 e ht fun x hx=>fb0 h x.e (List.mem_map_of_mem hx),by omega⟩
theorem puts_is:∀(d N:Nat) (e:Expr) (b:List UInt8),d<N->sz d e<=1000->tr d e->gN d e->b.length+2004*sz d e<=80000000 ->
 iter izw N (b,e)=some (b++pb d e)/\iter ezJ N (b,e)=some (b++pb d e)
 | _,0,_,_,h,_,_,_,_=>absurd h (by omega)
 | 0,_,_,_,_,_,h,_,_=>h.elim
 | d+1,N+1,e,b,hN,hs,ht,hg,hb=>by
  have hl:=lenK hs;obtain⟨r,hr,hok⟩:=Hzj ht.1;have hok:=hok (by have:=hg.1;rw[hr]at this;injection this);have hop:=op_is hg.1;have hk:∀i (hi:i<e.Kids.length) (s:List UInt8),s=b++(e.Kids.take i).flatMap (pb d)->iter izw N (s,e.Kids[i])=some (s++pb d e.Kids[i])/\iter ezJ N (s,e.Kids[i])=some (s++pb d e.Kids[i]):=fun i hi s hs'=>by
   refine puts_is d N _ s (by omega) (szK hs (List.getElem_mem hi)) (ozV ht (List.getElem_mem hi)) (hg.2 _ (List.getElem_mem hi)) ?_;have:=sz_takeK (d:=d) (e:=e) hi;rw[hs',List.length_append];omega
  rw[azN,azN];generalize iter izw N=S at hk;generalize iter ezJ N=S' at hk;have nxt:∀(s:List UInt8) i (hi:i<e.Kids.length) (s':List UInt8),s=b++(e.Kids.take i).flatMap (pb d)->(.inl (s++pb d e.Kids[i]):List UInt8⊕List UInt8) = .inl s'->s'=b++(e.Kids.take (i+1)).flatMap (pb d):=fun s i hi s' h1 h2=>by
   injection h2 with h2;rw[<-h2,h1,List.take_succ_eq_append_getElem hi,List.flatMap_append];simp
  have p1:=bzL (F:=lzr S) (fun(s:List UInt8) (i:Nat)=>(s,e.Kids,(e.Kids.length:Int),(i:Int))) id e.Kids (fun s x=>(.inl (s++pb d x):List UInt8⊕List UInt8)) id (fun s i=>s=b++(e.Kids.take i).flatMap (pb d)) (by omega)
   (fun back s i hi hp=>by
    unfold lzr;simp only[azp];rw[ltT hi,azc,idxG hi,aza,(hk i hi s hp).1,aza,wr1 (by omega)];rfl)
   nxt
   (fun back s _=>by unfold lzr;simp only;rw[ltF];rfl) b (by simp)
  have p2:=bzL (F:=izZ S') (fun(s:List UInt8) (i:Nat)=>(s,e,(i:Int))) id e.Kids (fun s x=>(.inl (s++pb d x):List UInt8⊕List UInt8)) id (fun s i=>s=b++(e.Kids.take i).flatMap (pb d)) (by omega)
   (fun back s i hi hp=>by
    unfold izZ;simp only[azp];rw[ltT hi,azc,idxG hi,aza,(hk i hi s hp).2,aza,wr1 (by omega)];rfl)
   nxt
   (fun back s _=>by unfold izZ;simp only;rw[ltF];rfl) b (by simp)
  rw[czX,iz4]at p1 p2;have hkl:(b++e.Kids.flatMap (pb d)).length<=80000000:=by
   have:=sz_take (d:=d) (e:=e) e.Kids.length;rw[List.take_length]at this;rw[List.length_append];omega
  constructor
  .unfold izw;simp only[azp];rw[show uzb S (b,e.Kids,(e.Kids.length:Int),0)=_ from p1];simp only[aza,id];rw[token_is hkl ht.1 hop];simp[pb]
  .rw[refTok_is hkl ht.1 hok hop (show nzq S' (b,e,0)=_ from p2)];simp[pb]
def enc1 (e:Expr):List UInt8×Int:=if ck e=0 then(if 4096<(pb 40 e).length then([],4)else(pb 40 e,0))else([],ck e)
theorem yzL {e:Expr}(hs:sz 40 e<=1000)(ht:tr 40 e):lzq e=some (enc1 e)/\hzu e=some (enc1 e):=by
 unfold lzq hzu enc1;rw[azp,yzT hs ht,JzE hs ht];simp only[aza];by_cases h:ck e=0
 .obtain⟨p1,p2⟩:=puts_is 40 big e [] (by rw[ezd];omega) hs ht (ck0 ht h).1 (by simp;omega);rw[dT0 h,if_pos h,show(!true)=false from rfl,azd,azd,show Dzs ([],e)=_ from p1,show wzH ([],e)=_ from p2];simp only[aza,List.nil_append,brnI,decide_eq_true_eq];by_cases h4:4096<(pb 40 e).length
  .rw[if_pos (by omega),if_pos h4];exact⟨rfl,rfl⟩
  .rw[if_neg (by omega),if_neg h4];exact⟨rfl,rfl⟩
 .rw[dF0 h,if_neg h];exact⟨rfl,rfl⟩
set_option linter.unusedSimpArgs false
theorem scan {S X Y:Type}{F:(X->Option Y)->X->Option Y}(mk:S->Nat->X)(n:Nat)(Q:S->Nat->Prop)(P:Y->Prop)(hn:n<=1000000000)
 (step:∀back s i,i<n->Q s i->(∃y,F back (mk s i)=some y/\P y)\/∃s',F back (mk s i)=back (mk s' (i+1))/\Q s' (i+1))
 (fin:∀back s,Q s n->∃y,F back (mk s n)=some y/\P y) (s:S) (h0:Q s 0):∃y,iter F big (mk s 0)=some y/\P y:=by
 have key:∀k N i s,i+k=n->k<N->Q s i->∃y,iter F N (mk s i)=some y/\P y:=by
  intro k;induction k with
  | zero =>
   intro N i s hi hN hq;obtain⟨m,rfl⟩:∃m,N=m+1:=⟨N-1,by omega⟩;have:i=n:=by omega
   subst this;rw[azN];exact fin _ s hq
  | succ k ih =>
   intro N i s hi hN hq;obtain⟨m,rfl⟩:∃m,N=m+1:=⟨N-1,by omega⟩;rw[azN];rcases step (iter F m) s i (by omega) hq with h|⟨s',h1,h2⟩
   .exact h
   .rw[h1];exact ih m (i+1) s' (by omega) (by omega) h2
 exact key n big 0 s (by omega) (by rw[ezd];omega) h0
theorem layout_l2 {bs:List UInt8}{cuts:List Int}{base w:Int}{us:List Int}(hw:w=1\/w=2)(hb:bs.length<=100000000)(hc:cuts.length<=100000000)(hu:us.length<=10000000):
 ∃y,fzp (bs,cuts,base,us,w,0)=some y/\(y.1.length<=bs.length+3*us.length/\y.2.1.length<=cuts.length+us.length):=by
 refine scan (F:=jzq) (fun(s:List UInt8×List Int×Int) (i:Nat)=>(s.1,s.2.1,s.2.2,us,w,(i:Int))) us.length (fun s i=>s.1.length<=bs.length+3*i/\s.2.1.length<=cuts.length+i) _ (by omega) ?_ ?_ (bs,cuts,base) (by simp)
 .rintro back ⟨b,c,p⟩ i hi ⟨h1,h2⟩;right;simp only at h1 h2;unfold jzq;simp only;rw[ltT hi,azc,idxG hi,wr1 (by omega)];cases decide (224<i64.wrap (i64.wrap ((b.length:Int)-p)+w))
  .rw[azd,aza,appN (by simp;omega),aza,aza];rcases hw with rfl|rfl
   .exact⟨(_,_,_),rfl,by simp;omega,by simp;omega⟩
   .rw[show decide ((2:Int)=2)=true from rfl,azc,appN (by simp;omega),aza];exact⟨(_,_,_),rfl,by simp;omega,by simp;omega⟩
  .rw[azc,appN (by simp;omega),aza,appN (by simp;omega),aza,aza,appN (by simp;omega),aza,aza];rcases hw with rfl|rfl
   .exact⟨(_,_,_),rfl,by simp;omega,by simp;omega⟩
   .rw[show decide ((2:Int)=2)=true from rfl,azc,appN (by simp;omega),aza];exact⟨(_,_,_),rfl,by simp;omega,by simp;omega⟩
 .rintro back ⟨b,c,p⟩ h;unfold jzq;simp only;rw[ltF,azd];exact⟨_,rfl,h⟩
def okT (l:List (List UInt8)):Prop:=∀x∈l,(dzC x).2=0
theorem layout_is {x:Table}(hl:x.Texts.length<=1000)(hs:kz3 x.Texts)(ht:okT x.Texts):
 ∃y,ozI x=some y/\(y.1.length<=10000000/\y.2.1.length<=10000000/\y.2.2.length<=1000):=by
 unfold ozI;have p1:=iza (b:=[]) (v:=u64.wrap x.Uses) (n:=4) (by omega) (by simp);have p2:=iza (b:=[]++lw 4 (u64.wrap x.Uses)) (v:=u64.wrap (x.Texts.length:Int)) (n:=4) (by omega) (by simp[ezP]);rw[show((4:Nat):Int)=4 from rfl]at p1 p2;rw[p1,aza,p2,aza];generalize hb0:[]++lw 4 (u64.wrap x.Uses)++lw 4 (u64.wrap (x.Texts.length:Int))=b0;have hb0:b0.length=8:=by rw[<-hb0];simp[ezP]
 have:=scan (F:=jzp) (fun(s:List UInt8×List Int×List Int×Int) (i:Nat)=>(x,s.1,s.2.1,s.2.2.1,s.2.2.2,(i:Int))) x.Texts.length
  (fun s i=>s.1.length<=8+3003*i/\s.2.1.length<=1001*i/\s.2.2.1.length<=i) (fun y=>y.1.length<=10000000/\y.2.1.length<=10000000/\y.2.2.length<=1000) (by omega)
  (by
   rintro back ⟨b,c,st,p⟩ i hi ⟨h1,h2,h3⟩;right;simp only at h1 h2 h3;have hm:=hs _ (List.getElem_mem hi);obtain⟨u1,u2,-⟩:=tzW (ht _ (List.getElem_mem hi));rw[<-vz2]at u2;have hrl:=tzJ x.Texts[i];unfold jzp;simp only;rw[ltT hi,azc,idxG hi,wr1 (by omega),aza,pzP (by omega),if_pos u1,aza,zz2 (by omega) (KzL _),aza,aza,zz1 (by omega) u1,aza];generalize us (rs x.Texts[i])=u at *;have go:∀(w:Int) (hw:w=1\/w=2) (b':List UInt8) (c':List Int) (p':Int) (st':List Int),b'.length<=b.length+3->c'.length<=c.length+1->st'.length<=st.length+1 ->
    ∃s':List UInt8×List Int×List Int×Int,(obnd (fzp (b',c',p',u,w,0)) fun y=>back (x,y.1,y.2.1,st',y.2.2,((i+1:Nat):Int)))=back (x,s'.1,s'.2.1,s'.2.2.1,s'.2.2.2,((i+1:Nat):Int))/\(s'.1.length<=8+3003*(i+1)/\s'.2.1.length<=1001*(i+1)/\s'.2.2.1.length<=i+1):=by
    intro w hw b' c' p' st' g1 g2 g3;obtain⟨y,e1,e2,e3⟩:=layout_l2 (base:=p') (us:=u) (w:=w) (bs:=b') (cuts:=c') hw (by omega) (by omega) (by omega);rw[e1,aza];exact⟨(y.1,y.2.1,st',y.2.2),rfl,Nat.le_trans e2 (by omega),Nat.le_trans e3 (by omega),Nat.le_trans g3 (by omega)⟩
   cases nar x.Texts[i]
   .rw[azd];cases decide (224<i64.wrap (i64.wrap ((b.length:Int)-p)+3))
    .rw[azd,appN (by simp;omega),aza,appN (by simp;omega),aza];exact go 2 (.inr rfl) _ _ _ _ (by simp) (by simp) (by simp)
    .rw[azc,appN (by simp;omega),aza,appN (by simp;omega),aza,appN (by simp;omega),aza];exact go 2 (.inr rfl) _ _ _ _ (by simp) (by simp) (by simp)
   .rw[azc];cases decide (224<i64.wrap (i64.wrap ((b.length:Int)-p)+3))
    .rw[azd,appN (by simp;omega),aza,appN (by simp;omega),aza];exact go 1 (.inl rfl) _ _ _ _ (by simp) (by simp) (by simp)
    .rw[azc,appN (by simp;omega),aza,appN (by simp;omega),aza,appN (by simp;omega),aza];exact go 1 (.inl rfl) _ _ _ _ (by simp) (by simp) (by simp))
  (by
   rintro back ⟨b,c,st,p⟩ ⟨h1,h2,h3⟩;simp only at h1 h2 h3;unfold jzp;simp only;rw[ltF,azd];exact⟨_,rfl,by simp only;omega,by simp only;omega,by simp only;omega⟩) (b0,[],[],0) (by simp[hb0])
 obtain⟨y,e1,e2⟩:=this;exact⟨_,by rw[show ozK (x,b0,[],[],0,0)=_ from e1,aza],e2⟩
set_option linter.unusedSimpArgs false
theorem czs {α:Type}{b:Bool}{x y:Option α}(hx:∃n,x=some n)(hy:∃n,y=some n):∃n,brn b x y=some n:=by cases b<;>assumption
theorem Azu {i:Nat}(h:0<i)(h1:i<=1000000000):i64.wrap ((i:Int)-1)=((i-1:Nat):Int):=by rw[azW (by omega) (by omega)];omega
theorem table_l1 {x:Table}(hl:x.Texts.length<=1000)(hs:kz3 x.Texts):∃z,lzB (x,0)=some z/\((∃e,z = .inr e/\e≠0)\/z = .inl ()/\∀i,i<x.Texts.length->∀h:i<x.Texts.length,(dzC x.Texts[i]).2=0):=by
 refine bz8 (F:=fzR) (fun i=>(x,(i:Int))) x.Texts.length (fun i=>∀h:i<x.Texts.length,(dzC x.Texts[i]).2=0) (fun z=>∃e,z = .inr e/\e≠0) (.inl ()) (by omega) ?_ ?_
 .intro back i hi;have hm:=hs _ (List.getElem_mem hi);unfold fzR;simp only;rw[ltT hi,azc,idxG hi,aza,lzu (by omega),aza,wr1 (by omega)];by_cases h:(dzC x.Texts[i]).2=0
  .rw[dT0 h];exact .inl ⟨rfl,fun _=>h⟩
  .rw[dF0 h];exact .inr ⟨_,rfl,_,rfl,h⟩
 .intro back;unfold fzR;simp only;rw[ltF];rfl
theorem table_l3 {x:Table}{n:Nat}(hl:x.Texts.length<=1000)(hn:n<x.Texts.length):∃z,lzD (x,(n:Int),0)=some z/\(z = .inr 7\/z = .inl ()/\∀i,i<n->True):=by
 refine bz8 (F:=fzT) (fun i=>(x,(n:Int),(i:Int))) n (fun i=>True) (fun z=>z = .inr 7) (.inl ()) (by omega) ?_ ?_
 .intro back i hi;unfold fzT;simp only;rw[ltT hi,azc,idxG (by omega:i<x.Texts.length),idxG hn,aza,aza,wr1 (by omega)];cases decide (x.Texts[i]=x.Texts[n])
  .exact .inl ⟨rfl,trivial⟩
  .exact .inr ⟨_,rfl,rfl⟩
 .intro back;unfold fzT;simp only;rw[ltF];rfl
theorem table_l2 {x:Table}(hl:x.Texts.length<=1000):∃z,lzC (x,0)=some z/\(z = .inr 7\/z = .inl ()/\∀i,i<x.Texts.length->True):=by
 refine bz8 (F:=fzS) (fun i=>(x,(i:Int))) x.Texts.length (fun i=>True) (fun z=>z = .inr 7) (.inl ()) (by omega) ?_ ?_
 .intro back i hi;unfold fzS;simp only;obtain⟨z,h1,h2⟩:=table_l3 hl hi;rw[ltT hi,azc,h1,aza,wr1 (by omega)];rcases h2 with rfl|⟨rfl,-⟩
  .exact .inr ⟨_,rfl,rfl⟩
  .exact .inl ⟨rfl,trivial⟩
 .intro back;unfold fzS;simp only;rw[ltF];rfl
theorem IzM {x:Table}(hl:x.Texts.length<=1000)(hs:kz3 x.Texts):∃r,kzY x=some r/\(r=0->okT x.Texts):=by
 unfold kzY;obtain⟨z,h1,h2⟩:=table_l1 hl hs;obtain⟨z',h3,h4⟩:=table_l2 hl;rw[dF0 (by omega),azd,h1,aza];rcases h2 with⟨e,rfl,he⟩|⟨rfl,h2⟩
 .exact⟨_,rfl,fun h=>absurd h he⟩
 .have ok:okT x.Texts:=fun t ht=>by
   obtain⟨i,hi,rfl⟩:=List.mem_iff_getElem.1 ht;exact h2 i hi hi
  simp only[osum];rw[h3,aza];rcases h4 with rfl|⟨rfl,-⟩
  .exact⟨_,rfl,fun h=>ok⟩
  .simp only;obtain⟨r,hr⟩:=czs (b:=decide (x.Uses<(x.Texts.length:Int))) (x:=some (1:Int)) (y:=brn (decide (2147483647<x.Uses)) (some 1) (some 0)) ⟨_,rfl⟩ (czs ⟨_,rfl⟩ ⟨_,rfl⟩);exact⟨r,hr,fun _=>ok⟩
theorem Hz6 {x:Rec}(hl:x.Data.length<=100000000):∃r,lz3 x=some r:=by
 have:∃y,ozD ([],⟨x.Type_,x.Data,[],x.At⟩,224)=some y/\True:=by
  refine nzQ (F:=lzL) (fun z=>(x.Data.length+224-z.2.2.toNat)) (fun z=>∃(c:List Int) (r:Rec) (i:Nat),z=(c,r,(i:Int))/\r.Data=x.Data/\c.length<=i/\i<=x.Data.length+224) _ ?_ _ ⟨[],_,224,rfl,rfl,by simp,by omega⟩ (by simp only;omega);rintro back z ⟨c,r,i,rfl,h1,h2,h3⟩ hb;unfold lzL;simp only at hb ⊢;rw[h1];by_cases h:i<x.Data.length
  .rw[dT0 (by omega),azc,appN (by simp;omega),aza,azW (by omega) (by omega)];exact hb _ ⟨_,_,i+224,rfl,rfl,by simp;omega,by omega⟩ (by simp only;omega)
  .rw[dF0 (by omega),azd];exact⟨_,rfl,trivial⟩
 obtain⟨y,h,-⟩:=this;unfold lz3;exact⟨_,by rw[h,aza]⟩
theorem rec_l1 {x:Rec}(hl:x.Cuts.length<=100000000):∃z,mzW (x,0,0)=some z:=by
 have:=scan (F:=hzL) (fun(s:Int) (i:Nat)=>(x,s,(i:Int))) x.Cuts.length (fun _ _=>True) (fun _=>True) (by omega)
  (by
   intro back s i hi _;unfold hzL;simp only;rw[ltT hi,azc,idxG hi,wr1 (by omega)];simp only[aza];cases decide (x.Cuts[i]<=s)
   .rw[azd];cases decide ((x.Data.length:Int)<=x.Cuts[i])
    .exact .inr ⟨_,rfl,trivial⟩
    .exact .inl ⟨_,rfl,trivial⟩
   .exact .inl ⟨_,rfl,trivial⟩)
  (by
   intro back s _;unfold hzL;simp only;rw[ltF];exact⟨_,rfl,trivial⟩) 0 trivial
 obtain⟨z,h,-⟩:=this;exact⟨z,h⟩
theorem rec_l2 {x:Rec}(hl:x.Cuts.length<=100000000):∃z,mzX (x,0,0)=some z:=by
 have:=scan (F:=hzM) (fun(s:Int) (i:Nat)=>(x,s,(i:Int))) x.Cuts.length (fun _ _=>True) (fun _=>True) (by omega)
  (by
   intro back s i hi _;unfold hzM;simp only;rw[ltT hi,azc,idxG hi,wr1 (by omega)];simp only[aza];cases decide (224<i64.wrap (x.Cuts[i]-s))
   .exact .inr ⟨_,rfl,trivial⟩
   .exact .inl ⟨_,rfl,trivial⟩)
  (by
   intro back s _;unfold hzM;simp only;rw[ltF];exact⟨_,rfl,trivial⟩) 0 trivial
 obtain⟨z,h,-⟩:=this;exact⟨z,h⟩
theorem Kz7 {x:Rec}(hl:x.Cuts.length<=100000000):∃r,mzv x=some r:=by
 unfold mzv;obtain⟨z,h1⟩:=rec_l1 hl;obtain⟨z',h2⟩:=rec_l2 hl;rw[h1,h2];refine czs ⟨_,rfl⟩ (czs ⟨_,rfl⟩ (czs ⟨_,rfl⟩ (czs ⟨_,rfl⟩ ?_)));rw[aza,aza];rcases z with z|z
 .rcases z' with z'|z'
  .exact czs ⟨_,rfl⟩ ⟨_,rfl⟩
  .exact⟨_,rfl⟩
 .exact⟨_,rfl⟩
theorem table_e1 {l:List Int}{b:List UInt8}(hl:l.length<=1000)(hb:b.length<=1000):∃y,kzZ (l,b,0)=some y/\y.length<=1000000:=by
 refine nzQ (F:=hzW) (fun z=>l.length+8-z.2.2.toNat) (fun z=>∃(c:List UInt8) (i:Nat),z=(l,c,(i:Int))/\c.length<=1000+4*i/\i<=l.length+8) _ ?_ _ ⟨b,0,rfl,by omega,by omega⟩ (by simp only;omega);rintro back z ⟨c,i,rfl,h1,h2⟩ hbk;unfold hzW;simp only at hbk ⊢;by_cases h:i<l.length
 .have:=iza (b:=c) (v:=u64.wrap l[i]) (n:=4) (by omega) (by omega);rw[show((4:Nat):Int)=4 from rfl]at this;rw[dT0 (by omega),azc,idxG h,aza,this,aza,azW (by omega) (by omega)];exact hbk _ ⟨_,i+8,rfl,by simp[ezP];omega,by omega⟩ (by simp only;omega)
 .rw[dF0 (by omega),azd];exact⟨_,rfl,by omega⟩
theorem GzI {x:Table}(hl:x.Texts.length<=1000)(hs:kz3 x.Texts):∃r,hzN x=some r:=by
 unfold hzN;obtain⟨r,hr,hk⟩:=IzM hl hs;rw[hr,aza];by_cases h:r=0
 .obtain⟨y,e1,e2,e3,e4⟩:=layout_is hl hs (hk h);rw[dT0 h,show(!true)=false from rfl,azd,e1,aza];have:=iza (b:=[]) (v:=8) (n:=2) (by omega) (by simp);rw[show((2:Nat):Int)=2 from rfl]at this;rw[this,aza];obtain⟨w,w1,w2⟩:=table_e1 (l:=y.2.2) (b:=[]++lw 2 8) e4 (by simp[ezP]);obtain⟨c,hc⟩:=Kz7 (x:=⟨252,y.1,y.2.1,0⟩) (by simp only;omega);obtain⟨d,hd⟩:=Hz6 (x:=⟨255,w,[],0⟩) (by simp only;omega);rw[w1,aza,hc,aza,hd];exact czs ⟨_,rfl⟩ ⟨_,rfl⟩
 .rw[dF0 h];exact⟨_,rfl⟩
set_option linter.unusedSimpArgs false
def gdC (x:Cell):Bool:=decide (0<=x.Row)&&(decide (x.Row<65536)&&(decide (0<=x.Col)&&decide (x.Col<256)))
theorem uz7 (x:Cell):ezv x=some (gdC x):=by
 unfold ezv gdC;simp only[brnA]
theorem place_tot (p:Place)(n:Int):∃b,kzR (p,n)=some b:=by
 unfold kzR;rw[uz7];exact czs (czs ⟨_,rfl⟩ ⟨_,rfl⟩) ⟨_,rfl⟩
theorem chain_is {l:List Place}(hl:l.length<=1000):∃r,gzX l=some r:=by
 unfold gzX;have:=iza (b:=[]) (v:=u64.wrap (l.length:Int)) (n:=2) (by omega) (by simp);rw[show((2:Nat):Int)=2 from rfl]at this;rw[dF0 (by omega),azd,this,aza];generalize hb:[]++lw 2 (u64.wrap (l.length:Int))=b0;have hb:b0.length=2:=by rw[<-hb];simp[ezP]
 have:=scan (F:=ezT) (fun(s:List UInt8) (i:Nat)=>(l,(⟨0,[],[],0⟩:Rec),s,(i:Int))) l.length (fun s i=>s.length<=2+4*i) (fun y=>match y with | .inl y=>y.1.length<=100000 | .inr _=>True) (by omega)
  (by
   intro back s i hi hs;unfold ezT;simp only;obtain⟨g,hg⟩:=place_tot l[i] 8;have p1:=iza (b:=s++[UInt8.ofNat (u8.wrap l[i].Sheet).toNat]) (v:=u64.wrap l[i].At.Row) (n:=2) (by omega) (by simp;omega);rw[show((2:Nat):Int)=2 from rfl]at p1;rw[ltT hi,azc,idxG hi,wr1 (by omega),aza,hg,aza];cases g
   .exact .inl ⟨_,rfl,trivial⟩
   .right;rw[show(!true)=false from rfl,azd,aza,appN (by simp;omega),aza,aza,p1,aza,aza,appN (by simp[ezP];omega),aza];exact⟨_,rfl,by simp[ezP];omega⟩)
  (by
   intro back s hs;unfold ezT;simp only;rw[ltF,azd];exact⟨_,rfl,by simp only;omega⟩) b0 (by omega)
 obtain⟨y,h1,h2⟩:=this;rw[show kzm (l,⟨0,[],[],0⟩,b0,0)=_ from h1,aza];cases y with
 | inl y =>
  obtain⟨r,hr⟩:=Hz6 (x:=⟨6247,y.1,[],0⟩) (by simp only at h2 ⊢;omega);simp only[osum];rw[hr];exact⟨_,rfl⟩
 | inr y=>exact⟨_,rfl⟩
theorem glob_l3 {x:Globals}{n:Nat}(hl:x.Sheets.length<=1000)(hn:n<x.Sheets.length):∃z,jzL (x,(n:Int),0)=some z/\(z = .inr 7\/z = .inl ()/\∀i,i<n->True):=by
 refine bz8 (F:=ezA) (fun i=>(x,(n:Int),(i:Int))) n (fun i=>True) (fun z=>z = .inr 7) (.inl ()) (by omega) ?_ ?_
 .intro back i hi;unfold ezA;simp only;rw[ltT hi,azc,idxG (by omega:i<x.Sheets.length),idxG hn,aza,aza,wr1 (by omega)];cases decide (x.Sheets[i]=x.Sheets[n])
  .exact .inl ⟨rfl,trivial⟩
  .exact .inr ⟨_,rfl,rfl⟩
 .intro back;unfold ezA;simp only;rw[ltF];rfl
theorem glob_l2 {x:Globals}(hl:x.Sheets.length<=1000)(hs:kz3 x.Sheets):∃z,jzK (x,0)=some z/\((∃e,z = .inr e/\e≠0)\/z = .inl ()/\∀i,i<x.Sheets.length->True):=by
 refine bz8 (F:=ezz) (fun i=>(x,(i:Int))) x.Sheets.length (fun i=>True) (fun z=>∃e,z = .inr e/\e≠0) (.inl ()) (by omega) ?_ ?_
 .intro back i hi;have hm:=hs _ (List.getElem_mem hi);unfold ezz;simp only;obtain⟨z,h1,h2⟩:=glob_l3 hl hi;rw[ltT hi,azc,idxG hi,aza,lzu (by omega),aza,h1,aza,wr1 (by omega)];cases decide ((dzC x.Sheets[i]).2=0)
  .exact .inr ⟨_,rfl,_,rfl,by decide⟩
  .cases decide ((dzC x.Sheets[i]).1<1)
   .cases decide (31<(dzC x.Sheets[i]).1)
    .rcases h2 with rfl|⟨rfl,-⟩
     .exact .inr ⟨_,rfl,_,rfl,by decide⟩
     .exact .inl ⟨rfl,trivial⟩
    .exact .inr ⟨_,rfl,_,rfl,by decide⟩
   .exact .inr ⟨_,rfl,_,rfl,by decide⟩
 .intro back;unfold ezz;simp only;rw[ltF];rfl
theorem glob_l4 {x:Globals}(hl:x.Formats.length<=1000)(hs:kz3 x.Formats):∃z,jzM (x,0)=some z/\((∃e,z = .inr e/\e≠0)\/z = .inl ()/\∀i,i<x.Formats.length->True):=by
 refine bz8 (F:=ezB) (fun i=>(x,(i:Int))) x.Formats.length (fun i=>True) (fun z=>∃e,z = .inr e/\e≠0) (.inl ()) (by omega) ?_ ?_
 .intro back i hi;have hm:=hs _ (List.getElem_mem hi);unfold ezB;simp only;rw[ltT hi,azc,idxG hi,aza,lzu (by omega),aza,wr1 (by omega)];by_cases h:(dzC x.Formats[i]).2=0
  .rw[dT0 h];exact .inl ⟨rfl,trivial⟩
  .rw[dF0 h];exact .inr ⟨_,rfl,_,rfl,h⟩
 .intro back;unfold ezB;simp only;rw[ltF];rfl
theorem glob_l5 {x:Globals}(hl:x.XFs.length<=1000):∃z,jzN (x,0)=some z/\((∃e,z = .inr e/\e≠0)\/z = .inl ()/\∀i,i<x.XFs.length->True):=by
 refine bz8 (F:=ezC) (fun i=>(x,(i:Int))) x.XFs.length (fun i=>True) (fun z=>∃e,z = .inr e/\e≠0) (.inl ()) (by omega) ?_ ?_
 .intro back i hi;unfold ezC;simp only;rw[ltT hi,azc,idxG hi,wr1 (by omega)];simp only[aza];cases decide (x.XFs[i]<0)
  .cases decide ((x.Formats.length:Int)<=x.XFs[i])
   .exact .inl ⟨rfl,trivial⟩
   .cases decide (x.XFs[i]=0)
    .exact .inr ⟨_,rfl,_,rfl,by decide⟩
    .exact .inl ⟨rfl,trivial⟩
  .exact .inr ⟨_,rfl,_,rfl,by decide⟩
 .intro back;unfold ezC;simp only;rw[ltF];rfl
theorem glob_l7 {l:List Expr}(hl:l.length<=1000000):∃z,jzP (l,0)=some z/\((∃e,z = .inr e/\e≠0)\/z = .inl ()/\∀i,i<l.length->∀h:i<l.length,l[i].Kind≠6):=by
 refine bz8 (F:=ezE) (fun i=>(l,(i:Int))) l.length (fun i=>∀h:i<l.length,l[i].Kind≠6) (fun z=>∃e,z = .inr e/\e≠0) (.inl ()) (by omega) ?_ ?_
 .intro back i hi;unfold ezE;simp only;rw[ltT hi,azc,idxG hi,aza,wr1 (by omega)];by_cases h:l[i].Kind=6
  .rw[dT0 h];exact .inr ⟨_,rfl,_,rfl,by decide⟩
  .rw[dF0 h];exact .inl ⟨rfl,fun _=>h⟩
 .intro back;unfold ezE;simp only;rw[ltF];rfl
def vzf (e:Expr):Prop:=ck e=0/\∀x∈rf 40 e,x.Kind≠6
theorem enc0 {e:Expr}(h:(enc1 e).2=0):ck e=0:=by
 unfold enc1 at h;split at h
 .assumption
 .exact h
theorem glob_l6 {x:Globals}(hl:x.Names.length<=1000)(hn:∀e∈x.Names,fewE e):∃z,jzO (x,0)=some z/\((∃e,z = .inr e/\e≠0)\/z = .inl ()/\∀i,i<x.Names.length->∀h:i<x.Names.length,vzf x.Names[i]):=by
 refine bz8 (F:=ezD) (fun i=>(x,(i:Int))) x.Names.length (fun i=>∀h:i<x.Names.length,vzf x.Names[i]) (fun z=>∃e,z = .inr e/\e≠0) (.inl ()) (by omega) ?_ ?_
 .intro back i hi;obtain⟨s1,s2⟩:=hn _ (List.getElem_mem hi);have hr:=zz5 40 x.Names[i];obtain⟨z,h1,h2⟩:=glob_l7 (l:=rf 40 x.Names[i]) (by omega);unfold ezD;simp only[azp];rw[ltT hi,azc,idxG hi,aza,(yzL (by omega) s2).2,aza,aza,(Czg (by omega) s2).2,aza,h1,aza,wr1 (by omega)];by_cases h:(enc1 x.Names[i]).2=0
  .rw[dT0 h];rcases h2 with⟨e,rfl,he⟩|⟨rfl,h2⟩
   .exact .inr ⟨_,rfl,_,rfl,he⟩
   .refine .inl ⟨rfl,fun _=>⟨enc0 h,fun y hy=>?_⟩⟩;obtain⟨j,hj,rfl⟩:=List.mem_iff_getElem.1 hy;exact h2 j hj hj
  .rw[dF0 h];exact .inr ⟨_,rfl,_,rfl,h⟩
 .intro back;unfold ezD;simp only;rw[ltF];rfl
set_option linter.unusedSimpArgs false
theorem Mzd {x:Globals}(h:fewG x)(s1:kz3 x.Sheets)(s2:kz3 x.Formats)(s3:kz3 x.Texts.Texts):
 ∃r,izR x=some r/\(r=0->1<=x.Sheets.length/\x.Sheets.length<=8/\∀e∈x.Names,vzf e):=by
 obtain⟨h1,h2,h3,h4,h5,h6,h7⟩:=h;unfold izR;obtain⟨b,hb,hb'⟩:∃b,gzy x=some b/\(b=false->1<=x.Sheets.length/\x.Sheets.length<=8):=by
  unfold gzy;by_cases a1:(x.Sheets.length:Int)<1
  .rw[dT0 a1];exact⟨_,rfl,fun h=>by cases h⟩
  rw[dF0 a1,azd];by_cases a2:(8:Int)<(x.Sheets.length:Int)
  .rw[dT0 a2];exact⟨_,rfl,fun h=>by cases h⟩
  rw[dF0 a2,azd];obtain⟨b,hb⟩:∃b,brn (decide ((64:Int)<(x.Formats.length:Int))) (some true) (brn (decide ((256:Int)<(x.XFs.length:Int))) (some true) (some (decide ((1024:Int)<(x.Names.length:Int)))))=some b :=
   czs ⟨_,rfl⟩ (czs ⟨_,rfl⟩ ⟨_,rfl⟩)
  exact⟨b,hb,fun _=>by omega⟩
 rw[hb,aza];cases b
 .rw[azd];obtain⟨z2,e2,q2⟩:=glob_l2 (x:=x) (by omega) s1;obtain⟨z4,e4,q4⟩:=glob_l4 (x:=x) (by omega) s2;obtain⟨z5,e5,q5⟩:=glob_l5 (x:=x) (by omega);obtain⟨z6,e6,q6⟩:=glob_l6 (x:=x) (by omega) h7;rw[e2,aza];rcases q2 with⟨e,rfl,he⟩|⟨rfl,-⟩
  .exact⟨_,rfl,fun h=>absurd h he⟩
  simp only[osum];rw[e4,aza];rcases q4 with⟨e,rfl,he⟩|⟨rfl,-⟩
  .exact⟨_,rfl,fun h=>absurd h he⟩
  simp only;rw[e5,aza];rcases q5 with⟨e,rfl,he⟩|⟨rfl,-⟩
  .exact⟨_,rfl,fun h=>absurd h he⟩
  simp only;rw[e6,aza];rcases q6 with⟨e,rfl,he⟩|⟨rfl,q6⟩
  .exact⟨_,rfl,fun h=>absurd h he⟩
  simp only;have ok:∀e∈x.Names,vzf e:=fun e he=>by
   obtain⟨j,hj,rfl⟩:=List.mem_iff_getElem.1 he;exact q6 j hj hj
  obtain⟨t,ht⟩:=GzI (x:=x.Texts) (by omega) s3;obtain⟨c,hc⟩:=chain_is (l:=x.Chain) (by omega);rw[ht,hc,aza,aza];obtain⟨r,hr⟩:=czs (b:=decide ((x.Texts.Texts.length:Int)=0)) (x:=brn (!decide (x.Texts.Uses=0)) (some 1) (brn (!decide (t.2.2=0)) (some t.2.2) (some c.2))) (y:=brn (!decide (t.2.2=0)) (some t.2.2) (some c.2)) (czs ⟨_,rfl⟩ (czs ⟨_,rfl⟩ ⟨_,rfl⟩)) (czs ⟨_,rfl⟩ ⟨_,rfl⟩);exact⟨r,hr,fun _=>⟨(hb' rfl).1,(hb' rfl).2,ok⟩⟩
 .exact⟨_,rfl,fun h=>by cases h⟩
set_option linter.unusedSimpArgs false
theorem KzO:∀(d N:Nat) (a b:Expr),d<N->sz d a<=1000->tr d a->∃r,iter czP N (a,b)=some r
 | _,0,_,_,h,_,_=>absurd h (by omega)
 | 0,_,_,_,_,_,h=>h.elim
 | d+1,N+1,a,b,hN,hs,ht=>by
  have hl:=lenK hs;have hk:∀x∈a.Kids,∀y,∃r,iter czP N (x,y)=some r:=fun x hx y=>KzO d N x y (by omega) (szK hs hx) (ozV ht hx)
  rw[azN];generalize iter czP N=S at hk;unfold czP;simp only[azp];refine czs ⟨_,rfl⟩ (czs ⟨_,rfl⟩ (czs ⟨_,rfl⟩ (czs ⟨_,rfl⟩ (czs ⟨_,rfl⟩ ?_))));by_cases hlen:a.Kids.length=b.Kids.length
  .rw[dT0 (by omega),show(!true)=false from rfl,azd];obtain⟨z,h1,-⟩:=bz8 (F:=czY S) (fun i=>(a,b,(i:Int))) a.Kids.length (fun i=>True) (fun z=>z = .inr false) (.inl ()) (by omega)
    (by
     intro back i hi;unfold czY;simp only[azp];obtain⟨r,hr⟩:=hk _ (List.getElem_mem hi) b.Kids[i];rw[ltT hi,azc,idxG hi,idxG (by omega:i<b.Kids.length),aza,aza,hr,aza,wr1 (by omega)];cases r
     .exact .inr ⟨_,rfl,rfl⟩
     .exact .inl ⟨rfl,trivial⟩)
    (by
     intro back;unfold czY;simp only;rw[ltF];rfl)
   rw[show jze S (a,b,0)=_ from h1,aza];cases z<;>exact⟨_,rfl⟩
  .rw[dF0 (by omega)];exact⟨_,rfl⟩
theorem same_is {a b:Expr}(h:fewE a):∃r,fzk (a,b)=some r:=KzO 40 big a b (by rw[ezd];omega) (by have:=h.1;omega) h.2
def okC (x:Cell2):Prop:=gdC x.At=true/\bzZ x.V=some 0/\(x.Has=true->x.V.Kind≠0/\ck x.E=0)
theorem cell_is {x:Cell2}(h:fewE x.E)(hv:x.V.S.length<=3000):∃r,izC x=some r/\(r=0->okC x):=by
 unfold izC okC;obtain⟨v,-,e1,-⟩:=wze hv;obtain⟨r,hr⟩:=same_is (b:=⟨0,⟨0,⟨0,0⟩,[],false,0⟩,⟨⟨0,0,false,false⟩,⟨0,0,false,false⟩⟩,0,0,[]⟩) h;rw[uz7,aza,azp,e1,hr,(yzL (by have:=h.1;omega) h.2).2];simp only[aza];cases gdC x.At
 .exact⟨_,rfl,fun h=>by cases h⟩
 .rw[show(!true)=false from rfl,azd];cases decide (x.XF<0)
  .rw[azd];cases decide (255<x.XF)
   .rw[azd];by_cases h0:v=0
    .rw[dT0 h0,show(!true)=false from rfl,azd];cases x.Has
     .rw[show(!false)=true from rfl,azc];cases r
      .exact⟨_,rfl,fun h=>by cases h⟩
      .exact⟨_,rfl,fun _=>⟨rfl,by rw[h0],fun h=>by cases h⟩⟩
     .rw[show(!true)=false from rfl,azd];by_cases h1:(enc1 x.E).2=0
      .rw[dT0 h1,show(!true)=false from rfl,azd];by_cases h2:x.V.Kind=0
       .rw[dT0 h2];exact⟨_,rfl,fun h=>by cases h⟩
       .rw[dF0 h2];exact⟨_,rfl,fun _=>⟨rfl,by rw[h0],fun _=>⟨h2,enc0 h1⟩⟩⟩
      .rw[dF0 h1];exact⟨_,rfl,fun h=>absurd h h1⟩
    .rw[dF0 h0];exact⟨_,rfl,fun h=>absurd h h0⟩
   .exact⟨_,rfl,fun h=>by cases h⟩
  .exact⟨_,rfl,fun h=>by cases h⟩
def nzg (a b:Cell):Bool:=decide (a.Row<b.Row)||(decide (a.Row=b.Row)&&decide (a.Col<b.Col))
theorem Jzq (a b:Cell):lz1 (a,b)=some (nzg a b):=by
 unfold lz1 nzg;simp only[brnA,brnO]
theorem cells_l1 {l:List Cell2}(hl:l.length<=1000)(hc:∀x∈l,fewE x.E/\x.V.S.length<=3000):
 ∃z,kzT (l,0)=some z/\((∃e,z = .inr e/\e≠0)\/z = .inl ()/\∀i,i<l.length->∀h:i<l.length,okC l[i]/\(0<i->nzg l[i-1].At l[i].At=true)):=by
 refine bz8 (F:=fzm) (fun i=>(l,(i:Int))) l.length (fun i=>∀h:i<l.length,okC l[i]/\(0<i->nzg l[i-1].At l[i].At=true)) (fun z=>∃e,z = .inr e/\e≠0) (.inl ()) (by omega) ?_ ?_
 .intro back i hi;obtain⟨c1,c2⟩:=hc _ (List.getElem_mem hi);obtain⟨r,hr,hk⟩:=cell_is c1 c2;unfold fzm;simp only[azp];rw[ltT hi,azc,idxG hi,aza,show izC ⟨l[i].At,l[i].XF,l[i].V,l[i].Has,l[i].E⟩=some r from hr,aza,wr1 (by omega)];by_cases h0:r=0
  .rw[dT0 h0,show(!true)=false from rfl,azd];by_cases hi0:0<i
   .rw[dT0 (by omega),azc,Azu hi0 (by omega),idxG (by omega:i-1<l.length),aza,aza,Jzq,aza];cases ha:nzg l[i-1].At l[i].At
    .exact .inr ⟨_,rfl,_,rfl,by decide⟩
    .exact .inl ⟨rfl,fun _=>⟨hk h0,fun _=>ha⟩⟩
   .rw[dF0 (by omega),azd];exact .inl ⟨rfl,fun _=>⟨hk h0,fun h=>absurd h hi0⟩⟩
  .rw[dF0 h0];exact .inr ⟨_,rfl,_,rfl,h0⟩
 .intro back;unfold fzm;simp only;rw[ltF];rfl
def okCs (l:List Cell2):Prop:=(∀x∈l,okC x)/\∀i (h:i<l.length),0<i->nzg l[i-1].At l[i].At=true
theorem cells_is {l:List Cell2}(hl:l.length<=1000)(hc:∀x∈l,fewE x.E/\x.V.S.length<=3000):∃r,jzT l=some r/\(r=0->okCs l):=by
 unfold jzT;obtain⟨z,h1,h2⟩:=cells_l1 hl hc;rw[dF0 (by omega),azd,h1,aza];rcases h2 with⟨e,rfl,he⟩|⟨rfl,h2⟩
 .exact⟨_,rfl,fun h=>absurd h he⟩
 .refine⟨_,rfl,fun _=>⟨fun x hx=>?_,fun i hi h0=>(h2 i hi hi).2 h0⟩⟩;obtain⟨j,hj,rfl⟩:=List.mem_iff_getElem.1 hx;exact(h2 j hj hj).1
set_option linter.unusedSimpArgs false
set_option linter.unusedVariables false
theorem rzG {X Z:Type}{F:(X->Option Z)->X->Option Z}(mk:Nat->X)(n:Nat)(c:Nat->Bool)(bad ok:Z)(hn:n<=1000000000)
 (h:∀back i,i<n->F back (mk i)=bif c i then back (mk (i+1))else some bad) (hend:∀back,F back (mk n)=some ok) :
 iter F big (mk 0)=some (bif (List.range n).all c then ok else bad):=by
 obtain⟨z,e1,e2⟩:=bz8 (F:=F) mk n (fun i=>c i=true) (fun z=>z=bad/\(List.range n).all c=false) ok hn
  (fun back i hi=>by
   rw[h back i hi];cases hc:c i with
   | true=>exact .inl ⟨rfl,rfl⟩
   | false=>exact .inr ⟨_,rfl,rfl,List.all_eq_false.2 ⟨i,List.mem_range.2 hi,by simp[hc]⟩⟩) hend
 rw[e1];rcases e2 with⟨rfl,e2⟩|⟨rfl,e2⟩
 .rw[e2];rfl
 .rw[show(List.range n).all c=true from List.all_eq_true.2 fun i hi=>e2 i (List.mem_range.1 hi)];rfl
theorem CzU {A X Z:Type}{F:(X->Option Z)->X->Option Z}(mk:Nat->X)(l:List A)(c:A->Bool)(bad ok:Z)(hn:l.length<=1000000000)
 (h:∀back i (hi:i<l.length),F back (mk i)=bif c l[i]then back (mk (i+1))else some bad) (hend:∀back,F back (mk l.length)=some ok) :
 iter F big (mk 0)=some (bif l.all c then ok else bad):=by
 obtain⟨z,e1,e2⟩:=bz8 (F:=F) mk l.length (fun i=>∀hi:i<l.length,c l[i]=true) (fun z=>z=bad/\l.all c=false) ok hn
  (fun back i hi=>by
   rw[h back i hi];cases hc:c l[i]with
   | true=>exact .inl ⟨rfl,fun _=>hc⟩
   | false=>exact .inr ⟨_,rfl,rfl,List.all_eq_false.2 ⟨_,List.getElem_mem hi,by simp[hc]⟩⟩) hend
 rw[e1];rcases e2 with⟨rfl,e2⟩|⟨rfl,e2⟩
 .rw[e2];rfl
 .rw[show l.all c=true from List.all_eq_true.2 fun a ha=>by obtain⟨i,hi,rfl⟩:=List.mem_iff_getElem.1 ha;exact e2 i hi hi];rfl
theorem ezl {A B X Z:Type}{F:(X->Option Z)->X->Option Z}(mk:List B->Nat->X)(g:List B->Z)(l:List A)(f:A->List B)(K:Nat)(s0:List B)(hl:l.length<=1000000000)(hK:∀a∈l,(f a).length<=K)
 (h:∀back s i (hi:i<l.length),s.length<=s0.length+K*i->F back (mk s i)=back (mk (s++f l[i]) (i+1)))
 (hend:∀back s,s.length<=s0.length+K*l.length->F back (mk s l.length)=some (g s)):iter F big (mk s0 0)=some (g (s0++l.flatMap f)):=by
 have this:=bzL (F:=F) mk g l (fun(s:List B) k=>(.inl (s++f k):List B⊕List B)) id (fun s i=>s.length<=s0.length+K*i) (by omega)
  (fun back s i hi hp=>h back s i hi hp)
  (fun s i hi s' hp he=>by
   cases he;have:=hK _ (List.getElem_mem hi);rw[List.length_append,Nat.mul_add];omega)
  (fun back s hs=>hend back s hs) s0 (by omega)
 rw[czX,id,iz4]at this;exact this
def fz {A:Type}(f:A->Int):List A->Int
 | []=>0
 | a::l=>if f a=0 then fz f l else f a
theorem fz_zero {A:Type}{f:A->Int}:∀{l:List A},fz f l=0↔∀a∈l,f a=0
 | []=>by simp[fz]
 | a::l=>by
  simp only[fz,List.mem_cons,forall_eq_or_imp];by_cases h:f a=0
  .rw[if_pos h,fz_zero];simp[h]
  .rw[if_neg h];simp[h]
def er (e:Int):Unit⊕Int:=if e=0 then .inl ()else .inr e
theorem er0:er 0 = .inl ():=rfl
theorem fz_loop {A X Z:Type}{F:(X->Option Z)->X->Option Z}(mk:Nat->X)(g:Int->Z)(l:List A)(f:A->Int)(hl:l.length<=1000000000)
 (h:∀back i (hi:i<l.length),F back (mk i)=bif decide (f l[i]=0)then back (mk (i+1))else some (g (f l[i])))
 (hend:∀back,F back (mk l.length)=some (g 0)):iter F big (mk 0)=some (g (fz f l)):=by
 have this:=bzL (F:=F) (fun(_:Unit) i=>mk i) g l (fun _ a=>if f a=0 then .inl ()else .inr (f a)) (fun _=>0) (fun _ _=>True) hl
  (fun back s i hi _=>by
   rw[h back i hi];by_cases c:f l[i]=0
   .rw[dT0 c,if_pos c];rfl
   .rw[dF0 c,if_neg c];rfl) (fun _ _ _ _ _ _=>trivial) (fun back _ _=>hend back) () trivial
 rw[this];congr 2;clear this h hend hl;induction l with
 | nil=>rfl
 | cons a l ih =>
  simp only[mzm,fz];by_cases c:f a=0
  .rw[if_pos c,if_pos c];exact ih
  .rw[if_neg c,if_neg c]
noncomputable def eqX {A:Type}(a b:A):Bool:=@decide (a=b) (Classical.propDecidable _)
theorem uzT {A:Type}{a b:A}:eqX a b=true↔a=b:=by unfold eqX;exact @decide_eq_true_iff _ (Classical.propDecidable _)
theorem rzU {A:Type}{a b:A}(h:¬a=b):eqX a b=false:=by
 cases e:eqX a b
 .rfl
 .exact absurd (uzT.1 e) h
theorem pze {A:Type}(a:A):eqX a a=true:=uzT.2 rfl
theorem uzM {c:Bool}{x:Option Bool}(h:c=false->x=some false):brn c (some false) x=some false:=by
 cases c
 .exact h rfl
 .rfl
noncomputable def eq2 {A:Type}(l m:List A)(i:Nat):Bool:=match l[i]?,m[i]? with
 | some x,some y=>eqX x y
 | _,_=>true
theorem uzR {A:Type}{l m:List A}{i:Nat}(h1:i<l.length)(h2:i<m.length):eq2 l m i=eqX l[i] m[i]:=by
 unfold eq2;rw[List.getElem?_eq_getElem h1,List.getElem?_eq_getElem h2]
theorem GzK {A:Type}{l m:List A}(hl:l.length=m.length):(List.range l.length).all (eq2 l m)=eqX l m:=by
 by_cases h:l=m
 .subst h;rw[pze,List.all_eq_true];intro i hi;rw[uzR (List.mem_range.1 hi) (List.mem_range.1 hi),pze]
 .rw[rzU h];cases hq:(List.range l.length).all (eq2 l m)
  .rfl
  .exfalso;apply h;apply List.ext_getElem hl;intro i h1 h2;have:=List.all_eq_true.1 hq i (List.mem_range.2 h1);rw[uzR h1 h2]at this;exact uzT.1 this
theorem same_eq:∀(d N:Nat) (a b:Expr),d<N->sz d a<=1000->tr d a->iter czP N (a,b)=some (eqX a b)
 | _,0,_,_,h,_,_=>absurd h (by omega)
 | 0,_,_,_,_,_,h=>h.elim
 | d+1,N+1,a,b,hN,hs,ht=>by
  have hl:=lenK hs;have hk:∀x∈a.Kids,∀y,iter czP N (x,y)=some (eqX x y):=fun x hx y=>same_eq d N x y (by omega) (szK hs hx) (ozV ht hx)
  rw[azN];generalize iter czP N=S at hk;have loop:a.Kids.length=b.Kids.length->jze S (a,b,0)=some (bif eqX a.Kids b.Kids then .inl ()else .inr false):=fun hlen=>by
   rw[<-GzK hlen];exact rzG (F:=czY S) (fun i=>(a,b,(i:Int))) a.Kids.length _ (.inr false) (.inl ()) (by omega)
    (by
     intro back i hi;unfold czY;simp only[azp];rw[ltT hi,azc,idxG hi,idxG (by omega:i<b.Kids.length),aza,aza,hk _ (List.getElem_mem hi),aza,wr1 (by omega),uzR hi (by omega)];cases eqX a.Kids[i] b.Kids[i]<;>rfl)
    (by
     intro back;unfold czY;simp only;rw[ltF];rfl)
  unfold czP;simp only[azp];by_cases hab:a=b
  .subst hab;rw[loop rfl,pze,pze];simp;rfl
  .rw[rzU hab];refine uzM fun h1=>uzM fun h2=>uzM fun h3=>uzM fun h4=>uzM fun h5=>uzM fun h6=>?_
   have hlen:a.Kids.length=b.Kids.length:=by simp at h6;omega
   rw[loop hlen];cases hq:eqX a.Kids b.Kids
   .rfl
   .exfalso;have h7:=uzT.1 hq;apply hab;clear hs ht hl hk loop hlen hq h6 hab hN;obtain⟨k,⟨vk,⟨m,s⟩,st,bb,e⟩,⟨⟨a1,a2,a3,a4⟩,⟨b1,b2,b3,b4⟩⟩,sh,op,ks⟩:=a;obtain⟨k',⟨vk',⟨m',s'⟩,st',bb',e'⟩,⟨⟨a1',a2',a3',a4'⟩,⟨b1',b2',b3',b4'⟩⟩,sh',op',ks'⟩:=b;simp at h1 h2 h3 h4 h5 h7 ⊢;simp[h1,h2,h3,h4,h5,h7]
theorem DzT {a b:Expr}(h:fewE a):fzk (a,b)=some (eqX a b):=same_eq 40 big a b (by rw[ezd];omega) (by have:=h.1;omega) h.2
theorem ezN (g:Group):Group.mk g.Array g.A g.B g.E=g:=rfl
theorem Cell2_eta (c:Cell2):Cell2.mk c.At c.XF c.V c.Has c.E=c:=rfl
def ltC (g:Group):Bool:=gdC g.A&&(gdC g.B&&(!decide (g.B.Row<g.A.Row)&&!decide (g.B.Col<g.A.Col)))
theorem gdC_b {c:Cell}(h:gdC c=true):0<=c.Row/\c.Row<65536/\0<=c.Col/\c.Col<256:=by
 unfold gdC at h;simp at h;omega
theorem ltC_b {g:Group}(h:ltC g=true):0<=g.A.Row/\g.A.Row<=g.B.Row/\g.B.Row<65536/\0<=g.A.Col/\g.A.Col<=g.B.Col/\g.B.Col<256:=by
 unfold ltC at h;simp only[Bool.and_eq_true,Bool.not_eq_true',decide_eq_false_iff_not]at h;obtain⟨h1,h2,h3,h4⟩:=h;have:=gdC_b h1;have:=gdC_b h2;omega
def rows (g:Group):Int:=g.B.Row-g.A.Row+1
def cols (g:Group):Int:=g.B.Col-g.A.Col+1
def cgD (g:Group):Int:=bif ltC g then(if 1024<rows g*cols g then 13 else bif !g.Array&&(!decide (g.A.Col=g.B.Col)||decide (g.A.Row=g.B.Row))then 13 else(enc1 g.E).2)else 12
theorem area_b {g:Group}(h:ltC g=true):1<=rows g/\rows g<=65536/\1<=cols g/\cols g<=256/\0<=rows g*cols g/\rows g*cols g<=16777216:=by
 have:=ltC_b h;have h1:1<=rows g/\rows g<=65536:=by unfold rows;omega
 have h2:1<=cols g/\cols g<=256:=by unfold cols;omega
 refine⟨h1.1,h1.2,h2.1,h2.2,Int.mul_nonneg (by omega) (by omega),?_⟩;have:=Int.mul_le_mul h1.2 h2.2 (by omega) (by omega:(0:Int)<=65536);omega
theorem ltC_is (g:Group):hzV g=some (!ltC g):=by
 unfold hzV ltC;rw[uz7,uz7];cases gdC g.A
 .rfl
 cases gdC g.B
 .rfl
 cases decide (g.B.Row<g.A.Row)<;>cases decide (g.B.Col<g.A.Col)<;>rfl
theorem group_is {g:Group}(h:fewE g.E):jzS g=some (cgD g):=by
 unfold jzS cgD;simp only[azp,ezN];rw[ltC_is,aza];cases hb:ltC g
 .rfl
 .obtain⟨a1,a2,a3,a4,a5,a6⟩:=area_b hb;have:=ltC_b hb;have e1:i64.wrap (i64.wrap (g.B.Row-g.A.Row)+1)=rows g:=by rw[azW (n:=g.B.Row-g.A.Row) (by omega) (by omega),azW (by omega) (by omega)];rfl
  have e2:i64.wrap (i64.wrap (g.B.Col-g.A.Col)+1)=cols g:=by rw[azW (n:=g.B.Col-g.A.Col) (by omega) (by omega),azW (by omega) (by omega)];rfl
  rw[e1,e2,azW (by omega) (by omega),show(!true)=false from rfl,azd,(yzL (by have:=h.1;omega) h.2).2,cond_true];simp only[aza];by_cases c:1024<rows g*cols g
  .rw[dT0 c,if_pos c];rfl
  .rw[dF0 c,if_neg c,azd];cases g.Array<;>cases decide (g.A.Col=g.B.Col)<;>cases decide (g.A.Row=g.B.Row)<;>rfl
def ovB (a b:Group):Bool:=decide (a.A.Row<=b.B.Row)&&(decide (b.A.Row<=a.B.Row)&&(decide (a.A.Col<=b.B.Col)&&decide (b.A.Col<=a.B.Col)))
theorem Mzx (a b:Group):mzp (a,b)=some (ovB a b):=by
 unfold mzp ovB;simp only[brnA]
def apart (l:List Group):Bool:=(List.range l.length).all fun i=>match l[i]? with
 | some a=>(l.take i).all fun b=>!ovB a b
 | none=>true
def csD (l:List Group):Int:=if fz cgD l=0 then(bif apart l then 0 else 13)else fz cgD l
theorem groups_l3 {l:List Group}{n:Nat}(hl:l.length<=1000)(hn:n<l.length):kzl (l,(n:Int),0)=some (bif (l.take n).all (fun b=>!ovB l[n] b)then .inl ()else .inr 13):=by
 have ht:(l.take n).length=n:=by rw[List.length_take];omega
 refine CzU (F:=ezS) (fun i=>(l,(n:Int),(i:Int))) (l.take n) (fun b=>!ovB l[n] b) (.inr 13) (.inl ()) (by omega) ?_ ?_
 .intro back i hi;have hi':i<n:=by omega
  unfold ezS;simp only[azp,ezN];rw[ltT hi',azc,idxG hn,idxG (by omega:i<l.length),aza,aza,Mzx,aza,wr1 (by omega),List.getElem_take];cases ovB l[n] l[i]<;>rfl
 .intro back;rw[ht];unfold ezS;simp only;rw[ltF];rfl
theorem GzC {l:List Group}(hl:l.length<=1000)(he:∀g∈l,fewE g.E):jzg l=some (csD l):=by
 have l1:kzj (l,0)=some (er (fz cgD l)):=by
  refine fz_loop (F:=ezQ) (fun i=>(l,(i:Int))) er l cgD (by omega) ?_ ?_
  .intro back i hi;unfold ezQ;simp only[azp,ezN];rw[ltT hi,azc,idxG hi,aza,group_is (he _ (List.getElem_mem hi)),aza,wr1 (by omega)];by_cases c:cgD l[i]=0
   .rw[dT0 c];rfl
   .rw[dF0 c,er,if_neg c];rfl
  .intro back;unfold ezQ;simp only;rw[ltF];rfl
 have l2:kzk (l,0)=some (bif apart l then .inl ()else .inr 13):=by
  refine rzG (F:=ezR) (fun i=>(l,(i:Int))) l.length _ (.inr 13) (.inl ()) (by omega) ?_ ?_
  .intro back i hi;unfold ezR;simp only;rw[ltT hi,azc,groups_l3 hl hi,aza,wr1 (by omega),List.getElem?_eq_getElem hi];simp only;cases(l.take i).all fun b=>!ovB l[i] b<;>rfl
  .intro back;unfold ezR;simp only;rw[ltF];rfl
 unfold jzg csD;rw[l1,l2,aza,aza];by_cases c:fz cgD l=0
 .rw[c,er0,if_pos rfl];cases apart l<;>rfl
 .rw[er,if_neg c,if_neg c];rfl
theorem Czk {A:Type}(p:A->Bool):∀l:List A,(l.flatMap fun a=>bif p a then [a]else [])=l.filter p
 | []=>rfl
 | a::l=>by rw[List.flatMap_cons,List.filter_cons,Czk p l];cases p a<;>rfl
theorem JzV {A B:Type}(f:A->B):∀l:List A,(l.flatMap fun a=>[f a])=l.map f
 | []=>rfl
 | a::l=>by rw[List.flatMap_cons,JzV f l];rfl
theorem arrays_is {l:List Group}(hl:l.length<=1000):nzr l=some (l.filter (·.Array)):=by
 have:nzB (l,[],0)=some ([]++l.flatMap fun g=>bif g.Array then [g]else []):=by
  refine ezl (F:=izA) (fun s i=>(l,s,(i:Int))) id l (fun g=>bif g.Array then [g]else []) 1 [] (by omega) (fun g _=>by cases g.Array<;>simp) ?_ ?_
  .intro back s i hi hs;unfold izA;simp only[azp,ezN];rw[ltT hi,azc,idxG hi,aza,aza,wr1 (by omega)];cases l[i].Array
   .simp
   .rw[azc,appN (by simp at hs ⊢;omega)];rfl
  .intro back s _;unfold izA;simp only;rw[ltF];rfl
 unfold nzr;rw[this,aza,List.nil_append,Czk]
def exD (g:Group):List Member:=(List.range (rows g).toNat).flatMap fun(r:Nat)=>(List.range (cols g).toNat).map fun(c:Nat)=>⟨⟨g.A.Row+(r:Int),g.A.Col+(c:Int)⟩,g.E⟩
theorem expand_is {g:Group}(h:ltC g=true)(ha:rows g*cols g<=1024):lzl g=some (exD g):=by
 have hb:=ltC_b h;obtain⟨a1,a2,a3,a4,-,-⟩:=area_b h;have b1:rows g<=1024:=by
  have:=Int.mul_le_mul (Int.le_refl (rows g)) a3 (by omega) (by omega);omega
 have l2:∀(s:List Member) (r:Nat),(r:Int)<rows g->s.length<=1000000->kzQ (g,s,g.A.Row+r,g.A.Col)=some (s++(List.range (cols g).toNat).map fun(c:Nat)=>(⟨⟨g.A.Row+(r:Int),g.A.Col+(c:Int)⟩,g.E⟩:Member)):=by
  intro s r hr hs;have:=ezl (F:=izz) (fun s i=>(g,s,g.A.Row+r,g.A.Col+(i:Int))) id (List.range (cols g).toNat) (fun(c:Nat)=>[(⟨⟨g.A.Row+(r:Int),g.A.Col+(c:Int)⟩,g.E⟩:Member)]) 1 s (by simp;omega) (by simp) ?_ ?_
  .rw[show g.A.Col+((0:Nat):Int)=g.A.Col by simp]at this;rw[show kzQ (g,s,g.A.Row+r,g.A.Col)=_ from this];rw[id,JzV]
  .intro back z i hi hz;have hi':i<(cols g).toNat:=by simpa using hi
   unfold izz;simp only[azp,ezN];have:g.A.Col+(i:Int)<=g.B.Col:=by unfold cols at hi';omega
   rw[dT0 this,azc,appN (by simp at hz ⊢;omega),aza,azW (by omega) (by omega),List.getElem_range];rw[show g.A.Col+(i:Int)+1=g.A.Col+((i+1:Nat):Int) by omega]
  .intro back z hz;unfold izz;simp only[azp,ezN];have:¬g.A.Col+((List.range (cols g).toNat).length:Int)<=g.B.Col:=by rw[List.length_range];unfold cols;omega
   rw[dF0 this];rfl
 have l1:nzA (g,[],g.A.Row)=some ([]++exD g):=by
  have:=ezl (F:=izy) (fun s i=>(g,s,g.A.Row+(i:Int))) id (List.range (rows g).toNat) (fun(r:Nat)=>(List.range (cols g).toNat).map fun(c:Nat)=>(⟨⟨g.A.Row+(r:Int),g.A.Col+(c:Int)⟩,g.E⟩:Member)) 256 [] (by simp;omega) (by simp;omega) ?_ ?_
  .rw[show g.A.Row+((0:Nat):Int)=g.A.Row by simp]at this;exact this
  .intro back z i hi hz;have hi':i<(rows g).toNat:=by simpa using hi
   unfold izy;simp only[azp,ezN];have:g.A.Row+(i:Int)<=g.B.Row:=by unfold rows at hi';omega
   rw[dT0 this,azc,l2 _ _ (by omega) (by simp at hz;omega),aza,azW (by omega) (by omega),List.getElem_range];rw[show g.A.Row+(i:Int)+1=g.A.Row+((i+1:Nat):Int) by omega]
  .intro back z hz;unfold izy;simp only[azp,ezN];have:¬g.A.Row+((List.range (rows g).toNat).length:Int)<=g.B.Row:=by rw[List.length_range];unfold rows;omega
   rw[dF0 this];rfl
 unfold lzl;simp only[azp,ezN];rw[l1];rfl
set_option linter.unusedSimpArgs false
set_option linter.unusedVariables false
def atC (p:Cell)(c:Cell2):Bool:=decide (c.At.Row=p.Row)&&decide (c.At.Col=p.Col)
def loc:Option Nat->Unit⊕Int
 | some i=>.inr i
 | none=>.inl ()
theorem cellAt_is {l:List Cell2}{p:Cell}(hl:l.length<=1000):nzs (l,p)=some (match l.findIdx? (atC p)with|some i=>(i:Int)|none=>-1):=by
 have:=yz2 (F:=izB) (fun i=>(l,p,(i:Int))) loc l (atC p) (by omega) ?_ ?_
 .unfold nzs;rw[show nzC (l,p,0)=_ from this,aza];cases l.findIdx? (atC p)<;>rfl
 .intro back i hi;unfold izB;simp only;rw[ltT hi,azc,idxG hi,aza,wr1 (by omega)];rfl
 .intro back;unfold izB;simp only;rw[ltF];rfl
noncomputable def hasC (l:List Cell2)(e:Expr)(p:Cell):Bool:=match l.find? (atC p)with
 | some c=>c.Has&&eqX c.E e
 | none=>false
theorem JzT {A:Type}{p:A->Bool}:∀{l:List A},(l.findIdx? p=none/\l.find? p=none)\/∃j,∃h:j<l.length,l.findIdx? p=some j/\l.find? p=some l[j]
 | []=>.inl ⟨rfl,rfl⟩
 | a::l=>by
  rw[List.findIdx?_cons,List.find?_cons];cases h:p a with
  | true=>exact .inr ⟨0,by simp,by simp,by simp⟩
  | false =>
   rcases JzT (p:=p) (l:=l)with⟨h1,h2⟩|⟨j,hj,h1,h2⟩
   .exact .inl ⟨by simp[h1],by simp[h2]⟩
   .exact .inr ⟨j+1,by simp;omega,by simp[h1],by simp[h2]⟩
theorem groups_l2 {s:Sheet}{a:List Group}{n:Nat}{m:List Member}(hc:s.Cells.length<=1000)(he:∀x∈s.Cells,fewE x.E)(hn:n<a.length)(hm:m.length<=100000):
 kzX (s,a,(n:Int),m,0)=some (bif m.all (fun x=>hasC s.Cells a[n].E x.At)then .inl ()else .inr false):=by
 refine CzU (F:=izE) (fun i=>(s,a,(n:Int),m,(i:Int))) m _ (.inr false) (.inl ()) (by omega) ?_ ?_
 .intro back i hi;unfold izE;simp only[azp];rw[ltT hi,azc,idxG hi,aza,cellAt_is hc,aza,idxG hn,wr1 (by omega)];unfold hasC;rcases JzT (p:=atC m[i].At) (l:=s.Cells)with⟨h1,h2⟩|⟨j,hj,h1,h2⟩
  .rw[h1,h2];rfl
  .rw[h1,h2];simp only;rw[dF0 (by omega),azd,idxG hj];simp only[aza];rw[DzT (he _ (List.getElem_mem hj)),aza];cases s.Cells[j].Has<;>cases eqX s.Cells[j].E a[n].E<;>rfl
 .intro back;unfold izE;simp only;rw[ltF];rfl
noncomputable def gOk (cs:List Cell2)(a:List Group)(i:Nat):Bool:=match a[i]? with
 | some g=>(decide (i=0)||match a[i-1]? with
  | some f=>nzg f.A g.A
  | none=>true)&&(exD g).all fun x=>hasC cs g.E x.At
 | none=>true
theorem exD_len {g:Group}(h:ltC g=true)(ha:rows g*cols g<=1024):(exD g).length<=1024:=by
 obtain⟨a1,a2,a3,a4,-,-⟩:=area_b h;have:((exD g).length:Int)=rows g*cols g:=by
  unfold exD;simp only[List.length_flatMap,List.length_map,List.length_range];rw[List.map_const',List.sum_replicate_nat,List.length_range,Int.natCast_mul,Int.toNat_of_nonneg (by omega),Int.toNat_of_nonneg (by omega)]
 omega
theorem cg0 {g:Group}(h:cgD g=0):ltC g=true/\rows g*cols g<=1024/\(g.Array=false->g.A.Col=g.B.Col/\g.A.Row≠g.B.Row)/\ck g.E=0:=by
 unfold cgD at h;cases hb:ltC g
 .rw[hb]at h;cases h
 .rw[hb,cond_true]at h;by_cases c:1024<rows g*cols g
  .rw[if_pos c]at h;cases h
  .rw[if_neg c]at h;cases hc:(!g.Array&&(!decide (g.A.Col=g.B.Col)||decide (g.A.Row=g.B.Row)))
   .rw[hc,cond_false]at h;refine⟨rfl,by omega,fun ha=>?_,enc0 h⟩;rw[ha]at hc;simpa using hc
   .rw[hc,cond_true]at h;cases h
theorem cs0 {l:List Group}(h:csD l=0):(∀g∈l,cgD g=0)/\apart l=true:=by
 unfold csD at h;by_cases c:fz cgD l=0
 .rw[if_pos c]at h;refine⟨fz_zero.1 c,?_⟩;cases ha:apart l
  .rw[ha]at h;cases h
  .rfl
 .rw[if_neg c]at h;exact absurd h c
theorem groups_l1 {s:Sheet}{a:List Group}(hc:s.Cells.length<=1000)(he:∀x∈s.Cells,fewE x.E)(hl:a.length<=1000)(h0:∀g∈a,cgD g=0):
 nzD (s,a,0)=some (bif (List.range a.length).all (gOk s.Cells a)then .inl ()else .inr false):=by
 refine rzG (F:=izD) (fun i=>(s,a,(i:Int))) a.length _ (.inr false) (.inl ()) (by omega) ?_ ?_
 .intro back i hi;obtain⟨q1,q2,-,-⟩:=cg0 (h0 _ (List.getElem_mem hi));have q3:=exD_len q1 q2;unfold izD gOk;simp only[azp,ezN];rw[ltT hi,azc,idxG hi,List.getElem?_eq_getElem hi];simp only[aza];rw[expand_is q1 q2,aza,groups_l2 hc he hi (by omega),aza,wr1 (by omega)];by_cases hi0:i=0
  .subst hi0;rw[dF0 (by omega),azd,dT0 rfl,Bool.true_or,Bool.true_and];cases(exD a[0]).all fun x=>hasC s.Cells a[0].E x.At<;>rfl
  .rw[dT0 (by omega),azc,Azu (by omega) (by omega),idxG (by omega:i-1<a.length),aza,Jzq,aza,dF0 hi0,Bool.false_or,List.getElem?_eq_getElem (by omega:i-1<a.length)];simp only;cases nzg a[i-1].A a[i].A
   .rfl
   .cases(exD a[i]).all fun x=>hasC s.Cells a[i].E x.At<;>rfl
 .intro back;unfold izD;simp only;rw[ltF];rfl
def hasG (g:Group)(c:Cell):Bool:=decide (g.A.Row<=c.Row)&&(decide (c.Row<=g.B.Row)&&(decide (g.A.Col<=c.Col)&&decide (c.Col<=g.B.Col)))
theorem has_is (g:Group)(c:Cell):rzq (g,c)=some (hasG g c):=by
 unfold rzq hasG;simp only[brnA]
def inA (l:List Group)(c:Cell):Bool:=l.any fun g=>g.Array&&hasG g c
theorem Mzh {l:List Group}{c:Cell}(hl:l.length<=1000):mzt (l,c)=some (inA l c):=by
 have:=CzU (F:=hzK) (fun i=>(l,c,(i:Int))) l (fun g=>!(g.Array&&hasG g c)) (.inr true) (.inl ()) (by omega) ?_ ?_
 .unfold mzt inA;rw[show mzV (l,c,0)=_ from this,aza,List.all_eq_not_any_not];simp only[Bool.not_not];cases l.any fun g=>g.Array&&hasG g c<;>rfl
 .intro back i hi;unfold hzK;simp only[azp,ezN];rw[ltT hi,azc,idxG hi];simp only[aza];rw[has_is,aza,wr1 (by omega)];cases l[i].Array<;>cases hasG l[i] c<;>rfl
 .intro back;unfold hzK;simp only;rw[ltF];rfl
def mem (cs:List Cell2)(a:List Group):List Member:=cs.flatMap fun c=>bif c.Has&&!inA a c.At then [⟨c.At,c.E⟩]else []
theorem MzA {cs:List Cell2}{a:List Group}(hc:cs.length<=1000)(ha:a.length<=1000):mzT (cs,a,[],0)=some (mem cs a):=by
 refine ezl (F:=hzI) (fun s i=>(cs,a,s,(i:Int))) id cs _ 1 [] (by omega) (fun c _=>by cases c.Has&&!inA a c.At<;>simp) ?_ ?_
 .intro back s i hi hs;unfold hzI;simp only[azp];rw[ltT hi,azc,idxG hi];simp only[aza];rw[Mzh ha,aza,wr1 (by omega),appN (by simp at hs ⊢;omega),aza];cases cs[i].Has<;>cases inA a cs[i].At<;>simp
 .intro back s _;unfold hzI;simp only;rw[ltF];rfl
theorem gzg {A B:Type}{f:A->List B}{K:Nat}:∀(l:List A),(∀a∈l,(f a).length<=K)->(l.flatMap f).length<=K*l.length
 | [],_=>Nat.zero_le _
 | a::l,h=>by
  have h1:=gzg l fun b hb=>h b (List.mem_cons_of_mem _ hb)
  have h2:=h a (List.mem_cons_self ..);rw[List.flatMap_cons,List.length_append,List.length_cons,Nat.mul_add];omega
theorem mem_len (cs:List Cell2)(a:List Group):(mem cs a).length<=cs.length:=by
 have:=gzg (f:=fun c:Cell2=>bif c.Has&&!inA a c.At then [(⟨c.At,c.E⟩:Member)]else []) (K:=1) cs (fun c _=>by cases c.Has&&!inA a c.At<;>simp);unfold mem;omega
theorem mem_few {cs:List Cell2}{a:List Group}(he:∀x∈cs,fewE x.E):∀m∈mem cs a,fewE m.E:=by
 intro m hm;unfold mem at hm;obtain⟨c,hc,hm⟩:=List.mem_flatMap.1 hm;cases h:c.Has&&!inA a c.At
 .rw[h]at hm;cases hm
 .rw[h]at hm;simp at hm;rw[hm];exact he c hc
set_option linter.unusedSimpArgs false
set_option linter.unusedVariables false
def colI (l:List Member)(c:Nat):List Nat:=(List.range l.length).filter fun i=>match l[i]? with
 | some m=>decide (m.At.Col=c)
 | none=>false
def ints (l:List Nat):List Int:=l.map fun(i:Nat)=>(i:Int)
theorem colI_lt {l:List Member}{c:Nat}:∀i∈colI l c,i<l.length:=fun i h=>List.mem_range.1 (List.mem_filter.1 h).1
theorem JzF (l:List Member)(c:Nat):(colI l c).length<=l.length:=by
 have:=List.length_filter_le (fun i=>match l[i]? with|some m=>decide (m.At.Col=c)|none=>false) (List.range l.length);rw[List.length_range]at this;exact this
theorem plan_l2 {l:List Member}{c:Nat}(hl:l.length<=1000):mzq (l,(c:Int),[],0)=some (ints (colI l c)):=by
 have:=ezl (F:=kzo) (fun s i=>(l,(c:Int),s,(i:Int))) id (List.range l.length) (fun i=>match l[i]? with|some m=>bif decide (m.At.Col=c)then [(i:Int)]else []|none=>[]) 1 [] (by simp;omega) ?_ ?_ ?_
 .rw[show mzq (l,(c:Int),[],0)=_ from this];congr 1;unfold ints colI;rw[id,List.nil_append];induction List.range l.length with
  | nil=>rfl
  | cons a t ih =>
   rw[List.flatMap_cons,List.filter_cons,ih];cases l[a]? with
   | none=>rfl
   | some m=>by_cases hd:m.At.Col=(c:Int)<;>simp[hd]
 .intro a _;cases l[a]? with
  | none=>simp
  | some m=>simp only;cases decide (m.At.Col=c)<;>simp
 .intro back s i hi hs;have hi':i<l.length:=by simpa using hi
  unfold kzo;simp only[azp];rw[ltT hi',azc,idxG hi',aza,wr1 (by omega),appN (by simp at hs ⊢;omega),aza,List.getElem_range,List.getElem?_eq_getElem hi'];simp only;cases decide (l[i].At.Col=c)<;>simp
 .intro back s _;unfold kzo;simp only;rw[List.length_range,ltF];rfl
noncomputable def runN (x:Member):Nat->List Member->Nat
 | n,[]=>n
 | n,y::t=>bif decide (n<1024)&&(decide (y.At.Row=i64.wrap (x.At.Row+n))&&eqX y.E x.E)then runN x (n+1) t else n
theorem runN_le (x:Member):∀(n:Nat) (t:List Member),n<=runN x n t/\runN x n t<=n+t.length
 | n,[]=>⟨Nat.le_refl _,by simp[runN]⟩
 | n,y::t=>by
  unfold runN;have:=runN_le x (n+1) t;cases decide (n<1024)&&(decide (y.At.Row=i64.wrap (x.At.Row+n))&&eqX y.E x.E)
  .simp
  .simp;omega
def pick (l:List Member)(at_:List Nat):List Member:=at_.flatMap fun i=>match l[i]? with
 | some m=>[m]
 | none=>[]
theorem Dzr {l:List Member}:∀{a:List Nat},(∀i∈a,i<l.length)->(pick l a).length=a.length
 | [],_=>rfl
 | i::a,h=>by
  have:=Dzr (l:=l) (a:=a) fun j hj=>h j (by simp[hj])
  unfold pick at this ⊢;rw[List.flatMap_cons,List.getElem?_eq_getElem (h i (by simp))];simp[this]
theorem wzE {l:List Member}:∀{a:List Nat} (h:∀i∈a,i<l.length) (j:Nat) (hj:j<a.length),(pick l a)[j]?=some (l[a[j]]'(h _ (List.getElem_mem hj)))
 | i::a,h,0,_=>by
  unfold pick;rw[List.flatMap_cons,List.getElem?_eq_getElem (h i (by simp))];rfl
 | i::a,h,j+1,hj=>by
  have:=wzE (l:=l) (a:=a) (fun j hj=>h j (by simp[hj])) j (by simpa using hj);unfold pick at this ⊢;rw[List.flatMap_cons,List.getElem?_eq_getElem (h i (by simp))];simpa using this
theorem idxN {a:List Nat}{j:Nat}(hj:j<a.length):idx (ints a) (j:Int)=some (a[j]:Int):=by
 rw[idxG (by unfold ints;simpa using hj)];simp[ints]
theorem bif_inl {A B:Type}{c:Bool}{x s:A}{y:B}(h:(bif c then .inl x else .inr y:A⊕B) = .inl s):s=x:=by
 cases c
 .cases h
 .cases h;rfl
theorem plan_l4 {l:List Member}{a:List Nat}{i:Nat}(ha:a.length<=1000)(h:∀i∈a,i<l.length)(he:∀m∈l,fewE m.E)(hi:i<a.length):
 mzr (l,ints a,(i:Int),1)=some ((runN (l[a[i]]'(h _ (List.getElem_mem hi))) 1 ((pick l a).drop (i+1)):Nat):Int):=by
 have hp:=Dzr h;have hdl:((pick l a).drop (i+1)).length=a.length-(i+1):=by rw[List.length_drop,hp]
 have hai:=h _ (List.getElem_mem hi);have key:=bzL (F:=kzq) (fun(s:Nat) j=>(l,ints a,(i:Int),((1+j:Nat):Int))) (fun n:Nat=>(n:Int)) ((pick l a).drop (i+1))
  (fun(n:Nat) y=>bif decide (n<1024)&&(decide (y.At.Row=i64.wrap (l[a[i]].At.Row+n))&&eqX y.E l[a[i]].E)then(.inl (n+1):Nat⊕Nat)else .inr n) id (fun s j=>s=1+j) (by omega)
  (by
   intro back s j hj hs;subst hs;have hj':i+(1+j)<a.length:=by omega
   have hb:=h _ (List.getElem_mem hj');have hg:((pick l a).drop (i+1))[j]=l[a[i+(1+j)]]:=by
    have:=wzE h (i+(1+j)) hj';rw[List.getElem?_eq_getElem (by omega)]at this;injection this with this;rw[List.getElem_drop,<-this];congr 1;omega
   have hil:(ints a).length=a.length:=by simp[ints]
   unfold kzq;simp only[azp];rw[hg,show i64.wrap ((i:Int)+((1+j:Nat):Int))=((i+(1+j):Nat):Int) by rw[azW (by omega) (by omega)];omega,hil,ltT hj',azc,idxN hj',idxN hi];simp only[aza];rw[idxG hb,idxG hai];simp only[aza];rw[DzT (he _ (List.getElem_mem hb)),aza,wr1 (by omega)];have hd:decide (((1+j:Nat):Int)<1024)=decide (1+j<1024):=by simp only[decide_eq_decide];omega
   rw[hd];cases decide (1+j<1024)<;>cases decide (l[a[i+(1+j)]].At.Row=i64.wrap (l[a[i]].At.Row+((1+j:Nat):Int)))<;>cases eqX l[a[i+(1+j)]].E l[a[i]].E<;>rfl)
  (by
   intro s j hj s' hs hst;subst hs;have:=bif_inl hst;omega)
  (by
   intro back s hs;subst hs;have hil:(ints a).length=a.length:=by simp[ints]
   unfold kzq;simp only[azp];rw[show i64.wrap ((i:Int)+((1+((pick l a).drop (i+1)).length:Nat):Int))=(a.length:Int) by rw[azW (by omega) (by omega)];omega,hil,ltF];rfl)
  1 rfl
 rw[show mzr (l,ints a,(i:Int),1)=_ from key];congr 2;have:∀(t:List Member) (n:Nat),mzm (fun(n:Nat) (y:Member)=>bif decide (n<1024)&&(decide (y.At.Row=i64.wrap (l[a[i]].At.Row+n))&&eqX y.E l[a[i]].E)then(.inl (n+1):Nat⊕Nat)else .inr n) id n t=runN l[a[i]] n t:=by
  intro t;induction t with
  | nil=>intro n;rfl
  | cons y t ih =>
   intro n;simp only[mzm,runN];cases decide (n<1024)&&(decide (y.At.Row=i64.wrap (l[a[i]].At.Row+n))&&eqX y.E l[a[i]].E)
   .rfl
   .exact ih _
 rw[this]
theorem inbG {n k:Nat}(h:k<n):inb n (k:Int)=some k:=by
 unfold inb;rw[dT0 (by omega),dT0 (by omega)];rfl
theorem plan_l5 {l:List Member}{a:List Nat}{i n:Nat}{b:List Bool}(hb:b.length=l.length)(hl:l.length<=1000)(ha:a.length<=1000)(h:∀i∈a,i<l.length)(hn:i+n<=a.length):
 ∃y,pzo (b,ints a,(i:Int),(n:Int),(i:Int))=some y/\y.length=l.length:=by
 have:=scan (F:=kzr) (fun(s:List Bool) j=>(s,ints a,(i:Int),(n:Int),((i+j:Nat):Int))) n (fun s _=>s.length=l.length) (fun y=>y.length=l.length) (by omega) ?_ ?_ b hb
 .exact this
 .intro back s j hj hs;right;have hj':i+j<a.length:=by omega
  have hlt:=h _ (List.getElem_mem hj');unfold kzr;simp only;rw[show i64.wrap ((i:Int)+(n:Int))=((i+n:Nat):Int) by rw[azW (by omega) (by omega)];omega,ltT (by omega),azc,idxN hj',aza,inbG (by omega:a[i+j]<s.length),aza];rw[show nth s (0+a[i+j])=some s[a[i+j]] by simp[nth],aza,wr1 (by omega)];exact⟨_,rfl,by simpa using hs⟩
 .intro back s hs;unfold kzr;simp only;rw[show i64.wrap ((i:Int)+(n:Int))=((i+n:Nat):Int) by rw[azW (by omega) (by omega)];omega,ltF];exact⟨_,rfl,hs⟩
noncomputable def runs:Nat->List Member->List Group
 | 0,_=>[]
 | _+1,[]=>[]
 | k+1,x::t=>(bif decide (1<runN x 1 t)then [⟨false,x.At,((x::t)[runN x 1 t-1]?.getD x).At,x.E⟩]else [])++runs k ((x::t).drop (runN x 1 t))
theorem AzO {l:List Member}{a:List Nat}(hl:l.length<=1000)(ha:a.length<=1000)(h:∀i∈a,i<l.length)(he:∀m∈l,fewE m.E):
 ∀(k N i:Nat) (o:List Group) (b:List Bool),a.length-i<=k->k<N->i<=a.length->b.length=l.length->o.length+(a.length-i)<=1000000 ->
  ∃b',iter kzp N (l,o,b,ints a,(i:Int))=some (o++runs k ((pick l a).drop i),b')/\b'.length=l.length/\(runs k ((pick l a).drop i)).length<=a.length-i
 | _,0,_,_,_,_,h,_,_,_=>absurd h (by omega)
 | k,N+1,i,o,b,hk,hN,hi,hb,ho=>by
  have hp:=Dzr h;have hil:(ints a).length=a.length:=by simp[ints]
  rw[azN];generalize hS:iter kzp N=S;unfold kzp;simp only[azp];rw[hil];by_cases hlt:i<a.length
  .obtain⟨k,rfl⟩:∃k',k=k'+1:=⟨k-1,by omega⟩;have hai:=h _ (List.getElem_mem hlt);have hd:(pick l a).drop i=l[a[i]]::(pick l a).drop (i+1):=by
    rw[List.drop_eq_getElem_cons (by omega)];have:=wzE h i hlt;rw[List.getElem?_eq_getElem (by omega)]at this;injection this with this;rw[this]
   obtain⟨r1,r2⟩:=runN_le l[a[i]] 1 ((pick l a).drop (i+1));rw[List.length_drop,hp]at r2;rw[ltT hlt,azc,plan_l4 ha h he hlt,aza,hd];unfold runs;generalize hR:runN l[a[i]] 1 ((pick l a).drop (i+1))=R at r1 r2;obtain⟨R,rfl⟩:∃R',R=R'+1:=⟨R-1,by omega⟩;have hRl:i+R<a.length:=by omega
   rw[<-hd,List.drop_drop,show i64.wrap ((i:Int)+((R+1:Nat):Int))=((i+(R+1):Nat):Int) by rw[azW (by omega) (by omega)];omega];by_cases c:1<R+1
   .obtain⟨b',e1,e2⟩:=plan_l5 (i:=i) (n:=R+1) hb hl ha h (by omega);have hq:=h _ (List.getElem_mem hRl);rw[dT0 (by omega),azc,e1,aza,idxN hlt,show i64.wrap (((i+(R+1):Nat):Int)-1)=((i+R:Nat):Int) by rw[azW (by omega) (by omega)];omega,idxN hRl];simp only[aza];rw[idxG hai,idxG hq];simp only[aza];rw[appN (by simp;omega),aza];obtain⟨b2,f1,f2,f3⟩:=AzO hl ha h he k N (i+(R+1)) (o++[⟨false,l[a[i]].At,l[a[i+R]].At,l[a[i]].E⟩]) b' (by omega) (by omega) (by omega) e2 (by simp;omega);rw[<-hS,f1];refine⟨b2,?_,f2,?_⟩
    .rw[dT0 (by omega),cond_true,List.append_assoc];have:=wzE h (i+R) hRl;rw[show R+1-1=R by omega,List.getElem?_drop,this];rfl
    .rw[dT0 (by omega),cond_true,List.length_append];simp;omega
   .obtain⟨b2,f1,f2,f3⟩:=AzO hl ha h he k N (i+(R+1)) o b (by omega) (by omega) (by omega) hb (by omega);rw[dF0 (by omega),azd,<-hS,f1];exact⟨b2,by rw[dF0 (by omega)];rfl,f2,by rw[dF0 (by omega)];simp;omega⟩
  .have:i=a.length:=by omega
   subst this;rw[ltF,List.drop_eq_nil_of_le (by omega)];refine⟨b,?_,hb,?_⟩
   .cases k<;>simp[runs]
   .cases k<;>simp[runs]
noncomputable def plD (l:List Member):List Group:=(List.range 256).flatMap fun c=>runs (colI l c).length (pick l (colI l c))
theorem plan_is {l:List Member}(hl:l.length<=1000)(he:∀m∈l,fewE m.E):∃o,pzL l=some (plD l,o)/\(plD l).length<=256000:=by
 have hr:∀c,(runs (colI l c).length (pick l (colI l c))).length<=1000:=by
  intro c;have hc:=JzF l c;obtain⟨b',-,-,e3⟩:=AzO hl (by omega) (colI_lt (c:=c)) he (colI l c).length ((colI l c).length+1) 0 [] (List.replicate l.length false) (by omega) (by omega) (by omega) (by simp) (by simp;omega);rw[List.drop_zero]at e3;omega
 have l1:=scan (F:=kzn) (fun(s:List Group×List Bool) c=>(l,s.1,s.2,(c:Int))) 256 (fun s c=>s.1=(List.range c).flatMap (fun c=>runs (colI l c).length (pick l (colI l c)))/\s.1.length<=1000*c/\s.2.length=l.length)
  (fun y=>y.1=plD l/\y.1.length<=256000/\y.2.length=l.length) (by omega) ?_ ?_ ([],List.replicate l.length false) (by simp)
 .obtain⟨y,e1,e2,e3,e4⟩:=l1;have l6:∃o,pzp (l,y.2,[],0)=some o:=by
   refine⟨_,ezl (F:=kzs) (fun s i=>(l,y.2,s,(i:Int))) id (List.range l.length) (fun i=>match l[i]?,y.2[i]? with|some m,some b=>bif b then []else [m]|_,_=>[]) 1 [] (by simp;omega) ?_ ?_ ?_⟩
   .intro i _;cases l[i]? with
    | none=>simp
    | some m =>
     cases y.2[i]? with
     | none=>simp
     | some b=>cases b<;>simp
   .intro back s i hi hs;have hi':i<l.length:=by simpa using hi
    unfold kzs;simp only[azp];rw[ltT hi',azc,idxG (by omega:i<y.2.length),idxG hi',aza,aza,wr1 (by omega),appN (by simp at hs ⊢;omega),aza,List.getElem_range,List.getElem?_eq_getElem hi',List.getElem?_eq_getElem (by omega:i<y.2.length)];simp only;cases y.2[i]<;>simp
   .intro back s _;unfold kzs;simp only;rw[List.length_range,ltF];rfl
  obtain⟨o,e5⟩:=l6;refine⟨o,?_,by rw[<-e2];exact e3⟩;unfold pzL;rw[show szd 1 false (l.length:Int) (l.length:Int)=some (List.replicate l.length false) by
   unfold szd;rw[dT0 (by omega),dT0 (by omega),dT0 (by omega)];rfl,aza,show pzm (l,[],List.replicate l.length false,0)=_ from e1,aza,e5,aza,e2]
 .rintro back ⟨o,b⟩ c hc ⟨h1,h2,h3⟩;right;simp only at h1 h2 h3;have hcl:=JzF l c;obtain⟨b',f1,f2,f3⟩:=AzO hl (by omega) (colI_lt (c:=c)) he (colI l c).length big 0 o b (by omega) (by rw[ezd];omega) (by omega) h3 (by omega);rw[List.drop_zero]at f1;unfold kzn;simp only;rw[dT0 (by omega),azc,plan_l2 hl,aza,show pzn (l,o,b,ints (colI l c),0)=_ from f1,aza,wr1 (by omega)];refine⟨(_,_),rfl,?_,?_,f2⟩
  .simp only;rw[List.range_succ,List.flatMap_append,<-h1];simp
  .have:=hr c;simp only[List.length_append];omega
 .rintro back ⟨o,b⟩ ⟨h1,h2,h3⟩;unfold kzn;simp only;rw[dF0 (by omega)];exact⟨_,rfl,h1,h2,h3⟩
set_option linter.unusedSimpArgs false
set_option linter.unusedVariables false
theorem KzN {a b:Group}(h:fewE a.E):kzS (a,b)=some (eqX a b):=by
 unfold kzS;simp only[azp,DzT h,aza,cond_false];by_cases hab:a=b
 .subst hab;rw[pze,pze];simp
 .rw[rzU hab];obtain⟨k,⟨r1,c1⟩,⟨r2,c2⟩,e⟩:=a;obtain⟨k',⟨r1',c1'⟩,⟨r2',c2'⟩,e'⟩:=b;simp only;rw[brnA,brnA,brnA];congr 1;by_cases he:e=e'
  .simp at hab ⊢;intro h1 h2 h3 h4 h5;exact absurd he (hab h1 h2 h3 h4 h5)
  .rw[rzU he];simp
theorem pick_mem {l:List Member}{a:List Nat}:∀m∈pick l a,m∈l:=by
 intro m hm;unfold pick at hm;obtain⟨i,hi,hm⟩:=List.mem_flatMap.1 hm;cases h:l[i]? with
 | none=>rw[h]at hm;cases hm
 | some x =>
  rw[h]at hm;simp at hm;rw[hm];exact List.mem_of_getElem? h
theorem runs_E:∀(k:Nat) (l:List Member),∀g∈runs k l,g.Array=false/\∃m∈l,g.E=m.E
 | 0,_,g,h=>by cases h
 | _+1,[],g,h=>by cases h
 | k+1,x::t,g,h=>by
  unfold runs at h;rcases List.mem_append.1 h with h|h
  .cases hd:decide (1<runN x 1 t)
   .rw[hd]at h;cases h
   .rw[hd]at h;simp at h;rw[h];exact⟨rfl,x,by simp,rfl⟩
  .obtain⟨h1,m,hm,h2⟩:=runs_E k _ g h;exact⟨h1,m,List.mem_of_mem_drop hm,h2⟩
theorem plD_E {l:List Member}:∀g∈plD l,g.Array=false/\∃m∈l,g.E=m.E:=by
 intro g hg;unfold plD at hg;obtain⟨c,-,hg⟩:=List.mem_flatMap.1 hg;obtain⟨h1,m,hm,h2⟩:=runs_E _ _ g hg;exact⟨h1,m,pick_mem m hm,h2⟩
noncomputable def grD (s:Sheet):Bool:=bif decide (csD (s.Groups.filter (·.Array))=0)then(bif (List.range (s.Groups.filter (·.Array)).length).all (gOk s.Cells (s.Groups.filter (·.Array)))then eqX (s.Groups.filter (·.Array)++plD (mem s.Cells (s.Groups.filter (·.Array)))) s.Groups else false)else false
theorem groups_is {s:Sheet}(h:fewS s):nzt s=some (grD s):=by
 have hc:=h.cells;have hg:=h.groups;have ce:=fun x hx=>(h.cellE x hx).1
 have ge:=h.groupE;unfold nzt grD;rw[arrays_is (by omega),aza];have al:(s.Groups.filter (·.Array)).length<=s.Groups.length:=List.length_filter_le _ _;have ae:∀g∈s.Groups.filter (·.Array),fewE g.E:=fun g hg=>ge g (List.mem_filter.1 hg).1
 generalize s.Groups.filter (·.Array)=a at al ae;rw[GzC (by omega) ae,aza];by_cases c0:csD a=0
 .rw[dT0 c0,show(!true)=false from rfl,azd,cond_true,groups_l1 (by omega) ce (by omega) (cs0 c0).1,aza];cases(List.range a.length).all (gOk s.Cells a)
  .rfl
  .rw[cond_true,cond_true];simp only[osum];obtain⟨o,e1,e2⟩:=plan_is (l:=mem s.Cells a) (by have:=mem_len s.Cells a;omega) (mem_few ce);unfold pzq;simp only;rw[MzA (by omega) (by omega),aza,e1];simp only[aza];rw[appN (by simp;omega),aza,List.nil_append,appN (by omega),aza,aza];have pe:∀g∈a++plD (mem s.Cells a),fewE g.E:=by
    intro g hg;rcases List.mem_append.1 hg with hg|hg
    .exact ae g hg
    .obtain⟨-,m,hm,h2⟩:=plD_E g hg;rw[h2];exact mem_few ce m hm
   have pl:(a++plD (mem s.Cells a)).length<=300000:=by rw[List.length_append];omega
   generalize a++plD (mem s.Cells a)=p at pe pl;by_cases hl:p.length=s.Groups.length
   .rw[dT0 (by omega),show(!true)=false from rfl,azd];have:=rzG (F:=izF) (fun i=>(s,p,(i:Int))) p.length (eq2 p s.Groups) (.inr false) (.inl ()) (by omega) ?_ ?_
    .rw[show nzE (s,p,0)=_ from this,aza,GzK hl];cases eqX p s.Groups<;>rfl
    .intro back i hi;unfold izF;simp only[azp,ezN];rw[ltT hi,azc,idxG hi,idxG (by omega:i<s.Groups.length),aza,aza,KzN (pe _ (List.getElem_mem hi)),aza,wr1 (by omega),uzR hi (by omega)];cases eqX p[i] s.Groups[i]<;>rfl
    .intro back;unfold izF;simp only;rw[ltF];rfl
   .rw[dF0 (by omega),rzU (fun h=>hl (by rw[h]))];rfl
 .rw[dF0 c0];rfl
def rwD (l:List Row)(i:Nat):Int:=match l[i]? with
 | some r=>if r.Row<0 then 12 else if 65536<=r.Row then 12 else if r.Height<0 then 1 else if 32767<r.Height then 1 else if i=0 then 0 else match l[i-1]? with
  | some q=>if r.Row<=q.Row then 6 else 0
  | none=>0
 | none=>0
theorem rows_is {s:Sheet}(hl:s.Rows.length<=1000):kzU (s,0)=some (er (fz (rwD s.Rows) (List.range s.Rows.length))):=by
 refine fz_loop (F:=fzn) (fun i=>(s,(i:Int))) er (List.range s.Rows.length) (rwD s.Rows) (by simp;omega) ?_ ?_
 .intro back i hi;have hi':i<s.Rows.length:=by simpa using hi
  unfold fzn;simp only;rw[ltT hi',azc,idxG hi',aza,wr1 (by omega),List.getElem_range];generalize hv:rwD s.Rows i=v;unfold rwD at hv;rw[List.getElem?_eq_getElem hi']at hv;simp only at hv;by_cases c1:s.Rows[i].Row<0
  .rw[if_pos c1]at hv;subst hv;rw[dT0 c1];rfl
  rw[if_neg c1]at hv;rw[dF0 c1,azd];by_cases c2:65536<=s.Rows[i].Row
  .rw[if_pos c2]at hv;subst hv;rw[dT0 c2];rfl
  rw[if_neg c2]at hv;rw[dF0 c2,azd];by_cases c3:s.Rows[i].Height<0
  .rw[if_pos c3]at hv;subst hv;rw[dT0 c3];rfl
  rw[if_neg c3]at hv;rw[dF0 c3,azd];by_cases c4:32767<s.Rows[i].Height
  .rw[if_pos c4]at hv;subst hv;rw[dT0 c4];rfl
  rw[if_neg c4]at hv;rw[dF0 c4,azd];by_cases c5:i=0
  .rw[if_pos c5]at hv;subst hv;rw[dF0 (by omega)];rfl
  rw[if_neg c5,List.getElem?_eq_getElem (by omega:i-1<s.Rows.length)]at hv;simp only at hv;rw[dT0 (by omega),azc,Azu (by omega) (by omega),idxG (by omega:i-1<s.Rows.length),aza];by_cases c6:s.Rows[i].Row<=s.Rows[i-1].Row
  .rw[if_pos c6]at hv;subst hv;rw[dT0 c6];rfl
  .rw[if_neg c6]at hv;subst hv;rw[dF0 c6];rfl
 .intro back;unfold fzn;simp only;rw[List.length_range,ltF];rfl
theorem sheet_is {s:Sheet}(h:fewS s):∃r,jzU s=some r/\(r=0->okCs s.Cells/\grD s=true):=by
 unfold jzU;obtain⟨r,e1,e2⟩:=cells_is (l:=s.Cells) (by have:=h.cells;omega) h.cellE;rw[dF0 (by have:=h.rows;omega),azd,rows_is (by have:=h.rows;omega),aza,e1,groups_is h];simp only[aza];by_cases c:fz (rwD s.Rows) (List.range s.Rows.length)=0
 .rw[c,er0];simp only[osum];by_cases c0:r=0
  .rw[dT0 c0];cases hg:grD s
   .exact⟨_,rfl,fun h=>by cases h⟩
   .exact⟨_,rfl,fun _=>⟨e2 c0,rfl⟩⟩
  .rw[dF0 c0];exact⟨_,rfl,fun h=>absurd h c0⟩
 .rw[er,if_neg c];exact⟨_,rfl,fun h=>absurd h c⟩
def txS (s:Sheet):List (List UInt8):=s.Cells.flatMap fun c=>bif !c.Has&&decide (c.V.Kind=2)then [c.V.S]else []
theorem HzW (s:Sheet):(txS s).length<=s.Cells.length:=by
 have:=gzg (f:=fun c:Cell2=>bif !c.Has&&decide (c.V.Kind=2)then [c.V.S]else []) (K:=1) s.Cells (fun c _=>by cases !c.Has&&decide (c.V.Kind=2)<;>simp);unfold txS;omega
theorem Jzh {s:Sheet}(h:s.Cells.length<=1000):jzV s=some (txS s):=by
 have:=ezl (F:=fzo) (fun z i=>(s,z,(i:Int))) id s.Cells (fun c=>bif !c.Has&&decide (c.V.Kind=2)then [c.V.S]else []) 1 [] (by omega) (fun c _=>by cases !c.Has&&decide (c.V.Kind=2)<;>simp) ?_ ?_
 .unfold jzV;rw[show kzV (s,[],0)=_ from this];rfl
 .intro back z i hi hz;unfold fzo;simp only;rw[ltT hi,azc,idxG hi];simp only[aza];rw[wr1 (by omega),appN (by simp at hz ⊢;omega),aza];cases s.Cells[i].Has<;>cases decide (s.Cells[i].V.Kind=2)<;>simp
 .intro back z _;unfold fzo;simp only;rw[ltF];rfl
theorem KzZ {l:List Sheet}(hl:l.length<=1000)(h:∀s∈l,s.Cells.length<=1000):lzK l=some (l.flatMap txS):=by
 have:=ezl (F:=gzY) (fun z i=>(l,z,(i:Int))) id l txS 1000 [] (by omega) (fun s hs=>by have:=HzW s;have:=h s hs;omega) ?_ ?_
 .unfold lzK;rw[show lz2 (l,[],0)=_ from this];rfl
 .intro back z i hi hz;have h1:=h _ (List.getElem_mem hi);have h2:=HzW l[i];unfold gzY;simp only;rw[ltT hi,azc,idxG hi,aza,Jzh h1,aza,wr1 (by omega),appN (by simp at hz ⊢;omega),aza]
 .intro back z _;unfold gzY;simp only;rw[ltF];rfl
theorem build_l3 {x:List (List UInt8)}{t:Table}{n:Nat}(hn:n<x.length)(ht:t.Texts.length<=100000):∃k:Nat,pzt (x,t,(n:Int),0)=some (k:Int)/\k<=t.Texts.length:=by
 have:=scan (F:=kzv) (fun(_:Unit) i=>(x,t,(n:Int),(i:Int))) t.Texts.length (fun _ _=>True) (fun y=>∃k:Nat,y=(k:Int)/\k<=t.Texts.length) (by omega) ?_ ?_ () trivial
 .obtain⟨y,e,k,rfl,hk⟩:=this;exact⟨k,e,hk⟩
 .intro back _ i hi _;unfold kzv;simp only;rw[ltT hi,azc,idxG hi,idxG hn,aza,aza,wr1 (by omega)];cases decide (t.Texts[i]=x[n])
  .exact .inr ⟨(),rfl,trivial⟩
  .exact .inl ⟨_,rfl,i,rfl,by omega⟩
 .intro back _ _;unfold kzv;simp only;rw[ltF];exact⟨_,rfl,_,rfl,Nat.le_refl _⟩
theorem build_tot {x:List (List UInt8)}(hx:x.length<=50000)(hs:∀s∈x,s.length<=4000000):∃t,pzM x=some t:=by
 have l1:=bz8 (F:=kzt) (fun i=>(x,⟨[],0⟩,(i:Int))) x.length (fun _=>True) (fun z=>∃q,z = .inr q) (.inl ((),⟨[],0⟩)) (by omega) ?_ ?_
 .obtain⟨z,e1,hz⟩:=l1;unfold pzM;rw[show pzr (x,⟨[],0⟩,0)=_ from e1,aza];rcases hz with⟨q,rfl⟩|⟨rfl,-⟩
  .exact⟨_,rfl⟩
  .simp only[osum];have l2:=scan (F:=kzu) (fun(s:List (List UInt8)×Table×Table×List Int) i=>(s.1,x,s.2.1,s.2.2.1,s.2.2.2,(i:Int))) x.length (fun s i=>s.1.length<=i/\s.2.2.2.length<=i) (fun _=>True) (by omega) ?_ ?_ ([],⟨[],0⟩,⟨[],0⟩,[]) (by simp)
   .obtain⟨y,e2,-⟩:=l2;rw[show pzs ([],x,⟨[],0⟩,⟨[],0⟩,[],0)=_ from e2,aza];cases y<;>exact⟨_,rfl⟩
   .rintro back ⟨a,t,u,z⟩ i hi ⟨h1,h2⟩;simp only at h1 h2;obtain⟨k,e3,hk⟩:=build_l3 (x:=x) (t:=⟨a,u.Uses⟩) hi (by simp only;omega);unfold kzu;simp only;rw[ltT hi,azc,e3,aza,idxG hi];simp only[aza];rw[appN (by simp;omega),appN (by simp;omega),aza,aza,wr1 (by omega)];cases decide ((k:Int)=(a.length:Int))
    .exact .inr ⟨(_,_,_,_),rfl,by simp only;omega,by simp;omega⟩
    .cases decide (1024<=(k:Int))
     .exact .inr ⟨(_,_,_,_),rfl,by simp;omega,by simp;omega⟩
     .exact .inl ⟨_,rfl,trivial⟩
   .rintro back ⟨a,t,u,z⟩ _;unfold kzu;simp only;rw[ltF];exact⟨_,rfl,trivial⟩
 .intro back i hi;unfold kzt;simp only;rw[ltT hi,azc,idxG hi,aza,lzu (hs _ (List.getElem_mem hi)),aza,wr1 (by omega)];cases decide ((dzC x[i]).2=0)
  .exact .inr ⟨_,rfl,_,rfl⟩
  .exact .inl ⟨rfl,trivial⟩
 .intro back;unfold kzt;simp only;rw[ltF];rfl
theorem MzM {a b:List (List UInt8)}(h:b.length<=1000000000):mzs (a,b)=some (eqX a b):=by
 unfold mzs;by_cases hl:a.length=b.length
 .rw[dT0 (by simp only;omega),show(!true)=false from rfl,azd];have:=rzG (F:=hzJ) (fun i=>(a,b,(i:Int))) a.length (eq2 a b) (.inr false) (.inl ()) (by omega) ?_ ?_
  .rw[show mzU (a,b,0)=_ from this,aza,GzK hl];cases eqX a b<;>rfl
  .intro back i hi;unfold hzJ;simp only;rw[ltT hi,azc,idxG hi,idxG (by omega:i<b.length),aza,aza,wr1 (by omega),uzR hi (by omega)];by_cases c:a[i]=b[i]
   .rw[dT0 c,uzT.2 c];rfl
   .rw[dF0 c,rzU c];rfl
  .intro back;unfold hzJ;simp only;rw[ltF];rfl
 .rw[dF0 (by simp only;omega),rzU (fun h=>hl (by rw[h]))];rfl
set_option linter.unusedSimpArgs false
set_option linter.unusedVariables false
structure okB (b:Book):Prop where
 len:b.Sheets.length=b.Globals.Sheets.length
 one:1<=b.Sheets.length
 most:b.Sheets.length<=8
 names:∀e∈b.Globals.Names,vzf e
 cells:∀s∈b.Sheets,okCs s.Cells
theorem check_l2 {b:Book}(h:fewB b):∃n,ozA (b,0,0)=some n:=by
 have:=scan (F:=jzj) (fun(s:Int) i=>(b,s,(i:Int))) b.Sheets.length (fun _ _=>True) (fun _=>True) (by have:=h.sheets;omega) ?_ ?_ 0 trivial
 .obtain⟨y,e,-⟩:=this;exact⟨y,e⟩
 .intro back s i hi _;unfold jzj;simp only;rw[ltT hi,azc,idxG hi,aza,wr1 (by have:=h.sheets;omega)];exact .inr ⟨_,rfl,trivial⟩
 .intro back s _;unfold jzj;simp only;rw[ltF];exact⟨_,rfl,trivial⟩
theorem check_l4 {b:Book}(h:fewB b){n:Nat}(hn:n<b.Sheets.length):∃z,ozC (b,(n:Int),0)=some z/\((∃e,z = .inr e/\e≠0)\/z = .inl ()):=by
 have hc:=(h.sheet _ (List.getElem_mem hn)).cells;obtain⟨z,e1,e2⟩:=bz8 (F:=jzl) (fun i=>(b,(n:Int),(i:Int))) b.Sheets[n].Cells.length (fun _=>True) (fun z=>∃e,z = .inr e/\e≠0) (.inl ()) (by omega)
  (by
   intro back i hi;unfold jzl;simp only;rw[idxG hn];simp only[aza];rw[ltT hi,azc,idxG hi,aza,wr1 (by omega)];cases decide ((b.Globals.XFs.length:Int)<=b.Sheets[n].Cells[i].XF)
   .exact .inl ⟨rfl,trivial⟩
   .cases decide (b.Sheets[n].Cells[i].XF=0)
    .exact .inr ⟨_,rfl,_,rfl,by decide⟩
    .exact .inl ⟨rfl,trivial⟩)
  (by
   intro back;unfold jzl;simp only;rw[idxG hn];simp only[aza];rw[ltF];rfl)
 refine⟨z,e1,?_⟩;rcases e2 with e2|⟨e2,-⟩
 .exact .inl e2
 .exact .inr e2
theorem Jzx {b:Book}(h:fewB b)(hs:smallB b):∃r,ozx b=some r/\(r=0->okB b):=by
 have hl:=h.sheets;obtain⟨g,g1,g2⟩:=Mzd h.glob hs.1 hs.2.1 hs.2.2;obtain⟨n,n1⟩:=check_l2 h;obtain⟨z,e1,e2⟩:=bz8 (F:=jzi) (fun i=>(b,(i:Int))) b.Sheets.length (fun i=>∀hi:i<b.Sheets.length,okCs b.Sheets[i].Cells) (fun z=>∃e,z = .inr e/\e≠0) (.inl ()) (by omega)
  (by
   intro back i hi;obtain⟨r,f1,f2⟩:=sheet_is (h.sheet _ (List.getElem_mem hi));unfold jzi;simp only;rw[ltT hi,azc,idxG hi,aza,f1,aza,wr1 (by omega)];by_cases c:r=0
   .rw[dT0 c];exact .inl ⟨rfl,fun _=>(f2 c).1⟩
   .rw[dF0 c];exact .inr ⟨_,rfl,_,rfl,c⟩)
  (by
   intro back;unfold jzi;simp only;rw[ltF];rfl)
 obtain⟨q,q1,q2⟩:=bz8 (F:=jzk) (fun i=>(b,(i:Int))) b.Sheets.length (fun _=>True) (fun z=>∃e,z = .inr e/\e≠0) (.inl ()) (by omega)
  (by
   intro back i hi;obtain⟨w,w1,w2⟩:=check_l4 h hi;unfold jzk;simp only;rw[ltT hi,azc,w1,aza,wr1 (by omega)];rcases w2 with⟨e,rfl,he⟩|rfl
   .exact .inr ⟨_,rfl,_,rfl,he⟩
   .exact .inl ⟨rfl,trivial⟩)
  (by
   intro back;unfold jzk;simp only;rw[ltF];rfl)
 have cl:∀s∈b.Sheets,s.Cells.length<=120:=fun s hs=>(h.sheet s hs).cells
 have tl:=gzg (f:=txS) (K:=120) b.Sheets fun s hs=>by have:=HzW s;have:=cl s hs;omega
 obtain⟨t,t1⟩:=build_tot (x:=b.Sheets.flatMap txS) (by omega) (by
  intro x hx;obtain⟨s,hs,hx⟩:=List.mem_flatMap.1 hx;unfold txS at hx;obtain⟨c,hc,hx⟩:=List.mem_flatMap.1 hx;have:=((h.sheet s hs).cellE c hc).2;cases hd:!c.Has&&decide (c.V.Kind=2)
  .rw[hd]at hx;cases hx
  .rw[hd]at hx;simp at hx;rw[hx];omega)
 unfold ozx;rw[g1,aza];by_cases c0:g=0
 .rw[dT0 c0,show(!true)=false from rfl,azd];by_cases c1:b.Sheets.length=b.Globals.Sheets.length
  .rw[dT0 (by omega),show(!true)=false from rfl,azd,show ozz (b,0)=_ from e1,aza];rcases e2 with⟨e,rfl,he⟩|⟨rfl,e2⟩
   .exact⟨_,rfl,fun h=>absurd h he⟩
   .simp only[osum];have ok:okB b:=⟨c1,by have:=(g2 c0).1;omega,by have:=(g2 c0).2.1;omega,(g2 c0).2.2,fun s hs=>by
     obtain⟨i,hi,rfl⟩:=List.mem_iff_getElem.1 hs;exact e2 i hi hi⟩
    rw[n1,aza,show ozB (b,0)=_ from q1,aza,KzZ (by omega) (fun s hs=>by have:=cl s hs;omega),aza,t1,aza,MzM (by have:=h.glob.texts;omega)];cases decide (4096<n)
    .rw[azd];rcases q2 with⟨e,rfl,he⟩|⟨rfl,-⟩
     .exact⟨_,rfl,fun h=>absurd h he⟩
     .simp only[osum,aza];obtain⟨r,hr⟩:=czs (b:=!decide (t.2.2=0)) (x:=some (3:Int)) (y:=brn (!eqX t.1.Texts b.Globals.Texts.Texts) (some 3) (brn (!decide (t.1.Uses=b.Globals.Texts.Uses)) (some 3) (some 0))) ⟨_,rfl⟩ (czs ⟨_,rfl⟩ (czs ⟨_,rfl⟩ ⟨_,rfl⟩));exact⟨r,hr,fun _=>ok⟩
    .exact⟨_,rfl,fun h=>by cases h⟩
  .rw[dF0 (by omega)];exact⟨_,rfl,fun h=>by cases h⟩
 .rw[dF0 c0];exact⟨_,rfl,fun h=>absurd h c0⟩
set_option linter.unusedSimpArgs false
set_option linter.unusedVariables false
def bsOf (gs:List Group)(c:Cell2):Cell:=gs.foldl (fun b g=>bif g.Array&&hasG g c.At then g.A else b) c.At
def ndS (gs:List Group)(i:Nat)(cs:List Cell2):List Node:=cs.flatMap fun c=>bif c.Has then [⟨⟨(i:Int),c.At⟩,bsOf gs c,c.E⟩]else []
def slS (i:Nat)(cs:List Cell2):List Slot:=cs.flatMap fun c=>bif !decide (c.V.Kind=0)then [⟨⟨(i:Int),c.At⟩,c.V⟩]else []
def nds (l:List Sheet):List Node:=l.zipIdx.flatMap fun p=>ndS p.1.Groups p.2 p.1.Cells
def sls (l:List Sheet):List Slot:=l.zipIdx.flatMap fun p=>slS p.2 p.1.Cells
theorem hasS_is (g:Group)(c:Cell):mzC (g,c)=some (hasG g c):=has_is g c
theorem ndS_len (gs:List Group)(i:Nat)(cs:List Cell2):(ndS gs i cs).length<=cs.length:=by
 have:=gzg (f:=fun c:Cell2=>bif c.Has then [(⟨⟨(i:Int),c.At⟩,bsOf gs c,c.E⟩:Node)]else []) (K:=1) cs (fun c _=>by cases c.Has<;>simp);unfold ndS;omega
theorem HzR (i:Nat)(cs:List Cell2):(slS i cs).length<=cs.length:=by
 have:=gzg (f:=fun c:Cell2=>bif !decide (c.V.Kind=0)then [(⟨⟨(i:Int),c.At⟩,c.V⟩:Slot)]else []) (K:=1) cs (fun c _=>by cases !decide (c.V.Kind=0)<;>simp);unfold slS;omega
theorem nodes_l3 {c:Cell2}{p:Place}{e:Expr}{gs:List Group}(hg:gs.length<=1000):pza (c,⟨p,c.At,e⟩,gs,(gs.length:Int),0)=some ((),⟨p,bsOf gs c,e⟩):=by
 have:=bzL (F:=jz3) (fun(b:Cell) i=>(c,(⟨p,b,e⟩:Node),gs,(gs.length:Int),(i:Int))) (fun b:Cell=>((),(⟨p,b,e⟩:Node))) gs (fun b g=>(.inl (bif g.Array&&hasG g c.At then g.A else b):Cell⊕Cell)) id (fun _ _=>True) (by omega) ?_ (fun _ _ _ _ _ _=>trivial) ?_ c.At trivial
 .rw[czX]at this;exact this
 .intro back b i hi _;unfold jz3;simp only[azp,ezN];rw[ltT hi,azc,idxG hi,aza,hasS_is,aza,wr1 (by omega)];cases gs[i].Array<;>cases hasG gs[i] c.At<;>rfl
 .intro back b _;unfold jz3;simp only[azp];rw[ltF];rfl
theorem nodes_l2 {z:List Node}{n:Nat}{s:Sheet}(hz:z.length<=1000000)(hc:s.Cells.length<=1000)(hg:s.Groups.length<=1000):
 oz9 (z,(n:Int),s,s.Cells,(s.Cells.length:Int),0)=some (z++ndS s.Groups n s.Cells):=by
 refine ezl (F:=jz2) (fun z i=>(z,(n:Int),s,s.Cells,(s.Cells.length:Int),(i:Int))) id s.Cells _ 1 z (by omega) (fun c _=>by cases c.Has<;>simp) ?_ ?_
 .intro back y i hi hy;unfold jz2;simp only[azp,Cell2_eta];rw[ltT hi,azc,idxG hi];simp only[aza];rw[nodes_l3 hg,aza,wr1 (by omega),appN (by simp at hy ⊢;omega),aza];cases s.Cells[i].Has
  .simp
  .rfl
 .intro back y _;unfold jz2;simp only;rw[ltF];rfl
theorem nodesP_is {b:Book}(hb:b.Sheets.length<=1000)(h:∀s∈b.Sheets,s.Cells.length<=1000/\s.Groups.length<=1000):mz1 b=some (nds b.Sheets):=by
 have:=ezl (F:=jz1) (fun z i=>(z,b.Sheets,(b.Sheets.length:Int),(i:Int))) id b.Sheets.zipIdx (fun p=>ndS p.1.Groups p.2 p.1.Cells) 1000 [] (by simp;omega) ?_ ?_ ?_
 .unfold mz1;rw[show oz8 ([],b.Sheets,(b.Sheets.length:Int),0)=_ from this];rfl
 .rintro⟨s,i⟩ hp;have:=h s (List.fst_mem_of_mem_zipIdx hp);have:=ndS_len s.Groups i s.Cells;simp only;omega
 .intro back z i hi hz;have hi':i<b.Sheets.length:=by simpa using hi
  obtain⟨h1,h2⟩:=h _ (List.getElem_mem hi');unfold jz1;simp only;rw[ltT hi',azc,idxG hi',aza,nodes_l2 (by simp at hz;omega) h1 h2,aza,wr1 (by omega),List.getElem_zipIdx,Nat.zero_add]
 .intro back z _;unfold jz1;simp only;rw[List.length_zipIdx,ltF];rfl
theorem env_l2 {z:List Slot}{k:Int}{n:Nat}{s:Sheet}(hz:z.length<=1000000)(hc:s.Cells.length<=1000):
 rzL (z,⟨k,z,[]⟩,(n:Int),s.Cells,(s.Cells.length:Int),0)=some (z++slS n s.Cells,⟨k,z++slS n s.Cells,[]⟩):=by
 refine ezl (F:=lzR) (fun z i=>(z,(⟨k,z,[]⟩:Env),(n:Int),s.Cells,(s.Cells.length:Int),(i:Int))) (fun z=>(z,(⟨k,z,[]⟩:Env))) s.Cells _ 1 z (by omega) (fun c _=>by cases !decide (c.V.Kind=0)<;>simp) ?_ ?_
 .intro back y i hi hy;unfold lzR;simp only;rw[ltT hi,azc,idxG hi,aza,wr1 (by omega),appN (by simp at hy ⊢;omega),aza];cases decide (s.Cells[i].V.Kind=0)
  .rfl
  .simp
 .intro back y _;unfold lzR;simp only;rw[ltF];rfl
theorem envP_is {b:Book}(hb:b.Sheets.length<=1000)(h:∀s∈b.Sheets,s.Cells.length<=1000)(hn:b.Globals.Names.length<=1000):pzY b=some ⟨(b.Sheets.length:Int),sls b.Sheets,b.Globals.Names⟩:=by
 have:=ezl (F:=lzQ) (fun z i=>(z,(⟨(b.Sheets.length:Int),z,[]⟩:Env),b.Sheets,(b.Sheets.length:Int),(i:Int))) (fun z=>(z,(⟨(b.Sheets.length:Int),z,[]⟩:Env))) b.Sheets.zipIdx (fun p=>slS p.2 p.1.Cells) 1000 [] (by simp;omega) ?_ ?_ ?_
 .unfold pzY ezG;rw[show rzK ([],⟨(b.Sheets.length:Int),[],[]⟩,b.Sheets,(b.Sheets.length:Int),0)=_ from this,aza,rzR (by omega)];rfl
 .rintro⟨s,i⟩ hp;have:=h s (List.fst_mem_of_mem_zipIdx hp);have:=HzR i s.Cells;simp only;omega
 .intro back z i hi hz;have hi':i<b.Sheets.length:=by simpa using hi
  have h1:=h _ (List.getElem_mem hi');unfold lzQ;simp only;rw[ltT hi',azc,idxG hi',aza,env_l2 (by simp at hz;omega) h1,aza,wr1 (by omega),List.getElem_zipIdx,Nat.zero_add]
 .intro back z _;unfold lzQ;simp only;rw[List.length_zipIdx,ltF];rfl
set_option linter.unusedSimpArgs false
set_option linter.unusedVariables false
theorem AzL {a b:Place}:ltP a b=true↔a.Sheet<b.Sheet\/a.Sheet=b.Sheet/\(a.At.Row<b.At.Row\/a.At.Row=b.At.Row/\a.At.Col<b.At.Col):=by
 unfold ltP;simp
theorem ltP_trans {a b c:Place}(h:ltP a b=true)(k:ltP b c=true):ltP a c=true:=by
 rw[AzL]at *;omega
theorem ltP_irr (a:Place):ltP a a=false:=by
 cases h:ltP a a
 .rfl
 .rw[AzL]at h;omega
theorem Hz1 {a b:Cell}:nzg a b=true↔a.Row<b.Row\/a.Row=b.Row/\a.Col<b.Col:=by
 unfold nzg;simp
theorem LzQ {l:List Cell2}(h:okCs l):l.Pairwise fun a b=>nzg a.At b.At=true:=by
 rw[List.pairwise_iff_getElem];intro i j hi hj hij;induction j with
 | zero=>omega
 | succ j ih =>
  have h1:=h.2 (j+1) hj (by omega);replace h1:nzg l[j].At l[j+1].At=true:=h1;by_cases c:i=j
  .subst c;exact h1
  .have h2:=ih (by omega) (by omega);rw[Hz1]at *;omega
theorem MzJ {A:Type}{R:A->A->Prop}:∀{l:List A},l.length<=1->l.Pairwise R
 | [],_=>.nil
 | [a],_=>.cons (fun _ h=>by cases h) .nil
 | _::_::_,h=>by simp at h
theorem pair_of {B:Type}(P:B->Place)(g:Sheet×Nat->Cell2->List B)(hg:∀p c x,x∈g p c->P x=⟨(p.2:Int),c.At⟩)(h1:∀p c,(g p c).length<=1)(l:List Sheet)(hc:∀s∈l,okCs s.Cells):
 (l.zipIdx.flatMap fun p=>p.1.Cells.flatMap (g p)).Pairwise fun x y=>ltP (P x) (P y)=true:=by
 rw[List.pairwise_flatMap];constructor
 .rintro⟨s,i⟩ hp;rw[List.pairwise_flatMap];refine⟨fun c _=>MzJ (h1 _ _),(LzQ (hc s (List.fst_mem_of_mem_zipIdx hp))).imp ?_⟩;intro a b hab x hx y hy;rw[hg _ _ _ hx,hg _ _ _ hy,AzL];rw[Hz1]at hab;exact .inr ⟨rfl,hab⟩
 .rw[List.pairwise_iff_getElem];intro i j hi hj hij x hx y hy;obtain⟨c,-,hx⟩:=List.mem_flatMap.1 hx;obtain⟨d,-,hy⟩:=List.mem_flatMap.1 hy;rw[hg _ _ _ hx,hg _ _ _ hy,AzL,List.getElem_zipIdx,List.getElem_zipIdx];simp only;omega
theorem KzR {l:List Sheet}(hc:∀s∈l,okCs s.Cells):(sls l).Pairwise fun x y=>ltP x.P y.P=true:=by
 refine pair_of (fun x:Slot=>x.P) (fun p c=>bif !decide (c.V.Kind=0)then [⟨⟨(p.2:Int),c.At⟩,c.V⟩]else []) ?_ ?_ l hc
 .intro p c x hx;cases h:!decide (c.V.Kind=0)
  .rw[h]at hx;cases hx
  .rw[h]at hx;simp at hx;rw[hx]
 .intro p c;cases !decide (c.V.Kind=0)<;>simp
theorem nds_pair {l:List Sheet}(hc:∀s∈l,okCs s.Cells):(nds l).Pairwise fun x y=>ltP x.P y.P=true:=by
 refine pair_of (fun x:Node=>x.P) (fun p c=>bif c.Has then [⟨⟨(p.2:Int),c.At⟩,bsOf p.1.Groups c,c.E⟩]else []) ?_ ?_ l hc
 .intro p c x hx;cases h:c.Has
  .rw[h]at hx;cases hx
  .rw[h]at hx;simp at hx;rw[hx]
 .intro p c;cases c.Has<;>simp
theorem nds_sls {l:List Sheet}(hc:∀s∈l,okCs s.Cells):∀x∈nds l,∃y∈sls l,y.P=x.P:=by
 intro x hx;obtain⟨p,hp,hx⟩:=List.mem_flatMap.1 hx;obtain⟨c,hcm,hx⟩:=List.mem_flatMap.1 hx;cases h:c.Has
 .rw[h]at hx;cases hx
 .rw[h]at hx;simp at hx;have hk:=((hc _ (List.fst_mem_of_mem_zipIdx hp)).1 c hcm).2.2 h;refine⟨⟨⟨(p.2:Int),c.At⟩,c.V⟩,List.mem_flatMap.2 ⟨p,hp,List.mem_flatMap.2 ⟨c,hcm,?_⟩⟩,by rw[hx]⟩;rw[dF0 hk.1];simp
theorem sls_ok {l:List Sheet}(hc:∀s∈l,okCs s.Cells):∀y∈sls l,0<=y.P.Sheet/\y.P.Sheet<(l.length:Int)/\gdC y.P.At=true/\bzZ y.V=some 0/\y.V.Kind≠0:=by
 intro y hy;obtain⟨p,hp,hy⟩:=List.mem_flatMap.1 hy;obtain⟨c,hcm,hy⟩:=List.mem_flatMap.1 hy;cases h:!decide (c.V.Kind=0)
 .rw[h]at hy;cases hy
 .rw[h]at hy;simp at hy;have ho:=(hc _ (List.fst_mem_of_mem_zipIdx hp)).1 c hcm;have hi:=List.snd_lt_of_mem_zipIdx (x:=p) hp;rw[hy];exact⟨by simp only;omega,by simp only;omega,ho.1,ho.2.1,by simpa using h⟩
theorem sls_txt {l:List Sheet}(h:∀s∈l,∀c∈s.Cells,c.V.S.length<=3000):∀y∈sls l,y.V.S.length<=3000:=by
 intro y hy;obtain⟨p,hp,hy⟩:=List.mem_flatMap.1 hy;obtain⟨c,hcm,hy⟩:=List.mem_flatMap.1 hy;cases hk:!decide (c.V.Kind=0)
 .rw[hk]at hy;cases hy
 .rw[hk]at hy;simp at hy;rw[hy];exact h _ (List.fst_mem_of_mem_zipIdx hp) c hcm
theorem Gz1 {X Z:Type}{F:(X->Option Z)->X->Option Z}(mk:Nat->X)(n:Nat)(ok:Z)(hn:n<=1000000000)(h:∀back i,i<n->F back (mk i)=back (mk (i+1)))(hend:∀back,F back (mk n)=some ok):iter F big (mk 0)=some ok:=by
 obtain⟨z,e1,e2⟩:=bz8 (F:=F) mk n (fun _=>True) (fun _=>False) ok hn (fun back i hi=>.inl ⟨h back i hi,trivial⟩) hend;rw[e1];rcases e2 with e2|⟨rfl,-⟩
 .exact e2.elim
 .rfl
theorem noName {l:List Expr}(hl:l.length<=1000000)(h:∀x∈l,x.Kind≠6):azX (l,())=some false:=by
 have:=Gz1 (F:=azM) (fun i=>(l,(),(l.length:Int),(i:Int))) l.length (.inl ()) (by omega)
  (by
   intro back i hi;unfold azM;simp only[azp];rw[ltT hi,azc,idxG hi,aza,wr1 (by omega)];unfold rzT;rw[aza,dF0 (h _ (List.getElem_mem hi))];rfl)
  (by
   intro back;unfold azM;simp only;rw[ltF];rfl)
 unfold azX bzY;rw[show bzI (l,(),(l.length:Int),0)=_ from this];rfl
theorem Lzc {x:Env}(h1:1<=x.Sheets)(h2:x.Sheets<=8)(hs:x.Slots.length<=4096)(hn:x.Names.length<=1000)(hne:∀e∈x.Names,fewE e/\vzf e)
 (ho:∀y∈x.Slots,0<=y.P.Sheet/\y.P.Sheet<x.Sheets/\gdC y.P.At=true/\bzZ y.V=some 0/\y.V.Kind≠0) (ht:∀y∈x.Slots,y.V.S.length<=3000) (hp:x.Slots.Pairwise fun x y=>ltP x.P y.P=true):rza x=some 0:=by
 have l1:qzt (x,x.Slots,(x.Slots.length:Int),0)=some (.inl ()):=by
  refine Gz1 (F:=kz5) (fun i=>(x,x.Slots,(x.Slots.length:Int),(i:Int))) x.Slots.length _ (by omega) ?_ ?_
  .intro back i hi;obtain⟨a1,a2,a3,a4,a5⟩:=ho _ (List.getElem_mem hi);obtain⟨v,v1,v2,-⟩:=wze (ht _ (List.getElem_mem hi));rw[a4]at v2;injection v2 with v2;subst v2;unfold kz5 yzO;simp only;rw[ltT hi,azc,idxG hi,aza,dT0 a1,dT0 a2,azc,azc,goodE,uz7,a3,v1,wr1 (by omega)];simp only[aza];rw[dT0 (p:=True) trivial,dF0 a5];by_cases hi0:i=0
   .rw[dF0 (by omega)];rfl
   .rw[dT0 (by omega),Azu (by omega) (by omega),idxG (by omega:i-1<x.Slots.length)];simp only[aza];rw[wzA,aza,List.pairwise_iff_getElem.1 hp (i-1) i (by omega) hi (by omega)];rfl
  .intro back;unfold kz5;simp only;rw[ltF];rfl
 have l2:qzu (x.Names,(x.Names.length:Int),0)=some (.inl ()):=by
  refine Gz1 (F:=kz6) (fun i=>(x.Names,(x.Names.length:Int),(i:Int))) x.Names.length _ (by omega) ?_ ?_
  .intro back i hi;obtain⟨⟨f1,f2⟩,f3,f4⟩:=hne _ (List.getElem_mem hi);have:=zz5 40 x.Names[i];unfold kz6;simp only[azp];rw[ltT hi,azc,idxG hi,aza,yzT (by omega) f2,f3,(Czg (by omega) f2).1,wr1 (by omega)];simp only[aza];rw[noName (by omega) f4];rfl
  .intro back;unfold kz6;simp only;rw[ltF];rfl
 unfold rza;rw[l1,l2,dF0 (by omega),dF0 (by omega),dF0 (by omega),dF0 (by omega)];rfl
end Go.Proofs.YtkafbjodbjkieaaGreatDoor
/- KA -/
namespace Go.Proofs.YtkafbjodbjkieaaGreatDoor
open Go Go.Ev
open Go.IntKind (i64 u64 u8 i32 u32 i16 u16)
set_option linter.unusedVariables false
set_option maxRecDepth 100000
noncomputable section
abbrev Dzn:List (Nat×FSpec tb):=[(6,zzi),(7,Fzf),(10,zzM),(8,Izm),(13,tz0),(17,yzy),(23,EzE),(24,yzN)]
theorem fzM:azj Tryz.prog tb (Dzn):=(.cons Bzi (.cons Fzg (.cons BzE (.cons Hzc (.cons rzM (.cons uzI (.cons EzF (.cons uzQ .nil))))))))
def ezu (back:List Node×Env×Int×Int->Option (Int))(x:List Node×Env×Int×Int):Option (Int):=brn (decide (x.2.2.1<(↑x.2.1.Slots.length:Int))) (obnd (idx x.2.1.Slots x.2.2.1) fun y=>obnd (idx x.1 x.2.2.2) fun y_1=>obnd (nzN (y.P,y_1.P)) fun y=>brn y (back (x.1,x.2.1,i64.wrap (x.2.2.1+1),x.2.2.2)) (some x.2.2.1)) (some x.2.2.1)
def izQ:List Node×Env×Int×Int->Option (Int):=iter ezu big
def xz1:CutSpec tb:=⟨132,[(4,.val 49),(5,.ro 60),(6,.val 3),(7,.val 3)],[((.exit 2),[(6,.val 3)])],[61,62,63,64,65,66,67,68,69,70,71,72,73,74,75,76,77,78,79,80,81,6],izQ,none⟩
theorem tz7:A3 Tryz.f5 132 xz1:=A4 fzM .nil ezu
def fzN (back:List Node×Env×Int×Int->Option ((Unit)⊕(Bool)))(x:List Node×Env×Int×Int):Option ((Unit)⊕(Bool)):=brn (decide (x.2.2.2<(↑x.1.length:Int))) (brn (decide (0<x.2.2.2)) (obnd (idx x.1 (i64.wrap (x.2.2.2-1))) fun y=>obnd (idx x.1 x.2.2.2) fun y_1=>obnd (nzN (y.P,y_1.P)) fun y=>brn (!y) (some (Sum.inr false)) (obnd (izQ (x.1,x.2.1,x.2.2)) fun y=>brn (decide ((↑x.2.1.Slots.length:Int)<=y)) (some (Sum.inr false)) (obnd (idx x.2.1.Slots y) fun y_2=>obnd (idx x.1 x.2.2.2) fun y_3=>brn (bif true then !(decide (y_2.P.Sheet=y_3.P.Sheet)&&(decide (y_2.P.At.Row=y_3.P.At.Row)&&decide (y_2.P.At.Col=y_3.P.At.Col)))else decide (y_2.P.Sheet=y_3.P.Sheet)&&(decide (y_2.P.At.Row=y_3.P.At.Row)&&decide (y_2.P.At.Col=y_3.P.At.Col))) (some (Sum.inr false)) (back (x.1,x.2.1,y,i64.wrap (x.2.2.2+1)))))) (obnd (izQ (x.1,x.2.1,x.2.2)) fun y=>brn (decide ((↑x.2.1.Slots.length:Int)<=y)) (some (Sum.inr false)) (obnd (idx x.2.1.Slots y) fun y_1=>obnd (idx x.1 x.2.2.2) fun y_2=>brn (bif true then !(decide (y_1.P.Sheet=y_2.P.Sheet)&&(decide (y_1.P.At.Row=y_2.P.At.Row)&&decide (y_1.P.At.Col=y_2.P.At.Col)))else decide (y_1.P.Sheet=y_2.P.Sheet)&&(decide (y_1.P.At.Row=y_2.P.At.Row)&&decide (y_1.P.At.Col=y_2.P.At.Col))) (some (Sum.inr false)) (back (x.1,x.2.1,y,i64.wrap (x.2.2.2+1)))))) (some (Sum.inl PUnit.unit))
def lzy:List Node×Env×Int×Int->Option ((Unit)⊕(Bool)):=iter fzN big
def xz0:CutSpec tb:=⟨100,[(4,.val 49),(5,.ro 60),(6,.val 3),(7,.val 3)],[((.exit 0),[]),(.ret,[(2,.val 4)])],[38,39,40,41,44,45,46,47,48,49,50,51,52,53,54,55,56,57,58,59,60,2,61,62,63,64,65,66,67,68,69,70,71,72,73,74,75,76,77,78,79,80,81,6,82,83,84,85,86,87,88,89,90,91,92,93,94,95,96,97,98,99,100,42,43,7],lzy,none⟩
theorem tz6:A3 Tryz.f5 100 xz0:=A4 fzM (.cons tz7 .nil) fzN
def fzP (back:Book×Int×Int×Int->Option (Int))(x:Book×Int×Int×Int):Option (Int):=obnd (idx x.1.Sheets x.2.2.1) fun y=>brn (decide (x.2.2.2<(↑y.Cells.length:Int))) (obnd (idx x.1.Sheets x.2.2.1) fun y=>obnd (idx y.Cells x.2.2.2) fun y=>brn (!decide (y.V.Kind=0)) (back (x.1,i64.wrap (x.2.1+1),x.2.2.1,i64.wrap (x.2.2.2+1))) (back (x.1,x.2.1,x.2.2.1,i64.wrap (x.2.2.2+1)))) (some x.2.1)
def lzA:Book×Int×Int×Int->Option (Int):=iter fzP big
def xz3:CutSpec tb:=⟨204,[(3,.ro 42),(8,.val 3),(9,.val 3),(10,.val 3)],[((.exit 6),[(8,.val 3)])],[108,109,110,111,112,113,114,115,116,119,120,121,122,123,124,125,126,127,128,129,130,131,132,8,117,118,10],lzA,none⟩
theorem tz9:A3 Tryz.f5 204 xz3:=A4 fzM .nil fzP
def fzO (back:Book×Int×Int->Option (Int))(x:Book×Int×Int):Option (Int):=brn (decide (x.2.2<(↑x.1.Sheets.length:Int))) (obnd (lzA (x.1,x.2.1,x.2.2,0)) fun y=>back (x.1,y,i64.wrap (x.2.2+1))) (some x.2.1)
def lzz:Book×Int×Int->Option (Int):=iter fzO big
def xz2:CutSpec tb:=⟨180,[(3,.ro 42),(8,.val 3),(9,.val 3)],[((.exit 4),[(8,.val 3)])],[101,102,103,104,105,10,108,109,110,111,112,113,114,115,116,119,120,121,122,123,124,125,126,127,128,129,130,131,132,8,117,118,106,107,9],lzz,none⟩
theorem tz8:A3 Tryz.f5 180 xz2:=A4 fzM (.cons tz9 .nil) fzO
def nzx (x:Book):Option (Bool):=obnd (rz9 ()) fun y=>brn (!y) (some false) (obnd (rzo x) fun y=>brn (!y) (some true) (obnd (ozx x) fun y=>brn (!decide (y=0)) (some true) (obnd (tzt x) fun y=>obnd (mz1 y) fun y_1=>obnd (pzY y) fun y_2=>obnd (rza y_2) fun y_3=>brn (!decide (y_3=0)) (some false) (brn (!decide (y_2.Sheets=(↑y.Sheets.length:Int))) (some false) (obnd (lzy (y_1,y_2,0,0)) fun y_4=>osum y_4 (fun y_5=>obnd (lzz (y,0,0)) fun y=>some (decide (y=(↑y_2.Slots.length:Int)))) fun y=>some y)))))
def rz7:FSpec tb:=⟨[(0,.val 32)],[(0,.val 4)],nzx⟩
theorem vza:A0 5 rz7:=A2 Tryz.func5 fzM (.cons tz6 (.cons tz8 .nil))
end
set_option maxRecDepth 100000
theorem Mzj:rz9 ()=some true:=by kernel_rfl
end Go.Proofs.YtkafbjodbjkieaaGreatDoor
/- RC -/
namespace Go.Proofs.YtkafbjodbjkieaaGreatDoor
open Go Go.Ev Go.Lib
open Go.IntKind (i64 u64 u8 i32 u32 i16 u16)
set_option linter.unusedSimpArgs false
set_option linter.unusedVariables false
theorem law_l2 {nl:List Node}{e:Env}{i:Nat}(hi:i<nl.length)(hs:e.Slots.Pairwise fun x y=>ltP x.P y.P=true)(q:Nat)(hq:q<e.Slots.length)(he:e.Slots[q].P=nl[i].P)(hl:e.Slots.length<=1000000):
 ∀(d N k:Nat),k+d=q->d<N->iter ezu N (nl,e,(k:Int),(i:Int))=some (q:Int)
 | _,0,_,_,h=>absurd h (by omega)
 | 0,N+1,k,hk,_=>by
  have:k=q:=by omega
  subst this;rw[azN];unfold ezu;simp only;rw[ltT hq,azc,idxG hq,idxG hi];simp only[aza];rw[wzA,he,ltP_irr];rfl
 | d+1,N+1,k,hk,hN=>by
  rw[azN];have ih:=law_l2 hi hs q hq he hl d N (k+1) (by omega) (by omega);generalize iter ezu N=S at ih;unfold ezu;simp only;rw[ltT (by omega:k<e.Slots.length),azc,idxG (by omega:k<e.Slots.length),idxG hi];simp only[aza];rw[wzA,<-he,List.pairwise_iff_getElem.1 hs k q (by omega) hq (by omega),aza,azc,wr1 (by omega)];exact ih
theorem law_l1 {nl:List Node}{e:Env}(hn:nl.length<=1000000)(hl:e.Slots.length<=1000000)(hp:nl.Pairwise fun x y=>ltP x.P y.P=true)(hs:e.Slots.Pairwise fun x y=>ltP x.P y.P=true)
 (hm:∀x∈nl,∃y∈e.Slots,y.P=x.P):lzy (nl,e,0,0)=some (.inl ()):=by
 have:=scan (F:=fzN) (fun(k:Nat) i=>(nl,e,(k:Int),(i:Int))) nl.length (fun k i=>k=0/\i=0\/∃j,j+1=i/\∃h:j<nl.length,∃g:k<e.Slots.length,e.Slots[k].P=nl[j].P) (fun y=>y = .inl ()) (by omega) ?_ ?_ 0 (.inl ⟨rfl,rfl⟩)
 .obtain⟨y,e1,rfl⟩:=this;exact e1
 .intro back k i hi hk;right;obtain⟨y,hy,he⟩:=hm _ (List.getElem_mem hi);obtain⟨q,hq,rfl⟩:=List.mem_iff_getElem.1 hy;have hkq:k<=q:=by
   rcases hk with⟨rfl,-⟩|⟨j,hj,h1,h2,h3⟩
   .omega
   .apply Decidable.byContradiction;intro hc;have a1:=List.pairwise_iff_getElem.1 hs q k hq h2 (by omega);have a2:=List.pairwise_iff_getElem.1 hp j i h1 hi (by omega);rw[he,h3]at a1;have:=ltP_trans a1 a2;rw[ltP_irr]at this;cases this
  have l2:izQ (nl,e,(k:Int),(i:Int))=some (q:Int):=law_l2 hi hs q hq he hl (q-k) big k (by omega) (by rw[ezd];omega);have tail:(brn (decide ((e.Slots.length:Int)<=(q:Int))) (some (.inr false)) (obnd (idx e.Slots (q:Int)) fun y_1=>obnd (idx nl (i:Int)) fun y_2 =>
   brn (bif true then !(decide (y_1.P.Sheet=y_2.P.Sheet)&&(decide (y_1.P.At.Row=y_2.P.At.Row)&&decide (y_1.P.At.Col=y_2.P.At.Col)))
    else decide (y_1.P.Sheet=y_2.P.Sheet)&&(decide (y_1.P.At.Row=y_2.P.At.Row)&&decide (y_1.P.At.Col=y_2.P.At.Col)))
    (some (.inr false)) (back (nl,e,(q:Int),i64.wrap ((i:Int)+1)))):Option (Unit⊕Bool))=back (nl,e,(q:Int),((i+1:Nat):Int)):=by
   rw[dF0 (by omega),azd,idxG hq,idxG hi,aza,aza,he,wr1 (by omega),dT0 (p:=nl[i].P.Sheet=nl[i].P.Sheet) rfl,dT0 (p:=nl[i].P.At.Row=nl[i].P.At.Row) rfl,dT0 (p:=nl[i].P.At.Col=nl[i].P.At.Col) rfl];rfl
  refine⟨q,?_,.inr ⟨i,rfl,hi,hq,he⟩⟩;unfold fzN;simp only;rw[ltT hi,azc,l2];simp only[aza];by_cases hi0:i=0
  .rw[dF0 (by omega),azd];exact tail
  .rw[dT0 (by omega),azc,Azu (by omega) (by omega),idxG (by omega:i-1<nl.length),idxG hi,aza,aza,wzA,List.pairwise_iff_getElem.1 hp (i-1) i (by omega) hi (by omega)];rw[idxG hi]at tail;exact tail
 .intro back k _;unfold fzN;simp only;rw[ltF];exact⟨_,rfl,rfl⟩
theorem law_l4 {b:Book}{z:List Slot}{n:Nat}(hn:n<b.Sheets.length)(hz:z.length<=1000000)(hc:b.Sheets[n].Cells.length<=1000):
 lzA (b,(z.length:Int),(n:Int),0)=some ((z++slS n b.Sheets[n].Cells).length:Int):=by
 refine ezl (F:=fzP) (fun(z:List Slot) i=>(b,(z.length:Int),(n:Int),(i:Int))) (fun z=>(z.length:Int)) b.Sheets[n].Cells (fun c=>bif !decide (c.V.Kind=0)then [⟨⟨(n:Int),c.At⟩,c.V⟩]else []) 1 z (by omega) (fun c _=>by cases !decide (c.V.Kind=0)<;>simp) ?_ ?_
 .intro back y i hi hy;unfold fzP;simp only;rw[idxG hn,aza,ltT hi,azc,aza,idxG hi,aza,wr1 (by omega)];cases decide (b.Sheets[n].Cells[i].V.Kind=0)
  .rw[show(!false)=true from rfl,azc,wr1 (by omega)];simp
  .rw[show(!true)=false from rfl,azd,wr1 (by omega),cond_false,List.append_nil]
 .intro back y _;unfold fzP;simp only;rw[idxG hn,aza,ltF];rfl
theorem law_l3 {b:Book}(hb:b.Sheets.length<=1000)(h:∀s∈b.Sheets,s.Cells.length<=1000):lzz (b,0,0)=some ((sls b.Sheets).length:Int):=by
 refine ezl (F:=fzO) (fun(z:List Slot) i=>(b,(z.length:Int),(i:Int))) (fun z=>(z.length:Int)) b.Sheets.zipIdx (fun p=>slS p.2 p.1.Cells) 1000 [] (by simp;omega) ?_ ?_ ?_
 .rintro⟨s,i⟩ hp;have:=h s (List.fst_mem_of_mem_zipIdx hp);have:=HzR i s.Cells;simp only;omega
 .intro back z i hi hz;have hi':i<b.Sheets.length:=by simpa using hi
  unfold fzO;simp only;rw[ltT hi',azc,law_l4 hi' (by simp at hz;omega) (h _ (List.getElem_mem hi')),aza,wr1 (by omega),List.getElem_zipIdx,Nat.zero_add]
 .intro back z _;unfold fzO;simp only;rw[List.length_zipIdx,ltF];rfl
theorem Gzt (b:Book)(hq:fitB b):nzx b=some true:=by
 unfold nzx;rw[Mzj,aza];obtain⟨r,r1,r2⟩:=fewBook b hq;rw[r1];simp only[aza];cases r
 .rfl
 .obtain⟨f1,f2,f3,f4,f5,f6,f7,f8,hs,f9⟩:=r2 rfl;have hf:fewB b:=⟨⟨f3,f4,f5,f6,f7,f8,f9⟩,f1,f2⟩;obtain⟨c,c1,c2⟩:=Jzx hf hs;rw[c1];simp only[aza];by_cases hc:c=0
  .have ok:=c2 hc;have hcl:∀s∈b.Sheets,s.Cells.length<=120:=fun s hs=>(f2 s hs).cells
   have hsl:=gzg (f:=fun p:Sheet×Nat=>slS p.2 p.1.Cells) (K:=120) b.Sheets.zipIdx fun p hp=>by
    have:=hcl _ (List.fst_mem_of_mem_zipIdx hp);have:=HzR p.2 p.1.Cells;omega
   have hnl:=gzg (f:=fun p:Sheet×Nat=>ndS p.1.Groups p.2 p.1.Cells) (K:=120) b.Sheets.zipIdx fun p hp=>by
    have:=hcl _ (List.fst_mem_of_mem_zipIdx hp);have:=ndS_len p.1.Groups p.2 p.1.Cells;omega
   rw[List.length_zipIdx]at hsl hnl;have hsl:(sls b.Sheets).length<=1440:=by unfold sls;omega
   have hnl:(nds b.Sheets).length<=1440:=by unfold nds;omega
   rw[dT0 hc,toBook hf,aza,nodesP_is (b:=b) (by omega) (fun s hs=>⟨by have:=hcl s hs;omega,by have:=(f2 s hs).groups;omega⟩),envP_is (b:=b) (by omega) (fun s hs=>by have:=hcl s hs;omega) (by omega)];simp only[aza];rw[Lzc (by simp only;have:=ok.one;omega) (by simp only;have:=ok.most;omega) (by simp only;omega) (by simp only;omega) (fun e he=>⟨f9 e he,ok.names e he⟩) (sls_ok ok.cells) (sls_txt fun s hs c hc=>((f2 s hs).cellE c hc).2) (KzR ok.cells),aza,
    law_l1 (by omega) (by simp only;omega) (nds_pair ok.cells) (KzR ok.cells) (nds_sls ok.cells),aza,law_l3 (by omega) (fun s hs=>by have:=hcl s hs;omega)]
   simp;rfl
  .rw[dF0 hc];rfl
end Go.Proofs.YtkafbjodbjkieaaGreatDoor
/- RW -/
namespace Go.Proofs.YtkafbjodbjkieaaGreatDoor
open Go Go.Ev
open Go.IntKind (i64 u64 u8 i32 u32 i16 u16)
theorem own:ownKnob Tryz.prog.godebug=none:=by kernel_rfl
theorem laidOut:laidOutB Tryz.prog=true:=by kernel_rfl
theorem and2 {a b:Bool}(h:a=true)(k:b=true):(a&&b)=true:=by rw[h,k];rfl
theorem main_is:Tryz.pinned.checked.prog.mainIs=some (true, "020e668ef3ba47a8d131159ae894effd8d56bef963cd7bc3292c53b116590e53".toList):=by kernel_rfl
theorem looks_is:false=Tryz.pinned.checked.prog.looks []:=by kernel_rfl
theorem Mzu:mapsRowed Tryz.prog=true:=by kernel_rfl
theorem Mzz:(Rows.bookNodesRow.plainKeys == Tryz.prog.plainKeys)=true:=by kernel_rfl
theorem LzL:Tryz.prog.stopsHeard=true:=by kernel_rfl
theorem may_enter:Tryz.prog.mayEnter=true:=by kernel_rfl
theorem lifts_is:(Rows.bookNodesRow.lifted == Tryz.prog.liftsFinal)=true:=by kernel_rfl
theorem make_is:(Tryz.prog.make == some Rows.bookNodesRow.make)=true:=by kernel_rfl
abbrev laidL:List (String×DataW Unit):=[("unicode/utf8.acceptRanges",Rows.laid_unicode_utf8_acceptRanges),("unicode/utf8.first",Rows.laid_unicode_utf8_first)]
theorem extra:Go.Proofs.U8Extra Tryz.prog Tryz.lays196_ren:=⟨by kernel_rfl,by kernel_rfl,by kernel_rfl,by kernel_rfl,by kernel_rfl,by kernel_rfl,by kernel_rfl⟩
theorem first_is:(Rows.laid_unicode_utf8_first:DataW Unit)=Lib.firstData:=by kernel_rfl
theorem accept_is:(Rows.laid_unicode_utf8_acceptRanges:DataW Unit)=Lib.acceptData:=by kernel_rfl
theorem inv_of {W:World}(h:laidMetH Tryz.prog laidL W):tb.inv (fun _=>.con) W:=by
 rw[MakeChecks.laidMetH_plain _ _ _ (by kernel_rfl)]at h;have h3:=Lib.laidMet.reads h (n := "unicode/utf8.first") (d:=Rows.laid_unicode_utf8_first) (by simp);have h4:=Lib.laidMet.reads h (n := "unicode/utf8.acceptRanges") (d:=Rows.laid_unicode_utf8_acceptRanges) (by simp);rw[first_is]at h3;rw[accept_is]at h4;exact⟨rfl,rfl,Go.Proofs.utf8Tabs_of_readsT (.of196 Tryz.lays196) extra h3 h4⟩
theorem true_out {P:Program}:∀g w us cs v,azE P tb g w [(0,.val 4)] true us cs->RetV [(0,.val 4)] us v->azQ P 4=false->v = .bool true:=by
 intro g w us cs v h hr ha;cases us with
 | nil=>cases cs<;>exact h.elim
 | cons u us =>
  cases us with
  | cons _ _=>cases cs<;>exact h.elim
  | nil =>
   cases cs with
   | nil=>exact h.elim
   | cons c cs =>
    cases cs with
    | cons _ _=>exact h.elim
    | nil =>
     have hr:v=u:=hr;subst hr;obtain⟨h1,_⟩:=h;unfold bzb at h1;simp only[ha,Bool.false_eq_true,if_false]at h1;obtain⟨c,hc,hrep⟩:=h1;have hc:[CV.bool true]=[c]:=hc;simp only[List.cons.injEq,and_true]at hc;subst hc;cases hrep;rfl
def rd2:RdTab Tryz.prog tb:=⟨[32,5,9,3,76,66,120,173,131,145],20,fun t ht=>by
 simp only[List.mem_cons,List.not_mem_nil,or_false]at ht;rcases ht with rfl|rfl|rfl|rfl|rfl|rfl|rfl|rfl|rfl|rfl
 .exact lzs (ks:=[.sl 9,.sl 9,.sl 3,.sl 76,.sl 9,.int .i64,.sl 66,.sl 120]) (by kernel_rfl) (by kernel_rfl) (fun _ _ _ _ _ _ _ _=>rfl)
 .exact lzs (ks:=[.int .u8]) (by kernel_rfl) (by kernel_rfl) (fun _=>rfl)
 .exact lzs (ks:=[.str]) (by kernel_rfl) (by kernel_rfl) (fun _=>rfl)
 .exact lzs (ks:=[.int .i64]) (by kernel_rfl) (by kernel_rfl) (fun _=>rfl)
 .exact lzs (ks:=[.int .i64,.int .i64,.int .i64,.int .i64,.str,.bool,.int .i64,.int .i64,.int .i64,.bool,.bool,.int .i64,.int .i64,.bool,.bool,.int .i64,.int .i64,.sl 76]) (by kernel_rfl) (by kernel_rfl) (fun _ _ _ _ _ _ _ _ _ _ _ _ _ _ _ _ _ _=>rfl)
 .exact lzs (ks:=[.int .i64,.int .i64,.int .i64]) (by kernel_rfl) (by kernel_rfl) (fun _ _ _=>rfl)
 .exact lzs (ks:=[.sl 173,.sl 131,.sl 145]) (by kernel_rfl) (by kernel_rfl) (fun _ _ _=>rfl)
 .exact lzs (ks:=[.int .i64,.int .i64,.bool]) (by kernel_rfl) (by kernel_rfl) (fun _ _ _=>rfl)
 .exact lzs (ks:=[.int .i64,.int .i64,.int .i64,.int .i64,.int .i64,.int .i64,.str,.bool,.int .i64,.bool,.int .i64,.int .i64,.int .i64,.int .i64,.str,.bool,.int .i64,.int .i64,.int .i64,.bool,.bool,.int .i64,.int .i64,.bool,.bool,.int .i64,.int .i64,.sl 76]) (by kernel_rfl) (by kernel_rfl) (fun _ _ _ _ _ _ _ _ _ _ _ _ _ _ _ _ _ _ _ _ _ _ _ _ _ _ _ _=>rfl)
 .exact lzs (ks:=[.bool,.int .i64,.int .i64,.int .i64,.int .i64,.int .i64,.int .i64,.int .i64,.int .i64,.str,.bool,.int .i64,.int .i64,.int .i64,.bool,.bool,.int .i64,.int .i64,.bool,.bool,.int .i64,.int .i64,.sl 76]) (by kernel_rfl) (by kernel_rfl) (fun _ _ _ _ _ _ _ _ _ _ _ _ _ _ _ _ _ _ _ _ _ _ _=>rfl)⟩
theorem readable2:∀t∈[32,5],Tryz.prog.readableRec t=true/\t<Tryz.prog.types.size:=by
 intro t ht;simp only[List.mem_cons,List.not_mem_nil,or_false]at ht;rcases ht with rfl|rfl<;>exact⟨by kernel_rfl,of_decide_eq_true (by kernel_rfl)⟩
theorem Ezf {l:List (List UInt8)}(h:Wf Tryz.prog tb (.sl 9 l)):fitL l:=by
 cases h with
 | sl e xs _ hx =>
  intro x hm;have h1:=hx x hm;rw[enc9_eq]at h1;cases h1 (.str x) (by simp)with
  | str s hs=>exact hs
theorem fit_of {b:Book}(h:∀c∈tb.enc 32 b,Wf Tryz.prog tb c):fitB b:=by
 rw[enc32_eq]at h;exact⟨Ezf (h _ (by simp)),Ezf (h (.sl 9 b.Globals.Formats) (by simp)),Ezf (h (.sl 9 b.Globals.Texts.Texts) (by simp))⟩
end Go.Proofs.YtkafbjodbjkieaaGreatDoor
/- DA -/
namespace Go.Proofs.YtkafbjodbjkieaaGreatDoor
open Go Go.Ev Go.ChangeShapes Go.WideShapes Go.RowKit
open Go.IntKind (i64 u64 u8 i32 u32 i16 u16)
theorem wzx:Hz0 Tryz.prog tb rz7:=fun x hx=>by
 obtain x:=x;exact⟨true,Gzt x (fit_of hx),fun g w us cs v h hr=>true_out g w us cs v h hr notAgg4⟩
set_option maxRecDepth 100000 in
theorem uza (os:Os)(started:os.Started)(H:Type)(enc:TypeId×Value->H):
 ReturnsInHanded {} Tryz.checked os 5 .any (fun w args=>(Rows.bookNodesSpec.pre enc Tryz.prog Tryz.f5 [] false w args/\laidMetH Tryz.prog laidL w)/\sizedMet enc Tryz.prog Tryz.f5 (OpenSpec.ofChange Rows.bookNodesSpec) false w args)
  (Rows.bookNodesSpec.post enc Tryz.prog Tryz.f5 false true false false):=by
 refine returnsInHanded_of_change_and (C:=Tryz.checked) (X:=fun w _=>laidMetH Tryz.prog laidL w) (fun _ _ _ hh h=>h.of_heap hh) own started (by kernel_rfl) Tryz.func5
  (ChangeSpec.witness_shaped (enc:=enc) (C:=Tryz.checked) (os:=os) (X:=fun w _=>laidMetH Tryz.prog laidL w) false (World.laidAll Tryz.prog os laidL) #[.agg #[.slice none 0 0,.slice none 0 0,.slice none 0 0,.slice none 0 0,.slice none 0 0,.int .i64 0,.slice none 0 0,.slice none 0 0]] 8 (World.laidAll_os _ _ _) (World.shaped_of_ZipB (by kernel_rfl) (by kernel_rfl)) (by kernel_rfl) (by kernel_rfl) (by kernel_rfl) (by rw[MakeChecks.laidMetH_plain _ _ _ (by kernel_rfl)];exact laidMet_laidAll _ (by kernel_rfl) (by kernel_rfl))) ?_
 intro W base args ds gs before hval hW _ hz hL _;exact law_calls (P:=Tryz.prog) (tb:=tb) rd2 (ts:=[32]) (rb:=4) vza wzx (by rw[Tryz.params5]) rfl (fun t ht=>by revert t;decide) rfl Tryz.underlying4 rfl (fun ds h=>by
  match ds,h with
  | [d0],_=>rfl) laidOut (fun t ht=>readable2 t (by revert t;decide)) hval hW hz (inv_of hL)
theorem zzg:(Rows.bookNodesRow.inPlace == Tryz.prog.inPlace 5)=true:=by kernel_rfl
theorem xzX:(Rows.bookNodesRow.unfollowed == Tryz.prog.unfollowed 5)=true:=by kernel_rfl
theorem xzY:(Rows.bookNodesRow.recurses == Tryz.prog.recurses 5)=true:=by kernel_rfl
theorem xzZ:(Rows.bookNodesRow.named == Tryz.prog.varsNamed 5)=true:=by kernel_rfl
theorem tz5:joinedFacts Tryz.pinned.checked.prog 5 Tryz.f5 Rows.bookNodesSpec Rows.bookNodesRow=true :=
 and2 (and2 (and2 (and2 (and2 (and2 (and2 (and2 (and2 (and2 (and2 (and2 (and2 (and2 (and2 (and2 (and2 (and2 (and2 (and2 (and2 (and2 (and2 (and2 (and2 (and2 (and2 (and2 (and2 (and2 (and2 (by kernel_rfl) laidOut) Mzu) (by kernel_rfl)) (by kernel_rfl)) (by kernel_rfl)) (by kernel_rfl)) (by kernel_rfl)) (by kernel_rfl)) zzg) xzX) xzY) xzZ) (by kernel_rfl)) (by kernel_rfl)) (by kernel_rfl)) (by kernel_rfl)) (by kernel_rfl)) (by kernel_rfl)) (by kernel_rfl)) (by kernel_rfl)) (by kernel_rfl)) Mzz) (by kernel_rfl)) LzL) may_enter) lifts_is) make_is) (by kernel_rfl)) (by kernel_rfl)) (by kernel_rfl)) (by kernel_rfl)
theorem law22_BookNodes_holds:Rows.BookNodesSaid :=
 OpenClaim.holds_of_wide 5 Tryz.f5 rfl rfl rfl rfl rfl rfl rfl ⟨rfl,rfl,rfl,rfl,rfl⟩ rfl rfl rfl rfl rfl (by kernel_rfl) Tryz.func5 tz5
  (of_decide_eq_true (by kernel_rfl)) (by unfold Func.isWrapper;first|(rw[if_pos (by decide +kernel)];kernel_rfl)|(rw[if_neg (by decide +kernel)];exact⟨rfl,rfl⟩))
  (fun os started H enc _=>uza os started H enc)
theorem wzw:false=Rows.bookNodesRow.goesBy Tryz.pinned.checked.prog:=by kernel_rfl
theorem law22_BookNodes_card:Rows.BookNodesCardSaid :=
 Claim7.holds_tied_plain_at .later [] [.data,.pinned] true (true, "020e668ef3ba47a8d131159ae894effd8d56bef963cd7bc3292c53b116590e53") false
  law22_BookNodes_holds (fun _ h=>by cases h) (by kernel_rfl) (fun _ h=>by cases h) bookNodes_row_tie rfl ⟨rfl,rfl⟩ main_is rfl
  (fun f fn hf hfn=>by
   obtain rfl:f=5:=Option.some.inj ((show Tryz.prog.funcNamed "cashbook/cashbooklaw22.BookNodes" = some 5 by kernel_rfl).symm.trans hf) |>.symm;obtain rfl:fn=Tryz.f5:=(Option.some.inj (Tryz.func5.symm.trans hfn)).symm;exact⟨looks_is,fun j t ht=>by
    rw[Tryz.params5]at ht;have hm:t∈[32]:=by simpa using Array.mem_of_getElem? ht
    have hall:([32].all fun u=>!Tryz.prog.wantsStandIn u)=true:=by kernel_rfl
    exact(show Tryz.prog.wantsStandIn t=false by simpa using List.all_eq_true.1 hall t hm)⟩)
  wzw
end Go.Proofs.YtkafbjodbjkieaaGreatDoor