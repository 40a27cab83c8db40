import Derived.Test.YtkafbjodbjkieaaGreatDoorA0
import Derived.Lib.ValidLaws
set_option linter.unusedSimpArgs false
set_option linter.unusedVariables false
/- XX -/
namespace Go.Proofs.YtkafbjodbjkieaaGreatDoor
open Go Go.Ev Go.Lib
open Go.IntKind (i64 u64 u8 i32 u32 i16 u16)
theorem idxB {D:List UInt8}{k:Nat}{v:UInt8}(h:D[k]?=some v):idx D (k:Int)=some v:=by simp[idx,h]
def okD (d:Dec):Prop:=0<=d.S/\d.S<=9/\(0<d.S->¬d.M%10=0)
def V (d:Dec):Int:=d.M*10^(9-d.S.toNat)
def I64 (n:Int):Prop:=-9223372036854775808<=n/\n<=9223372036854775807
instance (n:Int):Decidable (I64 n):=inferInstanceAs (Decidable (_/\_))
def cmpV (x y:Int):Int:=if x<y then -1 else if y<x then 1 else 0
theorem wu64 (n:Int):u64.wrap n=n%18446744073709551616:=by simp[IntKind.wrap,IntKind.bits,IntKind.signed]
theorem wi64 (n:Int):i64.wrap n=(n+9223372036854775808)%18446744073709551616-9223372036854775808:=IntKind.wrap_i64 n
theorem Hzk {n:Int}(h0:0<=n)(h1:n<18446744073709551616):u64.wrap n=n:=by rw[wu64];omega
theorem azG {n:Int}(h0:-9223372036854775808<=n)(h1:n<=9223372036854775807):i64.wrap n=n:=by rw[wi64];omega
theorem tzc (x y:Int):dzV (x,y)=some (cmpV x y):=by
 unfold dzV nzE cmpV;simp only[decide_true,cond_true,aza,azc];by_cases h:x<y
 .simp[h]
 .by_cases h2:y<x<;>simp[h,h2]
theorem tmod10 (m:Int):(m.tmod 10=0↔m%10=0)/\(m%10=0->m.tdiv 10=m/10) :=
 ⟨by rw[<-Int.dvd_iff_tmod_eq_zero,<-Int.dvd_iff_emod_eq_zero],fun h=>Int.tdiv_eq_ediv_of_dvd (Int.dvd_of_emod_eq_zero h)⟩
theorem Lz2 (d:Dec):jzg d=some 0/\okD d\/∃e,jzg d=some e/\e≠0:=by
 unfold jzg okD;by_cases h1:d.S<0
 .exact .inr ⟨1,by simp[h1],by omega⟩
 .by_cases h2:9<d.S
  .exact .inr ⟨1,by simp[h1,h2],by omega⟩
  .by_cases h3:0<d.S
   .by_cases h4:d.M.tmod 10=0
    .exact .inr ⟨1,by simp[h1,h2,h3,h4],by omega⟩
    .exact .inl ⟨by simp[h1,h2,h3,h4],by omega,by omega,fun _ h=>h4 ((tmod10 d.M).1.2 h)⟩
   .exact .inl ⟨by simp[h1,h2,h3],by omega,by omega,fun h=>absurd h h3⟩
theorem idxI {D:List Int}{k:Nat}{v:Int}(h:D[k]?=some v):idx D (k:Int)=some v:=by
 simp[idx,h]
theorem KzZ {X Y:Type}{F:(X->Option Y)->X->Option Y}(m:X->Nat)(Inv:X->Prop)(Post:Y->Prop)
 (h:∀back x,Inv x->(∀x',Inv x'->m x'<m x->∃y,back x'=some y/\Post y)->∃y,F back x=some y/\Post y):∀n x,Inv x->m x<n->∃y,iter F n x=some y/\Post y
 | 0,_,_,h0=>by omega
 | n+1,x,hp,hn=>by
  rw[azw];exact h _ x hp fun x' hp' hm=>KzZ m Inv Post h n x' hp' (by omega)
theorem nzM {X Y:Type}{F:(X->Option Y)->X->Option Y}(m:X->Nat)(Inv:X->Prop)(Post:Y->Prop)
 (h:∀back x,Inv x->(∀x',Inv x'->m x'<m x->∃y,back x'=some y/\Post y)->∃y,F back x=some y/\Post y) (x:X) (hx:Inv x) (hm:m x<9223372036854775808):∃y,iter F big x=some y/\Post y :=
 KzZ m Inv Post h _ x hx (by rw[bzH];omega)
section
variable {M N:Int} {s t:Nat} (hM:I64 M) (hN:I64 N) (hs:s<=9) (ht:t<=9)
include hM hN hs ht
end
section
variable {M N:Int} {s t:Nat} (hM:I64 M) (hN:I64 N) (hs:s<=9) (ht:t<=9)
include hM hN hs ht
end
open Go Go.Ev Go.Lib
def rl:Nat->List UInt8->List Int
 | 0,_=>[]
 | n+1,l=>if l=[]then []else((decodeL l).1:Int)::rl n (l.drop (decodeL l).2)
theorem GzX:∀n,rl n []=[]
 | 0=>rfl
 | n+1=>by simp[rl]
theorem rl_fuel:∀(n m:Nat) (l:List UInt8),l.length<=n->l.length<=m->rl n l=rl m l
 | 0,m,l,hn,_=>by
  have:l=[]:=List.eq_nil_of_length_eq_zero (by omega);subst this;rw[GzX,GzX]
 | n+1,0,l,_,hm=>by
  have:l=[]:=List.eq_nil_of_length_eq_zero (by omega);subst this;rw[GzX,GzX]
 | n+1,m+1,l,hn,hm=>by
  unfold rl;by_cases hne:l=[]
  .simp[hne]
  .have hw:=decodeL_width l;have hl:0<l.length:=List.length_pos_iff.2 hne;rw[if_neg hne,if_neg hne,rl_fuel n m (l.drop (decodeL l).2) (by rw[List.length_drop];omega) (by rw[List.length_drop];omega)]
def rs (l:List UInt8):List Int:=rl l.length l
theorem GzY:rs []=[]:=rfl
theorem tzh {l:List UInt8}(h:l≠[]):rs l=((decodeL l).1:Int)::rs (l.drop (decodeL l).2):=by
 have hl:0<l.length:=List.length_pos_iff.2 h;have hw:=decodeL_width l;obtain⟨n,hn⟩:∃n,l.length=n+1:=⟨l.length-1,by omega⟩;unfold rs;rw[hn]
 show(if l=[]then []else _)=_
 rw[if_neg h,rl_fuel n (l.drop (decodeL l).2).length _ (by rw[List.length_drop];omega) (Nat.le_refl _)]
theorem AzY (s:List UInt8)(i:Nat):rune s i=decodeL (s.drop i):=(decodeL_drop ⟨s.toArray⟩ i).symm
theorem rzS:∀(l:List UInt8),(rs l).length<=l.length:=fun l=>by
 have:∀(n:Nat) (l:List UInt8),(rl n l).length<=n:=by
  intro n;induction n with
  | zero=>intro l;simp[rl]
  | succ n ih =>
   intro l;unfold rl;split
   .simp
   .have:=ih (l.drop (decodeL l).2);simp;omega
 exact this l.length l
structure Ord (α:Type) (c:α->α->Int):Prop where
 vals:∀a b,c a b = -1\/c a b=0\/c a b=1
 swap:∀a b,c b a = - c a b
 same:∀a b,c a b=0↔a=b
 less:∀a b d,c a b = -1->c b d = -1->c a d = -1
open Go Go.Ev Go.Lib
def vB:Val:=⟨0,⟨0,0⟩,[],false,0⟩
def vN (d:Dec):Val:=⟨1,d,[],false,0⟩
def vS (s:List UInt8):Val:=⟨2,⟨0,0⟩,s,false,0⟩
def vT (b:Bool):Val:=⟨3,⟨0,0⟩,[],b,0⟩
def vE (e:Int):Val:=⟨4,⟨0,0⟩,[],false,e⟩
def okV (v:Val):Prop:=v=vB\/(∃d,v=vN d/\okD d)\/(∃s,v=vS s/\Lib.validD s=true)\/(∃b,v=vT b)\/∃e,v=vE e
theorem ezZ {α:Type}{b:Bool}{x y:Option α}(hx:∃n,x=some n)(hy:∃n,y=some n):∃n,brn b x y=some n:=by cases b<;>assumption
theorem name_is (e:Int):∃n,Bzh e=some n :=
 ezZ ⟨_,rfl⟩ (ezZ ⟨_,rfl⟩ (ezZ ⟨_,rfl⟩ (ezZ ⟨_,rfl⟩ (ezZ ⟨_,rfl⟩ (ezZ ⟨_,rfl⟩ (ezZ ⟨_,rfl⟩ ⟨_,rfl⟩))))))
def key (v:Val):List Int:=v.Kind::(if v.Kind=1 then [V v.N]else if v.Kind=2 then rs v.S else if v.Kind=3 then [if v.B then 1 else 0]else [v.E])
open Go Go.Ev Go.Lib
theorem appN {A:Type}{B:Nat}{xs ys:List A}(h:(xs.length+ys.length)*B<=140737488355328):app B xs ys=some (xs++ys):=by
 have:Nat.ble ((xs.length+ys.length)*B) 140737488355328=true:=Nat.ble_eq_true_of_le h;simp[app,this]
theorem uzm {n:Nat}(h:n<9223372036854775808):i64.wrap (n:Int)=n:=azG (by omega) (by omega)
theorem vzS {x y:Nat}(hx:x<9223372036854775808)(hy:y<9223372036854775808):czg .and .i64 (x:Int) (y:Int)=((x &&& y:Nat):Int):=by
 simp only[czg];rw[BitVec.toNat_and,BitVec.ofInt_natCast,BitVec.ofInt_natCast,BitVec.toNat_ofNat,BitVec.toNat_ofNat];simp only[IntKind.bits];rw[Nat.mod_eq_of_lt (by omega),Nat.mod_eq_of_lt (by omega)];exact uzm (Nat.lt_of_le_of_lt Nat.and_le_left hx)
theorem or_nat {x y:Nat}(hx:x<1073741824)(hy:y<64):czg .or .i64 ((x*64:Nat):Int) (y:Int)=((x*64+y:Nat):Int):=by
 simp only[czg];rw[BitVec.toNat_or,BitVec.ofInt_natCast,BitVec.ofInt_natCast,BitVec.toNat_ofNat,BitVec.toNat_ofNat];simp only[IntKind.bits];rw[Nat.mod_eq_of_lt (by omega),Nat.mod_eq_of_lt (by omega)];have:=Nat.two_pow_add_eq_or_of_lt (i:=6) (b:=y) (by omega) x;rw[Nat.mul_comm x 64,show(64:Nat)=2^6 from rfl,<-this];exact uzm (by omega)
theorem byte_and:∀b:Fin 256,(b.val &&& 31=b.val%32)/\(b.val &&& 15=b.val%16)/\(b.val &&& 7=b.val%8)/\(b.val &&& 63=b.val%64)/\((b.val &&& 192=128)↔b.val/64=2):=by decide +kernel
theorem bAnd {b:Nat}(h:b<256):czg .and .i64 (b:Int) 31=((b%32:Nat):Int)/\czg .and .i64 (b:Int) 15=((b%16:Nat):Int)/\czg .and .i64 (b:Int) 7=((b%8:Nat):Int) /\
 czg .and .i64 (b:Int) 63=((b%64:Nat):Int)/\(czg .and .i64 (b:Int) 192=128↔b/64=2):=by
 obtain⟨h1,h2,h3,h4,h5⟩:=byte_and ⟨b,h⟩;simp only at h1 h2 h3 h4 h5;refine⟨?_,?_,?_,?_,?_⟩
 .rw[<-h1];exact vzS (y:=31) (by omega) (by omega)
 .rw[<-h2];exact vzS (y:=15) (by omega) (by omega)
 .rw[<-h3];exact vzS (y:=7) (by omega) (by omega)
 .rw[<-h4];exact vzS (y:=63) (by omega) (by omega)
 .have e:czg .and .i64 (b:Int) 192=((b &&& 192:Nat):Int):=vzS (y:=192) (by omega) (by omega);rw[e];constructor
  .intro h;exact h5.1 (by omega)
  .intro h;have:=h5.2 h;omega
def more:List UInt8->Nat->Nat->Option Nat
 | _,0,v=>some v
 | [],_+1,_=>none
 | d::l,n+1,v=>if d.toNat/64=2 then more l n (v*64+d.toNat%64)else none
theorem Izd {x:List UInt8}{i n v:Nat}(hl:x.length<=5000000)(hn:i+n<x.length)(hn3:n<=3)(hv:v<64):lzB (x,(i:Int),(n:Int),(v:Int),1)=some (match more (x.drop (i+1)) n v with|some w=>.inl (w:Int)|none=>.inr ([],false)):=by
 obtain⟨y,h1,h2⟩:=nzM (F:=lzA) (fun z=>10-z.2.2.2.2.toNat) (fun z=>∃k w:Nat,z=(x,(i:Int),(n:Int),(w:Int),((k+1:Nat):Int))/\k<=n/\w<64*64^k/\more (x.drop (i+1+k)) (n-k) w=more (x.drop (i+1)) n v)
  (fun y=>y=(match more (x.drop (i+1)) n v with|some w=>.inl (w:Int)|none=>.inr ([],false))) (by
  rintro back z ⟨k,w,rfl,hk,hw,hm⟩ hb;unfold lzA;simp only at hb ⊢;rw[<-hm];rcases Nat.lt_or_ge k n with hlt|hge
  .have hx:i+1+k<x.length:=by omega
   have hdl:=(x[i+1+k]'hx).toNat_lt;obtain⟨_,_,_,b63,b192⟩:=bAnd hdl;have hw3:w<64*64^3:=Nat.lt_of_lt_of_le hw (Nat.mul_le_mul_left _ (Nat.pow_le_pow_right (by omega) (by omega)));rw[dT0 (by omega),azd,azG (by omega) (by omega),show(i:Int)+((k+1:Nat):Int)=((i+1+k:Nat):Int) by omega,idxB (List.getElem?_eq_getElem hx),aza,uzm (by omega)];have hd:x.drop (i+1+k)=x[i+1+k]'hx::x.drop (i+1+k+1):=List.drop_eq_getElem_cons hx;rw[hd,show n-k=(n-(k+1))+1 by omega];generalize x[i+1+k]'hx=d at *;by_cases h2:d.toNat/64=2
   .rw[dT0 (b192.2 h2),Bool.not_true,azc,b63,show(w:Int)*64=((w*64:Nat):Int) by omega,uzm (by omega),or_nat (by omega) (by omega),azG (by omega) (by omega)];have e:more (d::x.drop (i+1+k+1)) (n-(k+1)+1) w=more (x.drop (i+1+k+1)) (n-(k+1)) (w*64+d.toNat%64):=by
     show(if _ then _ else _)=_
     rw[if_pos h2]
    rw[e];rw[hd,show n-k=(n-(k+1))+1 by omega,e]at hm;rw[hm];exact hb _ ⟨k+1,w*64+d.toNat%64,by simp,by omega,by rw[Nat.pow_succ];omega,by rw[<-hm];rfl⟩ (by simp only;omega)
   .rw[dF0 (fun h=>h2 (b192.1 h)),Bool.not_false,azd];have e:more (d::x.drop (i+1+k+1)) (n-(k+1)+1) w=none:=by
     show(if _ then _ else _)=_
     rw[if_neg h2]
    rw[e];exact⟨_,rfl,rfl⟩
  .have:k=n:=by omega
   subst this;rw[dF0 (by omega),azc,Nat.sub_self];refine⟨_,rfl,?_⟩;have:∀l,more l 0 w=some w:=fun l=>by cases l<;>rfl
   rw[this]) (x,(i:Int),(n:Int),(v:Int),1) ⟨0,v,by simp,by omega,by omega,by simp⟩ (by simp only;omega)
 subst h2;exact h1
open Go Go.Ev Go.Lib
theorem more0_is {x:List UInt8}{i v:Nat}:lzB (x,(i:Int),0,(v:Int),1)=some (.inl (v:Int)):=by
 unfold lzB;rw[bzH,azw];unfold lzA;simp
theorem more1 {l:List UInt8}(h:0<l.length)(v:Nat):more l 1 v=if(l.getD 0 0).toNat/64=2 then some (v*64+(l.getD 0 0).toNat%64)else none:=by
 cases l with
 | nil=>simp at h
 | cons a l=>cases l<;>rfl
theorem more2 {l:List UInt8}(h:1<l.length)(v:Nat):more l 2 v=if(l.getD 0 0).toNat/64=2/\(l.getD 1 0).toNat/64=2 then some ((v*64+(l.getD 0 0).toNat%64)*64+(l.getD 1 0).toNat%64)else none:=by
 cases l with
 | nil=>simp at h
 | cons a l =>
  have:=more1 (l:=l) (by simp at h;omega)
  show(if a.toNat/64=2 then more l 1 (v*64+a.toNat%64)else none)=_
  rw[this];simp only[List.getD_cons_zero,List.getD_cons_succ];by_cases h1:a.toNat/64=2
  .rw[if_pos h1];simp[h1]
  .rw[if_neg h1];simp[h1]
theorem more3 {l:List UInt8}(h:2<l.length)(v:Nat):more l 3 v=if(l.getD 0 0).toNat/64=2/\(l.getD 1 0).toNat/64=2/\(l.getD 2 0).toNat/64=2 then some (((v*64+(l.getD 0 0).toNat%64)*64+(l.getD 1 0).toNat%64)*64+(l.getD 2 0).toNat%64)else none:=by
 cases l with
 | nil=>simp at h
 | cons a l =>
  have:=more2 (l:=l) (by simp at h;omega)
  show(if a.toNat/64=2 then more l 2 (v*64+a.toNat%64)else none)=_
  rw[this];simp only[List.getD_cons_zero,List.getD_cons_succ];by_cases h1:a.toNat/64=2
  .rw[if_pos h1];simp[h1]
  .rw[if_neg h1];simp[h1]
def oneR (x:List UInt8)(out:List Int)(i:Nat):(List Int×Int)⊕(List Int×Bool):=if(decodeL (x.drop i)).1=65533/\(decodeL (x.drop i)).2=1 then .inr ([],false)else .inl (out++[((decodeL (x.drop i)).1:Int)],((i+(decodeL (x.drop i)).2:Nat):Int))
theorem xzk {out:List Int}{i n w least:Nat}(ho:out.length<=5000000)(hi:i<=5000000)(hn:n<=3):
 brn (decide ((w:Int)<(least:Int))) (some (Sum.inr (([]:List Int),false)))
  (brn (decide ((55296:Int)<=(w:Int)))
   (brn (decide ((w:Int)<57344)) (some (Sum.inr ([],false)))
    (brn (decide ((1114111:Int)<(w:Int))) (some (Sum.inr ([],false)))
     (obnd (app 8 out [(w:Int)]) fun zs=>some (Sum.inl (zs,i64.wrap (i64.wrap ((i:Int)+(n:Int))+1))))))
   (brn (decide ((1114111:Int)<(w:Int))) (some (Sum.inr ([],false)))
    (obnd (app 8 out [(w:Int)]) fun zs=>some (Sum.inl (zs,i64.wrap (i64.wrap ((i:Int)+(n:Int))+1)))))) =
  some (if w<least\/(55296<=w/\w<57344)\/1114111<w then Sum.inr ([],false)else Sum.inl (out++[(w:Int)],((i+(n+1):Nat):Int))):=by
 rw[appN (by simp only[List.length_singleton];omega),aza,azG (n:=(i:Int)+(n:Int)) (by omega) (by omega),azG (by omega) (by omega),show(i:Int)+(n:Int)+1=((i+(n+1):Nat):Int) by omega];by_cases h1:w<least
 .rw[dT0 (by omega),azd,if_pos (.inl h1)]
 .rw[dF0 (by omega),azc];by_cases h2:55296<=w
  .rw[dT0 (by omega),azd];by_cases h3:w<57344
   .rw[dT0 (by omega),azd,if_pos (.inr (.inl ⟨h2,h3⟩))]
   .rw[dF0 (by omega),azc];by_cases h4:1114111<w
    .rw[dT0 (by omega),azd,if_pos (.inr (.inr h4))]
    .rw[dF0 (by omega),azc,if_neg (by omega)]
  .rw[dF0 (by omega),azc];by_cases h4:1114111<w
   .rw[dT0 (by omega),azd,if_pos (.inr (.inr h4))]
   .rw[dF0 (by omega),azc,if_neg (by omega)]
theorem b3_is {c:Nat}(h:c<256):nzU ((c:Int),0,0)=some (if c<128 then .inl (0,(c:Int),0)else if 194<=c/\c<224 then .inl (1,((c%32:Nat):Int),128)else if 224<=c/\c<240 then .inl (2,((c%16:Nat):Int),2048)
 else if 240<=c/\c<245 then .inl (3,((c%8:Nat):Int),65536)else .inr ([],false)):=by
 obtain⟨a1,a2,a3,_,_⟩:=bAnd h;unfold nzU;simp only[a1,a2,a3];by_cases h1:c<128
 .rw[dT0 (by omega),azd,if_pos h1]
 .rw[dF0 (by omega),azc,if_neg h1];by_cases h2:194<=c
  .rw[dT0 (by omega),azd];by_cases h3:c<224
   .rw[dT0 (by omega),azd,if_pos ⟨h2,h3⟩]
   .rw[dF0 (by omega),azc,dT0 (by omega),azd,if_neg (by omega)];by_cases h4:c<240
    .rw[dT0 (by omega),azd,if_pos (by omega)]
    .rw[dF0 (by omega),azc,dT0 (by omega),azd,if_neg (by omega)];by_cases h5:c<245
     .rw[dT0 (by omega),azd,if_pos (by omega)]
     .rw[dF0 (by omega),azc,if_neg (by omega)]
  .rw[dF0 (by omega),azc,dF0 (by omega),azc,dF0 (by omega),azc,if_neg (by omega),if_neg (by omega),if_neg (by omega)]
theorem rune_is {x:List UInt8}{out:List Int}{i:Nat}(hl:x.length<=4000000)(ho:out.length<=5000000)(hi:i<x.length):nzT (x,out,(i:Int))=some (oneR x out i):=by
 unfold nzT oneR;have hd:x.drop i=x[i]::x.drop (i+1):=List.drop_eq_getElem_cons hi;have hb0:=(x[i]'hi).toNat_lt;have hL:(x.drop i).length=x.length-i:=by simp
 have hL2:(x.drop (i+1)).length=x.length-i-1:=by simp;omega
 have hD:=decodeL_N (x.drop i);rw[hL,hd]at hD;simp only[List.getD_cons_zero,List.getD_cons_succ]at hD;rw[<-hd]at hD;simp only;rw[idxB (List.getElem?_eq_getElem hi),aza,uzm (by omega),b3_is hb0,aza,azG (n:=(x.length:Int)-(i:Int)) (by omega) (by omega),hD];have k0:=((x.drop (i+1)).getD 0 0).toNat_lt;have k1:=((x.drop (i+1)).getD 1 0).toNat_lt;have k2:=((x.drop (i+1)).getD 2 0).toNat_lt;generalize hc:(x[i]'hi).toNat=c at *;have m1:=fun h v=>more1 (l:=x.drop (i+1)) h v
 have m2:=fun h v=>more2 (l:=x.drop (i+1)) h v
 have m3:=fun h v=>more3 (l:=x.drop (i+1)) h v
 have r1:=fun v h h2=>Izd (x:=x) (i:=i) (n:=1) (v:=v) (by omega) h (by omega) h2
 have r2:=fun v h h2=>Izd (x:=x) (i:=i) (n:=2) (v:=v) (by omega) h (by omega) h2
 have r3:=fun v h h2=>Izd (x:=x) (i:=i) (n:=3) (v:=v) (by omega) h (by omega) h2
 generalize ((x.drop (i+1)).getD 0 0).toNat=b1 at *;generalize ((x.drop (i+1)).getD 1 0).toNat=b2 at *;generalize ((x.drop (i+1)).getD 2 0).toNat=b3 at *;by_cases h1:c<128
 .rw[if_pos h1];simp only[osum];have ck:=xzk (out:=out) (i:=i) (n:=0) (w:=c) (least:=0) ho (by omega) (by omega);rw[dF0 (by omega),azc,more0_is,aza];simp only[osum];have z0:((0:Nat):Int)=0:=rfl;rw[z0]at ck;rw[ck,decodeN_ascii _ _ _ _ _ h1,if_neg (by omega),if_neg (by simp;omega)]
 .rw[if_neg h1];by_cases h2:194<=c/\c<224
  .rw[if_pos h2];simp only[osum];by_cases hlen:x.length-i<=1
   .rw[dT0 (by omega),azd];have:decodeN (x.length-i) c b1 b2 b3=(65533,1):=by
     unfold decodeN;rw[if_neg h1,if_neg (by omega),if_neg (by omega),if_neg (by omega)]
    rw[this,if_pos ⟨rfl,rfl⟩]
   .have r:=r1 (c%32) (by omega) (by omega);rw[m1 (by omega)]at r;have ck:=xzk (out:=out) (i:=i) (n:=1) (w:=c%32*64+b1%64) (least:=128) ho (by omega) (by omega);have z1:((1:Nat):Int)=1:=rfl;have z2:((128:Nat):Int)=128:=rfl;rw[z1]at r ck;rw[z2]at ck;rw[dF0 (by omega),azc,r,aza];by_cases hb:b1/64=2
    .rw[if_pos hb];simp only[osum];rw[ck];have:decodeN (x.length-i) c b1 b2 b3=(c%32*64+b1%64,2):=by
      unfold decodeN;rw[if_neg h1,if_pos (by omega),if_pos (by omega)]
     rw[this,if_neg (by omega),if_neg (by simp)]
    .rw[if_neg hb];simp only[osum];have:decodeN (x.length-i) c b1 b2 b3=(65533,1):=by
      unfold decodeN;rw[if_neg h1,if_neg (by omega),if_neg (by omega),if_neg (by omega)]
     rw[this,if_pos ⟨rfl,rfl⟩]
  .rw[if_neg h2];by_cases h3:224<=c/\c<240
   .rw[if_pos h3];simp only[osum];by_cases hlen:x.length-i<=2
    .rw[dT0 (by omega),azd];have:decodeN (x.length-i) c b1 b2 b3=(65533,1):=by
      unfold decodeN;rw[if_neg h1,if_neg (by omega),if_neg (by omega),if_neg (by omega)]
     rw[this,if_pos ⟨rfl,rfl⟩]
    .have r:=r2 (c%16) (by omega) (by omega);rw[m2 (by omega)]at r;have ck:=xzk (out:=out) (i:=i) (n:=2) (w:=(c%16*64+b1%64)*64+b2%64) (least:=2048) ho (by omega) (by omega);have z1:((2:Nat):Int)=2:=rfl;have z2:((2048:Nat):Int)=2048:=rfl;rw[z1]at r ck;rw[z2]at ck;rw[dF0 (by omega),azc,r,aza];by_cases hb:b1/64=2/\b2/64=2
     .rw[if_pos hb];simp only[osum];rw[ck];have e:(c%16*64+b1%64)*64+b2%64=c%16*4096+b1%64*64+b2%64:=by omega
      rw[e];by_cases hv:c%16*4096+b1%64*64+b2%64>=2048/\(c%16*4096+b1%64*64+b2%64<55296\/(57344<=c%16*4096+b1%64*64+b2%64/\c%16*4096+b1%64*64+b2%64<=1114111))
      .have:decodeN (x.length-i) c b1 b2 b3=(c%16*4096+b1%64*64+b2%64,3):=by
        unfold decodeN;rw[if_neg h1,if_neg (by omega),if_pos (by omega),if_pos hv]
       rw[this,if_neg (by omega),if_neg (by simp)]
      .have:decodeN (x.length-i) c b1 b2 b3=(65533,1):=by
        unfold decodeN;rw[if_neg h1,if_neg (by omega),if_pos (by omega),if_neg hv]
       rw[this,if_pos (by omega),if_pos ⟨rfl,rfl⟩]
     .rw[if_neg hb];simp only[osum];have:decodeN (x.length-i) c b1 b2 b3=(65533,1):=by
       unfold decodeN;rw[if_neg h1,if_neg (by omega),if_neg (by omega),if_neg (by omega)]
      rw[this,if_pos ⟨rfl,rfl⟩]
   .rw[if_neg h3];by_cases h4:240<=c/\c<245
    .rw[if_pos h4];simp only[osum];by_cases hlen:x.length-i<=3
     .rw[dT0 (by omega),azd];have:decodeN (x.length-i) c b1 b2 b3=(65533,1):=by
       unfold decodeN;rw[if_neg h1,if_neg (by omega),if_neg (by omega),if_neg (by omega)]
      rw[this,if_pos ⟨rfl,rfl⟩]
     .have r:=r3 (c%8) (by omega) (by omega);rw[m3 (by omega)]at r;have ck:=xzk (out:=out) (i:=i) (n:=3) (w:=((c%8*64+b1%64)*64+b2%64)*64+b3%64) (least:=65536) ho (by omega) (by omega);have z1:((3:Nat):Int)=3:=rfl;have z2:((65536:Nat):Int)=65536:=rfl;rw[z1]at r ck;rw[z2]at ck;rw[dF0 (by omega),azc,r,aza];by_cases hb:b1/64=2/\b2/64=2/\b3/64=2
      .rw[if_pos hb];simp only[osum];rw[ck];have e:((c%8*64+b1%64)*64+b2%64)*64+b3%64=c%8*262144+b1%64*4096+b2%64*64+b3%64:=by omega
       rw[e];by_cases hv:c%8*262144+b1%64*4096+b2%64*64+b3%64>=65536/\(c%8*262144+b1%64*4096+b2%64*64+b3%64<55296\/(57344<=c%8*262144+b1%64*4096+b2%64*64+b3%64/\c%8*262144+b1%64*4096+b2%64*64+b3%64<=1114111))
       .have:decodeN (x.length-i) c b1 b2 b3=(c%8*262144+b1%64*4096+b2%64*64+b3%64,4):=by
         unfold decodeN;rw[if_neg h1,if_neg (by omega),if_neg (by omega),if_pos (by omega),if_pos hv]
        rw[this,if_neg (by omega),if_neg (by simp)]
       .have:decodeN (x.length-i) c b1 b2 b3=(65533,1):=by
         unfold decodeN;rw[if_neg h1,if_neg (by omega),if_neg (by omega),if_pos (by omega),if_neg hv]
        rw[this,if_pos (by omega),if_pos ⟨rfl,rfl⟩]
      .rw[if_neg hb];simp only[osum];have:decodeN (x.length-i) c b1 b2 b3=(65533,1):=by
        unfold decodeN;rw[if_neg h1,if_neg (by omega),if_neg (by omega),if_neg (by omega)]
       rw[this,if_pos ⟨rfl,rfl⟩]
    .rw[if_neg h4];simp only[osum];have:decodeN (x.length-i) c b1 b2 b3=(65533,1):=by
      unfold decodeN;rw[if_neg h1];split
      .rw[if_neg (by omega)]
      .rw[if_neg (by omega)];split
       .rw[if_neg (by omega)]
       .rfl
     rw[this,if_pos ⟨rfl,rfl⟩]
theorem ozu {x:List UInt8}(hl:x.length<=4000000):kzL x=some (if validD x=true then(rs x,true)else([],false)):=by
 obtain⟨y,h1,h2⟩:=nzM (F:=nzV) (fun z=>x.length-z.2.2.toNat) (fun z=>∃(i:Nat) (out:List Int),z=(x,out,(i:Int))/\i<=x.length/\out.length<=i/\validD (x.drop i)=validD x/\out++rs (x.drop i)=rs x)
  (fun y=>osum y (fun y=>some (y,true)) (fun y=>some y)=some (if validD x=true then(rs x,true)else([],false))) (by
  rintro back z ⟨i,out,rfl,hi,ho,hv,hr⟩ hb;unfold nzV;simp only at hb ⊢;rcases Nat.lt_or_ge i x.length with hlt|hge
  .have hne:x.drop i≠[]:=fun e=>by have:=congrArg List.length e;simp at this;omega
   have hw:=decodeL_width (x.drop i);have hle:=decodeL_le (x.drop i) hne;rw[List.length_drop]at hle;rw[dT0 (by omega),azd,rune_is (by omega) (by omega) hlt,aza];unfold oneR;rw[validD_step _ hne]at hv;by_cases hbad:(decodeL (x.drop i)).1=65533/\(decodeL (x.drop i)).2=1
   .rw[if_pos hbad]at hv ⊢;rw[<-hv];exact⟨_,rfl,rfl⟩
   .rw[if_neg hbad]at hv ⊢;simp only[osum];rw[List.drop_drop]at hv;refine hb _ ⟨i+(decodeL (x.drop i)).2,_,rfl,by omega,by simp;omega,hv,?_⟩ (by simp only;omega);rw[tzh hne,List.drop_drop]at hr;rw[<-hr,List.append_assoc];rfl
  .rw[dF0 (by omega),azc];refine⟨_,rfl,?_⟩;rw[List.drop_eq_nil_of_le hge]at hv hr;rw[<-hv,<-hr];simp[osum,validD_nil,GzY]) (x,[],0) ⟨0,[],rfl,by omega,by simp,by simp,by simp⟩ (by simp only;omega)
 unfold kzL;have h3:qz3 (x,[],0)=some y:=h1;rw[h3,aza];exact h2
open Go Go.Ev Go.Lib
def ulen:List Int->Nat
 | []=>0
 | r::l=>(if r<65536 then 1 else 2)+ulen l
theorem MzV {x:List UInt8}(hl:x.length<=100000000):∃us,kzH x=some us/\us.length=ulen (rs x):=by
 have key:∃y,ozY ([],x,0)=some y/\(y.1.length=ulen (rs x)):=by
  refine nzM (F:=jz4) (fun z=>x.length-z.2.2) (fun z=>∃(out:List Int) (p:Nat),z=(out,x,p)/\out.length<=2*p/\(p<x.length\/rs (x.drop p)=[])/\out.length+ulen (rs (x.drop p))=ulen (rs x)) _ ?_ _ ⟨[],0,rfl,by simp,by
   by_cases h:x=[]
   .subst h;exact .inr rfl
   .exact .inl (List.length_pos_iff.2 h),by simp⟩ (by simp only;omega)
  rintro back z ⟨out,p,rfl,ho,hp,hv⟩ hb;unfold jz4;simp only at hb ⊢;by_cases hlt:p<x.length
  .have hne:x.drop p≠[]:=fun e=>by have:=congrArg List.length e;simp at this;omega
   have hr:=AzY x p;have hw:=decodeL_width (x.drop p);have hle:=decodeL_le (x.drop p) hne;rw[List.length_drop]at hle;rw[tzh hne,List.drop_drop]at hv;simp only[ulen]at hv;rw[dT0 hlt,azd,hr];have step:∀us:List Int,us.length=(if((decodeL (x.drop p)).1:Int)<65536 then 1 else 2)->∃y,back (out++us,x,p+(decodeL (x.drop p)).2)=some y/\y.1.length=ulen (rs x):=fun us hus=>by
    refine hb _ ⟨_,_,rfl,?_,?_,?_⟩ (by simp only;omega)
    .simp only[List.length_append,hus];split<;>omega
    .rcases Nat.lt_or_ge (p+(decodeL (x.drop p)).2) x.length with h|h
     .exact .inl h
     .right;rw[List.drop_eq_nil_of_le h];rfl
    .simp only[List.length_append,hus];omega
   have hs:(if((decodeL (x.drop p)).1:Int)<65536 then 1 else 2)<=2:=by split<;>omega
   by_cases h6:((decodeL (x.drop p)).1:Int)<65536
   .rw[dT0 h6,azd,appN (by simp;omega),aza];exact step _ (by rw[if_pos h6];rfl)
   .rw[dF0 h6,azc,appN (by simp;omega),aza];exact step _ (by rw[if_neg h6];rfl)
  .rw[dF0 hlt,azc];rcases hp with h|h
   .exact absurd h hlt
   .rw[h]at hv;exact⟨_,rfl,by simpa[ulen]using hv⟩
 obtain⟨y,h1,h2⟩:=key;refine⟨y.1,?_,h2⟩;unfold kzH;rw[h1];rfl
theorem IzG {l:List Int}(hl:l.length<=4000000):∃us,iz8 l=some us/\us.length=ulen l:=by
 have key:∃y,nzW (l,[],0)=some y/\(y.length=ulen l):=by
  refine nzM (F:=gz0) (fun z=>l.length-z.2.2.toNat) (fun z=>∃(out:List Int) (i:Nat),z=(l,out,(i:Int))/\i<=l.length/\out.length<=2*i/\out.length+ulen (l.drop i)=ulen l) _ ?_ _ ⟨[],0,rfl,by omega,by simp,by simp⟩ (by simp only;omega);rintro back z ⟨out,i,rfl,hi,ho,hv⟩ hb;unfold gz0;simp only at hb ⊢;rcases Nat.lt_or_ge i l.length with hlt|hge
  .have hd:l.drop i=l[i]::l.drop (i+1):=List.drop_eq_getElem_cons hlt;rw[hd]at hv;simp only[ulen]at hv;rw[dT0 (by omega),azd,idxI (List.getElem?_eq_getElem hlt)];simp only[aza];generalize l[i]=r at *;rw[azG (n:=(i:Int)+1) (by omega) (by omega)];have step:∀us:List Int,us.length=(if r<65536 then 1 else 2)->∃y,back (l,out++us,(i:Int)+1)=some y/\y.length=ulen l:=fun us hus=>by
    refine hb _ ⟨_,i+1,by simp;rfl,by omega,?_,?_⟩ (by simp only;omega)
    .simp only[List.length_append,hus];split<;>omega
    .simp only[List.length_append,hus];omega
   by_cases h6:r<65536
   .rw[dT0 h6,azd,appN (by simp;omega),aza];exact step _ (by rw[if_pos h6];rfl)
   .rw[dF0 h6,azc,appN (by simp;omega),aza];exact step _ (by rw[if_neg h6];rfl)
  .rw[dF0 (by omega),azc];rw[List.drop_eq_nil_of_le hge]at hv;exact⟨_,rfl,by simpa[ulen]using hv⟩
 obtain⟨y,h1,h2⟩:=key;refine⟨y,?_,h2⟩;unfold iz8;rw[h1];rfl
def azW (x:List UInt8):Int×Int:=if validD x=true then(if 1000<ulen (rs x)then(0,4)else((ulen (rs x):Int),0))else(0,2)
theorem qzB {x:List UInt8}(hl:x.length<=100000000):iz3 x=some (azW x):=by
 unfold iz3 azW;rw[aza];cases hv:validD x with
 | false=>simp
 | true =>
  obtain⟨us,h1,h2⟩:=MzV hl;rw[Bool.not_true,azc,h1,aza,h2];by_cases h:1000<ulen (rs x)
  .rw[dT0 (by omega),azd];simp[h]
  .rw[dF0 (by omega),azc];simp[h]
theorem hzw {x:List UInt8}(hl:x.length<=4000000):hzu x=some (azW x):=by
 unfold hzu azW;rw[ozu (by omega),aza];cases hv:validD x with
 | false=>simp
 | true =>
  obtain⟨us,h1,h2⟩:=IzG (l:=rs x) (by have:=rzS x;omega);simp only[if_true,Bool.not_true,azc];rw[h1,aza,h2];by_cases h:1000<ulen (rs x)
  .rw[dT0 (by omega),azd,if_pos h]
  .rw[dF0 (by omega),azc,if_neg h]
open Go Go.Ev Go.Lib
theorem tzp {x:Val}(hl:x.S.length<=3000):∃e,qzv x=some e/\dzL x=some e/\(e=0->okV x):=by
 obtain⟨K,⟨M,S⟩,s,B,E⟩:=x;simp only at hl;unfold qzv dzL;simp only;by_cases k0:K<0
 .exact⟨1,by simp[k0],by simp[k0],by omega⟩
 by_cases k4:4<K
 .exact⟨1,by simp[k0,k4],by simp[k0,k4],by omega⟩
 rw[dF0 k0,dF0 k4];simp only[azc];have hK:K=0\/K=1\/K=2\/K=3\/K=4:=by omega
 have hun:=qzB (x:=s) (by omega);have hru:=hzw (x:=s) (by omega);obtain⟨n,hn⟩:=name_is E;have hn':qzU E=some n:=hn;rcases hK with rfl|rfl|rfl|rfl|rfl
 .unfold pze ezA;by_cases hM:M=0<;>by_cases hS:S=0<;>by_cases hs:s=[]<;>cases B<;>by_cases hE:E=0<;>simp[hM,hS,hs,hE,okV,vB]
 .unfold pze ezA;have hc:xzm ⟨M,S⟩=jzg ⟨M,S⟩:=rfl;rcases Lz2 ⟨M,S⟩with⟨h1,h2⟩|⟨e,h1,h2⟩
  .by_cases hs:s=[]<;>cases B<;>by_cases hE:E=0<;>simp[hs,hE,hc,h1,okV,vB,vN,vS,vT,vE,h2]
  .by_cases hs:s=[]<;>cases B<;>by_cases hE:E=0<;>simp[hs,hE,hc,h1,h2]
 .unfold pze ezA;by_cases hM:M=0<;>by_cases hS:S=0<;>cases B<;>by_cases hE:E=0<;>simp[hM,hS,hE,hun,hru,okV,vB,vN,vS,vT,vE];unfold azW;cases hv:validD s with
  | true=>simp
  | false=>simp
 .unfold pze ezA;by_cases hM:M=0<;>by_cases hS:S=0<;>by_cases hs:s=[]<;>cases B<;>by_cases hE:E=0<;>simp[hM,hS,hs,hE,okV,vB,vN,vS,vT,vE]
 .unfold pze ezA yzg;by_cases hn0:n=[]<;>by_cases hM:M=0<;>by_cases hS:S=0<;>by_cases hs:s=[]<;>cases B<;>simp[hM,hS,hs,hn,hn',hn0,okV,vB,vN,vS,vT,vE]
end Go.Proofs.YtkafbjodbjkieaaGreatDoor
/- PA -/
namespace Go.Proofs.YtkafbjodbjkieaaGreatDoor
open Go Go.Ev Go.Lib
open Go.IntKind (i64 u64 u8 i32 u32 i16 u16)
def fzR {A S Y:Type}(step:S->A->S⊕Y)(fin:S->Y):S->List A->Y
 | s,[]=>fin s
 | s,a::l=>match step s a with
  | .inl s'=>fzR step fin s' l
  | .inr y=>y
def rzn {S Y Z:Type}(b:S->Option Z)(g:Y->Z):S⊕Y->Option Z
 | .inl s=>b s
 | .inr y=>some (g y)
theorem bzV {A S X Y Z:Type}{F:(X->Option Z)->X->Option Z}(mk:S->Nat->X)(g:Y->Z)(l:List A)(step:S->A->S⊕Y)(fin:S->Y)(Pre:S->Nat->Prop)
 (hl:l.length<=1000000000)
 (h:∀back s i (hi:i<l.length),Pre s i->F back (mk s i)=rzn (fun s'=>back (mk s' (i+1))) g (step s l[i]))
 (hp:∀s i (hi:i<l.length) s',Pre s i->step s l[i] = .inl s'->Pre s' (i+1))
 (hend:∀back s,Pre s l.length->F back (mk s l.length)=some (g (fin s))) (s:S) (h0:Pre s 0):iter F big (mk s 0)=some (g (fzR step fin s l)):=by
 have key:∀k n i s,i+k=l.length->k<n->Pre s i->iter F n (mk s i)=some (g (fzR step fin s (l.drop i))):=by
  intro k;induction k with
  | zero =>
   intro n i s hi hn hs;obtain⟨m,rfl⟩:∃m,n=m+1:=⟨n-1,by omega⟩;have:i=l.length:=by omega
   subst this;rw[azw,hend _ _ hs,List.drop_length];rfl
  | succ k ih =>
   intro n i s hi hn hs;obtain⟨m,rfl⟩:∃m,n=m+1:=⟨n-1,by omega⟩;have hlt:i<l.length:=by omega
   rw[azw,h _ _ _ hlt hs,List.drop_eq_getElem_cons hlt];simp only[fzR];cases hst:step s l[i]with
   | inl s'=>exact ih m (i+1) s' (by omega) (by omega) (hp _ _ hlt _ hs hst)
   | inr y=>rfl
 have:=key l.length big 0 s (by omega) (by rw[bzH];omega) h0;simpa using this
theorem kzb {A X Z:Type}{F:(X->Option Z)->X->Option Z}(mk:Nat->X)(g:Option Nat->Z)(l:List A)(p:A->Bool)(hl:l.length<=1000000000)
 (h:∀back i (hi:i<l.length),F back (mk i)=bif p l[i]then some (g (some i))else back (mk (i+1)))
 (hend:∀back,F back (mk l.length)=some (g none)):iter F big (mk 0)=some (g (l.findIdx? p)):=by
 have key:∀k n i,i+k=l.length->k<n->iter F n (mk i)=some (g (((l.drop i).findIdx? p).map (·+i))):=by
  intro k;induction k with
  | zero =>
   intro n i hi hn;obtain⟨m,rfl⟩:∃m,n=m+1:=⟨n-1,by omega⟩;have:i=l.length:=by omega
   subst this;rw[azw,hend,List.drop_length];rfl
  | succ k ih =>
   intro n i hi hn;obtain⟨m,rfl⟩:∃m,n=m+1:=⟨n-1,by omega⟩;have hlt:i<l.length:=by omega
   rw[azw,h _ _ hlt,List.drop_eq_getElem_cons hlt,List.findIdx?_cons];cases hpl:p l[i]with
   | true=>simp
   | false =>
    simp only[cond_false];rw[ih m (i+1) (by omega) (by omega)];simp only[Bool.false_eq_true,if_false,Option.map_map];congr 3;funext j;simp only[Function.comp];omega
 have:=key l.length big 0 (by omega) (by rw[bzH];omega);simpa using this
theorem idxG {A:Type}{l:List A}{i:Nat}(hi:i<l.length):idx l (i:Int)=some l[i]:=by simp[idx,hi]
theorem wr1 {i:Nat}(h:i<1000000000):i64.wrap ((i:Int)+1)=((i+1:Nat):Int):=by
 simp[IntKind.wrap,IntKind.bits,IntKind.signed];omega
theorem ltT {i n:Nat}(h:i<n):decide ((i:Int)<(n:Int))=true:=dT0 (by omega)
theorem ltF {n:Nat}:decide ((n:Int)<(n:Int))=false:=dF0 (by omega)
theorem dzj {A S Y:Type}(f:S->A->S)(fin:S->Y):∀(l:List A) (s:S),fzR (fun s a=>.inl (f s a)) fin s l=fin (l.foldl f s)
 | [],_=>rfl
 | a::l,s=>by simp only[fzR,List.foldl_cons];exact dzj f fin l _
def sz:Nat->Expr->Nat
 | 0,_=>1
 | d+1,e=>1+(e.Kids.map (sz d)).sum
def tr:Nat->Expr->Prop
 | 0,_=>False
 | d+1,e=>e.V.S.length<=3000/\∀k∈e.Kids,tr d k
theorem Hzi:∀d e,1<=sz d e
 | 0,_=>Nat.le_refl _
 | d+1,e=>by unfold sz;omega
theorem Izc:∀(l:List Expr) (f:Expr->Nat),(∀k∈l,1<=f k)->l.length<=(l.map f).sum
 | [],_,_=>by simp
 | k::l,f,h=>by
  have h1:=Izc l f fun x hx=>h x (by simp[hx])
  have h2:=h k (by simp);rw[List.map_cons,List.sum_cons,List.length_cons];omega
theorem HzZ (d:Nat)(e:Expr):e.Kids.length+1<=sz (d+1) e:=by
 have:=Izc e.Kids (sz d) fun k _=>Hzi d k
 unfold sz;omega
theorem mem_sum:∀{l:List Expr} {f:Expr->Nat} {k:Expr},k∈l->f k<=(l.map f).sum
 | x::l,f,k,h=>by
  rw[List.map_cons,List.sum_cons];rcases List.mem_cons.1 h with rfl|h
  .omega
  .have:=mem_sum (f:=f) h;omega
theorem kid_sz {d:Nat}{e k:Expr}(h:k∈e.Kids):sz d k+1<=sz (d+1) e:=by
 have:=mem_sum (f:=sz d) h
 show sz d k+1<=1+(e.Kids.map (sz d)).sum
 omega
theorem KzN {self:Expr×Int×Int×Int->Option (Bool×Int)}{d m:Nat}{e:Expr}(hm:m<=1000)(hd:d<=1000)
 (hs:∀k∈e.Kids,∀n:Nat,n<=m->∃b n',self (k,(d:Int),(m:Int),(n:Int))=some (b,((n':Nat):Int))/\(b=true->n'<=m/\n+sz d k<=n'/\tr d k)) :
 ∀t N (n i:Nat),t<N->m<n+t->n<=m->i<=n->i<=e.Kids.length->∃r,iter (jz2 self) N (((d+1:Nat):Int),(m:Int),(n:Int),e,(i:Int))=some r /\
  (∀n',r = .inl ((),n')->∃n2:Nat,n'=n2/\n2<=m/\n+((e.Kids.drop i).map (sz d)).sum<=n2/\∀k∈e.Kids.drop i,tr d k)/\∀b n',r = .inr (b,n')->b=false/\∃n2:Nat,n'=n2
 | 0,_,n,i,_,h,h',_,_=>absurd h (by omega)
 | t+1,0,_,_,h,_,_,_,_=>absurd h (by omega)
 | t+1,N+1,n,i,hN,ht,hn,hin,hi=>by
  rw[azw];generalize hB:iter (jz2 self) N=B;unfold jz2;simp only[azj];by_cases hlt:i<e.Kids.length
  .rw[ltT hlt,azd,idxG hlt,aza,show((d+1:Nat):Int)-1=((d:Nat):Int) by omega,azG (by omega) (by omega)];obtain⟨b,n1,h1,h2⟩:=hs _ (List.getElem_mem hlt) n hn;rw[h1,aza];cases b with
   | false=>exact⟨_,rfl,(fun n' h=>by cases h),fun b n' h=>by cases h;exact⟨rfl,_,rfl⟩⟩
   | true =>
    obtain⟨h3,h4,h5⟩:=h2 rfl;have sp:=Hzi d e.Kids[i];simp only[Bool.not_true,azc];rw[wr1 (by omega)];obtain⟨r,e1,e2,e3⟩:=KzN hm hd hs t N n1 (i+1) (by omega) (by omega) h3 (by omega) hlt;rw[hB]at e1;refine⟨r,e1,fun n' h=>?_,e3⟩;obtain⟨n2,a1,a2,a3,a4⟩:=e2 n' h;rw[List.drop_eq_getElem_cons hlt];refine⟨n2,a1,a2,by rw[List.map_cons,List.sum_cons];omega,fun k hk=>?_⟩;rcases List.mem_cons.1 hk with rfl|hk
    .exact h5
    .exact a4 k hk
  .have hi:i=e.Kids.length:=by omega
   subst hi;rw[ltF,azc];refine⟨_,rfl,fun n' h=>?_,fun b n' h=>by cases h⟩;cases h;exact⟨n,rfl,hn,by simp,by simp⟩
theorem few_is:∀(d N:Nat) (e:Expr) (m n:Nat),d<N->d<=1000->m<=1000->n<=m->∃b n',iter fzT N (e,(d:Int),(m:Int),(n:Int))=some (b,((n':Nat):Int))/\(b=true->n'<=m/\n+sz d e<=n'/\tr d e)
 | _,0,_,_,_,h,_,_,_=>absurd h (by omega)
 | 0,N+1,e,m,n,_,_,hm,hn=>by
  rw[azw];unfold fzT;simp only;rw[wr1 (by omega)];exact⟨false,_,rfl,fun h=>by cases h⟩
 | d+1,N+1,e,m,n,hN,hd,hm,hn=>by
  rw[azw];generalize hS:iter fzT N=S;unfold fzT;simp only[azj];rw[wr1 (by omega),dF0 (show ¬((d+1:Nat):Int)=0 by omega),azc];by_cases h1:(m:Int)<((n+1:Nat):Int)
  .rw[dT0 h1];exact⟨false,_,rfl,fun h=>by cases h⟩
  rw[dF0 h1,azc];by_cases h2:3000<((e.V.S.length:Nat):Int)
  .rw[dT0 h2];exact⟨false,_,rfl,fun h=>by cases h⟩
  rw[dF0 h2,azc];obtain⟨r,e1,e2,e3⟩:=KzN (self:=S) (d:=d) (m:=m) (e:=e) hm (by omega)
   (fun k _ n hn=>by
    obtain⟨b,n',a1,a2⟩:=few_is d N k m n (by omega) (by omega) hm hn;rw[<-hS];exact⟨b,n',a1,a2⟩) (m+1) big (n+1) 0 (by rw[bzH];omega) (by omega) (by omega) (by omega) (by omega)
  rw[show rz4 S (((d+1:Nat):Int),(m:Int),((n+1:Nat):Int),e,0)=some r from e1,aza];rcases r with⟨_,n2⟩|⟨b,n2⟩
  .obtain⟨n3,rfl,a2,a3,a4⟩:=e2 n2 rfl;refine⟨true,n3,rfl,fun _=>⟨a2,?_,?_⟩⟩
   .show n+(1+(e.Kids.map (sz d)).sum)<=n3
    rw[List.drop_zero]at a3;omega
   .rw[List.drop_zero]at a4;exact⟨by omega,a4⟩
  .obtain⟨rfl,n3,rfl⟩:=e3 _ _ rfl;exact⟨false,n3,rfl,fun h=>by cases h⟩
theorem Few_is {e:Expr}{m:Nat}(hm:m<=1000):∃b,kzd (e,(m:Int))=some b/\(b=true->sz 40 e<=m/\tr 40 e):=by
 obtain⟨b,n,h1,h2⟩:=few_is 40 big e m 0 (by rw[bzH];omega) (by omega) hm (by omega);unfold kzd;simp only[azj];have h1:xzy (e,40,(m:Int),0)=some (b,(n:Int)):=h1;rw[h1,aza];exact⟨b,rfl,fun h=>by obtain⟨a1,a2,a3⟩:=h2 h;exact⟨by omega,a3⟩⟩
theorem nzA {d:Nat}{e k:Expr}(h:tr (d+1) e)(hk:k∈e.Kids):tr d k:=h.2 k hk
theorem lenK {d m:Nat}{e:Expr}(h:sz (d+1) e<=m):e.Kids.length<m:=by have:=HzZ d e;omega
theorem szK {d m:Nat}{e k:Expr}(h:sz (d+1) e<=m)(hk:k∈e.Kids):sz d k<=m:=by have:=kid_sz (d:=d) hk;omega
def okK (e:Expr):Prop:=1<=e.Kind/\e.Kind<=10/\(e.Kind=1->dzL e.V=some 0)/\(e.Kind=7->e.Kids.length=1)/\(e.Kind=8->e.Kids.length=2)/\(e.Kind=10->e.Kids.length=1)/\e.Kids.length<=30/\(2<=e.Kind->e.Kind<=5->cz9 e.A=some 0)
theorem b2_tot (x:Expr×Bool×Int×Bool×Bool×Int):∃b,lzi x=some b:=by
 unfold lzi
 repeat' apply ezZ
 all_goals exact⟨_,rfl⟩
theorem b3_tot (x:Expr×Bool):∃b,eze x=some b:=by
 unfold eze
 repeat' apply ezZ
 all_goals exact⟨_,rfl⟩
theorem Kzp (a:Area):∃b,cz9 a=some b:=by
 have h:∀r,∃b,izk r=some b:=fun r=>by
  have:∃g,fzb ⟨r.Row,r.Col⟩=some g:=by
   unfold fzb
   repeat' apply ezZ
   all_goals exact⟨_,rfl⟩
  obtain⟨g,hg⟩:=this;unfold izk;rw[hg,aza];exact ezZ ⟨_,rfl⟩ ⟨_,rfl⟩
 obtain⟨x,hx⟩:=h a.A;obtain⟨y,hy⟩:=h a.B;unfold cz9;rw[hx,aza,hy,aza];exact ezZ ⟨_,rfl⟩ ⟨_,rfl⟩
theorem b5_kids {e:Expr}{k lo hi:Int}{b:Bool}(h:czI (e,k,lo,hi)=some b)(hb:b=false):(0<k->e.Kids.length=k)/\e.Kids.length<=30:=by
 subst hb;unfold czI at h;by_cases h1:e.Op<lo
 .simp[h1]at h
 by_cases h2:hi<e.Op
 .simp[h1,h2]at h
 by_cases h3:0<k
 .by_cases h4:(e.Kids.length:Int)=k
  .simp[h1,h2,h3,h4]at h;exact⟨fun _=>h4,by omega⟩
  .simp[h1,h2,h3,h4]at h
 .simp[h1,h2,h3]at h;exact⟨fun c=>absurd c h3,by omega⟩
theorem b5_tot (x:Expr×Int×Int×Int):∃b,czI x=some b:=by
 unfold czI
 repeat' apply ezZ
 all_goals exact⟨_,rfl⟩
theorem tail_is (e:Expr)(s:Bool)(k:Int):∃r,(obnd (eze (e,s)) fun y=>brn y (some 1) (obnd (ezf (0,0,e.Kind)) fun y_4=>obnd (czI (e,k,y_4)) fun y=>brn y (some (1:Int)) (some 0)))=some r/\(r=0->(0<k->e.Kids.length=k)/\e.Kids.length<=30):=by
 obtain⟨b,hb⟩:=b3_tot (e,s);rw[hb,aza];cases b with
 | true=>exact⟨_,rfl,fun h=>by cases h⟩
 | false =>
  have:∃z,ezf (0,0,e.Kind)=some z:=by
   unfold ezf
   repeat' apply ezZ
   all_goals exact⟨_,rfl⟩
  obtain⟨z,hz⟩:=this;obtain⟨c,hc⟩:=b5_tot (e,k,z);rw[azc,hz,aza,hc,aza];cases c with
  | true=>exact⟨_,rfl,fun h=>by cases h⟩
  | false=>exact⟨_,rfl,fun _=>b5_kids hc rfl⟩
theorem Izf {e:Expr}(hl:e.V.S.length<=3000):∃r,fze e=some r/\(r=0->okK e):=by
 unfold fze;simp only[azj];unfold jzf;by_cases h1:e.Kind<1
 .rw[dT0 h1];exact⟨1,rfl,fun h=>by cases h⟩
 by_cases h2:10<e.Kind
 .rw[dF0 h1,dT0 h2];exact⟨1,rfl,fun h=>by cases h⟩
 rw[dF0 h1,dF0 h2];simp only[azc,aza];have hy:∃y,lzl e.Kind=some y/\(e.Kind=1->y.1=true)/\(e.Kind=7->y.2.2.2.2=1)/\(e.Kind=8->y.2.2.2.2=2)/\(e.Kind=10->y.2.2.2.2=1)/\(2<=e.Kind->e.Kind<=5->0<y.2.1):=by
  rcases(show e.Kind=1\/e.Kind=2\/e.Kind=3\/e.Kind=4\/e.Kind=5\/e.Kind=6\/e.Kind=7\/e.Kind=8\/e.Kind=9\/e.Kind=10 by omega)with h|h|h|h|h|h|h|h|h|h<;>rw[h]<;>exact⟨_,rfl,by decide,by decide,by decide,by decide,by decide⟩
 obtain⟨y,hs,k1,k7,k8,k10,kA⟩:=hy;rw[hs,aza];obtain⟨b,hb⟩:=b2_tot (e,y.1,y.2.1,y.2.2.1,y.2.2.2);rw[hb,aza];cases b with
 | true=>exact⟨_,rfl,fun h=>by cases h⟩
 | false =>
  rw[azc];obtain⟨t,ht,htk⟩:=tail_is e y.2.2.1 y.2.2.2.2;have ok:(e.Kind=1->dzL e.V=some 0)->(0<y.2.1->cz9 e.A=some 0)->t=0->okK e:=fun hv hA h0=>by
   obtain⟨a1,a2⟩:=htk h0;refine⟨by omega,by omega,hv,fun h=>?_,fun h=>?_,fun h=>?_,a2,fun b1 b2=>hA (kA b1 b2)⟩
   .have:=a1 (by rw[k7 h];omega);rw[k7 h]at this;omega
   .have:=a1 (by rw[k8 h];omega);rw[k8 h]at this;omega
   .have:=a1 (by rw[k10 h];omega);rw[k10 h]at this;omega
  obtain⟨g,hg⟩:=Kzp e.A;rw[hg,ht];cases hv:y.1 with
  | true =>
   obtain⟨c,_,hc,_⟩:=tzp hl;rw[azd,hc,aza];by_cases h0:c=0
   .subst h0;rw[dT0 rfl];simp only[Bool.not_true,azc];by_cases hk:e.V.Kind=0
    .rw[dT0 hk];exact⟨_,rfl,fun h=>by cases h⟩
    rw[dF0 hk,azc];by_cases hp:0<y.2.1
    .rw[dT0 hp,azd,aza];by_cases hgg:g=0
     .rw[dT0 hgg];exact⟨t,rfl,ok (fun _=>hc) fun _=>by rw[hg,hgg]⟩
     .rw[dF0 hgg];exact⟨_,rfl,fun h=>by cases h⟩
    .rw[dF0 hp];exact⟨t,rfl,ok (fun _=>hc) fun c=>absurd c hp⟩
   .rw[dF0 h0];exact⟨c,rfl,fun h=>absurd h h0⟩
  | false =>
   have nv:e.Kind=1->dzL e.V=some 0:=fun h=>by rw[k1 h]at hv;cases hv
   rw[azc];by_cases hp:0<y.2.1
   .rw[dT0 hp,azd,aza];by_cases hgg:g=0
    .rw[dT0 hgg];exact⟨t,rfl,ok nv fun _=>by rw[hg,hgg]⟩
    .rw[dF0 hgg];exact⟨_,rfl,fun h=>by cases h⟩
   .rw[dF0 hp];exact⟨t,rfl,ok nv fun c=>absurd c hp⟩
theorem cz7 {X Z:Type}{F:(X->Option Z)->X->Option Z}(mk:Nat->X)(n:Nat)(C:Nat->Prop)(Q:Z->Prop)(z0:Z)(hn:n<=1000000000)
 (h:∀back i,i<n->(F back (mk i)=back (mk (i+1))/\C i)\/∃z,F back (mk i)=some z/\Q z) (hend:∀back,F back (mk n)=some z0) :
 ∃z,iter F big (mk 0)=some z/\(Q z\/z=z0/\∀i,i<n->C i):=by
 have key:∀k N i,i+k=n->k<N->∃z,iter F N (mk i)=some z/\(Q z\/z=z0/\∀j,i<=j->j<n->C j):=by
  intro k;induction k with
  | zero =>
   intro N i hi hN;obtain⟨m,rfl⟩:∃m,N=m+1:=⟨N-1,by omega⟩;have:i=n:=by omega
   subst this;exact⟨z0,by rw[azw,hend],.inr ⟨rfl,fun j h1 h2=>absurd h2 (by omega)⟩⟩
  | succ k ih =>
   intro N i hi hN;obtain⟨m,rfl⟩:∃m,N=m+1:=⟨N-1,by omega⟩;rcases h (iter F m) i (by omega)with⟨h1,h2⟩|⟨z,h1,h2⟩
   .obtain⟨z,e1,e2⟩:=ih m (i+1) (by omega) (by omega);refine⟨z,by rw[azw,h1,e1],?_⟩;rcases e2 with e2|⟨hz,e2⟩
    .exact .inl e2
    .refine .inr ⟨hz,fun j a b=>?_⟩;by_cases c:j=i
     .rw[c];exact h2
     .exact e2 j (by omega) b
   .exact⟨z,by rw[azw,h1],.inl h2⟩
 obtain⟨z,e1,e2⟩:=key n big 0 (by omega) (by rw[bzH];omega);rcases e2 with e2|⟨hz,e2⟩
 .exact⟨z,e1,.inl e2⟩
 .exact⟨z,e1,.inr ⟨hz,fun j hj=>e2 j (by omega) hj⟩⟩
def pre:Nat->Int->Expr->List Node2
 | 0,_,_=>[]
 | d+1,k,e=>⟨e,k⟩::e.Kids.flatMap (pre d (k+1))
theorem BzI:∀(d:Nat) (k:Int) (e:Expr),tr d e->(pre d k e).length=sz d e
 | 0,_,_,h=>h.elim
 | d+1,k,e,h=>by
  have key:∀l:List Expr,(∀x∈l,tr d x)->(l.flatMap (pre d (k+1))).length=(l.map (sz d)).sum:=fun l=>by
   induction l with
   | nil=>intro _;rfl
   | cons x l ih =>
    intro h;rw[List.flatMap_cons,List.length_append,List.map_cons,List.sum_cons,BzI d (k+1) x (h x (by simp)),ih fun y hy=>h y (by simp[hy])]
  show(_::_:List Node2).length=1+_
  rw[List.length_cons,key e.Kids h.2];omega
theorem inbL {n k:Nat}(h:k<n)(h1:n<=1000000):inb n (i64.wrap ((((k+1:Nat):Int))-1))=some k:=by
 rw[azG (by omega) (by omega)];unfold inb;rw[dT0 (by omega),dT0 (by omega)];simp
theorem sub0 {A:Type}{zs:List A}{a:A}(h:zs.length<=1000000):sub (zs++[a]) 0 (i64.wrap ((((zs++[a]).length:Nat):Int)-1))=some zs:=by
 rw[List.length_append,List.length_singleton,azG (by omega) (by omega)];unfold sub;rw[dT0 (by omega),dT0 (by omega),dT0 (by simp;omega)];have:(((zs.length+1:Nat):Int)-1).toNat=zs.length:=by omega
 simp only[Bool.and_self,cond_true,this];simp
theorem FzL {e:Expr}{k:Int}{ks:List Expr}(hk:0<=k/\k<=1000):∀(l:List (Int×Expr)) (zs:List Node2),zs.length+l.length<=100000 ->
 jzx jz0 l (zs,(),⟨e,k⟩,ks)=some (zs++l.map (fun p=>⟨p.2,k+1⟩),(),⟨e,k⟩,ks)
 | [],zs,_=>by simp[jzx]
 | p::l,zs,h=>by
  simp only[List.length_cons]at h;have e1:jz0 p (zs,(),⟨e,k⟩,ks)=some (zs++[⟨p.2,k+1⟩],(),⟨e,k⟩,ks):=by
   unfold jz0;simp only[azj];rw[appN (by simp;omega),aza,azG (by omega) (by omega)]
  rw[jzx,e1,aza,FzL hk l _ (by simp;omega)];simp
theorem revs_kids {A:Type}(l:List A)(f:A->Node2):(revs l).map (fun p=>f p.2)=(l.map f).reverse:=by
 unfold revs;rw[List.map_reverse,List.map_map];congr 1;have:((fun p:Int×A=>f p.2) ∘ fun p:A×Nat=>((p.2:Int),p.1))=f ∘ Prod.fst:=rfl;rw[this,<-List.map_map,List.zipIdx_map_fst]
theorem kids_is {e:Expr}{k:Int}{zs:List Node2}(hk:0<=k/\k<=1000)(hz:zs.length+e.Kids.length<=100000):
 mzh (zs,(),⟨e,k⟩,e.Kids)=some (zs++(e.Kids.map fun x=>(⟨x,k+1⟩:Node2)).reverse,()):=by
 unfold mzh ozH rz3;have hl:(revs e.Kids).length=e.Kids.length:=by simp[revs]
 rw[FzL hk _ _ (by rw[hl];exact hz),aza,revs_kids e.Kids fun x=>⟨x,k+1⟩]
theorem step_is {e:Expr}{k:Int}{zs out:List Node2}{back:List Node2×List Node2×Unit->Option ((List Node2×List Node2)×Unit)}(hk:0<=k/\k<=1000)(hz:zs.length+e.Kids.length<=100000)(ho:out.length<=100000):
 izi back (zs++[⟨e,k⟩],out,())=obnd (back (zs++(e.Kids.map fun x=>(⟨x,k+1⟩:Node2)).reverse,out++[⟨e,k⟩],())) fun y=>some (y.1,()):=by
 unfold izi;simp only[azj];have hl1:(zs++[(⟨e,k⟩:Node2)]).length=zs.length+1:=by simp
 have e1:nth (zs++[(⟨e,k⟩:Node2)]) zs.length=some ⟨e,k⟩:=by unfold nth;simp
 have e2:sub (zs++[(⟨e,k⟩:Node2)]) 0 (i64.wrap (((zs.length+1:Nat):Int)-1))=some zs:=by
  have:=sub0 (zs:=zs) (a:=(⟨e,k⟩:Node2)) (by omega);rw[hl1]at this;exact this
 have e3:czy e.Kids=some e.Kids:=rfl;rw[dF0 (by rw[hl1];omega),azc,hl1,inbL (by omega) (by omega),aza,Nat.zero_add,e1,aza,e2,aza,appN (by simp;omega),aza];simp only;rw[e3,aza,kids_is hk hz,aza]
abbrev Pl:=Nat×Int×Expr
def ofP (p:Pl):Node2:=⟨p.2.2,p.2.1⟩
def okP (p:Pl):Prop:=tr p.1 p.2.2/\0<=p.2.1/\p.2.1+p.1<=1000
def tot (S:List Pl):Nat:=(S.map fun p=>sz p.1 p.2.2).sum
theorem JzF:∀(n N:Nat) (S:List Pl) (out:List Node2),tot S<=n->n<N->(∀p∈S,okP p)->out.length+n<=10000 ->
 iter izi N ((S.map ofP).reverse,out,())=some (([],out++S.flatMap fun p=>pre p.1 p.2.1 p.2.2),())
 | n,0,_,_,_,h,_,_=>by omega
 | n,N+1,[],out,_,_,_,_=>by
  rw[azw];unfold izi;simp
 | n,N+1,(0,k,e)::S,out,_,_,h,_=>False.elim (h (0,k,e) (by simp)).1
 | n,N+1,(d+1,k,e)::S,out,hn,hN,h,ho=>by
  obtain⟨ht,hk0,hk1⟩:=h (d+1,k,e) (by simp);simp only at ht hk0 hk1;have hS:S.length<=tot S:=by
   have:=Izc;clear hn hN h ho ht hk0 hk1;induction S with
   | nil=>simp[tot]
   | cons p S ih =>
    have:=Hzi p.1 p.2.2;simp only[tot,List.map_cons,List.sum_cons,List.length_cons]at ih ⊢;omega
  have ht0:tot ((d+1,k,e)::S)=sz (d+1) e+tot S:=by simp[tot]
  have hkz:=HzZ d e;rw[ht0]at hn;have hlen:((S.map ofP).reverse).length=S.length:=by simp
  have e0:(((d+1,k,e)::S).map ofP).reverse=(S.map ofP).reverse++[⟨e,k⟩]:=by simp[ofP]
  have e5:tot ((e.Kids.map fun x=>((d,k+1,x):Pl))++S)+1=sz (d+1) e+tot S:=by
   simp only[tot,List.map_append,List.sum_append,List.map_map]
   show _=1+(e.Kids.map (sz d)).sum+_
   have:((fun p:Pl=>sz p.1 p.2.2) ∘ fun x=>((d,k+1,x):Pl))=sz d:=rfl;rw[this];omega
  have ih:=JzF (n-1) N ((e.Kids.map fun x=>((d,k+1,x):Pl))++S) (out++[⟨e,k⟩]) (by omega) (by omega) (fun p hp=>by
   rcases List.mem_append.1 hp with hp|hp
   .obtain⟨x,hx,rfl⟩:=List.mem_map.1 hp;exact⟨ht.2 x hx,by simp only;omega,by simp only;omega⟩
   .exact h p (by simp[hp])) (by simp;omega)
  have e4:(S.map ofP).reverse++(e.Kids.map fun x=>(⟨x,k+1⟩:Node2)).reverse=(((e.Kids.map fun x=>((d,k+1,x):Pl))++S).map ofP).reverse:=by
   rw[List.map_append,List.reverse_append,List.map_map];rfl
  rw[e0,azw,step_is ⟨hk0,by omega⟩ (by omega) (by omega),e4,ih,aza];rw[List.flatMap_append,List.flatMap_cons,List.append_assoc];have:((e.Kids.map fun x=>((d,k+1,x):Pl)).flatMap fun p=>pre p.1 p.2.1 p.2.2)=e.Kids.flatMap (pre d (k+1)):=by
   rw[List.flatMap_map]
  rw[this];simp[pre]
theorem Ez5 {e:Expr}(hs:sz 40 e<=1000)(ht:tr 40 e):nzI e=some (pre 40 1 e):=by
 have hkz:e.Kids.length+1<=sz 40 e:=HzZ 39 e;have e5:tot (e.Kids.map fun x=>((39,2,x):Pl))+1=sz 40 e:=by
  simp only[tot,List.map_map]
  show _=1+(e.Kids.map (sz 39)).sum
  have:((fun p:Pl=>sz p.1 p.2.2) ∘ fun x=>((39,2,x):Pl))=sz 39:=rfl;rw[this];omega
 have hw:=JzF 1000 big (e.Kids.map fun x=>((39,2,x):Pl)) [⟨e,1⟩] (by omega) (by rw[bzH];omega) (fun p hp=>by
  obtain⟨x,hx,rfl⟩:=List.mem_map.1 hp;exact⟨ht.2 x hx,by simp,by simp⟩) (by simp)
 have key:ozI e=some (.inr (pre 40 1 e)):=by
  have e4:(e.Kids.map fun x=>(⟨x,1+1⟩:Node2)).reverse=((e.Kids.map fun x=>((39,2,x):Pl)).map ofP).reverse:=by
   rw[List.map_map];rfl
  unfold ozI;simp only[azj];have a1:inb [(⟨e,1⟩:Node2)].length (i64.wrap ((([(⟨e,1⟩:Node2)].length:Nat):Int)-1))=some 0:=rfl;have a2:sub [(⟨e,1⟩:Node2)] 0 (i64.wrap ((([(⟨e,1⟩:Node2)].length:Nat):Int)-1))=some []:=rfl;have a3:nth [(⟨e,1⟩:Node2)] (0+0)=some ⟨e,1⟩:=rfl;have a4:czy e.Kids=some e.Kids:=rfl;rw[a1,aza,a3,aza,a2,aza,appN (by simp),aza,a4,aza,kids_is (by simp) (by simp;omega),aza];simp only[List.nil_append];rw[e4]
  show obnd (iter izi big _) _=_
  rw[hw,aza];have:((e.Kids.map fun x=>((39,2,x):Pl)).flatMap fun p=>pre p.1 p.2.1 p.2.2)=e.Kids.flatMap (pre 39 2):=by
   rw[List.flatMap_map]
  rw[this];rfl
 unfold nzI;rw[azj,key];rfl
theorem brnA (b c:Bool):brn b (some c) (some false)=some (b&&c):=by cases b<;>rfl
theorem brnO (b c:Bool):brn b (some true) (some c)=some (b||c):=by cases b<;>rfl
theorem brnN {α:Type}(b:Bool)(x y:Option α):brn (!b) x y=brn b y x:=by cases b<;>rfl
theorem obndB {α β:Type}(b:Bool)(x y:Option α)(f:α->Option β):obnd (brn b x y) f=brn b (obnd x f) (obnd y f):=by cases b<;>rfl
theorem brnI {α:Type}(b:Bool)(x y:α):brn b x y=if b=true then x else y:=by cases b<;>rfl
theorem goodE (x:Cell):lzP x=fzb x:=rfl
def gd (x:Ref):Bool:=decide (0<=x.Row)&&(decide (x.Row<65536)&&(decide (0<=x.Col)&&decide (x.Col<256)))
theorem rzv (x:Ref):nzX x=some (bif gd x then 0 else 12):=by
 unfold nzX lzP gd;simp only[brnA,aza];rw[brnN];cases(decide (0<=x.Row)&&(decide (x.Row<65536)&&(decide (0<=x.Col)&&decide (x.Col<256))))<;>rfl
theorem Kzo (a:Area):lzD a=some (bif gd a.A&&gd a.B then 0 else 12):=by
 unfold lzD;rw[rzv,rzv];cases gd a.A<;>cases gd a.B<;>rfl
theorem vzT (a:Area):cz9 a=some (bif gd a.A&&gd a.B then 0 else 12):=by
 unfold cz9;have h:∀x,izk x=nzX x:=fun _=>rfl
 rw[h,h,rzv,rzv];cases gd a.A<;>cases gd a.B<;>rfl
theorem part_eq {e:Expr}(hl:e.V.S.length<=3000):pzH e=fze e:=by
 obtain⟨c,hc1,hc2,_⟩:=tzp hl;obtain⟨K,V,⟨⟨a1,a2,a3,a4⟩,⟨b1,b2,b3,b4⟩⟩,Sh,Op,Kids⟩:=e;simp only at hc1 hc2;unfold pzH fze dz3 jzf;simp only[azj,hc1,hc2,Kzo,vzT];by_cases k0:K<1
 .simp[k0,show ¬1<=K by omega]
 by_cases k1:10<K
 .simp[k0,k1,show 1<=K by omega,show ¬K<=10 by omega]
 have hK:K=1\/K=2\/K=3\/K=4\/K=5\/K=6\/K=7\/K=8\/K=9\/K=10:=by omega
 have hz:gd ⟨0,0,false,false⟩=true:=rfl;obtain⟨vk,⟨vm,vs⟩,vt,vb,ve⟩:=V;rcases hK with rfl|rfl|rfl|rfl|rfl|rfl|rfl|rfl|rfl|rfl
 all_goals
  simp (config:={decide:=false}) only[vzi,zzN,azj,lzl,lzi,eze,ezf,czI,pzG,dz3,aza,azd,azc,brnA,Int.reduceEq,Int.reduceLT,Int.reduceLE,decide_true,decide_false,cond_true,cond_false,Bool.not_true,Bool.not_false,Bool.and_true,Bool.true_and,Bool.and_false,Bool.false_and,List.length_nil,Int.ofNat_zero,obndB];simp only[brnI]
  grind
def mx (l:List Int):Int:=l.foldl (fun s n=>if s<n then n else s) 0
theorem mx_is:∀(l:List Int) (s:Int),(∀m,m<l.foldl (fun s n=>if s<n then n else s) s↔m<s\/∃n∈l,m<n)
 | [],s,m=>by simp
 | a::l,s,m=>by
  rw[List.foldl_cons,mx_is l _ m];by_cases c:s<a
  .rw[if_pos c];simp only[List.mem_cons,exists_eq_or_imp];constructor
   .rintro(h|h)
    .exact .inr (.inl h)
    .exact .inr (.inr h)
   .rintro(h|h|h)
    .exact .inl (by omega)
    .exact .inl h
    .exact .inr h
  .rw[if_neg c];simp only[List.mem_cons,exists_eq_or_imp];constructor
   .rintro(h|h)
    .exact .inl h
    .exact .inr (.inr h)
   .rintro(h|h|h)
    .exact .inl h
    .exact .inl (by omega)
    .exact .inr h
def dp:Nat->Expr->Int
 | 0,_=>0
 | d+1,e=>mx (e.Kids.map (dp d))+1
theorem dp_le:∀(d:Nat) (e:Expr),0<=dp d e/\dp d e<=d
 | 0,_=>by simp[dp]
 | d+1,e=>by
  have h:=mx_is (e.Kids.map (dp d)) 0;have h1:=h (-1);have h2:=h d;simp only[dp,mx];constructor
  .have:=h1.2 (.inl (by omega));omega
  .have:¬((d:Int)<(e.Kids.map (dp d)).foldl (fun s n=>if s<n then n else s) 0):=fun c=>by
    rcases h2.1 c with c|⟨n,hn,c⟩
    .omega
    .obtain⟨k,_,rfl⟩:=List.mem_map.1 hn;have:=(dp_le d k).2;omega
   omega
theorem KzD:∀(d N:Nat) (e:Expr),d<N->sz d e<=1000->d<=1000->tr d e->iter lzf N e=some (dp d e)
 | _,0,_,h,_,_,_=>absurd h (by omega)
 | 0,_,_,_,_,_,h=>h.elim
 | d+1,N+1,e,hN,hs,hd,ht=>by
  have hl:=lenK hs;have hk:∀k∈e.Kids,iter lzf N k=some (dp d k):=fun k hk=>KzD d N k (by omega) (szK hs hk) (by omega) (nzA ht hk)
  rw[azw];generalize iter lzf N=S at hk;unfold lzf;rw[azj];have:=bzV (F:=kzj S) (fun(s:Int) (i:Nat)=>(e,s,(i:Int))) id e.Kids (fun s k=>.inl (if s<dp d k then dp d k else s)) id (fun _ _=>True) (by omega)
   (fun back s i hi _=>by
    unfold kzj;simp only[azj];rw[ltT hi,azd,idxG hi,aza,hk _ (List.getElem_mem hi),aza,wr1 (by omega)];by_cases c:s<dp d e.Kids[i]
    .rw[dT0 c,if_pos c];rfl
    .rw[dF0 c,if_neg c];rfl)
   (fun _ _ _ _ _ _=>trivial)
   (fun back s _=>by
    unfold kzj;simp only;rw[ltF,azc];rfl) 0 trivial
  have hb:=dp_le (d+1) e;rw[show pz4 S (e,0,0)=_ from this,aza,dzj];have e1:e.Kids.foldl (fun s k=>if s<dp d k then dp d k else s) 0=mx (e.Kids.map (dp d)):=by rw[mx,List.foldl_map]
  rw[e1];simp only[id];rw[azG (by simp only[dp]at hb;omega) (by simp only[dp]at hb;omega)];rfl
theorem KzA:∀(d N:Nat) (e:Expr),d<N->sz d e<=1000->tr d e->iter lzd N e=some (sz d e:Int)
 | _,0,_,h,_,_=>absurd h (by omega)
 | 0,_,_,_,_,h=>h.elim
 | d+1,N+1,e,hN,hs,ht=>by
  have hl:=lenK hs;have hk:∀k∈e.Kids,iter lzd N k=some (sz d k:Int):=fun k hk=>KzA d N k (by omega) (szK hs hk) (nzA ht hk)
  rw[azw];generalize iter lzd N=S at hk;unfold lzd;rw[azj];have hsum:∀i,i<=e.Kids.length->((e.Kids.take i).map (sz d)).sum<=(e.Kids.map (sz d)).sum:=fun i _=>by
   conv=>rhs;rw[<-List.take_append_drop i e.Kids,List.map_append,List.sum_append]
   omega
  have hsz:sz (d+1) e=1+(e.Kids.map (sz d)).sum:=rfl;have:=bzV (F:=kzi S) (fun(s:Nat) (i:Nat)=>(e,(s:Int),(i:Int))) id e.Kids (fun(s:Nat) k=>(.inl (s+sz d k):Nat⊕Int)) (fun s=>(s:Int)) (fun s i=>s=1+((e.Kids.take i).map (sz d)).sum) (by omega)
   (fun back s i hi hp=>by
    unfold kzi;simp only[azj];have h1:=hsum (i+1) hi;rw[List.take_succ_eq_append_getElem hi,List.map_append,List.sum_append]at h1;simp only[List.map_cons,List.map_nil,List.sum_cons,List.sum_nil]at h1;rw[ltT hi,azd,idxG hi,aza,hk _ (List.getElem_mem hi),aza,wr1 (by omega),azG (by omega) (by omega)];simp[rzn])
   (fun s i hi s' hp hs=>by
    simp only[Sum.inl.injEq]at hs;rw[List.take_succ_eq_append_getElem hi,List.map_append,List.sum_append];simp only[List.map_cons,List.map_nil,List.sum_cons,List.sum_nil];omega)
   (fun back s _=>by
    unfold kzi;simp only;rw[ltF,azc];rfl) 1 (by simp)
  rw[show pz3 S (e,1,0)=_ from this,aza,dzj];have e1:∀(l:List Expr) (s:Nat),l.foldl (fun s k=>s+sz d k) s=s+(l.map (sz d)).sum:=fun l=>by
   induction l with
   | nil=>intro s;rfl
   | cons a l ih=>intro s;rw[List.foldl_cons,ih,List.map_cons,List.sum_cons];omega
  rw[e1,hsz];rfl
def fb (f:Expr->Int):List Expr->Int
 | []=>0
 | e::l=>if f e=0 then fb f l else f e
theorem fb_app (f:Expr->Int):∀(l m:List Expr),fb f (l++m)=if fb f l=0 then fb f m else fb f l
 | [],m=>by simp[fb]
 | e::l,m=>by
  simp only[List.cons_append,fb,fb_app f l m];by_cases c:f e=0
  .simp[c]
  .simp[c]
def nd (e:Expr):Int:=(fze e).getD 0
theorem Lzn:∀(d N:Nat) (k:Int) (e:Expr),d<N->sz d e<=1000->tr d e->iter lzj N e=some (fb nd ((pre d k e).map (·.e)))
 | _,0,_,_,h,_,_=>absurd h (by omega)
 | 0,_,_,_,_,_,h=>h.elim
 | d+1,N+1,k,e,hN,hs,ht=>by
  have hl:=lenK hs;have hk:∀x∈e.Kids,iter lzj N x=some (fb nd ((pre d (k+1) x).map (·.e))):=fun x hx=>Lzn d N (k+1) x (by omega) (szK hs hx) (nzA ht hx)
  rw[azw];generalize iter lzj N=S at hk;obtain⟨n0,hn0,_⟩:=Izf ht.1;have hnd:nd e=n0:=by unfold nd;rw[hn0];rfl
  unfold lzj;rw[azj,hn0,aza];have:=bzV (F:=kzl S) (fun(s:Int) (i:Nat)=>(e,s,(i:Int))) id e.Kids (fun(s:Int) x=>if s=0 then(.inl (fb nd ((pre d (k+1) x).map (·.e))):Int⊕Int)else .inr s) id (fun _ _=>True) (by omega)
   (fun back s i hi _=>by
    unfold kzl;simp only[azj];rw[ltT hi,azd,idxG hi,aza,hk _ (List.getElem_mem hi),aza,wr1 (by omega)];by_cases c:s=0
    .rw[dT0 c,if_pos c];rfl
    .rw[dF0 c,if_neg c];rfl)
   (fun _ _ _ _ _ _=>trivial)
   (fun back s _=>by
    unfold kzl;simp only;rw[ltF,azc];rfl) n0 trivial
  rw[show pz6 S (e,n0,0)=_ from this,aza];have key:∀(l:List Expr) (s:Int),fzR (fun(s:Int) x=>if s=0 then(.inl (fb nd ((pre d (k+1) x).map (·.e))):Int⊕Int)else .inr s) id s l=if s=0 then fb nd ((l.flatMap (pre d (k+1))).map (·.e))else s:=fun l=>by
   induction l with
   | nil=>intro s;by_cases c:s=0<;>simp[fzR,c,fb]
   | cons a l ih =>
    intro s;simp only[fzR];by_cases c:s=0
    .rw[if_pos c,if_pos c];simp only;rw[ih,List.flatMap_cons,List.map_append,fb_app]
    .rw[if_neg c,if_neg c]
  rw[key];simp only[pre,List.map_cons,fb,hnd,id]
theorem HzE:∀(d:Nat) (k m:Int) (e:Expr),tr d e->((∃x∈pre d k e,m<x.deep)↔m<k+dp d e-1)
 | 0,_,_,_,h=>h.elim
 | d+1,k,m,e,h=>by
  have hm:=mx_is (e.Kids.map (dp d)) 0 (m-k);have hd:=(dp_le (d+1) e).1;simp only[pre,List.mem_cons,List.mem_flatMap,dp,mx];constructor
  .rintro⟨x,rfl|⟨y,hy,hx⟩,hlt⟩
   .simp only at hlt;have:=hm.2 (.inl (by omega));omega
   .have:=(HzE d (k+1) m y (h.2 y hy)).1 ⟨x,hx,hlt⟩;have:=hm.2 (.inr ⟨dp d y,List.mem_map.2 ⟨y,hy,rfl⟩,by omega⟩);omega
  .intro hlt;rcases hm.1 (by omega)with c|⟨n,hn,c⟩
   .exact⟨_,.inl rfl,by simp only;omega⟩
   .obtain⟨y,hy,rfl⟩:=List.mem_map.1 hn;obtain⟨x,hx,hlt⟩:=(HzE d (k+1) m y (h.2 y hy)).2 (by omega);exact⟨x,.inr ⟨y,hy,hx⟩,hlt⟩
theorem pre_txt:∀(d:Nat) (k:Int) (e:Expr),tr d e->∀x∈pre d k e,x.e.V.S.length<=3000
 | 0,_,_,h=>h.elim
 | d+1,k,e,h=>fun x hx=>by
  simp only[pre,List.mem_cons,List.mem_flatMap]at hx;rcases hx with rfl|⟨y,hy,hx⟩
  .exact h.1
  .exact pre_txt d (k+1) y (h.2 y hy) x hx
theorem nd_is {e:Expr}(h:e.V.S.length<=3000):pzH e=some (nd e)/\fze e=some (nd e):=by
 obtain⟨r,hr,_⟩:=Izf h;have:nd e=r:=by unfold nd;rw[hr];rfl
 rw[part_eq h,hr,this];exact⟨rfl,rfl⟩
theorem deep_find {l:List Node2}(hl:l.length<=1000000):bzU (l,())=some (l.any fun x=>decide (16<x.deep)):=by
 have:=kzb (F:=bzl) (fun i:Nat=>(l,(),(l.length:Int),(i:Int))) (fun o=>match o with|none=>(.inl ():Unit⊕Int)|some i=>.inr (i:Int)) l (fun x=>decide (16<x.deep)) (by omega)
  (fun back i hi=>by
   unfold bzl;simp only[azj];rw[ltT hi,azd,idxG hi,aza,wr1 (by omega)]
   show obnd (some (decide (16<l[i].deep))) _=_
   rw[aza];cases decide (16<l[i].deep)<;>rfl)
  (fun back=>by
   unfold bzl;simp only;rw[ltF];rfl)
 unfold bzU czS;rw[show czF (l,(),(l.length:Int),0)=_ from this];have ha:=List.findIdx?_isSome (xs:=l) (p:=fun x=>decide (16<x.deep));cases hf:l.findIdx? fun x=>decide (16<x.deep)with
 | none=>rw[hf]at ha;rw[<-ha];rfl
 | some i=>rw[hf]at ha;rw[<-ha];simp[osum]
theorem NzF {l:List Node2}(hl:l.length<=1000000)(ht:∀x∈l,x.e.V.S.length<=3000):(obnd (nzH (l,(l.length:Int),0)) fun y=>osum y (fun _=>some 0) fun y=>some y)=some (fb nd (l.map (·.e))):=by
 have:=bzV (F:=kz7) (fun(_:Unit) (i:Nat)=>(l,(l.length:Int),(i:Int))) id l (fun(_:Unit) x=>if nd x.e=0 then(.inl ():Unit⊕(Unit⊕Int))else .inr (.inr (nd x.e))) (fun _=>.inl ()) (fun _ _=>True) (by omega)
  (fun back s i hi _=>by
   unfold kz7;simp only[azj];rw[ltT hi,azd,idxG hi,aza,(nd_is (ht _ (List.getElem_mem hi))).1,aza,wr1 (by omega)];by_cases c:nd l[i].e=0
   .rw[dT0 c,if_pos c];rfl
   .rw[dF0 c,if_neg c];rfl)
  (fun _ _ _ _ _ _=>trivial)
  (fun back s _=>by
   unfold kz7;simp only;rw[ltF];rfl) () trivial
 rw[show nzH (l,(l.length:Int),0)=_ from this,aza];clear this hl ht;induction l with
 | nil=>rfl
 | cons x l ih =>
  simp only[fzR,List.map_cons,fb];by_cases c:nd x.e=0
  .rw[if_pos c,if_pos c];exact ih
  .rw[if_neg c,if_neg c];rfl
def ck (e:Expr):Int:=if 16<dp 40 e then 11 else if 1024<sz 40 e then 4 else fb nd ((pre 40 1 e).map (·.e))
theorem KzK {e:Expr}(hs:sz 40 e<=1000)(ht:tr 40 e):rzp e=some (ck e):=by
 unfold rzp ck;have hl:=BzI 40 1 e ht;rw[azj,Ez5 hs ht,aza,deep_find (by omega),aza,NzF (by omega) (pre_txt 40 1 e ht),hl];have hd:=HzE 40 1 16 e ht;by_cases c:16<dp 40 e
 .have:((pre 40 1 e).any fun x=>decide (16<x.deep))=true:=List.any_eq_true.2 (by
   obtain⟨x,hx,h⟩:=hd.2 (by omega);exact⟨x,hx,by simp[h]⟩)
  rw[this,if_pos c];rfl
 .have:((pre 40 1 e).any fun x=>decide (16<x.deep))=false:=by
   cases h:(pre 40 1 e).any fun x=>decide (16<x.deep)with
   | false=>rfl
   | true =>
    obtain⟨x,hx,h⟩:=List.any_eq_true.1 h;have:=hd.1 ⟨x,hx,by simpa using h⟩;omega
  rw[this,if_neg c,azc];by_cases c2:1024<sz 40 e
  .rw[if_pos c2,dT0 (by omega)];rfl
  .rw[if_neg c2,dF0 (by omega)];rfl
theorem Kzy {e:Expr}(hs:sz 40 e<=1000)(ht:tr 40 e):lzY e=some (ck e):=by
 unfold lzY ck;simp only[azj];rw[show tzS e=_ from KzD 40 big e (by rw[bzH];omega) hs (by omega) ht,show tzR e=_ from KzA 40 big e (by rw[bzH];omega) hs ht,show tzT e=_ from Lzn 40 big 1 e (by rw[bzH];omega) hs ht,aza];by_cases c:16<dp 40 e
 .rw[if_pos c,dT0 c];rfl
 .rw[if_neg c,dF0 c,azc,aza];by_cases c2:1024<sz 40 e
  .rw[if_pos c2,dT0 (by omega)];rfl
  .rw[if_neg c2,dF0 (by omega)];rfl
def rf:Nat->Expr->List Expr
 | 0,_=>[]
 | d+1,e=>if 2<=e.Kind/\e.Kind<=6 then [e]else e.Kids.flatMap (rf d)
theorem wzM:∀(d:Nat) (e:Expr),(rf d e).length<=sz d e
 | 0,_=>by simp[rf]
 | d+1,e=>by
  unfold rf;split
  .exact Hzi _ _
  .have key:∀l:List Expr,(l.flatMap (rf d)).length<=(l.map (sz d)).sum:=fun l=>by
    induction l with
    | nil=>simp
    | cons a l ih=>rw[List.flatMap_cons,List.length_append,List.map_cons,List.sum_cons];have:=wzM d a;omega
   have:=key e.Kids
   show _<=1+(e.Kids.map (sz d)).sum
   omega
theorem rf_take {d:Nat}{e:Expr}(i:Nat):((e.Kids.take i).flatMap (rf d)).length<=sz (d+1) e:=by
 have key:∀l:List Expr,(l.flatMap (rf d)).length<=(l.map (sz d)).sum:=fun l=>by
  induction l with
  | nil=>simp
  | cons a l ih=>rw[List.flatMap_cons,List.length_append,List.map_cons,List.sum_cons];have:=wzM d a;omega
 have h1:=key (e.Kids.take i);have h2:((e.Kids.take i).map (sz d)).sum<=(e.Kids.map (sz d)).sum:=by
  conv=>rhs;rw[<-List.take_append_drop i e.Kids,List.map_append,List.sum_append]
  omega
 show _<=1+(e.Kids.map (sz d)).sum
 omega
theorem kzc {A B:Type}(f:A->List B):∀(l:List A) (s:List B),l.foldl (fun s a=>s++f a) s=s++l.flatMap f
 | [],s=>by simp
 | a::l,s=>by rw[List.foldl_cons,kzc f l,List.flatMap_cons,List.append_assoc]
theorem refs_is:∀(d N:Nat) (e:Expr),d<N->sz d e<=1000->tr d e->iter fzP N e=some (rf d e)/\iter fzc N e=some (rf d e)
 | _,0,_,h,_,_=>absurd h (by omega)
 | 0,_,_,_,_,h=>h.elim
 | d+1,N+1,e,hN,hs,ht=>by
  have hl:=lenK hs;have hk:∀x∈e.Kids,iter fzP N x=some (rf d x)/\iter fzc N x=some (rf d x):=fun x hx=>refs_is d N x (by omega) (szK hs hx) (nzA ht hx)
  rw[azw,azw];generalize iter fzP N=S at hk;generalize iter fzc N=S' at hk;have step:∀i (hi:i<e.Kids.length) (s:List Expr),s=(e.Kids.take i).flatMap (rf d)->app 152 s (rf d e.Kids[i])=some (s++rf d e.Kids[i]):=fun i hi s hs'=>by
   have h1:=rf_take (d:=d) (e:=e) i;have h2:=wzM d e.Kids[i];have h3:=szK hs (List.getElem_mem hi);exact appN (by rw[hs'];omega)
  have nxt:∀(s:List Expr) i (hi:i<e.Kids.length) (s':List Expr),s=(e.Kids.take i).flatMap (rf d)->(.inl (s++rf d e.Kids[i]):List Expr⊕List Expr) = .inl s'->s'=(e.Kids.take (i+1)).flatMap (rf d):=fun s i hi s' h1 h2=>by
   injection h2 with h2;rw[<-h2,h1,List.take_succ_eq_append_getElem hi,List.flatMap_append];simp
  have p1:=bzV (F:=jzZ S) (fun(s:List Expr) (i:Nat)=>(s,e.Kids,(e.Kids.length:Int),(i:Int))) id e.Kids (fun s x=>(.inl (s++rf d x):List Expr⊕List Expr)) id (fun s i=>s=(e.Kids.take i).flatMap (rf d)) (by omega)
   (fun back s i hi hp=>by
    unfold jzZ;simp only[azj];rw[ltT hi,azd,idxG hi,aza,(hk _ (List.getElem_mem hi)).1,aza,step i hi s hp,aza,wr1 (by omega)];rfl)
   nxt
   (fun back s _=>by
    unfold jzZ;simp only;rw[ltF];rfl) [] (by simp)
  have p2:=bzV (F:=jzd S') (fun(s:List Expr) (i:Nat)=>(e,s,(i:Int))) id e.Kids (fun s x=>(.inl (s++rf d x):List Expr⊕List Expr)) id (fun s i=>s=(e.Kids.take i).flatMap (rf d)) (by omega)
   (fun back s i hi hp=>by
    unfold jzd;simp only[azj];rw[ltT hi,azd,idxG hi,aza,(hk _ (List.getElem_mem hi)).2,aza,step i hi s hp,aza,wr1 (by omega)];rfl)
   nxt
   (fun back s _=>by
    unfold jzd;simp only;rw[ltF];rfl) [] (by simp)
  rw[dzj,kzc]at p1 p2;unfold fzP fzc dz3;rw[azj,show rz2 S ([],e.Kids,(e.Kids.length:Int),0)=_ from p1,show nzN S' (e,[],0)=_ from p2];unfold rf;by_cases c:2<=e.Kind<;>by_cases c2:e.Kind<=6<;>simp[c,c2]
theorem vzh {e:Expr}(hs:sz 40 e<=1000)(ht:tr 40 e):xzp e=some (rf 40 e)/\vzt e=some (rf 40 e):=refs_is 40 big e (by rw[bzH];omega) hs ht
theorem to_tot:∀(d N:Nat) (e:Expr),d<N->sz d e<=1000->tr d e->iter pzn N e=some e
 | _,0,_,h,_,_=>absurd h (by omega)
 | 0,_,_,_,_,h=>h.elim
 | d+1,N+1,e,hN,hs,ht=>by
  have hl:=lenK hs;have hk:∀k∈e.Kids,iter pzn N k=some k:=fun k hk=>to_tot d N k (by omega) (szK hs hk) (nzA ht hk)
  rw[azw];generalize iter pzn N=S at hk;have this:=bzV (F:=nzc S) (fun(s:List Expr) (i:Nat)=>(s,e,(⟨e.Kind,e.V,e.A,e.Sheet,e.Op,s⟩:Expr),(i:Int))) (fun s:List Expr=>(s,(⟨e.Kind,e.V,e.A,e.Sheet,e.Op,s⟩:Expr))) e.Kids (fun(s:List Expr) k=>(.inl (s++[k]):List Expr⊕List Expr)) id (fun s i=>s.length=i) (by omega)
   (fun back s i hi hp=>by
    unfold nzc;simp only[azj];rw[ltT hi,azd,idxG hi,aza,hk _ (List.getElem_mem hi),aza,appN (by simp only[List.length_singleton];omega),aza,wr1 (by omega)];rfl)
   (fun s i hi s' hp h=>by cases h;simp[hp])
   (fun back s _=>by
    unfold nzc;simp only;rw[ltF,azc];rfl) [] rfl
  rw[dzj]at this;have hf:∀(m s:List Expr),m.foldl (fun s c=>s++[c]) s=s++m:=by
   intro m;induction m with
   | nil=>intro s;simp
   | cons v m ih=>intro s;rw[List.foldl_cons,ih];simp
  rw[id,hf,List.nil_append]at this;unfold pzn;simp only[azj];rw[show tzG e.V=some e.V from rfl,show tzF e.A=some e.A from rfl,aza,aza,show tzA S ([],e,⟨e.Kind,e.V,e.A,e.Sheet,e.Op,[]⟩,0)=_ from this,aza];cases e;rfl
theorem toE {e:Expr}(hs:sz 40 e<=1000)(ht:tr 40 e):rzJ e=some e:=to_tot 40 big e (by rw[bzH];omega) hs ht
theorem pzh {A X Z:Type}{F:(X->Option Z)->X->Option Z}(mk:List A->Nat->X)(g:List A->Z)(l:List A)(hl:l.length<=1000000)
 (h:∀back s i (hi:i<l.length),s.length=i->F back (mk s i)=back (mk (s++[l[i]]) (i+1))) (hend:∀back s,F back (mk s l.length)=some (g s)):iter F big (mk [] 0)=some (g l):=by
 have this:=bzV (F:=F) mk g l (fun(s:List A) k=>(.inl (s++[k]):List A⊕List A)) id (fun s i=>s.length=i) (by omega)
  (fun back s i hi hp=>h back s i hi hp) (fun s i hi s' hp h=>by cases h;simp[hp]) (fun back s _=>hend back s) [] rfl
 rw[dzj]at this;have hf:∀(m s:List A),m.foldl (fun s c=>s++[c]) s=s++m:=by
  intro m;induction m with
  | nil=>intro s;simp
  | cons v m ih=>intro s;rw[List.foldl_cons,ih];simp
 rw[id,hf,List.nil_append]at this;exact this
def fewE (e:Expr):Prop:=sz 40 e<=200/\tr 40 e
theorem toAll {l:List Expr}(hl:l.length<=1000)(h:∀x∈l,fewE x):pzL l=some l:=by
 have:=pzh (F:=kze) (fun s i=>(l,s,(i:Int))) id l (by omega)
  (fun back s i hi hp=>by
   obtain⟨a1,a2⟩:=h _ (List.getElem_mem hi);unfold kze;simp only[azj];rw[ltT hi,azd,idxG hi,aza,toE (by omega) a2,aza,appN (by simp only[List.length_singleton];omega),aza,wr1 (by omega)])
  (fun back s=>by unfold kze;simp only;rw[ltF];rfl)
 unfold pzL;rw[show pzM (l,[],0)=_ from this];rfl
theorem toPlaces {l:List Place}(hl:l.length<=1000):mzX l=some l:=by
 have:=pzh (F:=hzT) (fun s i=>(l,s,(i:Int))) id l (by omega)
  (fun back s i hi hp=>by
   unfold hzT;simp only;rw[ltT hi,azd,idxG hi,aza,show qzS l[i]=some l[i] from rfl,aza,appN (by simp only[List.length_singleton];omega),aza,wr1 (by omega)])
  (fun back s=>by unfold hzT;simp only;rw[ltF];rfl)
 unfold mzX;rw[show nzd (l,[],0)=_ from this];rfl
theorem toCells {l:List Cell2}(hl:l.length<=1000)(h:∀x∈l,fewE x.E):pzP l=some l:=by
 have:=pzh (F:=kzg) (fun s i=>(l,s,(i:Int))) id l (by omega)
  (fun back s i hi hp=>by
   obtain⟨a1,a2⟩:=h _ (List.getElem_mem hi);unfold kzg zz5;simp only[azj];rw[ltT hi,azd,idxG hi,aza,show hzU l[i].At=some l[i].At from rfl,aza,show tzG l[i].V=some l[i].V from rfl,aza,toE (by omega) a2,aza,aza,appN (by simp only[List.length_singleton];omega),aza,wr1 (by omega)])
  (fun back s=>by unfold kzg;simp only;rw[ltF];rfl)
 unfold pzP;rw[show pzQ (l,[],0)=_ from this];rfl
theorem toGroups {l:List Group}(hl:l.length<=1000)(h:∀x∈l,fewE x.E):pzN l=some l:=by
 have:=pzh (F:=kzf) (fun s i=>(l,s,(i:Int))) id l (by omega)
  (fun back s i hi hp=>by
   obtain⟨a1,a2⟩:=h _ (List.getElem_mem hi);unfold kzf zz2;simp only[azj];rw[ltT hi,azd,idxG hi,aza,show hzU l[i].A=some l[i].A from rfl,aza,show hzU l[i].B=some l[i].B from rfl,aza,toE (by omega) a2,aza,aza,appN (by simp only[List.length_singleton];omega),aza,wr1 (by omega)])
  (fun back s=>by unfold kzf;simp only;rw[ltF];rfl)
 unfold pzN;rw[show pzO (l,[],0)=_ from this];rfl
structure fewS (s:Sheet):Prop where
 rows:s.Rows.length<=60
 cells:s.Cells.length<=120
 groups:s.Groups.length<=20
 cellE:∀x∈s.Cells,fewE x.E/\x.V.S.length<=3000
 groupE:∀x∈s.Groups,fewE x.E
structure fewG (g:Globals):Prop where
 sheets:g.Sheets.length<=20
 formats:g.Formats.length<=100
 xfs:g.XFs.length<=400
 names:g.Names.length<=30
 texts:g.Texts.Texts.length<=100
 chain:g.Chain.length<=200
 nameE:∀x∈g.Names,fewE x
structure fewB (b:Book):Prop where
 glob:fewG b.Globals
 sheets:b.Sheets.length<=12
 sheet:∀s∈b.Sheets,fewS s
theorem toSheet {s:Sheet}(h:fewS s):uzO s=some s:=by
 have h0:=h.rows;have:=pzh (F:=nze) (fun r i=>(r,s,(⟨r,s.Cells,s.Groups⟩:Sheet),(i:Int))) (fun r=>(r,(⟨r,s.Cells,s.Groups⟩:Sheet))) s.Rows (by omega)
  (fun back r i hi hp=>by
   unfold nze;simp only;rw[ltT hi,azd,idxG hi,aza,aza,aza,appN (by simp only[List.length_singleton];omega),aza,wr1 (by omega)])
  (fun back r=>by unfold nze;simp only;rw[ltF];rfl)
 unfold uzO;rw[toCells (by have:=h.cells;omega) (fun x hx=>(h.cellE x hx).1),aza,toGroups (by have:=h.groups;omega) h.groupE,aza,show tzB ([],s,⟨[],s.Cells,s.Groups⟩,0)=_ from this];rfl
theorem toGlobals {g:Globals}(h:fewG g):uzP g=some g:=by
 obtain⟨h1,h2,h3,h4,h5,h6,h7⟩:=h;unfold uzP;rw[appN (by simp;omega),aza,appN (by simp;omega),aza,appN (by simp;omega),aza,toAll (by omega) h7,aza];have e:xzD g.Texts=some g.Texts:=by
  unfold xzD;rw[appN (by simp;omega)];rfl
 rw[e,aza,toPlaces (by omega)];rfl
theorem toBook {b:Book}(h:fewB b):uzQ b=some b:=by
 have h0:=h.sheets;have:=pzh (F:=nzf) (fun r i=>(r,b,(⟨b.Globals,r⟩:Book),(i:Int))) (fun r=>(r,(⟨b.Globals,r⟩:Book))) b.Sheets (by omega)
  (fun back r i hi hp=>by
   unfold nzf;simp only;rw[ltT hi,azd,idxG hi,aza,toSheet (h.sheet _ (List.getElem_mem hi)),aza,appN (by simp only[List.length_singleton];omega),aza,wr1 (by omega)])
  (fun back r=>by unfold nzf;simp only;rw[ltF];rfl)
 unfold uzQ;rw[toGlobals h.glob,aza,show tzD ([],b,⟨b.Globals,[]⟩,0)=_ from this];rfl
theorem few60 {e:Expr}:∃b,kzd (e,60)=some b/\(b=true->fewE e):=by
 obtain⟨b,h1,h2⟩:=Few_is (e:=e) (m:=60) (by omega);exact⟨b,h1,fun h=>by obtain⟨a1,a2⟩:=h2 h;exact⟨by omega,a2⟩⟩
theorem few100 {e:Expr}:∃b,kzd (e,100)=some b/\(b=true->fewE e):=by
 obtain⟨b,h1,h2⟩:=Few_is (e:=e) (m:=100) (by omega);exact⟨b,h1,fun h=>by obtain⟨a1,a2⟩:=h2 h;exact⟨by omega,a2⟩⟩
theorem fewCells (l:List Cell2):∃b,szS l=some b/\(b=true->l.length<=120/\∀x∈l,fewE x.E/\x.V.S.length<=3000):=by
 unfold szS;by_cases h1:120<(l.length:Int)
 .rw[dT0 h1];exact⟨false,rfl,fun h=>by cases h⟩
 rw[dF0 h1,azc];obtain⟨z,e1,e2⟩:=cz7 (F:=mzl) (fun i=>(l,(i:Int))) l.length (fun i=>∃h:i<l.length,fewE l[i].E/\l[i].V.S.length<=3000) (fun z=>z = .inr false) (.inl ()) (by omega)
  (fun back i hi=>by
   obtain⟨b,hb,hb2⟩:=few60 (e:=l[i].E);unfold mzl;simp only[azj];rw[ltT hi,azd,idxG hi,aza,hb,aza,aza,wr1 (by omega)];cases b with
   | false=>exact .inr ⟨_,rfl,rfl⟩
   | true =>
    by_cases c:3000<((l[i].V.S.length:Nat):Int)
    .rw[dT0 c];exact .inr ⟨_,rfl,rfl⟩
    .rw[dF0 c];exact .inl ⟨rfl,hi,hb2 rfl,by omega⟩)
  (fun back=>by unfold mzl;simp only;rw[ltF];rfl)
 rw[show rz6 (l,0)=_ from e1,aza];rcases e2 with rfl|⟨rfl,e2⟩
 .exact⟨false,rfl,fun h=>by cases h⟩
 .exact⟨true,rfl,fun _=>⟨by omega,fun x hx=>by
   obtain⟨i,hi,rfl⟩:=List.getElem_of_mem hx;exact(e2 i hi).2⟩⟩
theorem fewGroups (l:List Group):∃b,szR l=some b/\(b=true->l.length<=20/\∀x∈l,fewE x.E):=by
 unfold szR;by_cases h1:20<(l.length:Int)
 .rw[dT0 h1];exact⟨false,rfl,fun h=>by cases h⟩
 rw[dF0 h1,azc];obtain⟨z,e1,e2⟩:=cz7 (F:=mzk) (fun i=>(l,(i:Int))) l.length (fun i=>∃h:i<l.length,fewE l[i].E) (fun z=>z = .inr false) (.inl ()) (by omega)
  (fun back i hi=>by
   obtain⟨b,hb,hb2⟩:=few60 (e:=l[i].E);unfold mzk;simp only[azj];rw[ltT hi,azd,idxG hi,aza,hb,aza,wr1 (by omega)];cases b with
   | false=>exact .inr ⟨_,rfl,rfl⟩
   | true=>exact .inl ⟨rfl,hi,hb2 rfl⟩)
  (fun back=>by unfold mzk;simp only;rw[ltF];rfl)
 rw[show rz5 (l,0)=_ from e1,aza];rcases e2 with rfl|⟨rfl,e2⟩
 .exact⟨false,rfl,fun h=>by cases h⟩
 .exact⟨true,rfl,fun _=>⟨by omega,fun x hx=>by
   obtain⟨i,hi,rfl⟩:=List.getElem_of_mem hx;exact(e2 i hi).2⟩⟩
theorem fewSheet (s:Sheet):∃b,szT s=some b/\(b=true->fewS s):=by
 obtain⟨b1,h1,k1⟩:=fewCells s.Cells;obtain⟨b2,h2,k2⟩:=fewGroups s.Groups;unfold szT;rw[h1,h2,aza,aza];by_cases h:(s.Rows.length:Int)<=60
 .rw[dT0 h,azd];cases b1 with
  | false=>exact⟨false,rfl,fun h=>by cases h⟩
  | true=>exact⟨b2,rfl,fun h2=>⟨by omega,(k1 rfl).1,(k2 h2).1,(k1 rfl).2,(k2 h2).2⟩⟩
 .rw[dF0 h];exact⟨false,rfl,fun h=>by cases h⟩
def dzg (l:List (List UInt8)):Prop:=∀x∈l,x.length<=1048576
def fitL (l:List (List UInt8)):Prop:=∀x∈l,x.length<=140737488351232
def totB (l:List (List UInt8)):Nat:=(l.map List.length).sum
theorem rzf:∀{l:List (List UInt8)},fitL l->totB l<=140737488351232*l.length
 | [],_=>Nat.zero_le _
 | a::l,h=>by
  have h1:=rzf (l:=l) fun x hx=>h x (by simp[hx])
  have h2:=h a (by simp);unfold totB at h1 ⊢;rw[List.map_cons,List.sum_cons,List.length_cons];omega
theorem yze:∀{l:List (List UInt8)} {x:List UInt8},x∈l->x.length<=totB l
 | a::l,x,h=>by
  unfold totB;rw[List.map_cons,List.sum_cons];rcases List.mem_cons.1 h with rfl|h
  .omega
  .have:=yze h;unfold totB at this;omega
theorem rze {l:List (List UInt8)}(hl:l.length<=1000)(hs:fitL l){F:(Globals×Int×Int->Option Int)->Globals×Int×Int->Option Int}{g:Globals}{n:Nat}(hn:n<=1000000000000000000)
 (h:∀back (m:Int) i (hi:i<l.length),F back (g,m,(i:Int))=back (g,i64.wrap (m+(l[i].length:Int)),i64.wrap ((i:Int)+1)))
 (hend:∀back m,F back (g,m,(l.length:Int))=some m):iter F big (g,(n:Int),0)=some ((n+totB l:Nat):Int):=by
 have hb:∀i (hi:i<l.length),l[i].length<=140737488351232:=fun i hi=>hs _ (List.getElem_mem hi)
 have:=bzV (F:=F) (fun(m:Nat) i=>(g,(m:Int),(i:Int))) (fun m:Nat=>(m:Int)) l (fun(m:Nat) x=>(.inl (m+x.length):Nat⊕Nat)) id (fun m i=>m<=n+140737488351232*i) (by omega)
  (fun back m i hi hp=>by
   have:=hb i hi;rw[h back m i hi,azG (by omega) (by omega),wr1 (by omega)];simp[rzn])
  (fun m i hi m' hp he=>by
   have:=hb i hi;injection he with he;omega)
  (fun back m _=>hend back m) n (by omega)
 rw[dzj]at this;have key:∀(l:List (List UInt8)) (s:Nat),l.foldl (fun m x=>m+x.length) s=s+totB l:=fun l=>by
  induction l with
  | nil=>intro s;rfl
  | cons a l ih =>
   intro s;unfold totB at ih ⊢;rw[List.foldl_cons,ih,List.map_cons,List.sum_cons,Nat.add_assoc]
 rw[id,key]at this;exact this
theorem Nzh (g:Globals)(h1:fitL g.Sheets)(h2:fitL g.Formats)(h3:fitL g.Texts.Texts):∃b,lzV g=some b/\(b=true->g.Sheets.length<=20/\g.Formats.length<=100/\g.XFs.length<=400/\g.Names.length<=30/\g.Texts.Texts.length<=60/\g.Chain.length<=200/\(dzg g.Sheets/\dzg g.Formats/\dzg g.Texts.Texts)/\∀x∈g.Names,fewE x):=by
 unfold lzV;by_cases c1:20<(g.Sheets.length:Int)
 .rw[dT0 c1];exact⟨false,rfl,fun h=>by cases h⟩
 by_cases c2:100<(g.Formats.length:Int)
 .rw[dF0 c1,dT0 c2];exact⟨false,rfl,fun h=>by cases h⟩
 by_cases c3:400<(g.XFs.length:Int)
 .rw[dF0 c1,dF0 c2,dT0 c3];exact⟨false,rfl,fun h=>by cases h⟩
 by_cases c4:30<(g.Names.length:Int)
 .rw[dF0 c1,dF0 c2,dF0 c3,dT0 c4];exact⟨false,rfl,fun h=>by cases h⟩
 by_cases c5:60<(g.Texts.Texts.length:Int)
 .rw[dF0 c1,dF0 c2,dF0 c3,dF0 c4,dT0 c5];exact⟨false,rfl,fun h=>by cases h⟩
 by_cases c6:200<(g.Chain.length:Int)
 .rw[dF0 c1,dF0 c2,dF0 c3,dF0 c4,dF0 c5,dT0 c6];exact⟨false,rfl,fun h=>by cases h⟩
 rw[dF0 c1,dF0 c2,dF0 c3,dF0 c4,dF0 c5,dF0 c6];simp only[azc];have b1:=rzf h1;have b2:=rzf h2;have b3:=rzf h3;have e1:=rze (F:=gzn) (g:=g) (n:=0) (l:=g.Sheets) (by omega) h1 (by omega)
  (fun back m i hi=>by unfold gzn;simp only;rw[ltT hi,azd,idxG hi,aza]) (fun back m=>by unfold gzn;simp only;rw[ltF];rfl)
 have e2:=rze (F:=gzo) (g:=g) (n:=0+totB g.Sheets) (l:=g.Formats) (by omega) h2 (by omega)
  (fun back m i hi=>by unfold gzo;simp only;rw[ltT hi,azd,idxG hi,aza]) (fun back m=>by unfold gzo;simp only;rw[ltF];rfl)
 have e3:=rze (F:=gzp) (g:=g) (n:=0+totB g.Sheets+totB g.Formats) (l:=g.Texts.Texts) (by omega) h3 (by omega)
  (fun back m i hi=>by unfold gzp;simp only;rw[ltT hi,azd,idxG hi,aza]) (fun back m=>by unfold gzp;simp only;rw[ltF];rfl)
 have e1:ozL (g,0,0)=some ((0+totB g.Sheets:Nat):Int):=e1;rw[e1,aza,show ozM (g,((0+totB g.Sheets:Nat):Int),0)=_ from e2,aza,show ozN (g,((0+totB g.Sheets+totB g.Formats:Nat):Int),0)=_ from e3,aza];obtain⟨z,f1,f2⟩:=cz7 (F:=gzq) (fun i=>(g,(i:Int))) g.Names.length (fun i=>∃h:i<g.Names.length,fewE g.Names[i]) (fun z=>z = .inr false) (.inl ()) (by omega)
  (fun back i hi=>by
   obtain⟨b,hb,hb2⟩:=few100 (e:=g.Names[i]);unfold gzq;simp only[azj];rw[ltT hi,azd,idxG hi,aza,hb,aza,wr1 (by omega)];cases b with
   | false=>exact .inr ⟨_,rfl,rfl⟩
   | true=>exact .inl ⟨rfl,hi,hb2 rfl⟩)
  (fun back=>by unfold gzq;simp only;rw[ltF];rfl)
 rw[show ozO (g,0)=_ from f1,aza];rcases f2 with rfl|⟨rfl,f2⟩
 .exact⟨false,rfl,fun h=>by cases h⟩
 .refine⟨_,rfl,fun hd=>?_⟩;have hd:=of_decide_eq_true hd;exact⟨by omega,by omega,by omega,by omega,by omega,by omega,⟨fun x hx=>by have:=yze hx;omega,fun x hx=>by have:=yze hx;omega,fun x hx=>by have:=yze hx;omega⟩,fun x hx=>by
   obtain⟨i,hi,rfl⟩:=List.getElem_of_mem hx;exact(f2 i hi).2⟩
def Gz8 (b:Book):Prop:=dzg b.Globals.Sheets/\dzg b.Globals.Formats/\dzg b.Globals.Texts.Texts
def fitB (b:Book):Prop:=fitL b.Globals.Sheets/\fitL b.Globals.Formats/\fitL b.Globals.Texts.Texts
theorem fewBook (b:Book)(h:fitB b):∃r,pzR b=some r/\(r=true->b.Sheets.length<=12/\(∀s∈b.Sheets,fewS s)/\b.Globals.Sheets.length<=20/\b.Globals.Formats.length<=100/\b.Globals.XFs.length<=400/\b.Globals.Names.length<=30/\b.Globals.Texts.Texts.length<=60/\b.Globals.Chain.length<=200/\Gz8 b/\∀x∈b.Globals.Names,fewE x):=by
 obtain⟨r,hr,hk⟩:=Nzh b.Globals h.1 h.2.1 h.2.2;unfold pzR;rw[hr,aza];cases r with
 | false=>exact⟨false,rfl,fun h=>by cases h⟩
 | true =>
  simp only[Bool.not_true,azc];by_cases c:12<(b.Sheets.length:Int)
  .rw[dT0 c];exact⟨false,rfl,fun h=>by cases h⟩
  rw[dF0 c,azc];obtain⟨z,e1,e2⟩:=cz7 (F:=mzn) (fun i=>(b,(i:Int))) b.Sheets.length (fun i=>∃h:i<b.Sheets.length,fewS b.Sheets[i]) (fun z=>z = .inr false) (.inl ()) (by omega)
   (fun back i hi=>by
    obtain⟨q,hb,hb2⟩:=fewSheet b.Sheets[i];unfold mzn;simp only;rw[ltT hi,azd,idxG hi,aza,hb,aza,wr1 (by omega)];cases q with
    | false=>exact .inr ⟨_,rfl,rfl⟩
    | true=>exact .inl ⟨rfl,hi,hb2 rfl⟩)
   (fun back=>by unfold mzn;simp only;rw[ltF];rfl)
  rw[show rz7 (b,0)=_ from e1,aza];rcases e2 with rfl|⟨rfl,e2⟩
  .exact⟨false,rfl,fun h=>by cases h⟩
  .exact⟨true,rfl,fun _=>⟨by omega,fun x hx=>by
    obtain⟨i,hi,rfl⟩:=List.getElem_of_mem hx;exact(e2 i hi).2,hk rfl⟩⟩
def by1 (v:Int)(i:Nat):UInt8:=UInt8.ofNat (u8.wrap (v.fdiv (2^(8*i)))).toNat
def lw (n:Nat)(v:Int):List UInt8:=(List.range n).map (by1 v)
theorem czk (n:Nat)(v:Int):(lw n v).length=n:=by simp[lw]
theorem xzs {A B:Type}(f:A->B):∀(l:List A) (s:List B),l.foldl (fun s a=>s++[f a]) s=s++l.map f
 | [],s=>by simp
 | a::l,s=>by rw[List.foldl_cons,xzs f l];simp
theorem lePut_l1 {zs:List UInt8}{v:Int}{n:Nat}(hn:n<=8)(hz:zs.length<=1000000000):xzF (zs,v,(n:Int),0)=some (zs++lw n v):=by
 have:=bzV (F:=pzS) (fun(s:List UInt8) (i:Nat)=>(s,v,(n:Int),(i:Int))) id (List.range n) (fun s i=>(.inl (s++[by1 v i]):List UInt8⊕List UInt8)) id (fun s i=>s.length=zs.length+i) (by simp;omega)
  (fun back s i hi hp=>by
   have hi':i<n:=by simpa using hi
   unfold pzS;simp only[List.getElem_range];rw[ltT hi',azd,azG (by omega) (by omega),dF0 (by omega),azc];have e:(2:Int)^min ((8:Int)*(i:Int)).toNat 64=2^(8*i):=by congr 1;omega
   rw[e,appN (by simp;omega),aza,wr1 (by omega)];rfl)
  (fun s i hi s' hp h=>by cases h;simp[hp];omega)
  (fun back s _=>by unfold pzS;simp only[List.length_range];rw[ltF];rfl) zs (by simp)
 rw[dzj,xzs]at this;exact this
theorem refPut_l1 {zs:List UInt8}{v:Int}{n:Nat}(hn:n<=8)(hz:zs.length<=1000000000):qzf (v,(n:Int),zs,0)=some (zs++lw n v):=by
 have:=bzV (F:=kzt) (fun(s:List UInt8) (i:Nat)=>(v,(n:Int),s,(i:Int))) id (List.range n) (fun s i=>(.inl (s++[by1 v i]):List UInt8⊕List UInt8)) id (fun s i=>s.length=zs.length+i) (by simp;omega)
  (fun back s i hi hp=>by
   have hi':i<n:=by simpa using hi
   unfold kzt;simp only[List.getElem_range];rw[ltT hi',azd,azG (by omega) (by omega),Hzk (by omega) (by omega),dF0 (by omega),azc];have e:(2:Int)^min ((8:Int)*(i:Int)).toNat 64=2^(8*i):=by congr 1;omega
   rw[e,appN (by simp;omega),aza,wr1 (by omega)];rfl)
  (fun s i hi s' hp h=>by cases h;simp[hp];omega)
  (fun back s _=>by unfold kzt;simp only[List.length_range];rw[ltF];rfl) zs (by simp)
 rw[dzj,xzs]at this;exact this
theorem kzJ {A:Type}{B:Nat}{l:List A}(h:l.length*B<=140737488355328):app B [] l=some l:=by rw[appN (by simpa using h)];rfl
theorem xzE {b:List UInt8}{v:Int}{n:Nat}(hn:n<=8)(hb:b.length<=1000000000):tzf (b,v,(n:Int))=some (b++lw n v):=by
 unfold tzf bz1;simp only;rw[kzJ (by omega),aza,lePut_l1 hn hb];rfl
theorem ez2 {b:List UInt8}{v:Int}{n:Nat}(hn:n<=8)(hb:b.length<=1000000000):czx (b,v,(n:Int))=some (b++lw n v):=by
 unfold czx;simp only;rw[kzJ (by omega),aza,refPut_l1 hn hb];rfl
theorem lw2 (v:Int):lw 2 v=[UInt8.ofNat (u8.wrap v).toNat,UInt8.ofNat (u8.wrap (v.fdiv 256)).toNat]:=by
 show [by1 v 0,by1 v 1]=_
 unfold by1;simp
def rfB (x:Ref):List UInt8:=lw 2 x.Row++[UInt8.ofNat (u8.wrap x.Col).toNat,UInt8.ofNat ((if x.RelRow then 1 else 0)+(if x.RelCol then 2 else 0))]
theorem xz0 (x:Ref):(rfB x).length=4:=by simp[rfB,czk]
theorem pzr {b:List UInt8}{x:Ref}(hb:b.length<=1000000000)(h0:0<=x.Row)(h1:x.Row<65536):fzk (b,x)=some (b++rfB x):=by
 unfold fzk rfB;simp only;rw[Hzk h0 (by omega)];have:=ez2 (b:=b) (v:=x.Row) (n:=2) (by omega) hb;rw[show((2:Nat):Int)=2 from rfl]at this;rw[this];have hl:(b++lw 2 x.Row).length<=1000000002:=by simp[czk];omega
 cases x.RelRow<;>cases x.RelCol<;>simp only[azd,azc,aza]<;>rw[appN (by simp[czk];omega)]<;>simp[List.append_assoc]
theorem BzJ {b:List UInt8}{l:List Ref}(hb:b.length<=100000000)(hl:l.length<=100):nzh (b,l)=some (b++l.flatMap rfB):=by
 have:=bzV (F:=nzi) (fun(s:List UInt8) (i:Nat)=>(s,l,(l.length:Int),(i:Int))) id l (fun s x=>(.inl (s++rfB x):List UInt8⊕List UInt8)) id (fun s i=>s.length=b.length+4*i) (by omega)
  (fun back s i hi hp=>by
   unfold nzi;simp only;rw[ltT hi,azd,idxG hi,aza,wr1 (by omega)];simp only[rzn,rfB,lw2];cases l[i].RelRow<;>cases l[i].RelCol<;>simp only[azd,azc]<;>rw[appN (by simp;omega),aza]<;>rfl)
  (fun s i hi s' hp h=>by
   injection h with h;rw[<-h,List.length_append,xz0];omega)
  (fun back s _=>by unfold nzi;simp only;rw[ltF];rfl) b (by simp)
 rw[dzj,kzc]at this;unfold nzh;rw[show tzM (b,l,(l.length:Int),0)=_ from this];rfl
def ut (r:Int):List Int:=if r<65536 then [r]else [55296+(r-65536)/1024,56320+(r-65536)%1024]
def us (l:List Int):List Int:=l.flatMap ut
theorem ozE:∀l:List Int,(us l).length=ulen l
 | []=>rfl
 | r::l=>by
  have:=ozE l;simp only[us,List.flatMap_cons,List.length_append,ulen,ut]at this ⊢;rw[this];split<;>simp
theorem EzJ (x:List UInt8):∀r∈rs x,0<=r/\r<=1114111:=by
 have key:∀(n:Nat) (x:List UInt8),x.length<=n->∀r∈rs x,0<=r/\r<=1114111:=fun n=>by
  induction n with
  | zero=>intro x hx r hr;have:x=[]:=List.eq_nil_of_length_eq_zero (by omega);subst this;simp[GzY]at hr
  | succ n ih =>
   intro x hx r hr;by_cases h:x=[]
   .subst h;simp[GzY]at hr
   .rw[tzh h]at hr;rcases List.mem_cons.1 hr with rfl|hr
    .have:=decodeL_rune x;omega
    .exact ih (x.drop (decodeL x).2) (by rw[List.length_drop];have:=decodeL_width x;omega) r hr
 exact key x.length x (Nat.le_refl _)
theorem i32_in' {n:Int}(h0:-2147483648<=n)(h1:n<=2147483647):i32.wrap n=n:=mzK ⟨h0,h1⟩
theorem and1023 (k:IntKind)(hk:k = .i32\/k = .i64){x:Int}(h0:0<=x)(h1:x<1048576):czg .and k x 1023=x%1024:=by
 obtain⟨n,rfl⟩:=Int.eq_ofNat_of_zero_le h0;simp only[czg];rw[BitVec.toNat_and];rcases hk with rfl|rfl
 .have e1:(BitVec.ofInt i32.bits (n:Int)).toNat=n:=by
   rw[BitVec.ofInt_natCast,BitVec.toNat_ofNat];exact Nat.mod_eq_of_lt (by simp only[IntKind.bits];omega)
  have e2:(BitVec.ofInt i32.bits (1023:Int)).toNat=2^10-1:=by decide
  rw[e1,e2,Nat.and_two_pow_sub_one_eq_mod];have:((n%2^10:Nat):Int)=(n:Int)%1024:=by omega
  rw[this,i32_in' (by omega) (by omega)]
 .have e1:(BitVec.ofInt i64.bits (n:Int)).toNat=n:=by
   rw[BitVec.ofInt_natCast,BitVec.toNat_ofNat];exact Nat.mod_eq_of_lt (by simp only[IntKind.bits];omega)
  have e2:(BitVec.ofInt i64.bits (1023:Int)).toNat=2^10-1:=by decide
  rw[e1,e2,Nat.and_two_pow_sub_one_eq_mod];have:((n%2^10:Nat):Int)=(n:Int)%1024:=by omega
  rw[this,azG (by omega) (by omega)]
theorem or10 {a:Int}(ha:a=55296\/a=56320){x:Int}(h0:0<=x)(h1:x<1024):czg .or .i64 a x=a+x:=by
 obtain⟨n,rfl⟩:=Int.eq_ofNat_of_zero_le h0;have hn:n<2^10:=by omega
 simp only[czg];rw[BitVec.toNat_or];have e1:(BitVec.ofInt i64.bits (n:Int)).toNat=n:=by
  rw[BitVec.ofInt_natCast,BitVec.toNat_ofNat];exact Nat.mod_eq_of_lt (by simp only[IntKind.bits];omega)
 rw[e1];rcases ha with rfl|rfl
 .have e2:(BitVec.ofInt i64.bits (55296:Int)).toNat=54*2^10:=by decide
  rw[e2,<-Nat.shiftLeft_eq,<-Nat.shiftLeft_add_eq_or_of_lt hn,Nat.shiftLeft_eq,azG (by omega) (by omega)];omega
 .have e2:(BitVec.ofInt i64.bits (56320:Int)).toNat=55*2^10:=by decide
  rw[e2,<-Nat.shiftLeft_eq,<-Nat.shiftLeft_add_eq_or_of_lt hn,Nat.shiftLeft_eq,azG (by omega) (by omega)];omega
theorem fdiv10 (x:Int):x.fdiv 1024=x/1024:=by rw[Int.fdiv_eq_ediv_of_nonneg _ (by omega)]
theorem units_is {x:List UInt8}(hl:x.length<=100000000):kzH x=some (us (rs x)):=by
 have key:∃y,ozY ([],x,0)=some y/\(y.1=us (rs x)):=by
  refine nzM (F:=jz4) (fun z=>x.length-z.2.2) (fun z=>∃(out:List Int) (p:Nat),z=(out,x,p)/\out.length<=2*p/\(p<x.length\/rs (x.drop p)=[])/\out++us (rs (x.drop p))=us (rs x)) _ ?_ _ ⟨[],0,rfl,by simp,by
   by_cases h:x=[]
   .subst h;exact .inr rfl
   .exact .inl (List.length_pos_iff.2 h),by simp⟩ (by simp only;omega)
  rintro back z ⟨out,p,rfl,ho,hp,hv⟩ hb;unfold jz4;simp only at hb ⊢;by_cases hlt:p<x.length
  .have hne:x.drop p≠[]:=fun e=>by have:=congrArg List.length e;simp at this;omega
   have hr:=AzY x p;have hw:=decodeL_width (x.drop p);have hle:=decodeL_le (x.drop p) hne;have hrb:=decodeL_rune (x.drop p);rw[List.length_drop]at hle;rw[tzh hne,List.drop_drop]at hv;have hv2:out++ut ((decodeL (x.drop p)).1:Int)++us (rs (x.drop (p+(decodeL (x.drop p)).2)))=us (rs x):=by rw[<-hv];simp[us]
   rw[dT0 hlt,azd,hr];have step:∃y,back (out++ut ((decodeL (x.drop p)).1:Int),x,p+(decodeL (x.drop p)).2)=some y/\y.1=us (rs x):=by
    refine hb _ ⟨_,_,rfl,?_,?_,hv2⟩ (by simp only;omega)
    .simp only[List.length_append,ut];split<;>simp<;>omega
    .rcases Nat.lt_or_ge (p+(decodeL (x.drop p)).2) x.length with h|h
     .exact .inl h
     .right;rw[List.drop_eq_nil_of_le h];rfl
   generalize (decodeL (x.drop p)).1=r at *;by_cases h6:(r:Int)<65536
   .rw[dT0 h6,azd,appN (by simp;omega),aza,azG (by omega) (by omega)];unfold ut at step;rw[if_pos h6]at step;exact step
   .have e1:i32.wrap ((r:Int)-65536)=(r:Int)-65536:=i32_in' (by omega) (by omega);rw[dF0 h6,azc,appN (by simp;omega),aza,e1,fdiv10,and1023 _ (.inl rfl) (by omega) (by omega),azG (n:=((r:Int)-65536)/1024) (by omega) (by omega),azG (n:=((r:Int)-65536)%1024) (by omega) (by omega),
     azG (by omega) (by omega),azG (by omega) (by omega)]
    unfold ut at step;rw[if_neg h6]at step;exact step
  .rw[dF0 hlt,azc];rcases hp with h|h
   .exact absurd h hlt
   .rw[h]at hv;exact⟨_,rfl,by simpa[us]using hv⟩
 obtain⟨y,h1,h2⟩:=key;unfold kzH;rw[h1,aza,h2]
theorem tz7 {l:List Int}(hl:l.length<=4000000)(hr:∀r∈l,0<=r/\r<=1114111):iz8 l=some (us l):=by
 have:=bzV (F:=gz0) (fun(s:List Int) (i:Nat)=>(l,s,(i:Int))) id l (fun s r=>(.inl (s++ut r):List Int⊕List Int)) id (fun s i=>s.length<=2*i) (by omega)
  (fun back s i hi hp=>by
   obtain⟨r0,r1⟩:=hr _ (List.getElem_mem hi);unfold gz0;simp only;rw[ltT hi,azd,idxG hi,aza,aza,aza,wr1 (by omega)];simp only[rzn,ut];generalize l[i]=r at *;by_cases h6:r<65536
   .rw[dT0 h6,azd,if_pos h6,appN (by simp;omega),aza]
   .rw[dF0 h6,azc,if_neg h6,azG (n:=r-65536) (by omega) (by omega),fdiv10,and1023 _ (.inr rfl) (by omega) (by omega),or10 (.inl rfl) (by omega) (by omega),or10 (.inr rfl) (by omega) (by omega),appN (by simp;omega),aza])
  (fun s i hi s' hp h=>by
   injection h with h;rw[<-h,List.length_append];unfold ut;split<;>simp<;>omega)
  (fun back s _=>by unfold gz0;simp only;rw[ltF];rfl) [] (by simp)
 rw[dzj,kzc]at this;unfold iz8;rw[show nzW (l,[],0)=_ from this];rfl
def nar (x:List UInt8):Bool:=(rs x).all fun r=>decide (r<256)
def tub (n:Bool)(r:Int):List UInt8:=if n then [UInt8.ofNat (u8.wrap r).toNat]else lw 2 r
def stB (x:List UInt8):List UInt8:=lw 2 ((us (rs x)).length:Int)++[if nar x then 0 else 1]++(us (rs x)).flatMap (tub (nar x))
theorem wz4 (n:Bool)(r:Int):(tub n r).length<=2:=by unfold tub;split<;>simp[czk]
theorem narrow_is {x:List UInt8}(hl:x.length<=100000000):rzz x=some (nar x):=by
 have key:∃y,rzd (x,0)=some y/\osum y (fun _=>some true) (fun y=>some y.1)=some (nar x):=by
  refine nzM (F:=nz9) (fun z=>x.length-z.2) (fun z=>∃p:Nat,z=(x,p)/\(p<x.length\/rs (x.drop p)=[])/\(rs (x.drop p)).all (fun r=>decide (r<256))=nar x) _ ?_ _ ⟨0,rfl,by
   by_cases h:x=[]
   .subst h;exact .inr rfl
   .exact .inl (List.length_pos_iff.2 h),by simp[nar]⟩ (by simp only;omega)
  rintro back z ⟨p,rfl,hp,hv⟩ hb;unfold nz9;simp only at hb ⊢;by_cases hlt:p<x.length
  .have hne:x.drop p≠[]:=fun e=>by have:=congrArg List.length e;simp at this;omega
   have hr:=AzY x p;have hw:=decodeL_width (x.drop p);rw[tzh hne,List.drop_drop,List.all_cons]at hv;rw[dT0 hlt,azd,hr];by_cases h6:(255:Int)<((decodeL (x.drop p)).1:Int)
   .rw[dT0 h6,azd];refine⟨_,rfl,?_⟩;rw[dF0 (by omega),Bool.false_and]at hv;rw[<-hv];rfl
   .rw[dF0 h6,azc];rw[dT0 (by omega),Bool.true_and]at hv;refine hb _ ⟨_,rfl,?_,hv⟩ (by simp only;omega);rcases Nat.lt_or_ge (p+(decodeL (x.drop p)).2) x.length with h|h
    .exact .inl h
    .right;rw[List.drop_eq_nil_of_le h];rfl
  .rw[dF0 hlt,azc];rcases hp with h|h
   .exact absurd h hlt
   .rw[h]at hv;exact⟨_,rfl,by rw[<-hv];rfl⟩
 obtain⟨y,h1,h2⟩:=key;unfold rzz;rw[h1,aza];exact h2
theorem Jzc (p:Int->Bool):∀(l:List Int) (b:Bool),l.foldl (fun s r=>s&&p r) b=(b&&l.all p)
 | [],b=>by simp
 | r::l,b=>by rw[List.foldl_cons,Jzc p l,List.all_cons,Bool.and_assoc]
theorem LzM {l:List Int}(hl:l.length<=100000000)(b:Bool):qze (l,b,0)=some (b&&l.all fun r=>decide (r<256)):=by
 have:=bzV (F:=kzs) (fun(s:Bool) (i:Nat)=>(l,s,(i:Int))) id l (fun s r=>(.inl (s&&decide (r<256)):Bool⊕Bool)) id (fun _ _=>True) (by omega)
  (fun back s i hi _=>by
   unfold kzs;simp only;rw[ltT hi,azd,idxG hi,aza,wr1 (by omega)];cases s<;>rfl)
  (fun _ _ _ _ _ _=>trivial)
  (fun back s _=>by unfold kzs;simp only;rw[ltF];rfl) b trivial
 rw[dzj,Jzc]at this;exact this
theorem tz6 {x:List UInt8}(hl:x.length<=4000000)(hv:validD x=true):nzn x=some (nar x):=by
 have:=rzS x;unfold nzn;rw[ozu hl,if_pos hv,aza,LzM (by simp only;omega)];rfl
theorem put_l1 {zs:List UInt8}{l:List Int}{n:Bool}(hz:zs.length<=500000000)(hl:l.length<=100000000):rzA (zs,n,l,(l.length:Int),0)=some (zs++l.flatMap (tub n)):=by
 have:=bzV (F:=ozC) (fun(s:List UInt8) (i:Nat)=>(s,n,l,(l.length:Int),(i:Int))) id l (fun s r=>(.inl (s++tub n r):List UInt8⊕List UInt8)) id (fun s i=>s.length<=zs.length+2*i) (by omega)
  (fun back s i hi hp=>by
   unfold ozC;simp only;rw[ltT hi,azd,idxG hi,aza,appN (by simp;omega),aza,wr1 (by omega)];cases n
   .rw[show(!false)=true from rfl,azd,appN (by simp;omega),aza];simp only[rzn,tub,lw2,List.append_assoc];rfl
   .rfl)
  (fun s i hi s' hp h=>by
   injection h with h;rw[<-h,List.length_append];have:=wz4 n l[i];omega)
  (fun back s _=>by unfold ozC;simp only;rw[ltF];rfl) zs (by simp)
 rw[dzj,kzc]at this;exact this
theorem GzV {zs:List UInt8}{l:List Int}{n:Bool}(hz:zs.length<=500000000)(hl:l.length<=100000000):mzZ (zs,l,n,0)=some (zs++l.flatMap (tub n)):=by
 have:=bzV (F:=kzu) (fun(s:List UInt8) (i:Nat)=>(s,l,n,(i:Int))) id l (fun s r=>(.inl (s++tub n r):List UInt8⊕List UInt8)) id (fun s i=>s.length<=zs.length+2*i) (by omega)
  (fun back s i hi hp=>by
   unfold kzu;simp only;rw[ltT hi,azd,idxG hi,aza,appN (by simp;omega),aza,wr1 (by omega)];cases n
   .rw[show(!false)=true from rfl,azd,aza,appN (by simp;omega),aza];simp only[rzn,tub,lw2,List.append_assoc];rfl
   .rfl)
  (fun s i hi s' hp h=>by
   injection h with h;rw[<-h,List.length_append];have:=wz4 n l[i];omega)
  (fun back s _=>by unfold kzu;simp only;rw[ltF];rfl) zs (by simp)
 rw[dzj,kzc]at this;exact this
theorem nzB {x:List UInt8}(h:(azW x).2=0):validD x=true/\ulen (rs x)<=1000/\(azW x).1=((us (rs x)).length:Int):=by
 unfold azW at *;rw[ozE];split at h
 .split at h
  .simp at h
  .exact⟨by assumption,by omega,by simp[*]⟩
 .simp at h
theorem put_is {b x:List UInt8}(hb:b.length<=100000000)(hl:x.length<=4000000):uzj (b,x)=some (if(azW x).2=0 then b++stB x else b,(azW x).2):=by
 unfold uzj izZ;simp only;rw[kzJ (by omega),aza,qzB (by omega),aza];by_cases h:(azW x).2=0
 .obtain⟨h1,h2,h3⟩:=nzB h;rw[dT0 h,if_pos h,h,h3,narrow_is (by omega),units_is (by omega)];have hu:=ozE (rs x);rw[show(!true)=false from rfl,azc,aza,appN (by simp;omega),aza];have hlen:(b++[UInt8.ofNat (u8.wrap ((us (rs x)).length:Int)).toNat,UInt8.ofNat (u8.wrap (((us (rs x)).length:Int).fdiv 256)).toNat,UInt8.ofNat 1]).length=b.length+3:=by simp
  cases hn:nar x
  .rw[azc,aza,put_l1 (by omega) (by omega),aza];simp[stB,lw2,hn]
  .rw[azd,hlen,azG (by omega) (by omega)];have e1:inb (b.length+3) (((b.length+3:Nat):Int)-1)=some (b.length+2):=by
    unfold inb;rw[dT0 (by omega),dT0 (by omega)];simp;omega
   rw[e1,aza];simp only[Nat.zero_add];have e2:∃c,nth (b++[UInt8.ofNat (u8.wrap ((us (rs x)).length:Int)).toNat,UInt8.ofNat (u8.wrap (((us (rs x)).length:Int).fdiv 256)).toNat,UInt8.ofNat 1]) (b.length+2)=some c:=⟨_,by
    unfold nth;rw[List.getElem?_eq_getElem (by simp)]⟩
   obtain⟨c,e2⟩:=e2;rw[e2,aza,aza,put_l1 (by simp;omega) (by omega),aza];simp[stB,lw2,hn,List.set_append]
 .rw[dF0 h,if_neg h];rfl
theorem LzN {b x:List UInt8}(hb:b.length<=100000000)(hl:x.length<=4000000):qzg (b,x)=some (if(azW x).2=0 then b++stB x else b,(azW x).2):=by
 unfold qzg;simp only;rw[hzw hl,aza];by_cases h:(azW x).2=0
 .obtain⟨h1,h2,h3⟩:=nzB h;have hu:=ozE (rs x);have hrl:=rzS x;rw[dT0 h,if_pos h,h,h3,Hzk (by omega) (by omega),show(!true)=false from rfl,azc];have:=ez2 (b:=b) (v:=((us (rs x)).length:Int)) (n:=2) (by omega) (by omega);rw[show((2:Nat):Int)=2 from rfl]at this;rw[this,aza,ozu hl,if_pos h1,aza,tz6 hl h1];simp only;rw[tz7 (by omega) (EzJ x),aza,aza];cases hn:nar x
  .rw[azc,appN (by simp[czk];omega),aza,GzV (by simp[czk];omega) (by omega),aza];simp[stB,hn]
  .rw[azd,appN (by simp[czk];omega),aza,GzV (by simp[czk];omega) (by omega),aza];simp[stB,hn]
 .rw[dF0 h,if_neg h,show(!false)=true from rfl,azd,kzJ (by omega)];rfl
def opR (e:Expr):Prop:=(e.Kind=6->0<=e.Op/\e.Op<=1023)/\(e.Kind=7->1<=e.Op/\e.Op<=3)/\(e.Kind=8->1<=e.Op/\e.Op<=12)/\(e.Kind=9->0<=e.Op/\e.Op<=29)
theorem b5_range {e:Expr}{k lo hi:Int}(h:(obnd (czI (e,k,lo,hi)) fun y=>brn y (some (1:Int)) (some 0))=some 0):lo<=e.Op/\e.Op<=hi:=by
 unfold czI at h;simp only at h;by_cases h1:e.Op<lo
 .rw[dT0 h1]at h;cases h
 rw[dF0 h1,azc]at h;by_cases h2:hi<e.Op
 .rw[dT0 h2]at h;cases h
 omega
theorem tail_op {e:Expr}{s:Bool}{k:Int}(h:(obnd (eze (e,s)) fun y=>brn y (some 1) (obnd (ezf (0,0,e.Kind)) fun y_4=>obnd (czI (e,k,y_4)) fun y=>brn y (some (1:Int)) (some 0)))=some 0):opR e:=by
 obtain⟨b,hb⟩:=b3_tot (e,s);rw[hb,aza]at h;cases b
 .rw[azc]at h;refine⟨fun hk=>?_,fun hk=>?_,fun hk=>?_,fun hk=>?_⟩<;>rw[hk]at h<;>exact b5_range h
 .rw[azd]at h;cases h
theorem op_is {e:Expr}(h:fze e=some 0):opR e:=by
 unfold fze at h;rw[azj]at h;obtain⟨b1,h1⟩:∃b,jzf e=some b:=by unfold jzf;rw[brnI];split<;>exact⟨_,rfl⟩
 rw[h1,aza]at h;cases b1
 .rw[azc]at h;obtain⟨y,hy⟩:∃y,lzl e.Kind=some y:=by
   cases hy:lzl e.Kind
   .rw[hy]at h;cases h
   .exact⟨_,rfl⟩
  rw[hy,aza]at h;obtain⟨b2,h2⟩:=b2_tot (e,y.1,y.2.1,y.2.2.1,y.2.2.2);rw[h2,aza]at h;cases b2
  .rw[azc]at h;have tl:=@tail_op e y.2.2.1 y.2.2.2.2;obtain⟨a,ha⟩:=Kzp e.A;have area:∀x:Option Int,(obnd (cz9 e.A) fun y_3=>brn (!decide (y_3=0)) (some 12) x)=some 0->x=some 0:=fun x hx=>by
    rw[ha,aza]at hx;cases hd:(!decide (a=0))
    .rw[hd,azc]at hx;exact hx
    .rw[hd,azd]at hx;cases hx
   have two:∀x:Option Int,brn (decide (0<y.2.1)) (obnd (cz9 e.A) fun y_3=>brn (!decide (y_3=0)) (some 12) x) x=some 0->x=some 0:=fun x hx=>by
    cases hd:decide (0<y.2.1)
    .rw[hd,azc]at hx;exact hx
    .rw[hd,azd]at hx;exact area x hx
   cases hv:y.1
   .rw[hv,azc]at h;exact tl (two _ h)
   .rw[hv,azd]at h;cases hc:dzL e.V with
    | none=>rw[hc]at h;cases h
    | some c =>
     rw[hc,aza]at h;cases hd:(!decide (c=0))
     .rw[hd,azc]at h;cases hd:decide (e.V.Kind=0)
      .rw[hd,azc]at h;exact tl (two _ h)
      .rw[hd,azd]at h;cases h
     .rw[hd,azd]at h;injection h with h;simp[h]at hd
  .rw[azd]at h;cases h
 .rw[azd]at h;cases h
def b8 (x:Int):UInt8:=UInt8.ofNat (u8.wrap x).toNat
def cnB (v:Val):List UInt8:=if v.Kind=1 then 31::(lw 8 (u64.wrap v.N.M)++[b8 v.N.S])else if v.Kind=2 then 23::(if(azW v.S).2=0 then stB v.S else [])else if v.Kind=3 then [29,if v.B then 1 else 0]else [28,b8 v.E]
def tok (e:Expr):List UInt8:=if e.Kind=1 then cnB e.V else if e.Kind=2 then 36::rfB e.A.A else if e.Kind=3 then 37::(rfB e.A.A++rfB e.A.B)else if e.Kind=4 then [58,b8 e.Sheet]++rfB e.A.A else if e.Kind=5 then [59,b8 e.Sheet]++(rfB e.A.A++rfB e.A.B)else if e.Kind=6 then 35::lw 2 e.Op else if e.Kind=7 then [if e.Op=1 then 19 else if e.Op=2 then 18 else 20]else if e.Kind=8 then [b8 (2+e.Op)]else if e.Kind=9 then [34,b8 e.Kids.length,b8 e.Op]else [21]
theorem flat_le {A B:Type}{f:A->List B}{k:Nat}(h:∀a,(f a).length<=k):∀l:List A,(l.flatMap f).length<=k*l.length
 | []=>by simp
 | a::l=>by rw[List.flatMap_cons,List.length_append,List.length_cons];have:=h a;have:=flat_le h l;rw[Nat.mul_add];omega
theorem stB_le {x:List UInt8}(h:(azW x).2=0):(stB x).length<=2003:=by
 obtain⟨-,h2,-⟩:=nzB h;have:=flat_le (wz4 (nar x)) (us (rs x));rw[ozE]at this;simp only[stB,List.length_append,czk,List.length_cons,List.length_nil];omega
theorem cnB_le (v:Val):(cnB v).length<=2004:=by
 unfold cnB;split
 .simp[czk]
 .split
  .rw[List.length_cons];split
   .have:=stB_le (x:=v.S) (by assumption);omega
   .simp
  .split<;>simp
theorem tok_le (e:Expr):(tok e).length<=2004:=by
 unfold tok;have:=cnB_le e.V
 repeat' split
 all_goals (try simp[xz0,czk]);try omega
theorem const_is {b:List UInt8}{v:Val}(hb:b.length<=90000000)(hl:v.S.length<=3000):ozR (b,v)=some (b++cnB v):=by
 unfold ozR cnB;simp only;by_cases h1:v.Kind=1
 .rw[dT0 h1,azd,if_pos h1,appN (by simp;omega),aza];have:=xzE (b:=b++[UInt8.ofNat 31]) (v:=u64.wrap v.N.M) (n:=8) (by omega) (by simp;omega);unfold Aze;rw[show((8:Nat):Int)=8 from rfl]at this;simp only;rw[this,aza,aza,appN (by simp[czk];omega)];simp[b8]
 rw[dF0 h1,azc,if_neg h1];by_cases h2:v.Kind=2
 .rw[dT0 h2,azd,if_pos h2,appN (by simp;omega),aza,put_is (by simp;omega) (by omega),aza];simp only;split<;>simp
 rw[dF0 h2,azc,if_neg h2];by_cases h3:v.Kind=3
 .rw[dT0 h3,azd,if_pos h3];cases v.B
  .rw[azc,appN (by simp;omega)];rfl
  .rw[azd,appN (by simp;omega)];rfl
 rw[dF0 h3,azc,if_neg h3,appN (by simp;omega)];rfl
theorem rowR {e:Expr}(hk:okK e)(h0:2<=e.Kind)(h1:e.Kind<=5):(0<=e.A.A.Row/\e.A.A.Row<65536)/\(0<=e.A.B.Row/\e.A.B.Row<65536):=by
 have:=hk.2.2.2.2.2.2.2 h0 h1;rw[vzT]at this;cases hg:gd e.A.A&&gd e.A.B
 .rw[hg]at this;cases this
 .simp[gd]at hg;omega
theorem token_is {b:List UInt8}{e:Expr}(hb:b.length<=80000000)(hl:e.V.S.length<=3000)(ho:opR e):szW (b,e)=some (b++tok e):=by
 unfold szW tok;simp only;by_cases h1:e.Kind=1
 .rw[dT0 h1,azd,if_pos h1,const_is (by omega) hl];rfl
 rw[dF0 h1,azc,if_neg h1];by_cases h2:e.Kind=2
 .rw[dT0 h2,azd,if_pos h2,appN (by simp;omega),aza,BzJ (by simp;omega) (by simp)];simp
 rw[dF0 h2,azc,if_neg h2];by_cases h3:e.Kind=3
 .rw[dT0 h3,azd,if_pos h3,appN (by simp;omega),aza,BzJ (by simp;omega) (by simp)];simp
 rw[dF0 h3,azc,if_neg h3];by_cases h4:e.Kind=4
 .rw[dT0 h4,azd,if_pos h4,appN (by simp;omega),aza,BzJ (by simp;omega) (by simp)];simp[b8]
 rw[dF0 h4,azc,if_neg h4];by_cases h5:e.Kind=5
 .rw[dT0 h5,azd,if_pos h5,appN (by simp;omega),aza,BzJ (by simp;omega) (by simp)];simp[b8]
 rw[dF0 h5,azc,if_neg h5];by_cases h6:e.Kind=6
 .rw[dT0 h6,azd,if_pos h6,appN (by simp;omega),aza];simp[lw2]
 rw[dF0 h6,azc,if_neg h6];by_cases h7:e.Kind=7
 .obtain⟨a,c⟩:=ho.2.1 h7;rw[dT0 h7,azd,if_pos h7];rcases(by omega:e.Op=1\/e.Op=2\/e.Op=3)with h|h|h<;>rw[h]
  .rw[show idx [UInt8.ofNat 19,UInt8.ofNat 18,UInt8.ofNat 20] (i64.wrap (1-1))=some 19 from rfl,aza,appN (by simp;omega)];rfl
  .rw[show idx [UInt8.ofNat 19,UInt8.ofNat 18,UInt8.ofNat 20] (i64.wrap (2-1))=some 18 from rfl,aza,appN (by simp;omega)];rfl
  .rw[show idx [UInt8.ofNat 19,UInt8.ofNat 18,UInt8.ofNat 20] (i64.wrap (3-1))=some 20 from rfl,aza,appN (by simp;omega)];rfl
 rw[dF0 h7,azc,if_neg h7];by_cases h8:e.Kind=8
 .obtain⟨a,c⟩:=ho.2.2.1 h8;rw[dT0 h8,azd,if_pos h8,show u8.wrap e.Op=e.Op from mzK ⟨by show(0:Int)<=_;omega,by show _<=(255:Int);omega⟩,appN (by simp;omega)];rfl
 rw[dF0 h8,azc,if_neg h8];by_cases h9:e.Kind=9
 .rw[dT0 h9,azd,if_pos h9,appN (by simp;omega)];rfl
 rw[dF0 h9,azc,if_neg h9,appN (by simp;omega)];rfl
theorem refTok_is {b:List UInt8}{e:Expr}(hb:b.length<=80000000)(hl:e.V.S.length<=3000)(hk:okK e)(ho:opR e)
 {self:List UInt8×Expr->Option (List UInt8)} {b0:List UInt8} (h0:ozS self (b0,e,0)=some b):fzj self (b0,e)=some (b++tok e):=by
 unfold fzj tok;simp only[azj];rw[h0,aza];by_cases h1:e.Kind=1
 .rw[dT0 h1,azd,if_pos h1];unfold cnB;by_cases v1:e.V.Kind=1
  .rw[dT0 v1,azd,if_pos v1,appN (by simp;omega),aza];have:=ez2 (b:=b++[UInt8.ofNat 31]) (v:=u64.wrap e.V.N.M) (n:=8) (by omega) (by simp;omega);rw[show((8:Nat):Int)=8 from rfl]at this;rw[this,aza,appN (by simp[czk];omega)];simp[b8]
  rw[dF0 v1,azc,if_neg v1];by_cases v2:e.V.Kind=2
  .rw[dT0 v2,azd,if_pos v2,appN (by simp;omega),aza,LzN (by simp;omega) (by omega),aza];simp only;split<;>simp
  rw[dF0 v2,azc,if_neg v2];by_cases v3:e.V.Kind=3
  .rw[dT0 v3,azd,if_pos v3];cases e.V.B
   .rw[azc,appN (by simp;omega)];rfl
   .rw[azd,appN (by simp;omega)];rfl
  rw[dF0 v3,azc,if_neg v3,appN (by simp;omega)];rfl
 rw[dF0 h1,azc,if_neg h1];by_cases h2:e.Kind=2
 .obtain⟨⟨r0,r1⟩,r2,r3⟩:=rowR hk (by omega) (by omega);rw[dT0 h2,azd,if_pos h2,appN (by simp;omega),aza,pzr (by simp;omega) r0 r1];simp
 rw[dF0 h2,azc,if_neg h2];by_cases h3:e.Kind=3
 .obtain⟨⟨r0,r1⟩,r2,r3⟩:=rowR hk (by omega) (by omega);rw[dT0 h3,azd,if_pos h3,appN (by simp;omega),aza,pzr (by simp;omega) r0 r1,aza,pzr (by simp[xz0];omega) r2 r3];simp
 rw[dF0 h3,azc,if_neg h3];by_cases h4:e.Kind=4
 .obtain⟨⟨r0,r1⟩,r2,r3⟩:=rowR hk (by omega) (by omega);rw[dT0 h4,azd,if_pos h4,appN (by simp;omega),aza,pzr (by simp;omega) r0 r1];simp[b8]
 rw[dF0 h4,azc,if_neg h4];by_cases h5:e.Kind=5
 .obtain⟨⟨r0,r1⟩,r2,r3⟩:=rowR hk (by omega) (by omega);rw[dT0 h5,azd,if_pos h5,appN (by simp;omega),aza,pzr (by simp;omega) r0 r1,aza,pzr (by simp[xz0];omega) r2 r3];simp[b8]
 rw[dF0 h5,azc,if_neg h5];by_cases h6:e.Kind=6
 .obtain⟨a,c⟩:=ho.1 h6;rw[dT0 h6,azd,if_pos h6,appN (by simp;omega),aza,Hzk a (by omega)];have:=ez2 (b:=b++[UInt8.ofNat 35]) (v:=e.Op) (n:=2) (by omega) (by simp;omega);rw[show((2:Nat):Int)=2 from rfl]at this;rw[this];simp
 rw[dF0 h6,azc,if_neg h6];by_cases h7:e.Kind=7
 .obtain⟨a,c⟩:=ho.2.1 h7;rw[dT0 h7,azd,if_pos h7];rcases(by omega:e.Op=1\/e.Op=2\/e.Op=3)with h|h|h<;>rw[h]
  .rw[show idx [(19:Int),18,20] (i64.wrap (1-1))=some 19 from rfl,aza,appN (by simp;omega)];rfl
  .rw[show idx [(19:Int),18,20] (i64.wrap (2-1))=some 18 from rfl,aza,appN (by simp;omega)];rfl
  .rw[show idx [(19:Int),18,20] (i64.wrap (3-1))=some 20 from rfl,aza,appN (by simp;omega)];rfl
 rw[dF0 h7,azc,if_neg h7];by_cases h8:e.Kind=8
 .obtain⟨a,c⟩:=ho.2.2.1 h8;rw[dT0 h8,azd,if_pos h8,azG (by omega) (by omega),appN (by simp;omega)];rfl
 rw[dF0 h8,azc,if_neg h8];by_cases h9:e.Kind=9
 .rw[dT0 h9,azd,if_pos h9,appN (by simp;omega)];rfl
 rw[dF0 h9,azc,if_neg h9,appN (by simp;omega)];rfl
def pb:Nat->Expr->List UInt8
 | 0,_=>[]
 | d+1,e=>e.Kids.flatMap (pb d)++tok e
theorem pb_le:∀(d:Nat) (e:Expr),(pb d e).length<=2004*sz d e
 | 0,_=>by simp[pb]
 | d+1,e=>by
  have key:∀l:List Expr,(l.flatMap (pb d)).length<=2004*(l.map (sz d)).sum:=fun l=>by
   induction l with
   | nil=>simp
   | cons a l ih=>rw[List.flatMap_cons,List.length_append,List.map_cons,List.sum_cons];have:=pb_le d a;omega
  have:=key e.Kids;have:=tok_le e
  show(e.Kids.flatMap (pb d)++tok e).length<=2004*(1+(e.Kids.map (sz d)).sum)
  rw[List.length_append];omega
theorem sz_take {d:Nat}{e:Expr}(i:Nat):((e.Kids.take i).flatMap (pb d)).length+2004<=2004*sz (d+1) e:=by
 have key:∀l:List Expr,(l.flatMap (pb d)).length<=2004*(l.map (sz d)).sum:=fun l=>by
  induction l with
  | nil=>simp
  | cons a l ih=>rw[List.flatMap_cons,List.length_append,List.map_cons,List.sum_cons];have:=pb_le d a;omega
 have h1:=key (e.Kids.take i);have h2:((e.Kids.take i).map (sz d)).sum<=(e.Kids.map (sz d)).sum:=by
  conv=>rhs;rw[<-List.take_append_drop i e.Kids,List.map_append,List.sum_append]
  omega
 show _<=2004*(1+(e.Kids.map (sz d)).sum)
 omega
theorem sz_takeK {d:Nat}{e:Expr}{i:Nat}(hi:i<e.Kids.length):((e.Kids.take i).flatMap (pb d)).length+2004*sz d e.Kids[i]<=2004*sz (d+1) e:=by
 have key:∀l:List Expr,(l.flatMap (pb d)).length<=2004*(l.map (sz d)).sum:=fun l=>by
  induction l with
  | nil=>simp
  | cons a l ih=>rw[List.flatMap_cons,List.length_append,List.map_cons,List.sum_cons];have:=pb_le d a;omega
 have h1:=key (e.Kids.take i);have h2:((e.Kids.take i).map (sz d)).sum+sz d e.Kids[i]<=(e.Kids.map (sz d)).sum:=by
  conv=>rhs;rw[<-List.take_append_drop i e.Kids,List.map_append,List.sum_append]
  rw[List.drop_eq_getElem_cons hi,List.map_cons,List.sum_cons];omega
 show _<=2004*(1+(e.Kids.map (sz d)).sum)
 omega
def gN:Nat->Expr->Prop
 | 0,_=>False
 | d+1,e=>fze e=some 0/\∀k∈e.Kids,gN d k
theorem fb0 {f:Expr->Int}:∀{l:List Expr},fb f l=0->∀e∈l,f e=0
 | [],_,e,h=>by cases h
 | a::l,h,e,he=>by
  unfold fb at h;split at h
  .rcases List.mem_cons.1 he with rfl|he
   .assumption
   .exact fb0 h e he
  .contradiction
theorem gN_of:∀(d:Nat) (k:Int) (e:Expr),tr d e->(∀x∈pre d k e,nd x.e=0)->gN d e
 | 0,_,_,h,_=>h.elim
 | d+1,k,e,ht,h=>by
  refine⟨?_,fun x hx=>gN_of d (k+1) x (nzA ht hx) fun y hy=>h y ?_⟩
  .have:=h ⟨e,k⟩ (by simp[pre]);rw[(nd_is ht.1).2];rw[this]
  .simp only[pre,List.mem_cons,List.mem_flatMap];exact .inr ⟨x,hx,hy⟩
theorem ck0 {e:Expr}(ht:tr 40 e)(h:ck e=0):gN 40 e/\dp 40 e<=16:=by
 unfold ck at h;split at h
 .cases h
 .split at h
  .cases h
  .exact⟨gN_of 40 1 e ht fun x hx=>fb0 h x.e (List.mem_map_of_mem hx),by omega⟩
theorem puts_is:∀(d N:Nat) (e:Expr) (b:List UInt8),d<N->sz d e<=1000->tr d e->gN d e->b.length+2004*sz d e<=80000000 ->
 iter jzv N (b,e)=some (b++pb d e)/\iter fzj N (b,e)=some (b++pb d e)
 | _,0,_,_,h,_,_,_,_=>absurd h (by omega)
 | 0,_,_,_,_,_,h,_,_=>h.elim
 | d+1,N+1,e,b,hN,hs,ht,hg,hb=>by
  have hl:=lenK hs;obtain⟨r,hr,hok⟩:=Izf ht.1;have hok:=hok (by have:=hg.1;rw[hr]at this;injection this);have hop:=op_is hg.1;have hk:∀i (hi:i<e.Kids.length) (s:List UInt8),s=b++(e.Kids.take i).flatMap (pb d)->iter jzv N (s,e.Kids[i])=some (s++pb d e.Kids[i])/\iter fzj N (s,e.Kids[i])=some (s++pb d e.Kids[i]):=fun i hi s hs'=>by
   refine puts_is d N _ s (by omega) (szK hs (List.getElem_mem hi)) (nzA ht (List.getElem_mem hi)) (hg.2 _ (List.getElem_mem hi)) ?_;have:=sz_takeK (d:=d) (e:=e) hi;rw[hs',List.length_append];omega
  rw[azw,azw];generalize iter jzv N=S at hk;generalize iter fzj N=S' at hk;have nxt:∀(s:List UInt8) i (hi:i<e.Kids.length) (s':List UInt8),s=b++(e.Kids.take i).flatMap (pb d)->(.inl (s++pb d e.Kids[i]):List UInt8⊕List UInt8) = .inl s'->s'=b++(e.Kids.take (i+1)).flatMap (pb d):=fun s i hi s' h1 h2=>by
   injection h2 with h2;rw[<-h2,h1,List.take_succ_eq_append_getElem hi,List.flatMap_append];simp
  have p1:=bzV (F:=mzF S) (fun(s:List UInt8) (i:Nat)=>(s,e.Kids,(e.Kids.length:Int),(i:Int))) id e.Kids (fun s x=>(.inl (s++pb d x):List UInt8⊕List UInt8)) id (fun s i=>s=b++(e.Kids.take i).flatMap (pb d)) (by omega)
   (fun back s i hi hp=>by
    unfold mzF;simp only[azj];rw[ltT hi,azd,idxG hi,aza,(hk i hi s hp).1,aza,wr1 (by omega)];rfl)
   nxt
   (fun back s _=>by unfold mzF;simp only;rw[ltF];rfl) b (by simp)
  have p2:=bzV (F:=jz3 S') (fun(s:List UInt8) (i:Nat)=>(s,e,(i:Int))) id e.Kids (fun s x=>(.inl (s++pb d x):List UInt8⊕List UInt8)) id (fun s i=>s=b++(e.Kids.take i).flatMap (pb d)) (by omega)
   (fun back s i hi hp=>by
    unfold jz3;simp only[azj];rw[ltT hi,azd,idxG hi,aza,(hk i hi s hp).2,aza,wr1 (by omega)];rfl)
   nxt
   (fun back s _=>by unfold jz3;simp only;rw[ltF];rfl) b (by simp)
  rw[dzj,kzc]at p1 p2;have hkl:(b++e.Kids.flatMap (pb d)).length<=80000000:=by
   have:=sz_take (d:=d) (e:=e) e.Kids.length;rw[List.take_length]at this;rw[List.length_append];omega
  constructor
  .unfold jzv;simp only[azj];rw[show vzr S (b,e.Kids,(e.Kids.length:Int),0)=_ from p1];simp only[aza,id];rw[token_is hkl ht.1 hop];simp[pb]
  .rw[refTok_is hkl ht.1 hok hop (show ozS S' (b,e,0)=_ from p2)];simp[pb]
def enc1 (e:Expr):List UInt8×Int:=if ck e=0 then(if 4096<(pb 40 e).length then([],4)else(pb 40 e,0))else([],ck e)
theorem lzM {e:Expr}(hs:sz 40 e<=1000)(ht:tr 40 e):mzE e=some (enc1 e)/\izv e=some (enc1 e):=by
 unfold mzE izv enc1;rw[azj,KzK hs ht,Kzy hs ht];simp only[aza];by_cases h:ck e=0
 .obtain⟨p1,p2⟩:=puts_is 40 big e [] (by rw[bzH];omega) hs ht (ck0 ht h).1 (by simp;omega);rw[dT0 h,if_pos h,show(!true)=false from rfl,azc,azc,show Ezj ([],e)=_ from p1,show xzN ([],e)=_ from p2];simp only[aza,List.nil_append,brnI,decide_eq_true_eq];by_cases h4:4096<(pb 40 e).length
  .rw[if_pos (by omega),if_pos h4];exact⟨rfl,rfl⟩
  .rw[if_neg (by omega),if_neg h4];exact⟨rfl,rfl⟩
 .rw[dF0 h,if_neg h];exact⟨rfl,rfl⟩
theorem scan {S X Y:Type}{F:(X->Option Y)->X->Option Y}(mk:S->Nat->X)(n:Nat)(Q:S->Nat->Prop)(P:Y->Prop)(hn:n<=1000000000)
 (step:∀back s i,i<n->Q s i->(∃y,F back (mk s i)=some y/\P y)\/∃s',F back (mk s i)=back (mk s' (i+1))/\Q s' (i+1))
 (fin:∀back s,Q s n->∃y,F back (mk s n)=some y/\P y) (s:S) (h0:Q s 0):∃y,iter F big (mk s 0)=some y/\P y:=by
 have key:∀k N i s,i+k=n->k<N->Q s i->∃y,iter F N (mk s i)=some y/\P y:=by
  intro k;induction k with
  | zero =>
   intro N i s hi hN hq;obtain⟨m,rfl⟩:∃m,N=m+1:=⟨N-1,by omega⟩;have:i=n:=by omega
   subst this;rw[azw];exact fin _ s hq
  | succ k ih =>
   intro N i s hi hN hq;obtain⟨m,rfl⟩:∃m,N=m+1:=⟨N-1,by omega⟩;rw[azw];rcases step (iter F m) s i (by omega) hq with h|⟨s',h1,h2⟩
   .exact h
   .rw[h1];exact ih m (i+1) s' (by omega) (by omega) h2
 exact key n big 0 s (by omega) (by rw[bzH];omega) h0
theorem layout_l2 {bs:List UInt8}{cuts:List Int}{base w:Int}{us:List Int}(hw:w=1\/w=2)(hb:bs.length<=100000000)(hc:cuts.length<=100000000)(hu:us.length<=10000000):
 ∃y,ezp (bs,cuts,base,us,w,0)=some y/\(y.1.length<=bs.length+3*us.length/\y.2.1.length<=cuts.length+us.length):=by
 refine scan (F:=ez1) (fun(s:List UInt8×List Int×Int) (i:Nat)=>(s.1,s.2.1,s.2.2,us,w,(i:Int))) us.length (fun s i=>s.1.length<=bs.length+3*i/\s.2.1.length<=cuts.length+i) _ (by omega) ?_ ?_ (bs,cuts,base) (by simp)
 .rintro back ⟨b,c,p⟩ i hi ⟨h1,h2⟩;right;simp only at h1 h2;unfold ez1;simp only;rw[ltT hi,azd,idxG hi,wr1 (by omega)];cases decide (224<i64.wrap (i64.wrap ((b.length:Int)-p)+w))
  .rw[azc,aza,appN (by simp;omega),aza,aza];rcases hw with rfl|rfl
   .exact⟨(_,_,_),rfl,by simp;omega,by simp;omega⟩
   .rw[show decide ((2:Int)=2)=true from rfl,azd,appN (by simp;omega),aza];exact⟨(_,_,_),rfl,by simp;omega,by simp;omega⟩
  .rw[azd,appN (by simp;omega),aza,appN (by simp;omega),aza,aza,appN (by simp;omega),aza,aza];rcases hw with rfl|rfl
   .exact⟨(_,_,_),rfl,by simp;omega,by simp;omega⟩
   .rw[show decide ((2:Int)=2)=true from rfl,azd,appN (by simp;omega),aza];exact⟨(_,_,_),rfl,by simp;omega,by simp;omega⟩
 .rintro back ⟨b,c,p⟩ h;unfold ez1;simp only;rw[ltF,azc];exact⟨_,rfl,h⟩
def okT (l:List (List UInt8)):Prop:=∀x∈l,(azW x).2=0
theorem layout_is {x:Table}(hl:x.Texts.length<=1000)(hs:dzg x.Texts)(ht:okT x.Texts):
 ∃y,lzC x=some y/\(y.1.length<=10000000/\y.2.1.length<=10000000/\y.2.2.length<=1000):=by
 unfold lzC;have p1:=ez2 (b:=[]) (v:=u64.wrap x.Uses) (n:=4) (by omega) (by simp);have p2:=ez2 (b:=[]++lw 4 (u64.wrap x.Uses)) (v:=u64.wrap (x.Texts.length:Int)) (n:=4) (by omega) (by simp[czk]);rw[show((4:Nat):Int)=4 from rfl]at p1 p2;rw[p1,aza,p2,aza];generalize hb0:[]++lw 4 (u64.wrap x.Uses)++lw 4 (u64.wrap (x.Texts.length:Int))=b0;have hb0:b0.length=8:=by rw[<-hb0];simp[czk]
 have:=scan (F:=ez0) (fun(s:List UInt8×List Int×List Int×Int) (i:Nat)=>(x,s.1,s.2.1,s.2.2.1,s.2.2.2,(i:Int))) x.Texts.length
  (fun s i=>s.1.length<=8+3003*i/\s.2.1.length<=1001*i/\s.2.2.1.length<=i) (fun y=>y.1.length<=10000000/\y.2.1.length<=10000000/\y.2.2.length<=1000) (by omega)
  (by
   rintro back ⟨b,c,st,p⟩ i hi ⟨h1,h2,h3⟩;right;simp only at h1 h2 h3;have hm:=hs _ (List.getElem_mem hi);obtain⟨u1,u2,-⟩:=nzB (ht _ (List.getElem_mem hi));rw[<-ozE]at u2;have hrl:=rzS x.Texts[i];unfold ez0;simp only;rw[ltT hi,azd,idxG hi,wr1 (by omega),aza,ozu (by omega),if_pos u1,aza,tz7 (by omega) (EzJ _),aza,aza,tz6 (by omega) u1,aza];generalize us (rs x.Texts[i])=u at *;have go:∀(w:Int) (hw:w=1\/w=2) (b':List UInt8) (c':List Int) (p':Int) (st':List Int),b'.length<=b.length+3->c'.length<=c.length+1->st'.length<=st.length+1 ->
    ∃s':List UInt8×List Int×List Int×Int,(obnd (ezp (b',c',p',u,w,0)) fun y=>back (x,y.1,y.2.1,st',y.2.2,((i+1:Nat):Int)))=back (x,s'.1,s'.2.1,s'.2.2.1,s'.2.2.2,((i+1:Nat):Int))/\(s'.1.length<=8+3003*(i+1)/\s'.2.1.length<=1001*(i+1)/\s'.2.2.1.length<=i+1):=by
    intro w hw b' c' p' st' g1 g2 g3;obtain⟨y,e1,e2,e3⟩:=layout_l2 (base:=p') (us:=u) (w:=w) (bs:=b') (cuts:=c') hw (by omega) (by omega) (by omega);rw[e1,aza];exact⟨(y.1,y.2.1,st',y.2.2),rfl,Nat.le_trans e2 (by omega),Nat.le_trans e3 (by omega),Nat.le_trans g3 (by omega)⟩
   cases nar x.Texts[i]
   .rw[azc];cases decide (224<i64.wrap (i64.wrap ((b.length:Int)-p)+3))
    .rw[azc,appN (by simp;omega),aza,appN (by simp;omega),aza];exact go 2 (.inr rfl) _ _ _ _ (by simp) (by simp) (by simp)
    .rw[azd,appN (by simp;omega),aza,appN (by simp;omega),aza,appN (by simp;omega),aza];exact go 2 (.inr rfl) _ _ _ _ (by simp) (by simp) (by simp)
   .rw[azd];cases decide (224<i64.wrap (i64.wrap ((b.length:Int)-p)+3))
    .rw[azc,appN (by simp;omega),aza,appN (by simp;omega),aza];exact go 1 (.inl rfl) _ _ _ _ (by simp) (by simp) (by simp)
    .rw[azd,appN (by simp;omega),aza,appN (by simp;omega),aza,appN (by simp;omega),aza];exact go 1 (.inl rfl) _ _ _ _ (by simp) (by simp) (by simp))
  (by
   rintro back ⟨b,c,st,p⟩ ⟨h1,h2,h3⟩;simp only at h1 h2 h3;unfold ez0;simp only;rw[ltF,azc];exact⟨_,rfl,by simp only;omega,by simp only;omega,by simp only;omega⟩) (b0,[],[],0) (by simp[hb0])
 obtain⟨y,e1,e2⟩:=this;exact⟨_,by rw[show mz0 (x,b0,[],[],0,0)=_ from e1,aza],e2⟩
theorem ezb {α:Type}{b:Bool}{x y:Option α}(hx:∃n,x=some n)(hy:∃n,y=some n):∃n,brn b x y=some n:=by cases b<;>assumption
theorem uzk {i:Nat}(h:0<i)(h1:i<=1000000000):i64.wrap ((i:Int)-1)=((i-1:Nat):Int):=by rw[azG (by omega) (by omega)];omega
theorem table_l1 {x:Table}(hl:x.Texts.length<=1000)(hs:dzg x.Texts):∃z,jzT (x,0)=some z/\((∃e,z = .inr e/\e≠0)\/z = .inl ()/\∀i,i<x.Texts.length->∀h:i<x.Texts.length,(azW x.Texts[i]).2=0):=by
 refine cz7 (F:=dzy) (fun i=>(x,(i:Int))) x.Texts.length (fun i=>∀h:i<x.Texts.length,(azW x.Texts[i]).2=0) (fun z=>∃e,z = .inr e/\e≠0) (.inl ()) (by omega) ?_ ?_
 .intro back i hi;have hm:=hs _ (List.getElem_mem hi);unfold dzy;simp only;rw[ltT hi,azd,idxG hi,aza,hzw (by omega),aza,wr1 (by omega)];by_cases h:(azW x.Texts[i]).2=0
  .rw[dT0 h];exact .inl ⟨rfl,fun _=>h⟩
  .rw[dF0 h];exact .inr ⟨_,rfl,_,rfl,h⟩
 .intro back;unfold dzy;simp only;rw[ltF];rfl
theorem table_l3 {x:Table}{n:Nat}(hl:x.Texts.length<=1000)(hn:n<x.Texts.length):∃z,jzV (x,(n:Int),0)=some z/\(z = .inr 7\/z = .inl ()/\∀i,i<n->True):=by
 refine cz7 (F:=dzA) (fun i=>(x,(n:Int),(i:Int))) n (fun i=>True) (fun z=>z = .inr 7) (.inl ()) (by omega) ?_ ?_
 .intro back i hi;unfold dzA;simp only;rw[ltT hi,azd,idxG (by omega:i<x.Texts.length),idxG hn,aza,aza,wr1 (by omega)];cases decide (x.Texts[i]=x.Texts[n])
  .exact .inl ⟨rfl,trivial⟩
  .exact .inr ⟨_,rfl,rfl⟩
 .intro back;unfold dzA;simp only;rw[ltF];rfl
theorem table_l2 {x:Table}(hl:x.Texts.length<=1000):∃z,jzU (x,0)=some z/\(z = .inr 7\/z = .inl ()/\∀i,i<x.Texts.length->True):=by
 refine cz7 (F:=dzz) (fun i=>(x,(i:Int))) x.Texts.length (fun i=>True) (fun z=>z = .inr 7) (.inl ()) (by omega) ?_ ?_
 .intro back i hi;unfold dzz;simp only;obtain⟨z,h1,h2⟩:=table_l3 hl hi;rw[ltT hi,azd,h1,aza,wr1 (by omega)];rcases h2 with rfl|⟨rfl,-⟩
  .exact .inr ⟨_,rfl,rfl⟩
  .exact .inl ⟨rfl,trivial⟩
 .intro back;unfold dzz;simp only;rw[ltF];rfl
theorem JzL {x:Table}(hl:x.Texts.length<=1000)(hs:dzg x.Texts):∃r,gzZ x=some r/\(r=0->okT x.Texts):=by
 unfold gzZ;obtain⟨z,h1,h2⟩:=table_l1 hl hs;obtain⟨z',h3,h4⟩:=table_l2 hl;rw[dF0 (by omega),azc,h1,aza];rcases h2 with⟨e,rfl,he⟩|⟨rfl,h2⟩
 .exact⟨_,rfl,fun h=>absurd h he⟩
 .have ok:okT x.Texts:=fun t ht=>by
   obtain⟨i,hi,rfl⟩:=List.mem_iff_getElem.1 ht;exact h2 i hi hi
  simp only[osum];rw[h3,aza];rcases h4 with rfl|⟨rfl,-⟩
  .exact⟨_,rfl,fun h=>ok⟩
  .simp only;obtain⟨r,hr⟩:=ezb (b:=decide (x.Uses<(x.Texts.length:Int))) (x:=some (1:Int)) (y:=brn (decide (2147483647<x.Uses)) (some 1) (some 0)) ⟨_,rfl⟩ (ezb ⟨_,rfl⟩ ⟨_,rfl⟩);exact⟨r,hr,fun _=>ok⟩
theorem zzF {x:Rec}(hl:x.Data.length<=100000000):∃r,lzy x=some r:=by
 have:∃y,qzc ([],⟨x.Type_,x.Data,[],x.At⟩,224)=some y/\True:=by
  refine nzM (F:=mzY) (fun z=>(x.Data.length+224-z.2.2.toNat)) (fun z=>∃(c:List Int) (r:Rec) (i:Nat),z=(c,r,(i:Int))/\r.Data=x.Data/\c.length<=i/\i<=x.Data.length+224) _ ?_ _ ⟨[],_,224,rfl,rfl,by simp,by omega⟩ (by simp only;omega);rintro back z ⟨c,r,i,rfl,h1,h2,h3⟩ hb;unfold mzY;simp only at hb ⊢;rw[h1];by_cases h:i<x.Data.length
  .rw[dT0 (by omega),azd,appN (by simp;omega),aza,azG (by omega) (by omega)];exact hb _ ⟨_,_,i+224,rfl,rfl,by simp;omega,by omega⟩ (by simp only;omega)
  .rw[dF0 (by omega),azc];exact⟨_,rfl,trivial⟩
 obtain⟨y,h,-⟩:=this;unfold lzy;exact⟨_,by rw[h,aza]⟩
theorem rec_l1 {x:Rec}(hl:x.Cuts.length<=100000000):∃z,kzT (x,0,0)=some z:=by
 have:=scan (F:=ezj) (fun(s:Int) (i:Nat)=>(x,s,(i:Int))) x.Cuts.length (fun _ _=>True) (fun _=>True) (by omega)
  (by
   intro back s i hi _;unfold ezj;simp only;rw[ltT hi,azd,idxG hi,wr1 (by omega)];simp only[aza];cases decide (x.Cuts[i]<=s)
   .rw[azc];cases decide ((x.Data.length:Int)<=x.Cuts[i])
    .exact .inr ⟨_,rfl,trivial⟩
    .exact .inl ⟨_,rfl,trivial⟩
   .exact .inl ⟨_,rfl,trivial⟩)
  (by
   intro back s _;unfold ezj;simp only;rw[ltF];exact⟨_,rfl,trivial⟩) 0 trivial
 obtain⟨z,h,-⟩:=this;exact⟨z,h⟩
theorem rec_l2 {x:Rec}(hl:x.Cuts.length<=100000000):∃z,kzU (x,0,0)=some z:=by
 have:=scan (F:=ezk) (fun(s:Int) (i:Nat)=>(x,s,(i:Int))) x.Cuts.length (fun _ _=>True) (fun _=>True) (by omega)
  (by
   intro back s i hi _;unfold ezk;simp only;rw[ltT hi,azd,idxG hi,wr1 (by omega)];simp only[aza];cases decide (224<i64.wrap (x.Cuts[i]-s))
   .exact .inr ⟨_,rfl,trivial⟩
   .exact .inl ⟨_,rfl,trivial⟩)
  (by
   intro back s _;unfold ezk;simp only;rw[ltF];exact⟨_,rfl,trivial⟩) 0 trivial
 obtain⟨z,h,-⟩:=this;exact⟨z,h⟩
theorem Cz9 {x:Rec}(hl:x.Cuts.length<=100000000):∃r,ezR x=some r:=by
 unfold ezR;obtain⟨z,h1⟩:=rec_l1 hl;obtain⟨z',h2⟩:=rec_l2 hl;rw[h1,h2];refine ezb ⟨_,rfl⟩ (ezb ⟨_,rfl⟩ (ezb ⟨_,rfl⟩ (ezb ⟨_,rfl⟩ ?_)));rw[aza,aza];rcases z with z|z
 .rcases z' with z'|z'
  .exact ezb ⟨_,rfl⟩ ⟨_,rfl⟩
  .exact⟨_,rfl⟩
 .exact⟨_,rfl⟩
theorem table_e1 {l:List Int}{b:List UInt8}(hl:l.length<=1000)(hb:b.length<=1000):∃y,izW (l,b,0)=some y/\y.length<=1000000:=by
 refine nzM (F:=izV) (fun z=>l.length+8-z.2.2.toNat) (fun z=>∃(c:List UInt8) (i:Nat),z=(l,c,(i:Int))/\c.length<=1000+4*i/\i<=l.length+8) _ ?_ _ ⟨b,0,rfl,by omega,by omega⟩ (by simp only;omega);rintro back z ⟨c,i,rfl,h1,h2⟩ hbk;unfold izV;simp only at hbk ⊢;by_cases h:i<l.length
 .have:=ez2 (b:=c) (v:=u64.wrap l[i]) (n:=4) (by omega) (by omega);rw[show((4:Nat):Int)=4 from rfl]at this;rw[dT0 (by omega),azd,idxG h,aza,this,aza,azG (by omega) (by omega)];exact hbk _ ⟨_,i+8,rfl,by simp[czk];omega,by omega⟩ (by simp only;omega)
 .rw[dF0 (by omega),azc];exact⟨_,rfl,by omega⟩
theorem wza {x:Table}(hl:x.Texts.length<=1000)(hs:dzg x.Texts):∃r,ezX x=some r:=by
 unfold ezX;obtain⟨r,hr,hk⟩:=JzL hl hs;rw[hr,aza];by_cases h:r=0
 .obtain⟨y,e1,e2,e3,e4⟩:=layout_is hl hs (hk h);rw[dT0 h,show(!true)=false from rfl,azc,e1,aza];have:=ez2 (b:=[]) (v:=8) (n:=2) (by omega) (by simp);rw[show((2:Nat):Int)=2 from rfl]at this;rw[this,aza];obtain⟨w,w1,w2⟩:=table_e1 (l:=y.2.2) (b:=[]++lw 2 8) e4 (by simp[czk]);obtain⟨c,hc⟩:=Cz9 (x:=⟨252,y.1,y.2.1,0⟩) (by simp only;omega);obtain⟨d,hd⟩:=zzF (x:=⟨255,w,[],0⟩) (by simp only;omega);rw[w1,aza,hc,aza,hd];exact ezb ⟨_,rfl⟩ ⟨_,rfl⟩
 .rw[dF0 h];exact⟨_,rfl⟩
def gdC (x:Cell):Bool:=decide (0<=x.Row)&&(decide (x.Row<65536)&&(decide (0<=x.Col)&&decide (x.Col<256)))
theorem nzK (x:Cell):fzb x=some (gdC x):=by
 unfold fzb gdC;simp only[brnA]
theorem place_tot (p:Place)(n:Int):∃b,gzW (p,n)=some b:=by
 unfold gzW;rw[nzK];exact ezb (ezb ⟨_,rfl⟩ ⟨_,rfl⟩) ⟨_,rfl⟩
theorem chain_is {l:List Place}(hl:l.length<=1000):∃r,ezB l=some r:=by
 unfold ezB;have:=ez2 (b:=[]) (v:=u64.wrap (l.length:Int)) (n:=2) (by omega) (by simp);rw[show((2:Nat):Int)=2 from rfl]at this;rw[dF0 (by omega),azc,this,aza];generalize hb:[]++lw 2 (u64.wrap (l.length:Int))=b0;have hb:b0.length=2:=by rw[<-hb];simp[czk]
 have:=scan (F:=dzf) (fun(s:List UInt8) (i:Nat)=>(l,(⟨0,[],[],0⟩:Rec),s,(i:Int))) l.length (fun s i=>s.length<=2+4*i) (fun y=>match y with | .inl y=>y.1.length<=100000 | .inr _=>True) (by omega)
  (by
   intro back s i hi hs;unfold dzf;simp only;obtain⟨g,hg⟩:=place_tot l[i] 8;have p1:=ez2 (b:=s++[UInt8.ofNat (u8.wrap l[i].Sheet).toNat]) (v:=u64.wrap l[i].At.Row) (n:=2) (by omega) (by simp;omega);rw[show((2:Nat):Int)=2 from rfl]at p1;rw[ltT hi,azd,idxG hi,wr1 (by omega),aza,hg,aza];cases g
   .exact .inl ⟨_,rfl,trivial⟩
   .right;rw[show(!true)=false from rfl,azc,aza,appN (by simp;omega),aza,aza,p1,aza,aza,appN (by simp[czk];omega),aza];exact⟨_,rfl,by simp[czk];omega⟩)
  (by
   intro back s hs;unfold dzf;simp only;rw[ltF,azc];exact⟨_,rfl,by simp only;omega⟩) b0 (by omega)
 obtain⟨y,h1,h2⟩:=this;rw[show izn (l,⟨0,[],[],0⟩,b0,0)=_ from h1,aza];cases y with
 | inl y =>
  obtain⟨r,hr⟩:=zzF (x:=⟨6247,y.1,[],0⟩) (by simp only at h2 ⊢;omega);simp only[osum];rw[hr];exact⟨_,rfl⟩
 | inr y=>exact⟨_,rfl⟩
theorem glob_l3 {x:Globals}{n:Nat}(hl:x.Sheets.length<=1000)(hn:n<x.Sheets.length):∃z,hzn (x,(n:Int),0)=some z/\(z = .inr 7\/z = .inl ()/\∀i,i<n->True):=by
 refine cz7 (F:=czW) (fun i=>(x,(n:Int),(i:Int))) n (fun i=>True) (fun z=>z = .inr 7) (.inl ()) (by omega) ?_ ?_
 .intro back i hi;unfold czW;simp only;rw[ltT hi,azd,idxG (by omega:i<x.Sheets.length),idxG hn,aza,aza,wr1 (by omega)];cases decide (x.Sheets[i]=x.Sheets[n])
  .exact .inl ⟨rfl,trivial⟩
  .exact .inr ⟨_,rfl,rfl⟩
 .intro back;unfold czW;simp only;rw[ltF];rfl
theorem glob_l2 {x:Globals}(hl:x.Sheets.length<=1000)(hs:dzg x.Sheets):∃z,hzm (x,0)=some z/\((∃e,z = .inr e/\e≠0)\/z = .inl ()/\∀i,i<x.Sheets.length->True):=by
 refine cz7 (F:=czV) (fun i=>(x,(i:Int))) x.Sheets.length (fun i=>True) (fun z=>∃e,z = .inr e/\e≠0) (.inl ()) (by omega) ?_ ?_
 .intro back i hi;have hm:=hs _ (List.getElem_mem hi);unfold czV;simp only;obtain⟨z,h1,h2⟩:=glob_l3 hl hi;rw[ltT hi,azd,idxG hi,aza,hzw (by omega),aza,h1,aza,wr1 (by omega)];cases decide ((azW x.Sheets[i]).2=0)
  .exact .inr ⟨_,rfl,_,rfl,by decide⟩
  .cases decide ((azW x.Sheets[i]).1<1)
   .cases decide (31<(azW x.Sheets[i]).1)
    .rcases h2 with rfl|⟨rfl,-⟩
     .exact .inr ⟨_,rfl,_,rfl,by decide⟩
     .exact .inl ⟨rfl,trivial⟩
    .exact .inr ⟨_,rfl,_,rfl,by decide⟩
   .exact .inr ⟨_,rfl,_,rfl,by decide⟩
 .intro back;unfold czV;simp only;rw[ltF];rfl
theorem glob_l4 {x:Globals}(hl:x.Formats.length<=1000)(hs:dzg x.Formats):∃z,hzo (x,0)=some z/\((∃e,z = .inr e/\e≠0)\/z = .inl ()/\∀i,i<x.Formats.length->True):=by
 refine cz7 (F:=czX) (fun i=>(x,(i:Int))) x.Formats.length (fun i=>True) (fun z=>∃e,z = .inr e/\e≠0) (.inl ()) (by omega) ?_ ?_
 .intro back i hi;have hm:=hs _ (List.getElem_mem hi);unfold czX;simp only;rw[ltT hi,azd,idxG hi,aza,hzw (by omega),aza,wr1 (by omega)];by_cases h:(azW x.Formats[i]).2=0
  .rw[dT0 h];exact .inl ⟨rfl,trivial⟩
  .rw[dF0 h];exact .inr ⟨_,rfl,_,rfl,h⟩
 .intro back;unfold czX;simp only;rw[ltF];rfl
theorem glob_l5 {x:Globals}(hl:x.XFs.length<=1000):∃z,hzp (x,0)=some z/\((∃e,z = .inr e/\e≠0)\/z = .inl ()/\∀i,i<x.XFs.length->True):=by
 refine cz7 (F:=czY) (fun i=>(x,(i:Int))) x.XFs.length (fun i=>True) (fun z=>∃e,z = .inr e/\e≠0) (.inl ()) (by omega) ?_ ?_
 .intro back i hi;unfold czY;simp only;rw[ltT hi,azd,idxG hi,wr1 (by omega)];simp only[aza];cases decide (x.XFs[i]<0)
  .cases decide ((x.Formats.length:Int)<=x.XFs[i])
   .exact .inl ⟨rfl,trivial⟩
   .cases decide (x.XFs[i]=0)
    .exact .inr ⟨_,rfl,_,rfl,by decide⟩
    .exact .inl ⟨rfl,trivial⟩
  .exact .inr ⟨_,rfl,_,rfl,by decide⟩
 .intro back;unfold czY;simp only;rw[ltF];rfl
theorem glob_l7 {l:List Expr}(hl:l.length<=1000000):∃z,hzt (l,0)=some z/\((∃e,z = .inr e/\e≠0)\/z = .inl ()/\∀i,i<l.length->∀h:i<l.length,l[i].Kind≠6):=by
 refine cz7 (F:=cz0) (fun i=>(l,(i:Int))) l.length (fun i=>∀h:i<l.length,l[i].Kind≠6) (fun z=>∃e,z = .inr e/\e≠0) (.inl ()) (by omega) ?_ ?_
 .intro back i hi;unfold cz0;simp only;rw[ltT hi,azd,idxG hi,aza,wr1 (by omega)];by_cases h:l[i].Kind=6
  .rw[dT0 h];exact .inr ⟨_,rfl,_,rfl,by decide⟩
  .rw[dF0 h];exact .inl ⟨rfl,fun _=>h⟩
 .intro back;unfold cz0;simp only;rw[ltF];rfl
def Azn (e:Expr):Prop:=ck e=0/\∀x∈rf 40 e,x.Kind≠6
theorem enc0 {e:Expr}(h:(enc1 e).2=0):ck e=0:=by
 unfold enc1 at h;split at h
 .assumption
 .exact h
theorem glob_l6 {x:Globals}(hl:x.Names.length<=1000)(hn:∀e∈x.Names,fewE e):∃z,hzq (x,0)=some z/\((∃e,z = .inr e/\e≠0)\/z = .inl ()/\∀i,i<x.Names.length->∀h:i<x.Names.length,Azn x.Names[i]):=by
 refine cz7 (F:=czZ) (fun i=>(x,(i:Int))) x.Names.length (fun i=>∀h:i<x.Names.length,Azn x.Names[i]) (fun z=>∃e,z = .inr e/\e≠0) (.inl ()) (by omega) ?_ ?_
 .intro back i hi;obtain⟨s1,s2⟩:=hn _ (List.getElem_mem hi);have hr:=wzM 40 x.Names[i];obtain⟨z,h1,h2⟩:=glob_l7 (l:=rf 40 x.Names[i]) (by omega);unfold czZ;simp only[azj];rw[ltT hi,azd,idxG hi,aza,(lzM (by omega) s2).2,aza,aza,(vzh (by omega) s2).2,aza,h1,aza,wr1 (by omega)];by_cases h:(enc1 x.Names[i]).2=0
  .rw[dT0 h];rcases h2 with⟨e,rfl,he⟩|⟨rfl,h2⟩
   .exact .inr ⟨_,rfl,_,rfl,he⟩
   .refine .inl ⟨rfl,fun _=>⟨enc0 h,fun y hy=>?_⟩⟩;obtain⟨j,hj,rfl⟩:=List.mem_iff_getElem.1 hy;exact h2 j hj hj
  .rw[dF0 h];exact .inr ⟨_,rfl,_,rfl,h⟩
 .intro back;unfold czZ;simp only;rw[ltF];rfl
theorem FzG {x:Globals}(h:fewG x)(s1:dzg x.Sheets)(s2:dzg x.Formats)(s3:dzg x.Texts.Texts):
 ∃r,dzx x=some r/\(r=0->1<=x.Sheets.length/\x.Sheets.length<=8/\∀e∈x.Names,Azn e):=by
 obtain⟨h1,h2,h3,h4,h5,h6,h7⟩:=h;unfold dzx;obtain⟨b,hb,hb'⟩:∃b,ezg x=some b/\(b=false->1<=x.Sheets.length/\x.Sheets.length<=8):=by
  unfold ezg;by_cases a1:(x.Sheets.length:Int)<1
  .rw[dT0 a1];exact⟨_,rfl,fun h=>by cases h⟩
  rw[dF0 a1,azc];by_cases a2:(8:Int)<(x.Sheets.length:Int)
  .rw[dT0 a2];exact⟨_,rfl,fun h=>by cases h⟩
  rw[dF0 a2,azc];obtain⟨b,hb⟩:∃b,brn (decide ((64:Int)<(x.Formats.length:Int))) (some true) (brn (decide ((256:Int)<(x.XFs.length:Int))) (some true) (some (decide ((1024:Int)<(x.Names.length:Int)))))=some b :=
   ezb ⟨_,rfl⟩ (ezb ⟨_,rfl⟩ ⟨_,rfl⟩)
  exact⟨b,hb,fun _=>by omega⟩
 rw[hb,aza];cases b
 .rw[azc];obtain⟨z2,e2,q2⟩:=glob_l2 (x:=x) (by omega) s1;obtain⟨z4,e4,q4⟩:=glob_l4 (x:=x) (by omega) s2;obtain⟨z5,e5,q5⟩:=glob_l5 (x:=x) (by omega);obtain⟨z6,e6,q6⟩:=glob_l6 (x:=x) (by omega) h7;rw[e2,aza];rcases q2 with⟨e,rfl,he⟩|⟨rfl,-⟩
  .exact⟨_,rfl,fun h=>absurd h he⟩
  simp only[osum];rw[e4,aza];rcases q4 with⟨e,rfl,he⟩|⟨rfl,-⟩
  .exact⟨_,rfl,fun h=>absurd h he⟩
  simp only;rw[e5,aza];rcases q5 with⟨e,rfl,he⟩|⟨rfl,-⟩
  .exact⟨_,rfl,fun h=>absurd h he⟩
  simp only;rw[e6,aza];rcases q6 with⟨e,rfl,he⟩|⟨rfl,q6⟩
  .exact⟨_,rfl,fun h=>absurd h he⟩
  simp only;have ok:∀e∈x.Names,Azn e:=fun e he=>by
   obtain⟨j,hj,rfl⟩:=List.mem_iff_getElem.1 he;exact q6 j hj hj
  obtain⟨t,ht⟩:=wza (x:=x.Texts) (by omega) s3;obtain⟨c,hc⟩:=chain_is (l:=x.Chain) (by omega);rw[ht,hc,aza,aza];obtain⟨r,hr⟩:=ezb (b:=decide ((x.Texts.Texts.length:Int)=0)) (x:=brn (!decide (x.Texts.Uses=0)) (some 1) (brn (!decide (t.2.2=0)) (some t.2.2) (some c.2))) (y:=brn (!decide (t.2.2=0)) (some t.2.2) (some c.2)) (ezb ⟨_,rfl⟩ (ezb ⟨_,rfl⟩ ⟨_,rfl⟩)) (ezb ⟨_,rfl⟩ ⟨_,rfl⟩);exact⟨r,hr,fun _=>⟨(hb' rfl).1,(hb' rfl).2,ok⟩⟩
 .exact⟨_,rfl,fun h=>by cases h⟩
theorem LzR:∀(d N:Nat) (a b:Expr),d<N->sz d a<=1000->tr d a->∃r,iter dzM N (a,b)=some r
 | _,0,_,_,h,_,_=>absurd h (by omega)
 | 0,_,_,_,_,_,h=>h.elim
 | d+1,N+1,a,b,hN,hs,ht=>by
  have hl:=lenK hs;have hk:∀x∈a.Kids,∀y,∃r,iter dzM N (x,y)=some r:=fun x hx y=>LzR d N x y (by omega) (szK hs hx) (nzA ht hx)
  rw[azw];generalize iter dzM N=S at hk;unfold dzM;simp only[azj];refine ezb ⟨_,rfl⟩ (ezb ⟨_,rfl⟩ (ezb ⟨_,rfl⟩ (ezb ⟨_,rfl⟩ (ezb ⟨_,rfl⟩ ?_))));by_cases hlen:a.Kids.length=b.Kids.length
  .rw[dT0 (by omega),show(!true)=false from rfl,azc];obtain⟨z,h1,-⟩:=cz7 (F:=dzQ S) (fun i=>(a,b,(i:Int))) a.Kids.length (fun i=>True) (fun z=>z = .inr false) (.inl ()) (by omega)
    (by
     intro back i hi;unfold dzQ;simp only[azj];obtain⟨r,hr⟩:=hk _ (List.getElem_mem hi) b.Kids[i];rw[ltT hi,azd,idxG hi,idxG (by omega:i<b.Kids.length),aza,aza,hr,aza,wr1 (by omega)];cases r
     .exact .inr ⟨_,rfl,rfl⟩
     .exact .inl ⟨rfl,trivial⟩)
    (by
     intro back;unfold dzQ;simp only;rw[ltF];rfl)
   rw[show kzk S (a,b,0)=_ from h1,aza];cases z<;>exact⟨_,rfl⟩
  .rw[dF0 (by omega)];exact⟨_,rfl⟩
theorem same_is {a b:Expr}(h:fewE a):∃r,fzX (a,b)=some r:=LzR 40 big a b (by rw[bzH];omega) (by have:=h.1;omega) h.2
def okC (x:Cell2):Prop:=gdC x.At=true/\dzL x.V=some 0/\(x.Has=true->x.V.Kind≠0/\ck x.E=0)
theorem cell_is {x:Cell2}(h:fewE x.E)(hv:x.V.S.length<=3000):∃r,bzZ x=some r/\(r=0->okC x):=by
 unfold bzZ okC;obtain⟨v,-,e1,-⟩:=tzp hv;obtain⟨r,hr⟩:=same_is (b:=⟨0,⟨0,⟨0,0⟩,[],false,0⟩,⟨⟨0,0,false,false⟩,⟨0,0,false,false⟩⟩,0,0,[]⟩) h;rw[nzK,aza,azj,e1,hr,(lzM (by have:=h.1;omega) h.2).2];simp only[aza];cases gdC x.At
 .exact⟨_,rfl,fun h=>by cases h⟩
 .rw[show(!true)=false from rfl,azc];cases decide (x.XF<0)
  .rw[azc];cases decide (255<x.XF)
   .rw[azc];by_cases h0:v=0
    .rw[dT0 h0,show(!true)=false from rfl,azc];cases x.Has
     .rw[show(!false)=true from rfl,azd];cases r
      .exact⟨_,rfl,fun h=>by cases h⟩
      .exact⟨_,rfl,fun _=>⟨rfl,by rw[h0],fun h=>by cases h⟩⟩
     .rw[show(!true)=false from rfl,azc];by_cases h1:(enc1 x.E).2=0
      .rw[dT0 h1,show(!true)=false from rfl,azc];by_cases h2:x.V.Kind=0
       .rw[dT0 h2];exact⟨_,rfl,fun h=>by cases h⟩
       .rw[dF0 h2];exact⟨_,rfl,fun _=>⟨rfl,by rw[h0],fun _=>⟨h2,enc0 h1⟩⟩⟩
      .rw[dF0 h1];exact⟨_,rfl,fun h=>absurd h h1⟩
    .rw[dF0 h0];exact⟨_,rfl,fun h=>absurd h h0⟩
   .exact⟨_,rfl,fun h=>by cases h⟩
  .exact⟨_,rfl,fun h=>by cases h⟩
def dzi (a b:Cell):Bool:=decide (a.Row<b.Row)||(decide (a.Row=b.Row)&&decide (a.Col<b.Col))
theorem qzC (a b:Cell):nzl (a,b)=some (dzi a b):=by
 unfold nzl dzi;simp only[brnA,brnO]
theorem cells_l1 {l:List Cell2}(hl:l.length<=1000)(hc:∀x∈l,fewE x.E/\x.V.S.length<=3000):
 ∃z,dzY (l,0)=some z/\((∃e,z = .inr e/\e≠0)\/z = .inl ()/\∀i,i<l.length->∀h:i<l.length,okC l[i]/\(0<i->dzi l[i-1].At l[i].At=true)):=by
 refine cz7 (F:=az0) (fun i=>(l,(i:Int))) l.length (fun i=>∀h:i<l.length,okC l[i]/\(0<i->dzi l[i-1].At l[i].At=true)) (fun z=>∃e,z = .inr e/\e≠0) (.inl ()) (by omega) ?_ ?_
 .intro back i hi;obtain⟨c1,c2⟩:=hc _ (List.getElem_mem hi);obtain⟨r,hr,hk⟩:=cell_is c1 c2;unfold az0;simp only[azj];rw[ltT hi,azd,idxG hi,aza,show bzZ ⟨l[i].At,l[i].XF,l[i].V,l[i].Has,l[i].E⟩=some r from hr,aza,wr1 (by omega)];by_cases h0:r=0
  .rw[dT0 h0,show(!true)=false from rfl,azc];by_cases hi0:0<i
   .rw[dT0 (by omega),azd,uzk hi0 (by omega),idxG (by omega:i-1<l.length),aza,aza,qzC,aza];cases ha:dzi l[i-1].At l[i].At
    .exact .inr ⟨_,rfl,_,rfl,by decide⟩
    .exact .inl ⟨rfl,fun _=>⟨hk h0,fun _=>ha⟩⟩
   .rw[dF0 (by omega),azc];exact .inl ⟨rfl,fun _=>⟨hk h0,fun h=>absurd h hi0⟩⟩
  .rw[dF0 h0];exact .inr ⟨_,rfl,_,rfl,h0⟩
 .intro back;unfold az0;simp only;rw[ltF];rfl
def okCs (l:List Cell2):Prop:=(∀x∈l,okC x)/\∀i (h:i<l.length),0<i->dzi l[i-1].At l[i].At=true
theorem xzj {l:List Cell2}(hl:l.length<=1000)(hc:∀x∈l,fewE x.E/\x.V.S.length<=3000):∃r,bz0 l=some r/\(r=0->okCs l):=by
 unfold bz0;obtain⟨z,h1,h2⟩:=cells_l1 hl hc;rw[dF0 (by omega),azc,h1,aza];rcases h2 with⟨e,rfl,he⟩|⟨rfl,h2⟩
 .exact⟨_,rfl,fun h=>absurd h he⟩
 .refine⟨_,rfl,fun _=>⟨fun x hx=>?_,fun i hi h0=>(h2 i hi hi).2 h0⟩⟩;obtain⟨j,hj,rfl⟩:=List.mem_iff_getElem.1 hx;exact(h2 j hj hj).1
theorem lzS {X Z:Type}{F:(X->Option Z)->X->Option Z}(mk:Nat->X)(n:Nat)(c:Nat->Bool)(bad ok:Z)(hn:n<=1000000000)
 (h:∀back i,i<n->F back (mk i)=bif c i then back (mk (i+1))else some bad) (hend:∀back,F back (mk n)=some ok) :
 iter F big (mk 0)=some (bif (List.range n).all c then ok else bad):=by
 obtain⟨z,e1,e2⟩:=cz7 (F:=F) mk n (fun i=>c i=true) (fun z=>z=bad/\(List.range n).all c=false) ok hn
  (fun back i hi=>by
   rw[h back i hi];cases hc:c i with
   | true=>exact .inl ⟨rfl,rfl⟩
   | false=>exact .inr ⟨_,rfl,rfl,List.all_eq_false.2 ⟨i,List.mem_range.2 hi,by simp[hc]⟩⟩) hend
 rw[e1];rcases e2 with⟨rfl,e2⟩|⟨rfl,e2⟩
 .rw[e2];rfl
 .rw[show(List.range n).all c=true from List.all_eq_true.2 fun i hi=>e2 i (List.mem_range.1 hi)];rfl
theorem mz7 {A X Z:Type}{F:(X->Option Z)->X->Option Z}(mk:Nat->X)(l:List A)(c:A->Bool)(bad ok:Z)(hn:l.length<=1000000000)
 (h:∀back i (hi:i<l.length),F back (mk i)=bif c l[i]then back (mk (i+1))else some bad) (hend:∀back,F back (mk l.length)=some ok) :
 iter F big (mk 0)=some (bif l.all c then ok else bad):=by
 obtain⟨z,e1,e2⟩:=cz7 (F:=F) mk l.length (fun i=>∀hi:i<l.length,c l[i]=true) (fun z=>z=bad/\l.all c=false) ok hn
  (fun back i hi=>by
   rw[h back i hi];cases hc:c l[i]with
   | true=>exact .inl ⟨rfl,fun _=>hc⟩
   | false=>exact .inr ⟨_,rfl,rfl,List.all_eq_false.2 ⟨_,List.getElem_mem hi,by simp[hc]⟩⟩) hend
 rw[e1];rcases e2 with⟨rfl,e2⟩|⟨rfl,e2⟩
 .rw[e2];rfl
 .rw[show l.all c=true from List.all_eq_true.2 fun a ha=>by obtain⟨i,hi,rfl⟩:=List.mem_iff_getElem.1 ha;exact e2 i hi hi];rfl
theorem ezz {A B X Z:Type}{F:(X->Option Z)->X->Option Z}(mk:List B->Nat->X)(g:List B->Z)(l:List A)(f:A->List B)(K:Nat)(s0:List B)(hl:l.length<=1000000000)(hK:∀a∈l,(f a).length<=K)
 (h:∀back s i (hi:i<l.length),s.length<=s0.length+K*i->F back (mk s i)=back (mk (s++f l[i]) (i+1)))
 (hend:∀back s,s.length<=s0.length+K*l.length->F back (mk s l.length)=some (g s)):iter F big (mk s0 0)=some (g (s0++l.flatMap f)):=by
 have this:=bzV (F:=F) mk g l (fun(s:List B) k=>(.inl (s++f k):List B⊕List B)) id (fun s i=>s.length<=s0.length+K*i) (by omega)
  (fun back s i hi hp=>h back s i hi hp)
  (fun s i hi s' hp he=>by
   cases he;have:=hK _ (List.getElem_mem hi);rw[List.length_append,Nat.mul_add];omega)
  (fun back s hs=>hend back s hs) s0 (by omega)
 rw[dzj,id,kzc]at this;exact this
def fz {A:Type}(f:A->Int):List A->Int
 | []=>0
 | a::l=>if f a=0 then fz f l else f a
theorem izj {A:Type}{f:A->Int}:∀{l:List A},fz f l=0↔∀a∈l,f a=0
 | []=>by simp[fz]
 | a::l=>by
  simp only[fz,List.mem_cons,forall_eq_or_imp];by_cases h:f a=0
  .rw[if_pos h,izj];simp[h]
  .rw[if_neg h];simp[h]
def er (e:Int):Unit⊕Int:=if e=0 then .inl ()else .inr e
theorem er0:er 0 = .inl ():=rfl
theorem ezc {A X Z:Type}{F:(X->Option Z)->X->Option Z}(mk:Nat->X)(g:Int->Z)(l:List A)(f:A->Int)(hl:l.length<=1000000000)
 (h:∀back i (hi:i<l.length),F back (mk i)=bif decide (f l[i]=0)then back (mk (i+1))else some (g (f l[i])))
 (hend:∀back,F back (mk l.length)=some (g 0)):iter F big (mk 0)=some (g (fz f l)):=by
 have this:=bzV (F:=F) (fun(_:Unit) i=>mk i) g l (fun _ a=>if f a=0 then .inl ()else .inr (f a)) (fun _=>0) (fun _ _=>True) hl
  (fun back s i hi _=>by
   rw[h back i hi];by_cases c:f l[i]=0
   .rw[dT0 c,if_pos c];rfl
   .rw[dF0 c,if_neg c];rfl) (fun _ _ _ _ _ _=>trivial) (fun back _ _=>hend back) () trivial
 rw[this];congr 2;clear this h hend hl;induction l with
 | nil=>rfl
 | cons a l ih =>
  simp only[fzR,fz];by_cases c:f a=0
  .rw[if_pos c,if_pos c];exact ih
  .rw[if_neg c,if_neg c]
noncomputable def eqX {A:Type}(a b:A):Bool:=@decide (a=b) (Classical.propDecidable _)
theorem dzT {A:Type}{a b:A}:eqX a b=true↔a=b:=by unfold eqX;exact @decide_eq_true_iff _ (Classical.propDecidable _)
theorem jzq {A:Type}{a b:A}(h:¬a=b):eqX a b=false:=by
 cases e:eqX a b
 .rfl
 .exact absurd (dzT.1 e) h
theorem jzr {A:Type}(a:A):eqX a a=true:=dzT.2 rfl
theorem vz4 {c:Bool}{x:Option Bool}(h:c=false->x=some false):brn c (some false) x=some false:=by
 cases c
 .exact h rfl
 .rfl
noncomputable def eq2 {A:Type}(l m:List A)(i:Nat):Bool:=match l[i]?,m[i]? with
 | some x,some y=>eqX x y
 | _,_=>true
theorem tzd {A:Type}{l m:List A}{i:Nat}(h1:i<l.length)(h2:i<m.length):eq2 l m i=eqX l[i] m[i]:=by
 unfold eq2;rw[List.getElem?_eq_getElem h1,List.getElem?_eq_getElem h2]
theorem Bzv {A:Type}{l m:List A}(hl:l.length=m.length):(List.range l.length).all (eq2 l m)=eqX l m:=by
 by_cases h:l=m
 .subst h;rw[jzr,List.all_eq_true];intro i hi;rw[tzd (List.mem_range.1 hi) (List.mem_range.1 hi),jzr]
 .rw[jzq h];cases hq:(List.range l.length).all (eq2 l m)
  .rfl
  .exfalso;apply h;apply List.ext_getElem hl;intro i h1 h2;have:=List.all_eq_true.1 hq i (List.mem_range.2 h1);rw[tzd h1 h2]at this;exact dzT.1 this
theorem same_eq:∀(d N:Nat) (a b:Expr),d<N->sz d a<=1000->tr d a->iter dzM N (a,b)=some (eqX a b)
 | _,0,_,_,h,_,_=>absurd h (by omega)
 | 0,_,_,_,_,_,h=>h.elim
 | d+1,N+1,a,b,hN,hs,ht=>by
  have hl:=lenK hs;have hk:∀x∈a.Kids,∀y,iter dzM N (x,y)=some (eqX x y):=fun x hx y=>same_eq d N x y (by omega) (szK hs hx) (nzA ht hx)
  rw[azw];generalize iter dzM N=S at hk;have loop:a.Kids.length=b.Kids.length->kzk S (a,b,0)=some (bif eqX a.Kids b.Kids then .inl ()else .inr false):=fun hlen=>by
   rw[<-Bzv hlen];exact lzS (F:=dzQ S) (fun i=>(a,b,(i:Int))) a.Kids.length _ (.inr false) (.inl ()) (by omega)
    (by
     intro back i hi;unfold dzQ;simp only[azj];rw[ltT hi,azd,idxG hi,idxG (by omega:i<b.Kids.length),aza,aza,hk _ (List.getElem_mem hi),aza,wr1 (by omega),tzd hi (by omega)];cases eqX a.Kids[i] b.Kids[i]<;>rfl)
    (by
     intro back;unfold dzQ;simp only;rw[ltF];rfl)
  unfold dzM;simp only[azj];by_cases hab:a=b
  .subst hab;rw[loop rfl,jzr,jzr];simp;rfl
  .rw[jzq hab];refine vz4 fun h1=>vz4 fun h2=>vz4 fun h3=>vz4 fun h4=>vz4 fun h5=>vz4 fun h6=>?_
   have hlen:a.Kids.length=b.Kids.length:=by simp at h6;omega
   rw[loop hlen];cases hq:eqX a.Kids b.Kids
   .rfl
   .exfalso;have h7:=dzT.1 hq;apply hab;clear hs ht hl hk loop hlen hq h6 hab hN;obtain⟨k,⟨vk,⟨m,s⟩,st,bb,e⟩,⟨⟨a1,a2,a3,a4⟩,⟨b1,b2,b3,b4⟩⟩,sh,op,ks⟩:=a;obtain⟨k',⟨vk',⟨m',s'⟩,st',bb',e'⟩,⟨⟨a1',a2',a3',a4'⟩,⟨b1',b2',b3',b4'⟩⟩,sh',op',ks'⟩:=b;simp at h1 h2 h3 h4 h5 h7 ⊢;simp[h1,h2,h3,h4,h5,h7]
theorem xz2 {a b:Expr}(h:fewE a):fzX (a,b)=some (eqX a b):=same_eq 40 big a b (by rw[bzH];omega) (by have:=h.1;omega) h.2
theorem bz4 (g:Group):Group.mk g.Array g.A g.B g.E=g:=rfl
theorem iz5 (c:Cell2):Cell2.mk c.At c.XF c.V c.Has c.E=c:=rfl
def ltC (g:Group):Bool:=gdC g.A&&(gdC g.B&&(!decide (g.B.Row<g.A.Row)&&!decide (g.B.Col<g.A.Col)))
theorem gdC_b {c:Cell}(h:gdC c=true):0<=c.Row/\c.Row<65536/\0<=c.Col/\c.Col<256:=by
 unfold gdC at h;simp at h;omega
theorem uzT {g:Group}(h:ltC g=true):0<=g.A.Row/\g.A.Row<=g.B.Row/\g.B.Row<65536/\0<=g.A.Col/\g.A.Col<=g.B.Col/\g.B.Col<256:=by
 unfold ltC at h;simp only[Bool.and_eq_true,Bool.not_eq_true',decide_eq_false_iff_not]at h;obtain⟨h1,h2,h3,h4⟩:=h;have:=gdC_b h1;have:=gdC_b h2;omega
def rows (g:Group):Int:=g.B.Row-g.A.Row+1
def cols (g:Group):Int:=g.B.Col-g.A.Col+1
def cgD (g:Group):Int:=bif ltC g then(if 1024<rows g*cols g then 13 else bif !g.Array&&(!decide (g.A.Col=g.B.Col)||decide (g.A.Row=g.B.Row))then 13 else(enc1 g.E).2)else 12
theorem tzl {g:Group}(h:ltC g=true):1<=rows g/\rows g<=65536/\1<=cols g/\cols g<=256/\0<=rows g*cols g/\rows g*cols g<=16777216:=by
 have:=uzT h;have h1:1<=rows g/\rows g<=65536:=by unfold rows;omega
 have h2:1<=cols g/\cols g<=256:=by unfold cols;omega
 refine⟨h1.1,h1.2,h2.1,h2.2,Int.mul_nonneg (by omega) (by omega),?_⟩;have:=Int.mul_le_mul h1.2 h2.2 (by omega) (by omega:(0:Int)<=65536);omega
theorem ltC_is (g:Group):izU g=some (!ltC g):=by
 unfold izU ltC;rw[nzK,nzK];cases gdC g.A
 .rfl
 cases gdC g.B
 .rfl
 cases decide (g.B.Row<g.A.Row)<;>cases decide (g.B.Col<g.A.Col)<;>rfl
theorem group_is {g:Group}(h:fewE g.E):kzR g=some (cgD g):=by
 unfold kzR cgD;simp only[azj,bz4];rw[ltC_is,aza];cases hb:ltC g
 .rfl
 .obtain⟨a1,a2,a3,a4,a5,a6⟩:=tzl hb;have:=uzT hb;have e1:i64.wrap (i64.wrap (g.B.Row-g.A.Row)+1)=rows g:=by rw[azG (n:=g.B.Row-g.A.Row) (by omega) (by omega),azG (by omega) (by omega)];rfl
  have e2:i64.wrap (i64.wrap (g.B.Col-g.A.Col)+1)=cols g:=by rw[azG (n:=g.B.Col-g.A.Col) (by omega) (by omega),azG (by omega) (by omega)];rfl
  rw[e1,e2,azG (by omega) (by omega),show(!true)=false from rfl,azc,(lzM (by have:=h.1;omega) h.2).2,cond_true];simp only[aza];by_cases c:1024<rows g*cols g
  .rw[dT0 c,if_pos c];rfl
  .rw[dF0 c,if_neg c,azc];cases g.Array<;>cases decide (g.A.Col=g.B.Col)<;>cases decide (g.A.Row=g.B.Row)<;>rfl
def ovB (a b:Group):Bool:=decide (a.A.Row<=b.B.Row)&&(decide (b.A.Row<=a.B.Row)&&(decide (a.A.Col<=b.B.Col)&&decide (b.A.Col<=a.B.Col)))
theorem NzD (a b:Group):nzO (a,b)=some (ovB a b):=by
 unfold nzO ovB;simp only[brnA]
def apart (l:List Group):Bool:=(List.range l.length).all fun i=>match l[i]? with
 | some a=>(l.take i).all fun b=>!ovB a b
 | none=>true
def csD (l:List Group):Int:=if fz cgD l=0 then(bif apart l then 0 else 13)else fz cgD l
theorem groups_l3 {l:List Group}{n:Nat}(hl:l.length<=1000)(hn:n<l.length):lzo (l,(n:Int),0)=some (bif (l.take n).all (fun b=>!ovB l[n] b)then .inl ()else .inr 13):=by
 have ht:(l.take n).length=n:=by rw[List.length_take];omega
 refine mz7 (F:=fzr) (fun i=>(l,(n:Int),(i:Int))) (l.take n) (fun b=>!ovB l[n] b) (.inr 13) (.inl ()) (by omega) ?_ ?_
 .intro back i hi;have hi':i<n:=by omega
  unfold fzr;simp only[azj,bz4];rw[ltT hi',azd,idxG hn,idxG (by omega:i<l.length),aza,aza,NzD,aza,wr1 (by omega),List.getElem_take];cases ovB l[n] l[i]<;>rfl
 .intro back;rw[ht];unfold fzr;simp only;rw[ltF];rfl
theorem HzA {l:List Group}(hl:l.length<=1000)(he:∀g∈l,fewE g.E):kzm l=some (csD l):=by
 have l1:lzm (l,0)=some (er (fz cgD l)):=by
  refine ezc (F:=fzp) (fun i=>(l,(i:Int))) er l cgD (by omega) ?_ ?_
  .intro back i hi;unfold fzp;simp only[azj,bz4];rw[ltT hi,azd,idxG hi,aza,group_is (he _ (List.getElem_mem hi)),aza,wr1 (by omega)];by_cases c:cgD l[i]=0
   .rw[dT0 c];rfl
   .rw[dF0 c,er,if_neg c];rfl
  .intro back;unfold fzp;simp only;rw[ltF];rfl
 have l2:lzn (l,0)=some (bif apart l then .inl ()else .inr 13):=by
  refine lzS (F:=fzq) (fun i=>(l,(i:Int))) l.length _ (.inr 13) (.inl ()) (by omega) ?_ ?_
  .intro back i hi;unfold fzq;simp only;rw[ltT hi,azd,groups_l3 hl hi,aza,wr1 (by omega),List.getElem?_eq_getElem hi];simp only;cases(l.take i).all fun b=>!ovB l[i] b<;>rfl
  .intro back;unfold fzq;simp only;rw[ltF];rfl
 unfold kzm csD;rw[l1,l2,aza,aza];by_cases c:fz cgD l=0
 .rw[c,er0,if_pos rfl];cases apart l<;>rfl
 .rw[er,if_neg c,if_neg c];rfl
theorem mzD {A:Type}(p:A->Bool):∀l:List A,(l.flatMap fun a=>bif p a then [a]else [])=l.filter p
 | []=>rfl
 | a::l=>by rw[List.flatMap_cons,List.filter_cons,mzD p l];cases p a<;>rfl
theorem Dz2 {A B:Type}(f:A->B):∀l:List A,(l.flatMap fun a=>[f a])=l.map f
 | []=>rfl
 | a::l=>by rw[List.flatMap_cons,Dz2 f l];rfl
theorem arrays_is {l:List Group}(hl:l.length<=1000):ozT l=some (l.filter (·.Array)):=by
 have:oz6 (l,[],0)=some ([]++l.flatMap fun g=>bif g.Array then [g]else []):=by
  refine ezz (F:=jzA) (fun s i=>(l,s,(i:Int))) id l (fun g=>bif g.Array then [g]else []) 1 [] (by omega) (fun g _=>by cases g.Array<;>simp) ?_ ?_
  .intro back s i hi hs;unfold jzA;simp only[azj,bz4];rw[ltT hi,azd,idxG hi,aza,aza,wr1 (by omega)];cases l[i].Array
   .simp
   .rw[azd,appN (by simp at hs ⊢;omega)];rfl
  .intro back s _;unfold jzA;simp only;rw[ltF];rfl
 unfold ozT;rw[this,aza,List.nil_append,mzD]
def exD (g:Group):List Member:=(List.range (rows g).toNat).flatMap fun(r:Nat)=>(List.range (cols g).toNat).map fun(c:Nat)=>⟨⟨g.A.Row+(r:Int),g.A.Col+(c:Int)⟩,g.E⟩
theorem expand_is {g:Group}(h:ltC g=true)(ha:rows g*cols g<=1024):mzt g=some (exD g):=by
 have hb:=uzT h;obtain⟨a1,a2,a3,a4,-,-⟩:=tzl h;have b1:rows g<=1024:=by
  have:=Int.mul_le_mul (Int.le_refl (rows g)) a3 (by omega) (by omega);omega
 have l2:∀(s:List Member) (r:Nat),(r:Int)<rows g->s.length<=1000000->lz0 (g,s,g.A.Row+r,g.A.Col)=some (s++(List.range (cols g).toNat).map fun(c:Nat)=>(⟨⟨g.A.Row+(r:Int),g.A.Col+(c:Int)⟩,g.E⟩:Member)):=by
  intro s r hr hs;have:=ezz (F:=jzz) (fun s i=>(g,s,g.A.Row+r,g.A.Col+(i:Int))) id (List.range (cols g).toNat) (fun(c:Nat)=>[(⟨⟨g.A.Row+(r:Int),g.A.Col+(c:Int)⟩,g.E⟩:Member)]) 1 s (by simp;omega) (by simp) ?_ ?_
  .rw[show g.A.Col+((0:Nat):Int)=g.A.Col by simp]at this;rw[show lz0 (g,s,g.A.Row+r,g.A.Col)=_ from this];rw[id,Dz2]
  .intro back z i hi hz;have hi':i<(cols g).toNat:=by simpa using hi
   unfold jzz;simp only[azj,bz4];have:g.A.Col+(i:Int)<=g.B.Col:=by unfold cols at hi';omega
   rw[dT0 this,azd,appN (by simp at hz ⊢;omega),aza,azG (by omega) (by omega),List.getElem_range];rw[show g.A.Col+(i:Int)+1=g.A.Col+((i+1:Nat):Int) by omega]
  .intro back z hz;unfold jzz;simp only[azj,bz4];have:¬g.A.Col+((List.range (cols g).toNat).length:Int)<=g.B.Col:=by rw[List.length_range];unfold cols;omega
   rw[dF0 this];rfl
 have l1:oz5 (g,[],g.A.Row)=some ([]++exD g):=by
  have:=ezz (F:=jzy) (fun s i=>(g,s,g.A.Row+(i:Int))) id (List.range (rows g).toNat) (fun(r:Nat)=>(List.range (cols g).toNat).map fun(c:Nat)=>(⟨⟨g.A.Row+(r:Int),g.A.Col+(c:Int)⟩,g.E⟩:Member)) 256 [] (by simp;omega) (by simp;omega) ?_ ?_
  .rw[show g.A.Row+((0:Nat):Int)=g.A.Row by simp]at this;exact this
  .intro back z i hi hz;have hi':i<(rows g).toNat:=by simpa using hi
   unfold jzy;simp only[azj,bz4];have:g.A.Row+(i:Int)<=g.B.Row:=by unfold rows at hi';omega
   rw[dT0 this,azd,l2 _ _ (by omega) (by simp at hz;omega),aza,azG (by omega) (by omega),List.getElem_range];rw[show g.A.Row+(i:Int)+1=g.A.Row+((i+1:Nat):Int) by omega]
  .intro back z hz;unfold jzy;simp only[azj,bz4];have:¬g.A.Row+((List.range (rows g).toNat).length:Int)<=g.B.Row:=by rw[List.length_range];unfold rows;omega
   rw[dF0 this];rfl
 unfold mzt;simp only[azj,bz4];rw[l1];rfl
def atC (p:Cell)(c:Cell2):Bool:=decide (c.At.Row=p.Row)&&decide (c.At.Col=p.Col)
def loc:Option Nat->Unit⊕Int
 | some i=>.inr i
 | none=>.inl ()
theorem cellAt_is {l:List Cell2}{p:Cell}(hl:l.length<=1000):ozU (l,p)=some (match l.findIdx? (atC p)with|some i=>(i:Int)|none=>-1):=by
 have:=kzb (F:=jzB) (fun i=>(l,p,(i:Int))) loc l (atC p) (by omega) ?_ ?_
 .unfold ozU;rw[show oz7 (l,p,0)=_ from this,aza];cases l.findIdx? (atC p)<;>rfl
 .intro back i hi;unfold jzB;simp only;rw[ltT hi,azd,idxG hi,aza,wr1 (by omega)];rfl
 .intro back;unfold jzB;simp only;rw[ltF];rfl
noncomputable def hasC (l:List Cell2)(e:Expr)(p:Cell):Bool:=match l.find? (atC p)with
 | some c=>c.Has&&eqX c.E e
 | none=>false
theorem KzP {A:Type}{p:A->Bool}:∀{l:List A},(l.findIdx? p=none/\l.find? p=none)\/∃j,∃h:j<l.length,l.findIdx? p=some j/\l.find? p=some l[j]
 | []=>.inl ⟨rfl,rfl⟩
 | a::l=>by
  rw[List.findIdx?_cons,List.find?_cons];cases h:p a with
  | true=>exact .inr ⟨0,by simp,by simp,by simp⟩
  | false =>
   rcases KzP (p:=p) (l:=l)with⟨h1,h2⟩|⟨j,hj,h1,h2⟩
   .exact .inl ⟨by simp[h1],by simp[h2]⟩
   .exact .inr ⟨j+1,by simp;omega,by simp[h1],by simp[h2]⟩
theorem groups_l2 {s:Sheet}{a:List Group}{n:Nat}{m:List Member}(hc:s.Cells.length<=1000)(he:∀x∈s.Cells,fewE x.E)(hn:n<a.length)(hm:m.length<=100000):
 lz5 (s,a,(n:Int),m,0)=some (bif m.all (fun x=>hasC s.Cells a[n].E x.At)then .inl ()else .inr false):=by
 refine mz7 (F:=jzD) (fun i=>(s,a,(n:Int),m,(i:Int))) m _ (.inr false) (.inl ()) (by omega) ?_ ?_
 .intro back i hi;unfold jzD;simp only[azj];rw[ltT hi,azd,idxG hi,aza,cellAt_is hc,aza,idxG hn,wr1 (by omega)];unfold hasC;rcases KzP (p:=atC m[i].At) (l:=s.Cells)with⟨h1,h2⟩|⟨j,hj,h1,h2⟩
  .rw[h1,h2];rfl
  .rw[h1,h2];simp only;rw[dF0 (by omega),azc,idxG hj];simp only[aza];rw[xz2 (he _ (List.getElem_mem hj)),aza];cases s.Cells[j].Has<;>cases eqX s.Cells[j].E a[n].E<;>rfl
 .intro back;unfold jzD;simp only;rw[ltF];rfl
noncomputable def gOk (cs:List Cell2)(a:List Group)(i:Nat):Bool:=match a[i]? with
 | some g=>(decide (i=0)||match a[i-1]? with
  | some f=>dzi f.A g.A
  | none=>true)&&(exD g).all fun x=>hasC cs g.E x.At
 | none=>true
theorem exD_len {g:Group}(h:ltC g=true)(ha:rows g*cols g<=1024):(exD g).length<=1024:=by
 obtain⟨a1,a2,a3,a4,-,-⟩:=tzl h;have:((exD g).length:Int)=rows g*cols g:=by
  unfold exD;simp only[List.length_flatMap,List.length_map,List.length_range];rw[List.map_const',List.sum_replicate_nat,List.length_range,Int.natCast_mul,Int.toNat_of_nonneg (by omega),Int.toNat_of_nonneg (by omega)]
 omega
theorem cg0 {g:Group}(h:cgD g=0):ltC g=true/\rows g*cols g<=1024/\(g.Array=false->g.A.Col=g.B.Col/\g.A.Row≠g.B.Row)/\ck g.E=0:=by
 unfold cgD at h;cases hb:ltC g
 .rw[hb]at h;cases h
 .rw[hb,cond_true]at h;by_cases c:1024<rows g*cols g
  .rw[if_pos c]at h;cases h
  .rw[if_neg c]at h;cases hc:(!g.Array&&(!decide (g.A.Col=g.B.Col)||decide (g.A.Row=g.B.Row)))
   .rw[hc,cond_false]at h;refine⟨rfl,by omega,fun ha=>?_,enc0 h⟩;rw[ha]at hc;simpa using hc
   .rw[hc,cond_true]at h;cases h
theorem cs0 {l:List Group}(h:csD l=0):(∀g∈l,cgD g=0)/\apart l=true:=by
 unfold csD at h;by_cases c:fz cgD l=0
 .rw[if_pos c]at h;refine⟨izj.1 c,?_⟩;cases ha:apart l
  .rw[ha]at h;cases h
  .rfl
 .rw[if_neg c]at h;exact absurd h c
theorem groups_l1 {s:Sheet}{a:List Group}(hc:s.Cells.length<=1000)(he:∀x∈s.Cells,fewE x.E)(hl:a.length<=1000)(h0:∀g∈a,cgD g=0):
 oz8 (s,a,0)=some (bif (List.range a.length).all (gOk s.Cells a)then .inl ()else .inr false):=by
 refine lzS (F:=jzC) (fun i=>(s,a,(i:Int))) a.length _ (.inr false) (.inl ()) (by omega) ?_ ?_
 .intro back i hi;obtain⟨q1,q2,-,-⟩:=cg0 (h0 _ (List.getElem_mem hi));have q3:=exD_len q1 q2;unfold jzC gOk;simp only[azj,bz4];rw[ltT hi,azd,idxG hi,List.getElem?_eq_getElem hi];simp only[aza];rw[expand_is q1 q2,aza,groups_l2 hc he hi (by omega),aza,wr1 (by omega)];by_cases hi0:i=0
  .subst hi0;rw[dF0 (by omega),azc,dT0 rfl,Bool.true_or,Bool.true_and];cases(exD a[0]).all fun x=>hasC s.Cells a[0].E x.At<;>rfl
  .rw[dT0 (by omega),azd,uzk (by omega) (by omega),idxG (by omega:i-1<a.length),aza,qzC,aza,dF0 hi0,Bool.false_or,List.getElem?_eq_getElem (by omega:i-1<a.length)];simp only;cases dzi a[i-1].A a[i].A
   .rfl
   .cases(exD a[i]).all fun x=>hasC s.Cells a[i].E x.At<;>rfl
 .intro back;unfold jzC;simp only;rw[ltF];rfl
def hasG (g:Group)(c:Cell):Bool:=decide (g.A.Row<=c.Row)&&(decide (c.Row<=g.B.Row)&&(decide (g.A.Col<=c.Col)&&decide (c.Col<=g.B.Col)))
theorem FzI (g:Group)(c:Cell):szY (g,c)=some (hasG g c):=by
 unfold szY hasG;simp only[brnA]
def inA (l:List Group)(c:Cell):Bool:=l.any fun g=>g.Array&&hasG g c
theorem Nzn {l:List Group}{c:Cell}(hl:l.length<=1000):nzR (l,c)=some (inA l c):=by
 have:=mz7 (F:=izJ) (fun i=>(l,c,(i:Int))) l (fun g=>!(g.Array&&hasG g c)) (.inr true) (.inl ()) (by omega) ?_ ?_
 .unfold nzR inA;rw[show ozk (l,c,0)=_ from this,aza,List.all_eq_not_any_not];simp only[Bool.not_not];cases l.any fun g=>g.Array&&hasG g c<;>rfl
 .intro back i hi;unfold izJ;simp only[azj,bz4];rw[ltT hi,azd,idxG hi];simp only[aza];rw[FzI,aza,wr1 (by omega)];cases l[i].Array<;>cases hasG l[i] c<;>rfl
 .intro back;unfold izJ;simp only;rw[ltF];rfl
def mem (cs:List Cell2)(a:List Group):List Member:=cs.flatMap fun c=>bif c.Has&&!inA a c.At then [⟨c.At,c.E⟩]else []
theorem NzH {cs:List Cell2}{a:List Group}(hc:cs.length<=1000)(ha:a.length<=1000):ozi (cs,a,[],0)=some (mem cs a):=by
 refine ezz (F:=izH) (fun s i=>(cs,a,s,(i:Int))) id cs _ 1 [] (by omega) (fun c _=>by cases c.Has&&!inA a c.At<;>simp) ?_ ?_
 .intro back s i hi hs;unfold izH;simp only[azj];rw[ltT hi,azd,idxG hi];simp only[aza];rw[Nzn ha,aza,wr1 (by omega),appN (by simp at hs ⊢;omega),aza];cases cs[i].Has<;>cases inA a cs[i].At<;>simp
 .intro back s _;unfold izH;simp only;rw[ltF];rfl
theorem izu {A B:Type}{f:A->List B}{K:Nat}:∀(l:List A),(∀a∈l,(f a).length<=K)->(l.flatMap f).length<=K*l.length
 | [],_=>Nat.zero_le _
 | a::l,h=>by
  have h1:=izu l fun b hb=>h b (List.mem_cons_of_mem _ hb)
  have h2:=h a (List.mem_cons_self ..);rw[List.flatMap_cons,List.length_append,List.length_cons,Nat.mul_add];omega
theorem mem_len (cs:List Cell2)(a:List Group):(mem cs a).length<=cs.length:=by
 have:=izu (f:=fun c:Cell2=>bif c.Has&&!inA a c.At then [(⟨c.At,c.E⟩:Member)]else []) (K:=1) cs (fun c _=>by cases c.Has&&!inA a c.At<;>simp);unfold mem;omega
theorem BzE {cs:List Cell2}{a:List Group}(he:∀x∈cs,fewE x.E):∀m∈mem cs a,fewE m.E:=by
 intro m hm;unfold mem at hm;obtain⟨c,hc,hm⟩:=List.mem_flatMap.1 hm;cases h:c.Has&&!inA a c.At
 .rw[h]at hm;cases hm
 .rw[h]at hm;simp at hm;rw[hm];exact he c hc
def colI (l:List Member)(c:Nat):List Nat:=(List.range l.length).filter fun i=>match l[i]? with
 | some m=>decide (m.At.Col=c)
 | none=>false
def ints (l:List Nat):List Int:=l.map fun(i:Nat)=>(i:Int)
theorem HzD {l:List Member}{c:Nat}:∀i∈colI l c,i<l.length:=fun i h=>List.mem_range.1 (List.mem_filter.1 h).1
theorem Kzz (l:List Member)(c:Nat):(colI l c).length<=l.length:=by
 have:=List.length_filter_le (fun i=>match l[i]? with|some m=>decide (m.At.Col=c)|none=>false) (List.range l.length);rw[List.length_range]at this;exact this
theorem plan_l2 {l:List Member}{c:Nat}(hl:l.length<=1000):nzP (l,(c:Int),[],0)=some (ints (colI l c)):=by
 have:=ezz (F:=lzq) (fun s i=>(l,(c:Int),s,(i:Int))) id (List.range l.length) (fun i=>match l[i]? with|some m=>bif decide (m.At.Col=c)then [(i:Int)]else []|none=>[]) 1 [] (by simp;omega) ?_ ?_ ?_
 .rw[show nzP (l,(c:Int),[],0)=_ from this];congr 1;unfold ints colI;rw[id,List.nil_append];induction List.range l.length with
  | nil=>rfl
  | cons a t ih =>
   rw[List.flatMap_cons,List.filter_cons,ih];cases l[a]? with
   | none=>rfl
   | some m=>by_cases hd:m.At.Col=(c:Int)<;>simp[hd]
 .intro a _;cases l[a]? with
  | none=>simp
  | some m=>simp only;cases decide (m.At.Col=c)<;>simp
 .intro back s i hi hs;have hi':i<l.length:=by simpa using hi
  unfold lzq;simp only[azj];rw[ltT hi',azd,idxG hi',aza,wr1 (by omega),appN (by simp at hs ⊢;omega),aza,List.getElem_range,List.getElem?_eq_getElem hi'];simp only;cases decide (l[i].At.Col=c)<;>simp
 .intro back s _;unfold lzq;simp only;rw[List.length_range,ltF];rfl
noncomputable def runN (x:Member):Nat->List Member->Nat
 | n,[]=>n
 | n,y::t=>bif decide (n<1024)&&(decide (y.At.Row=i64.wrap (x.At.Row+n))&&eqX y.E x.E)then runN x (n+1) t else n
theorem runN_le (x:Member):∀(n:Nat) (t:List Member),n<=runN x n t/\runN x n t<=n+t.length
 | n,[]=>⟨Nat.le_refl _,by simp[runN]⟩
 | n,y::t=>by
  unfold runN;have:=runN_le x (n+1) t;cases decide (n<1024)&&(decide (y.At.Row=i64.wrap (x.At.Row+n))&&eqX y.E x.E)
  .simp
  .simp;omega
def pick (l:List Member)(at_:List Nat):List Member:=at_.flatMap fun i=>match l[i]? with
 | some m=>[m]
 | none=>[]
theorem xzK {l:List Member}:∀{a:List Nat},(∀i∈a,i<l.length)->(pick l a).length=a.length
 | [],_=>rfl
 | i::a,h=>by
  have:=xzK (l:=l) (a:=a) fun j hj=>h j (by simp[hj])
  unfold pick at this ⊢;rw[List.flatMap_cons,List.getElem?_eq_getElem (h i (by simp))];simp[this]
theorem xzJ {l:List Member}:∀{a:List Nat} (h:∀i∈a,i<l.length) (j:Nat) (hj:j<a.length),(pick l a)[j]?=some (l[a[j]]'(h _ (List.getElem_mem hj)))
 | i::a,h,0,_=>by
  unfold pick;rw[List.flatMap_cons,List.getElem?_eq_getElem (h i (by simp))];rfl
 | i::a,h,j+1,hj=>by
  have:=xzJ (l:=l) (a:=a) (fun j hj=>h j (by simp[hj])) j (by simpa using hj);unfold pick at this ⊢;rw[List.flatMap_cons,List.getElem?_eq_getElem (h i (by simp))];simpa using this
theorem idxN {a:List Nat}{j:Nat}(hj:j<a.length):idx (ints a) (j:Int)=some (a[j]:Int):=by
 rw[idxG (by unfold ints;simpa using hj)];simp[ints]
theorem bif_inl {A B:Type}{c:Bool}{x s:A}{y:B}(h:(bif c then .inl x else .inr y:A⊕B) = .inl s):s=x:=by
 cases c
 .cases h
 .cases h;rfl
theorem plan_l4 {l:List Member}{a:List Nat}{i:Nat}(ha:a.length<=1000)(h:∀i∈a,i<l.length)(he:∀m∈l,fewE m.E)(hi:i<a.length):
 nzQ (l,ints a,(i:Int),1)=some ((runN (l[a[i]]'(h _ (List.getElem_mem hi))) 1 ((pick l a).drop (i+1)):Nat):Int):=by
 have hp:=xzK h;have hdl:((pick l a).drop (i+1)).length=a.length-(i+1):=by rw[List.length_drop,hp]
 have hai:=h _ (List.getElem_mem hi);have key:=bzV (F:=lzs) (fun(s:Nat) j=>(l,ints a,(i:Int),((1+j:Nat):Int))) (fun n:Nat=>(n:Int)) ((pick l a).drop (i+1))
  (fun(n:Nat) y=>bif decide (n<1024)&&(decide (y.At.Row=i64.wrap (l[a[i]].At.Row+n))&&eqX y.E l[a[i]].E)then(.inl (n+1):Nat⊕Nat)else .inr n) id (fun s j=>s=1+j) (by omega)
  (by
   intro back s j hj hs;subst hs;have hj':i+(1+j)<a.length:=by omega
   have hb:=h _ (List.getElem_mem hj');have hg:((pick l a).drop (i+1))[j]=l[a[i+(1+j)]]:=by
    have:=xzJ h (i+(1+j)) hj';rw[List.getElem?_eq_getElem (by omega)]at this;injection this with this;rw[List.getElem_drop,<-this];congr 1;omega
   have hil:(ints a).length=a.length:=by simp[ints]
   unfold lzs;simp only[azj];rw[hg,show i64.wrap ((i:Int)+((1+j:Nat):Int))=((i+(1+j):Nat):Int) by rw[azG (by omega) (by omega)];omega,hil,ltT hj',azd,idxN hj',idxN hi];simp only[aza];rw[idxG hb,idxG hai];simp only[aza];rw[xz2 (he _ (List.getElem_mem hb)),aza,wr1 (by omega)];have hd:decide (((1+j:Nat):Int)<1024)=decide (1+j<1024):=by simp only[decide_eq_decide];omega
   rw[hd];cases decide (1+j<1024)<;>cases decide (l[a[i+(1+j)]].At.Row=i64.wrap (l[a[i]].At.Row+((1+j:Nat):Int)))<;>cases eqX l[a[i+(1+j)]].E l[a[i]].E<;>rfl)
  (by
   intro s j hj s' hs hst;subst hs;have:=bif_inl hst;omega)
  (by
   intro back s hs;subst hs;have hil:(ints a).length=a.length:=by simp[ints]
   unfold lzs;simp only[azj];rw[show i64.wrap ((i:Int)+((1+((pick l a).drop (i+1)).length:Nat):Int))=(a.length:Int) by rw[azG (by omega) (by omega)];omega,hil,ltF];rfl)
  1 rfl
 rw[show nzQ (l,ints a,(i:Int),1)=_ from key];congr 2;have:∀(t:List Member) (n:Nat),fzR (fun(n:Nat) (y:Member)=>bif decide (n<1024)&&(decide (y.At.Row=i64.wrap (l[a[i]].At.Row+n))&&eqX y.E l[a[i]].E)then(.inl (n+1):Nat⊕Nat)else .inr n) id n t=runN l[a[i]] n t:=by
  intro t;induction t with
  | nil=>intro n;rfl
  | cons y t ih =>
   intro n;simp only[fzR,runN];cases decide (n<1024)&&(decide (y.At.Row=i64.wrap (l[a[i]].At.Row+n))&&eqX y.E l[a[i]].E)
   .rfl
   .exact ih _
 rw[this]
theorem inbG {n k:Nat}(h:k<n):inb n (k:Int)=some k:=by
 unfold inb;rw[dT0 (by omega),dT0 (by omega)];rfl
theorem plan_l5 {l:List Member}{a:List Nat}{i n:Nat}{b:List Bool}(hb:b.length=l.length)(hl:l.length<=1000)(ha:a.length<=1000)(h:∀i∈a,i<l.length)(hn:i+n<=a.length):
 ∃y,qzX (b,ints a,(i:Int),(n:Int),(i:Int))=some y/\y.length=l.length:=by
 have:=scan (F:=lzt) (fun(s:List Bool) j=>(s,ints a,(i:Int),(n:Int),((i+j:Nat):Int))) n (fun s _=>s.length=l.length) (fun y=>y.length=l.length) (by omega) ?_ ?_ b hb
 .exact this
 .intro back s j hj hs;right;have hj':i+j<a.length:=by omega
  have hlt:=h _ (List.getElem_mem hj');unfold lzt;simp only;rw[show i64.wrap ((i:Int)+(n:Int))=((i+n:Nat):Int) by rw[azG (by omega) (by omega)];omega,ltT (by omega),azd,idxN hj',aza,inbG (by omega:a[i+j]<s.length),aza];rw[show nth s (0+a[i+j])=some s[a[i+j]] by simp[nth],aza,wr1 (by omega)];exact⟨_,rfl,by simpa using hs⟩
 .intro back s hs;unfold lzt;simp only;rw[show i64.wrap ((i:Int)+(n:Int))=((i+n:Nat):Int) by rw[azG (by omega) (by omega)];omega,ltF];exact⟨_,rfl,hs⟩
noncomputable def runs:Nat->List Member->List Group
 | 0,_=>[]
 | _+1,[]=>[]
 | k+1,x::t=>(bif decide (1<runN x 1 t)then [⟨false,x.At,((x::t)[runN x 1 t-1]?.getD x).At,x.E⟩]else [])++runs k ((x::t).drop (runN x 1 t))
theorem BzH {l:List Member}{a:List Nat}(hl:l.length<=1000)(ha:a.length<=1000)(h:∀i∈a,i<l.length)(he:∀m∈l,fewE m.E):
 ∀(k N i:Nat) (o:List Group) (b:List Bool),a.length-i<=k->k<N->i<=a.length->b.length=l.length->o.length+(a.length-i)<=1000000 ->
  ∃b',iter lzr N (l,o,b,ints a,(i:Int))=some (o++runs k ((pick l a).drop i),b')/\b'.length=l.length/\(runs k ((pick l a).drop i)).length<=a.length-i
 | _,0,_,_,_,_,h,_,_,_=>absurd h (by omega)
 | k,N+1,i,o,b,hk,hN,hi,hb,ho=>by
  have hp:=xzK h;have hil:(ints a).length=a.length:=by simp[ints]
  rw[azw];generalize hS:iter lzr N=S;unfold lzr;simp only[azj];rw[hil];by_cases hlt:i<a.length
  .obtain⟨k,rfl⟩:∃k',k=k'+1:=⟨k-1,by omega⟩;have hai:=h _ (List.getElem_mem hlt);have hd:(pick l a).drop i=l[a[i]]::(pick l a).drop (i+1):=by
    rw[List.drop_eq_getElem_cons (by omega)];have:=xzJ h i hlt;rw[List.getElem?_eq_getElem (by omega)]at this;injection this with this;rw[this]
   obtain⟨r1,r2⟩:=runN_le l[a[i]] 1 ((pick l a).drop (i+1));rw[List.length_drop,hp]at r2;rw[ltT hlt,azd,plan_l4 ha h he hlt,aza,hd];unfold runs;generalize hR:runN l[a[i]] 1 ((pick l a).drop (i+1))=R at r1 r2;obtain⟨R,rfl⟩:∃R',R=R'+1:=⟨R-1,by omega⟩;have hRl:i+R<a.length:=by omega
   rw[<-hd,List.drop_drop,show i64.wrap ((i:Int)+((R+1:Nat):Int))=((i+(R+1):Nat):Int) by rw[azG (by omega) (by omega)];omega];by_cases c:1<R+1
   .obtain⟨b',e1,e2⟩:=plan_l5 (i:=i) (n:=R+1) hb hl ha h (by omega);have hq:=h _ (List.getElem_mem hRl);rw[dT0 (by omega),azd,e1,aza,idxN hlt,show i64.wrap (((i+(R+1):Nat):Int)-1)=((i+R:Nat):Int) by rw[azG (by omega) (by omega)];omega,idxN hRl];simp only[aza];rw[idxG hai,idxG hq];simp only[aza];rw[appN (by simp;omega),aza];obtain⟨b2,f1,f2,f3⟩:=BzH hl ha h he k N (i+(R+1)) (o++[⟨false,l[a[i]].At,l[a[i+R]].At,l[a[i]].E⟩]) b' (by omega) (by omega) (by omega) e2 (by simp;omega);rw[<-hS,f1];refine⟨b2,?_,f2,?_⟩
    .rw[dT0 (by omega),cond_true,List.append_assoc];have:=xzJ h (i+R) hRl;rw[show R+1-1=R by omega,List.getElem?_drop,this];rfl
    .rw[dT0 (by omega),cond_true,List.length_append];simp;omega
   .obtain⟨b2,f1,f2,f3⟩:=BzH hl ha h he k N (i+(R+1)) o b (by omega) (by omega) (by omega) hb (by omega);rw[dF0 (by omega),azc,<-hS,f1];exact⟨b2,by rw[dF0 (by omega)];rfl,f2,by rw[dF0 (by omega)];simp;omega⟩
  .have:i=a.length:=by omega
   subst this;rw[ltF,List.drop_eq_nil_of_le (by omega)];refine⟨b,?_,hb,?_⟩
   .cases k<;>simp[runs]
   .cases k<;>simp[runs]
noncomputable def plD (l:List Member):List Group:=(List.range 256).flatMap fun c=>runs (colI l c).length (pick l (colI l c))
theorem plan_is {l:List Member}(hl:l.length<=1000)(he:∀m∈l,fewE m.E):∃o,rzt l=some (plD l,o)/\(plD l).length<=256000:=by
 have hr:∀c,(runs (colI l c).length (pick l (colI l c))).length<=1000:=by
  intro c;have hc:=Kzz l c;obtain⟨b',-,-,e3⟩:=BzH hl (by omega) (HzD (c:=c)) he (colI l c).length ((colI l c).length+1) 0 [] (List.replicate l.length false) (by omega) (by omega) (by omega) (by simp) (by simp;omega);rw[List.drop_zero]at e3;omega
 have l1:=scan (F:=lzp) (fun(s:List Group×List Bool) c=>(l,s.1,s.2,(c:Int))) 256 (fun s c=>s.1=(List.range c).flatMap (fun c=>runs (colI l c).length (pick l (colI l c)))/\s.1.length<=1000*c/\s.2.length=l.length)
  (fun y=>y.1=plD l/\y.1.length<=256000/\y.2.length=l.length) (by omega) ?_ ?_ ([],List.replicate l.length false) (by simp)
 .obtain⟨y,e1,e2,e3,e4⟩:=l1;have l6:∃o,qzY (l,y.2,[],0)=some o:=by
   refine⟨_,ezz (F:=lzu) (fun s i=>(l,y.2,s,(i:Int))) id (List.range l.length) (fun i=>match l[i]?,y.2[i]? with|some m,some b=>bif b then []else [m]|_,_=>[]) 1 [] (by simp;omega) ?_ ?_ ?_⟩
   .intro i _;cases l[i]? with
    | none=>simp
    | some m =>
     cases y.2[i]? with
     | none=>simp
     | some b=>cases b<;>simp
   .intro back s i hi hs;have hi':i<l.length:=by simpa using hi
    unfold lzu;simp only[azj];rw[ltT hi',azd,idxG (by omega:i<y.2.length),idxG hi',aza,aza,wr1 (by omega),appN (by simp at hs ⊢;omega),aza,List.getElem_range,List.getElem?_eq_getElem hi',List.getElem?_eq_getElem (by omega:i<y.2.length)];simp only;cases y.2[i]<;>simp
   .intro back s _;unfold lzu;simp only;rw[List.length_range,ltF];rfl
  obtain⟨o,e5⟩:=l6;refine⟨o,?_,by rw[<-e2];exact e3⟩;unfold rzt;rw[show tzI 1 false (l.length:Int) (l.length:Int)=some (List.replicate l.length false) by
   unfold tzI;rw[dT0 (by omega),dT0 (by omega),dT0 (by omega)];rfl,aza,show qzV (l,[],List.replicate l.length false,0)=_ from e1,aza,e5,aza,e2]
 .rintro back ⟨o,b⟩ c hc ⟨h1,h2,h3⟩;right;simp only at h1 h2 h3;have hcl:=Kzz l c;obtain⟨b',f1,f2,f3⟩:=BzH hl (by omega) (HzD (c:=c)) he (colI l c).length big 0 o b (by omega) (by rw[bzH];omega) (by omega) h3 (by omega);rw[List.drop_zero]at f1;unfold lzp;simp only;rw[dT0 (by omega),azd,plan_l2 hl,aza,show qzW (l,o,b,ints (colI l c),0)=_ from f1,aza,wr1 (by omega)];refine⟨(_,_),rfl,?_,?_,f2⟩
  .simp only;rw[List.range_succ,List.flatMap_append,<-h1];simp
  .have:=hr c;simp only[List.length_append];omega
 .rintro back ⟨o,b⟩ ⟨h1,h2,h3⟩;unfold lzp;simp only;rw[dF0 (by omega)];exact⟨_,rfl,h1,h2,h3⟩
theorem LzQ {a b:Group}(h:fewE a.E):lz1 (a,b)=some (eqX a b):=by
 unfold lz1;simp only[azj,xz2 h,aza,cond_false];by_cases hab:a=b
 .subst hab;rw[jzr,jzr];simp
 .rw[jzq hab];obtain⟨k,⟨r1,c1⟩,⟨r2,c2⟩,e⟩:=a;obtain⟨k',⟨r1',c1'⟩,⟨r2',c2'⟩,e'⟩:=b;simp only;rw[brnA,brnA,brnA];congr 1;by_cases he:e=e'
  .simp at hab ⊢;intro h1 h2 h3 h4 h5;exact absurd he (hab h1 h2 h3 h4 h5)
  .rw[jzq he];simp
theorem pick_mem {l:List Member}{a:List Nat}:∀m∈pick l a,m∈l:=by
 intro m hm;unfold pick at hm;obtain⟨i,hi,hm⟩:=List.mem_flatMap.1 hm;cases h:l[i]? with
 | none=>rw[h]at hm;cases hm
 | some x =>
  rw[h]at hm;simp at hm;rw[hm];exact List.mem_of_getElem? h
theorem runs_E:∀(k:Nat) (l:List Member),∀g∈runs k l,g.Array=false/\∃m∈l,g.E=m.E
 | 0,_,g,h=>by cases h
 | _+1,[],g,h=>by cases h
 | k+1,x::t,g,h=>by
  unfold runs at h;rcases List.mem_append.1 h with h|h
  .cases hd:decide (1<runN x 1 t)
   .rw[hd]at h;cases h
   .rw[hd]at h;simp at h;rw[h];exact⟨rfl,x,by simp,rfl⟩
  .obtain⟨h1,m,hm,h2⟩:=runs_E k _ g h;exact⟨h1,m,List.mem_of_mem_drop hm,h2⟩
theorem plD_E {l:List Member}:∀g∈plD l,g.Array=false/\∃m∈l,g.E=m.E:=by
 intro g hg;unfold plD at hg;obtain⟨c,-,hg⟩:=List.mem_flatMap.1 hg;obtain⟨h1,m,hm,h2⟩:=runs_E _ _ g hg;exact⟨h1,m,pick_mem m hm,h2⟩
noncomputable def grD (s:Sheet):Bool:=bif decide (csD (s.Groups.filter (·.Array))=0)then(bif (List.range (s.Groups.filter (·.Array)).length).all (gOk s.Cells (s.Groups.filter (·.Array)))then eqX (s.Groups.filter (·.Array)++plD (mem s.Cells (s.Groups.filter (·.Array)))) s.Groups else false)else false
theorem zzU {s:Sheet}(h:fewS s):ozV s=some (grD s):=by
 have hc:=h.cells;have hg:=h.groups;have ce:=fun x hx=>(h.cellE x hx).1
 have ge:=h.groupE;unfold ozV grD;rw[arrays_is (by omega),aza];have al:(s.Groups.filter (·.Array)).length<=s.Groups.length:=List.length_filter_le _ _;have ae:∀g∈s.Groups.filter (·.Array),fewE g.E:=fun g hg=>ge g (List.mem_filter.1 hg).1
 generalize s.Groups.filter (·.Array)=a at al ae;rw[HzA (by omega) ae,aza];by_cases c0:csD a=0
 .rw[dT0 c0,show(!true)=false from rfl,azc,cond_true,groups_l1 (by omega) ce (by omega) (cs0 c0).1,aza];cases(List.range a.length).all (gOk s.Cells a)
  .rfl
  .rw[cond_true,cond_true];simp only[osum];obtain⟨o,e1,e2⟩:=plan_is (l:=mem s.Cells a) (by have:=mem_len s.Cells a;omega) (BzE ce);unfold qzZ;simp only;rw[NzH (by omega) (by omega),aza,e1];simp only[aza];rw[appN (by simp;omega),aza,List.nil_append,appN (by omega),aza,aza];have pe:∀g∈a++plD (mem s.Cells a),fewE g.E:=by
    intro g hg;rcases List.mem_append.1 hg with hg|hg
    .exact ae g hg
    .obtain⟨-,m,hm,h2⟩:=plD_E g hg;rw[h2];exact BzE ce m hm
   have pl:(a++plD (mem s.Cells a)).length<=300000:=by rw[List.length_append];omega
   generalize a++plD (mem s.Cells a)=p at pe pl;by_cases hl:p.length=s.Groups.length
   .rw[dT0 (by omega),show(!true)=false from rfl,azc];have:=lzS (F:=jzE) (fun i=>(s,p,(i:Int))) p.length (eq2 p s.Groups) (.inr false) (.inl ()) (by omega) ?_ ?_
    .rw[show oz9 (s,p,0)=_ from this,aza,Bzv hl];cases eqX p s.Groups<;>rfl
    .intro back i hi;unfold jzE;simp only[azj,bz4];rw[ltT hi,azd,idxG hi,idxG (by omega:i<s.Groups.length),aza,aza,LzQ (pe _ (List.getElem_mem hi)),aza,wr1 (by omega),tzd hi (by omega)];cases eqX p[i] s.Groups[i]<;>rfl
    .intro back;unfold jzE;simp only;rw[ltF];rfl
   .rw[dF0 (by omega),jzq (fun h=>hl (by rw[h]))];rfl
 .rw[dF0 c0];rfl
def rwD (l:List Row)(i:Nat):Int:=match l[i]? with
 | some r=>if r.Row<0 then 12 else if 65536<=r.Row then 12 else if r.Height<0 then 1 else if 32767<r.Height then 1 else if i=0 then 0 else match l[i-1]? with
  | some q=>if r.Row<=q.Row then 6 else 0
  | none=>0
 | none=>0
theorem wzN {s:Sheet}(hl:s.Rows.length<=1000):lz2 (s,0)=some (er (fz (rwD s.Rows) (List.range s.Rows.length))):=by
 refine ezc (F:=fzZ) (fun i=>(s,(i:Int))) er (List.range s.Rows.length) (rwD s.Rows) (by simp;omega) ?_ ?_
 .intro back i hi;have hi':i<s.Rows.length:=by simpa using hi
  unfold fzZ;simp only;rw[ltT hi',azd,idxG hi',aza,wr1 (by omega),List.getElem_range];generalize hv:rwD s.Rows i=v;unfold rwD at hv;rw[List.getElem?_eq_getElem hi']at hv;simp only at hv;by_cases c1:s.Rows[i].Row<0
  .rw[if_pos c1]at hv;subst hv;rw[dT0 c1];rfl
  rw[if_neg c1]at hv;rw[dF0 c1,azc];by_cases c2:65536<=s.Rows[i].Row
  .rw[if_pos c2]at hv;subst hv;rw[dT0 c2];rfl
  rw[if_neg c2]at hv;rw[dF0 c2,azc];by_cases c3:s.Rows[i].Height<0
  .rw[if_pos c3]at hv;subst hv;rw[dT0 c3];rfl
  rw[if_neg c3]at hv;rw[dF0 c3,azc];by_cases c4:32767<s.Rows[i].Height
  .rw[if_pos c4]at hv;subst hv;rw[dT0 c4];rfl
  rw[if_neg c4]at hv;rw[dF0 c4,azc];by_cases c5:i=0
  .rw[if_pos c5]at hv;subst hv;rw[dF0 (by omega)];rfl
  rw[if_neg c5,List.getElem?_eq_getElem (by omega:i-1<s.Rows.length)]at hv;simp only at hv;rw[dT0 (by omega),azd,uzk (by omega) (by omega),idxG (by omega:i-1<s.Rows.length),aza];by_cases c6:s.Rows[i].Row<=s.Rows[i-1].Row
  .rw[if_pos c6]at hv;subst hv;rw[dT0 c6];rfl
  .rw[if_neg c6]at hv;subst hv;rw[dF0 c6];rfl
 .intro back;unfold fzZ;simp only;rw[List.length_range,ltF];rfl
theorem LzV {s:Sheet}(h:fewS s):∃r,azK s=some r/\(r=0->okCs s.Cells/\grD s=true):=by
 unfold azK;obtain⟨r,e1,e2⟩:=xzj (l:=s.Cells) (by have:=h.cells;omega) h.cellE;rw[dF0 (by have:=h.rows;omega),azc,wzN (by have:=h.rows;omega),aza,e1,zzU h];simp only[aza];by_cases c:fz (rwD s.Rows) (List.range s.Rows.length)=0
 .rw[c,er0];simp only[osum];by_cases c0:r=0
  .rw[dT0 c0];cases hg:grD s
   .exact⟨_,rfl,fun h=>by cases h⟩
   .exact⟨_,rfl,fun _=>⟨e2 c0,rfl⟩⟩
  .rw[dF0 c0];exact⟨_,rfl,fun h=>absurd h c0⟩
 .rw[er,if_neg c];exact⟨_,rfl,fun h=>absurd h c⟩
def txS (s:Sheet):List (List UInt8):=s.Cells.flatMap fun c=>bif !c.Has&&decide (c.V.Kind=2)then [c.V.S]else []
theorem rzg (s:Sheet):(txS s).length<=s.Cells.length:=by
 have:=izu (f:=fun c:Cell2=>bif !c.Has&&decide (c.V.Kind=2)then [c.V.S]else []) (K:=1) s.Cells (fun c _=>by cases !c.Has&&decide (c.V.Kind=2)<;>simp);unfold txS;omega
theorem Kzf {s:Sheet}(h:s.Cells.length<=1000):kzS s=some (txS s):=by
 have:=ezz (F:=fz0) (fun z i=>(s,z,(i:Int))) id s.Cells (fun c=>bif !c.Has&&decide (c.V.Kind=2)then [c.V.S]else []) 1 [] (by omega) (fun c _=>by cases !c.Has&&decide (c.V.Kind=2)<;>simp) ?_ ?_
 .unfold kzS;rw[show lz3 (s,[],0)=_ from this];rfl
 .intro back z i hi hz;unfold fz0;simp only;rw[ltT hi,azd,idxG hi];simp only[aza];rw[wr1 (by omega),appN (by simp at hz ⊢;omega),aza];cases s.Cells[i].Has<;>cases decide (s.Cells[i].V.Kind=2)<;>simp
 .intro back z _;unfold fz0;simp only;rw[ltF];rfl
theorem Cz4 {l:List Sheet}(hl:l.length<=1000)(h:∀s∈l,s.Cells.length<=1000):fz3 l=some (l.flatMap txS):=by
 have:=ezz (F:=hzX) (fun z i=>(l,z,(i:Int))) id l txS 1000 [] (by omega) (fun s hs=>by have:=rzg s;have:=h s hs;omega) ?_ ?_
 .unfold fz3;rw[show nzm (l,[],0)=_ from this];rfl
 .intro back z i hi hz;have h1:=h _ (List.getElem_mem hi);have h2:=rzg l[i];unfold hzX;simp only;rw[ltT hi,azd,idxG hi,aza,Kzf h1,aza,wr1 (by omega),appN (by simp at hz ⊢;omega),aza]
 .intro back z _;unfold hzX;simp only;rw[ltF];rfl
theorem Hzh {a b:List (List UInt8)}(h:b.length<=1000000000):gzY (a,b)=some (eqX a b):=by
 unfold gzY;by_cases hl:a.length=b.length
 .rw[dT0 (by simp only;omega),show(!true)=false from rfl,azc];have:=lzS (F:=izI) (fun i=>(a,b,(i:Int))) a.length (eq2 a b) (.inr false) (.inl ()) (by omega) ?_ ?_
  .rw[show ozj (a,b,0)=_ from this,aza,Bzv hl];cases eqX a b<;>rfl
  .intro back i hi;unfold izI;simp only;rw[ltT hi,azd,idxG hi,idxG (by omega:i<b.length),aza,aza,wr1 (by omega),tzd hi (by omega)];by_cases c:a[i]=b[i]
   .rw[dT0 c,dzT.2 c];rfl
   .rw[dF0 c,jzq c];rfl
  .intro back;unfold izI;simp only;rw[ltF];rfl
 .rw[dF0 (by simp only;omega),jzq (fun h=>hl (by rw[h]))];rfl
structure okB (b:Book):Prop where
 len:b.Sheets.length=b.Globals.Sheets.length
 one:1<=b.Sheets.length
 most:b.Sheets.length<=8
 names:∀e∈b.Globals.Names,Azn e
 cells:∀s∈b.Sheets,okCs s.Cells
theorem pzj {A X:Type}{F:(X->Option (Unit⊕Bool))->X->Option (Unit⊕Bool)}(mk:Nat->X)(l m:List A)(hl:l.length=m.length)(hn:l.length<=1000000000)
 (h:∀back i (h1:i<l.length) (h2:i<m.length),F back (mk i)=brn (!eqX l[i] m[i]) (some (.inr false)) (back (mk (i+1)))) (hend:∀back,F back (mk l.length)=some (.inl ())) :
 iter F big (mk 0)=some (bif eqX l m then .inl ()else .inr false):=by
 rw[<-Bzv hl];refine lzS mk l.length (eq2 l m) _ _ hn (fun back i hi=>?_) hend;have h2:i<m.length:=by omega
 rw[h back i hi h2,tzd hi h2];cases eqX l[i] m[i]<;>rfl
theorem pzi {A:Type}{l m:List A}(h:¬l.length=m.length):eqX l m=false:=jzq fun e=>h (by rw[e])
theorem eqX_dec {A:Type}[DecidableEq A](a b:A):eqX a b=decide (a=b):=by rw[Bool.eq_iff_iff,dzT,decide_eq_true_eq]
def sm1 (x y:Node2):Bool:=decide (x.deep=y.deep)&&(decide (x.e.Kind=y.e.Kind)&&(decide (x.e.V=y.e.V)&&(decide (x.e.A=y.e.A)&&(decide (x.e.Sheet=y.e.Sheet)&&(decide (x.e.Op=y.e.Op)&&decide (x.e.Kids.length=y.e.Kids.length))))))
theorem valE (a b:Val):(decide (a.Kind=b.Kind)&&(decide (a.N.M=b.N.M)&&(decide (a.N.S=b.N.S)&&(decide (a.S=b.S)&&(decide (a.B=b.B)&&decide (a.E=b.E))))))=decide (a=b):=by
 obtain⟨k,⟨m,s⟩,t,bb,e⟩:=a;obtain⟨k',⟨m',s'⟩,t',bb',e'⟩:=b;rw[Bool.eq_iff_iff];simp[and_assoc]
theorem areaE (a b:Area):(decide (a.A.Row=b.A.Row)&&(decide (a.A.Col=b.A.Col)&&(decide (a.A.RelRow=b.A.RelRow)&&(decide (a.A.RelCol=b.A.RelCol)&&(decide (a.B.Row=b.B.Row)&&(decide (a.B.Col=b.B.Col)&&(decide (a.B.RelRow=b.B.RelRow)&&decide (a.B.RelCol=b.B.RelCol))))))))=decide (a=b):=by
 obtain⟨⟨a1,a2,a3,a4⟩,⟨b1,b2,b3,b4⟩⟩:=a;obtain⟨⟨c1,c2,c3,c4⟩,⟨d1,d2,d3,d4⟩⟩:=b;rw[Bool.eq_iff_iff];simp[and_assoc]
theorem cellE (a b:Cell):(decide (a.Row=b.Row)&&decide (a.Col=b.Col))=decide (a=b):=by
 obtain⟨k,m⟩:=a;obtain⟨k',m'⟩:=b;rw[Bool.eq_iff_iff];simp
theorem sm1_is (x y:Node2):nza (x,y)=some (sm1 x y):=by
 unfold nza sm1;simp only[cond_false,valE,areaE];rw[brnA,brnA,brnA,brnA,brnA,brnA,show decide ((x.e.Kids.length:Int)=(y.e.Kids.length:Int))=decide (x.e.Kids.length=y.e.Kids.length) by simp only[decide_eq_decide];omega]
theorem sm1_refl (x:Node2):sm1 x x=true:=by unfold sm1;simp
def al2:List Node2->List Node2->Prop
 | [],[]=>True
 | x::l,y::m=>sm1 x y=true/\al2 l m
 | _,_=>False
theorem expr_ext {a b:Expr}(h1:a.Kind=b.Kind)(h2:a.V=b.V)(h3:a.A=b.A)(h4:a.Sheet=b.Sheet)(h5:a.Op=b.Op)(h6:a.Kids=b.Kids):a=b:=by
 cases a;cases b;simp at *;simp[h1,h2,h3,h4,h5,h6]
theorem pre_inj:∀(d:Nat) (k:Int) (a b:Expr) (r s:List Node2),tr d a->tr d b->al2 (pre d k a++r) (pre d k b++s)->a=b/\al2 r s
 | 0,_,_,_,_,_,h,_,_=>h.elim
 | d+1,k,a,b,r,s,ha,hb,h=>by
  simp only[pre,List.cons_append,al2]at h;obtain⟨h1,h2⟩:=h;unfold sm1 at h1;simp only[Bool.and_eq_true,decide_eq_true_eq]at h1;obtain⟨-,e1,e2,e3,e4,e5,e6⟩:=h1;have key:∀(l m:List Expr),l.length=m.length->(∀x∈l,tr d x)->(∀x∈m,tr d x)->al2 (l.flatMap (pre d (k+1))++r) (m.flatMap (pre d (k+1))++s)->l=m/\al2 r s:=by
   intro l;induction l with
   | nil =>
    intro m hl _ _ h;cases m with
    | nil=>exact⟨rfl,h⟩
    | cons _ _=>simp at hl
   | cons x l ih =>
    intro m hl t1 t2 h;cases m with
    | nil=>simp at hl
    | cons y m =>
     rw[List.flatMap_cons,List.flatMap_cons,List.append_assoc,List.append_assoc]at h;obtain⟨q1,q2⟩:=pre_inj d (k+1) x y _ _ (t1 x (by simp)) (t2 y (by simp)) h;obtain⟨q3,q4⟩:=ih m (by simpa using hl) (fun z hz=>t1 z (by simp[hz])) (fun z hz=>t2 z (by simp[hz])) q2;exact⟨by rw[q1,q3],q4⟩
  obtain⟨e7,h3⟩:=key _ _ e6 (fun x hx=>nzA ha hx) (fun x hx=>nzA hb hx) h2;exact⟨expr_ext e1 e2 e3 e4 e5 e7,h3⟩
theorem al2_get:∀{l m:List Node2},l.length=m.length->(∀i (h1:i<l.length) (h2:i<m.length),sm1 l[i] m[i]=true)->al2 l m
 | [],[],_,_=>trivial
 | [],_::_,h,_=>by simp at h
 | _::_,[],h,_=>by simp at h
 | x::l,y::m,h,k=>⟨k 0 (by simp) (by simp),al2_get (by simpa using h) fun i h1 h2=>k (i+1) (by simp;omega) (by simp;omega)⟩
theorem mzC {a b:Expr}(ha:fewE a)(hb:fewE b):izR (a,b)=some (eqX a b):=by
 obtain⟨a1,a2⟩:=ha;obtain⟨b1,b2⟩:=hb;unfold izR bzM;simp only[azj];rw[Ez5 (by omega) a2,Ez5 (by omega) b2,aza,aza];have l1:=BzI 40 1 a a2;have l2:=BzI 40 1 b b2;have inj:=fun h=>(pre_inj 40 1 a b [] [] a2 b2 h).1
 rw[List.append_nil,List.append_nil]at inj;have refl:a=b->pre 40 1 a=pre 40 1 b:=fun h=>by rw[h]
 generalize pre 40 1 a=l at l1 inj refl;generalize pre 40 1 b=m at l2 inj refl;by_cases hl:l.length=m.length
 .rw[dT0 (by omega),show(!true)=false from rfl,azc];have:=lzS (F:=azD) (fun i=>(m,(),l,(l.length:Int),(i:Int))) l.length (fun i=>match l[i]?,m[i]? with|some x,some y=>sm1 x y|_,_=>true) (.inr false) (.inl ()) (by omega) ?_ ?_
  .rw[show bzE (m,(),l,(l.length:Int),0)=_ from this,aza];cases hq:(List.range l.length).all (fun i=>match l[i]?,m[i]? with|some x,some y=>sm1 x y|_,_=>true)
   .rw[jzq]
    .rfl
    .intro h;have:=refl h;subst this;rw[List.all_eq_false]at hq;obtain⟨i,hi,hq⟩:=hq;rw[List.getElem?_eq_getElem (List.mem_range.1 hi)]at hq;simp only[sm1_refl]at hq;exact hq trivial
   .rw[dzT.2 (inj (al2_get hl fun i h1 h2=>by
     have:=List.all_eq_true.1 hq i (List.mem_range.2 h1);rw[List.getElem?_eq_getElem h1,List.getElem?_eq_getElem h2]at this;exact this))];rfl
  .intro back i hi;have h2:i<m.length:=by omega
   unfold azD;simp only[azj];rw[ltT hi,azd,idxG hi,idxG h2,aza,aza,show nza (⟨l[i].e,l[i].deep⟩,⟨m[i].e,m[i].deep⟩)=_ from sm1_is l[i] m[i],aza,wr1 (by omega),List.getElem?_eq_getElem hi,List.getElem?_eq_getElem h2];simp only;cases sm1 l[i] m[i]<;>rfl
  .intro back;unfold azD;simp only;rw[ltF];rfl
 .rw[dF0 (by omega),jzq (fun h=>hl (by rw[refl h]))];rfl
theorem groupE (a b:Group):(decide (a.Array=b.Array)&&(decide (a.A=b.A)&&(decide (a.B=b.B)&&eqX a.E b.E)))=eqX a b:=by
 rw[Bool.eq_iff_iff];simp only[Bool.and_eq_true,decide_eq_true_eq,dzT];cases a;cases b;simp
theorem cell2E (a b:Cell2):(decide (a.At=b.At)&&(decide (a.XF=b.XF)&&(decide (a.V=b.V)&&(decide (a.Has=b.Has)&&eqX a.E b.E))))=eqX a b:=by
 rw[Bool.eq_iff_iff];simp only[Bool.and_eq_true,decide_eq_true_eq,dzT];cases a;cases b;simp
theorem rowE (a b:Row):(decide (a.Row=b.Row)&&(decide (a.Height=b.Height)&&decide (a.Hidden=b.Hidden)))=eqX a b:=by
 rw[Bool.eq_iff_iff];simp only[Bool.and_eq_true,decide_eq_true_eq,dzT];cases a;cases b;simp
theorem placeE (a b:Place):(decide (a.Sheet=b.Sheet)&&(decide (a.At.Row=b.At.Row)&&decide (a.At.Col=b.At.Col)))=eqX a b:=by
 rw[Bool.eq_iff_iff];simp only[Bool.and_eq_true,decide_eq_true_eq,dzT];obtain⟨a,⟨a1,a2⟩⟩:=a;obtain⟨b,⟨b1,b2⟩⟩:=b;simp
theorem sheetE (a b:Sheet):(eqX a.Rows b.Rows&&(eqX a.Cells b.Cells&&eqX a.Groups b.Groups))=eqX a b:=by
 rw[Bool.eq_iff_iff];simp only[Bool.and_eq_true,dzT];cases a;cases b;simp
theorem globE (a b:Globals):(eqX a.Sheets b.Sheets&&(eqX a.Formats b.Formats&&(eqX a.XFs b.XFs&&(eqX a.Names b.Names&&(eqX a.Texts.Texts b.Texts.Texts&&(decide (a.Texts.Uses=b.Texts.Uses)&&eqX a.Chain b.Chain))))))=eqX a b:=by
 rw[Bool.eq_iff_iff];simp only[Bool.and_eq_true,dzT,decide_eq_true_eq];obtain⟨a1,a2,a3,a4,⟨a5,a6⟩,a7⟩:=a;obtain⟨b1,b2,b3,b4,⟨b5,b6⟩,b7⟩:=b;simp[and_assoc]
theorem bookE (a b:Book):(eqX a.Globals b.Globals&&eqX a.Sheets b.Sheets)=eqX a b:=by
 rw[Bool.eq_iff_iff];simp only[Bool.and_eq_true,dzT];cases a;cases b;simp
theorem Mzb {a b:Cell2}(ha:fewE a.E)(hb:fewE b.E):rzl (a,b)=some (eqX a b):=by
 unfold rzl;simp only[cond_false,valE,cellE,azj];rw[mzC ha hb,aza,brnA,brnA,brnA,brnA,cell2E]
theorem KzW {a b:Group}(ha:fewE a.E)(hb:fewE b.E):mza (a,b)=some (eqX a b):=by
 unfold mza;simp only[cond_false,cellE,azj];rw[mzC ha hb,aza,brnA,brnA,brnA,groupE]
theorem mzc (b:Bool):(osum (bif b then .inl ()else .inr false:Unit⊕Bool) (fun _=>some true) fun y=>some y)=some b:=by cases b<;>rfl
theorem lenD {A:Type}{l m:List A}(h:l.length=m.length):decide ((l.length:Int)=(m.length:Int))=true:=dT0 (by omega)
theorem lenN {A:Type}{l m:List A}(h:¬l.length=m.length):decide ((l.length:Int)=(m.length:Int))=false:=dF0 (by omega)
def ltM (x y:Member):Bool:=decide (x.At.Col<y.At.Col)||decide (x.At.Col=y.At.Col)&&decide (x.At.Row<y.At.Row)
theorem ltM_iff {x y:Member}:ltM x y=true↔x.At.Col<y.At.Col\/x.At.Col=y.At.Col/\x.At.Row<y.At.Row:=by unfold ltM;simp
theorem tzg {x y:Member}:ltM x y=false↔¬(x.At.Col<y.At.Col\/x.At.Col=y.At.Col/\x.At.Row<y.At.Row):=by
 rw[<-ltM_iff];simp
theorem or2 (a b:Int):mzB [a,b]=some (if a≠0 then a else b):=by
 unfold mzB;have this:qzI (0,[a,b],(([a,b]:List Int).length:Int),0)=some ((fun(r:Option Nat)=>match r with|some i=>.inr (([a,b]:List Int).getD i 0)|none=>.inl ()) _) :=
  kzb (F:=kz4) (fun i=>(0,[a,b],(([a,b]:List Int).length:Int),(i:Int))) (fun r=>match r with|some i=>.inr (([a,b]:List Int).getD i 0)|none=>.inl ()) [a,b] (fun y=>!decide (y=0)) (by simp)
  (fun back i hi=>by
   unfold kz4;simp only;rw[ltT hi,azd,idxG hi,aza,wr1 (by simp only[List.length_cons,List.length_nil]at hi;omega)];have hg:([a,b]:List Int).getD i 0=([a,b]:List Int)[i]:=by rw[List.getD_eq_getElem?_getD,List.getElem?_eq_getElem hi];rfl
   rw[hg];cases decide (([a,b]:List Int)[i]=0)<;>rfl)
  (fun back=>by
   unfold kz4;simp only;rw[ltF,azc])
 rw[this,aza];by_cases h1:a=0
 .by_cases h2:b=0<;>simp[h1,h2,List.findIdx?_cons,osum]
 .simp[h1,List.findIdx?_cons,osum]
theorem or2_lt (a b c d:Int):decide ((if cmpV a b≠0 then cmpV a b else cmpV c d)<0)=(decide (a<b)||decide (a=b)&&decide (c<d)):=by
 unfold cmpV;rcases Int.lt_trichotomy a b with h1|h1|h1
 .simp[h1]
 .rcases Int.lt_trichotomy c d with h2|h2|h2
  .simp[h1,h2]
  .simp[h1,h2]
  .have n1:¬c<d:=by omega
   simp[h1,h2,n1]
 .have n1:¬a<b:=by omega
  have n2:¬a=b:=by omega
  simp[h1,n1,n2]
theorem Fzl (x y:Member):∃v,fz4 (x,y)=some v/\decide (v<0)=ltM x y:=by
 refine⟨_,?_,or2_lt x.At.Col y.At.Col x.At.Row y.At.Row⟩;unfold fz4;simp only;rw[tzc,aza,tzc,aza,or2];rfl
theorem nthG {A:Type}{l:List A}{k:Nat}(h:k<l.length):nth l (0+k)=some l[k]:=by simp[nth]
theorem fzO (m:Member):Member.mk m.At m.E=m:=rfl
def swp (d:List Member)(i j:Nat):List Member:=match d[i]?,d[j]? with
 | some x,some y=>(d.set i y).set j x
 | _,_=>d
theorem wz2 {d:List Member}{i j:Nat}(hi:i<d.length)(hj:j<d.length):swp d i j=(d.set i d[j]).set j d[i]:=by
 unfold swp;rw[List.getElem?_eq_getElem hi,List.getElem?_eq_getElem hj]
theorem swp_len (d:List Member)(i j:Nat):(swp d i j).length=d.length:=by
 unfold swp;split<;>simp
theorem swp_perm {d:List Member}{i j:Nat}(hi:i<d.length)(hj:j<d.length):(swp d i j).Perm d:=by
 rw[wz2 hi hj];exact List.set_set_perm hi hj
theorem tzi {d:List Member}{i j:Nat}(hi:i<d.length)(hj:j<d.length)(k:Nat):(swp d i j)[k]?=if k=j then d[i]? else if k=i then d[j]? else d[k]?:=by
 rw[wz2 hi hj,List.getElem?_set,List.getElem?_set,List.length_set,List.getElem?_eq_getElem hi,List.getElem?_eq_getElem hj];by_cases h1:k=j
 .subst h1;simp[hj]
 .rw[if_neg (by omega),if_neg h1];by_cases h2:k=i
  .subst h2;simp[hi]
  .rw[if_neg (by omega),if_neg h2]
structure Mv (a b:Nat) (d r:List Member):Prop where
 perm:r.Perm d
 out:∀k,k<a\/b<=k->r[k]?=d[k]?
 frm:∀k,a<=k->k<b->∃k',a<=k'/\k'<b/\r[k]?=d[k']?
theorem Mv.refl (a b:Nat)(d:List Member):Mv a b d d:=⟨.refl _,fun _ _=>rfl,fun k h1 h2=>⟨k,h1,h2,rfl⟩⟩
theorem Mv.trans {a b:Nat}{d r s:List Member}(h:Mv a b d r)(k:Mv a b r s):Mv a b d s :=
 ⟨k.perm.trans h.perm,fun i hi=>(k.out i hi).trans (h.out i hi),fun i h1 h2=>by
  obtain⟨j,j1,j2,j3⟩:=k.frm i h1 h2;obtain⟨n,n1,n2,n3⟩:=h.frm j j1 j2;exact⟨n,n1,n2,j3.trans n3⟩⟩
theorem Mv.wide {a b a' b':Nat}{d r:List Member}(h:Mv a b d r)(ha:a'<=a)(hb:b<=b'):Mv a' b' d r :=
 ⟨h.perm,fun i hi=>h.out i (by omega),fun i h1 h2=>by
  by_cases c:a<=i/\i<b
  .obtain⟨j,j1,j2,j3⟩:=h.frm i c.1 c.2;exact⟨j,by omega,by omega,j3⟩
  .exact⟨i,h1,h2,h.out i (by omega)⟩⟩
theorem Mv.len {a b:Nat}{d r:List Member}(h:Mv a b d r):r.length=d.length:=h.perm.length_eq
theorem Mv.swp {a b i j:Nat}{d:List Member}(hi:a<=i)(hi':i<b)(hj:a<=j)(hj':j<b)(hb:b<=d.length):Mv a b d (swp d i j) :=
 ⟨swp_perm (by omega) (by omega),fun k hk=>by rw[tzi (by omega) (by omega),if_neg (by omega),if_neg (by omega)],fun k h1 h2=>by
  rw[tzi (by omega) (by omega)];by_cases c1:k=j
  .exact⟨i,hi,hi',if_pos c1⟩
  .by_cases c2:k=i
   .exact⟨j,hj,hj',by rw[if_neg c1,if_pos c2]⟩
   .exact⟨k,h1,h2,by rw[if_neg c1,if_neg c2]⟩⟩
def Srt (a b:Nat)(d:List Member):Prop:=∀i j,a<=i->i<j->j<b->∀x y,d[i]?=some x->d[j]?=some y->ltM y x=false
theorem Srt.one {a b:Nat}{d:List Member}(h:b<=a+1):Srt a b d:=fun i j h1 h2 h3=>by omega
theorem Srt.same {a b:Nat}{d r:List Member}(h:Srt a b d)(k:∀i,a<=i->i<b->r[i]?=d[i]?):Srt a b r:=fun i j h1 h2 h3 x y hx hy =>
 h i j h1 h2 h3 x y (by rw[<-k i h1 (by omega)];exact hx) (by rw[<-k j (by omega) h3];exact hy)
theorem half {i j:Nat}(h:i+j<=1000000000):i64.wrap ((u64.wrap (i64.wrap ((i:Int)+(j:Int)))).fdiv 2)=(((i+j)/2:Nat):Int):=by
 rw[azG (n:=(i:Int)+(j:Int)) (by omega) (by omega),wu64,show((i:Int)+(j:Int))%18446744073709551616=(i:Int)+(j:Int) by omega,Int.fdiv_eq_ediv_of_nonneg _ (by omega),azG (by omega) (by omega)];omega
theorem wadd {i j:Nat}(h:i+j<=1000000000):i64.wrap ((i:Int)+(j:Int))=((i+j:Nat):Int):=by rw[azG (by omega) (by omega)];omega
theorem wsub {i j:Nat}(h:j<=i)(h1:i<=1000000000):i64.wrap ((i:Int)-(j:Int))=((i-j:Nat):Int):=by rw[azG (by omega) (by omega)];omega
theorem ozd {i:Nat}(h:1<=i)(h1:i<=1000000000):i64.wrap ((i:Int)-1)=((i-1:Nat):Int):=uzk (by omega) h1
theorem Ezm {d:List Member}{a b n:Nat}(h1:a+n<=b)(h2:b+n<=d.length)(hd:d.length<=100000):
 ∃r,azZ (d,(a:Int),(b:Int),(n:Int),())=some r/\Mv a (b+n) d r /\
  ∀k,r[k]?=if a<=k/\k<a+n then d[k-a+b]? else if b<=k/\k<b+n then d[k-b+a]? else d[k]?:=by
 have:=scan (F:=bze) (fun(s:List Member) i=>(s,(a:Int),(b:Int),(n:Int),(i:Int))) n
  (fun s i=>Mv a (b+n) d s/\∀k,s[k]?=if a<=k/\k<a+i then d[k-a+b]? else if b<=k/\k<b+i then d[k-b+a]? else d[k]?)
  (fun r=>Mv a (b+n) d r/\∀k,r[k]?=if a<=k/\k<a+n then d[k-a+b]? else if b<=k/\k<b+n then d[k-b+a]? else d[k]?) (by omega) ?_ ?_ d
  ⟨.refl _ _ _,fun k=>by rw[if_neg (by omega),if_neg (by omega)]⟩
 .obtain⟨r,e1,e2⟩:=this;refine⟨r,?_,e2⟩;unfold azZ;rw[show czw (d,(a:Int),(b:Int),(n:Int),0)=_ from e1];rfl
 .rintro back s i hi ⟨hm,hg⟩;right;have hl:=hm.len;have ha:a+i<s.length:=by omega
  have hb:b+i<s.length:=by omega
  refine⟨swp s (a+i) (b+i),?_,?_,?_⟩
  .unfold bze;simp only[azj,fzO];rw[ltT hi,azd,wadd (by omega),wadd (by omega)];simp only[inbG ha,inbG hb,nthG ha,nthG hb,aza,List.length_set];rw[nthG (by simpa using hb),aza,wr1 (by omega),wz2 ha hb];simp only[Nat.zero_add]
  .exact hm.trans (.swp (by omega) (by omega) (by omega) (by omega) (by omega))
  .intro k;rw[tzi ha hb,hg,hg,hg]
   (repeat' split)<;>first|(exfalso;omega)|exact congrArg (fun i=>d[i]?) (by omega)
 .rintro back s ⟨hm,hg⟩;unfold bze;simp only;rw[ltF];exact⟨_,rfl,hm,hg⟩
def rotI (m i j k:Nat):Nat:=if m-i<=k/\k<m-i+j then k+i else if m-i+j<=k/\k<m+j then k-j else k
theorem vzL:∀(s N m i j:Nat) (d:List Member),i+j<=s->s<N->0<i->0<j->i<=m->m+j<=d.length->d.length<=100000 ->
 ∃y,∃z:Nat,iter bzp N (d,(m:Int),(),(i:Int),(j:Int))=some y/\0<z/\y.1=(z:Int)/\z<=m/\m+z<=d.length/\z<=i/\z<=j /\
  Mv (m-i) (m+j) d y.2/\(∀k,k<m-z\/m+z<=k->y.2[k]?=d[rotI m i j k]?)/\(∀k,m-z<=k->k<m->y.2[k+z]?=d[rotI m i j k]?/\y.2[k]?=d[rotI m i j (k+z)]?)
 | _,0,_,_,_,_,_,h,_,_,_,_,_=>absurd h (by omega)
 | 0,_,_,_,_,_,h,_,h1,_,_,_,_=>absurd h (by omega)
 | s+1,N+1,m,i,j,d,hs,hN,hi,hj,hm,hb,hd=>by
  rw[azw];generalize hS:iter bzp N=S;unfold bzp;simp only;by_cases c:i=j
  .subst c;rw[dT0 rfl];refine⟨_,i,rfl,hi,rfl,hm,hb,Nat.le_refl _,Nat.le_refl _,.refl _ _ _,fun k hk=>?_,fun k h1 h2=>⟨?_,?_⟩⟩
   .unfold rotI;rw[if_neg (by omega),if_neg (by omega)]
   .unfold rotI;rw[if_pos (by omega)]
   .unfold rotI;rw[if_neg (by omega),if_pos (by omega)];simp only;congr 1;omega
  .rw[dF0 (by omega),show(!false)=true from rfl,azd];by_cases c2:j<i
   .obtain⟨r,r1,r2,r3⟩:=Ezm (d:=d) (a:=m-i) (b:=m) (n:=j) (by omega) hb hd;rw[dT0 (by omega),azd,wsub hm (by omega),r1,aza,wsub (by omega) (by omega)];have hl:=r2.len;obtain⟨y,z,y1,y2,y3,y4,y5,y6,y7,y8,y9,y10⟩:=vzL s N m (i-j) j r (by omega) (by omega) (by omega) hj (by omega) (by omega) (by omega);rw[hS]at y1;refine⟨y,z,y1,y2,y3,y4,by omega,by omega,y7,r2.trans (y8.wide (by omega) (by omega)),fun k hk=>?_,fun k h1 h2=>⟨?_,?_⟩⟩
    .rw[y9 k hk,r3];unfold rotI
     (repeat' split)<;>first|(exfalso;omega)|exact congrArg (fun i=>d[i]?) (by omega)
    .rw[(y10 k h1 h2).1,r3];unfold rotI
     (repeat' split)<;>first|(exfalso;omega)|exact congrArg (fun i=>d[i]?) (by omega)
    .rw[(y10 k h1 h2).2,r3];unfold rotI
     (repeat' split)<;>first|(exfalso;omega)|exact congrArg (fun i=>d[i]?) (by omega)
   .obtain⟨r,r1,r2,r3⟩:=Ezm (d:=d) (a:=m-i) (b:=m+j-i) (n:=i) (by omega) (by omega) hd;rw[dF0 (by omega),azc,wsub hm (by omega),wadd (by omega),wsub (by omega) (by omega),r1,aza,wsub (by omega) (by omega)];have hl:=r2.len;obtain⟨y,z,y1,y2,y3,y4,y5,y6,y7,y8,y9,y10⟩:=vzL s N m i (j-i) r (by omega) (by omega) hi (by omega) hm (by omega) (by omega);rw[hS]at y1;refine⟨y,z,y1,y2,y3,y4,by omega,y6,by omega,(r2.wide (by omega) (by omega)).trans (y8.wide (by omega) (by omega)),fun k hk=>?_,fun k h1 h2=>⟨?_,?_⟩⟩
    .rw[y9 k hk,r3];unfold rotI
     (repeat' split)<;>first|(exfalso;omega)|exact congrArg (fun i=>d[i]?) (by omega)
    .rw[(y10 k h1 h2).1,r3];unfold rotI
     (repeat' split)<;>first|(exfalso;omega)|exact congrArg (fun i=>d[i]?) (by omega)
    .rw[(y10 k h1 h2).2,r3];unfold rotI
     (repeat' split)<;>first|(exfalso;omega)|exact congrArg (fun i=>d[i]?) (by omega)
theorem rotate_is {d:List Member}{a m b:Nat}(h1:a<m)(h2:m<b)(hb:b<=d.length)(hd:d.length<=100000):
 ∃r,bz3 (d,(a:Int),(m:Int),(b:Int),())=some r/\Mv a b d r/\∀k,r[k]?=d[rotI m (m-a) (b-m) k]?:=by
 obtain⟨y,z,y1,y2,y3,y4,y5,y6,y7,y8,y9,y10⟩:=vzL (b-a) big m (m-a) (b-m) d (by omega) (by rw[bzH];omega) (by omega) (by omega) (by omega) (by omega) hd;have hl:=y8.len;obtain⟨r,r1,r2,r3⟩:=Ezm (d:=y.2) (a:=m-z) (b:=m) (n:=z) (by omega) (by omega) (by omega);unfold bz3;simp only;rw[wsub (by omega) (by omega),wsub (by omega) (by omega),show czM (d,(m:Int),(),((m-a:Nat):Int),((b-m:Nat):Int))=_ from y1,aza,y3,wsub y4 (by omega),r1,aza];refine⟨r,rfl,(y8.wide (by omega) (by omega)).trans (r2.wide (by omega) (by omega)),fun k=>?_⟩;rw[r3];by_cases c1:m-z<=k/\k<m-z+z
 .rw[if_pos c1,show k-(m-z)+m=k+z by omega];exact(y10 k (by omega) (by omega)).1
 .rw[if_neg c1];by_cases c2:m<=k/\k<m+z
  .rw[if_pos c2];have:=(y10 (k-z) (by omega) (by omega)).2;rw[show k-z+z=k by omega]at this;rw[show k-m+(m-z)=k-z by omega,this]
  .rw[if_neg c2];exact y9 k (by omega)
def leO (x y:Option Member):Prop:=∀a b,x=some a->y=some b->ltM b a=false
theorem leO_trans {x z:Option Member}{y:Member}(h:leO x (some y))(k:leO (some y) z):leO x z:=fun a b ha hb=>by
 have h1:=h a y ha rfl;have h2:=k y b rfl hb;rw[tzg]at *;omega
theorem Lzi {x y:Member}(h:ltM y x=false):leO (some x) (some y):=fun a b ha hb=>by cases ha;cases hb;exact h
theorem leO_lt {x y:Member}(h:ltM x y=true):leO (some x) (some y):=Lzi (by rw[ltM_iff]at h;rw[tzg];omega)
theorem Srt.le {a b:Nat}{d:List Member}(h:Srt a b d){i j:Nat}(h1:a<=i)(h2:i<j)(h3:j<b):leO d[i]? d[j]?:=h i j h1 h2 h3
theorem leO_refl (x:Option Member):leO x x:=fun a b ha hb=>by rw[ha]at hb;cases hb;rw[tzg];omega
theorem Srt.le' {a b:Nat}{d:List Member}(h:Srt a b d){i j:Nat}(h1:a<=i)(h2:i<=j)(h3:j<b):leO d[i]? d[j]?:=by
 by_cases c:i=j
 .subst c;exact leO_refl _
 .exact h.le h1 (by omega) h3
theorem szV {x z:Option Member}{d:List Member}{k:Nat}(hk:k<d.length)(h:leO x d[k]?)(h2:leO d[k]? z):leO x z:=by
 rw[List.getElem?_eq_getElem hk]at h h2;exact leO_trans h h2
theorem lt_get {d:List Member}{i j:Nat}(hi:i<d.length)(hj:j<d.length)(h:ltM d[i] d[j]=true):leO d[i]? d[j]?:=by
 rw[List.getElem?_eq_getElem hi,List.getElem?_eq_getElem hj];exact leO_lt h
theorem le_get {d:List Member}{i j:Nat}(hi:i<d.length)(hj:j<d.length)(h:ltM d[j] d[i]=false):leO d[i]? d[j]?:=by
 rw[List.getElem?_eq_getElem hi,List.getElem?_eq_getElem hj];exact Lzi h
theorem ins_l2 {a i:Nat}:∀(n N j:Nat) (s:List Member),j-a<=n->n<N->a<=j->j<=i->i<s.length->s.length<=100000 ->
 (∀p q,a<=p->p<q->q<=i->p≠j->q≠j->leO s[p]? s[q]?)->(∀q,j<q->q<=i->leO s[j]? s[q]?) ->
 ∃r,iter az5 N (s,(a:Int),(),(j:Int))=some r/\Mv a (i+1) s r/\Srt a (i+1) r
 | _,0,_,_,_,h,_,_,_,_,_,_=>absurd h (by omega)
 | n,N+1,j,s,hn,hN,ha,hj,hi,hs,h1,h2=>by
  rw[azw];generalize hS:iter az5 N=S;unfold az5;simp only[azj,fzO];have done:(j=a\/leO s[j-1]? s[j]?)->Srt a (i+1) s:=by
   intro h p q hp hpq hq;by_cases c1:p=j
   .subst c1;exact h2 q hpq (by omega)
   .by_cases c2:q=j
    .subst c2;rcases h with h|h
     .omega
     .by_cases c3:p=q-1
      .subst c3;exact h
      .exact szV (by omega:q-1<s.length) (h1 p (q-1) hp (by omega) (by omega) c1 (by omega)) h
    .exact h1 p q hp hpq (by omega) c1 c2
  by_cases c:a=j
  .rw[dF0 (by omega)];exact⟨s,rfl,.refl _ _ _,done (.inl c.symm)⟩
  .have hjl:j<s.length:=by omega
   have hjl':j-1<s.length:=by omega
   rw[dT0 (by omega),azd,ozd (by omega) (by omega)];simp only[inbG hjl,inbG hjl',nthG hjl,nthG hjl',aza,List.length_set];obtain⟨v,v1,v2⟩:=Fzl s[j] s[j-1];rw[v1,aza,v2];cases hlt:ltM s[j] s[j-1]
   .exact⟨s,rfl,.refl _ _ _,done (.inr (le_get hjl' hjl hlt))⟩
   .rw[azd,nthG (by simpa using hjl'),aza];have he:swp s j (j-1)=(s.set (0+j) s[j-1]).set (0+(j-1)) s[j]:=by rw[wz2 hjl hjl',Nat.zero_add,Nat.zero_add]
    rw[<-he];have hg:=tzi hjl hjl';obtain⟨r,r1,r2,r3⟩:=ins_l2 (a:=a) (i:=i) (n-1) N (j-1) (swp s j (j-1)) (by omega) (by omega) (by omega) (by omega) (by rw[swp_len];exact hi) (by rw[swp_len];exact hs)
     (by
      intro p q hp hpq hq hp' hq';rw[hg,hg,if_neg hp',if_neg hq'];by_cases c1:p=j
      .subst c1;rw[if_pos rfl,if_neg (by omega)];exact h1 (p-1) q (by omega) (by omega) hq (by omega) (by omega)
      .rw[if_neg c1];by_cases c2:q=j
       .subst c2;rw[if_pos rfl];exact h1 p (q-1) hp (by omega) (by omega) c1 (by omega)
       .rw[if_neg c2];exact h1 p q hp hpq hq c1 c2)
     (by
      intro q hq hqi;rw[hg,hg,if_pos rfl,if_neg (by omega)];by_cases c2:q=j
      .subst c2;rw[if_pos rfl];exact lt_get hjl hjl' hlt
      .rw[if_neg c2];exact h2 q (by omega) hqi)
    exact⟨r,by rw[<-hS];exact r1,(Mv.swp (by omega) (by omega) (by omega) (by omega) (by omega)).trans r2,r3⟩
theorem zzV {a b:Nat}{d:List Member}(hab:a<=b)(hb:b<=d.length)(hd:d.length<=100000):
 ∃r,bzb (d,(a:Int),(b:Int),())=some r/\Mv a b d r/\Srt a b r:=by
 unfold bzb;simp only;rw[wr1 (by omega)];by_cases c:a=b
 .subst c;have:bzB (d,(a:Int),(a:Int),(),((a+1:Nat):Int))=some d:=by
   show iter _ big _=_
   rw[bzH,azw];unfold azI;simp only;rw[dF0 (by omega)];rfl
  rw[this];exact⟨d,rfl,.refl _ _ _,.one (by omega)⟩
 .obtain⟨y,y1,y2,y3⟩:=scan (F:=azI) (fun(s:List Member) i=>(s,(a:Int),(b:Int),(),((a+1+i:Nat):Int))) (b-(a+1)) (fun s i=>Mv a b d s/\Srt a (a+1+i) s) (fun y=>Mv a b d y/\Srt a b y) (by omega)
   (by
    rintro back s i hi ⟨h1,h2⟩;right;have hl:=h1.len;obtain⟨r,r1,r2,r3⟩:=ins_l2 (a:=a) (i:=a+1+i) (i+1) big (a+1+i) s (by omega) (by rw[bzH];omega) (by omega) (by omega) (by omega) (by omega)
     (fun p q hp hpq hq hp' hq'=>h2.le hp hpq (by omega)) (fun q hq hq'=>by omega)
    unfold azI;simp only;rw[dT0 (by omega),azd,show cze (s,(a:Int),(),((a+1+i:Nat):Int))=_ from r1,aza,wr1 (by omega)];exact⟨r,rfl,h1.trans (r2.wide (by omega) (by omega)),r3⟩)
   (by
    rintro back s ⟨h1,h2⟩;unfold azI;simp only;rw[dF0 (by omega)];rw[show a+1+(b-(a+1))=b by omega]at h2;exact⟨_,rfl,h1,h2⟩) d ⟨.refl _ _ _,.one (by omega)⟩
  rw[show bzB (d,(a:Int),(b:Int),(),((a+1:Nat):Int))=_ from y1];exact⟨y,rfl,y2,y3⟩
theorem bin {X:Type}{F:(X->Option (Int×List Member))->X->Option (Int×List Member)}(mk:Nat->Nat->X)(d:List Member)(c:Nat->Bool){i0 j0:Nat}(h01:i0<=j0)(hj:j0<=100000)
 (h:∀back i j,i0<=i->i<j->j<=j0->F back (mk i j)=bif c ((i+j)/2)then back (mk ((i+j)/2+1) j)else back (mk i ((i+j)/2))) (hend:∀back i,F back (mk i i)=some ((i:Int),d)) :
 ∃r:Nat,i0<=r/\r<=j0/\(r=i0\/c (r-1)=true)/\(r=j0\/c r=false)/\iter F big (mk i0 j0)=some ((r:Int),d):=by
 have key:∀n N i j,j-i<=n->n<N->i0<=i->i<=j->j<=j0->(i=i0\/c (i-1)=true)->(j=j0\/c j=false) ->
  ∃r:Nat,i0<=r/\r<=j0/\(r=i0\/c (r-1)=true)/\(r=j0\/c r=false)/\iter F N (mk i j)=some ((r:Int),d):=by
  intro n;induction n with
  | zero =>
   intro N i j h1 h2 h3 h4 h5 h6 h7;obtain⟨N,rfl⟩:∃m,N=m+1:=⟨N-1,by omega⟩;have:i=j:=by omega
   subst this;exact⟨i,h3,h5,h6,h7,by rw[azw,hend]⟩
  | succ n ih =>
   intro N i j h1 h2 h3 h4 h5 h6 h7;obtain⟨N,rfl⟩:∃m,N=m+1:=⟨N-1,by omega⟩;by_cases e:i=j
   .subst e;exact⟨i,h3,h5,h6,h7,by rw[azw,hend]⟩
   .rw[azw,h _ i j h3 (by omega) h5];cases hc:c ((i+j)/2)with
    | true=>exact ih N ((i+j)/2+1) j (by omega) (by omega) (by omega) (by omega) h5 (.inr (by rw[Nat.add_sub_cancel];exact hc)) h7
    | false=>exact ih N i ((i+j)/2) (by omega) (by omega) h3 (by omega) (by omega) h6 (.inr hc)
 exact key (j0-i0) big i0 j0 (by omega) (by rw[bzH];omega) (by omega) h01 (by omega) (.inl rfl) (.inl rfl)
theorem up_l2 {S:List Member×Int×Int×Int×Unit->Option (List Member)}{d:List Member}{a i:Nat}(h1:a<i)(h2:i<=d.length)(hd:d.length<=100000):
 ∃r,bzQ S (d,(i:Int),(a:Int))=some r/\Mv a i d r/\∀t,r[t]?=if t=i-1 then d[a]? else if a<=t/\t<i-1 then d[t+1]? else d[t]?:=by
 have:=scan (F:=azS S) (fun(s:List Member) k=>(s,(i:Int),((a+k:Nat):Int))) (i-1-a) (fun s k=>Mv a i d s/\∀t,s[t]?=if t=a+k then d[a]? else if a<=t/\t<a+k then d[t+1]? else d[t]?)
  (fun r=>Mv a i d r/\∀t,r[t]?=if t=i-1 then d[a]? else if a<=t/\t<i-1 then d[t+1]? else d[t]?) (by omega) ?_ ?_ d ⟨.refl _ _ _,fun t=>by
   by_cases c:t=a
   .subst c;simp
   .rw[if_neg (by omega),if_neg (by omega)]⟩
 .obtain⟨y,y1,y2⟩:=this;exact⟨y,y1,y2⟩
 .rintro back s k hk ⟨hm,hg⟩;right;have hl:=hm.len;have h3:a+k<s.length:=by omega
  have h4:a+k+1<s.length:=by omega
  refine⟨swp s (a+k) (a+k+1),?_,hm.trans (.swp (by omega) (by omega) (by omega) (by omega) (by omega)),fun t=>?_⟩
  .unfold azS;simp only[azj,fzO];rw[ozd (by omega) (by omega),dT0 (by omega),azd,wr1 (by omega)];simp only[inbG h3,inbG h4,nthG h3,nthG h4,aza,List.length_set];rw[nthG (by simpa using h4),aza,wz2 h3 h4];simp only[Nat.zero_add];rfl
  .rw[tzi h3 h4,hg,hg,hg]
   (repeat' split)<;>first|(exfalso;omega)|exact congrArg (fun i=>d[i]?) (by omega)
 .rintro back s ⟨hm,hg⟩;unfold azS;simp only;rw[ozd (by omega) (by omega),dF0 (by omega)];refine⟨_,rfl,hm,fun t=>?_⟩;rw[hg]
  (repeat' split)<;>first|(exfalso;omega)|exact congrArg (fun i=>d[i]?) (by omega)
theorem down_l4 {S:List Member×Int×Int×Int×Unit->Option (List Member)}{d:List Member}{i m:Nat}(h1:i<=m)(h2:m<d.length)(hd:d.length<=100000):
 ∃r,bzS S (d,(i:Int),(m:Int))=some r/\Mv i (m+1) d r/\∀t,r[t]?=if t=i then d[m]? else if i<t/\t<=m then d[t-1]? else d[t]?:=by
 have:=scan (F:=azU S) (fun(s:List Member) k=>(s,(i:Int),((m-k:Nat):Int))) (m-i) (fun s k=>Mv i (m+1) d s/\∀t,s[t]?=if t=m-k then d[m]? else if m-k<t/\t<=m then d[t-1]? else d[t]?)
  (fun r=>Mv i (m+1) d r/\∀t,r[t]?=if t=i then d[m]? else if i<t/\t<=m then d[t-1]? else d[t]?) (by omega) ?_ ?_ d ⟨.refl _ _ _,fun t=>by
   by_cases c:t=m
   .subst c;simp
   .rw[if_neg (by omega),if_neg (by omega)]⟩
 .obtain⟨y,y1,y2⟩:=this;exact⟨y,y1,y2⟩
 .rintro back s k hk ⟨hm,hg⟩;right;have hl:=hm.len;have h3:m-k<s.length:=by omega
  have h4:m-k-1<s.length:=by omega
  refine⟨swp s (m-k) (m-k-1),?_,hm.trans (.swp (by omega) (by omega) (by omega) (by omega) (by omega)),fun t=>?_⟩
  .unfold azU;simp only[azj,fzO];rw[dT0 (by omega),azd,ozd (by omega) (by omega)];simp only[inbG h3,inbG h4,nthG h3,nthG h4,aza,List.length_set];rw[nthG (by simpa using h4),aza,wz2 h3 h4,show m-(k+1)=m-k-1 by omega];simp only[Nat.zero_add]
  .rw[tzi h3 h4,hg,hg,hg]
   (repeat' split)<;>first|(exfalso;omega)|exact congrArg (fun i=>d[i]?) (by omega)
 .rintro back s ⟨hm,hg⟩;unfold azU;simp only;rw[dF0 (by omega)];refine⟨_,rfl,hm,fun t=>?_⟩;rw[hg]
  (repeat' split)<;>first|(exfalso;omega)|exact congrArg (fun i=>d[i]?) (by omega)
def ltI (d:List Member)(i j:Nat):Bool:=match d[i]?,d[j]? with
 | some x,some y=>ltM x y
 | _,_=>false
theorem Azh {d:List Member}{i j:Nat}(hi:i<d.length)(hj:j<d.length):ltI d i j=ltM d[i] d[j]:=by
 unfold ltI;rw[List.getElem?_eq_getElem hi,List.getElem?_eq_getElem hj]
theorem ltI_le {d:List Member}{i j:Nat}(hi:i<d.length)(hj:j<d.length)(h:ltI d i j=true):leO d[i]? d[j]?:=lt_get hi hj (by rw[<-Azh hi hj];exact h)
theorem ltI_ge {d:List Member}{i j:Nat}(hi:i<d.length)(hj:j<d.length)(h:ltI d i j=false):leO d[j]? d[i]?:=le_get hj hi (by rw[<-Azh hi hj];exact h)
theorem joinS {a m b:Nat}{d r s:List Member}(h1:Mv a m d r)(k1:Srt a m r)(h2:Mv m b r s)(k2:Srt m b s)(hx:∀p q,a<=p->p<m->m<=q->q<b->leO d[p]? d[q]?):Srt a b s:=by
 intro p q hp hpq hq
 show leO s[p]? s[q]?
 by_cases c1:q<m
 .rw[h2.out p (by omega),h2.out q (by omega)];exact k1.le hp hpq c1
 .by_cases c2:m<=p
  .exact k2.le c2 hpq hq
  .rw[h2.out p (by omega)];obtain⟨p',p1,p2,p3⟩:=h1.frm p hp (by omega);obtain⟨q',q1,q2,q3⟩:=h2.frm q (by omega) hq;rw[p3,q3,h1.out q' (by omega)];exact hx p' q' p1 p2 q1 q2
theorem sym_one {S:List Member×Int×Int×Int×Unit->Option (List Member)}{d:List Member}{a b:Nat}(hb:b<=d.length)(hab:a+1<b)(hd:d.length<=100000)(h2:Srt (a+1) b d):
 ∃r,(obnd (bzP S (d,(a:Int),(),((a+1:Nat):Int),(b:Int))) fun y=>obnd (bzQ S (y.2,y.1,(a:Int))) fun y=>some y)=some r/\Mv a b d r/\Srt a b r:=by
 have hal:a<d.length:=by omega
 obtain⟨i,i1,i2,i3,i4,i5⟩:=bin (F:=azR S) (fun i j=>(d,(a:Int),(),(i:Int),(j:Int))) d (fun h=>ltI d h a) (i0:=a+1) (j0:=b) (by omega) (by omega)
  (by
   intro back i j h1 h2 h3;have hh:(i+j)/2<d.length:=by omega
   unfold azR;simp only[azj,fzO];rw[ltT h2,azd,half (by omega)];simp only[inbG hal,inbG hh,nthG hal,nthG hh,aza];obtain⟨v,v1,v2⟩:=Fzl d[(i+j)/2] d[a];rw[v1,aza,v2,<-Azh hh hal,wr1 (by omega)];cases ltI d ((i+j)/2) a<;>rfl)
  (by
   intro back i;unfold azR;simp only;rw[ltF];rfl)
 obtain⟨r,r1,r2,r3⟩:=up_l2 (S:=S) (d:=d) (a:=a) (i:=i) (by omega) (by omega) hd;rw[show bzP S (d,(a:Int),(),((a+1:Nat):Int),(b:Int))=_ from i5,aza,r1];refine⟨r,rfl,r2.wide (by omega) (by omega),?_⟩;have A:∀t,a+1<=t->t<i->leO d[t]? d[a]?:=fun t h3 h4=>by
  rcases i3 with h|h
  .omega
  .exact szV (by omega:i-1<d.length) (h2.le' h3 (by omega) (by omega)) (ltI_le (by omega) hal h)
 have B:∀t,i<=t->t<b->leO d[a]? d[t]?:=fun t h3 h4=>by
  rcases i4 with h|h
  .omega
  .exact szV (by omega:i<d.length) (ltI_ge (by omega) hal h) (h2.le' (by omega) h3 h4)
 intro p q hp hpq hq
 show leO r[p]? r[q]?
 rw[r3,r3];by_cases c1:p=i-1
 .rw[if_pos c1,if_neg (by omega),if_neg (by omega)];exact B q (by omega) hq
 .rw[if_neg c1];by_cases c2:p<i-1
  .rw[if_pos (by omega)];by_cases c3:q=i-1
   .rw[if_pos c3];exact A (p+1) (by omega) (by omega)
   .rw[if_neg c3];by_cases c4:q<i-1
    .rw[if_pos (by omega)];exact h2.le (by omega) (by omega) (by omega)
    .rw[if_neg (by omega)];exact h2.le (by omega) (by omega) hq
  .rw[if_neg (by omega),if_neg (by omega),if_neg (by omega)];exact h2.le (by omega) hpq hq
theorem sym_two {S:List Member×Int×Int×Int×Unit->Option (List Member)}{d:List Member}{a m:Nat}(hb:m+1<=d.length)(ham:a<m)(hd:d.length<=100000)(h1:Srt a m d):
 ∃r,(obnd (bzR S (d,(m:Int),(),(a:Int),(m:Int))) fun y=>obnd (bzS S (y.2,y.1,(m:Int))) fun y=>some y)=some r/\Mv a (m+1) d r/\Srt a (m+1) r:=by
 have hml:m<d.length:=by omega
 obtain⟨i,i1,i2,i3,i4,i5⟩:=bin (F:=azT S) (fun i j=>(d,(m:Int),(),(i:Int),(j:Int))) d (fun h=>!ltI d m h) (i0:=a) (j0:=m) (by omega) (by omega)
  (by
   intro back i j h1 h2 h3;have hh:(i+j)/2<d.length:=by omega
   unfold azT;simp only[azj,fzO];rw[ltT h2,azd,half (by omega)];simp only[inbG hml,inbG hh,nthG hml,nthG hh,aza];obtain⟨v,v1,v2⟩:=Fzl d[m] d[(i+j)/2];rw[v1,aza,v2,<-Azh hml hh,wr1 (by omega)];cases ltI d m ((i+j)/2)<;>rfl)
  (by
   intro back i;unfold azT;simp only;rw[ltF];rfl)
 obtain⟨r,r1,r2,r3⟩:=down_l4 (S:=S) (d:=d) (i:=i) (m:=m) (by omega) (by omega) hd;rw[show bzR S (d,(m:Int),(),(a:Int),(m:Int))=_ from i5,aza,r1];refine⟨r,rfl,r2.wide (by omega) (by omega),?_⟩;have A:∀t,a<=t->t<i->leO d[t]? d[m]?:=fun t h3 h4=>by
  rcases i3 with h|h
  .omega
  .exact szV (by omega:i-1<d.length) (h1.le' h3 (by omega) (by omega)) (ltI_ge hml (by omega) (by simpa using h))
 have B:∀t,i<=t->t<m->leO d[m]? d[t]?:=fun t h3 h4=>by
  rcases i4 with h|h
  .omega
  .exact szV (by omega:i<d.length) (ltI_le hml (by omega) (by simpa using h)) (h1.le' (by omega) h3 h4)
 intro p q hp hpq hq
 show leO r[p]? r[q]?
 rw[r3,r3];by_cases c1:p=i
 .rw[if_pos c1,if_neg (by omega),if_pos (by omega)];exact B (q-1) (by omega) (by omega)
 .rw[if_neg c1];by_cases c2:i<p
  .rw[if_pos (by omega),if_neg (by omega),if_pos (by omega)];exact h1.le (by omega) (by omega) (by omega)
  .rw[if_neg (by omega)];by_cases c3:q=i
   .rw[if_pos c3];exact A p hp (by omega)
   .rw[if_neg c3];by_cases c4:i<q
    .rw[if_pos (by omega)];exact h1.le (by omega) (by omega) (by omega)
    .rw[if_neg (by omega)];exact h1.le (by omega) (by omega) (by omega)
theorem sym_is:∀(n N a m b:Nat) (d:List Member),b-a<=n->n<N->a<m->m<b->b<=d.length->d.length<=100000->Srt a m d->Srt m b d ->
 ∃r,iter azs N (d,(a:Int),(m:Int),(b:Int),())=some r/\Mv a b d r/\Srt a b r
 | _,0,_,_,_,_,_,h,_,_,_,_,_,_=>absurd h (by omega)
 | 0,_+1,_,_,_,_,h,_,_,_,_,_,_,_=>absurd h (by omega)
 | n+1,N+1,a,m,b,d,hn,hN,ham,hmb,hb,hd,h1,h2=>by
  rw[azw];have rc0:=fun a m b d h3 h4 h5 h6 h7 k1 k2=>sym_is n N a m b d h3 (by omega) h4 h5 h6 h7 k1 k2
  generalize iter azs N=S at rc0;unfold azs;simp only;rw[wsub (by omega) (by omega),wsub (by omega) (by omega),half (by omega)];by_cases c1:m-a=1
  .obtain rfl:m=a+1:=by omega
   rw[dT0 (by omega),azd];exact sym_one hb hmb hd h2
  by_cases c2:b-m=1
  .obtain rfl:b=m+1:=by omega
   rw[dF0 (by omega),azc,dT0 (by omega),azd];exact sym_two hb ham hd h1
  rw[dF0 (by omega),dF0 (by omega),azc,azc];generalize hmid:(a+b)/2=mid;have q1:a<mid:=by omega
  have q2:mid<b:=by omega
  rw[wadd (by omega),ozd (by omega) (by omega)];obtain⟨i0,j0,hs0,e0,e1,e2,e3,e4,e5⟩:∃i0 j0:Nat,azO S ((a:Int),(m:Int),(b:Int),(mid:Int),((mid+m:Nat):Int),decide ((mid:Int)<(m:Int)))=some ((i0:Int),(j0:Int)) /\
   i0<=j0/\a<=i0/\j0<=m/\j0<=mid/\mid+m-i0<=b/\m<=mid+m-j0:=by
   unfold azO;simp only;by_cases c:mid<m
   .rw[dT0 (by omega),azd,wsub (by omega) (by omega)];exact⟨mid+m-b,mid,rfl,by omega,by omega,by omega,by omega,by omega,by omega⟩
   .rw[dF0 (by omega),azc];exact⟨a,m,rfl,by omega,by omega,by omega,by omega,by omega,by omega⟩
  have edge1:i0=a\/mid+m-i0=b:=by
   unfold azO at hs0;simp only at hs0;by_cases c:mid<m
   .rw[dT0 (by omega),azd,wsub (by omega) (by omega)]at hs0;injection hs0 with hs0;injection hs0 with g1 g2;omega
   .rw[dF0 (by omega),azc]at hs0;injection hs0 with hs0;injection hs0 with g1 g2;omega
  have edge2:j0=m\/j0=mid:=by
   unfold azO at hs0;simp only at hs0;by_cases c:mid<m
   .rw[dT0 (by omega),azd,wsub (by omega) (by omega)]at hs0;injection hs0 with hs0;injection hs0 with g1 g2;omega
   .rw[dF0 (by omega),azc]at hs0;injection hs0 with hs0;injection hs0 with g1 g2;omega
  rw[hs0,aza];simp only;obtain⟨st,s1,s2,s3,s4,s5⟩:=bin (F:=azV S) (fun i j=>(d,(),(i:Int),(j:Int),((mid+m-1:Nat):Int))) d (fun h=>!ltI d (mid+m-1-h) h) (i0:=i0) (j0:=j0) e0 (by omega)
   (by
    intro back i j h1 h2 h3;have hh:(i+j)/2<d.length:=by omega
    have hk:mid+m-1-(i+j)/2<d.length:=by omega
    unfold azV;simp only[azj,fzO];rw[ltT h2,azd,half (by omega),wsub (by omega) (by omega)];simp only[inbG hk,inbG hh,nthG hk,nthG hh,aza];obtain⟨v,v1,v2⟩:=Fzl d[mid+m-1-(i+j)/2] d[(i+j)/2];rw[v1,aza,v2,<-Azh hk hh,wr1 (by omega)];cases ltI d (mid+m-1-(i+j)/2) ((i+j)/2)<;>rfl)
   (by
    intro back i;unfold azV;simp only;rw[ltF];rfl)
  rw[show czE S (d,(),(i0:Int),(j0:Int),((mid+m-1:Nat):Int))=_ from s5,aza];simp only;rw[wsub (by omega) (by omega)];generalize hen:mid+m-st=en;have z1:m<=en:=by omega
  have z2:en<=b:=by omega
  have z3:st<=m:=by omega
  have z4:st<=mid:=by omega
  have z5:mid<=en:=by omega
  obtain⟨r0,g1,g2,g3⟩:∃r,(obnd (bzf S ((m:Int),(st:Int),(en:Int))) fun y_1=>bzO S (d,(m:Int),(),(st:Int),(en:Int),y_1))=some r/\Mv st en d r/\∀k,r[k]?=d[rotI m (m-st) (en-m) k]?:=by
   unfold bzf bzO;simp only;have same:(st=m\/m=en)->∀k,d[k]?=d[rotI m (m-st) (en-m) k]?:=by
    intro h k;unfold rotI
    (repeat' split)<;>first|(exfalso;omega)|exact congrArg (fun i=>d[i]?) (by omega)
   by_cases c3:st<m
   .rw[dT0 (by omega),azd,aza];by_cases c4:m<en
    .rw[dT0 (by omega),azd];obtain⟨r,r1,r2,r3⟩:=rotate_is (d:=d) c3 c4 (by omega) hd;exact⟨r,by rw[r1];rfl,r2,r3⟩
    .rw[dF0 (by omega),azc];exact⟨d,rfl,.refl _ _ _,same (by omega)⟩
   .rw[dF0 (by omega),azc,aza,azc];exact⟨d,rfl,.refl _ _ _,same (by omega)⟩
  have hl0:=g2.len;cases hb7:bzf S ((m:Int),(st:Int),(en:Int))with
  | none=>rw[hb7]at g1;cases g1
  | some v =>
   rw[hb7,aza]at g1;rw[aza,g1,aza];have L1:∀k,a<=k->k<st->r0[k]?=d[k]?:=fun k k1 k2=>g2.out k (by omega)
   have R1:∀k,st<=k->k<mid->r0[k]?=d[k-st+m]?:=fun k k1 k2=>by
    rw[g3];unfold rotI;rw[if_pos (by omega)];exact congrArg (fun i=>d[i]?) (by omega)
   have L2:∀k,mid<=k->k<en->r0[k]?=d[k-mid+st]?:=fun k k1 k2=>by
    rw[g3];unfold rotI;rw[if_neg (by omega),if_pos (by omega)];exact congrArg (fun i=>d[i]?) (by omega)
   have R2:∀k,en<=k->k<b->r0[k]?=d[k]?:=fun k k1 k2=>g2.out k (by omega)
   have A:∀p q,a<=p->p<st->en<=q->q<b->leO d[p]? d[q]?:=fun p q p1 p2 p3 p4=>by
    rcases s3 with h|h
    .omega
    .have:=ltI_ge (by omega) (by omega) (show ltI d (mid+m-1-(st-1)) (st-1)=false by simpa using h);rw[show mid+m-1-(st-1)=en by omega]at this;exact szV (by omega:st-1<d.length) (h1.le' p1 (by omega) (by omega)) (szV (by omega:en<d.length) this (h2.le' (by omega) p3 p4))
   have B:∀p q,m<=p->p<en->st<=q->q<m->leO d[p]? d[q]?:=fun p q p1 p2 p3 p4=>by
    rcases s4 with h|h
    .omega
    .have:=ltI_le (by omega) (by omega) (show ltI d (mid+m-1-st) st=true by simpa using h);rw[show mid+m-1-st=en-1 by omega]at this;exact szV (by omega:en-1<d.length) (h2.le' p1 (by omega) (by omega)) (szV (by omega:st<d.length) this (h1.le' (by omega) p3 p4))
   have cross:∀p q,a<=p->p<mid->mid<=q->q<b->leO r0[p]? r0[q]?:=fun p q p1 p2 p3 p4=>by
    by_cases c5:p<st
    .rw[L1 p p1 c5];by_cases c6:q<en
     .rw[L2 q p3 c6];exact h1.le p1 (by omega) (by omega)
     .rw[R2 q (by omega) p4];exact A p q p1 c5 (by omega) p4
    .rw[R1 p (by omega) p2];by_cases c6:q<en
     .rw[L2 q p3 c6];exact B _ _ (by omega) (by omega) (by omega) (by omega)
     .rw[R2 q (by omega) p4];exact h2.le (by omega) (by omega) p4
   have k1:Srt a st r0:=fun p q p1 p2 p3=>by
    show leO r0[p]? r0[q]?
    rw[L1 p p1 (by omega),L1 q (by omega) p3];exact h1.le (by omega) (by omega) (by omega)
   have k2:Srt st mid r0:=fun p q p1 p2 p3=>by
    show leO r0[p]? r0[q]?
    rw[R1 p p1 (by omega),R1 q (by omega) p3];exact h2.le (by omega) (by omega) (by omega)
   have k3:Srt mid en r0:=fun p q p1 p2 p3=>by
    show leO r0[p]? r0[q]?
    rw[L2 p p1 (by omega),L2 q (by omega) p3];exact h1.le (by omega) (by omega) (by omega)
   have k4:Srt en b r0:=fun p q p1 p2 p3=>by
    show leO r0[p]? r0[q]?
    rw[R2 p p1 (by omega),R2 q (by omega) p3];exact h2.le (by omega) (by omega) (by omega)
   have tail:∀y,Mv a mid r0 y->Srt a mid y->∃r,(brn (decide ((mid:Int)<(en:Int))) (brn (decide ((en:Int)<(b:Int))) (obnd (S (y,(mid:Int),(en:Int),(b:Int),())) fun y=>some y) (some y)) (some y))=some r/\Mv a b d r/\Srt a b r:=by
    intro y y1 y2;have yl:=y1.len;have o3:Srt mid en y:=k3.same fun i p1 p2=>y1.out i (by omega)
    have o4:Srt en b y:=k4.same fun i p1 p2=>y1.out i (by omega)
    by_cases c5:mid<en
    .rw[dT0 (by omega),azd];by_cases c6:en<b
     .rw[dT0 (by omega),azd];obtain⟨r,w1,w2,w3⟩:=rc0 mid en b y (by omega) c5 c6 (by omega) (by omega) o3 o4;exact⟨r,by rw[w1];rfl,(g2.wide (by omega) (by omega)).trans ((y1.wide (by omega) (by omega)).trans (w2.wide (by omega) (by omega))),joinS y1 y2 w2 w3 cross⟩
     .rw[dF0 (by omega),azc];have:en=b:=by omega
      subst this;exact⟨y,rfl,(g2.wide (by omega) (by omega)).trans (y1.wide (by omega) (by omega)),joinS y1 y2 (.refl _ _ _) o3 cross⟩
    .rw[dF0 (by omega),azc];have:en=mid:=by omega
     subst this;exact⟨y,rfl,(g2.wide (by omega) (by omega)).trans (y1.wide (by omega) (by omega)),joinS y1 y2 (.refl _ _ _) o4 cross⟩
   by_cases c5:a<st
   .rw[dT0 (by omega),azd];by_cases c6:st<mid
    .rw[dT0 (by omega),azd];obtain⟨y,w1,w2,w3⟩:=rc0 a st mid r0 (by omega) c5 c6 (by omega) (by omega) k1 k2;rw[w1,aza];exact tail y w2 w3
    .rw[dF0 (by omega),azc];have:st=mid:=by omega
     subst this;exact tail r0 (.refl _ _ _) k1
   .rw[dF0 (by omega),azc];have:st=a:=by omega
    subst this;exact tail r0 (.refl _ _ _) k2
def Blk (k n:Nat)(d:List Member):Prop:=∀c,k∣c->Srt c (min n (c+k)) d
theorem IzY {n:Nat}:∀(f N a:Nat) (d:List Member),n+20-a<=f->f<N->20∣a->a<=n->d.length=n->n<=10000->(∀c,20∣c->c<a->Srt c (min n (c+20)) d) ->
 ∃y,iter bzq N (d,(n:Int),(),20,(a:Int),((a+20:Nat):Int))=some y/\∃e:Nat,y.1=(e:Int)/\20∣e/\e<=n/\n<e+20/\y.2.Perm d/\∀c,20∣c->c<e->Srt c (min n (c+20)) y.2
 | _,0,_,_,_,h,_,_,_,_,_=>absurd h (by omega)
 | 0,N+1,a,d,h,_,_,h2,_,_,_=>absurd h (by omega)
 | f+1,N+1,a,d,h,hN,h1,h2,hl,hn,hb=>by
  rw[azw];generalize hS:iter bzq N=S;unfold bzq;simp only;by_cases c:a+20<=n
  .obtain⟨r,r1,r2,r3⟩:=zzV (d:=d) (a:=a) (b:=a+20) (by omega) (by omega) (by omega);rw[dT0 (by omega),azd,r1,aza,show i64.wrap (((a+20:Nat):Int)+20)=((a+20+20:Nat):Int) by rw[azG (by omega) (by omega)];omega];obtain⟨y,y1,e,e1,e2,e3,e4,e5,e6⟩:=IzY f N (a+20) r (by omega) (by omega) (Nat.dvd_add h1 (Nat.dvd_refl 20)) c (by rw[r2.len];exact hl) hn (by
    intro x hx hxa;by_cases c2:x<a
    .refine(hb x hx c2).same fun i i1 i2=>r2.out i (by omega)
    .have:x=a:=by omega
     subst this;rw[Nat.min_eq_right c];exact r3)
   exact⟨y,by rw[<-hS];exact y1,e,e1,e2,e3,e4,e5.trans r2.perm,e6⟩
  .rw[dF0 (by omega)];exact⟨_,rfl,a,rfl,h1,h2,by omega,.refl _,hb⟩
theorem Iz8 {n k:Nat}(hk:1<=k)(hk':k<=10000):∀(f N a:Nat) (d:List Member),n+2*k-a<=f->f<N->2*k∣a->a<=n->d.length=n->n<=10000->(∀c,2*k∣c->c<a->Srt c (min n (c+2*k)) d)->(∀c,k∣c->a<=c->Srt c (min n (c+k)) d) ->
 ∃y,iter bzs N (d,(n:Int),(),(k:Int),(a:Int),((a+2*k:Nat):Int))=some y/\∃e:Nat,y.1=(e:Int)/\2*k∣e/\e<=n/\n<e+2*k/\y.2.Perm d/\(∀c,2*k∣c->c<e->Srt c (min n (c+2*k)) y.2)/\∀c,k∣c->e<=c->Srt c (min n (c+k)) y.2
 | _,0,_,_,_,h,_,_,_,_,_,_=>absurd h (by omega)
 | 0,N+1,a,d,h,_,_,h2,_,_,_,_=>absurd h (by omega)
 | f+1,N+1,a,d,h,hN,h1,h2,hl,hn,hb,hc=>by
  rw[azw];generalize hS:iter bzs N=S;unfold bzs;simp only;have hka:k∣a:=Nat.dvd_trans (Nat.dvd_mul_left k 2) h1;by_cases c:a+2*k<=n
  .have s1:=hc a hka (by omega);have s2:=hc (a+k) (Nat.dvd_add hka (Nat.dvd_refl k)) (by omega);rw[Nat.min_eq_right (by omega)]at s1 s2;rw[show a+k+k=a+2*k by omega]at s2;obtain⟨r,r1,r2,r3⟩:=sym_is (2*k) big a (a+k) (a+2*k) d (by omega) (by rw[bzH];omega) (by omega) (by omega) (by omega) (by omega) s1 s2;rw[dT0 (by omega),azd,wadd (by omega),show bzt (d,(a:Int),((a+k:Nat):Int),((a+2*k:Nat):Int),())=_ from r1,aza,
    show i64.wrap (2*(k:Int))=((2*k:Nat):Int) by rw[azG (by omega) (by omega)];omega,wadd (by omega)]
   obtain⟨y,y1,e,e1,e2,e3,e4,e5,e6,e7⟩:=Iz8 hk hk' f N (a+2*k) r (by omega) (by omega) (Nat.dvd_add h1 (Nat.dvd_refl _)) c (by rw[r2.len];exact hl) hn (by
    intro x hx hxa;by_cases c2:x<a
    .obtain⟨u,rfl⟩:=hx;obtain⟨v,rfl⟩:=h1;have:u<v:=Nat.lt_of_mul_lt_mul_left c2;have:2*k*(u+1)<=2*k*v:=Nat.mul_le_mul_left _ this;rw[Nat.mul_add]at this;refine(hb _ (Nat.dvd_mul_right _ _) c2).same fun i i1 i2=>r2.out i (by omega)
    .by_cases c3:x=a
     .subst c3;rw[Nat.min_eq_right c];exact r3
     .exfalso;obtain⟨u,rfl⟩:=hx;obtain⟨v,rfl⟩:=h1;have h3:v<u:=Nat.lt_of_mul_lt_mul_left (a:=2*k) (by omega);have:2*k*(v+1)<=2*k*u:=Nat.mul_le_mul_left _ h3;rw[Nat.mul_add]at this;omega) (fun x hx hxa=>(hc x hx (by omega)).same fun i i1 i2=>r2.out i (by omega))
   exact⟨y,by rw[<-hS];exact y1,e,e1,e2,e3,e4,e5.trans r2.perm,e6,e7⟩
  .rw[dF0 (by omega)];exact⟨_,rfl,a,rfl,h1,h2,by omega,.refl _,hb,hc⟩
theorem zzG {n:Nat}:∀(f N k:Nat) (d:List Member),n-k<=f->f<N->1<=k->k<=20000->d.length=n->n<=10000->Blk k n d ->
 ∃r,iter bzr N (d,(n:Int),(),(k:Int))=some r/\r.Perm d/\Srt 0 n r
 | _,0,_,_,_,h,_,_,_,_,_=>absurd h (by omega)
 | f,N+1,k,d,h,hN,h1,h2,hl,hn,hb=>by
  rw[azw];generalize hS:iter bzr N=S;unfold bzr;simp only;by_cases c:k<n
  .obtain⟨y,y1,e,e1,e2,e3,e4,e5,e6,e7⟩:=Iz8 (n:=n) h1 (by omega) (n+2*k) big 0 d (by omega) (by rw[bzH];omega) ⟨0,rfl⟩ (by omega) hl hn (fun x hx hx0=>by omega) (fun x hx _=>hb x hx);rw[Nat.zero_add]at y1;rw[dT0 (by omega),azd,show i64.wrap (2*(k:Int))=((2*k:Nat):Int) by rw[azG (by omega) (by omega)];omega,
    show czP (d,(n:Int),(),(k:Int),0,((2*k:Nat):Int))=_ from y1,aza,e1,wadd (by omega),
    show i64.wrap ((k:Int)*2)=((2*k:Nat):Int) by rw[azG (by omega) (by omega)];omega]
   have hke:k∣e:=Nat.dvd_trans (Nat.dvd_mul_left k 2) e2;have far:∀x,2*k∣x->e<x->n<=x:=fun x hx hlt=>by
    obtain⟨u,rfl⟩:=hx;obtain⟨v,rfl⟩:=e2;have h3:v<u:=Nat.lt_of_mul_lt_mul_left (a:=2*k) hlt;have:2*k*(v+1)<=2*k*u:=Nat.mul_le_mul_left _ h3;rw[Nat.mul_add]at this;omega
   have near:∀x,2*k∣x->x<e->x+2*k<=e:=fun x hx hlt=>by
    obtain⟨u,rfl⟩:=hx;obtain⟨v,rfl⟩:=e2;have h3:u<v:=Nat.lt_of_mul_lt_mul_left (a:=2*k) hlt;have:2*k*(u+1)<=2*k*v:=Nat.mul_le_mul_left _ h3;rw[Nat.mul_add]at this;omega
   have s1:=e7 e hke (Nat.le_refl _);by_cases c2:e+k<n
   .have s2:=e7 (e+k) (Nat.dvd_add hke (Nat.dvd_refl k)) (by omega);rw[Nat.min_eq_right (by omega)]at s1;rw[Nat.min_eq_left (by omega)]at s2;obtain⟨r,r1,r2,r3⟩:=sym_is n big e (e+k) n y.2 (by omega) (by rw[bzH];omega) (by omega) c2 (by rw[e5.length_eq];omega) (by rw[e5.length_eq];omega) s1 s2;rw[dT0 (by omega),azd,show bzt (y.2,(e:Int),((e+k:Nat):Int),(n:Int),())=_ from r1,aza];obtain⟨z,z1,z2,z3⟩:=zzG (f-1) N (2*k) r (by omega) (by omega) (by omega) (by omega) (by rw[r2.len,e5.length_eq];exact hl) hn (by
     intro x hx;by_cases c3:x<e
     .have:=near x hx c3;exact(e6 x hx c3).same fun i i1 i2=>r2.out i (by omega)
     .by_cases c4:x=e
      .subst c4;rw[Nat.min_eq_left (by omega)];exact r3
      .have:=far x hx (by omega);exact .one (by omega))
    exact⟨z,by rw[<-hS];exact z1,z2.trans (r2.perm.trans e5),z3⟩
   .rw[Nat.min_eq_left (by omega)]at s1;rw[dF0 (by omega),azc];obtain⟨z,z1,z2,z3⟩:=zzG (f-1) N (2*k) y.2 (by omega) (by omega) (by omega) (by omega) (by rw[e5.length_eq];exact hl) hn (by
     intro x hx;by_cases c3:x<e
     .exact e6 x hx c3
     .by_cases c4:x=e
      .subst c4;rw[Nat.min_eq_left (by omega)];exact s1
      .have:=far x hx (by omega);exact .one (by omega))
    exact⟨z,by rw[<-hS];exact z1,z2.trans e5,z3⟩
  .rw[dF0 (by omega)];have:=hb 0 ⟨0,rfl⟩;rw[Nat.min_eq_left (by omega)]at this;exact⟨d,rfl,.refl _,this⟩
theorem stable_is {d:List Member}(hd:d.length<=10000):∃r,bzn (d,())=some r/\r.Perm d/\Srt 0 d.length r:=by
 unfold bzn cz5;simp only;obtain⟨y,y1,e,e1,e2,e3,e4,e5,e6⟩:=IzY (n:=d.length) (d.length+20) big 0 d (by omega) (by rw[bzH];omega) ⟨0,rfl⟩ (by omega) rfl hd (fun x hx h0=>by omega);rw[show czN (d,(d.length:Int),(),20,0,20)=_ from y1,aza,e1];obtain⟨r,r1,r2,r3⟩:=zzV (d:=y.2) (a:=e) (b:=d.length) e3 (by rw[e5.length_eq];exact Nat.le_refl _) (by rw[e5.length_eq];omega);rw[r1,aza];obtain⟨z,z1,z2,z3⟩:=zzG (n:=d.length) d.length big 20 r (by omega) (by rw[bzH];omega) (by omega) (by omega) (by rw[r2.len,e5.length_eq]) hd (by
  intro x hx;by_cases c3:x<e
  .exact(e6 x hx c3).same fun i i1 i2=>r2.out i (by omega)
  .by_cases c4:x=e
   .subst c4;rw[Nat.min_eq_left (by omega)];exact r3
   .exact .one (by omega))
 rw[show czO (r,(d.length:Int),(),20)=_ from z1];exact⟨z,rfl,z2.trans (r2.perm.trans e5),z3⟩
theorem Fzq:∀(l zs:List Member) (s:List Member),zs.length+l.length<=100000->jzx az9 l (zs,(),s)=some (zs++l,(),s)
 | [],zs,s,_=>by simp[jzx]
 | m::l,zs,s,h=>by
  simp only[List.length_cons]at h;have e1:az9 m (zs,(),s)=some (zs++[m],(),s):=by
   unfold az9;simp only[azj,fzO];rw[appN (by simp;omega),aza]
  rw[jzx,e1,aza,Fzq l _ s (by simp;omega)];simp
theorem sorted_is {l:List Member}(hl:l.length<=10000):∃r,bzW (l,())=some r/\r.Perm l/\Srt 0 l.length r:=by
 unfold bzW fz5 dzk dza bz7 dzb;simp only;rw[Fzq l [] l (by simp;omega)];simp only[aza,List.nil_append];obtain⟨r,r1,r2,r3⟩:=stable_is hl;rw[r1];exact⟨r,rfl,r2,r3⟩
noncomputable def cP (x prev:Member)(n:Nat)(y:Member):Bool:=decide (n<1024)&&((decide (y.At.Row=i64.wrap (prev.At.Row+1))&&decide (y.At.Col=x.At.Col))&&eqX y.E x.E)
noncomputable def runP (x:Member):Member->Nat->List Member->Nat
 | _,n,[]=>n
 | prev,n,y::t=>bif cP x prev n y then runP x y (n+1) t else n
theorem BzK (x:Member):∀(t:List Member) (prev:Member) (n:Nat),n<=runP x prev n t/\runP x prev n t<=n+t.length
 | [],_,n=>⟨Nat.le_refl _,by simp[runP]⟩
 | y::t,prev,n=>by
  unfold runP;have:=BzK x t y (n+1);cases cP x prev n y
  .simp
  .simp;omega
noncomputable def hzx:Nat->List Member->List Group
 | 0,_=>[]
 | _+1,[]=>[]
 | k+1,x::t=>(bif decide (1<runP x x 1 t)then [⟨false,x.At,((x::t)[runP x x 1 t-1]?.getD x).At,x.E⟩]else [])++hzx k ((x::t).drop (runP x x 1 t))
theorem nz0 (k:Nat)(x:Member)(t:List Member):hzx (k+1) (x::t)=(bif decide (1<runP x x 1 t)then [⟨false,x.At,((x::t)[runP x x 1 t-1]?.getD x).At,x.E⟩]else [])++hzx k ((x::t).drop (runP x x 1 t)):=rfl
theorem rzT (k:Nat):hzx k []=[]:=by cases k<;>rfl
theorem plb3_is {r:List Member}{i k:Nat}(hi:i<k)(hk:k<=r.length)(hl:r.length<=10000)(he:∀m∈r,fewE m.E):
 fzt (r,(i:Int),(k:Int))=some (match r[k]?,r[k-1]?,r[i]? with
  | some y,some p,some x=>cP x p (k-i) y
  | _,_,_=>false):=by
 unfold fzt;simp only[azj,cond_false];by_cases c:k<r.length
 .have h1:k-1<r.length:=by omega
  have h2:i<r.length:=by omega
  rw[ltT c,azd,wsub (by omega) (by omega),ozd (by omega) (by omega),idxG c,idxG h1,idxG h2];simp only[aza];rw[mzC (he _ (List.getElem_mem c)) (he _ (List.getElem_mem h2)),aza,brnA,List.getElem?_eq_getElem c,List.getElem?_eq_getElem h1,List.getElem?_eq_getElem h2,brnA];unfold cP;have:decide (((k-i:Nat):Int)<1024)=decide (k-i<1024):=by simp only[decide_eq_decide];omega
  rw[this]
 .rw[dF0 (by omega),azc,List.getElem?_eq_none (by omega)]
def grp (r:List Member)(i k:Nat):List Group:=match r[i]?,r[k-1]? with
 | some x,some y=>bif decide (1<k-i)then [⟨false,x.At,y.At,x.E⟩]else []
 | _,_=>[]
theorem BzB {r:List Member}{i k:Nat}(h1:i<r.length)(h2:k-1<r.length):grp r i k=bif decide (1<k-i)then [⟨false,r[i].At,r[k-1].At,r[i].E⟩]else []:=by
 unfold grp;rw[List.getElem?_eq_getElem h1,List.getElem?_eq_getElem h2]
theorem wzp {A:Type}(x:Option A):(obnd x fun y=>some y)=x:=by cases x<;>rfl
theorem run_is {out:List Member×List Member×List Group×List Member×Int->Option (List Group×List Member)}{l r:List Member}{gs:List Group}{os:List Member}{i:Nat}(hl:r.length<=10000)(he:∀m∈r,fewE m.E)(hg:gs.length<=100000)(hi:i<r.length):
 ∀(f N k:Nat),r.length-k<=f->f<N->i<k->k<=r.length ->
  iter (jzI out) N (l,r,gs,os,(i:Int),(k:Int))=out (l,r,gs++grp r i (i+runP r[i] (r[k-1]?.getD r[i]) (k-i) (r.drop k)),os,((i+runP r[i] (r[k-1]?.getD r[i]) (k-i) (r.drop k):Nat):Int))
 | _,0,_,_,h,_,_=>absurd h (by omega)
 | f,N+1,k,h,hN,h1,h2=>by
  have hk1:k-1<r.length:=by omega
  rw[azw];have ih:=run_is (out:=out) (l:=l) (gs:=gs) (os:=os) hl he hg hi (f-1) N (k+1);generalize iter (jzI out) N=S at ih;unfold jzI;simp only[azj,wzp];rw[plb3_is h1 h2 hl he,aza,List.getElem?_eq_getElem hi,List.getElem?_eq_getElem hk1];have stop:(brn (decide (1<i64.wrap ((k:Int)-(i:Int)))) (obnd (idx r (i:Int)) fun y=>obnd (idx r (i64.wrap ((k:Int)-1))) fun y_1=>obnd (idx r (i:Int)) fun y_2=>obnd (app 192 gs [⟨false,y.At,y_1.At,y_2.E⟩]) fun zs=>out (l,r,zs,os,(k:Int))) (out (l,r,gs,os,(k:Int))))=out (l,r,gs++grp r i k,os,(k:Int)):=by
   rw[wsub (by omega) (by omega),ozd (by omega) (by omega),idxG hi,idxG hk1];simp only[aza];rw[appN (by simp;omega),aza,BzB hi hk1,show decide ((1:Int)<((k-i:Nat):Int))=decide (1<k-i) by simp only[decide_eq_decide];omega];cases decide (1<k-i)
   .rw[azc,cond_false,List.append_nil]
   .rfl
  by_cases c:k<r.length
  .rw[List.getElem?_eq_getElem c];simp only;rw[List.drop_eq_getElem_cons c];cases hc:cP r[i] r[k-1] (k-i) r[k]
   .rw[azc];simp only[runP,Option.getD_some,hc,cond_false];rw[show i+(k-i)=k by omega];exact stop
   .rw[azd,wr1 (by omega),ih (by omega) (by omega) (by omega) (by omega)];simp only[runP,Option.getD_some,hc,cond_true];rw[show k+1-1=k by omega,List.getElem?_eq_getElem c,show k+1-i=k-i+1 by omega];rfl
  .rw[List.getElem?_eq_none (by omega),List.drop_eq_nil_of_le (by omega)];simp only[runP];rw[azc,show i+(k-i)=k by omega];exact stop
theorem containsP {m:Member}{gs:List Group}(hg:gs.length<=100000):∃b,bzG (m,gs,())=some b:=by
 unfold bzG czD;simp only[azj,fzO];obtain⟨z,e1,-⟩:=cz7 (F:=az7) (fun i=>(m,gs,(),(gs.length:Int),(i:Int))) gs.length (fun _=>True) (fun _=>True) (.inl ()) (by omega)
  (by
   intro back i hi;unfold az7 szf;simp only[azj,fzO,bz4,wzp];rw[ltT hi,azd,idxG hi,aza,show kzx (gs[i],m.At)=_ from FzI gs[i] m.At,aza,wr1 (by omega)];cases hasG gs[i] m.At
   .exact .inl ⟨rfl,trivial⟩
   .exact .inr ⟨_,rfl,trivial⟩)
  (by
   intro back;unfold az7;simp only;rw[ltF];rfl)
 rw[show czn (m,gs,(),(gs.length:Int),0)=_ from e1,aza];cases z<;>exact⟨_,rfl⟩
theorem others_is {l:List Member}{gs:List Group}(hl:l.length<=10000)(hg:gs.length<=100000):∃o,gz2 (l,gs,[])=some (gs,o):=by
 unfold gz2;simp only;obtain⟨y,e1,-⟩:=scan (F:=lzG) (fun(z:List Member) i=>(gs,z,l,(l.length:Int),(i:Int))) l.length (fun z i=>z.length<=i) (fun _=>True) (by omega)
  (by
   intro back z i hi hz;right;obtain⟨b,hb⟩:=containsP (m:=l[i]) hg;unfold lzG;simp only[azj,fzO];rw[ltT hi,azd,idxG hi,aza,hb,aza,wr1 (by omega),appN (by simp;omega),aza];cases b
   .exact⟨_,rfl,by simp;omega⟩
   .exact⟨_,rfl,by omega⟩)
  (by
   intro back z _;unfold lzG;simp only;rw[ltF];exact⟨_,rfl,trivial⟩) [] (by simp)
 rw[show qz6 (gs,[],l,(l.length:Int),0)=_ from e1];exact⟨y,rfl⟩
theorem Gzn {l r:List Member}(hl:l.length<=10000)(hr:r.length<=10000)(he:∀m∈r,fewE m.E):
 ∀(f N i:Nat) (gs:List Group),r.length-i<=f->f<N->i<=r.length->gs.length+(r.length-i)<=100000->∃o,iter lz7 N (l,r,gs,[],(i:Int))=some (gs++hzx f (r.drop i),o)
 | _,0,_,_,_,h,_,_=>absurd h (by omega)
 | f,N+1,i,gs,h,hN,hi,hg=>by
  rw[azw];have ih:=fun f i gs h1 h2 h3 h4=>Gzn hl hr he f N i gs h1 h2 h3 h4
  generalize iter lz7 N=S at ih;unfold lz7;simp only[wzp];by_cases c:i=r.length
  .subst c;rw[dT0 rfl,azd,List.drop_length,rzT,List.append_nil];exact others_is hl (by omega)
  .have hlt:i<r.length:=by omega
   obtain⟨f,rfl⟩:∃g,f=g+1:=⟨f-1,by omega⟩;rw[dF0 (by omega),azc,wr1 (by omega),plb3_is (by omega) (by omega) hr he,aza,show i+1-1=i by omega,List.getElem?_eq_getElem hlt];obtain⟨q1,q2⟩:=BzK r[i] (r.drop (i+1)) r[i] 1;rw[List.length_drop]at q2;have hg1:∀n,1<=n->i+n<=r.length->(grp r i (i+n)).length<=1:=fun n h1 h2=>by
    rw[BzB hlt (by omega)];cases decide (1<i+n-i)<;>simp
   have fin:gs++(grp r i (i+runP r[i] r[i] 1 (r.drop (i+1)))++hzx f (r.drop (i+runP r[i] r[i] 1 (r.drop (i+1)))))=gs++hzx (f+1) (r.drop i):=by
    rw[List.drop_eq_getElem_cons hlt,nz0];generalize runP r[i] r[i] 1 (r.drop (i+1))=R at q1 q2;have h1:i+R-1<r.length:=by omega
    rw[BzB hlt h1,<-List.drop_eq_getElem_cons hlt,List.drop_drop,List.getElem?_drop,show i+(R-1)=i+R-1 by omega,List.getElem?_eq_getElem h1,show i+R-i=R by omega];rfl
   cases hc:(match r[i+1]?,(some r[i]:Option Member),(some r[i]:Option Member)with
    | some y,some p,some x=>cP x p (i+1-i) y
    | _,_,_=>false)
   .have hR:runP r[i] r[i] 1 (r.drop (i+1))=1:=by
     by_cases c2:i+1<r.length
     .rw[List.getElem?_eq_getElem c2]at hc;simp only[show i+1-i=1 by omega]at hc;rw[List.drop_eq_getElem_cons c2];simp only[runP,hc,cond_false]
     .rw[List.drop_eq_nil_of_le (by omega)];rfl
    rw[hR]at fin;have hgr:grp r i (i+1)=[]:=by rw[BzB hlt (by omega),show i+1-i=1 by omega];rfl
    rw[hgr,List.nil_append]at fin;rw[azc,show i64.wrap (((i+1:Nat):Int)-(i:Int))=1 by rw[wsub (by omega) (by omega),show i+1-i=1 by omega];rfl];unfold lzF;simp only;rw[show decide ((1:Int)<1)=false from rfl,azc,aza,<-fin];exact ih f (i+1) gs (by omega) (by omega) (by omega) (by omega)
   .rw[azd,wr1 (by omega)];have c2:i+1<r.length:=by
     apply Decidable.byContradiction;intro h2;rw[List.getElem?_eq_none (by omega)]at hc;cases hc
    rw[List.getElem?_eq_getElem c2]at hc;simp only[show i+1-i=1 by omega]at hc;have:=run_is (out:=S) (l:=l) (gs:=gs) (os:=[]) hr he (by omega) hlt (r.length) big (i+1+1) (by omega) (by rw[bzH];omega) (by omega) (by omega);rw[show jzJ S (l,r,gs,[],(i:Int),((i+1+1:Nat):Int))=_ from this];have hR:runP r[i] r[i] 1 (r.drop (i+1))=runP r[i] (r[i+1+1-1]?.getD r[i]) (i+1+1-i) (r.drop (i+1+1)):=by
     rw[List.drop_eq_getElem_cons c2];simp only[runP,hc,cond_true];rw[show i+1+1-1=i+1 by omega,List.getElem?_eq_getElem c2,show i+1+1-i=1+1 by omega];rfl
    rw[<-hR,<-fin,<-List.append_assoc];have:=hg1 _ q1 (by omega);exact ih f _ _ (by omega) (by omega) (by omega) (by rw[List.length_append];omega)
theorem planP_is {l:List Member}(hl:l.length<=10000)(he:∀m∈l,fewE m.E):∃r o,r.Perm l/\Srt 0 l.length r/\ozw l=some (hzx r.length r,o):=by
 obtain⟨r,r1,r2,r3⟩:=sorted_is hl;have hlen:=r2.length_eq;have he':∀m∈r,fewE m.E:=fun m hm=>he m (r2.mem_iff.1 hm)
 unfold ozw qz7 dzZ;simp only[aza];rw[r1,aza];obtain⟨o,key⟩:=Gzn (l:=l) (r:=r) hl (by omega) he' r.length (big+1) 0 [] (by omega) (by rw[bzH];omega) (by omega) (by simp;omega);rw[azw,List.drop_zero,List.nil_append]at key;refine⟨r,o,r2,r3,?_⟩;have key2:brn (decide ((0:Int)=(r.length:Int))) (obnd (gz2 (l,[],[])) fun y=>some y) (obnd (fzt (r,0,1)) fun y=>brn y (obnd (jzJ ezC (l,r,[],[],0,2)) fun y=>some y)
  (obnd (lzF (r,[],0,1,decide ((1:Int)<1))) fun y=>obnd (ezC (l,r,y,[],1)) fun y=>some y))=some (hzx r.length r,o):=key
 clear key;simp only[wzp]at key2;cases hd:decide ((0:Int)=(r.length:Int))
 .rw[hd,azc]at key2;rw[azc];cases hb:fzt (r,0,1)with
  | none=>rw[hb]at key2;cases key2
  | some v =>
   rw[hb,aza]at key2;rw[aza];cases v
   .rw[azc]at key2;rw[azc];have key3:ezC (l,r,[],[],1)=some (hzx r.length r,o):=key2
    show(obnd (obnd (ezC (l,r,[],[],1)) fun y=>some (Sum.inr y)) fun y=>osum y (fun y=>none) fun y=>some y)=_
    rw[key3];rfl
   .rw[azd]at key2;rw[azd,key2];rfl
 .rw[hd,azd]at key2;rw[azd,key2];rfl
theorem hasS_is (g:Group)(c:Cell):kzx (g,c)=some (hasG g c):=FzI g c
theorem gzk {a b:Cell}:dzi a b=true↔a.Row<b.Row\/a.Row=b.Row/\a.Col<b.Col:=by
 unfold dzi;simp
theorem pzC {l:List Cell2}(h:okCs l):l.Pairwise fun a b=>dzi a.At b.At=true:=by
 rw[List.pairwise_iff_getElem];intro i j hi hj hij;induction j with
 | zero=>omega
 | succ j ih =>
  have h1:=h.2 (j+1) hj (by omega);replace h1:dzi l[j].At l[j+1].At=true:=h1;by_cases c:i=j
  .subst c;exact h1
  .have h2:=ih (by omega) (by omega);rw[gzk]at *;omega
theorem NzR {A:Type}{R:A->A->Prop}:∀{l:List A},l.length<=1->l.Pairwise R
 | [],_=>.nil
 | [a],_=>.cons (fun _ h=>by cases h) .nil
 | _::_::_,h=>by simp at h
theorem HzW {X Z:Type}{F:(X->Option Z)->X->Option Z}(mk:Nat->X)(n:Nat)(ok:Z)(hn:n<=1000000000)(h:∀back i,i<n->F back (mk i)=back (mk (i+1)))(hend:∀back,F back (mk n)=some ok):iter F big (mk 0)=some ok:=by
 obtain⟨z,e1,e2⟩:=cz7 (F:=F) mk n (fun _=>True) (fun _=>False) ok hn (fun back i hi=>.inl ⟨h back i hi,trivial⟩) hend;rw[e1];rcases e2 with e2|⟨rfl,-⟩
 .exact e2.elim
 .rfl
def colM (c:Nat)(l:List Member):List Member:=l.filter fun m=>decide (m.At.Col=c)
theorem Gzt {A B:Type}(f:A->List B):∀l:List A,((List.range l.length).flatMap fun i=>(l[i]?.map f).getD [])=l.flatMap f
 | []=>rfl
 | a::l=>by
  have:=Gzt f l;rw[List.length_cons,List.range_succ_eq_map,List.flatMap_cons,List.flatMap_map,List.flatMap_cons,<-this];rfl
theorem pick_col (l:List Member)(c:Nat):pick l (colI l c)=colM c l:=by
 unfold colM;rw[<-mzD,<-Gzt];unfold pick colI;induction List.range l.length with
 | nil=>rfl
 | cons i t ih =>
  rw[List.filter_cons,List.flatMap_cons,<-ih];cases h:l[i]? with
  | none=>simp
  | some m=>by_cases hd:m.At.Col=(c:Int)<;>simp[hd,h]
theorem Iz5:∀(n:Nat) (l:List Member),(∀m∈l,0<=m.At.Col/\m.At.Col<n)->((List.range n).flatMap fun c=>colM c l).Perm l
 | 0,l,h=>by
  cases l with
  | nil=>exact .refl _
  | cons m l=>have:=h m (by simp);omega
 | n+1,l,h=>by
  have e:((List.range n).flatMap fun c=>colM c l)=(List.range n).flatMap fun c=>colM c (l.filter fun m=>decide (m.At.Col<n)):=by
   have:∀cs:List Nat,(∀c∈cs,c<n)->(cs.flatMap fun c=>colM c l)=cs.flatMap fun c=>colM c (l.filter fun m=>decide (m.At.Col<n)):=by
    intro cs;induction cs with
    | nil=>intro _;rfl
    | cons c cs ih =>
     intro hc;rw[List.flatMap_cons,List.flatMap_cons,ih fun x hx=>hc x (by simp[hx])];congr 1;unfold colM;rw[List.filter_filter];refine List.filter_congr fun m _=>?_
     have:=hc c (by simp);rw[Bool.eq_iff_iff];simp only[Bool.and_eq_true,decide_eq_true_eq];omega
   exact this _ fun c hc=>List.mem_range.1 hc
  have ih:=Iz5 n (l.filter fun m=>decide (m.At.Col<n)) fun m hm=>by
   obtain⟨h1,h2⟩:=List.mem_filter.1 hm;exact⟨(h m h1).1,of_decide_eq_true h2⟩
  rw[List.range_succ,List.flatMap_append,e,List.flatMap_cons,List.flatMap_nil,List.append_nil];refine(ih.append (.refl _)).trans ?_;have e2:colM n l=l.filter fun m=>!decide (m.At.Col<(n:Int)):=by
   unfold colM;refine List.filter_congr fun m hm=>?_
   have:=h m hm;rw[Bool.eq_iff_iff];simp only[Bool.not_eq_true',decide_eq_true_eq,decide_eq_false_iff_not];omega
  rw[e2];exact List.filter_append_perm _ _
theorem LzO (x:Member){B:List Member}(hB:∀y∈B,y.At.Col≠x.At.Col):∀(A:List Member) (prev:Member) (n:Nat),runP x prev n (A++B)=runP x prev n A
 | [],prev,n=>by
  cases B with
  | nil=>rfl
  | cons y B =>
   have:cP x prev n y=false:=by
    unfold cP;rw[dF0 (hB y (by simp))];simp
   simp only[List.nil_append,runP,this,cond_false]
 | y::A,prev,n=>by
  simp only[List.cons_append,runP];rw[LzO x hB A y (n+1)]
theorem xz1:∀(k k':Nat) (l:List Member),l.length<=k->l.length<=k'->hzx k l=hzx k' l
 | k,k',[],_,_=>by rw[rzT,rzT]
 | 0,_,_::_,h,_=>by simp at h
 | _+1,0,_::_,_,h=>by simp at h
 | k+1,k'+1,x::t,h,h'=>by
  have:=(BzK x t x 1).1;rw[nz0,nz0,xz1 k k' _ (by rw[List.length_drop];omega) (by rw[List.length_drop];omega)]
theorem Jzy:∀(k:Nat) (A B:List Member),(A++B).length<=k->(∀x∈A,∀y∈B,y.At.Col≠x.At.Col)->hzx k (A++B)=hzx k A++hzx k B
 | k,[],B,_,_=>by rw[rzT];rfl
 | 0,_::_,_,h,_=>by simp at h
 | k+1,x::t,B,h,hx=>by
  obtain⟨r1,r2⟩:=BzK x t x 1;rw[List.length_append,List.length_cons]at h;rw[List.cons_append,nz0,nz0,LzO x (hx x (by simp)) t x 1];generalize runP x x 1 t=R at r1 r2;rw[<-List.cons_append,List.getElem?_append_left (by rw[List.length_cons];omega),List.drop_append_of_le_length (by rw[List.length_cons];omega),
   Jzy k _ B (by rw[List.length_append,List.length_drop,List.length_cons];omega) (fun y hy z hz=>hx y (List.mem_of_mem_drop hy) z hz),xz1 k (k+1) B (by omega) (by omega),List.append_assoc]
theorem rzH {c:Nat}{l:List Member}:∀m∈colM c l,m.At.Col=c/\m∈l:=fun m h=>by
 obtain⟨h1,h2⟩:=List.mem_filter.1 h;exact⟨of_decide_eq_true h2,h1⟩
theorem Gz0 {l:List Member}{k:Nat}:∀cs:List Nat,cs.Nodup->(cs.flatMap fun c=>colM c l).length<=k->hzx k (cs.flatMap fun c=>colM c l)=cs.flatMap fun c=>hzx k (colM c l)
 | [],_,_=>by rw[List.flatMap_nil,rzT];rfl
 | c::cs,hn,hk=>by
  rw[List.nodup_cons]at hn;rw[List.flatMap_cons]at hk;rw[List.flatMap_cons,List.flatMap_cons,Jzy k _ _ hk,Gz0 cs hn.2 (by rw[List.length_append]at hk;omega)];intro x hx y hy;obtain⟨c',hc',hy⟩:=List.mem_flatMap.1 hy;rw[(rzH x hx).1,(rzH y hy).1];intro e;have:c'=c:=by omega
  subst this;exact hn.1 hc'
theorem runN_P {x:Member}(h0:0<=x.At.Row)(h1:x.At.Row<65536):∀(t:List Member) (prev:Member) (n:Nat),(∀y∈t,y.At.Col=x.At.Col)->prev.At.Row=x.At.Row+((n:Int)-1)->1<=n->n<=1024->runP x prev n t=runN x n t
 | [],_,_,_,_,_,_=>rfl
 | y::t,prev,n,hc,hp,hn,hn'=>by
  have e:cP x prev n y=(decide (n<1024)&&(decide (y.At.Row=i64.wrap (x.At.Row+n))&&eqX y.E x.E)):=by
   unfold cP;rw[dT0 (hc y (by simp)),Bool.and_true,show prev.At.Row+1=x.At.Row+n by omega]
  simp only[runP,runN,<-e];cases hcp:cP x prev n y
  .rfl
  .rw[e]at hcp;simp only[Bool.and_eq_true,decide_eq_true_eq]at hcp;rw[azG (by omega) (by omega)]at hcp;exact runN_P h0 h1 t y (n+1) (fun z hz=>hc z (by simp[hz])) (by omega) (by omega) (by omega)
theorem runs_P {c:Nat}:∀(k:Nat) (l:List Member),(∀m∈l,m.At.Col=c/\0<=m.At.Row/\m.At.Row<65536)->runs k l=hzx k l
 | 0,l,_=>rfl
 | k+1,[],_=>rfl
 | k+1,x::t,h=>by
  have hx:=h x (by simp);unfold runs;rw[nz0,runN_P hx.2.1 hx.2.2 t x 1 (fun y hy=>by rw[(h y (by simp[hy])).1,hx.1]) (by omega) (by omega) (by omega),runs_P (c:=c) k _ fun m hm=>h m (List.mem_of_mem_drop hm)]
def okM (l:List Member):Prop:=(l.Pairwise fun a b=>dzi a.At b.At=true)/\∀m∈l,gdC m.At=true
theorem srt_pair {r:List Member}(h:Srt 0 r.length r):r.Pairwise fun x y=>ltM y x=false:=by
 rw[List.pairwise_iff_getElem];intro i j hi hj hij;exact h i j (by omega) hij hj _ _ (List.getElem?_eq_getElem hi) (List.getElem?_eq_getElem hj)
theorem okM_inj {l:List Member}(h:okM l):∀x∈l,∀y∈l,x.At.Row=y.At.Row->x.At.Col=y.At.Col->x=y:=by
 intro x hx y hy h1 h2;obtain⟨i,hi,rfl⟩:=List.mem_iff_getElem.1 hx;obtain⟨j,hj,rfl⟩:=List.mem_iff_getElem.1 hy;by_cases c:i=j
 .subst c;rfl
 .exfalso;by_cases c2:i<j
  .have:=List.pairwise_iff_getElem.1 h.1 i j hi hj c2;rw[gzk]at this;omega
  .have:=List.pairwise_iff_getElem.1 h.1 j i hj hi (by omega);rw[gzk]at this;omega
theorem planP_eq {l:List Member}(hl:l.length<=10000)(he:∀m∈l,fewE m.E)(ho:okM l):∃o,ozw l=some (plD l,o):=by
 obtain⟨r,o,r1,r2,r3⟩:=planP_is hl he;refine⟨o,?_⟩;have hb:∀m∈l,0<=m.At.Col/\m.At.Col<(256:Nat)/\0<=m.At.Row/\m.At.Row<65536:=fun m hm=>by have:=gdC_b (ho.2 m hm);omega
 have hp:=Iz5 256 l fun m hm=>⟨(hb m hm).1,(hb m hm).2.1⟩
 have er:r=(List.range 256).flatMap fun c=>colM c l:=by
  refine List.Perm.eq_of_pairwise (le:=fun x y=>ltM y x=false) ?_ ?_ ?_ (r1.trans hp.symm)
  .intro x y hx hy h1 h2;rw[tzg]at h1 h2;exact okM_inj ho x (r1.mem_iff.1 hx) y (hp.mem_iff.1 hy) (by omega) (by omega)
  .exact srt_pair (by rw[r1.length_eq];exact r2)
  .rw[List.pairwise_flatMap];constructor
   .intro c _;refine(ho.1.sublist (List.filter_sublist (p:=fun m:Member=>decide (m.At.Col=(c:Int))))).imp_of_mem ?_;intro x y hx hy hxy;have h1:=(rzH x hx).1;have h2:=(rzH y hy).1;rw[gzk]at hxy;rw[tzg];omega
   .refine List.pairwise_lt_range.imp ?_;intro c c' hcc x hx y hy;have h1:=(rzH x hx).1;have h2:=(rzH y hy).1;rw[tzg];omega
 rw[r3];congr 2;have hlen:r.length=l.length:=r1.length_eq;have hk:((List.range 256).flatMap fun c=>colM c l).length<=r.length:=by rw[<-er];exact Nat.le_refl _
 rw[show hzx r.length r=hzx r.length ((List.range 256).flatMap fun c=>colM c l) by rw[<-er],Gz0 _ List.nodup_range hk];unfold plD;have:∀cs:List Nat,(cs.flatMap fun c=>hzx r.length (colM c l))=cs.flatMap fun c=>runs (colI l c).length (pick l (colI l c)):=by
  intro cs;induction cs with
  | nil=>rfl
  | cons c cs ih =>
   rw[List.flatMap_cons,List.flatMap_cons,ih];congr 1;have h1:=xzK (HzD (l:=l) (c:=c));have h2:(colM c l).length<=l.length:=List.length_filter_le _ _;rw[pick_col]at h1 ⊢;rw[runs_P (c:=c) _ _ fun m hm=>⟨(rzH m hm).1,(hb m (rzH m hm).2).2.2⟩,xz1 r.length (colI l c).length _ (by omega) (by omega)]
 exact this _
theorem groupP_is {g:Group}(h:fewE g.E):qzk g=some (cgD g):=by
 unfold qzk qzl cgD ltC;simp only[azj,bz4];rw[goodE,goodE,nzK,nzK];simp only[aza];cases hA:gdC g.A
 .rfl
 cases hB:gdC g.B
 .rfl
 have:=gdC_b hA;have:=gdC_b hB;have e1:i64.wrap (i64.wrap (g.B.Row-g.A.Row)+1)=rows g:=by rw[azG (n:=g.B.Row-g.A.Row) (by omega) (by omega),azG (by omega) (by omega)];rfl
 have e2:i64.wrap (i64.wrap (g.B.Col-g.A.Col)+1)=cols g:=by rw[azG (n:=g.B.Col-g.A.Col) (by omega) (by omega),azG (by omega) (by omega)];rfl
 rw[e1,e2];by_cases c1:g.B.Row<g.A.Row
 .rw[dT0 c1,dT0 (show rows g<1 by unfold rows;omega)];rfl
 rw[dF0 c1,dF0 (show ¬rows g<1 by unfold rows;omega)];by_cases c2:g.B.Col<g.A.Col
 .rw[dT0 c2,dT0 (show cols g<1 by unfold cols;omega)];rfl
 have hb:ltC g=true:=by unfold ltC;rw[hA,hB,dF0 c1,dF0 c2];rfl
 obtain⟨a1,a2,a3,a4,a5,a6⟩:=tzl hb;rw[dF0 c2,dF0 (show ¬cols g<1 by omega),azG (by omega) (by omega),(lzM (by have:=h.1;omega) h.2).1];simp only[aza];rw[show(true&&(true&&(!false&&!false)))=true from rfl,cond_true];by_cases c3:1024<rows g*cols g
 .rw[dT0 c3,if_pos c3];rfl
 rw[dF0 c3,if_neg c3];have f1:decide (cols g=1)=decide (g.A.Col=g.B.Col):=by simp only[decide_eq_decide];unfold cols;omega
 have f2:decide (rows g<2)=decide (g.A.Row=g.B.Row):=by simp only[decide_eq_decide];unfold rows;omega
 rw[f1,f2];cases g.Array<;>cases decide (g.A.Col=g.B.Col)<;>cases decide (g.A.Row=g.B.Row)<;>rfl
theorem Lzq (a b:Group):ovB a b=ovB b a:=by
 unfold ovB;rw[Bool.eq_iff_iff];simp only[Bool.and_eq_true,decide_eq_true_eq];omega
theorem MzF {a b:Group}(ha:ltC a=true)(hb:ltC b=true):nz1 (a,b)=some (ovB a b):=by
 have:=uzT ha;have:=uzT hb;unfold nz1 ovB;simp only;rw[brnA];congr 1;rw[Bool.eq_iff_iff];simp only[Bool.and_eq_true,decide_eq_true_eq];by_cases c1:a.A.Row<b.A.Row<;>by_cases c2:b.B.Row<a.B.Row<;>by_cases c3:a.A.Col<b.A.Col<;>by_cases c4:b.B.Col<a.B.Col<;>simp only[c1,c2,c3,c4,decide_true,decide_false,cond_true,cond_false]<;>omega
def Fzd (l:List Group):Bool:=(List.range l.length).all fun i=>match l[i]? with
 | some a=>(l.drop (i+1)).all fun b=>!ovB a b
 | none=>true
theorem IzV {l:List Group}:apart l=true↔∀i j (hi:i<l.length) (hj:j<l.length),j<i->ovB l[i] l[j]=false:=by
 unfold apart;rw[List.all_eq_true];constructor
 .intro h i j hi hj hji;have:=h i (List.mem_range.2 hi);rw[List.getElem?_eq_getElem hi]at this;have:=List.all_eq_true.1 this l[j] (by rw[List.mem_take_iff_getElem];exact⟨j,by omega,rfl⟩);simpa using this
 .intro h i hi;have hi:=List.mem_range.1 hi;rw[List.getElem?_eq_getElem hi];simp only;rw[List.all_eq_true];intro b hb;rw[List.mem_take_iff_getElem]at hb;obtain⟨j,hj,rfl⟩:=hb;rw[h i j hi (by omega) (by omega)];rfl
theorem MzW {l:List Group}:Fzd l=true↔∀i j (hi:i<l.length) (hj:j<l.length),j<i->ovB l[i] l[j]=false:=by
 unfold Fzd;rw[List.all_eq_true];constructor
 .intro h i j hi hj hji;have:=h j (List.mem_range.2 hj);rw[List.getElem?_eq_getElem hj]at this;have:=List.all_eq_true.1 this l[i] (by rw[List.mem_drop_iff_getElem];exact⟨i-(j+1),by omega,by congr 1;omega⟩);rw[Lzq];simpa using this
 .intro h i hi;have hi:=List.mem_range.1 hi;rw[List.getElem?_eq_getElem hi];simp only;rw[List.all_eq_true];intro b hb;rw[List.mem_drop_iff_getElem]at hb;obtain⟨j,hj,rfl⟩:=hb;rw[Lzq,h (i+1+j) i (by omega) hi (by omega)];rfl
theorem apart_eq (l:List Group):Fzd l=apart l:=by rw[Bool.eq_iff_iff,IzV,MzW]
theorem subD {A:Type}{l:List A}{i:Nat}(h:i<=l.length)(h1:l.length<=1000000):sub l (i:Int) (l.length:Int)=some (l.drop i):=by
 unfold sub;rw[dT0 (by omega),dT0 (by omega),dT0 (by omega)];simp
theorem subT {A:Type}{l:List A}{i:Nat}(h:i<=l.length)(h1:l.length<=1000000):sub l 0 (i:Int)=some (l.take i):=by
 unfold sub;rw[dT0 (by omega),dT0 (by omega),dT0 (by omega)];simp
theorem all_l3 {g:Group}{l:List Group}(hg:ltC g=true)(hl:∀x∈l,ltC x=true)(hn:l.length<=1000):nzt (g,l,(l.length:Int),0)=some (bif l.all (fun b=>!ovB g b)then .inl ()else .inr 13):=by
 refine mz7 (F:=hz0) (fun i=>(g,l,(l.length:Int),(i:Int))) l (fun b=>!ovB g b) (.inr 13) (.inl ()) (by omega) ?_ ?_
 .intro back i hi;unfold hz0;simp only[azj,bz4];rw[ltT hi,azd,idxG hi,aza,MzF hg (hl _ (List.getElem_mem hi)),aza,wr1 (by omega)];cases ovB g l[i]<;>rfl
 .intro back;unfold hz0;simp only;rw[ltF];rfl
theorem Mzc {l:List Group}(hl:l.length<=1000)(he:∀g∈l,fewE g.E):mz3 l=some (csD l):=by
 have l1:nzr (l,(l.length:Int),0)=some (er (fz cgD l)):=by
  refine ezc (F:=hzY) (fun i=>(l,(l.length:Int),(i:Int))) er l cgD (by omega) ?_ ?_
  .intro back i hi;unfold hzY;simp only[azj,bz4];rw[ltT hi,azd,idxG hi,aza,groupP_is (he _ (List.getElem_mem hi)),aza,wr1 (by omega)];by_cases c:cgD l[i]=0
   .rw[dT0 c];rfl
   .rw[dF0 c,er,if_neg c];rfl
  .intro back;unfold hzY;simp only;rw[ltF];rfl
 unfold mz3 csD;rw[l1,aza];by_cases c:fz cgD l=0
 .have h0:=izj.1 c;have l2:nzs (l,l,(l.length:Int),0)=some (bif Fzd l then .inl ()else .inr 13):=by
   refine lzS (F:=hzZ) (fun i=>(l,l,(l.length:Int),(i:Int))) l.length _ (.inr 13) (.inl ()) (by omega) ?_ ?_
   .intro back i hi;unfold hzZ;simp only[azj,bz4];rw[ltT hi,azd,idxG hi,aza,wr1 (by omega),subD (by omega) (by omega),aza,all_l3 (cg0 (h0 _ (List.getElem_mem hi))).1 (fun x hx=>(cg0 (h0 x (List.mem_of_mem_drop hx))).1) (by rw[List.length_drop];omega),aza,List.getElem?_eq_getElem hi];simp only;cases(l.drop (i+1)).all fun b=>!ovB l[i] b<;>rfl
   .intro back;unfold hzZ;simp only;rw[ltF];rfl
  rw[c,er0,if_pos rfl,l2,apart_eq];cases apart l<;>rfl
 .rw[er,if_neg c,if_neg c];rfl
theorem Lzo (a b:Group):∃v,nzu (a,b)=some v/\decide (v<0)=dzi a.A b.A:=by
 refine⟨_,?_,or2_lt a.A.Row b.A.Row a.A.Col b.A.Col⟩;unfold nzu;simp only;rw[tzc,aza,tzc,aza,or2];rfl
def ordP (l:List Group):Bool:=(List.range (l.length-1)).all fun i=>match l[i+1]?,l[i]? with
 | some a,some b=>!dzi a.A b.A
 | _,_=>true
theorem down_loop {X Z:Type}{F:(X->Option Z)->X->Option Z}(mk:Nat->X)(n:Nat)(c:Nat->Bool)(bad ok:Z)(hn:n<=1000000000)
 (h:∀back i,i<n->F back (mk (i+1))=bif c i then back (mk i)else some bad) (hend:∀back,F back (mk 0)=some ok):iter F big (mk n)=some (bif (List.range n).all c then ok else bad):=by
 have key:∀n N,n<N->(∀back i,i<n->F back (mk (i+1))=bif c i then back (mk i)else some bad)->iter F N (mk n)=some (bif (List.range n).all c then ok else bad):=by
  intro n;induction n with
  | zero =>
   intro N hN _;obtain⟨N,rfl⟩:∃m,N=m+1:=⟨N-1,by omega⟩;rw[azw,hend];rfl
  | succ n ih =>
   intro N hN h;obtain⟨N,rfl⟩:∃m,N=m+1:=⟨N-1,by omega⟩;rw[azw,h _ n (by omega),List.range_succ,List.all_append];cases hc:c n with
   | true =>
    rw[cond_true,ih N (by omega) fun back i hi=>h back i (by omega)];simp[hc]
   | false=>simp[hc]
 exact key n big (by rw[bzH];omega) h
theorem MzA {l:List Group}(hl:l.length<=1000):bzJ (l,())=some (ordP l):=by
 unfold bzJ;simp only;have step:∀n,n<=l.length-1->bzA (l,(),(n:Int))=some (bif (List.range n).all (fun i=>match l[i+1]?,l[i]? with
  | some a,some b=>!dzi a.A b.A
  | _,_=>true)then .inl ()else .inr false):=by
  intro n hn;refine down_loop (F:=azH) (fun i=>(l,(),(i:Int))) n _ (.inr false) (.inl ()) (by omega) ?_ ?_
  .intro back i hi;have h1:i+1<l.length:=by omega
   have h2:i<l.length:=by omega
   unfold azH;simp only[azj,bz4];rw[dT0 (by omega),azd,ozd (by omega) (by omega),show i+1-1=i by omega,idxG h1,idxG h2];simp only[aza];obtain⟨v,v1,v2⟩:=Lzo l[i+1] l[i];rw[v1,aza,v2,List.getElem?_eq_getElem h1,List.getElem?_eq_getElem h2];simp only;cases dzi l[i+1].A l[i].A<;>rfl
  .intro back;unfold azH;simp only;rw[dF0 (by omega)];rfl
 unfold ordP;by_cases c:l.length=0
 .have:l=[]:=List.eq_nil_of_length_eq_zero c;subst this;have:bzA ([],(),-1)=some (.inl ()):=by
   show iter _ big _=_
   rw[bzH,azw];unfold azH;rfl
  rw[show i64.wrap ((([]:List Group).length:Int)-1) = -1 from rfl,this];rfl
 .rw[ozd (by omega) (by omega),step _ (Nat.le_refl _),aza,mzc]
theorem BzN:∀(A P:List Cell),(A.Pairwise fun a b=>dzi a b=true)->(P.Pairwise fun a b=>dzi a b=true)->(∀x∈A,x∈P)->A.length<=P.length/\(A.length=P.length->A=P)
 | [],P,_,_,_=>⟨Nat.zero_le _,fun h=>(List.eq_nil_of_length_eq_zero h.symm).symm⟩
 | a::A,[],_,_,h=>absurd (h a (by simp)) (by simp)
 | a::A,p::P,h1,h2,h=>by
  rw[List.pairwise_cons]at h1 h2;by_cases c:a=p
  .subst c;obtain⟨k1,k2⟩:=BzN A P h1.2 h2.2 fun x hx=>by
    rcases List.mem_cons.1 (h x (by simp[hx]))with rfl|k
    .have:=h1.1 _ hx;rw[gzk]at this;omega
    .exact k
   refine⟨by simp;omega,fun e=>?_⟩;rw[k2 (by simpa using e)]
  .have ha:a∈P:=by
    rcases List.mem_cons.1 (h a (by simp))with k|k
    .exact absurd k c
    .exact k
   obtain⟨k1,-⟩:=BzN (a::A) P (List.pairwise_cons.2 h1) h2.2 fun x hx=>by
    rcases List.mem_cons.1 (h x hx)with rfl|k
    .exfalso;have a1:=h2.1 a ha;rcases List.mem_cons.1 hx with e|hx
     .exact c e.symm
     .have a2:=h1.1 _ hx;rw[gzk]at a1 a2;omega
    .exact k
   rw[List.length_cons]at k1;refine⟨by simp;omega,fun e=>?_⟩;rw[List.length_cons,List.length_cons]at e;omega
theorem cells_inj {cs:List Cell2}(h:okCs cs):∀x∈cs,∀y∈cs,x.At=y.At->x=y:=by
 intro x hx y hy h1;obtain⟨i,hi,rfl⟩:=List.mem_iff_getElem.1 hx;obtain⟨j,hj,rfl⟩:=List.mem_iff_getElem.1 hy;by_cases c:i=j
 .subst c;rfl
 .exfalso;by_cases c2:i<j
  .have:=List.pairwise_iff_getElem.1 (pzC h) i j hi hj c2;rw[h1,gzk]at this;omega
  .have:=List.pairwise_iff_getElem.1 (pzC h) j i hj hi (by omega);rw[h1,gzk]at this;omega
theorem Hzr {p:Cell}{c:Cell2}:atC p c=true↔c.At=p:=by
 unfold atC;rw[cellE,decide_eq_true_eq]
theorem hasC_iff {cs:List Cell2}(h:okCs cs){e:Expr}{p:Cell}:hasC cs e p=true↔∃c∈cs,c.At=p/\c.Has=true/\c.E=e:=by
 unfold hasC;constructor
 .intro k;cases hf:cs.find? (atC p)with
  | none=>rw[hf]at k;cases k
  | some c =>
   rw[hf]at k;simp only[Bool.and_eq_true,dzT]at k;exact⟨c,List.mem_of_find?_eq_some hf,Hzr.1 (List.find?_some hf),k.1,k.2⟩
 .rintro⟨c,hc,h1,h2,h3⟩;cases hf:cs.find? (atC p)with
  | none=>exact absurd (Hzr.2 h1) (by simpa using List.find?_eq_none.1 hf c hc)
  | some d =>
   have:=cells_inj h d (List.mem_of_find?_eq_some hf) c hc (by rw[Hzr.1 (List.find?_some hf),h1]);subst this;simp only[Bool.and_eq_true,dzT];exact⟨h2,h3⟩
theorem hasG_iff {g:Group}{c:Cell}:hasG g c=true↔g.A.Row<=c.Row/\c.Row<=g.B.Row/\g.A.Col<=c.Col/\c.Col<=g.B.Col:=by unfold hasG;simp
theorem exD_pair (g:Group):(exD g).Pairwise fun x y=>dzi x.At y.At=true:=by
 unfold exD;rw[List.pairwise_flatMap];constructor
 .intro r _;rw[List.pairwise_map];refine List.pairwise_lt_range.imp ?_;intro c c' h;refine gzk.2 (.inr ⟨rfl,?_⟩)
  show g.A.Col+(c:Int)<g.A.Col+(c':Int)
  omega
 .refine List.pairwise_lt_range.imp ?_;intro r r' h x hx y hy;obtain⟨c,-,rfl⟩:=List.mem_map.1 hx;obtain⟨c',-,rfl⟩:=List.mem_map.1 hy;refine gzk.2 (.inl ?_)
  show g.A.Row+(r:Int)<g.A.Row+(r':Int)
  omega
theorem exD_mem {g:Group}{p:Cell}:p∈(exD g).map (·.At)↔hasG g p=true:=by
 rw[hasG_iff,List.mem_map];unfold exD;constructor
 .rintro⟨x,hx,rfl⟩;obtain⟨r,hr,hx⟩:=List.mem_flatMap.1 hx;obtain⟨c,hc,rfl⟩:=List.mem_map.1 hx;have hr:=List.mem_range.1 hr;have hc:=List.mem_range.1 hc;unfold rows at hr;unfold cols at hc;simp only;omega
 .intro h;refine⟨⟨p,g.E⟩,List.mem_flatMap.2 ⟨(p.Row-g.A.Row).toNat,List.mem_range.2 (by unfold rows;omega),List.mem_map.2 ⟨(p.Col-g.A.Col).toNat,List.mem_range.2 (by unfold cols;omega),?_⟩⟩,rfl⟩;rw[show g.A.Row+((p.Row-g.A.Row).toNat:Int)=p.Row by omega,show g.A.Col+((p.Col-g.A.Col).toNat:Int)=p.Col by omega]
theorem exD_size {g:Group}(h:ltC g=true):((exD g).length:Int)=rows g*cols g:=by
 obtain⟨a1,a2,a3,a4,-,-⟩:=tzl h;unfold exD;simp only[List.length_flatMap,List.length_map,List.length_range];rw[List.map_const',List.sum_replicate_nat,List.length_range,Int.natCast_mul,Int.toNat_of_nonneg (by omega),Int.toNat_of_nonneg (by omega)]
noncomputable def inG (g:Group)(c:Cell2):Bool:=c.Has&&(hasG g c.At&&eqX c.E g.E)
theorem fits_l1 {cs:List Cell2}{g:Group}(hl:cs.length<=1000)(he:∀c∈cs,fewE c.E)(hg:fewE g.E):qz9 (g,0,cs,(cs.length:Int),0)=some ((cs.filter (inG g)).length:Int):=by
 rw[<-mzD];refine ezz (F:=lzH) (fun(z:List Cell2) i=>(g,(z.length:Int),cs,(cs.length:Int),(i:Int))) (fun z=>(z.length:Int)) cs _ 1 [] (by omega) (fun c _=>by cases inG g c<;>simp) ?_ ?_
 .intro back z i hi hz;unfold lzH inG;simp only[azj,bz4];rw[ltT hi,azd,idxG hi,aza,hasS_is,aza,mzC (he _ (List.getElem_mem hi)) hg,aza,wr1 (i:=i) (by omega),wr1 (i:=z.length) (by simp at hz;omega)];cases cs[i].Has<;>cases hasG g cs[i].At<;>cases eqX cs[i].E g.E<;>simp
 .intro back z _;unfold lzH;simp only;rw[ltF];rfl
theorem fits_is {cs:List Cell2}{g:Group}(hl:cs.length<=1000)(hc:okCs cs)(he:∀c∈cs,fewE c.E)(hg:fewE g.E)(hb:ltC g=true):rzy (cs,g)=some ((exD g).all fun x=>hasC cs g.E x.At):=by
 obtain⟨a1,a2,a3,a4,a5,a6⟩:=tzl hb;have:=uzT hb;have e1:i64.wrap (i64.wrap (g.B.Row-g.A.Row)+1)=rows g:=by rw[azG (n:=g.B.Row-g.A.Row) (by omega) (by omega),azG (by omega) (by omega)];rfl
 have e2:i64.wrap (i64.wrap (g.B.Col-g.A.Col)+1)=cols g:=by rw[azG (n:=g.B.Col-g.A.Col) (by omega) (by omega),azG (by omega) (by omega)];rfl
 unfold rzy;simp only[azj,bz4];rw[fits_l1 hl he hg,aza,e1,e2,azG (by omega) (by omega),<-exD_size hb];congr 1;have hS:((cs.filter (inG g)).map (·.At)).Pairwise fun a b=>dzi a b=true:=by
  rw[List.pairwise_map];exact(pzC hc).sublist List.filter_sublist
 have hP:((exD g).map (·.At)).Pairwise fun a b=>dzi a b=true:=by
  rw[List.pairwise_map];exact exD_pair g
 have inS:∀p,p∈(cs.filter (inG g)).map (·.At)↔hasG g p=true/\hasC cs g.E p=true:=by
  intro p;rw[List.mem_map,hasC_iff hc];constructor
  .rintro⟨c,hcm,rfl⟩;obtain⟨h1,h2⟩:=List.mem_filter.1 hcm;unfold inG at h2;simp only[Bool.and_eq_true,dzT]at h2;exact⟨h2.2.1,c,h1,rfl,h2.1,h2.2.2⟩
  .rintro⟨h1,c,h2,rfl,h3,h4⟩;refine⟨c,List.mem_filter.2 ⟨h2,?_⟩,rfl⟩;unfold inG;simp only[Bool.and_eq_true,dzT];exact⟨h3,h1,h4⟩
 have l1:((cs.filter (inG g)).map (·.At)).length=(cs.filter (inG g)).length:=List.length_map ..;have l2:((exD g).map (·.At)).length=(exD g).length:=List.length_map ..;have s1:=BzN _ _ hS hP fun x hx=>exD_mem.2 ((inS x).1 hx).1
 rw[Bool.eq_iff_iff,decide_eq_true_eq,List.all_eq_true];constructor
 .intro h x hx;have e:=s1.2 (by omega);have:x.At∈(exD g).map (·.At):=List.mem_map.2 ⟨x,hx,rfl⟩;rw[<-e]at this;exact((inS _).1 this).2
 .intro h;have s2:=(BzN _ _ hP hS fun p hp=>by
   obtain⟨x,hx,rfl⟩:=List.mem_map.1 hp;exact(inS _).2 ⟨exD_mem.1 hp,h x hx⟩).1
  have:=s1.1;omega
theorem eqStr {l m:List (List UInt8)}(hn:l.length<=1000000):bzz (l,m)=some (eqX l m):=by
 unfold bzz;simp only;by_cases hl:l.length=m.length
 .rw[lenD hl,show(!true)=false from rfl,azc];have:=pzj (F:=dzn) (fun i=>(l,m,(l.length:Int),(i:Int))) l m hl (by omega) ?_ ?_
  .rw[show fz6 (l,m,(l.length:Int),0)=_ from this,aza,mzc]
  .intro back i h1 h2;unfold dzn;simp only[cond_true];rw[ltT h1,azd,idxG h1,idxG h2,aza,aza,<-eqX_dec,wr1 (by omega)]
  .intro back;unfold dzn;simp only;rw[ltF];rfl
 .rw[lenN hl,pzi hl];rfl
theorem eqInt {l m:List Int}(hn:l.length<=1000000):izq (l,m)=some (eqX l m):=by
 unfold izq;simp only;by_cases hl:l.length=m.length
 .rw[lenD hl,show(!true)=false from rfl,azc];have:=pzj (F:=ezJ) (fun i=>(l,m,(l.length:Int),(i:Int))) l m hl (by omega) ?_ ?_
  .rw[show jzK (l,m,(l.length:Int),0)=_ from this,aza,mzc]
  .intro back i h1 h2;unfold ezJ;simp only[cond_true];rw[ltT h1,azd,idxG h1,idxG h2,aza,aza,<-eqX_dec,wr1 (by omega)]
  .intro back;unfold ezJ;simp only;rw[ltF];rfl
 .rw[lenN hl,pzi hl];rfl
theorem eqPlace {l m:List Place}(hn:l.length<=1000000):dzN (l,m)=some (eqX l m):=by
 unfold dzN;simp only;by_cases hl:l.length=m.length
 .rw[lenD hl,show(!true)=false from rfl,azc];have:=pzj (F:=czA) (fun i=>(l,m,(l.length:Int),(i:Int))) l m hl (by omega) ?_ ?_
  .rw[show ezI (l,m,(l.length:Int),0)=_ from this,aza,mzc]
  .intro back i h1 h2;unfold czA;simp only[cond_true,placeE];rw[ltT h1,azd,idxG h1,idxG h2,aza,aza,wr1 (by omega)]
  .intro back;unfold czA;simp only;rw[ltF];rfl
 .rw[lenN hl,pzi hl];rfl
theorem eqRow {l m:List Row}(hn:l.length<=1000000):dzO (l,m)=some (eqX l m):=by
 unfold dzO;simp only;by_cases hl:l.length=m.length
 .rw[lenD hl,show(!true)=false from rfl,azc];have:=pzj (F:=czB) (fun i=>(l,m,(l.length:Int),(i:Int))) l m hl (by omega) ?_ ?_
  .rw[show ezK (l,m,(l.length:Int),0)=_ from this,aza,mzc]
  .intro back i h1 h2;unfold czB;simp only[cond_true,rowE];rw[ltT h1,azd,idxG h1,idxG h2,aza,aza,wr1 (by omega)]
  .intro back;unfold czB;simp only;rw[ltF];rfl
 .rw[lenN hl,pzi hl];rfl
theorem eqExprs {l m:List Expr}(hn:l.length<=1000000)(ha:∀x∈l,fewE x)(hb:∀x∈m,fewE x):bzc (l,m,())=some (eqX l m):=by
 unfold bzc;simp only;by_cases hl:l.length=m.length
 .rw[lenD hl,show(!true)=false from rfl,azc];have:=pzj (F:=azE) (fun i=>(m,(),l,(l.length:Int),(i:Int))) l m hl (by omega) ?_ ?_
  .rw[show bzI (m,(),l,(l.length:Int),0)=_ from this,aza,mzc]
  .intro back i h1 h2;unfold azE;simp only[cond_true,azj];rw[ltT h1,azd,idxG h1,idxG h2,aza,aza,mzC (ha _ (List.getElem_mem h1)) (hb _ (List.getElem_mem h2)),aza,wr1 (by omega)]
  .intro back;unfold azE;simp only;rw[ltF];rfl
 .rw[lenN hl,pzi hl];rfl
theorem ez8 {l m:List Cell2}(hn:l.length<=1000000)(ha:∀x∈l,fewE x.E)(hb:∀x∈m,fewE x.E):az2 (l,m,())=some (eqX l m):=by
 unfold az2;simp only;by_cases hl:l.length=m.length
 .rw[lenD hl,show(!true)=false from rfl,azc];have:=pzj (F:=azB) (fun i=>(m,(),l,(l.length:Int),(i:Int))) l m hl (by omega) ?_ ?_
  .rw[show bzy (m,(),l,(l.length:Int),0)=_ from this,aza,mzc]
  .intro back i h1 h2;unfold azB;simp only[cond_true,azj,iz5];rw[ltT h1,azd,idxG h1,idxG h2,aza,aza,Mzb (ha _ (List.getElem_mem h1)) (hb _ (List.getElem_mem h2)),aza,wr1 (by omega)]
  .intro back;unfold azB;simp only;rw[ltF];rfl
 .rw[lenN hl,pzi hl];rfl
theorem KzG {l m:List Group}(hn:l.length<=1000000)(ha:∀x∈l,fewE x.E)(hb:∀x∈m,fewE x.E):azq (l,m,())=some (eqX l m):=by
 unfold azq;simp only;by_cases hl:l.length=m.length
 .rw[lenD hl,show(!true)=false from rfl,azc];have:=pzj (F:=azx) (fun i=>(m,(),l,(l.length:Int),(i:Int))) l m hl (by omega) ?_ ?_
  .rw[show bza (m,(),l,(l.length:Int),0)=_ from this,aza,mzc]
  .intro back i h1 h2;unfold azx;simp only[cond_true,azj,bz4];rw[ltT h1,azd,idxG h1,idxG h2,aza,aza,KzW (ha _ (List.getElem_mem h1)) (hb _ (List.getElem_mem h2)),aza,wr1 (by omega)]
  .intro back;unfold azx;simp only;rw[ltF];rfl
 .rw[lenN hl,pzi hl];rfl
theorem LzU {a b:Sheet}(ha:fewS a)(hb:fewS b):rzx (a,b)=some (eqX a b):=by
 unfold rzx;simp only;rw[eqRow (by have:=ha.rows;omega),ez8 (by have:=ha.cells;omega) (fun x hx=>(ha.cellE x hx).1) (fun x hx=>(hb.cellE x hx).1),KzG (by have:=ha.groups;omega) ha.groupE hb.groupE];simp only[aza];rw[brnA,brnA,sheetE]
theorem eqSheets {l m:List Sheet}(hn:l.length<=1000000)(ha:∀x∈l,fewS x)(hb:∀x∈m,fewS x):azM (l,m,())=some (eqX l m):=by
 unfold azM;simp only;by_cases hl:l.length=m.length
 .rw[lenD hl,show(!true)=false from rfl,azc];have:=pzj (F:=azz) (fun i=>(m,(),l,(l.length:Int),(i:Int))) l m hl (by omega) ?_ ?_
  .rw[show bzm (m,(),l,(l.length:Int),0)=_ from this,aza,mzc]
  .intro back i h1 h2;unfold azz;simp only[cond_true];rw[ltT h1,azd,idxG h1,idxG h2,aza,aza,LzU (ha _ (List.getElem_mem h1)) (hb _ (List.getElem_mem h2)),aza,wr1 (by omega)]
  .intro back;unfold azz;simp only;rw[ltF];rfl
 .rw[lenN hl,pzi hl];rfl
theorem Mzw {a b:Globals}(ha:fewG a)(hb:fewG b):szM (a,b)=some (eqX a b):=by
 unfold szM;simp only;rw[eqStr (by have:=ha.sheets;omega),eqStr (by have:=ha.formats;omega),eqInt (by have:=ha.xfs;omega),eqExprs (by have:=ha.names;omega) ha.nameE hb.nameE,eqStr (by have:=ha.texts;omega),eqPlace (by have:=ha.chain;omega)];simp only[aza];rw[brnA,brnA,brnA,brnA,brnA,brnA,globE]
theorem Lz5 {a b:Book}(ha:fewB a)(hb:fewB b):jz6 (a,b)=some (eqX a b):=by
 unfold jz6;simp only;rw[Mzw ha.glob hb.glob,eqSheets (by have:=ha.sheets;omega) ha.sheet hb.sheet];simp only[aza];rw[brnA,bookE]
end Go.Proofs.YtkafbjodbjkieaaGreatDoor