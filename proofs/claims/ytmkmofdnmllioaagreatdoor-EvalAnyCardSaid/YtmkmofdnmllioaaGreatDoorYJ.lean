import Derived.Test.YtmkmofdnmllioaaGreatDoorX9
import Derived.Test.YtmkmofdnmllioaaGreatDoorU3
import Derived.Shelf.Strings.BuilderK
set_option maxRecDepth 400000
/- XA -/
namespace Go.Proofs.YtmkmofdnmllioaaGreatDoor
open Go Go.Ev Go.Lib
open Go.IntKind (i64 u64 u8 i32 u32 i16 u16)
def ulen:List Int->Nat
 | []=>0
 | r::l=>(if r<65536 then 1 else 2)+ulen l
theorem ulen_le:∀l:List Int,ulen l<=2*l.length
 | []=>by simp[ulen]
 | r::l=>by
  have:=ulen_le l;simp only[ulen,List.length_cons];split<;>omega
theorem Lzq {x:List UInt8}(hl:x.length<=900000000):∃us,qzH x=some us/\us.length=ulen (rs x):=by
 have key:∃y,pz7 ([],x,0)=some y/\(y.1.length=ulen (rs x)):=by
  refine czf (F:=jzx) (fun z=>x.length-z.2.2) (fun z=>∃(out:List Int) (p:Nat),z=(out,x,p)/\out.length<=2*p/\(p<x.length\/rs (x.drop p)=[])/\out.length+ulen (rs (x.drop p))=ulen (rs x)) _ ?_ _ ⟨[],0,rfl,by simp,by
   by_cases h:x=[]
   .subst h;exact .inr rfl
   .exact .inl (List.length_pos_iff.2 h),by simp⟩ (by simp only;omega)
  rintro back z ⟨out,p,rfl,ho,hp,hv⟩ hb;unfold jzx;simp only at hb ⊢;by_cases hlt:p<x.length
  .have hne:x.drop p≠[]:=fun e=>by have:=congrArg List.length e;simp at this;omega
   have hr:=pzA x p;have hw:=decodeL_width (x.drop p);have hle:=decodeL_le (x.drop p) hne;rw[List.length_drop]at hle;rw[fzx hne,List.drop_drop]at hv;simp only[ulen]at hv;rw[dT0 hlt,azc,hr];have step:∀us:List Int,us.length=(if((decodeL (x.drop p)).1:Int)<65536 then 1 else 2)->∃y,back (out++us,x,p+(decodeL (x.drop p)).2)=some y/\y.1.length=ulen (rs x):=fun us hus=>by
    refine hb _ ⟨_,_,rfl,?_,?_,?_⟩ (by simp only;omega)
    .simp only[List.length_append,hus];split<;>omega
    .rcases Nat.lt_or_ge (p+(decodeL (x.drop p)).2) x.length with h|h
     .exact .inl h
     .right;rw[List.drop_eq_nil_of_le h];rfl
    .simp only[List.length_append,hus];omega
   have hs:(if((decodeL (x.drop p)).1:Int)<65536 then 1 else 2)<=2:=by split<;>omega
   by_cases h6:((decodeL (x.drop p)).1:Int)<65536
   .rw[dT0 h6,azc,appN (by simp;omega),aza];exact step _ (by rw[if_pos h6];rfl)
   .rw[dF0 h6,azb,appN (by simp;omega),aza];exact step _ (by rw[if_neg h6];rfl)
  .rw[dF0 hlt,azb];rcases hp with h|h
   .exact absurd h hlt
   .rw[h]at hv;exact⟨_,rfl,by simpa[ulen]using hv⟩
 obtain⟨y,h1,h2⟩:=key;refine⟨y.1,?_,h2⟩;unfold qzH;rw[h1];rfl
theorem Gzc {l:List Int}(hl:l.length<=4000000):∃us,pzg l=some us/\us.length=ulen l:=by
 have key:∃y,ozO (l,[],0)=some y/\(y.length=ulen l):=by
  refine czf (F:=izr) (fun z=>l.length-z.2.2.toNat) (fun z=>∃(out:List Int) (i:Nat),z=(l,out,(i:Int))/\i<=l.length/\out.length<=2*i/\out.length+ulen (l.drop i)=ulen l) _ ?_ _ ⟨[],0,rfl,by omega,by simp,by simp⟩ (by simp only;omega);rintro back z ⟨out,i,rfl,hi,ho,hv⟩ hb;unfold izr;simp only at hb ⊢;rcases Nat.lt_or_ge i l.length with hlt|hge
  .have hd:l.drop i=l[i]::l.drop (i+1):=List.drop_eq_getElem_cons hlt;rw[hd]at hv;simp only[ulen]at hv;rw[dT0 (by omega),azc,idxI (List.getElem?_eq_getElem hlt)];simp only[aza];generalize l[i]=r at *;rw[azi (n:=(i:Int)+1) (by omega) (by omega)];have step:∀us:List Int,us.length=(if r<65536 then 1 else 2)->∃y,back (l,out++us,(i:Int)+1)=some y/\y.length=ulen l:=fun us hus=>by
    refine hb _ ⟨_,i+1,by simp;rfl,by omega,?_,?_⟩ (by simp only;omega)
    .simp only[List.length_append,hus];split<;>omega
    .simp only[List.length_append,hus];omega
   by_cases h6:r<65536
   .rw[dT0 h6,azc,appN (by simp;omega),aza];exact step _ (by rw[if_pos h6];rfl)
   .rw[dF0 h6,azb,appN (by simp;omega),aza];exact step _ (by rw[if_neg h6];rfl)
  .rw[dF0 (by omega),azb];rw[List.drop_eq_nil_of_le hge]at hv;exact⟨_,rfl,by simpa[ulen]using hv⟩
 obtain⟨y,h1,h2⟩:=key;refine⟨y,?_,h2⟩;unfold pzg;rw[h1];rfl
def az5 (x:List UInt8):Int×Int:=if validD x=true then(if 1000<ulen (rs x)then(0,4)else((ulen (rs x):Int),0))else(0,2)
theorem qzR {x:List UInt8}(hl:x.length<=900000000):izZ x=some (az5 x):=by
 unfold izZ lzv az5;rw[aza];cases hv:validD x with
 | false=>simp
 | true =>
  obtain⟨us,h1,h2⟩:=Lzq hl;rw[Bool.not_true,azb,h1,aza,h2];by_cases h:1000<ulen (rs x)
  .rw[dT0 (by omega),azc];simp[h]
  .rw[dF0 (by omega),azb];simp[h]
theorem lzH {x:List UInt8}(hl:x.length<=4000000):fzm x=some (az5 x):=by
 unfold fzm az5;rw[Azu (by omega),aza];cases hv:validD x with
 | false=>simp
 | true =>
  obtain⟨us,h1,h2⟩:=Gzc (l:=rs x) (by have:=pzy x;omega);simp only[if_true,Bool.not_true,azb];rw[h1,aza,h2];by_cases h:1000<ulen (rs x)
  .rw[dT0 (by omega),azc,if_pos h]
  .rw[dF0 (by omega),azb,if_neg h]
theorem iter_rel {X Y:Type}{F:(X->Option Y)->X->Option Y}(m:X->Nat)(Pre:X->Prop)(R:X->Y->Prop)
 (h:∀back x,Pre x->(∀x',Pre x'->m x'<m x->∃y,back x'=some y/\R x' y)->∃y,F back x=some y/\R x y) (x:X) (hp:Pre x) (hm:m x<9223372036854775808):∃y,iter F big x=some y/\R x y:=by
 have key:∀n x,Pre x->m x<n->∃y,iter F n x=some y/\R x y:=by
  intro n;induction n with
  | zero=>intro x _ h0;omega
  | succ n ih =>
   intro x hp hn;rw[azF];exact h _ x hp fun x' hp' hm=>ih x' hp' (by omega)
 exact key _ x hp (by rw[czd];omega)
theorem cmpV_N (a b:Int):cmpV a b=cmpN a b:=rfl
theorem cmpr_is (x y:Int):hzm (x,y)=some (cmpN x y):=by
 unfold hzm jzL cmpN;simp only[decide_true,cond_true,aza,azb];by_cases h:x<y
 .simp[h]
 .by_cases h2:y<x<;>simp[h,h2]
theorem rs_at {s:List UInt8}{p:Nat}(h:p<s.length):rs (s.drop p)=((rune s p).1:Int)::rs (s.drop (p+(rune s p).2))/\1<=(rune s p).2:=by
 have hne:s.drop p≠[]:=fun h0=>by have:=congrArg List.length h0;simp at this;omega
 rw[fzx hne,pzA,List.drop_drop];exact⟨rfl,Lib.decodeL_width _⟩
theorem texts_l1 {s:List UInt8}{bs:List Int}(hs:s.length<=1000000)(hb:bs.length<=1000000):
 ∃y,lz9 (bs,0,s,0)=some y/\(match y with | .inl k=>walk (rs s) bs 0 = .inl k.1 | .inr r=>walk (rs s) bs 0 = .inr r.1):=by
 have h:=iter_rel (F:=lz8) (fun x=>x.2.2.1.length-x.2.2.2) (fun x=>x.1=bs/\0<=x.2.1/\x.2.1<=bs.length)
  (fun x y=>match y with | .inl k=>walk (rs (x.2.2.1.drop x.2.2.2)) (bs.drop x.2.1.toNat) x.2.1 = .inl k.1 | .inr r=>walk (rs (x.2.2.1.drop x.2.2.2)) (bs.drop x.2.1.toNat) x.2.1 = .inr r.1) ?_ (bs,0,s,0) ⟨rfl,by simp,by simp⟩ (by simp only;omega)
 .unfold lz9;simpa using h
 .intro back x hx hback;obtain⟨b,i,s,p⟩:=x;obtain⟨h1,h2,h3⟩:=hx;simp only at h1 h2 h3 hback;subst h1;obtain⟨i,rfl⟩:=Int.eq_ofNat_of_zero_le h2;unfold lz8;simp only[Int.toNat_natCast];by_cases hp:p<s.length
  .obtain⟨e1,e2⟩:=rs_at hp;rw[dT0 hp,azc,e1];by_cases hi:(i:Int)=b.length
   .rw[dT0 hi,azc];refine⟨_,rfl,?_⟩;simp only;rw[show b.drop i=[] from List.drop_eq_nil_of_le (by omega)];rfl
   .have hlt:i<b.length:=by omega
    have hix:idx b (i:Int)=some b[i]:=by simp[idx,hlt]
    rw[dF0 hi,azb,hix,aza,List.drop_eq_getElem_cons hlt];by_cases hr:((rune s p).1:Int)=b[i]
    .rw[dT0 hr,Bool.not_true,azb,azi (by omega) (by omega)];obtain⟨y,hy,hR⟩:=hback (b,(i:Int)+1,s,p+(rune s p).2) ⟨rfl,by simp only;omega,by simp only;omega⟩ (by simp only;omega);refine⟨y,hy,?_⟩;simp only at hR ⊢;rw[show((i:Int)+1).toNat=i+1 by omega]at hR;unfold walk;rw[if_pos hr];exact hR
    .rw[dF0 hr,Bool.not_false,azc,aza,cmpr_is,aza];refine⟨_,rfl,?_⟩;simp only;unfold walk;rw[if_neg hr]
  .rw[dF0 hp,azb];refine⟨_,rfl,?_⟩;simp only;rw[List.drop_eq_nil_of_le (by omega),pzz];cases b.drop i<;>rfl
theorem texts_is {a b:List UInt8}(ha:a.length<=3000)(hb:b.length<=3000):nz1 (a,b)=some (cmpL (rs a) (rs b)):=by
 unfold nz1;have hr:(bif b.length.ble 70368744177664 then some (ezz b b.length 0)else none)=some (rs b):=Jz1 (by omega);simp only;rw[hr,aza];have hl:=pzy b;obtain⟨y,hy,hR⟩:=texts_l1 (s:=a) (bs:=rs b) (by omega) (by omega);rw[hy,aza];have hw:=walk_is (rs a) (rs b) 0;cases y with
 | inl k =>
  simp only at hR;rw[hR]at hw;simp only at hw;simp only[osum,bzB,aza];rw[<-hw,Int.zero_add,cmpV_N]
 | inr r =>
  simp only at hR;rw[hR]at hw;simp only at hw;simp only[osum];rw[hw]
def vB:Val:=⟨0,⟨0,0⟩,[],false,0⟩
def vN (d:Dec):Val:=⟨1,d,[],false,0⟩
def vS (s:List UInt8):Val:=⟨2,⟨0,0⟩,s,false,0⟩
def vT (b:Bool):Val:=⟨3,⟨0,0⟩,[],b,0⟩
def vE (e:Int):Val:=⟨4,⟨0,0⟩,[],false,e⟩
def okV (v:Val):Prop:=v=vB\/(∃d,v=vN d/\okD d)\/(∃s,v=vS s/\Lib.validD s=true)\/(∃b,v=vT b)\/∃e,v=vE e
theorem bzw {α:Type}{b:Bool}{x y:Option α}(hx:∃n,x=some n)(hy:∃n,y=some n):∃n,brn b x y=some n:=by cases b<;>assumption
theorem name_is (e:Int):∃n,szU e=some n :=
 bzw ⟨_,rfl⟩ (bzw ⟨_,rfl⟩ (bzw ⟨_,rfl⟩ (bzw ⟨_,rfl⟩ (bzw ⟨_,rfl⟩ (bzw ⟨_,rfl⟩ (bzw ⟨_,rfl⟩ ⟨_,rfl⟩))))))
def key (v:Val):List Int:=v.Kind::(if v.Kind=1 then [V v.N]else if v.Kind=2 then rs v.S else if v.Kind=3 then [if v.B then 1 else 0]else [v.E])
def okW (v:Val):Prop:=okV v/\v.S.length<=3000/\I64 v.N.M
theorem bl_at:∀(k:Nat) (a b:List UInt8),(∀j,j<k->(a.getD j 0).toNat=(b.getD j 0).toNat)->k<a.length->k<b.length->(a.getD k 0).toNat<(b.getD k 0).toNat->Op.bytesLess a b=true/\Op.bytesLess b a=false
 | k,[],b,_,h,_,_=>by simp at h
 | k,a::x,[],_,_,h,_=>by simp at h
 | 0,a::x,b::y,_,_,_,hlt=>by
  simp only[List.getD_cons_zero]at hlt;have h1:a<b:=UInt8.lt_iff_toNat_lt.2 hlt;have h2:¬b<a:=fun h=>by have:=UInt8.lt_iff_toNat_lt.1 h;omega
  have h3:¬b=a:=fun h=>by subst h;omega
  simp[Op.bytesLess,h1,h2,h3]
 | k+1,a::x,b::y,he,hx,hy,hlt=>by
  have h0:=he 0 (by omega);simp only[List.getD_cons_zero]at h0;have hab:a=b:=UInt8.toNat_inj.1 h0;subst hab;simp only[List.getD_cons_succ]at hlt;have ih:=bl_at k x y (fun j hj=>by have:=he (j+1) (by omega);simpa only[List.getD_cons_succ]using this) (by simp at hx;omega) (by simp at hy;omega) hlt;have h2:¬a<a:=fun h=>by have:=UInt8.lt_iff_toNat_lt.1 h;omega
  simp[Op.bytesLess,h2,ih]
theorem Gzo:∀(p x y:List UInt8),Op.bytesLess (p++x) (p++y)=Op.bytesLess x y
 | [],_,_=>rfl
 | a::p,x,y=>by
  have h2:¬a<a:=fun h=>by have:=UInt8.lt_iff_toNat_lt.1 h;omega
  simp[Op.bytesLess,h2,Gzo p x y]
def good (l:List UInt8):Prop:=¬((decodeL l).1=65533/\(decodeL l).2=1)
theorem part_at {n n' c b1 b2 b3 c' d1 d2 d3:Nat}(hc:c<256)(hc':c'<256)
 (hg:¬((decodeN n c b1 b2 b3).1=65533/\(decodeN n c b1 b2 b3).2=1)) (hg':¬((decodeN n' c' d1 d2 d3).1=65533/\(decodeN n' c' d1 d2 d3).2=1)) (hlt:(decodeN n c b1 b2 b3).1<(decodeN n' c' d1 d2 d3).1) :
 c<c'\/(c=c'/\b1<d1/\1<n/\1<n')\/(c=c'/\b1=d1/\b2<d2/\2<n/\2<n')\/(c=c'/\b1=d1/\b2=d2/\b3<d3/\3<n/\3<n'):=by
 rcases decodeN_shape n c b1 b2 b3 with⟨p1,e⟩|⟨p1,p2,p3,p4,e⟩|⟨p1,p2,p3,p4,p5,p6,e⟩|⟨p1,p2,p3,p4,p5,p6,p7,e⟩|e
 all_goals rw[e]at hg hlt
 case inr.inr.inr.inr=>exact absurd ⟨rfl,rfl⟩ hg
 all_goals rcases decodeN_shape n' c' d1 d2 d3 with⟨q1,e'⟩|⟨q1,q2,q3,q4,e'⟩|⟨q1,q2,q3,q4,q5,q6,e'⟩|⟨q1,q2,q3,q4,q5,q6,q7,e'⟩|e'
 all_goals rw[e']at hg' hlt
 all_goals first
  | exact absurd ⟨rfl,rfl⟩ hg'
  | (simp only at hlt;clear hg hg' e e';omega)
theorem rune_lt {a b:List UInt8}(ha:a≠[])(hb:b≠[])(ga:good a)(gb:good b)(hlt:(decodeL a).1<(decodeL b).1):Op.bytesLess a b=true/\Op.bytesLess b a=false:=by
 unfold good at ga gb;rw[decodeL_N]at ga gb hlt;rw[decodeL_N b]at hlt;have la:0<a.length:=List.length_pos_iff.2 ha;have lb:0<b.length:=List.length_pos_iff.2 hb;rcases part_at (a.getD 0 0).toNat_lt (b.getD 0 0).toNat_lt ga gb hlt with h|⟨h0,h,n1,n2⟩|⟨h0,h1,h,n1,n2⟩|⟨h0,h1,h2,h,n1,n2⟩
 .exact bl_at 0 a b (fun j hj=>by omega) la lb h
 .exact bl_at 1 a b (fun j hj=>by
   have:j=0:=by omega
   subst this;exact h0) n1 n2 h
 .exact bl_at 2 a b (fun j hj=>by
   have:j=0\/j=1:=by omega
   rcases this with rfl|rfl
   .exact h0
   .exact h1) n1 n2 h
 .exact bl_at 3 a b (fun j hj=>by
   have:j=0\/j=1\/j=2:=by omega
   rcases this with rfl|rfl|rfl
   .exact h0
   .exact h1
   .exact h2) n1 n2 h
theorem wzO:∀a:List UInt8,Op.bytesLess a a=false
 | []=>rfl
 | a::l=>by
  have h2:¬a<a:=fun h=>by have:=UInt8.lt_iff_toNat_lt.1 h;omega
  simp[Op.bytesLess,h2,wzO l]
theorem Jzs:∀(n:Nat) (a b:List UInt8),a.length<=n->validD a=true->validD b=true->cmpL (rs a) (rs b)=if a=b then 0 else if sLt a b=true then -1 else 1
 | n,[],[],_,_,_=>by simp[pzz,cmpL]
 | n,[],c::b,_,_,_=>by rw[pzz,fzx (by simp)];simp[cmpL,sLt,Op.bytesLess]
 | n,c::a,[],_,_,_=>by rw[pzz,fzx (by simp)];simp[cmpL,sLt,Op.bytesLess]
 | 0,c::a,d::b,h,_,_=>by simp at h
 | n+1,c::a,d::b,hn,ha,hb=>by
  have na:c::a≠[]:=by simp
  have nb:d::b≠[]:=by simp
  generalize hA:c::a=A at *;generalize hB:d::b=B at *;rw[validD_step A na]at ha;rw[validD_step B nb]at hb;have ga:good A:=fun h=>by rw[if_pos h]at ha;cases ha
  have gb:good B:=fun h=>by rw[if_pos h]at hb;cases hb
  rw[if_neg ga]at ha;rw[if_neg gb]at hb;rw[fzx na,fzx nb]
  show(if _ then _ else _)=_
  have wa:=decodeL_width A;have la:0<A.length:=List.length_pos_iff.2 na;by_cases he:(decodeL A).1=(decodeL B).1
  .have e1:=encode_decode A na ga;have e2:=encode_decode B nb gb;rw[he,e2]at e1;have ih:=Jzs n (A.drop (decodeL A).2) (B.drop (decodeL B).2) (by rw[List.length_drop];omega) ha hb;rw[if_pos (by rw[he]),ih];have a1:=List.take_append_drop (decodeL A).2 A;have b1:=List.take_append_drop (decodeL B).2 B;rw[e1]at b1;unfold sLt;have e3:Op.bytesLess A B=Op.bytesLess (A.drop (decodeL A).2) (B.drop (decodeL B).2):=by
    conv=>lhs;rw[<-a1,<-b1]
    exact Gzo _ _ _
   have e4:A=B↔A.drop (decodeL A).2=B.drop (decodeL B).2:=by
    constructor
    .intro h;rw[<-a1,<-b1]at h;exact List.append_cancel_left h
    .intro h;rw[<-a1,<-b1,h]
   rw[e3];simp only[e4]
  .rw[if_neg (by omega)];rcases Nat.lt_or_ge (decodeL A).1 (decodeL B).1 with hlt|hge
   .obtain⟨h1,h2⟩:=rune_lt na nb ga gb hlt;rw[if_neg (fun h=>by rw[h,wzO]at h1;cases h1),if_pos (show sLt A B=true from h1)];unfold cmpN;rw[if_pos (by omega)]
   .obtain⟨h1,h2⟩:=rune_lt nb na gb ga (by omega);rw[if_neg (fun h=>by rw[h,wzO]at h1;cases h1)];unfold sLt;rw[h2,if_neg (by simp)];unfold cmpN;rw[if_neg (by omega),if_pos (by omega)]
set_option linter.unusedSimpArgs false
def CzU (x:Dec):Option (Int):=brn (decide (x.S<0)) (some 1) (brn (decide (9<x.S)) (some 1) (brn (decide (0<x.S)) (brn (decide (x.M.tmod 10=0)) (some 1) (some 0)) (some 0)))
def mzG (x:Val):Option (Val):=brn (decide (x.Kind=1)) (some {Kind:=1,N:=x.N,S:=[],B:=false,E:=0}) (brn (decide (x.Kind=2)) (some {Kind:=2,N:={M:=0,S:=0},S:=x.S,B:=false,E:=0}) (brn (decide (x.Kind=3)) (some {Kind:=3,N:={M:=0,S:=0},S:=[],B:=x.B,E:=0}) (brn (decide (x.Kind=4)) (obnd (azm x.E) fun y=>some y) (some {Kind:=x.Kind,N:={M:=0,S:=0},S:=[],B:=false,E:=0}))))
def nzY (x:Val):Option (Int):=brn (decide (x.Kind<0)) (some 1) (brn (decide (4<x.Kind)) (some 1) (obnd (mzG x) fun y=>brn (bif true then !(decide (x.Kind=y.Kind)&&(decide (x.N.M=y.N.M)&&(decide (x.N.S=y.N.S)&&(decide (x.S=y.S)&&(decide (x.B=y.B)&&decide (x.E=y.E))))))else decide (x.Kind=y.Kind)&&(decide (x.N.M=y.N.M)&&(decide (x.N.S=y.N.S)&&(decide (x.S=y.S)&&(decide (x.B=y.B)&&decide (x.E=y.E)))))) (some 1) (brn (decide (x.Kind=1)) (obnd (CzU x.N) fun y=>some y) (brn (decide (x.Kind=2)) (obnd (izZ x.S) fun y=>some y.2) (brn (decide (x.Kind=4)) (obnd (szU x.E) fun y=>brn (decide (y=[])) (some 1) (some 0)) (some 0))))))
theorem qzW {x:Val}(hl:x.S.length<=3000):∃e,nzY x=some e/\czx x=some e/\(e=0->okV x):=by
 obtain⟨K,⟨M,S⟩,s,B,E⟩:=x;simp only at hl;unfold nzY czx;simp only;by_cases k0:K<0
 .exact⟨1,by simp[k0],by simp[k0],by omega⟩
 by_cases k4:4<K
 .exact⟨1,by simp[k0,k4],by simp[k0,k4],by omega⟩
 rw[dF0 k0,dF0 k4];simp only[azb];have hK:K=0\/K=1\/K=2\/K=3\/K=4:=by omega
 have hun:=qzR (x:=s) (by omega);have hru:=lzH (x:=s) (by omega);obtain⟨n,hn⟩:=name_is E;have hn':hzY E=some n:=hn;rcases hK with rfl|rfl|rfl|rfl|rfl
 .unfold mzG czI;by_cases hM:M=0<;>by_cases hS:S=0<;>by_cases hs:s=[]<;>cases B<;>by_cases hE:E=0<;>simp[hM,hS,hs,hE,okV,vB]
 .unfold mzG czI;have hc:CzU ⟨M,S⟩=fzu ⟨M,S⟩:=rfl;rcases Kzn ⟨M,S⟩with⟨h1,h2⟩|⟨e,h1,h2⟩
  .by_cases hs:s=[]<;>cases B<;>by_cases hE:E=0<;>simp[hs,hE,hc,h1,okV,vB,vN,vS,vT,vE,h2]
  .by_cases hs:s=[]<;>cases B<;>by_cases hE:E=0<;>simp[hs,hE,hc,h1,h2]
 .unfold mzG czI;by_cases hM:M=0<;>by_cases hS:S=0<;>cases B<;>by_cases hE:E=0<;>simp[hM,hS,hE,hun,hru,okV,vB,vN,vS,vT,vE];unfold az5;cases hv:validD s with
  | true=>simp
  | false=>simp
 .unfold mzG czI;by_cases hM:M=0<;>by_cases hS:S=0<;>by_cases hs:s=[]<;>cases B<;>by_cases hE:E=0<;>simp[hM,hS,hs,hE,okV,vB,vN,vS,vT,vE]
 .unfold mzG czI azm;by_cases hn0:n=[]<;>by_cases hM:M=0<;>by_cases hS:S=0<;>by_cases hs:s=[]<;>cases B<;>simp[hM,hS,hs,hn,hn',hn0,okV,vB,vN,vS,vT,vE]
theorem number_eq {a:Val}(h:okV a)(hl:a.S.length<=3000):∃r,bzd a=some r/\azX a=some r:=by
 rcases h with rfl|⟨d,rfl,hd⟩|⟨s,rfl,hs⟩|⟨t,rfl⟩|⟨e,rfl⟩
 .exact⟨_,rfl,rfl⟩
 .exact⟨_,rfl,rfl⟩
 .have hl:s.length<=3000:=hl;unfold bzd azX vS azm azg;simp[BzC (x:=s) (by omega),Lze (x:=s) (by omega)];by_cases h:(fzl s).2=0<;>simp[h]
 .cases t<;>exact⟨_,rfl,rfl⟩
 .exact⟨_,rfl,rfl⟩
theorem text_eq {a:Val}(h:okV a)(hm:I64 a.N.M):∃r,dz7 a=some r/\dzs a=some r:=by
 rcases h with rfl|⟨d,rfl,hd⟩|⟨s,rfl,hs⟩|⟨t,rfl⟩|⟨e,rfl⟩
 .exact⟨_,rfl,rfl⟩
 .obtain⟨M,S⟩:=d;have hm':I64 M:=hm;obtain⟨s,rfl⟩:=Int.eq_ofNat_of_zero_le hd.1;have hs:s<=9:=by have:=hd.2.1;simp only at this;omega
  have e1:=qzl hm' hs;have e2:=MzD hm' hs;unfold dz7 dzs vN;exact⟨fzF M s,by simp[e1],by simp[e2]⟩
 .exact⟨_,rfl,rfl⟩
 .cases t<;>exact⟨_,rfl,rfl⟩
 .obtain⟨n,hn⟩:=name_is e;have hn':hzY e=some n:=hn;unfold dz7 dzs vE;exact⟨n,by simp[hn],by simp[hn']⟩
theorem words_eq {a:Val}(h:okV a)(hm:I64 a.N.M):∃r,dzT a=some r/\czo a=some r:=by
 obtain⟨r,h1,h2⟩:=text_eq h hm;unfold dzT czo;rw[h1,h2];by_cases h4:a.Kind=4
 .exact⟨([],a,false),by simp[h4],by simp[h4]⟩
 .exact⟨(r,⟨0,⟨0,0⟩,[],false,0⟩,true),by simp[h4],by simp[h4]⟩
theorem truth_eq {a:Val}(h:okV a):∃r,czl a=some r/\czK a=some r:=by
 rcases h with rfl|⟨d,rfl,hd⟩|⟨s,rfl,hs⟩|⟨t,rfl⟩|⟨e,rfl⟩
 .exact⟨_,rfl,rfl⟩
 .exact⟨_,rfl,rfl⟩
 .unfold czl czK vS azm azg;by_cases h1:s=[84,82,85,69]
  .simp[h1]
  .by_cases h2:s=U8s [70,65,76,83,69]<;>simp[h1,h2]
 .exact⟨_,rfl,rfl⟩
 .exact⟨_,rfl,rfl⟩
theorem yzs {d d':Dec}(h:okD d)(h':okD d')(m:I64 d.M)(m':I64 d'.M):dzF (d,d')=some (cmpV (V d) (V d'))/\czM (d,d')=some (cmpV (V d) (V d')):=by
 refine⟨Lzs m m' h.1 h.2.1 h'.1 h'.2.1,?_⟩;obtain⟨M,S⟩:=d;obtain⟨N,T⟩:=d';obtain⟨s,rfl⟩:=Int.eq_ofNat_of_zero_le h.1;obtain⟨t,rfl⟩:=Int.eq_ofNat_of_zero_le h'.1;have hs:=h.2.1;have ht:=h'.2.1;simp only at hs ht m m';exact Hz3 m m' (by omega) (by omega)
theorem Fzb {s t:List UInt8}(hs:s.length<=3000)(ht:t.length<=3000)(vs:validD s=true)(vt:validD t=true):∃n,nz1 (s,t)=some n/\brn (!decide (s=t)) (brn (sLt s t) (some (-1)) (some 1)) (some 0)=some n:=by
 refine⟨_,texts_is hs ht,?_⟩;rw[Jzs s.length s t (Nat.le_refl _) vs vt];by_cases h:s=t
 .simp[h]
 .cases hlt:sLt s t<;>simp[h]
theorem cze (e e':Int):brn (!decide (e=e')) (brn (decide (e<e')) (some (-1:Int)) (some 1)) (some 0)=some (cmpV e e'):=by
 unfold cmpV;by_cases h:e=e'
 .simp[h]
 .by_cases h2:e<e'
  .simp[h,h2]
  .have:e'<e:=by omega
   simp[h,h2,this]
theorem ok0:okD ⟨0,0⟩:=⟨by simp,by simp,fun h=>by simp at h⟩
theorem I0:I64 0:=by unfold I64;omega
theorem Lzw {a b:Val}(ha:okV a)(hb:okV b)(la:a.S.length<=3000)(lb:b.S.length<=3000)(ma:I64 a.N.M)(mb:I64 b.N.M):∃r,azK (a,b)=some r/\azv (a,b)=some r:=by
 rcases ha with rfl|⟨d,rfl,hd⟩|⟨s,rfl,hs⟩|⟨t,rfl⟩|⟨e,rfl⟩
 .rcases hb with rfl|⟨d',rfl,hd'⟩|⟨s',rfl,hs'⟩|⟨t',rfl⟩|⟨e',rfl⟩
  .unfold azK azE azx azv bzg;simp[vB,vN,vS,vT,vE,bzB,cmpV,osum,azP,cze]
  .obtain⟨c1,c2⟩:=yzs ok0 hd' I0 mb;unfold azK azE azx azv bzg;simp[c1,c2,vB,vN,vS,vT,vE,bzB,cmpV,osum,azP,cze]
  .obtain⟨n,c1,c2⟩:=Fzb (s:=[]) (t:=s') (by simp) lb (by rfl) hs';rw[show decide (([]:List UInt8)=s')=decide (s'=[]) from by rw[decide_eq_decide];exact eq_comm]at c2;unfold azK azE azx azv bzg;simp[c1,c2,vB,vN,vS,vT,vE,bzB,cmpV,osum,azP,cze]
  .cases t'<;>exact⟨_,rfl,rfl⟩
  .unfold azK azE azx azv bzg;simp[vB,vN,vS,vT,vE,bzB,cmpV,osum,azP,cze]
 .rcases hb with rfl|⟨d',rfl,hd'⟩|⟨s',rfl,hs'⟩|⟨t',rfl⟩|⟨e',rfl⟩
  .obtain⟨c1,c2⟩:=yzs hd ok0 ma I0;unfold azK azE azx azv bzg;simp[c1,c2,vB,vN,vS,vT,vE,bzB,cmpV,osum,azP,cze]
  .obtain⟨c1,c2⟩:=yzs hd hd' ma mb;unfold azK azE azx azv bzg;simp[c1,c2,vB,vN,vS,vT,vE,bzB,cmpV,osum,azP,cze]
  .unfold azK azE azx azv bzg;simp[vB,vN,vS,vT,vE,bzB,cmpV,osum,azP,cze]
  .unfold azK azE azx azv bzg;simp[vB,vN,vS,vT,vE,bzB,cmpV,osum,azP,cze]
  .unfold azK azE azx azv bzg;simp[vB,vN,vS,vT,vE,bzB,cmpV,osum,azP,cze]
 .rcases hb with rfl|⟨d',rfl,hd'⟩|⟨s',rfl,hs'⟩|⟨t',rfl⟩|⟨e',rfl⟩
  .obtain⟨n,c1,c2⟩:=Fzb (s:=s) (t:=[]) la (by simp) hs (by rfl);unfold azK azE azx azv bzg;simp[c1,c2,vB,vN,vS,vT,vE,bzB,cmpV,osum,azP,cze]
  .unfold azK azE azx azv bzg;simp[vB,vN,vS,vT,vE,bzB,cmpV,osum,azP,cze]
  .obtain⟨n,c1,c2⟩:=Fzb (s:=s) (t:=s') la lb hs hs';unfold azK azE azx azv bzg;simp[c1,c2,vB,vN,vS,vT,vE,bzB,cmpV,osum,azP,cze]
  .unfold azK azE azx azv bzg;simp[vB,vN,vS,vT,vE,bzB,cmpV,osum,azP,cze]
  .unfold azK azE azx azv bzg;simp[vB,vN,vS,vT,vE,bzB,cmpV,osum,azP,cze]
 .rcases hb with rfl|⟨d',rfl,hd'⟩|⟨s',rfl,hs'⟩|⟨t',rfl⟩|⟨e',rfl⟩
  .cases t<;>exact⟨_,rfl,rfl⟩
  .unfold azK azE azx azv bzg;simp[vB,vN,vS,vT,vE,bzB,cmpV,osum,azP,cze]
  .unfold azK azE azx azv bzg;simp[vB,vN,vS,vT,vE,bzB,cmpV,osum,azP,cze]
  .cases t<;>cases t'<;>exact⟨_,rfl,rfl⟩
  .unfold azK azE azx azv bzg;simp[vB,vN,vS,vT,vE,bzB,cmpV,osum,azP,cze]
 .rcases hb with rfl|⟨d',rfl,hd'⟩|⟨s',rfl,hs'⟩|⟨t',rfl⟩|⟨e',rfl⟩
  .unfold azK azE azx azv bzg;simp[vB,vN,vS,vT,vE,bzB,cmpV,osum,azP,cze]
  .unfold azK azE azx azv bzg;simp[vB,vN,vS,vT,vE,bzB,cmpV,osum,azP,cze]
  .unfold azK azE azx azv bzg;simp[vB,vN,vS,vT,vE,bzB,cmpV,osum,azP,cze]
  .unfold azK azE azx azv bzg;simp[vB,vN,vS,vT,vE,bzB,cmpV,osum,azP,cze]
  .unfold azK azE azx azv bzg;simp[vB,vN,vS,vT,vE,bzB,cmpV,osum,azP,cze]
def azo {A S Y:Type}(step:S->A->S⊕Y)(fin:S->Y):S->List A->Y
 | s,[]=>fin s
 | s,a::l=>match step s a with
  | .inl s'=>azo step fin s' l
  | .inr y=>y
def jzM {S Y Z:Type}(b:S->Option Z)(g:Y->Z):S⊕Y->Option Z
 | .inl s=>b s
 | .inr y=>some (g y)
theorem azC {A S X Y Z:Type}{F:(X->Option Z)->X->Option Z}(mk:S->Nat->X)(g:Y->Z)(l:List A)(step:S->A->S⊕Y)(fin:S->Y)(Pre:S->Nat->Prop)
 (hl:l.length<=1000000000)
 (h:∀back s i (hi:i<l.length),Pre s i->F back (mk s i)=jzM (fun s'=>back (mk s' (i+1))) g (step s l[i]))
 (hp:∀s i (hi:i<l.length) s',Pre s i->step s l[i] = .inl s'->Pre s' (i+1))
 (hend:∀back s,Pre s l.length->F back (mk s l.length)=some (g (fin s))) (s:S) (h0:Pre s 0):iter F big (mk s 0)=some (g (azo step fin s l)):=by
 have key:∀k n i s,i+k=l.length->k<n->Pre s i->iter F n (mk s i)=some (g (azo step fin s (l.drop i))):=by
  intro k;induction k with
  | zero =>
   intro n i s hi hn hs;obtain⟨m,rfl⟩:∃m,n=m+1:=⟨n-1,by omega⟩;have:i=l.length:=by omega
   subst this;rw[azF,hend _ _ hs,List.drop_length];rfl
  | succ k ih =>
   intro n i s hi hn hs;obtain⟨m,rfl⟩:∃m,n=m+1:=⟨n-1,by omega⟩;have hlt:i<l.length:=by omega
   rw[azF,h _ _ _ hlt hs,List.drop_eq_getElem_cons hlt];simp only[azo];cases hst:step s l[i]with
   | inl s'=>exact ih m (i+1) s' (by omega) (by omega) (hp _ _ hlt _ hs hst)
   | inr y=>rfl
 have:=key l.length big 0 s (by omega) (by rw[czd];omega) h0;simpa using this
theorem jz7 {A X Z:Type}{F:(X->Option Z)->X->Option Z}(mk:Nat->X)(g:Option Nat->Z)(l:List A)(p:A->Bool)(hl:l.length<=1000000000)
 (h:∀back i (hi:i<l.length),F back (mk i)=bif p l[i]then some (g (some i))else back (mk (i+1)))
 (hend:∀back,F back (mk l.length)=some (g none)):iter F big (mk 0)=some (g (l.findIdx? p)):=by
 have key:∀k n i,i+k=l.length->k<n->iter F n (mk i)=some (g (((l.drop i).findIdx? p).map (·+i))):=by
  intro k;induction k with
  | zero =>
   intro n i hi hn;obtain⟨m,rfl⟩:∃m,n=m+1:=⟨n-1,by omega⟩;have:i=l.length:=by omega
   subst this;rw[azF,hend,List.drop_length];rfl
  | succ k ih =>
   intro n i hi hn;obtain⟨m,rfl⟩:∃m,n=m+1:=⟨n-1,by omega⟩;have hlt:i<l.length:=by omega
   rw[azF,h _ _ hlt,List.drop_eq_getElem_cons hlt,List.findIdx?_cons];cases hpl:p l[i]with
   | true=>simp
   | false =>
    simp only[cond_false];rw[ih m (i+1) (by omega) (by omega)];simp only[Bool.false_eq_true,if_false,Option.map_map];congr 3;funext j;simp only[Function.comp];omega
 have:=key l.length big 0 (by omega) (by rw[czd];omega);simpa using this
theorem idxG {A:Type}{l:List A}{i:Nat}(hi:i<l.length):idx l (i:Int)=some l[i]:=by simp[idx,hi]
theorem idxZ {A:Type}{a:A}{l:List A}:idx (a::l) 0=some a:=rfl
theorem wr1 {i:Nat}(h:i<1000000000):i64.wrap ((i:Int)+1)=((i+1:Nat):Int):=by
 simp[IntKind.wrap,IntKind.bits,IntKind.signed];omega
theorem ltT {i n:Nat}(h:i<n):decide ((i:Int)<(n:Int))=true:=dT0 (by omega)
theorem ltF {n:Nat}:decide ((n:Int)<(n:Int))=false:=dF0 (by omega)
theorem lzw {A:Type}(p:A->Bool)(l:List A):(l.findIdx? p).isSome=l.any p:=by
 simp[List.findIdx?_isSome]
end Go.Proofs.YtmkmofdnmllioaaGreatDoor
/- W1 -/
namespace Go.Ev
open Go Go.Proofs Go.Shelf Go.RowKit
open Go.IntKind (i64 u64 u8 i32 u32 i16 u16)
variable {P:Program} {ρ:Ren} {tb:Tab}
abbrev bldPat (T:Nat):Pat:=.box (1048576*(T+1)+2)
theorem bldPat_n (T:Nat):bldB (1048576*(T+1)+2)=true/\boxN (1048576*(T+1)+2)=2/\boxT (1048576*(T+1)+2)=T:=by
 refine⟨?_,?_,?_⟩
 .unfold bldB;exact Nat.ble_eq_true_of_le (by omega)
 .unfold boxN;omega
 .unfold boxT;omega
def dzE (tb:Tab)(T tu:Nat):FSpec tb:=⟨[(8589934592,.own tu),(0,bldPat T)],[(8589967360,.own tu)],fun x=>some (x.1,())⟩
theorem CzQ {tu:Nat}(L:Lays.n240 P ρ)(X:Builder.X72 P ρ):bzU P tb (ρ.f 240) (dzE tb (ρ.t 72) tu):=by
 intro g w x vs bs y hy _ hat hh hnd;obtain⟨xs,x2⟩:=x;have hy:some ((xs,()):List (tb.T tu)×Unit)=some y:=hy;injection hy with hy;subst hy;cases vs with
 | nil=>exact hh.elim
 | cons vb vs =>
 cases bs with
 | nil=>exact hh.elim
 | cons b0 bs =>
 obtain⟨⟨hrb,hown⟩,hh⟩:=hh;cases vs with
 | nil=>exact hh.elim
 | cons v vs =>
 cases vs with
 | cons _ _=>cases bs<;>exact hh.elim
 | nil =>
 cases bs with
 | nil=>exact hh.elim
 | cons b bs =>
 cases bs with
 | cons _ _=>exact hh.elim
 | nil =>
 obtain⟨k,rfl,rfl,hk,hg,us,el,fz,h1,h2,h3,h4,h5⟩:=hh;obtain⟨n1,n2,n3⟩:=bldPat_n (ρ.t 72);obtain⟨h6,u,h7,h8⟩:=h5 n1;rw[n3]at h6;rw[n2]at h3;obtain⟨hat1,_,_⟩:=hat
 have hr:azB (dzE tb (ρ.t 72) tu).ins [vb,Value.pointer (some ⟨k,0,none⟩)]=[.pointer (some ⟨k,0,none⟩)]:=rfl;have hvb:us[1]?=some vb:=by
  rw[hr]at hat1;unfold vval at hat1;rw[if_neg (show ¬(8589934592:Nat)<4294967296 by decide)]at hat1;simpa[h1]using hat1
 have c0:w.cell? ⟨k,0,none⟩=some u:=by simp[World.cell?,h1,<-Array.getElem?_toList,h7]
 have hent:∀args w,(callFunc (ρ.f 240) args).run P w = .ok (.enter (ρ.f 240) args) w:=Go.Proofs.enters_of L.f240 (by kernel_rfl) rfl;refine .inl ⟨hent _ _,?_⟩
 show Calls P (ρ.f 240) #[.pointer (some ⟨k,0,none⟩)] w _
 have hb0:∀q,b0=some q->q≠k/\q<w.heap.size:=fun q hq=>by
  rcases hown with⟨_,h,_⟩|⟨q',off,cap,cells,el2,fz2,e1,_,e3,e4,_⟩
  .rw[hq]at h;cases h
  .rw[hq]at e1;injection e1 with e1;subst e1;exact⟨fun e=>(by subst e;rw[hg]at e3;cases e3),(Array.getElem?_eq_some_iff.1 e4).1⟩
 have fin:∀w' us',Ext g w g w' (fun b=>b=k)->w'.heap[k]?=some (.cells us' el fz)->us'[1]?=some vb->uzd w' (1048576*(ρ.t 72+1)+2) k->∃v us cs g',(Ending.returned (.tuple #[])) = .returned v/\RetV (azD (dzE tb (ρ.t 72) tu).outs) (azB (dzE tb (ρ.t 72) tu).outs us) v /\
  At w' (dzx (azB (dzE tb (ρ.t 72) tu).outs us) (azB (dzE tb (ρ.t 72) tu).ins [vb,Value.pointer (some ⟨k,0,none⟩)])) (dzE tb (ρ.t 72) tu).outs us /\
  Left P tb g w (dzE tb (ρ.t 72) tu).ins (dzE tb (ρ.t 72) tu).outs [vb,Value.pointer (some ⟨k,0,none⟩)] [b0,some k] (xs,()) us cs g' w':=fun w' us' he hw1 hu1 hb=>by
  have hk':Keeps g w g w':=he.keeps;have hown':uzf P g w' b0 tu xs.length vb:=by
   rcases hown with⟨e1,e2,e3⟩|⟨q',off,cap,cells,el2,fz2,e1,e2,e3,e4,e5⟩
   .exact .inl ⟨e1,e2,e3⟩
   .obtain⟨hne,hlt⟩:=hb0 _ e1;exact .inr ⟨q',off,cap,cells,el2,fz2,e1,e2,e3,((he.keep _ hlt hne).1).trans e4,e5⟩
  refine⟨.tuple #[],[vb],[b0],g,rfl,rfl,⟨?_,trivial⟩,he.mono fun b _ e=>?_,⟨hrb.mono hk',hown'⟩,⟨k,rfl,rfl,Nat.lt_of_lt_of_le hk he.size,hg,hb⟩,?_,fun q hq=>?_⟩
  .show vval w' _ 8589967360=some vb
   unfold vval;rw[if_neg (show ¬(8589967360:Nat)<4294967296 by decide),show dzx (azB (dzE tb (ρ.t 72) tu).outs [vb]) (azB (dzE tb (ρ.t 72) tu).ins [vb,Value.pointer (some ⟨k,0,none⟩)]) (8589967360%4294967296)=some (.pointer (some ⟨k,0,none⟩)) from rfl];simp only[hw1];exact hu1
  .show b∈b0.toList++([k]++[])
   simp[e]
  .unfold azj;cases b0<;>simp
  .have hq':b0=some q:=by
    unfold azj at hq;cases b0 with
    | none=>simp at hq
    | some q'=>simp at hq;rw[hq]
   refine⟨.inr ?_,?_⟩
   .show q∈b0.toList++([k]++[])
    simp[hq']
   .show q ∉ azj [some k]
    simpa[azj]using(hb0 q hq').1
 rcases h8 with rfl|rfl
 .have hsh:w.shape? k=some (ρ.t 72,2):=by simp[World.shape?,h1,h6,h3]
  have hfz:w.frozen? ⟨k,0,none⟩=false:=by
   have:=h2 0 (by omega);simp only[World.frozen?,h1];simpa using this
  refine(Any.Builder_copyCheck_fresh L X k w c0 hsh hfz).mono ?_;rintro r w' ⟨rfl,rfl⟩;have hset:(w.setCell ⟨k,0,none⟩ (.pointer (some ⟨k,0,none⟩))).heap[k]?=some (.cells (us.setIfInBounds 0 (.pointer (some ⟨k,0,none⟩))) el fz):=by
   simp only[World.setCell,Array.getElem?_modify,h1,if_true,Option.map_some];rfl
  have hone:OneBlock w (w.setCell ⟨k,0,none⟩ (.pointer (some ⟨k,0,none⟩))) k (.cells (us.setIfInBounds 0 (.pointer (some ⟨k,0,none⟩))) el fz) :=
   ⟨rfl,rfl,rfl,by simp[World.setCell],hset,fun b hb=>Below.heap_setCell _ _ _ _ (fun e=>hb e)⟩
  refine fin _ _ (Ext.var1 hone hg fun us2 T fz2 e=>?_) hset (by rw[Array.getElem?_setIfInBounds_ne (by decide)];exact hvb) ⟨_,el,fz,hset,fun j hj=>h2 j (by simpa using hj),by simpa[n2]using h3,fun v hv=>?_,fun _=>⟨by rw[n3];exact h6,.pointer (some ⟨k,0,none⟩),?_,.inr rfl⟩⟩
  .rw[h1]at e;injection e with e;injection e with e1 e2 _;exact⟨_,fz,by rw[e2],by simp[e1]⟩
  .rw[Array.toList_setIfInBounds]at hv;rcases List.mem_or_eq_of_mem_set hv with hv|rfl
   .exact h4 v hv
   .rfl
  .rw[Array.toList_setIfInBounds,List.getElem?_set_self (by simp;omega)]
 .refine(Any.Builder_copyCheck_used L X k w c0).mono ?_;rintro r w' ⟨rfl,rfl⟩;exact fin _ us (Ext.refl g w' _) h1 hvb ⟨us,el,fz,h1,h2,by rw[n2];exact h3,h4,h5⟩
section
variable {w:World}
set_option maxHeartbeats 2000000 in
theorem Hze (L:Lays.n169 P ρ)(X:Builder.Extra P ρ)(b:Nat)(c0:w.cell? ⟨b,1,none⟩=some (.slice none 0 0)):
 Calls P (ρ.f 169) #[.pointer (some ⟨b,0,none⟩)] w fun e w'=>e = .returned (.string ⟨#[]⟩)/\w'=w.drew:=by
 have hUS:=Any.unsafeString_none L X;have c1:w.drew.cell? ⟨b,1,none⟩=some (.slice none 0 0):=c0;have hSD:(Builtin.unsafeSliceData_ #[(ρ.t 37)] (ρ.t 127) #[.slice none 0 0]).run P w.drew = .ok (.pointer none) w.drew:=rfl;have mixed:=L.mixed;have t72:=L.t72;have a72:=L.a72;have z72:=L.z72;have v72:=L.v72;have u72:=run_underlying L.t72;have t70:=L.t70;have a70:=L.a70;have z70:=L.z70;have v70:=L.v70;have u70:=run_underlying L.t70;have t37:=L.t37;have a37:=L.a37;have z37:=L.z37;have v37:=L.v37;have u37:=run_underlying L.t37;have t127:=L.t127;have a127:=L.a127;have z127:=L.z127;have v127:=L.v127;have u127:=run_underlying L.t127;have t3:=L.t3;have a3:=L.a3;have z3:=L.z3;have v3:=L.v3;have u3:=run_underlying L.t3;have t9:=L.t9;have a9:=L.a9;have z9:=L.z9;have v9:=L.v9;have u9:=run_underlying L.t9;have t5:=X.t5;have a5:=X.a5;have z5:=X.z5;have v5:=X.v5;have u5:=run_underlying X.t5
 go_enter L.f169,Body.n169_ntmps ρ
 go_wp2
 go_region_o
 all_goals (go_wp2;go_ret;exact⟨rfl,rfl⟩)
set_option maxHeartbeats 2000000 in
theorem AzI (L:Lays.n169 P ρ)(X:Builder.Extra P ρ)(b g:Nat)(hb:b<w.heap.size)(c0:w.cell? ⟨b,1,none⟩=some (.slice (some ⟨g,0,none⟩) 0 0)){cur:Array Value}{fz:Nat×Nat}(hg:w.heap[g]?=some (.cells cur (ρ.t 5) fz)):
 Calls P (ρ.f 169) #[.pointer (some ⟨b,0,none⟩)] w fun e w'=>e = .returned (.string ⟨#[]⟩)/\w'=(w.alloc (.view ⟨g,0,none⟩ (ρ.t 5))).drew:=by
 have hUS:=Any.unsafeString_none L X;have c1:w.drew.cell? ⟨b,1,none⟩=some (.slice (some ⟨g,0,none⟩) 0 0):=c0;have hSD:(Builtin.unsafeSliceData_ #[(ρ.t 37)] (ρ.t 127) #[.slice (some ⟨g,0,none⟩) 0 0]).run P w.drew = .ok (.pointer (some ⟨w.drew.heap.size,0,none⟩)) (w.drew.alloc (.view ⟨g,0,none⟩ (ρ.t 5))) :=
  Lib.run_unsafeSliceData_zero w.drew _ _ (ρ.t 5) L.t127 ⟨g,0,none⟩ 0 ((ρ.t 5),cur.size) (by have hg':w.drew.heap[g]?=some (.cells cur (ρ.t 5) fz):=hg;simp[World.shape?,hg'])
 have c2:(w.drew.alloc (.view ⟨g,0,none⟩ (ρ.t 5))).cell? ⟨b,1,none⟩=some (.slice (some ⟨g,0,none⟩) 0 0):=by
  rw[<-c1];exact bzE (Lib.alloc_old w.drew _ b hb)
 have c3:(w.alloc (.view ⟨g,0,none⟩ (ρ.t 5))).drew.cell? ⟨b,1,none⟩=some (.slice (some ⟨g,0,none⟩) 0 0):=c2;have mixed:=L.mixed;have t72:=L.t72;have a72:=L.a72;have z72:=L.z72;have v72:=L.v72;have u72:=run_underlying L.t72;have t70:=L.t70;have a70:=L.a70;have z70:=L.z70;have v70:=L.v70;have u70:=run_underlying L.t70;have t37:=L.t37;have a37:=L.a37;have z37:=L.z37;have v37:=L.v37;have u37:=run_underlying L.t37;have t127:=L.t127;have a127:=L.a127;have z127:=L.z127;have v127:=L.v127;have u127:=run_underlying L.t127;have t3:=L.t3;have a3:=L.a3;have z3:=L.z3;have v3:=L.v3;have u3:=run_underlying L.t3;have t9:=L.t9;have a9:=L.a9;have z9:=L.z9;have v9:=L.v9;have u9:=run_underlying L.t9;have t5:=X.t5;have a5:=X.a5;have z5:=X.z5;have v5:=X.v5;have u5:=run_underlying X.t5
 go_enter L.f169,Body.n169_ntmps ρ
 go_wp2
 go_region_o
 all_goals (go_wp2;go_ret;exact⟨rfl,rfl⟩)
set_option maxHeartbeats 2000000 in
theorem Ez6 (L:Lays.n169 P ρ)(X:Builder.Extra P ρ)(b g cap:Nat)(hc0:cap≠0)(c0:w.cell? ⟨b,1,none⟩=some (.slice (some ⟨g,0,none⟩) 0 cap)):
 Calls P (ρ.f 169) #[.pointer (some ⟨b,0,none⟩)] w fun e w'=>e = .returned (.string ⟨#[]⟩)/\w'=w.drew:=by
 have hUS:=Any.unsafeString_none L X;have c1:w.drew.cell? ⟨b,1,none⟩=some (.slice (some ⟨g,0,none⟩) 0 cap):=c0;have hSD:(Builtin.unsafeSliceData_ #[(ρ.t 37)] (ρ.t 127) #[.slice (some ⟨g,0,none⟩) 0 cap]).run P w.drew = .ok (.pointer (some ⟨g,0,none⟩)) w.drew :=
  Lib.run_unsafeSliceData_row _ _ _ _ _ _ hc0
 clear hc0;have mixed:=L.mixed;have t72:=L.t72;have a72:=L.a72;have z72:=L.z72;have v72:=L.v72;have u72:=run_underlying L.t72;have t70:=L.t70;have a70:=L.a70;have z70:=L.z70;have v70:=L.v70;have u70:=run_underlying L.t70;have t37:=L.t37;have a37:=L.a37;have z37:=L.z37;have v37:=L.v37;have u37:=run_underlying L.t37;have t127:=L.t127;have a127:=L.a127;have z127:=L.z127;have v127:=L.v127;have u127:=run_underlying L.t127;have t3:=L.t3;have a3:=L.a3;have z3:=L.z3;have v3:=L.v3;have u3:=run_underlying L.t3;have t9:=L.t9;have a9:=L.a9;have z9:=L.z9;have v9:=L.v9;have u9:=run_underlying L.t9;have t5:=X.t5;have a5:=X.a5;have z5:=X.z5;have v5:=X.v5;have u5:=run_underlying X.t5
 go_enter L.f169,Body.n169_ntmps ρ
 go_wp2
 go_region_o
 all_goals (go_wp2;go_ret;exact⟨rfl,rfl⟩)
set_option maxHeartbeats 2000000 in
theorem Ez7 (L:Lays.n169 P ρ)(X:Builder.Extra P ρ)(b g cap:Nat)(l:List UInt8)(h0:l≠[])(hlc:l.length<=cap)(hm:l.length<=9223372036854775807)(c0:w.cell? ⟨b,1,none⟩=some (.slice (some ⟨g,0,none⟩) l.length cap))
 {cur:Array Value} {fz:Nat×Nat} (hg:w.heap[g]?=some (.cells cur (ρ.t 5) fz)) (hn:l.length<=cur.size) (hcell:∀j x,l[j]?=some x->w.cell? ((⟨g,0,none⟩:Addr).add j)=some (.int .u8 x.toNat)) :
 Calls P (ρ.f 169) #[.pointer (some ⟨b,0,none⟩)] w fun e w'=>e = .returned (.string ⟨l.toArray⟩)/\w'=w.drew.freeze ⟨g,0,none⟩ l.length:=by
 have hl0:l.length≠0:=by simpa using h0
 have c1:w.drew.cell? ⟨b,1,none⟩=some (.slice (some ⟨g,0,none⟩) l.length cap):=c0;have hSD:(Builtin.unsafeSliceData_ #[(ρ.t 37)] (ρ.t 127) #[.slice (some ⟨g,0,none⟩) l.length cap]).run P w.drew = .ok (.pointer (some ⟨g,0,none⟩)) w.drew :=
  Lib.run_unsafeSliceData_row _ _ _ _ _ _ (by omega)
 have hUS:(Builtin.unsafeString_ #[(ρ.t 127),(ρ.t 3)] (ρ.t 9) #[.pointer (some ⟨g,0,none⟩),.int .i64 l.length]).run P w.drew = .ok (.string ⟨l.toArray⟩) (w.drew.freeze ⟨g,0,none⟩ l.length) :=
  Lib.run_unsafeString_row w.drew (ρ.t 127) (ρ.t 3) (ρ.t 9) (ρ.t 5) L.t127 X.cellsByte g cur.size (by have hg':w.drew.heap[g]?=some (.cells cur (ρ.t 5) fz):=hg;simp[World.shape?,hg']) l h0 hn hm hcell
 have mixed:=L.mixed;have t72:=L.t72;have a72:=L.a72;have z72:=L.z72;have v72:=L.v72;have u72:=run_underlying L.t72;have t70:=L.t70;have a70:=L.a70;have z70:=L.z70;have v70:=L.v70;have u70:=run_underlying L.t70;have t37:=L.t37;have a37:=L.a37;have z37:=L.z37;have v37:=L.v37;have u37:=run_underlying L.t37;have t127:=L.t127;have a127:=L.a127;have z127:=L.z127;have v127:=L.v127;have u127:=run_underlying L.t127;have t3:=L.t3;have a3:=L.a3;have z3:=L.z3;have v3:=L.v3;have u3:=run_underlying L.t3;have t9:=L.t9;have a9:=L.a9;have z9:=L.z9;have v9:=L.v9;have u9:=run_underlying L.t9;have t5:=X.t5;have a5:=X.a5;have z5:=X.z5;have v5:=X.v5;have u5:=run_underlying X.t5
 go_enter L.f169,Body.n169_ntmps ρ
 go_wp2
 go_region_o
 all_goals (go_wp2;go_ret;exact⟨rfl,rfl⟩)
end
def strS (tb:Tab)(T tu ts:Nat)(f:List (tb.T tu)->tb.T ts):FSpec tb:=⟨[(8589934592,.own tu),(0,bldPat T)],[(0,.val ts)],fun x=>some (f x.1,())⟩
def IsStr (tb:Tab)(tu ts:Nat)(f:List (tb.T tu)->tb.T ts):Prop:=∀xs,∃l:List UInt8,tb.enc ts (f xs)=[.str l]/\l.length=xs.length/\∀(i:Nat) x,xs[i]?=some x->∃b:UInt8,l[i]?=some b/\tb.enc tu x=[.int .u8 (b.toNat:Int)]
theorem LzT {w:World}{k n:Nat}{cur:Array Value}{el:Nat}{fz:Nat×Nat}(hn:n≠0)(hk:w.heap[k]?=some (.cells cur el fz)):∃fz',(w.drew.freeze ⟨k,0,none⟩ n).heap[k]?=some (.cells cur el fz'):=by
 have:w.drew.heap[k]?=some (.cells cur el fz):=hk;simp only[World.freeze,if_neg hn,Array.getElem?_modify,this,if_true,Option.map_some];exact⟨_,rfl⟩
theorem nza {w:World}{k n b:Nat}(hn:n≠0)(hb:b≠k):(w.drew.freeze ⟨k,0,none⟩ n).heap[b]?=w.heap[b]?:=by
 have:¬k=b:=fun e=>hb e.symm
 simp only[World.freeze,if_neg hn,Array.getElem?_modify,this,if_false];rfl
theorem Ext.freeze {g:Gh}{w:World}{k n m:Nat}{cur:Array Value}{el:Nat}{fz:Nat×Nat}(hn:n≠0)(hk:w.heap[k]?=some (.cells cur el fz))(hg:g k = .ar m):
 Ext g w g (w.drew.freeze ⟨k,0,none⟩ n) (fun b=>b=k):=by
 obtain⟨fz',hnew⟩:=LzT hn hk;have hcell:∀i,(w.drew.freeze ⟨k,0,none⟩ n).cell? ⟨k,i,none⟩=w.cell? ⟨k,i,none⟩:=fun i=>by simp[World.cell?,hnew,hk]
 have hw:(w.drew.freeze ⟨k,0,none⟩ n).os=w.os/\(w.drew.freeze ⟨k,0,none⟩ n).tape=w.tape/\(w.drew.freeze ⟨k,0,none⟩ n).output=w.output/\(w.drew.freeze ⟨k,0,none⟩ n).heap.size=w.heap.size:=by
  unfold World.freeze;rw[if_neg hn];exact⟨rfl,rfl,rfl,Array.size_modify ..⟩
 refine⟨hw.1,hw.2.1,hw.2.2.1,Nat.le_of_eq hw.2.2.2.symm,fun b _ hb=>⟨nza hn hb,rfl⟩,fun b _ hb=>⟨nza hn (fun e=>by subst e;rw[hg]at hb;cases hb),hb⟩,fun b n' _ hb=>⟨n',Nat.le_refl _,hb,fun i _=>?_⟩,?_⟩
 .by_cases e:b=k
  .subst e;exact hcell i
  .exact bzE (nza hn e)
 .exact Shp.one (fun b _ hb=>nza hn hb) (fun us T fz2 e=>by rw[hk]at e;injection e with e;injection e with e1 e2 _;exact⟨cur,fz',by rw[hnew,e2],by rw[e1]⟩)
theorem sl_short {g:Gh}{w:World}{e:Nat}{xs:List (tb.T e)}{v:Value}(h:RepD P tb g w (.sl e xs) v):xs.length<=az6:=by
 cases h with
 | slnil=>exact Nat.zero_le _
 | sle=>exact Nat.zero_le _
 | sl _ _ b off cap val h1 h2=>exact Nat.le_trans h1 h2
theorem sl_byte {g:Gh}{w:World}{e q n cap:Nat}{xs:List (tb.T e)}(h:RepD P tb g w (.sl e xs) (.slice (some ⟨q,0,none⟩) n cap))(h1:P.cellsOf e=1){j:Nat}{x:tb.T e}{c:CV tb.T}(hx:xs[j]?=some x)(hc:tb.enc e x=[c]):
 ∃u,w.cell? ⟨q,j,none⟩=some u/\RepD P tb g w c u:=by
 cases h with
 | sle=>simp at hx
 | sl _ _ _ _ _ val _ _ _ _ h5 h6 =>
  have g1:=h5 j x 0 c hx (by rw[hc];rfl);rw[h1]at g1;exact⟨_,by simpa using g1,h6 j x 0 c hx (by rw[hc];rfl)⟩
theorem Jz7 (L:Lays.n169 P ρ)(X:Builder.Extra P ρ){f:List (tb.T (ρ.t 5))->tb.T (ρ.t 9)}(hf:IsStr tb (ρ.t 5) (ρ.t 9) f)(h9:azI P (ρ.t 9)=false):bzU P tb (ρ.f 169) (strS tb (ρ.t 72) (ρ.t 5) (ρ.t 9) f):=by
 intro g w x vs bs y hy _ hat hh hnd;obtain⟨xs,x2⟩:=x;have hy:some ((f xs,()):tb.T (ρ.t 9)×Unit)=some y:=hy;injection hy with hy;subst hy;cases vs with
 | nil=>exact hh.elim
 | cons vb vs =>
 cases bs with
 | nil=>exact hh.elim
 | cons b0 bs =>
 obtain⟨⟨hrb,hown⟩,hh⟩:=hh;cases vs with
 | nil=>exact hh.elim
 | cons v vs =>
 cases vs with
 | cons _ _=>cases bs<;>exact hh.elim
 | nil =>
 cases bs with
 | nil=>exact hh.elim
 | cons b bs =>
 cases bs with
 | cons _ _=>exact hh.elim
 | nil =>
 obtain⟨k,rfl,rfl,hk,hg,hbox⟩:=hh;obtain⟨us,el,fz,h1,h2,h3,h4,h5⟩:=hbox;obtain⟨hat1,_,_⟩:=hat
 have hr:azB (strS tb (ρ.t 72) (ρ.t 5) (ρ.t 9) f).ins [vb,Value.pointer (some ⟨k,0,none⟩)]=[.pointer (some ⟨k,0,none⟩)]:=rfl;have hvb:us[1]?=some vb:=by
  rw[hr]at hat1;unfold vval at hat1;rw[if_neg (show ¬(8589934592:Nat)<4294967296 by decide)]at hat1;simpa[h1]using hat1
 have c1:w.cell? ⟨k,1,none⟩=some vb:=by simp[World.cell?,h1,hvb]
 have hent:∀args w,(callFunc (ρ.f 169) args).run P w = .ok (.enter (ρ.f 169) args) w:=Go.Proofs.enters_of L.f169 (by kernel_rfl) rfl;refine .inl ⟨hent _ _,?_⟩
 show Calls P (ρ.f 169) #[.pointer (some ⟨k,0,none⟩)] w _
 obtain⟨l,l1,l2,l3⟩:=hf xs;have hll:l.length<=az6:=by rw[l2];exact sl_short hrb
 have fin:∀w',Ext g w g w' (fun b=>b∈b0.toList)\/(∃g',Ext g w g' w' (fun b=>b∈b0.toList)/\g' k = .var)->w'.heap[k]?=w.heap[k]?->∃v us cs g',(Ending.returned (.string ⟨l.toArray⟩)) = .returned v/\RetV (azD (strS tb (ρ.t 72) (ρ.t 5) (ρ.t 9) f).outs) (azB (strS tb (ρ.t 72) (ρ.t 5) (ρ.t 9) f).outs us) v /\
  At w' (dzx (azB (strS tb (ρ.t 72) (ρ.t 5) (ρ.t 9) f).outs us) (azB (strS tb (ρ.t 72) (ρ.t 5) (ρ.t 9) f).ins [vb,Value.pointer (some ⟨k,0,none⟩)])) (strS tb (ρ.t 72) (ρ.t 5) (ρ.t 9) f).outs us /\
  Left P tb g w (strS tb (ρ.t 72) (ρ.t 5) (ρ.t 9) f).ins (strS tb (ρ.t 72) (ρ.t 5) (ρ.t 9) f).outs [vb,Value.pointer (some ⟨k,0,none⟩)] [b0,some k] (f xs,()) us cs g' w':=fun w' he hb=>by
  obtain⟨g',he,hg'⟩:∃g',Ext g w g' w' (fun b=>b∈b0.toList)/\g' k = .var:=by
   rcases he with he|he
   .exact⟨g,he,hg⟩
   .exact he
  have hfx:azT P tb g' w' (ρ.t 9) (f xs) (.string ⟨l.toArray⟩):=by
   unfold azT;simp only[h9,Bool.false_eq_true,if_false];exact⟨_,l1,.str l hll⟩
  refine⟨.string ⟨l.toArray⟩,[.string ⟨l.toArray⟩],[none],g',rfl,rfl,⟨rfl,trivial⟩,he.mono fun b _ e=>?_,⟨hfx,rfl⟩,⟨k,rfl,rfl,Nat.lt_of_lt_of_le hk he.size,hg',us,el,fz,hb.trans h1,h2,h3,h4,h5⟩,List.nodup_nil,by simp[azj]⟩
  show b∈b0.toList++([k]++[])
  exact List.mem_append_left _ e
 have hdrew:∀{e w'},l=[]->(e=Ending.returned (.string ⟨#[]⟩)/\w'=w.drew)->∃v us cs g',e = .returned v/\RetV (azD (strS tb (ρ.t 72) (ρ.t 5) (ρ.t 9) f).outs) (azB (strS tb (ρ.t 72) (ρ.t 5) (ρ.t 9) f).outs us) v /\
  At w' (dzx (azB (strS tb (ρ.t 72) (ρ.t 5) (ρ.t 9) f).outs us) (azB (strS tb (ρ.t 72) (ρ.t 5) (ρ.t 9) f).ins [vb,Value.pointer (some ⟨k,0,none⟩)])) (strS tb (ρ.t 72) (ρ.t 5) (ρ.t 9) f).outs us /\
  Left P tb g w (strS tb (ρ.t 72) (ρ.t 5) (ρ.t 9) f).ins (strS tb (ρ.t 72) (ρ.t 5) (ρ.t 9) f).outs [vb,Value.pointer (some ⟨k,0,none⟩)] [b0,some k] (f xs,()) us cs g' w':=by
  rintro e w' hl ⟨rfl,rfl⟩;have:=fin w.drew (.inl ⟨rfl,rfl,rfl,Nat.le_refl _,fun _ _ _=>⟨rfl,rfl⟩,fun _ _ h=>⟨rfl,h⟩,fun _ n _ h=>⟨n,Nat.le_refl _,h,fun _ _=>rfl⟩,Shp.old fun _ _=>rfl⟩) rfl;rwa[hl]at this
 rcases hown with⟨rfl,rfl,hl0⟩|⟨q,off,cap,cells,el2,fz2,rfl,rfl,hgq,hq,hcs,hlc,hfr,rfl,rfl⟩
 .have hl:l=[]:=List.length_eq_zero_iff.1 (by rw[l2];exact hl0);exact(Hze L X k c1).mono fun e w' h=>hdrew hl h
 .by_cases hl:l=[]
  .have hx0:xs.length=0:=by rw[<-l2,hl];rfl
   rw[hx0]at c1;by_cases hc0:cap=0
   .subst hc0;refine(AzI L X k q hk c1 hq).mono ?_;rintro e w' ⟨rfl,rfl⟩;have hext:=Ext.push g w (.view ⟨q,0,none⟩ (ρ.t 5)) .con (fun b=>b∈(some q).toList);have:=fin (w.alloc (.view ⟨q,0,none⟩ (ρ.t 5))).drew (.inr ⟨_,⟨hext.os,hext.tape,hext.output,hext.size,hext.keep,hext.con,hext.ar,hext.shp⟩,by rw[azt g _ (by omega)];exact hg⟩) (Lib.alloc_old w _ k hk);rwa[hl]at this
   .exact(Ez6 L X k q cap hc0 c1).mono fun e w' h=>hdrew hl h
  .have hcell:∀j x,l[j]?=some x->w.cell? ((⟨q,0,none⟩:Addr).add j)=some (.int .u8 x.toNat):=fun j x hj=>by
    have hjl:j<xs.length:=by rw[<-l2];exact(List.getElem?_eq_some_iff.1 hj).1
    obtain⟨b,hb,henc⟩:=l3 j _ (List.getElem?_eq_getElem hjl);rw[hj]at hb;injection hb with hb;subst hb;obtain⟨u,g1,g2⟩:=sl_byte hrb X.cellsByte (List.getElem?_eq_getElem hjl) henc;cases g2;rw[dzC,<-g1,Nat.zero_add]
   have hlen:l.length<=cells.size:=by
    have:xs.length*1<=cap*1:=by omega
    rw[X.cellsByte]at hcs;omega
   rw[<-l2]at c1;refine(Ez7 L X k q cap l hl (by rw[l2];exact hlc) hll c1 hq hlen hcell).mono ?_;rintro e w' ⟨rfl,rfl⟩;have hne:k≠q:=fun e=>by subst e;rw[hg]at hgq;cases hgq
   have hn0:l.length≠0:=by simpa using hl
   exact fin _ (.inl ((Ext.freeze hn0 hq hgq).mono fun b _ e=>by simp[e])) (nza hn0 hne)
end Go.Ev
/- W2 -/
namespace Go.Proofs.YtmkmofdnmllioaaGreatDoor
open Go Go.Ev Go.Proofs
open Go.IntKind (i64 u64 u8 i32 u32 i16 u16)
theorem bldX:Builder.Extra Tryz.prog Tryz.lays105_ren where
 sizeBuilder:=by kernel_rfl
 liesBuilder:=by kernel_rfl
 t5:=Tryz.underlying5
 a5:=Tryz.isAgg5
 z5:=Tryz.sizeOf5
 v5:=Tryz.zeroValue5
 infoByte:=by kernel_rfl
 cellsByte:=by kernel_rfl
 sizeByte:=by kernel_rfl
 neB5:=by decide
def hzJ (x:List UInt8×Unit):Option (List UInt8×Unit):=some (x.1,())
def Ez8:FSpec tb:=⟨[(8589934592,.own 5),(0,.box 261095426)],[(8589967360,.own 5)],hzJ⟩
theorem nz5:bzU Tryz.prog tb 212 Ez8:=CzQ (ρ:=Tryz.lays105_ren) (tu:=5) {Tryz.lays105 with} bldX.toX72
def jzA (x:List UInt8×Unit):Option (List UInt8×Unit):=some (x.1,())
def ozY:FSpec tb:=⟨[(8589934592,.own 5),(0,.box 261095426)],[(0,.val 9)],jzA⟩
theorem bldStr:IsStr tb 5 9 (fun(xs:List UInt8)=>(xs:List UInt8)):=fun(xs:List UInt8)=>⟨xs,qzM xs,rfl,fun _ x h=>⟨x,h,enc5_eq x⟩⟩
theorem mza:bzU Tryz.prog tb 173 ozY :=
 Jz7 (tb:=tb) (ρ:=Tryz.lays105_ren) (f:=fun(xs:List UInt8)=>(xs:List UInt8)) {Tryz.lays105 with} bldX bldStr qzP
end Go.Proofs.YtmkmofdnmllioaaGreatDoor
/- B1 -/
namespace Go.Proofs.YtmkmofdnmllioaaGreatDoor
open Go Go.Ev
open Go.IntKind (i64 u64 u8 i32 u32 i16 u16)
set_option linter.unusedVariables false
def czU (x:List (UInt8)×Unit×List UInt8):Option ((List (UInt8)×Int×Unit)×Unit):=obnd (hzJ (x.1,())) fun y=>obnd (app 1 y.1 x.2.2) fun zs=>some ((zs,(↑x.2.2.length:Int),()),())
def izx:FSpec tb:=⟨[(8589934592,.own 5),(0,.box 261095426),(1,.val 9)],[(8589967360,.own 5),(0,.val 3),(1,.val 252)],czU⟩
theorem lzJ:A0 172 izx:=A1 Tryz.func172 (.consK nz5 .nil)
def ezC (x:Int×Bool):Option (Bool):=brn x.2 (some x.2) (brn (decide (57343<x.1)) (some (decide (x.1<=65535))) (some false))
def pzD:CutSpec tb:=⟨58,[(5,.val 330),(25,.val 4)],[(.normal,[(25,.val 4)])],[28,29,30,31,32,33,25],(ezC)⟩
theorem nzW:A5 Tryz.f247 58 pzD:=A6 .nil .nil
def fz4 (x:List (UInt8)×Int):Option (List (UInt8)):=brn (decide (u32.wrap x.2<=2047)) (obnd (app 1 x.1 [UInt8.ofNat (azn BinOp.or u8 192 (u8.wrap (x.2.fdiv 64))).toNat,UInt8.ofNat (azn BinOp.or u8 128 (azn BinOp.and u8 (u8.wrap x.2) 63)).toNat]) fun zs=>some zs) (obnd (ezC (u32.wrap x.2,decide (u32.wrap x.2<55296))) fun y=>brn y (obnd (app 1 x.1 [UInt8.ofNat (azn BinOp.or u8 224 (u8.wrap (x.2.fdiv 4096))).toNat,UInt8.ofNat (azn BinOp.or u8 128 (azn BinOp.and u8 (u8.wrap (x.2.fdiv 64)) 63)).toNat,UInt8.ofNat (azn BinOp.or u8 128 (azn BinOp.and u8 (u8.wrap x.2) 63)).toNat]) fun zs=>some zs) (brn (decide (65535<u32.wrap x.2)) (brn (decide (u32.wrap x.2<=1114111)) (obnd (app 1 x.1 [UInt8.ofNat (azn BinOp.or u8 240 (u8.wrap (x.2.fdiv 262144))).toNat,UInt8.ofNat (azn BinOp.or u8 128 (azn BinOp.and u8 (u8.wrap (x.2.fdiv 4096)) 63)).toNat,UInt8.ofNat (azn BinOp.or u8 128 (azn BinOp.and u8 (u8.wrap (x.2.fdiv 64)) 63)).toNat,UInt8.ofNat (azn BinOp.or u8 128 (azn BinOp.and u8 (u8.wrap x.2) 63)).toNat]) fun zs=>some zs) (obnd (app 1 x.1 [UInt8.ofNat 239,UInt8.ofNat 191,UInt8.ofNat 189]) fun zs=>some zs)) (obnd (app 1 x.1 [UInt8.ofNat 239,UInt8.ofNat 191,UInt8.ofNat 189]) fun zs=>some zs)))
def rzP:FSpec tb:=⟨[(0,.own 5),(1,.val 21)],[(0,.own 5)],fz4⟩
theorem nz4:A0 247 rzP:=A2 Tryz.func247 .nil (.cons nzW .nil)
def iz0 (x:List (UInt8)×Int):Option (List (UInt8)):=brn (decide (u32.wrap x.2<=127)) (obnd (app 1 x.1 [UInt8.ofNat (u8.wrap x.2).toNat]) fun zs=>some zs) (obnd (fz4 x) fun y=>some y)
def CzE:FSpec tb:=⟨[(0,.own 5),(1,.val 21)],[(0,.own 5)],iz0⟩
theorem tz8:A0 237 CzE:=A1 Tryz.func237 (.cons nz4 .nil)
def azw (x:List (UInt8)×Unit×Int):Option ((List (UInt8)×Int×Unit)×Unit):=obnd (hzJ (x.1,())) fun y=>obnd (iz0 (y.1,x.2.2)) fun y_1=>some ((y_1,i64.wrap ((↑(List.length y_1):Int)-(↑(List.length y.1):Int)),()),())
def ezU:FSpec tb:=⟨[(8589934592,.own 5),(0,.box 261095426),(1,.val 21)],[(8589967360,.own 5),(0,.val 3),(1,.val 252)],azw⟩
theorem gza:A0 219 ezU:=A1 Tryz.func219 (.consK nz5 (.cons tz8 .nil))
set_option linter.unusedVariables false
def czX (x:Val):Option (Arg):=some {Area:=false,L:=[x]}
def Bza:FSpec tb:=⟨[(0,.val 45)],[(0,.val 110)],czX⟩
theorem vzC:A0 71 Bza:=A1 Tryz.func71 .nil
def jz9 (x:Unit):Option (List (Function)):=some [{name:=[83,85,77],lo:=0,hi:=9223372036854775807},{name:=[77,73,78],lo:=0,hi:=9223372036854775807},{name:=[77,65,88],lo:=0,hi:=9223372036854775807},{name:=U8s [67,79,85,78,84],lo:=0,hi:=9223372036854775807},{name:=U8s [65,86,69,82,65,71,69],lo:=0,hi:=9223372036854775807},{name:=[65,66,83],lo:=1,hi:=1},{name:=[83,73,71,78],lo:=1,hi:=1},{name:=[73,78,84],lo:=1,hi:=1},{name:=[77,79,68],lo:=2,hi:=2},{name:=U8s [82,79,85,78,68],lo:=2,hi:=2},{name:=[73,70],lo:=2,hi:=3},{name:=[65,78,68],lo:=0,hi:=9223372036854775807},{name:=[79,82],lo:=0,hi:=9223372036854775807},{name:=[78,79,84],lo:=1,hi:=1},{name:=[76,69,78],lo:=1,hi:=1},{name:=[76,69,70,84],lo:=1,hi:=2},{name:=U8s [82,73,71,72,84],lo:=1,hi:=2},{name:=[77,73,68],lo:=3,hi:=3},{name:=U8s [67,79,78,67,65,84],lo:=0,hi:=9223372036854775807},{name:=U8s [85,80,80,69,82],lo:=1,hi:=1},{name:=U8s [76,79,87,69,82],lo:=1,hi:=1},{name:=U8s [73,83,66,76,65,78,75],lo:=1,hi:=1},{name:=U8s [73,83,69,82,82,79,82],lo:=1,hi:=1},{name:=U8s [73,70,69,82,82,79,82],lo:=2,hi:=2},{name:=U8s [73,78,68,69,88],lo:=2,hi:=2},{name:=U8s [67,72,79,79,83,69],lo:=2,hi:=9223372036854775807},{name:=U8s [69,88,65,67,84],lo:=2,hi:=2},{name:=[82,69,80,84],lo:=2,hi:=2},{name:=[78,65],lo:=0,hi:=0},{name:=[84,89,80,69],lo:=1,hi:=1}]
def IzR:FSpec tb:=⟨[],[(0,.own 184)],jz9⟩
theorem vzD:A0 117 IzR:=A1 Tryz.func117 .nil
def szd (x:Int):Option (List UInt8×Bool):=obnd (jz9 ()) fun y=>brn (decide (x<0)) (some ([],false)) (brn (decide ((↑(List.length y):Int)<=x)) (some ([],false)) (obnd (idx y x) fun y=>some (y.name,true)))
def fun_NameS:FSpec tb:=⟨[(0,.val 3)],[(0,.val 9),(1,.val 4)],szd⟩
theorem Fzv:A0 116 fun_NameS:=A1 Tryz.func116 (.cons vzD .nil)
def oz8 (x:Arg):Option (Bool):=brn (!x.Area) (some (bif decide ((↑x.L.length:Int)=1)then false else true)) (some false)
def zz9:FSpec tb:=⟨[(0,.val 110)],[(0,.val 4)],oz8⟩
theorem Bze:A0 167 zz9:=A1 Tryz.func167 .nil
abbrev hzf:List (Nat×FSpec tb):=[(167,zz9)]
theorem czP:azl Tryz.prog tb (hzf):=(.cons Bze .nil)
def azQ (back:List Arg×Unit×Int×Int->Option ((Unit)⊕(Int)))(x:List Arg×Unit×Int×Int):Option ((Unit)⊕(Int)):=brn (decide (x.2.2.2<x.2.2.1)) (obnd (idx x.1 x.2.2.2) fun y=>obnd (oz8 y) fun y=>brn y (some (Sum.inr x.2.2.2)) (back (x.1,(),x.2.2.1,i64.wrap (x.2.2.2+1)))) (some (Sum.inl PUnit.unit))
def bzO:List Arg×Unit×Int×Int->Option ((Unit)⊕(Int)):=iter azQ big
def fz9:CutSpec tb:=⟨28,[(0,.val 140),(1,.fnp 167 0),(7,.val 3),(8,.val 3)],[((.exit 0),[]),(.ret,[(4,.val 3)])],[9,10,5,11,12,13,14,15,16,17,4,18,8],bzO⟩
theorem fzg:A3 Tryz.f210 28 fz9:=A4 czP .nil azQ
def bz0 (x:List Arg×Unit):Option (Int):=obnd (bzO (x.1,(),(↑x.1.length:Int),0)) fun y=>osum y (fun y=>some (-1)) fun y=>some y
def hzg:FSpec tb:=⟨[(0,.val 140),(1,.fnp 167 0)],[(0,.val 3)],bz0⟩
theorem fzz:A0 210 hzg:=A2 Tryz.func210 czP (.cons fzg .nil)
def bzf (x:List Arg×Unit):Option (Bool):=obnd (bz0 (x.1,())) fun y=>some (decide (0<=y))
def czO:FSpec tb:=⟨[(0,.val 140),(1,.fnp 167 0)],[(0,.val 4)],bzf⟩
theorem ezR:A0 166 czO:=A1 Tryz.func166 (.cons fzz .nil)
abbrev IzS:List (Nat×FSpec tb):=[(126,lzK)]
theorem nzd:azl Tryz.prog tb (IzS):=(.cons czN .nil)
def gzD (back:Int×Arg×List Val×Int×Int->Option (Int))(x:Int×Arg×List Val×Int×Int):Option (Int):=brn (decide (x.2.2.2.2<x.2.2.2.1)) (obnd (idx x.2.2.1 x.2.2.2.2) fun y=>obnd (bzd y) fun y_1=>brn y_1.2.2 (brn (!x.2.1.Area) (back (i64.wrap (x.1+1),x.2.1,x.2.2.1,x.2.2.2.1,i64.wrap (x.2.2.2.2+1))) (brn (decide (y.Kind=1)) (back (i64.wrap (x.1+1),x.2.1,x.2.2.1,x.2.2.2.1,i64.wrap (x.2.2.2.2+1))) (back (x.1,x.2.1,x.2.2.1,x.2.2.2.1,i64.wrap (x.2.2.2.2+1))))) (back (x.1,x.2.1,x.2.2.1,x.2.2.2.1,i64.wrap (x.2.2.2.2+1)))) (some x.1)
def nzf:Int×Arg×List Val×Int×Int->Option (Int):=iter gzD big
def Dzh:CutSpec tb:=⟨60,[(3,.val 3),(5,.ro 110),(18,.val 70),(19,.val 3),(20,.val 3)],[((.exit 2),[(3,.val 3)])],[21,22,23,7,25,26,24,27,28,29,8,9,10,30,31,32,33,34,35,36,37,38,39,40,41,42,3,43,20],nzf⟩
theorem wz6:A3 Tryz.f168 60 Dzh:=A4 nzd .nil gzD
def gzC (back:Int×List Arg×Int×Int->Option (Int))(x:Int×List Arg×Int×Int):Option (Int):=brn (decide (x.2.2.2<x.2.2.1)) (obnd (idx x.2.1 x.2.2.2) fun y=>obnd (nzf (x.1,y,y.L,(↑y.L.length:Int),0)) fun y=>back (y,x.2.1,x.2.2.1,i64.wrap (x.2.2.2+1))) (some x.1)
def nze:Int×List Arg×Int×Int->Option (Int):=iter gzC big
def Dzg:CutSpec tb:=⟨36,[(3,.val 3),(11,.val 140),(12,.val 3),(13,.val 3)],[((.exit 0),[(3,.val 3)])],[14,15,16,5,17,18,19,20,21,22,23,7,25,26,24,27,28,29,8,9,10,30,31,32,33,34,35,36,37,38,39,40,41,42,3,43,44,13],nze⟩
theorem wz5:A3 Tryz.f168 36 Dzg:=A4 nzd (.cons wz6 .nil) gzC
def nzc (x:List Arg):Option (Int):=obnd (nze (0,x,(↑x.length:Int),0)) fun y=>some y
def wz4:FSpec tb:=⟨[(0,.val 140)],[(0,.val 3)],nzc⟩
theorem yzZ:A0 168 wz4:=A2 Tryz.func168 nzd (.cons wz5 .nil)
def bza (x:Dec×Int):Option (Val):=brn (decide (x.2=0)) (some {Kind:=1,N:=x.1,S:=[],B:=false,E:=0}) (brn (decide (x.2=9)) (obnd (azm 7) fun y=>some y) (obnd (azm 36) fun y=>some y))
def qz7:FSpec tb:=⟨[(0,.val 43),(1,.val 194)],[(0,.val 45)],bza⟩
theorem ezM:A0 127 qz7:=A1 Tryz.func127 (.cons azH .nil)
def bzJ (x:Int):Option (Val):=obnd (bzH x) fun y=>obnd (bza (y,0)) fun y=>some y
def kza:FSpec tb:=⟨[(0,.val 3)],[(0,.val 45)],bzJ⟩
theorem hzp:A0 122 kza:=A1 Tryz.func122 (.cons dz0 (.cons ezM .nil))
abbrev KzS:List (Nat×FSpec tb):=[(123,vzr)]
theorem ozl:azl Tryz.prog tb (KzS):=(.cons nz0 .nil)
def hzQ (back:Val×List (Bool)×Arg×List Val×Int×Int->Option (((List (Bool))×Val)⊕((List (Bool)×Bool)×Val)))(x:Val×List (Bool)×Arg×List Val×Int×Int):Option (((List (Bool))×Val)⊕((List (Bool)×Bool)×Val)):=brn (decide (x.2.2.2.2.2<x.2.2.2.2.1)) (obnd (idx x.2.2.2.1 x.2.2.2.2.2) fun y=>brn x.2.2.1.Area (brn (!decide (y.Kind=1)) (brn (!decide (y.Kind=3)) (brn (!decide (y.Kind=4)) (back (x.1,x.2.1,x.2.2.1,x.2.2.2.1,x.2.2.2.2.1,i64.wrap (x.2.2.2.2.2+1))) (obnd (czl y) fun y=>brn (!y.2.2) (some (Sum.inr (([],false),y.2.1))) (obnd (app 1 x.2.1 [y.1]) fun zs=>back (x.1,zs,x.2.2.1,x.2.2.2.1,x.2.2.2.2.1,i64.wrap (x.2.2.2.2.2+1))))) (obnd (czl y) fun y=>brn (!y.2.2) (some (Sum.inr (([],false),y.2.1))) (obnd (app 1 x.2.1 [y.1]) fun zs=>back (x.1,zs,x.2.2.1,x.2.2.2.1,x.2.2.2.2.1,i64.wrap (x.2.2.2.2.2+1))))) (obnd (czl y) fun y=>brn (!y.2.2) (some (Sum.inr (([],false),y.2.1))) (obnd (app 1 x.2.1 [y.1]) fun zs=>back (x.1,zs,x.2.2.1,x.2.2.2.1,x.2.2.2.2.1,i64.wrap (x.2.2.2.2.2+1))))) (obnd (czl y) fun y=>brn (!y.2.2) (some (Sum.inr (([],false),y.2.1))) (obnd (app 1 x.2.1 [y.1]) fun zs=>back (x.1,zs,x.2.2.1,x.2.2.2.1,x.2.2.2.2.1,i64.wrap (x.2.2.2.2.2+1))))) (some (Sum.inl (x.2.1,x.1)))
def ozm:Val×List (Bool)×Arg×List Val×Int×Int->Option (((List (Bool))×Val)⊕((List (Bool)×Bool)×Val)):=iter hzQ big
def FzB:CutSpec tb:=⟨60,[(3,.ref 45),(5,.own 4),(7,.ro 110),(20,.val 70),(21,.val 3),(22,.val 3)],[((.exit 2),[(5,.own 4)]),(.ret,[(2,.own 4),(4,.val 4)])],[23,24,25,9,26,27,28,29,30,31,32,33,34,35,36,37,38,39,40,41,42,44,45,43,46,47,48,11,10,12,49,50,51,2,4,52,53,54,55,5,56,22],ozm⟩
theorem yz4:A3 Tryz.f169 60 FzB:=A4 ozl .nil hzQ
def hzP (back:Val×List (Bool)×List Arg×Int×Int->Option (((List (Bool))×Val)⊕((List (Bool)×Bool)×Val)))(x:Val×List (Bool)×List Arg×Int×Int):Option (((List (Bool))×Val)⊕((List (Bool)×Bool)×Val)):=brn (decide (x.2.2.2.2<x.2.2.2.1)) (obnd (idx x.2.2.1 x.2.2.2.2) fun y=>obnd (ozm (x.1,x.2.1,y,y.L,(↑y.L.length:Int),0)) fun y=>osum y (fun y=>back (y.2,y.1,x.2.2.1,x.2.2.2.1,i64.wrap (x.2.2.2.2+1))) fun y=>some (Sum.inr (y.1,y.2))) (some (Sum.inl (x.2.1,x.1)))
def kzR:Val×List (Bool)×List Arg×Int×Int->Option (((List (Bool))×Val)⊕((List (Bool)×Bool)×Val)):=iter hzP big
def FzA:CutSpec tb:=⟨36,[(3,.ref 45),(5,.own 4),(13,.val 140),(14,.val 3),(15,.val 3)],[((.exit 0),[(5,.own 4)]),(.ret,[(2,.own 4),(4,.val 4)])],[16,17,18,7,19,20,21,22,23,24,25,9,26,27,28,29,30,31,32,33,34,35,36,37,38,39,40,41,42,44,45,43,46,47,48,11,10,12,49,50,51,2,4,52,53,54,55,5,56,57,15],kzR⟩
theorem yz3:A3 Tryz.f169 36 FzA:=A4 ozl (.cons yz4 .nil) hzP
def jzC (x:List Arg):Option (List (Bool)×Val×Bool):=obnd (kzR ({Kind:=0,N:={M:=0,S:=0},S:=[],B:=false,E:=0},[],x,(↑x.length:Int),0)) fun y=>osum y (fun y=>some (y.1,{Kind:=0,N:={M:=0,S:=0},S:=[],B:=false,E:=0},decide (0<(↑(List.length y.1):Int)))) fun y=>some (y.1.1,y.2,y.1.2)
def Azb:FSpec tb:=⟨[(0,.val 140)],[(0,.own 4),(1,.val 45),(2,.val 4)],jzC⟩
theorem Bzj:A0 169 Azb:=A2 Tryz.func169 ozl (.cons yz3 .nil)
def czp (back:List Bool×Bool×Int×Int->Option ((Unit)⊕(Int)))(x:List Bool×Bool×Int×Int):Option ((Unit)⊕(Int)):=brn (decide (x.2.2.2<x.2.2.1)) (obnd (idx x.1 x.2.2.2) fun y=>brn (decide (x.2.1=y)) (some (Sum.inr x.2.2.2)) (back (x.1,x.2.1,x.2.2.1,i64.wrap (x.2.2.2+1)))) (some (Sum.inl PUnit.unit))
def ezT:List Bool×Bool×Int×Int->Option ((Unit)⊕(Int)):=iter czp big
def pz5:CutSpec tb:=⟨28,[(0,.val 200),(1,.val 4),(7,.val 3),(8,.val 3)],[((.exit 0),[]),(.ret,[(4,.val 3)])],[9,10,5,11,12,13,14,15,16,17,4,18,8],ezT⟩
theorem nz3:A3 Tryz.f211 28 pz5:=A4 .nil .nil czp
def gzh (x:List Bool×Bool):Option (Int):=obnd (ezT (x.1,x.2,(↑x.1.length:Int),0)) fun y=>osum y (fun y=>some (-1)) fun y=>some y
def rz1:FSpec tb:=⟨[(0,.val 200),(1,.val 4)],[(0,.val 3)],gzh⟩
theorem ozT:A0 211 rz1:=A2 Tryz.func211 .nil (.cons nz3 .nil)
def az3 (x:List Bool×Bool):Option (Bool):=obnd (gzh x) fun y=>some (decide (0<=y))
def jzw:FSpec tb:=⟨[(0,.val 200),(1,.val 4)],[(0,.val 4)],az3⟩
theorem mzV:A0 170 jzw:=A1 Tryz.func170 (.cons ozT .nil)
def czj (x:Bool):Option (Val):=some {Kind:=3,N:={M:=0,S:=0},S:=[],B:=x,E:=0}
def nzl:FSpec tb:=⟨[(0,.val 4)],[(0,.val 45)],czj⟩
theorem gzG:A0 121 nzl:=A1 Tryz.func121 .nil
def cz1 (x:List UInt8):Option (Val):=obnd (izZ x) fun y=>brn (!decide (y.2=0)) (obnd (azm 15) fun y=>some y) (some {Kind:=2,N:={M:=0,S:=0},S:=x,B:=false,E:=0})
def szf:FSpec tb:=⟨[(0,.val 9)],[(0,.val 45)],cz1⟩
theorem ozk:A0 130 szf:=A1 Tryz.func130 (.cons szQ (.cons azH .nil))
abbrev IzZ:List (Nat×FSpec tb):=[(126,lzK)]
theorem nzj:azl Tryz.prog tb (IzZ):=(.cons czN .nil)
def gzF (back:Val×List (Dec)×Arg×List Val×Int×Int->Option (((List (Dec))×Val)⊕((List (Dec)×Bool)×Val)))(x:Val×List (Dec)×Arg×List Val×Int×Int):Option (((List (Dec))×Val)⊕((List (Dec)×Bool)×Val)):=brn (decide (x.2.2.2.2.2<x.2.2.2.2.1)) (obnd (idx x.2.2.2.1 x.2.2.2.2.2) fun y=>brn x.2.2.1.Area (brn (!decide (y.Kind=1)) (brn (!decide (y.Kind=4)) (back (x.1,x.2.1,x.2.2.1,x.2.2.2.1,x.2.2.2.2.1,i64.wrap (x.2.2.2.2.2+1))) (obnd (bzd y) fun y=>brn (!y.2.2) (some (Sum.inr (([],false),y.2.1))) (obnd (app 16 x.2.1 [y.1]) fun zs=>back (x.1,zs,x.2.2.1,x.2.2.2.1,x.2.2.2.2.1,i64.wrap (x.2.2.2.2.2+1))))) (obnd (bzd y) fun y=>brn (!y.2.2) (some (Sum.inr (([],false),y.2.1))) (obnd (app 16 x.2.1 [y.1]) fun zs=>back (x.1,zs,x.2.2.1,x.2.2.2.1,x.2.2.2.2.1,i64.wrap (x.2.2.2.2.2+1))))) (obnd (bzd y) fun y=>brn (!y.2.2) (some (Sum.inr (([],false),y.2.1))) (obnd (app 16 x.2.1 [y.1]) fun zs=>back (x.1,zs,x.2.2.1,x.2.2.2.1,x.2.2.2.2.1,i64.wrap (x.2.2.2.2.2+1))))) (some (Sum.inl (x.2.1,x.1)))
def nzk:Val×List (Dec)×Arg×List Val×Int×Int->Option (((List (Dec))×Val)⊕((List (Dec)×Bool)×Val)):=iter gzF big
def Dzo:CutSpec tb:=⟨60,[(3,.ref 45),(5,.own 43),(7,.ro 110),(20,.val 70),(21,.val 3),(22,.val 3)],[((.exit 2),[(5,.own 43)]),(.ret,[(2,.own 43),(4,.val 4)])],[23,24,25,9,26,27,28,29,30,31,32,33,34,35,36,37,39,40,38,41,42,43,10,11,12,44,45,46,2,4,47,48,49,50,5,51,22],nzk⟩
theorem wz9:A3 Tryz.f174 60 Dzo:=A4 nzj .nil gzF
def gzE (back:Val×List (Dec)×List Arg×Int×Int->Option (((List (Dec))×Val)⊕((List (Dec)×Bool)×Val)))(x:Val×List (Dec)×List Arg×Int×Int):Option (((List (Dec))×Val)⊕((List (Dec)×Bool)×Val)):=brn (decide (x.2.2.2.2<x.2.2.2.1)) (obnd (idx x.2.2.1 x.2.2.2.2) fun y=>obnd (nzk (x.1,x.2.1,y,y.L,(↑y.L.length:Int),0)) fun y=>osum y (fun y=>back (y.2,y.1,x.2.2.1,x.2.2.2.1,i64.wrap (x.2.2.2.2+1))) fun y=>some (Sum.inr (y.1,y.2))) (some (Sum.inl (x.2.1,x.1)))
def jzN:Val×List (Dec)×List Arg×Int×Int->Option (((List (Dec))×Val)⊕((List (Dec)×Bool)×Val)):=iter gzE big
def Dzn:CutSpec tb:=⟨36,[(3,.ref 45),(5,.own 43),(13,.val 140),(14,.val 3),(15,.val 3)],[((.exit 0),[(5,.own 43)]),(.ret,[(2,.own 43),(4,.val 4)])],[16,17,18,7,19,20,21,22,23,24,25,9,26,27,28,29,30,31,32,33,34,35,36,37,39,40,38,41,42,43,10,11,12,44,45,46,2,4,47,48,49,50,5,51,52,15],jzN⟩
theorem wz8:A3 Tryz.f174 36 Dzn:=A4 nzj (.cons wz9 .nil) gzE
def nzi (x:List Arg):Option (List (Dec)×Val×Bool):=obnd (jzN ({Kind:=0,N:={M:=0,S:=0},S:=[],B:=false,E:=0},[],x,(↑x.length:Int),0)) fun y=>osum y (fun y=>some (y.1,{Kind:=0,N:={M:=0,S:=0},S:=[],B:=false,E:=0},true)) fun y=>some (y.1.1,y.2,y.1.2)
def wz7:FSpec tb:=⟨[(0,.val 140)],[(0,.own 43),(1,.val 45),(2,.val 4)],nzi⟩
theorem yz1:A0 174 wz7:=A2 Tryz.func174 nzj (.cons wz8 .nil)
abbrev hzk:List (Nat×FSpec tb):=[(176,jzZ)]
theorem czW:azl Tryz.prog tb (hzk):=(.cons hzn .nil)
def azV (back:List Dec×Unit×Dec×Int->Option ((Unit)×Dec))(x:List Dec×Unit×Dec×Int):Option ((Unit)×Dec):=brn (decide (x.2.2.2<(↑x.1.length:Int))) (obnd (idx x.1 x.2.2.2) fun y=>obnd (dzF (y,x.2.2.1)) fun y=>brn (decide (y<0)) (obnd (idx x.1 x.2.2.2) fun y=>back (x.1,(),y,i64.wrap (x.2.2.2+1))) (back (x.1,(),x.2.2.1,i64.wrap (x.2.2.2+1)))) (some ((),x.2.2.1))
def bzT:List Dec×Unit×Dec×Int->Option ((Unit)×Dec):=iter azV big
def gzj:CutSpec tb:=⟨52,[(0,.val 256),(1,.fnp 176 0),(5,.ref 43),(6,.val 3)],[((.exit 0),[])],[14,15,16,17,20,21,22,23,24,25,26,27,28,29,30,31,18,19,6],bzT⟩
theorem fzC:A3 Tryz.f175 52 gzj:=A4 czW .nil azV
def bzq (x:List Dec×Unit):Option (Dec):=brn (decide ((↑x.1.length:Int)<1)) none (obnd (idx x.1 0) fun y=>obnd (bzT (x.1,(),y,1)) fun y=>some y.2)
def dzi:FSpec tb:=⟨[(0,.val 256),(1,.fnp 176 0)],[(0,.val 43)],bzq⟩
theorem fz3:A0 175 dzi:=A2 Tryz.func175 czW (.cons fzC .nil)
abbrev hzj:List (Nat×FSpec tb):=[(176,jzZ)]
theorem czV:azl Tryz.prog tb (hzj):=(.cons hzn .nil)
def azU (back:List Dec×Unit×Dec×Int->Option ((Unit)×Dec))(x:List Dec×Unit×Dec×Int):Option ((Unit)×Dec):=brn (decide (x.2.2.2<(↑x.1.length:Int))) (obnd (idx x.1 x.2.2.2) fun y=>obnd (dzF (y,x.2.2.1)) fun y=>brn (decide (0<y)) (obnd (idx x.1 x.2.2.2) fun y=>back (x.1,(),y,i64.wrap (x.2.2.2+1))) (back (x.1,(),x.2.2.1,i64.wrap (x.2.2.2+1)))) (some ((),x.2.2.1))
def bzS:List Dec×Unit×Dec×Int->Option ((Unit)×Dec):=iter azU big
def gzi:CutSpec tb:=⟨52,[(0,.val 256),(1,.fnp 176 0),(5,.ref 43),(6,.val 3)],[((.exit 0),[])],[14,15,16,17,20,21,22,23,24,25,26,27,28,29,30,31,18,19,6],bzS⟩
theorem fzB:A3 Tryz.f177 52 gzi:=A4 czV .nil azU
def az4 (x:List Dec×Unit):Option (Dec):=brn (decide ((↑x.1.length:Int)<1)) none (obnd (idx x.1 0) fun y=>obnd (bzS (x.1,(),y,1)) fun y=>some y.2)
def dzh:FSpec tb:=⟨[(0,.val 256),(1,.fnp 176 0)],[(0,.val 43)],az4⟩
theorem fz0:A0 177 dzh:=A2 Tryz.func177 czV (.cons fzB .nil)
abbrev fun_manyG:List (Nat×FSpec tb):=[(166,czO),(20,fzh),(168,wz4),(122,kza),(169,Azb),(170,jzw),(121,nzl),(171,vzs),(172,izx),(173,ozY),(130,szf),(174,wz7),(175,dzi),(127,qz7),(177,dzh),(38,uzs),(133,AzP),(129,uzr)]
theorem hzN:azl Tryz.prog tb (fun_manyG):=(.cons ezR (.cons azH (.cons yzZ (.cons hzp (.cons Bzj (.cons mzV (.cons gzG (.cons szT (.cons lzJ (.consK mza (.cons ozk (.cons yz1 (.cons fz3 (.cons ezM (.cons fz0 (.cons dz0 (.cons vzy (.cons lzL .nil))))))))))))))))))
def kzc (back:List (UInt8)×Val×Unit×List Val×Int×Int->Option (((List (UInt8))×(Val×Unit))⊕((List (UInt8))×(Val×Unit))))(x:List (UInt8)×Val×Unit×List Val×Int×Int):Option (((List (UInt8))×(Val×Unit))⊕((List (UInt8))×(Val×Unit))):=brn (decide (x.2.2.2.2.2<x.2.2.2.2.1)) (obnd (idx x.2.2.2.1 x.2.2.2.2.2) fun y=>obnd (dzT y) fun y=>brn (!y.2.2) (some (Sum.inr (x.1,y.2.1,()))) (obnd (czU (x.1,(),y.1)) fun y=>back (y.1.1,x.2.1,(),x.2.2.2.1,x.2.2.2.2.1,i64.wrap (x.2.2.2.2.2+1)))) (some (Sum.inl (x.1,x.2.1,())))
def qz5:List (UInt8)×Val×Unit×List Val×Int×Int->Option (((List (UInt8))×(Val×Unit))⊕((List (UInt8))×(Val×Unit))):=iter kzc big
def IzX:CutSpec tb:=⟨172,[(8589934600,.own 5),(4,.ref 45),(8,.box 261095426),(71,.val 70),(72,.val 3),(73,.val 3)],[((.exit 4),[(8589934600,.own 5)]),(.ret,[(8589934600,.own 5)])],[74,75,76,12,78,79,77,80,81,82,14,13,15,83,84,85,86,87,88,73],qz5⟩
theorem Dzl:A3 Tryz.f118 172 IzX:=A4 hzN .nil kzc
def kzb (back:List (UInt8)×Val×Unit×List Arg×Int×Int->Option (((List (UInt8))×(Val×Unit))⊕((List (UInt8))×(Val×Unit))))(x:List (UInt8)×Val×Unit×List Arg×Int×Int):Option (((List (UInt8))×(Val×Unit))⊕((List (UInt8))×(Val×Unit))):=brn (decide (x.2.2.2.2.2<x.2.2.2.2.1)) (obnd (idx x.2.2.2.1 x.2.2.2.2.2) fun y=>obnd (qz5 (x.1,x.2.1,(),y.L,(↑y.L.length:Int),0)) fun y=>osum y (fun y=>back (y.1,y.2.1,(),x.2.2.2.1,x.2.2.2.2.1,i64.wrap (x.2.2.2.2.2+1))) fun y=>some (Sum.inr (y.1,y.2.1,()))) (some (Sum.inl (x.1,x.2.1,())))
def nzh:List (UInt8)×Val×Unit×List Arg×Int×Int->Option (((List (UInt8))×(Val×Unit))⊕((List (UInt8))×(Val×Unit))):=iter kzb big
def IzW:CutSpec tb:=⟨148,[(8589934600,.own 5),(4,.ref 45),(8,.box 261095426),(64,.val 140),(65,.val 3),(66,.val 3)],[((.exit 2),[(8589934600,.own 5)]),(.ret,[(8589934600,.own 5)])],[67,68,69,10,70,71,72,73,74,75,76,12,78,79,77,80,81,82,14,13,15,83,84,85,86,87,88,89,66],nzh⟩
theorem Dzk:A3 Tryz.f118 148 IzW:=A4 hzN (.cons Dzl .nil) kzb
def dzJ (x:Int×List Arg×Val×Int):Option (((Unit)×Val)⊕((Unit)×Val)):=brn (decide (x.2.2.2=3)) (obnd (nzc x.2.1) fun y=>obnd (bzJ y) fun y=>some (Sum.inr ((),y))) (brn (decide (x.2.2.2=11)) (brn (decide (x.2.2.2=11)) (obnd (jzC x.2.1) fun y=>brn (!y.2.2) (brn (!decide (y.2.1.Kind=4)) (obnd (azm 15) fun y=>some (Sum.inr ((),y))) (brn (!y.2.2) (some (Sum.inr ((),y.2.1))) (obnd (az3 (y.1,decide (x.1=12))) fun y=>obnd (czj (decide (y=decide (x.1=12)))) fun y=>some (Sum.inr ((),y))))) (brn (!y.2.2) (some (Sum.inr ((),y.2.1))) (obnd (az3 (y.1,decide (x.1=12))) fun y=>obnd (czj (decide (y=decide (x.1=12)))) fun y=>some (Sum.inr ((),y))))) (brn (decide (x.2.2.2=18)) (obnd (nzh ([],x.2.2.1,(),x.2.1,(↑x.2.1.length:Int),0)) fun y=>osum y (fun y=>obnd (jzA (y.1,())) fun y=>obnd (cz1 y.1) fun y=>some (Sum.inr ((),y))) fun y=>some (Sum.inr ((),y.2.1))) (some (Sum.inl ((),x.2.2.1))))) (brn (decide (x.2.2.2=12)) (obnd (jzC x.2.1) fun y=>brn (!y.2.2) (brn (!decide (y.2.1.Kind=4)) (obnd (azm 15) fun y=>some (Sum.inr ((),y))) (brn (!y.2.2) (some (Sum.inr ((),y.2.1))) (obnd (az3 (y.1,decide (x.1=12))) fun y=>obnd (czj (decide (y=decide (x.1=12)))) fun y=>some (Sum.inr ((),y))))) (brn (!y.2.2) (some (Sum.inr ((),y.2.1))) (obnd (az3 (y.1,decide (x.1=12))) fun y=>obnd (czj (decide (y=decide (x.1=12)))) fun y=>some (Sum.inr ((),y))))) (brn (decide (x.2.2.2=18)) (obnd (nzh ([],x.2.2.1,(),x.2.1,(↑x.2.1.length:Int),0)) fun y=>osum y (fun y=>obnd (jzA (y.1,())) fun y=>obnd (cz1 y.1) fun y=>some (Sum.inr ((),y))) fun y=>some (Sum.inr ((),y.2.1))) (some (Sum.inl ((),x.2.2.1))))))
def IzU:CutSpec tb:=⟨43,[(0,.val 3),(1,.val 140),(4,.ref 45),(26,.val 3)],[(.normal,[]),(.ret,[])],[28,27,29,30,31,33,32,34,36,37,35,38,39,40,6,5,7,42,43,44,45,46,47,48,41,49,51,52,50,53,54,55,56,57,58,59,60,61,63,62,8,64,65,66,67,68,69,10,70,71,72,73,74,75,76,12,78,79,77,80,81,82,14,13,15,83,84,85,86,87,88,89,90,91],(dzJ)⟩
theorem Dzi:A5 Tryz.f118 43 IzU:=A6 hzN (.cons Dzk .nil)
def ezq (x:Int×Val×List Dec):Option (((Unit)×Val)⊕((Unit)×Val)):=brn (decide (x.1=1)) (brn (decide (0<(↑x.2.2.length:Int))) (obnd (bzq (x.2.2,())) fun y=>obnd (bza (y,0)) fun y=>some (Sum.inr ((),y))) (brn (decide (x.1=2)) (brn (decide (0<(↑x.2.2.length:Int))) (obnd (az4 (x.2.2,())) fun y=>obnd (bza (y,0)) fun y=>some (Sum.inr ((),y))) (brn (decide (x.1=1)) (obnd (bzJ 0) fun y=>some (Sum.inr ((),y))) (brn (decide (x.1=2)) (obnd (bzJ 0) fun y=>some (Sum.inr ((),y))) (some (Sum.inl ((),x.2.1)))))) (brn (decide (x.1=1)) (obnd (bzJ 0) fun y=>some (Sum.inr ((),y))) (brn (decide (x.1=2)) (obnd (bzJ 0) fun y=>some (Sum.inr ((),y))) (some (Sum.inl ((),x.2.1))))))) (brn (decide (x.1=2)) (brn (decide (0<(↑x.2.2.length:Int))) (obnd (az4 (x.2.2,())) fun y=>obnd (bza (y,0)) fun y=>some (Sum.inr ((),y))) (brn (decide (x.1=1)) (obnd (bzJ 0) fun y=>some (Sum.inr ((),y))) (brn (decide (x.1=2)) (obnd (bzJ 0) fun y=>some (Sum.inr ((),y))) (some (Sum.inl ((),x.2.1)))))) (brn (decide (x.1=1)) (obnd (bzJ 0) fun y=>some (Sum.inr ((),y))) (brn (decide (x.1=2)) (obnd (bzJ 0) fun y=>some (Sum.inr ((),y))) (some (Sum.inl ((),x.2.1))))))
def IzV:CutSpec tb:=⟨267,[(0,.val 3),(4,.ref 45),(16,.val 256)],[(.normal,[]),(.ret,[])],[102,103,104,105,106,107,108,101,109,110,111,113,114,115,116,117,118,119,112,120,121,122,124,125,126,127,128,129,123,130],(ezq)⟩
theorem Dzj:A5 Tryz.f118 267 IzV:=A6 hzN .nil
def kzd (back:Val×Dec×List Dec×Int×Int->Option (((Unit)×(Val×Dec))⊕((Unit)×(Val×Dec))))(x:Val×Dec×List Dec×Int×Int):Option (((Unit)×(Val×Dec))⊕((Unit)×(Val×Dec))):=brn (decide (x.2.2.2.2<x.2.2.2.1)) (obnd (idx x.2.2.1 x.2.2.2.2) fun y=>obnd (ozg (x.2.1,y)) fun y=>brn (!decide (y.2=0)) (obnd (bza y) fun y_1=>some (Sum.inr ((),y_1,y.1))) (back (x.1,y.1,x.2.2.1,x.2.2.2.1,i64.wrap (x.2.2.2.2+1)))) (some (Sum.inl ((),x.1,x.2.1)))
def qz6:Val×Dec×List Dec×Int×Int->Option (((Unit)×(Val×Dec))⊕((Unit)×(Val×Dec))):=iter kzd big
def IzY:CutSpec tb:=⟨332,[(4,.ref 45),(19,.ref 43),(132,.val 256),(133,.val 3),(134,.val 3)],[((.exit 7),[]),(.ret,[])],[135,136,137,22,139,140,141,138,142,143,20,144,145,146,147,148,149,134],qz6⟩
theorem Dzm:A3 Tryz.f118 332 IzY:=A4 hzN .nil kzd
def bzu (x:Int×List Arg):Option (Val):=obnd (bzf (x.2,())) fun y=>brn y (obnd (azm 15) fun y=>some y) (obnd (dzJ (x.1,x.2,{Kind:=0,N:={M:=0,S:=0},S:=[],B:=false,E:=0},x.1)) fun y=>osum y (fun y=>obnd (nzi x.2) fun y_1=>brn (!y_1.2.2) (some y_1.2.1) (obnd (ezq (x.1,y.2,y_1.1)) fun y=>osum y (fun y=>obnd (bzH 0) fun y_2=>obnd (qz6 (y.2,y_2,y_1.1,(↑(List.length y_1.1):Int),0)) fun y=>osum y (fun y=>brn (decide (x.1=0)) (obnd (bza (y.2.2,0)) fun y=>some y) (obnd (bzH (↑(List.length y_1.1):Int)) fun y_3=>obnd (ezJ (y.2.2,y_3)) fun y=>obnd (bza y) fun y=>some y)) fun y=>some y.2.1) fun y=>some y.2)) fun y=>some y.2)
def GzA:FSpec tb:=⟨[(0,.val 3),(1,.val 140)],[(0,.val 45)],bzu⟩
theorem Fzw:A0 118 GzA:=A2 Tryz.func118 hzN (.cons Dzi (.cons Dzj (.cons Dzm .nil)))
def lzQ (x:Arg):Option (Bool):=brn x.Area (some true) (some (bif decide ((↑x.L.length:Int)=1)then false else true))
def vzH:FSpec tb:=⟨[(0,.val 110)],[(0,.val 4)],lzQ⟩
theorem xzc:A0 180 vzH:=A1 Tryz.func180 .nil
abbrev gzf:List (Nat×FSpec tb):=[(180,vzH)]
theorem czB:azl Tryz.prog tb (gzf):=(.cons xzc .nil)
def azN (back:List Arg×Unit×Int×Int->Option ((Unit)⊕(Int)))(x:List Arg×Unit×Int×Int):Option ((Unit)⊕(Int)):=brn (decide (x.2.2.2<x.2.2.1)) (obnd (idx x.1 x.2.2.2) fun y=>obnd (lzQ y) fun y=>brn y (some (Sum.inr x.2.2.2)) (back (x.1,(),x.2.2.1,i64.wrap (x.2.2.2+1)))) (some (Sum.inl PUnit.unit))
def bzD:List Arg×Unit×Int×Int->Option ((Unit)⊕(Int)):=iter azN big
def fzA:CutSpec tb:=⟨28,[(0,.val 140),(1,.fnp 180 0),(7,.val 3),(8,.val 3)],[((.exit 0),[]),(.ret,[(4,.val 3)])],[9,10,5,11,12,13,14,15,16,17,4,18,8],bzD⟩
theorem ezS:A3 Tryz.f210 28 fzA:=A4 czB .nil azN
def bzR (x:List Arg×Unit):Option (Int):=obnd (bzD (x.1,(),(↑x.1.length:Int),0)) fun y=>osum y (fun y=>some (-1)) fun y=>some y
def gzg:FSpec tb:=⟨[(0,.val 140),(1,.fnp 180 0)],[(0,.val 3)],bzR⟩
theorem ez9:A0 210 gzg:=A2 Tryz.func210 czB (.cons ezS .nil)
def bzC (x:List Arg×Unit):Option (Bool):=obnd (bzR (x.1,())) fun y=>some (decide (0<=y))
def fzy:FSpec tb:=⟨[(0,.val 140),(1,.fnp 180 0)],[(0,.val 4)],bzC⟩
theorem ezA:A0 166 fzy:=A1 Tryz.func166 (.cons ez9 .nil)
def fzk (x:List Arg):Option (Bool):=obnd (bzC (x,())) fun y=>some (bif y then false else true)
def Aza:FSpec tb:=⟨[(0,.val 140)],[(0,.val 4)],fzk⟩
theorem mzh:A0 120 Aza:=A1 Tryz.func120 (.cons ezA .nil)
def nzg (x:List Arg):Option (Val):=obnd (idx x 0) fun y=>brn (!y.Area) (obnd (azm 15) fun y=>some y) (obnd (sub x 1 (↑x.length:Int)) fun z=>obnd (fzk z) fun y=>brn (!y) (obnd (azm 15) fun y=>some y) (obnd (idx x 1) fun y=>obnd (idx y.L 0) fun y=>obnd (bzd y) fun y=>brn (!y.2.2) (some y.2.1) (brn (!decide (y.1.S=0)) (obnd (azm 15) fun y=>some y) (brn (decide (y.1.M<1)) (obnd (azm 23) fun y=>some y) (obnd (idx x 0) fun y_1=>brn (decide ((↑y_1.L.length:Int)<y.1.M)) (obnd (azm 23) fun y=>some y) (obnd (idx x 0) fun y_2=>obnd (idx y_2.L (i64.wrap (y.1.M-1))) fun y=>some y))))))
def IzT:FSpec tb:=⟨[(0,.val 140)],[(0,.val 45)],nzg⟩
theorem yz0:A0 178 IzT:=A1 Tryz.func178 (.cons mzh (.cons azH (.cons czN .nil)))
def bzP (x:Arg):Option (Val):=brn x.Area (obnd (azm 15) fun y=>some y) (brn (!decide ((↑x.L.length:Int)=1)) (obnd (azm 15) fun y=>some y) (obnd (idx x.L 0) fun y=>some y))
def KzR:FSpec tb:=⟨[(0,.val 110)],[(0,.val 45)],bzP⟩
theorem Bzi:A0 179 KzR:=A1 Tryz.func179 (.cons azH .nil)
def bzy (x:Int×List Arg):Option (Val):=brn (decide (x.1=24)) (obnd (nzg x.2) fun y=>some y) (obnd (sub x.2 0 1) fun z=>obnd (fzk z) fun y=>brn (!y) (obnd (azm 15) fun y=>some y) (obnd (idx x.2 0) fun y=>obnd (idx y.L 0) fun y=>brn (decide (x.1=23)) (brn (decide (y.Kind=4)) (obnd (idx x.2 1) fun y=>obnd (bzP y) fun y=>some y) (some y)) (brn (decide (x.1=10)) (obnd (czl y) fun y=>brn (!y.2.2) (some y.2.1) (brn y.1 (obnd (idx x.2 1) fun y=>obnd (bzP y) fun y=>some y) (brn (decide ((↑x.2.length:Int)=2)) (obnd (czj false) fun y=>some y) (obnd (idx x.2 2) fun y=>obnd (bzP y) fun y=>some y)))) (obnd (bzd y) fun y=>brn (!y.2.2) (some y.2.1) (brn (!decide (y.1.S=0)) (obnd (azm 15) fun y=>some y) (brn (decide (y.1.M<1)) (obnd (azm 15) fun y=>some y) (brn (decide ((↑x.2.length:Int)<=y.1.M)) (obnd (azm 15) fun y=>some y) (obnd (idx x.2 y.1.M) fun y=>obnd (bzP y) fun y=>some y))))))))
def zz8:FSpec tb:=⟨[(0,.val 3),(1,.val 140)],[(0,.val 45)],bzy⟩
theorem Bzd:A0 119 zz8:=A1 Tryz.func119 (.cons yz0 (.cons mzh (.cons azH (.cons Bzi (.cons nz0 (.cons gzG (.cons czN .nil)))))))
def hzO (back:Int×Dec->Option (((Unit)×Dec)⊕((Int×Bool)×Dec)))(x:Int×Dec):Option (((Unit)×Dec)⊕((Int×Bool)×Dec)):=brn (decide (x.2.S<x.1)) (brn (!decide (i64.wrap ((i64.wrap (x.2.M*10)).tdiv 10)=x.2.M)) (some (Sum.inr ((0,false),x.2))) (back (x.1,{M:=i64.wrap (x.2.M*10),S:=i64.wrap (x.2.S+1)}))) (some (Sum.inl ((),x.2)))
def ozj:Int×Dec->Option (((Unit)×Dec)⊕((Int×Bool)×Dec)):=iter hzO big
def Fzz:CutSpec tb:=⟨20,[(1,.val 3),(2,.ref 43)],[((.exit 0),[]),(.ret,[(4,.val 2),(5,.val 4)])],[6,7,8,9,14,15,16,17,18,19,20,4,5,21,22,23,24,10,11,12,13],ozj⟩
theorem yz2:A3 Tryz.f215 20 Fzz:=A4 .nil .nil hzO
def lzB (x:Dec×Int):Option (Int×Bool):=obnd (ozj (x.2,x.1)) fun y=>osum y (fun y=>some (y.2.M,true)) fun y=>some y.1
def KzQ:FSpec tb:=⟨[(0,.val 43),(1,.val 3)],[(0,.val 2),(1,.val 4)],lzB⟩
theorem Bzh:A0 215 KzQ:=A2 Tryz.func215 .nil (.cons yz2 .nil)
def sze (x:Dec×Dec):Option (Val):=brn (decide (x.2.M=0)) (obnd (azm 7) fun y=>some y) (obnd (lzB (x.1,bif decide (x.1.S<x.2.S)then x.2.S else x.1.S)) fun y=>obnd (lzB (x.2,bif decide (x.1.S<x.2.S)then x.2.S else x.1.S)) fun y_1=>brn (!y.2) (obnd (azm 36) fun y=>some y) (brn (!y_1.2) (obnd (azm 36) fun y=>some y) (brn (decide (y_1.1=0)) none (brn (!decide (Int.tmod y.1 y_1.1=0)) (brn (!decide (decide (Int.tmod y.1 y_1.1<0)=decide (y_1.1<0))) (obnd (izA {M:=i64.wrap (Int.tmod y.1 y_1.1+y_1.1),S:=bif decide (x.1.S<x.2.S)then x.2.S else x.1.S}) fun y=>obnd (bza (y,0)) fun y=>some y) (obnd (izA {M:=Int.tmod y.1 y_1.1,S:=bif decide (x.1.S<x.2.S)then x.2.S else x.1.S}) fun y=>obnd (bza (y,0)) fun y=>some y)) (obnd (izA {M:=Int.tmod y.1 y_1.1,S:=bif decide (x.1.S<x.2.S)then x.2.S else x.1.S}) fun y=>obnd (bza (y,0)) fun y=>some y)))))
def GzC:FSpec tb:=⟨[(0,.val 43),(1,.val 43)],[(0,.val 45)],sze⟩
theorem Fzy:A0 182 GzC:=A1 Tryz.func182 (.cons azH (.cons Bzh (.cons Fzf (.cons ezM .nil))))
abbrev Hzu:List (Nat×FSpec tb):=[(126,lzK),(38,uzs),(176,jzZ),(128,AzT),(127,qz7),(122,kza),(181,CzV),(182,GzC),(20,fzh),(183,CzZ)]
theorem qz9:azl Tryz.prog tb (Hzu):=(.cons czN (.cons dz0 (.cons hzn (.cons pzH (.cons ezM (.cons hzp (.cons CzW (.cons Fzy (.cons azH (.cons Cz0 .nil))))))))))
def fzH (back:Val×List (Dec)×List Val×Int×Int->Option (((List (Dec))×Val)⊕((Unit)×Val)))(x:Val×List (Dec)×List Val×Int×Int):Option (((List (Dec))×Val)⊕((Unit)×Val)):=brn (decide (x.2.2.2.2<x.2.2.2.1)) (obnd (idx x.2.2.1 x.2.2.2.2) fun y=>obnd (bzd y) fun y=>brn (!y.2.2) (some (Sum.inr ((),y.2.1))) (obnd (app 16 x.2.1 [y.1]) fun zs=>back (x.1,zs,x.2.2.1,x.2.2.2.1,i64.wrap (x.2.2.2.2+1)))) (some (Sum.inl (x.2.1,x.1)))
def mzg:Val×List (Dec)×List Val×Int×Int->Option (((List (Dec))×Val)⊕((Unit)×Val)):=iter fzH big
def Bzg:CutSpec tb:=⟨36,[(4,.ref 45),(5,.own 43),(12,.val 70),(13,.val 3),(14,.val 3)],[((.exit 0),[(5,.own 43)]),(.ret,[])],[15,16,17,7,19,20,18,21,22,23,8,9,10,24,25,26,27,28,29,30,5,31,14],mzg⟩
theorem vz8:A3 Tryz.f124 36 Bzg:=A4 qz9 .nil fzH
def bzF (x:Int×List Val):Option (Val):=obnd (mzg ({Kind:=0,N:={M:=0,S:=0},S:=[],B:=false,E:=0},[],x.2,(↑x.2.length:Int),0)) fun y=>osum y (fun y=>obnd (idx y.1 0) fun y_1=>obnd (bzH 0) fun y_2=>obnd (dzF (y_1,y_2)) fun y_3=>brn (decide (x.1=5)) (brn (decide (y_3<0)) (obnd (bzH 0) fun y_4=>obnd (idx y.1 0) fun y=>obnd (izH (y_4,y)) fun y=>obnd (bza y) fun y=>some y) (obnd (idx y.1 0) fun y=>obnd (bza (y,0)) fun y=>some y)) (brn (decide (x.1=6)) (obnd (bzJ y_3) fun y=>some y) (brn (decide (x.1=7)) (obnd (idx y.1 0) fun y=>obnd (izG y) fun y=>obnd (bza y) fun y=>some y) (brn (decide (x.1=8)) (obnd (idx y.1 0) fun y_4=>obnd (idx y.1 1) fun y=>obnd (sze (y_4,y)) fun y=>some y) (obnd (idx y.1 1) fun y_4=>brn (!decide (y_4.S=0)) (obnd (azm 36) fun y=>some y) (obnd (idx y.1 0) fun y_5=>obnd (idx y.1 1) fun y=>obnd (fzb (y_5,y.M)) fun y=>obnd (bza y) fun y=>some y)))))) fun y=>some y.2
def vzG:FSpec tb:=⟨[(0,.val 3),(1,.val 70)],[(0,.val 45)],bzF⟩
theorem xzb:A0 124 vzG:=A2 Tryz.func124 qz9 (.cons vz8 .nil)
abbrev LzW:List (Nat×FSpec tb):=[(219,ezU),(173,ozY)]
theorem vzE:azl Tryz.prog tb (LzW):=(.cons gza (.consK mza .nil))
def iz6 (back:List (UInt8)×Bool×Unit×((List UInt8×Nat))->Option ((List (UInt8))×(Unit×((List UInt8×Nat)))))(x:List (UInt8)×Bool×Unit×((List UInt8×Nat))):Option ((List (UInt8))×(Unit×((List UInt8×Nat)))):=brn (decide (x.2.2.2.2<x.2.2.2.1.length)) (brn x.2.1 (brn (decide (97<=(↑(rune x.2.2.2.1 x.2.2.2.2).1:Int))) (brn (decide ((↑(rune x.2.2.2.1 x.2.2.2.2).1:Int)<=122)) (obnd (azw (x.1,(),i32.wrap ((↑(rune x.2.2.2.1 x.2.2.2.2).1:Int)+-32))) fun y=>back (y.1.1,x.2.1,(),x.2.2.2.1,x.2.2.2.2+(rune x.2.2.2.1 x.2.2.2.2).2)) (brn (!x.2.1) (brn (decide (65<=(↑(rune x.2.2.2.1 x.2.2.2.2).1:Int))) (brn (decide ((↑(rune x.2.2.2.1 x.2.2.2.2).1:Int)<=90)) (obnd (azw (x.1,(),i32.wrap ((↑(rune x.2.2.2.1 x.2.2.2.2).1:Int)+32))) fun y=>back (y.1.1,x.2.1,(),x.2.2.2.1,x.2.2.2.2+(rune x.2.2.2.1 x.2.2.2.2).2)) (obnd (azw (x.1,(),(↑(rune x.2.2.2.1 x.2.2.2.2).1:Int))) fun y=>back (y.1.1,x.2.1,(),x.2.2.2.1,x.2.2.2.2+(rune x.2.2.2.1 x.2.2.2.2).2))) (obnd (azw (x.1,(),(↑(rune x.2.2.2.1 x.2.2.2.2).1:Int))) fun y=>back (y.1.1,x.2.1,(),x.2.2.2.1,x.2.2.2.2+(rune x.2.2.2.1 x.2.2.2.2).2))) (obnd (azw (x.1,(),(↑(rune x.2.2.2.1 x.2.2.2.2).1:Int))) fun y=>back (y.1.1,x.2.1,(),x.2.2.2.1,x.2.2.2.2+(rune x.2.2.2.1 x.2.2.2.2).2)))) (brn (!x.2.1) (brn (decide (65<=(↑(rune x.2.2.2.1 x.2.2.2.2).1:Int))) (brn (decide ((↑(rune x.2.2.2.1 x.2.2.2.2).1:Int)<=90)) (obnd (azw (x.1,(),i32.wrap ((↑(rune x.2.2.2.1 x.2.2.2.2).1:Int)+32))) fun y=>back (y.1.1,x.2.1,(),x.2.2.2.1,x.2.2.2.2+(rune x.2.2.2.1 x.2.2.2.2).2)) (obnd (azw (x.1,(),(↑(rune x.2.2.2.1 x.2.2.2.2).1:Int))) fun y=>back (y.1.1,x.2.1,(),x.2.2.2.1,x.2.2.2.2+(rune x.2.2.2.1 x.2.2.2.2).2))) (obnd (azw (x.1,(),(↑(rune x.2.2.2.1 x.2.2.2.2).1:Int))) fun y=>back (y.1.1,x.2.1,(),x.2.2.2.1,x.2.2.2.2+(rune x.2.2.2.1 x.2.2.2.2).2))) (obnd (azw (x.1,(),(↑(rune x.2.2.2.1 x.2.2.2.2).1:Int))) fun y=>back (y.1.1,x.2.1,(),x.2.2.2.1,x.2.2.2.2+(rune x.2.2.2.1 x.2.2.2.2).2)))) (brn (!x.2.1) (brn (decide (65<=(↑(rune x.2.2.2.1 x.2.2.2.2).1:Int))) (brn (decide ((↑(rune x.2.2.2.1 x.2.2.2.2).1:Int)<=90)) (obnd (azw (x.1,(),i32.wrap ((↑(rune x.2.2.2.1 x.2.2.2.2).1:Int)+32))) fun y=>back (y.1.1,x.2.1,(),x.2.2.2.1,x.2.2.2.2+(rune x.2.2.2.1 x.2.2.2.2).2)) (obnd (azw (x.1,(),(↑(rune x.2.2.2.1 x.2.2.2.2).1:Int))) fun y=>back (y.1.1,x.2.1,(),x.2.2.2.1,x.2.2.2.2+(rune x.2.2.2.1 x.2.2.2.2).2))) (obnd (azw (x.1,(),(↑(rune x.2.2.2.1 x.2.2.2.2).1:Int))) fun y=>back (y.1.1,x.2.1,(),x.2.2.2.1,x.2.2.2.2+(rune x.2.2.2.1 x.2.2.2.2).2))) (obnd (azw (x.1,(),(↑(rune x.2.2.2.1 x.2.2.2.2).1:Int))) fun y=>back (y.1.1,x.2.1,(),x.2.2.2.1,x.2.2.2.2+(rune x.2.2.2.1 x.2.2.2.2).2)))) (some (x.1,(),x.2.2.2))
def pzK:List (UInt8)×Bool×Unit×((List UInt8×Nat))->Option ((List (UInt8))×(Unit×((List UInt8×Nat)))):=iter iz6 big
def Hzs:CutSpec tb:=⟨36,[(8589934597,.own 5),(1,.val 4),(5,.box 261095426),(9,.iter)],[((.exit 0),[(8589934597,.own 5)])],[10,11,12,7,14,15,16,17,18,19,20,21,22,13,23,24,26,27,28,29,30,31,32,33,34,35,25,36,37,38,39],pzK⟩
theorem Bzc:A3 Tryz.f185 36 Hzs:=A4 vzE .nil iz6
def nzb (x:List UInt8×Bool):Option (List UInt8):=obnd (pzK ([],x.2,(),x.1,0)) fun y=>obnd (jzA (y.1,())) fun y=>some y.1
def Dze:FSpec tb:=⟨[(0,.val 9),(1,.val 4)],[(0,.val 9)],nzb⟩
theorem Dzf:A0 185 Dze:=A2 Tryz.func185 vzE (.cons Bzc .nil)
def jzB (x:Val×Int):Option (Int×Val×Bool):=obnd (bzd x.1) fun y=>brn (!y.2.2) (some (0,y.2.1,false)) (brn (!decide (y.1.S=0)) (obnd (azm 15) fun y=>some (0,y,false)) (brn (decide (y.1.M<x.2)) (obnd (azm 15) fun y=>some (0,y,false)) (some (y.1.M,{Kind:=0,N:={M:=0,S:=0},S:=[],B:=false,E:=0},true))))
def zz7:FSpec tb:=⟨[(0,.val 45),(1,.val 2)],[(0,.val 2),(1,.val 45),(2,.val 4)],jzB⟩
theorem Bzb:A0 186 zz7:=A1 Tryz.func186 (.cons czN (.cons azH .nil))
abbrev fun_partG:List (Nat×FSpec tb):=[(219,ezU),(173,ozY)]
theorem xza:azl Tryz.prog tb (fun_partG):=(.cons gza (.consK mza .nil))
def kzf (back:List (UInt8)×Int×Int×Unit×Int×((List UInt8×Nat))->Option ((List (UInt8))×(Unit×((List UInt8×Nat)))))(x:List (UInt8)×Int×Int×Unit×Int×((List UInt8×Nat))):Option ((List (UInt8))×(Unit×((List UInt8×Nat)))):=brn (decide (x.2.2.2.2.2.2<x.2.2.2.2.2.1.length)) (brn (decide (x.2.1<=x.2.2.2.2.1)) (brn (decide (i64.wrap (x.2.2.2.2.1-x.2.1)<x.2.2.1)) (obnd (azw (x.1,(),(↑(rune x.2.2.2.2.2.1 x.2.2.2.2.2.2).1:Int))) fun y=>back (y.1.1,x.2.1,x.2.2.1,(),i64.wrap (x.2.2.2.2.1+1),x.2.2.2.2.2.1,x.2.2.2.2.2.2+(rune x.2.2.2.2.2.1 x.2.2.2.2.2.2).2)) (back (x.1,x.2.1,x.2.2.1,(),i64.wrap (x.2.2.2.2.1+1),x.2.2.2.2.2.1,x.2.2.2.2.2.2+(rune x.2.2.2.2.2.1 x.2.2.2.2.2.2).2))) (back (x.1,x.2.1,x.2.2.1,(),i64.wrap (x.2.2.2.2.1+1),x.2.2.2.2.2.1,x.2.2.2.2.2.2+(rune x.2.2.2.2.2.1 x.2.2.2.2.2.2).2))) (some (x.1,(),x.2.2.2.2.2))
def qz8:List (UInt8)×Int×Int×Unit×Int×((List UInt8×Nat))->Option ((List (UInt8))×(Unit×((List UInt8×Nat)))):=iter kzf big
def Iz0:CutSpec tb:=⟨44,[(8589934599,.own 5),(1,.val 2),(2,.val 2),(7,.box 261095426),(8,.val 2),(12,.iter)],[((.exit 0),[(8589934599,.own 5)])],[13,14,15,10,16,17,18,19,20,21,22,23,24,25,26,27,28,29,8],qz8⟩
theorem Dzp:A3 Tryz.f187 44 Iz0:=A4 xza .nil kzf
def kze (x:List UInt8×Int×Int):Option (List UInt8):=obnd (qz8 ([],x.2.1,x.2.2,(),0,x.1,0)) fun y=>obnd (jzA (y.1,())) fun y=>some y.1
def GzB:FSpec tb:=⟨[(0,.val 9),(1,.val 2),(2,.val 2)],[(0,.val 9)],kze⟩
theorem Fzx:A0 187 GzB:=A2 Tryz.func187 xza (.cons Dzp .nil)
abbrev KzT:List (Nat×FSpec tb):=[(171,vzs),(184,EzP),(122,kza),(185,Dze),(130,szf),(121,nzl),(186,zz7),(187,GzB),(20,fzh),(188,szR),(1099511627844,mutS)]
theorem ozn:azl Tryz.prog tb (KzT):=(.cons szT (.cons szQ (.cons hzp (.cons Dzf (.cons ozk (.cons gzG (.cons Bzb (.cons Fzx (.cons azH (.cons nzU (.consK szp .nil)))))))))))
def czR (x:Int×List Val×Val×List UInt8×Int):Option (((Unit)×Val)⊕((Unit)×Val)):=brn (decide (x.2.2.2.2=14)) (obnd (izZ x.2.2.2.1) fun y=>obnd (bzJ y.1) fun y=>some (Sum.inr ((),y))) (brn (decide (x.2.2.2.2=19)) (brn (decide (x.2.2.2.2=19)) (obnd (nzb (x.2.2.2.1,decide (x.1=19))) fun y=>obnd (cz1 y) fun y=>some (Sum.inr ((),y))) (brn (decide (x.2.2.2.2=26)) (obnd (idx x.2.1 1) fun y=>obnd (dzT y) fun y=>brn (!y.2.2) (some (Sum.inr ((),y.2.1))) (obnd (czj (decide (x.2.2.2.1=y.1))) fun y=>some (Sum.inr ((),y)))) (some (Sum.inl ((),x.2.2.1))))) (brn (decide (x.2.2.2.2=20)) (obnd (nzb (x.2.2.2.1,decide (x.1=19))) fun y=>obnd (cz1 y) fun y=>some (Sum.inr ((),y))) (brn (decide (x.2.2.2.2=26)) (obnd (idx x.2.1 1) fun y=>obnd (dzT y) fun y=>brn (!y.2.2) (some (Sum.inr ((),y.2.1))) (obnd (czj (decide (x.2.2.2.1=y.1))) fun y=>some (Sum.inr ((),y)))) (some (Sum.inl ((),x.2.2.1))))))
def FzC:CutSpec tb:=⟨51,[(0,.val 3),(1,.val 70),(4,.ref 45),(5,.val 9),(33,.val 3)],[(.normal,[]),(.ret,[])],[35,34,37,38,36,39,40,8,9,41,42,44,43,45,46,47,48,49,50,52,51,54,55,56,57,53,58,59,60,11,10,12,61,62,63,64,65,66,67],(czR)⟩
theorem yz5:A5 Tryz.f125 51 FzC:=A6 ozn .nil
def hzR (back:Int×Val×List (Int)×List Val×Int×Int->Option (((List (Int))×Val)⊕((Unit)×Val)))(x:Int×Val×List (Int)×List Val×Int×Int):Option (((List (Int))×Val)⊕((Unit)×Val)):=brn (decide (x.2.2.2.2.2<x.2.2.2.2.1)) (obnd (idx x.2.2.2.1 x.2.2.2.2.2) fun y=>brn (decide (x.1=17)) (brn (decide (x.2.2.2.2.2=0)) (obnd (jzB (y,1)) fun y=>brn (!y.2.2) (some (Sum.inr ((),y.2.1))) (obnd (inb x.2.2.1.length x.2.2.2.2.2) fun k=>obnd (nth x.2.2.1 k) fun y_1=>back (x.1,x.2.1,x.2.2.1.set k y.1,x.2.2.2.1,x.2.2.2.2.1,i64.wrap (x.2.2.2.2.2+1)))) (obnd (jzB (y,0)) fun y=>brn (!y.2.2) (some (Sum.inr ((),y.2.1))) (obnd (inb x.2.2.1.length x.2.2.2.2.2) fun k=>obnd (nth x.2.2.1 k) fun y_1=>back (x.1,x.2.1,x.2.2.1.set k y.1,x.2.2.2.1,x.2.2.2.2.1,i64.wrap (x.2.2.2.2.2+1))))) (obnd (jzB (y,0)) fun y=>brn (!y.2.2) (some (Sum.inr ((),y.2.1))) (obnd (inb x.2.2.1.length x.2.2.2.2.2) fun k=>obnd (nth x.2.2.1 k) fun y_1=>back (x.1,x.2.1,x.2.2.1.set k y.1,x.2.2.2.1,x.2.2.2.2.1,i64.wrap (x.2.2.2.2.2+1))))) (some (Sum.inl (x.2.2.1,x.2.1)))
def ozo:Int×Val×List (Int)×List Val×Int×Int->Option (((List (Int))×Val)⊕((Unit)×Val)):=iter hzR big
def FzD:CutSpec tb:=⟨156,[(0,.val 3),(4,.ref 45),(13,.wr 2),(70,.val 70),(71,.val 3),(72,.val 3)],[((.exit 1),[(13,.own 2)]),(.ret,[])],[73,74,75,76,15,14,16,77,78,79,80,81,82,84,85,86,83,87,88,89,18,17,19,90,91,92,93,94,95,96,97,72],ozo⟩
theorem yz6:A3 Tryz.f125 156 FzD:=A4 ozn .nil hzR
def bz8 (x:Int×List Val):Option (Val):=obnd (idx x.2 0) fun y=>obnd (dzT y) fun y=>brn (!y.2.2) (some y.2.1) (obnd (czR (x.1,x.2,{Kind:=0,N:={M:=0,S:=0},S:=[],B:=false,E:=0},y.1,x.1)) fun y_1=>osum y_1 (fun y_2=>obnd (sub x.2 1 (↑x.2.length:Int)) fun z=>obnd (ozo (x.1,y_2.2,[1,1],z,(↑z.length:Int),0)) fun y_3=>osum y_3 (fun y_4=>brn (decide (x.1=15)) (obnd (idx y_4.1 0) fun y_5=>obnd (kze (y.1,0,y_5)) fun y=>obnd (cz1 y) fun y=>some y) (brn (decide (x.1=16)) (obnd (bif (List.length y.1).ble 70368744177664 then some (ezz y.1 (List.length y.1) 0)else none) fun rs=>obnd (idx y_4.1 0) fun y_5=>obnd (idx y_4.1 0) fun y_6=>obnd (kze (y.1,bif decide (i64.wrap ((↑rs.length:Int)-y_5)<0)then 0 else i64.wrap ((↑rs.length:Int)-y_5),y_6)) fun y=>obnd (cz1 y) fun y=>some y) (brn (decide (x.1=17)) (obnd (idx y_4.1 0) fun y_5=>obnd (idx y_4.1 1) fun y_6=>obnd (kze (y.1,i64.wrap (y_5-1),y_6)) fun y=>obnd (cz1 y) fun y=>some y) (obnd (izZ y.1) fun y_5=>brn (decide (y_5.1=0)) (obnd (cz1 []) fun y=>some y) (obnd (idx y_4.1 0) fun y_6=>brn (decide (y_5.1=0)) none (brn (decide (i64.wrap (Int.tdiv 1000 y_5.1)<y_6)) (obnd (azm 15) fun y=>some y) (obnd (idx y_4.1 0) fun y_7=>obnd (czy (y.1,y_7)) fun y=>obnd (cz1 y) fun y=>some y))))))) fun y=>some y.2) fun y=>some y.2)
def Azc:FSpec tb:=⟨[(0,.val 3),(1,.val 70)],[(0,.val 45)],bz8⟩
theorem Bzk:A0 125 Azc:=A2 Tryz.func125 ozn (.cons yz5 (.cons yz6 .nil))
abbrev LzV:List (Nat×FSpec tb):=[(117,IzR),(20,fzh),(118,GzA),(119,zz8),(120,Aza),(121,nzl),(122,kza),(123,vzr),(124,vzG),(125,Azc)]
theorem iz3:azl Tryz.prog tb (LzV):=(.cons vzD (.cons azH (.cons Fzw (.cons Bzd (.cons mzh (.cons gzG (.cons hzp (.cons nz0 (.cons xzb (.cons Bzk .nil))))))))))
def bzV (x:Int×List Arg×Val×Int×Bool):Option (((Unit)×Val)⊕((Unit)×Val)):=brn x.2.2.2.2 (obnd (bzu (x.1,x.2.1)) fun y=>some (Sum.inr ((),y))) (brn (decide (x.2.2.2.1=10)) (brn (decide (x.2.2.2.1=10)) (obnd (bzy (x.1,x.2.1)) fun y=>some (Sum.inr ((),y))) (brn (decide (x.2.2.2.1=28)) (obnd (azm 42) fun y=>some (Sum.inr ((),y))) (some (Sum.inl ((),x.2.2.1))))) (brn (decide (x.2.2.2.1=23)) (brn (decide (x.2.2.2.1=23)) (obnd (bzy (x.1,x.2.1)) fun y=>some (Sum.inr ((),y))) (brn (decide (x.2.2.2.1=28)) (obnd (azm 42) fun y=>some (Sum.inr ((),y))) (some (Sum.inl ((),x.2.2.1))))) (brn (decide (x.2.2.2.1=24)) (brn (decide (x.2.2.2.1=24)) (obnd (bzy (x.1,x.2.1)) fun y=>some (Sum.inr ((),y))) (brn (decide (x.2.2.2.1=28)) (obnd (azm 42) fun y=>some (Sum.inr ((),y))) (some (Sum.inl ((),x.2.2.1))))) (brn (decide (x.2.2.2.1=25)) (obnd (bzy (x.1,x.2.1)) fun y=>some (Sum.inr ((),y))) (brn (decide (x.2.2.2.1=28)) (obnd (azm 42) fun y=>some (Sum.inr ((),y))) (some (Sum.inl ((),x.2.2.1))))))))
def Hzp:CutSpec tb:=⟨114,[(0,.val 3),(1,.val 140),(4,.ref 45),(42,.val 3),(43,.val 4)],[(.normal,[]),(.ret,[])],[52,53,54,56,55,57,58,59,60,61,62,64,63,65],(bzV)⟩
theorem Az6:A5 Tryz.f76 114 Hzp:=A6 iz3 .nil
def ezL (x:Int×List Arg×Val×Int):Option (((Unit)×Val)⊕((Unit)×Val)):=brn (decide (x.2.2.2=0)) (obnd (bzV (x.1,x.2.1,x.2.2.1,x.2.2.2,decide (x.2.2.2=0))) fun y=>osum y (fun y=>some (Sum.inl ((),y.2))) fun y=>some (Sum.inr ((),y.2))) (brn (decide (x.2.2.2=1)) (obnd (bzV (x.1,x.2.1,x.2.2.1,x.2.2.2,decide (x.2.2.2=1))) fun y=>osum y (fun y=>some (Sum.inl ((),y.2))) fun y=>some (Sum.inr ((),y.2))) (brn (decide (x.2.2.2=2)) (obnd (bzV (x.1,x.2.1,x.2.2.1,x.2.2.2,decide (x.2.2.2=2))) fun y=>osum y (fun y=>some (Sum.inl ((),y.2))) fun y=>some (Sum.inr ((),y.2))) (brn (decide (x.2.2.2=3)) (obnd (bzV (x.1,x.2.1,x.2.2.1,x.2.2.2,decide (x.2.2.2=3))) fun y=>osum y (fun y=>some (Sum.inl ((),y.2))) fun y=>some (Sum.inr ((),y.2))) (brn (decide (x.2.2.2=4)) (obnd (bzV (x.1,x.2.1,x.2.2.1,x.2.2.2,decide (x.2.2.2=4))) fun y=>osum y (fun y=>some (Sum.inl ((),y.2))) fun y=>some (Sum.inr ((),y.2))) (brn (decide (x.2.2.2=11)) (obnd (bzV (x.1,x.2.1,x.2.2.1,x.2.2.2,decide (x.2.2.2=11))) fun y=>osum y (fun y=>some (Sum.inl ((),y.2))) fun y=>some (Sum.inr ((),y.2))) (brn (decide (x.2.2.2=12)) (obnd (bzV (x.1,x.2.1,x.2.2.1,x.2.2.2,decide (x.2.2.2=12))) fun y=>osum y (fun y=>some (Sum.inl ((),y.2))) fun y=>some (Sum.inr ((),y.2))) (obnd (bzV (x.1,x.2.1,x.2.2.1,x.2.2.2,decide (x.2.2.2=18))) fun y=>osum y (fun y=>some (Sum.inl ((),y.2))) fun y=>some (Sum.inr ((),y.2)))))))))
def Hzo:CutSpec tb:=⟨51,[(0,.val 3),(1,.val 140),(4,.ref 45),(42,.val 3)],[(.normal,[]),(.ret,[])],[44,43,45,46,47,48,49,50,51,52,53,54,56,55,57,58,59,60,61,62,64,63,65],(ezL)⟩
theorem Az5:A5 Tryz.f76 51 Hzo:=A6 iz3 (.cons Az6 .nil)
def iz4 (back:List (Val)×List Arg×Int×Int->Option (List (Val)))(x:List (Val)×List Arg×Int×Int):Option (List (Val)):=brn (decide (x.2.2.2<x.2.2.1)) (obnd (idx x.2.1 x.2.2.2) fun y=>obnd (idx y.L 0) fun y=>obnd (app 56 x.1 [y]) fun zs=>back (zs,x.2.1,x.2.2.1,i64.wrap (x.2.2.2+1))) (some x.1)
def iz5:List (Val)×List Arg×Int×Int->Option (List (Val)):=iter iz4 big
def Hzr:CutSpec tb:=⟨212,[(6,.own 45),(70,.val 140),(71,.val 3),(72,.val 3)],[((.exit 1),[(6,.own 45)])],[73,74,75,8,76,77,78,79,80,81,82,6,83,72],iz5⟩
theorem Az8:A3 Tryz.f76 212 Hzr:=A4 iz3 .nil iz4
def dze (x:Int×Val×List Val×Int):Option (((Unit)×Val)⊕((Unit)×Val)):=brn (decide (x.2.2.2=21)) (obnd (idx x.2.2.1 0) fun y=>obnd (czj (decide (y.Kind=0))) fun y=>some (Sum.inr ((),y))) (brn (decide (x.2.2.2=22)) (obnd (idx x.2.2.1 0) fun y=>obnd (czj (decide (y.Kind=4))) fun y=>some (Sum.inr ((),y))) (brn (decide (x.2.2.2=29)) (obnd (idx x.2.2.1 0) fun y=>obnd (bzJ (hzT keq3 0 y.Kind (kzU keq3 4 16 (kzU keq3 3 4 (kzU keq3 2 2 (kzU keq3 1 1 (kzU keq3 0 1 []))))))) fun y=>some (Sum.inr ((),y))) (brn (decide (x.2.2.2=13)) (obnd (idx x.2.2.1 0) fun y=>obnd (czl y) fun y=>brn (!y.2.2) (some (Sum.inr ((),y.2.1))) (obnd (czj !y.1) fun y=>some (Sum.inr ((),y)))) (brn (decide (x.2.2.2=5)) (brn (decide (x.2.2.2=5)) (obnd (bzF (x.1,x.2.2.1)) fun y=>some (Sum.inr ((),y))) (some (Sum.inl ((),x.2.1)))) (brn (decide (x.2.2.2=6)) (brn (decide (x.2.2.2=6)) (obnd (bzF (x.1,x.2.2.1)) fun y=>some (Sum.inr ((),y))) (some (Sum.inl ((),x.2.1)))) (brn (decide (x.2.2.2=7)) (brn (decide (x.2.2.2=7)) (obnd (bzF (x.1,x.2.2.1)) fun y=>some (Sum.inr ((),y))) (some (Sum.inl ((),x.2.1)))) (brn (decide (x.2.2.2=8)) (brn (decide (x.2.2.2=8)) (obnd (bzF (x.1,x.2.2.1)) fun y=>some (Sum.inr ((),y))) (some (Sum.inl ((),x.2.1)))) (brn (decide (x.2.2.2=9)) (obnd (bzF (x.1,x.2.2.1)) fun y=>some (Sum.inr ((),y))) (some (Sum.inl ((),x.2.1)))))))))))
def Hzq:CutSpec tb:=⟨251,[(0,.val 3),(4,.ref 45),(6,.val 70),(84,.val 3)],[(.normal,[]),(.ret,[])],[86,85,87,88,89,90,91,92,94,93,95,96,97,98,99,100,102,101,103,104,105,106,107,108,109,110,112,111,114,115,116,117,113,118,119,120,10,9,11,121,122,123,124,125,126,128,127,129,130,131,132,133,134,135],(dze)⟩
theorem Az7:A5 Tryz.f76 251 Hzq:=A6 iz3 .nil
def czi (x:Int×List Arg):Option (Val):=obnd (jz9 ()) fun y=>brn (decide (x.1<0)) (obnd (azm 15) fun y=>some y) (brn (decide ((↑(List.length y):Int)<=x.1)) (obnd (azm 15) fun y=>some y) (obnd (idx y x.1) fun y_1=>brn (decide ((↑x.2.length:Int)<y_1.lo)) (obnd (azm 15) fun y=>some y) (obnd (idx y x.1) fun y=>brn (decide (y.hi<(↑x.2.length:Int))) (obnd (azm 15) fun y=>some y) (obnd (ezL (x.1,x.2,{Kind:=0,N:={M:=0,S:=0},S:=[],B:=false,E:=0},x.1)) fun y=>osum y (fun y=>obnd (fzk x.2) fun y_2=>brn (!y_2) (obnd (azm 15) fun y=>some y) (obnd (iz5 ([],x.2,(↑x.2.length:Int),0)) fun y_3=>obnd (dze (x.1,y.2,y_3,x.1)) fun y=>osum y (fun y=>obnd (bz8 (x.1,y_3)) fun y=>some y) fun y=>some y.2)) fun y=>some y.2))))
def Dza:FSpec tb:=⟨[(0,.val 3),(1,.val 140)],[(0,.val 45)],czi⟩
theorem Dzb:A0 76 Dza:=A2 Tryz.func76 iz3 (.cons Az5 (.cons Az8 (.cons Az7 .nil)))
def qzp (x:Int×Val):Option (Val):=brn (decide (x.1=2)) (some x.2) (brn (!decide (x.1=1)) (brn (!decide (x.1=3)) (obnd (azm 15) fun y=>some y) (obnd (bzd x.2) fun y=>brn (!y.2.2) (some y.2.1) (brn (decide (x.1=1)) (obnd (bzH 0) fun y_1=>obnd (izH (y_1,y.1)) fun y=>obnd (bza y) fun y=>some y) (obnd (bzH 100) fun y_1=>obnd (ezJ (y.1,y_1)) fun y=>obnd (bza y) fun y=>some y)))) (obnd (bzd x.2) fun y=>brn (!y.2.2) (some y.2.1) (brn (decide (x.1=1)) (obnd (bzH 0) fun y_1=>obnd (izH (y_1,y.1)) fun y=>obnd (bza y) fun y=>some y) (obnd (bzH 100) fun y_1=>obnd (ezJ (y.1,y_1)) fun y=>obnd (bza y) fun y=>some y))))
def Dzc:FSpec tb:=⟨[(0,.val 3),(1,.val 45)],[(0,.val 45)],qzp⟩
theorem Dzd:A0 78 Dzc:=A1 Tryz.func78 (.cons azH (.cons czN (.cons dz0 (.cons pzH (.cons ezM (.cons lzL .nil))))))
abbrev LzX:List (Nat×FSpec tb):=[(20,fzh),(38,uzs),(134,AzQ),(127,qz7),(129,uzr)]
theorem vzF:azl Tryz.prog tb (LzX):=(.cons azH (.cons dz0 (.cons vzz (.cons ezM (.cons lzL .nil)))))
def iz7 (back:Dec×Val×Dec×Int×Int->Option (((Unit)×(Val×Dec))⊕((Unit)×(Val×Dec))))(x:Dec×Val×Dec×Int×Int):Option (((Unit)×(Val×Dec))⊕((Unit)×(Val×Dec))):=brn (decide (x.2.2.2.2<x.2.2.2.1)) (obnd (gz1 (x.2.2.1,x.1)) fun y=>brn (!decide (y.2=0)) (obnd (bza y) fun y_1=>some (Sum.inr ((),y_1,y.1))) (back (x.1,x.2.1,y.1,x.2.2.2.1,i64.wrap (x.2.2.2.2+1)))) (some (Sum.inl ((),x.2.1,x.2.2.1)))
def pzL:Dec×Val×Dec×Int×Int->Option (((Unit)×(Val×Dec))⊕((Unit)×(Val×Dec))):=iter iz7 big
def Hzt:CutSpec tb:=⟨52,[(2,.ro 43),(4,.ref 45),(5,.ref 43),(27,.val 2),(28,.val 2)],[((.exit 0),[]),(.ret,[])],[29,31,32,33,30,34,35,6,36,37,38,39,40,41,28],pzL⟩
theorem Bzf:A3 Tryz.f135 52 Hzt:=A4 vzF .nil iz7
def qzq (x:Dec×Dec):Option (Val):=brn (!decide (x.2.S=0)) (obnd (azm 36) fun y=>some y) (brn (decide (x.2.M < -64)) (obnd (azm 36) fun y=>some y) (brn (decide (64<x.2.M)) (obnd (azm 36) fun y=>some y) (obnd (bzH 1) fun y=>obnd (pzL (x.1,{Kind:=0,N:={M:=0,S:=0},S:=[],B:=false,E:=0},y,bif decide (x.2.M<i64.wrap (0-x.2.M))then i64.wrap (0-x.2.M)else x.2.M,0)) fun y=>osum y (fun y=>brn (decide (x.2.M<0)) (obnd (bzH 1) fun y_1=>obnd (ezJ (y_1,y.2.2)) fun y=>obnd (bza y) fun y=>some y) (obnd (bza (y.2.2,0)) fun y=>some y)) fun y=>some y.2.1)))
def Dzq:FSpec tb:=⟨[(0,.val 43),(1,.val 43)],[(0,.val 45)],qzq⟩
theorem Dzr:A0 135 Dzq:=A2 Tryz.func135 vzF (.cons Bzf .nil)
abbrev KzP:List (Nat×FSpec tb):=[(20,fzh),(131,Gz9),(130,szf),(132,yzl),(121,nzl),(126,lzK),(133,AzP),(127,qz7),(128,AzT),(134,AzQ),(129,uzr),(135,Dzq)]
theorem tzD:azl Tryz.prog tb (KzP):=(.cons azH (.cons tz9 (.cons ozk (.cons zzU (.cons gzG (.cons czN (.cons vzy (.cons ezM (.cons pzH (.cons vzz (.cons lzL (.cons Dzr .nil))))))))))))
def ozi (x:Int×Val×Val×Val):Option (((Unit)×Val)⊕((Unit)×Val)):=brn (decide (x.2.1.Kind=4)) (some (Sum.inr ((),x.2.1))) (brn (decide (x.2.2.1.Kind=4)) (some (Sum.inr ((),x.2.2.1))) (brn (decide (x.1<1)) (obnd (azm 15) fun y=>some (Sum.inr ((),y))) (brn (decide (12<x.1)) (obnd (azm 15) fun y=>some (Sum.inr ((),y))) (brn (decide (x.1=6)) (obnd (dz7 x.2.1) fun y=>obnd (dz7 x.2.2.1) fun y_1=>obnd (cat y y_1) fun z=>obnd (cz1 z) fun y=>some (Sum.inr ((),y))) (brn (decide (6<x.1)) (obnd (azK (x.2.1,x.2.2.1)) fun y=>obnd (idx [decide (y=0),!decide (y=0),decide (y<0),decide (y<=0),decide (0<y),decide (0<=y)] (i64.wrap (x.1-7))) fun y=>obnd (czj y) fun y=>some (Sum.inr ((),y))) (some (Sum.inl ((),x.2.2.2))))))))
def Fzu:CutSpec tb:=⟨19,[(0,.val 3),(4,.ro 45),(5,.ro 45),(6,.ref 45)],[(.normal,[]),(.ret,[])],[13,14,15,12,16,18,19,20,17,21,23,24,25,26,27,28,22,29,31,32,30,33,34,35,36,37,38,40,41,39,42,43,44,7,45,46,47,48,49,50,51,52,53,54,55,56,57,58,59,60,61,62],(ozi)⟩
theorem yzY:A5 Tryz.f79 19 Fzu:=A6 tzD .nil
def oz7 (x:Int×Val×Val):Option (Val):=obnd (ozi (x.1,x.2.1,x.2.2,{Kind:=0,N:={M:=0,S:=0},S:=[],B:=false,E:=0})) fun y=>osum y (fun y=>obnd (bzd x.2.1) fun y=>brn (!y.2.2) (some y.2.1) (obnd (bzd x.2.2) fun y_1=>brn (!y_1.2.2) (some y_1.2.1) (brn (decide (x.1=1)) (obnd (ozg (y.1,y_1.1)) fun y=>obnd (bza y) fun y=>some y) (brn (decide (x.1=2)) (obnd (izH (y.1,y_1.1)) fun y=>obnd (bza y) fun y=>some y) (brn (decide (x.1=3)) (obnd (gz1 (y.1,y_1.1)) fun y=>obnd (bza y) fun y=>some y) (brn (decide (x.1=4)) (obnd (ezJ (y.1,y_1.1)) fun y=>obnd (bza y) fun y=>some y) (obnd (qzq (y.1,y_1.1)) fun y=>some y))))))) fun y=>some y.2
def zz6:FSpec tb:=⟨[(0,.val 3),(1,.val 45),(2,.val 45)],[(0,.val 45)],oz7⟩
theorem Az9:A0 79 zz6:=A2 Tryz.func79 tzD (.cons yzY .nil)
set_option linter.unusedVariables false
def bzM (x:Dec):Option (Val):=some {Kind:=1,N:=x,S:=[],B:=false,E:=0}
def nzB:FSpec tb:=⟨[(0,.val 23)],[(0,.val 25)],bzM⟩
theorem dzW:A0 53 nzB:=A1 Tryz.func53 .nil
def azL (x:Dec×Int):Option (Val):=brn (decide (x.2=0)) (obnd (bzM x.1) fun y=>some y) (brn (decide (x.2=9)) (obnd (azg 7) fun y=>some y) (obnd (azg 36) fun y=>some y))
def kzs:FSpec tb:=⟨[(0,.val 23),(1,.val 3)],[(0,.val 25)],azL⟩
theorem ezY:A0 87 kzs:=A1 Tryz.func87 (.cons dzW (.cons azG .nil))
def nzC (x:Int×Val):Option (Val):=brn (decide (x.1=2)) (some x.2) (obnd (azX x.2) fun y=>brn (!decide (x.1=1)) (brn (!decide (x.1=3)) (obnd (azg 15) fun y=>some y) (brn (!y.2.2) (some y.2.1) (brn (decide (x.1=1)) (obnd (dzP ({M:=0,S:=0},y.1)) fun y=>obnd (azL y) fun y=>some y) (obnd (bz6 (y.1,{M:=100,S:=0})) fun y=>obnd (azL y) fun y=>some y)))) (brn (!y.2.2) (some y.2.1) (brn (decide (x.1=1)) (obnd (dzP ({M:=0,S:=0},y.1)) fun y=>obnd (azL y) fun y=>some y) (obnd (bz6 (y.1,{M:=100,S:=0})) fun y=>obnd (azL y) fun y=>some y))))
def xzS:FSpec tb:=⟨[(0,.val 3),(1,.val 25)],[(0,.val 25)],nzC⟩
theorem zzl:A0 58 xzS:=A1 Tryz.func58 (.cons czJ (.cons azG (.cons lzt (.cons ezY (.cons hzB .nil)))))
def bzt (x:Bool):Option (Val):=some {Kind:=3,N:={M:=0,S:=0},S:=[],B:=x,E:=0}
def jze:FSpec tb:=⟨[(0,.val 4)],[(0,.val 25)],bzt⟩
theorem ezv:A0 90 jze:=A1 Tryz.func90 .nil
def azA (x:List UInt8):Option (Val):=obnd (fzm x) fun y=>brn (!decide (y.2=0)) (obnd (azg 15) fun y=>some y) (some {Kind:=2,N:={M:=0,S:=0},S:=x,B:=false,E:=0})
def kzt:FSpec tb:=⟨[(0,.val 9)],[(0,.val 25)],azA⟩
theorem hzu:A0 91 kzt:=A1 Tryz.func91 (.cons izX (.cons azG .nil))
def kzu (x:Dec×Int×Int):Option (Int×Bool):=brn (decide (x.1.S=0)) (brn (decide (x.2.1<=x.1.M)) (some (x.1.M,decide (x.1.M<=x.2.2))) (some (x.1.M,false))) (some (x.1.M,false))
def rzy:FSpec tb:=⟨[(0,.val 23),(1,.val 2),(2,.val 2)],[(0,.val 3),(1,.val 4)],kzu⟩
theorem qzc:A0 150 rzy:=A1 Tryz.func150 .nil
abbrev JzJ:List (Nat×FSpec tb):=[(150,rzy),(52,bzY),(94,ize),(87,kzs),(88,fzX),(53,nzB)]
theorem szB:azl Tryz.prog tb (JzJ):=(.cons qzc (.cons azG (.cons qzg (.cons ezY (.cons hzB (.cons dzW .nil))))))
def gzR (back:Dec×Val×Int×Dec×Int->Option (((Unit)×(Val×Dec))⊕((Unit)×(Val×Dec))))(x:Dec×Val×Int×Dec×Int):Option (((Unit)×(Val×Dec))⊕((Unit)×(Val×Dec))):=brn (decide (x.2.2.2.2<x.2.2.1)) (obnd (fzY (x.2.2.2.1,x.1)) fun y=>brn (!decide (y.2=0)) (obnd (azL y) fun y=>some (Sum.inr ((),y,x.2.2.2.1))) (back (x.1,x.2.1,x.2.2.1,y.1,i64.wrap (x.2.2.2.2+1)))) (some (Sum.inl ((),x.2.1,x.2.2.2.1)))
def jzR:Dec×Val×Int×Dec×Int->Option (((Unit)×(Val×Dec))⊕((Unit)×(Val×Dec))):=iter gzR big
def Ezj:CutSpec tb:=⟨84,[(2,.ro 23),(4,.ref 25),(7,.val 3),(8,.ref 23),(9,.val 3)],[((.exit 0),[]),(.ret,[])],[28,29,30,34,35,36,33,37,38,10,11,39,40,41,42,43,44,31,32,9],jzR⟩
theorem xz0:A3 Tryz.f95 84 Ezj:=A4 szB .nil gzR
def nzF (x:Dec×Dec):Option (Val):=obnd (kzu (x.2,-64,64)) fun y=>brn (!y.2) (obnd (azg 36) fun y=>some y) (brn (decide (y.1<0)) (obnd (jzR (x.1,{Kind:=0,N:={M:=0,S:=0},S:=[],B:=false,E:=0},i64.wrap (0-y.1),{M:=1,S:=0},0)) fun y_1=>osum y_1 (fun y_2=>brn (decide (y.1<0)) (obnd (bz6 ({M:=1,S:=0},y_2.2.2)) fun y=>obnd (azL y) fun y=>some y) (obnd (bzM y_2.2.2) fun y=>some y)) fun y=>some y.2.1) (obnd (jzR (x.1,{Kind:=0,N:={M:=0,S:=0},S:=[],B:=false,E:=0},y.1,{M:=1,S:=0},0)) fun y_1=>osum y_1 (fun y_2=>brn (decide (y.1<0)) (obnd (bz6 ({M:=1,S:=0},y_2.2.2)) fun y=>obnd (azL y) fun y=>some y) (obnd (bzM y_2.2.2) fun y=>some y)) fun y=>some y.2.1))
def xzZ:FSpec tb:=⟨[(0,.val 23),(1,.val 23)],[(0,.val 25)],nzF⟩
theorem zzB:A0 95 xzZ:=A2 Tryz.func95 szB (.cons xz0 .nil)
abbrev HzI:List (Nat×FSpec tb):=[(52,bzY),(89,pzv),(90,jze),(92,tzU),(91,kzt),(85,ezO),(93,iza),(86,izl),(94,ize),(88,fzX),(95,xzZ),(87,kzs)]
theorem rzp:azl Tryz.prog tb (HzI):=(.cons azG (.cons rz0 (.cons ezv (.cons oza (.cons hzu (.cons czJ (.cons qze (.cons lzt (.cons qzg (.cons hzB (.cons zzB (.cons ezY .nil))))))))))))
def mzm (x:Int):Option (Bool):=brn (decide (x<1)) (some true) (some (decide (12<x)))
def BzE:CutSpec tb:=⟨48,[(0,.val 3)],[(.normal,[(29,.val 4)])],[24,25,26,27,28,29],(mzm)⟩
theorem wze:A5 Tryz.f59 48 BzE:=A6 rzp .nil
def lzT (x:Int×Val×Val):Option (Val):=brn (decide (x.2.1.Kind=4)) (some x.2.1) (brn (decide (x.2.2.Kind=4)) (some x.2.2) (obnd (mzm x.1) fun y=>brn y (obnd (azg 15) fun y=>some y) (brn (decide (7<=x.1)) (obnd (azv x.2) fun y=>brn (decide (x.1=7)) (obnd (bzt (decide (y=0))) fun y=>some y) (brn (decide (x.1=8)) (obnd (bzt !decide (y=0)) fun y=>some y) (brn (decide (x.1=9)) (obnd (bzt (decide (y<0))) fun y=>some y) (brn (decide (x.1=10)) (obnd (bzt (decide (y<=0))) fun y=>some y) (brn (decide (x.1=11)) (obnd (bzt (decide (0<y))) fun y=>some y) (obnd (bzt (decide (0<=y))) fun y=>some y)))))) (brn (decide (x.1=6)) (obnd (dzs x.2.1) fun y=>obnd (dzs x.2.2) fun y_1=>obnd (cat y y_1) fun z=>obnd (azA z) fun y=>some y) (obnd (azX x.2.1) fun y=>brn (!y.2.2) (some y.2.1) (obnd (azX x.2.2) fun y_1=>brn (!y_1.2.2) (some y_1.2.1) (brn (decide (x.1=1)) (obnd (hz9 (y.1,y_1.1)) fun y=>obnd (azL y) fun y=>some y) (brn (decide (x.1=2)) (obnd (dzP (y.1,y_1.1)) fun y=>obnd (azL y) fun y=>some y) (brn (decide (x.1=3)) (obnd (fzY (y.1,y_1.1)) fun y=>obnd (azL y) fun y=>some y) (brn (decide (x.1=4)) (obnd (bz6 (y.1,y_1.1)) fun y=>obnd (azL y) fun y=>some y) (brn (decide (x.1=5)) (obnd (nzF (y.1,y_1.1)) fun y=>some y) (obnd (azL ({M:=0,S:=0},0)) fun y=>some y))))))))))))
def vzO:FSpec tb:=⟨[(0,.val 3),(1,.val 25),(2,.val 25)],[(0,.val 25)],lzT⟩
theorem xzL:A0 59 vzO:=A2 Tryz.func59 rzp (.cons wze .nil)
def fzQ (back:List Arg×Int->Option ((Unit)⊕(Bool)))(x:List Arg×Int):Option ((Unit)⊕(Bool)):=brn (decide (x.2<(↑x.1.length:Int))) (obnd (idx x.1 x.2) fun y=>brn (!y.Area) (obnd (idx x.1 x.2) fun y=>brn (!decide ((↑y.L.length:Int)=1)) (some (Sum.inr false)) (back (x.1,i64.wrap (x.2+1)))) (back (x.1,i64.wrap (x.2+1)))) (some (Sum.inl PUnit.unit))
def mzr:List Arg×Int->Option ((Unit)⊕(Bool)):=iter fzQ big
def BzV:CutSpec tb:=⟨28,[(0,.val 123),(3,.val 3)],[((.exit 0),[]),(.ret,[(2,.val 4)])],[4,5,6,7,10,11,12,13,14,15,16,17,18,19,20,21,22,23,24,2,8,9,3],mzr⟩
theorem wzr:A3 Tryz.f151 28 BzV:=A4 .nil .nil fzQ
def gzp (x:List Arg):Option (Bool):=obnd (mzr (x,0)) fun y=>osum y (fun y=>some true) fun y=>some y
def lzV:FSpec tb:=⟨[(0,.val 123)],[(0,.val 4)],gzp⟩
theorem kzw:A0 151 lzV:=A2 Tryz.func151 .nil (.cons wzr .nil)
abbrev Fz1:List (Nat×FSpec tb):=[(85,ezO)]
theorem hzy:azl Tryz.prog tb (Fz1):=(.cons czJ .nil)
def hzz (x:Bool×Val×List (Dec)×Arg×Int):Option (((List (Dec))×Val)⊕((List (Dec)×Bool)×Val)):=obnd (idx x.2.2.2.1.L x.2.2.2.2) fun y=>brn x.2.2.2.1.Area (brn (!decide (y.Kind=1)) (brn (!decide (y.Kind=4)) (some (Sum.inl (x.2.2.1,x.2.1))) (brn x.1 (some (Sum.inl (x.2.2.1,x.2.1))) (obnd (azX y) fun y=>brn (!y.2.2) (brn x.1 (some (Sum.inl (x.2.2.1,x.2.1))) (brn (!y.2.2) (some (Sum.inr (([],false),y.2.1))) (obnd (app 16 x.2.2.1 [y.1]) fun zs=>some (Sum.inl (zs,x.2.1))))) (brn (!y.2.2) (some (Sum.inr (([],false),y.2.1))) (obnd (app 16 x.2.2.1 [y.1]) fun zs=>some (Sum.inl (zs,x.2.1))))))) (obnd (azX y) fun y=>brn (!y.2.2) (brn x.1 (some (Sum.inl (x.2.2.1,x.2.1))) (brn (!y.2.2) (some (Sum.inr (([],false),y.2.1))) (obnd (app 16 x.2.2.1 [y.1]) fun zs=>some (Sum.inl (zs,x.2.1))))) (brn (!y.2.2) (some (Sum.inr (([],false),y.2.1))) (obnd (app 16 x.2.2.1 [y.1]) fun zs=>some (Sum.inl (zs,x.2.1)))))) (obnd (azX y) fun y=>brn (!y.2.2) (brn x.1 (some (Sum.inl (x.2.2.1,x.2.1))) (brn (!y.2.2) (some (Sum.inr (([],false),y.2.1))) (obnd (app 16 x.2.2.1 [y.1]) fun zs=>some (Sum.inl (zs,x.2.1))))) (brn (!y.2.2) (some (Sum.inr (([],false),y.2.1))) (obnd (app 16 x.2.2.1 [y.1]) fun zs=>some (Sum.inl (zs,x.2.1)))))
def zzx:CutSpec tb:=⟨83,[(1,.val 4),(5,.ref 25),(7,.own 23),(9,.ro 96),(10,.val 3)],[(.normal,[(7,.own 23)]),(.ret,[(4,.own 23),(6,.val 4)])],[32,33,34,35,36,11,37,38,39,40,41,42,43,44,45,46,47,48,49,50,51,53,54,52,55,56,57,12,13,14,58,59,60,61,62,63,64,65,4,6,66,67,68,69,7],(hzz)⟩
theorem uz2:A5 Tryz.f152 83 zzx:=A6 hzy .nil
def ez0 (back:Bool×Val×List (Dec)×Arg×Int->Option (((List (Dec))×Val)⊕((List (Dec)×Bool)×Val)))(x:Bool×Val×List (Dec)×Arg×Int):Option (((List (Dec))×Val)⊕((List (Dec)×Bool)×Val)):=brn (decide (x.2.2.2.2<(↑x.2.2.2.1.L.length:Int))) (obnd (hzz (x.1,x.2.1,x.2.2.1,x.2.2.2)) fun y=>osum y (fun y=>back (x.1,y.2,y.1,x.2.2.2.1,i64.wrap (x.2.2.2.2+1))) fun y=>some (Sum.inr (y.1,y.2))) (some (Sum.inl (x.2.2.1,x.2.1)))
def lzq:Bool×Val×List (Dec)×Arg×Int->Option (((List (Dec))×Val)⊕((List (Dec)×Bool)×Val)):=iter ez0 big
def zzz:CutSpec tb:=⟨68,[(1,.val 4),(5,.ref 25),(7,.own 23),(9,.ro 96),(10,.val 3)],[((.exit 2),[(7,.own 23)]),(.ret,[(4,.own 23),(6,.val 4)])],[25,26,27,28,29,32,33,34,35,36,11,37,38,39,40,41,42,43,44,45,46,47,48,49,50,51,53,54,52,55,56,57,12,13,14,58,59,60,61,62,63,64,65,4,6,66,67,68,69,7,30,31,10],lzq⟩
theorem uz4:A3 Tryz.f152 68 zzz:=A4 hzy (.cons uz2 .nil) ez0
def ezZ (back:List Arg×Bool×Val×List (Dec)×Int->Option (((List (Dec))×Val)⊕((List (Dec)×Bool)×Val)))(x:List Arg×Bool×Val×List (Dec)×Int):Option (((List (Dec))×Val)⊕((List (Dec)×Bool)×Val)):=brn (decide (x.2.2.2.2<(↑x.1.length:Int))) (obnd (idx x.1 x.2.2.2.2) fun y=>obnd (lzq (x.2.1,x.2.2.1,x.2.2.2.1,y,0)) fun y=>osum y (fun y=>back (x.1,x.2.1,y.2,y.1,i64.wrap (x.2.2.2.2+1))) fun y=>some (Sum.inr (y.1,y.2))) (some (Sum.inl (x.2.2.2.1,x.2.2.1)))
def hzA:List Arg×Bool×Val×List (Dec)×Int->Option (((List (Dec))×Val)⊕((List (Dec)×Bool)×Val)):=iter ezZ big
def zzy:CutSpec tb:=⟨36,[(0,.val 123),(1,.val 4),(5,.ref 25),(7,.own 23),(8,.val 3)],[((.exit 0),[(7,.own 23)]),(.ret,[(4,.own 23),(6,.val 4)])],[15,16,17,18,21,22,23,24,9,10,25,26,27,28,29,32,33,34,35,36,11,37,38,39,40,41,42,43,44,45,46,47,48,49,50,51,53,54,52,55,56,57,12,13,14,58,59,60,61,62,63,64,65,4,6,66,67,68,69,7,30,31,19,20,8],hzA⟩
theorem uz3:A3 Tryz.f152 36 zzy:=A4 hzy (.cons uz4 .nil) ezZ
def kzY (x:List Arg×Bool):Option (List (Dec)×Val×Bool):=obnd (hzA (x.1,x.2,{Kind:=0,N:={M:=0,S:=0},S:=[],B:=false,E:=0},[],0)) fun y=>osum y (fun y=>some (y.1,{Kind:=0,N:={M:=0,S:=0},S:=[],B:=false,E:=0},true)) fun y=>some (y.1.1,y.2,y.1.2)
def tzW:FSpec tb:=⟨[(0,.val 123),(1,.val 4)],[(0,.own 23),(1,.val 25),(2,.val 4)],kzY⟩
theorem wzl:A0 152 tzW:=A2 Tryz.func152 hzy (.cons uz3 .nil)
abbrev Mzw:List (Nat×FSpec tb):=[(93,iza)]
theorem vzU:azl Tryz.prog tb (Mzw):=(.cons qze .nil)
def jzh (back:List Dec×Dec×Dec×Int->Option (((Unit)×(Dec×Dec))⊕((Int)×(Dec×Dec))))(x:List Dec×Dec×Dec×Int):Option (((Unit)×(Dec×Dec))⊕((Int)×(Dec×Dec))):=brn (decide (x.2.2.2<(↑x.1.length:Int))) (obnd (idx x.1 x.2.2.2) fun y=>obnd (hz9 (x.2.2.1,y)) fun y=>brn (!decide (y.2=0)) (some (Sum.inr (y.2,{M:=0,S:=0},x.2.2.1))) (back (x.1,x.2.1,y.1,i64.wrap (x.2.2.2+1)))) (some (Sum.inl ((),x.2.1,x.2.2.1)))
def pzS:List Dec×Dec×Dec×Int->Option (((Unit)×(Dec×Dec))⊕((Int)×(Dec×Dec))):=iter jzh big
def HzP:CutSpec tb:=⟨36,[(0,.val 222),(2,.ref 23),(4,.ref 23),(5,.val 3)],[((.exit 0),[]),(.ret,[(3,.val 3)])],[9,10,11,12,16,17,18,19,20,21,15,22,23,6,7,24,25,26,27,3,28,13,14,5],pzS⟩
theorem BzX:A3 Tryz.f153 36 HzP:=A4 vzU .nil jzh
def nzH (x:List Dec):Option (Dec×Int):=obnd (pzS (x,{M:=0,S:=0},{M:=0,S:=0},0)) fun y=>osum y (fun y=>some (y.2.2,0)) fun y=>some (y.2.1,y.1)
def Ezl:FSpec tb:=⟨[(0,.val 222)],[(0,.val 23),(1,.val 3)],nzH⟩
theorem Ezm:A0 153 Ezl:=A2 Tryz.func153 vzU (.cons BzX .nil)
abbrev HzN:List (Nat×FSpec tb):=[(151,lzV),(52,bzY),(152,tzW),(53,nzB),(145,ezf),(153,Ezl),(88,fzX),(87,kzs)]
theorem rzz:azl Tryz.prog tb (HzN):=(.cons kzw (.cons azG (.cons wzl (.cons dzW (.cons izc (.cons Ezm (.cons hzB (.cons ezY .nil))))))))
def fzN (back:Int×List Dec×Dec×Int->Option ((Unit)×Dec))(x:Int×List Dec×Dec×Int):Option ((Unit)×Dec):=brn (decide (x.2.2.2<(↑x.2.1.length:Int))) (obnd (idx x.2.1 x.2.2.2) fun y=>obnd (czM (y,x.2.2.1)) fun y=>brn (decide (x.2.2.2=0)) (obnd (idx x.2.1 x.2.2.2) fun y=>back (x.1,x.2.1,y,i64.wrap (x.2.2.2+1))) (brn (decide (x.1=1)) (brn (decide (y<0)) (obnd (idx x.2.1 x.2.2.2) fun y=>back (x.1,x.2.1,y,i64.wrap (x.2.2.2+1))) (brn (decide (x.1=2)) (brn (decide (0<y)) (obnd (idx x.2.1 x.2.2.2) fun y=>back (x.1,x.2.1,y,i64.wrap (x.2.2.2+1))) (back (x.1,x.2.1,x.2.2.1,i64.wrap (x.2.2.2+1)))) (back (x.1,x.2.1,x.2.2.1,i64.wrap (x.2.2.2+1))))) (brn (decide (x.1=2)) (brn (decide (0<y)) (obnd (idx x.2.1 x.2.2.2) fun y=>back (x.1,x.2.1,y,i64.wrap (x.2.2.2+1))) (back (x.1,x.2.1,x.2.2.1,i64.wrap (x.2.2.2+1)))) (back (x.1,x.2.1,x.2.2.1,i64.wrap (x.2.2.2+1)))))) (some ((),x.2.2.1))
def izT:Int×List Dec×Dec×Int->Option ((Unit)×Dec):=iter fzN big
def BzN:CutSpec tb:=⟨116,[(0,.val 3),(5,.val 222),(8,.ref 23),(9,.val 3)],[((.exit 1),[])],[39,40,41,42,45,46,47,48,49,50,10,51,52,53,54,55,56,57,58,59,60,61,62,63,64,65,66,67,68,69,70,71,72,43,44,9],izT⟩
theorem wzj:A3 Tryz.f96 116 BzN:=A4 rzz .nil fzN
def jzf (x:Int×List Arg):Option (Val):=obnd (gzp x.2) fun y=>brn (!y) (obnd (azg 15) fun y=>some y) (obnd (kzY (x.2,decide (x.1=3))) fun y=>brn (!y.2.2) (some y.2.1) (brn (decide (x.1=3)) (obnd (bzM {M:=(↑(List.length y.1):Int),S:=0}) fun y=>some y) (brn (decide (x.1=1)) (brn (decide (x.1=1)) (obnd (izT (x.1,y.1,{M:=0,S:=0},0)) fun y=>obnd (bzM y.2) fun y=>some y) (obnd (nzH y.1) fun y_1=>brn (decide (y_1.2=0)) (brn (decide (x.1=4)) (obnd (bz6 (y_1.1,{M:=(↑(List.length y.1):Int),S:=0})) fun y=>obnd (azL y) fun y=>some y) (obnd (azL y_1) fun y=>some y)) (obnd (azL y_1) fun y=>some y))) (brn (decide (x.1=2)) (obnd (izT (x.1,y.1,{M:=0,S:=0},0)) fun y=>obnd (bzM y.2) fun y=>some y) (obnd (nzH y.1) fun y_1=>brn (decide (y_1.2=0)) (brn (decide (x.1=4)) (obnd (bz6 (y_1.1,{M:=(↑(List.length y.1):Int),S:=0})) fun y=>obnd (azL y) fun y=>some y) (obnd (azL y_1) fun y=>some y)) (obnd (azL y_1) fun y=>some y))))))
def vzS:FSpec tb:=⟨[(0,.val 3),(1,.val 123)],[(0,.val 25)],jzf⟩
theorem xzW:A0 96 vzS:=A2 Tryz.func96 rzz (.cons wzj .nil)
def fzR (back:List Arg×Int->Option ((Unit)⊕(Bool)))(x:List Arg×Int):Option ((Unit)⊕(Bool)):=brn (decide (x.2<(↑x.1.length:Int))) (obnd (idx x.1 x.2) fun y=>brn y.Area (some (Sum.inr false)) (obnd (idx x.1 x.2) fun y=>brn (!decide ((↑y.L.length:Int)=1)) (some (Sum.inr false)) (back (x.1,i64.wrap (x.2+1))))) (some (Sum.inl PUnit.unit))
def mzs:List Arg×Int->Option ((Unit)⊕(Bool)):=iter fzR big
def BzW:CutSpec tb:=⟨44,[(0,.val 123),(7,.val 3)],[((.exit 0),[]),(.ret,[(6,.val 4)])],[18,19,20,21,24,25,26,27,28,29,30,31,32,33,34,35,36,37,6,22,23,7],mzs⟩
theorem wzs:A3 Tryz.f154 44 BzW:=A4 .nil .nil fzR
def azY (x:List Arg×Int×Int):Option (Bool):=brn (decide ((↑x.1.length:Int)<x.2.1)) (some false) (brn (decide (x.2.2<(↑x.1.length:Int))) (some false) (obnd (mzs (x.1,0)) fun y=>osum y (fun y=>some true) fun y=>some y))
def jzg:FSpec tb:=⟨[(0,.val 123),(1,.val 3),(2,.val 3)],[(0,.val 4)],azY⟩
theorem ezw:A0 154 jzg:=A2 Tryz.func154 .nil (.cons wzs .nil)
def hz3 (back:Int×Int×Int->Option ((Int)⊕(Int×Int)))(x:Int×Int×Int):Option ((Int)⊕(Int×Int)):=brn (decide (x.2.2<x.1)) (brn (decide (922337203685477580<x.2.1)) (some (Sum.inr (0,8))) (brn (decide (x.2.1 < -922337203685477580)) (some (Sum.inr (0,8))) (back (x.1,i64.wrap (10*x.2.1),i64.wrap (x.2.2+1))))) (some (Sum.inl x.2.1))
def ozE:Int×Int×Int->Option ((Int)⊕(Int×Int)):=iter hz3 big
def FzV:CutSpec tb:=⟨36,[(1,.val 3),(6,.val 2),(7,.val 3)],[((.exit 0),[(6,.val 2)]),(.ret,[(4,.val 2),(5,.val 3)])],[12,13,14,17,18,19,20,21,22,4,5,23,24,6,15,16,7],ozE⟩
theorem zzq:A3 Tryz.f205 36 FzV:=A4 .nil .nil hz3
def lzD (x:Dec×Int):Option (Int×Int):=obnd (ozE (x.2,x.1.M,x.1.S)) fun y=>osum y (fun y=>some (y,0)) fun y=>some y
def Azo:FSpec tb:=⟨[(0,.val 23),(1,.val 3)],[(0,.val 2),(1,.val 3)],lzD⟩
theorem BzO:A0 205 Azo:=A2 Tryz.func205 .nil (.cons zzq .nil)
abbrev Mzt:List (Nat×FSpec tb):=[(205,Azo),(206,nzK)]
theorem vzP:azl Tryz.prog tb (Mzt):=(.cons BzO (.cons Ezt .nil))
def lzU (x:Dec×Int×Bool):Option (Int):=brn x.2.2 (some x.1.2) (some x.2.1)
def HzJ:CutSpec tb:=⟨50,[(3,.ro 23),(6,.val 3),(21,.val 4)],[(.normal,[(6,.val 3)])],[22,23,6],(lzU)⟩
theorem BzH:A5 Tryz.f156 50 HzJ:=A6 vzP .nil
def qzz (x:Dec×Dec):Option (Dec×Int):=brn (decide (x.2.M=0)) (some ({M:=0,S:=0},9)) (obnd (lzU (x.2,x.1.S,decide (x.1.S<x.2.S))) fun y=>obnd (lzD (x.1,y)) fun y_1=>brn (!decide (y_1.2=0)) (some ({M:=0,S:=0},y_1.2)) (obnd (lzD (x.2,y)) fun y_2=>brn (!decide (y_2.2=0)) (some ({M:=0,S:=0},y_2.2)) (brn (!decide (y_2.1 = -1)) (brn (decide (y_2.1=0)) none (brn (!decide (Int.tmod y_1.1 y_2.1=0)) (brn (!decide (decide (Int.tmod y_1.1 y_2.1<0)=decide (y_2.1<0))) (obnd (gzU {M:=i64.wrap (Int.tmod y_1.1 y_2.1+y_2.1),S:=y}) fun y=>some (y,0)) (obnd (gzU {M:=Int.tmod y_1.1 y_2.1,S:=y}) fun y=>some (y,0))) (obnd (gzU {M:=Int.tmod y_1.1 y_2.1,S:=y}) fun y=>some (y,0)))) (obnd (gzU {M:=0,S:=y}) fun y=>some (y,0)))))
def Ezb:FSpec tb:=⟨[(0,.val 23),(1,.val 23)],[(0,.val 23),(1,.val 3)],qzz⟩
theorem Ezc:A0 156 Ezb:=A2 Tryz.func156 vzP (.cons BzH .nil)
abbrev Fz2:List (Nat×FSpec tb):=[(154,jzg),(52,bzY),(85,ezO),(86,izl),(145,ezf),(155,izd),(156,Ezb),(150,rzy),(157,izg),(87,kzs)]
theorem qzd:azl Tryz.prog tb (Fz2):=(.cons ezw (.cons azG (.cons czJ (.cons lzt (.cons izc (.cons wzB (.cons Ezc (.cons qzc (.cons wzJ (.cons ezY .nil))))))))))
def ez1 (x:Val×Dec×Dec×Dec×Int×Int):Option (((Int)×(Val×Dec))⊕((Unit)×(Val×Dec))):=brn (decide (x.2.2.2.2.2=5)) (brn (decide (x.2.1.M<0)) (obnd (dzP ({M:=0,S:=0},x.2.1)) fun y=>some (Sum.inl (y.2,x.1,y.1))) (some (Sum.inl (x.2.2.2.2.1,x.1,x.2.1)))) (brn (decide (x.2.2.2.2.2=6)) (obnd (czM (x.2.1,{M:=0,S:=0})) fun y=>some (Sum.inl (x.2.2.2.2.1,x.1,{M:=y,S:=0}))) (brn (decide (x.2.2.2.2.2=7)) (obnd (fzv x.2.1) fun y=>some (Sum.inl (y.2,x.1,y.1))) (brn (decide (x.2.2.2.2.2=8)) (obnd (qzz (x.2.1,x.2.2.1)) fun y=>some (Sum.inl (y.2,x.1,y.1))) (brn (decide (x.2.2.2.2.2=9)) (obnd (kzu (x.2.2.1,-18,9)) fun y=>brn (!y.2) (obnd (azg 36) fun y=>some (Sum.inr ((),y,x.2.2.2.1))) (obnd (izf (x.2.1,y.1)) fun y=>some (Sum.inl (y.2,x.1,y.1)))) (some (Sum.inl (x.2.2.2.2.1,x.1,x.2.2.2.1)))))))
def zzA:CutSpec tb:=⟨155,[(4,.ref 25),(6,.ro 23),(9,.ro 23),(13,.ref 23),(14,.val 3),(58,.val 3)],[(.normal,[(14,.val 3)]),(.ret,[])],[60,59,61,62,63,64,66,67,68,65,69,70,14,72,71,73,74,75,76,78,77,80,81,79,82,83,85,84,87,88,89,86,90,91,93,92,95,96,94,97,98,15,16,99,100,101,103,104,105,102,106,107],(ez1)⟩
theorem uz5:A5 Tryz.f97 155 zzA:=A6 qzd .nil
def hz6 (x:Int×List Arg):Option (Val):=brn (decide (8<=x.1)) (obnd (azY (x.2,2,2)) fun y=>brn (!y) (obnd (azg 15) fun y=>some y) (obnd (idx x.2 0) fun y=>obnd (idx y.L 0) fun y=>obnd (azX y) fun y=>brn (!y.2.2) (some y.2.1) (obnd (idx x.2 1) fun y_1=>obnd (idx y_1.L 0) fun y_2=>obnd (azX y_2) fun y_3=>brn (!y_3.2.2) (some y_3.2.1) (obnd (ez1 ({Kind:=0,N:={M:=0,S:=0},S:=[],B:=false,E:=0},y.1,y_3.1,{M:=0,S:=0},0,x.1)) fun y=>osum y (fun y=>obnd (azL (y.2.2,y.1)) fun y=>some y) fun y=>some y.2.1)))) (obnd (azY (x.2,1,1)) fun y=>brn (!y) (obnd (azg 15) fun y=>some y) (obnd (idx x.2 0) fun y=>obnd (idx y.L 0) fun y=>obnd (azX y) fun y=>brn (!y.2.2) (some y.2.1) (obnd (ez1 ({Kind:=0,N:={M:=0,S:=0},S:=[],B:=false,E:=0},y.1,{M:=0,S:=0},{M:=0,S:=0},0,x.1)) fun y=>osum y (fun y=>obnd (azL (y.2.2,y.1)) fun y=>some y) fun y=>some y.2.1)))
def tzX:FSpec tb:=⟨[(0,.val 3),(1,.val 123)],[(0,.val 25)],hz6⟩
theorem wzm:A0 97 tzX:=A2 Tryz.func97 qzd (.cons uz5 .nil)
abbrev HzL:List (Nat×FSpec tb):=[(52,bzY),(154,jzg),(85,ezO),(158,rzx),(90,jze)]
theorem mzn:azl Tryz.prog tb (HzL):=(.cons azG (.cons ezw (.cons czJ (.cons lzm (.cons ezv .nil)))))
def fzK (x:List Arg×Val×Bool):Option (((Unit)×Val)⊕((Unit)×Val)):=brn x.2.2 (brn (!decide ((↑x.1.length:Int)=2)) (obnd (azg 15) fun y=>some (Sum.inr ((),y))) (obnd (idx x.1 0) fun y=>brn (!y.Area) (obnd (azg 15) fun y=>some (Sum.inr ((),y))) (obnd (sub x.1 1 (↑x.1.length:Int)) fun z=>obnd (azY (z,1,1)) fun y=>brn (!y) (obnd (azg 15) fun y=>some (Sum.inr ((),y))) (obnd (idx x.1 1) fun y=>obnd (idx y.L 0) fun y=>obnd (azX y) fun y=>brn (!y.2.2) (some (Sum.inr ((),y.2.1))) (brn (!decide (y.1.S=0)) (obnd (azg 15) fun y=>some (Sum.inr ((),y))) (brn (decide (y.1.M<1)) (obnd (azg 23) fun y=>some (Sum.inr ((),y))) (obnd (idx x.1 0) fun y_1=>brn (decide ((↑y_1.L.length:Int)<y.1.M)) (obnd (azg 23) fun y=>some (Sum.inr ((),y))) (obnd (idx x.1 0) fun y_2=>obnd (idx y_2.L (i64.wrap (y.1.M-1))) fun y=>some (Sum.inr ((),y)))))))))) (some (Sum.inl ((),x.2.1)))
def BzJ:CutSpec tb:=⟨42,[(1,.val 123),(4,.ref 25),(21,.val 4)],[(.normal,[]),(.ret,[])],[22,23,24,25,26,27,28,29,30,31,32,33,34,35,36,37,38,40,41,42,43,44,45,46,39,47,48,49,5,6,7,50,51,52,53,54,55,56,57,58,59,60,61,62,63,64,65,66,67,68,69,70,71,72,73,74,75,76,77,78,79],(fzK)⟩
theorem wzf:A5 Tryz.f98 42 BzJ:=A6 mzn .nil
def az0 (x:List Arg×Val×Val×Int×Int):Option (((Int)×Val)⊕((Unit)×Val)):=brn (decide (x.2.2.2.2=10)) (brn (decide ((↑x.1.length:Int)<2)) (obnd (azg 15) fun y=>some (Sum.inr ((),y))) (brn (decide (3<(↑x.1.length:Int))) (obnd (azg 15) fun y=>some (Sum.inr ((),y))) (obnd (czK x.2.2.1) fun y=>brn (!y.2.2) (some (Sum.inr ((),y.2.1))) (brn (!y.1) (brn (decide ((↑x.1.length:Int)<=2)) (obnd (bzt false) fun y=>some (Sum.inr ((),y))) (some (Sum.inl (2,x.2.1)))) (brn (decide ((↑x.1.length:Int)<=1)) (obnd (bzt false) fun y=>some (Sum.inr ((),y))) (some (Sum.inl (1,x.2.1)))))))) (brn (decide (x.2.2.2.2=23)) (brn (!decide ((↑x.1.length:Int)=2)) (obnd (azg 15) fun y=>some (Sum.inr ((),y))) (brn (decide (x.2.2.1.Kind=4)) (some (Sum.inl (1,x.2.1))) (some (Sum.inl (x.2.2.2.1,x.2.1))))) (brn (decide (x.2.2.2.2=25)) (obnd (azX x.2.2.1) fun y=>brn (!y.2.2) (some (Sum.inr ((),y.2.1))) (brn (!decide (y.1.S=0)) (obnd (azg 15) fun y=>some (Sum.inr ((),y))) (brn (decide (y.1.M<1)) (obnd (azg 15) fun y=>some (Sum.inr ((),y))) (brn (decide ((↑x.1.length:Int)<=y.1.M)) (obnd (azg 15) fun y=>some (Sum.inr ((),y))) (some (Sum.inl (y.1.M,x.2.1))))))) (some (Sum.inl (x.2.2.2.1,x.2.1)))))
def BzK:CutSpec tb:=⟨163,[(1,.val 123),(4,.ref 25),(8,.ro 25),(9,.val 3),(100,.val 3)],[(.normal,[(9,.val 3)]),(.ret,[])],[102,101,103,104,105,106,107,108,109,110,111,113,114,112,115,116,117,11,10,12,118,119,120,9,121,122,123,124,125,126,127,129,128,130,131,132,133,134,135,136,138,137,140,141,139,142,143,144,13,14,15,145,146,147,148,149,150,151,152,153,154,155,156,157,158,159,160,161,162,163,164,165],(az0)⟩
theorem wzg:A5 Tryz.f98 163 BzK:=A6 mzn .nil
def bzb (x:Int×List Arg):Option (Val):=brn (decide ((↑x.2.length:Int)=0)) (obnd (azg 15) fun y=>some y) (obnd (fzK (x.2,{Kind:=0,N:={M:=0,S:=0},S:=[],B:=false,E:=0},decide (x.1=24))) fun y=>osum y (fun y=>brn (decide (x.1=25)) (brn (decide ((↑x.2.length:Int)<2)) (obnd (azg 15) fun y=>some y) (obnd (sub x.2 0 1) fun z=>obnd (azY (z,1,1)) fun y_1=>brn (!y_1) (obnd (azg 15) fun y=>some y) (obnd (idx x.2 0) fun y_2=>obnd (idx y_2.L 0) fun y_3=>obnd (az0 (x.2,y.2,y_3,0,x.1)) fun y=>osum y (fun y=>obnd (sub x.2 y.1 (i64.wrap (y.1+1))) fun z=>obnd (azY (z,1,1)) fun y_4=>brn (!y_4) (obnd (azg 15) fun y=>some y) (obnd (idx x.2 y.1) fun y=>obnd (idx y.L 0) fun y=>some y)) fun y=>some y.2))) (obnd (sub x.2 0 1) fun z=>obnd (azY (z,1,1)) fun y_1=>brn (!y_1) (obnd (azg 15) fun y=>some y) (obnd (idx x.2 0) fun y_2=>obnd (idx y_2.L 0) fun y_3=>obnd (az0 (x.2,y.2,y_3,0,x.1)) fun y=>osum y (fun y=>obnd (sub x.2 y.1 (i64.wrap (y.1+1))) fun z=>obnd (azY (z,1,1)) fun y_4=>brn (!y_4) (obnd (azg 15) fun y=>some y) (obnd (idx x.2 y.1) fun y=>obnd (idx y.L 0) fun y=>some y)) fun y=>some y.2))) fun y=>some y.2)
def vzQ:FSpec tb:=⟨[(0,.val 3),(1,.val 123)],[(0,.val 25)],bzb⟩
theorem xzU:A0 98 vzQ:=A2 Tryz.func98 mzn (.cons wzf (.cons wzg .nil))
abbrev HzQ:List (Nat×FSpec tb):=[(151,lzV),(52,bzY),(158,rzx),(90,jze)]
theorem mzt:azl Tryz.prog tb (HzQ):=(.cons kzw (.cons azG (.cons lzm (.cons ezv .nil))))
def fzT (back:Int×Val×Int×Bool×Arg×Int->Option (((Int×Bool)×Val)⊕((Unit)×Val)))(x:Int×Val×Int×Bool×Arg×Int):Option (((Int×Bool)×Val)⊕((Unit)×Val)):=brn (decide (x.2.2.2.2.2<(↑x.2.2.2.2.1.L.length:Int))) (obnd (idx x.2.2.2.2.1.L x.2.2.2.2.2) fun y=>brn x.2.2.2.2.1.Area (brn (!decide (y.Kind=1)) (brn (!decide (y.Kind=3)) (brn (!decide (y.Kind=4)) (back (x.1,x.2.1,x.2.2.1,x.2.2.2.1,x.2.2.2.2.1,i64.wrap (x.2.2.2.2.2+1))) (obnd (czK y) fun y=>brn (!y.2.2) (some (Sum.inr ((),y.2.1))) (brn (decide (x.1=11)) (brn x.2.2.2.1 (back (x.1,x.2.1,i64.wrap (x.2.2.1+1),y.1,x.2.2.2.2.1,i64.wrap (x.2.2.2.2.2+1))) (back (x.1,x.2.1,i64.wrap (x.2.2.1+1),false,x.2.2.2.2.1,i64.wrap (x.2.2.2.2.2+1)))) (brn x.2.2.2.1 (back (x.1,x.2.1,i64.wrap (x.2.2.1+1),true,x.2.2.2.2.1,i64.wrap (x.2.2.2.2.2+1))) (back (x.1,x.2.1,i64.wrap (x.2.2.1+1),y.1,x.2.2.2.2.1,i64.wrap (x.2.2.2.2.2+1))))))) (obnd (czK y) fun y=>brn (!y.2.2) (some (Sum.inr ((),y.2.1))) (brn (decide (x.1=11)) (brn x.2.2.2.1 (back (x.1,x.2.1,i64.wrap (x.2.2.1+1),y.1,x.2.2.2.2.1,i64.wrap (x.2.2.2.2.2+1))) (back (x.1,x.2.1,i64.wrap (x.2.2.1+1),false,x.2.2.2.2.1,i64.wrap (x.2.2.2.2.2+1)))) (brn x.2.2.2.1 (back (x.1,x.2.1,i64.wrap (x.2.2.1+1),true,x.2.2.2.2.1,i64.wrap (x.2.2.2.2.2+1))) (back (x.1,x.2.1,i64.wrap (x.2.2.1+1),y.1,x.2.2.2.2.1,i64.wrap (x.2.2.2.2.2+1))))))) (obnd (czK y) fun y=>brn (!y.2.2) (some (Sum.inr ((),y.2.1))) (brn (decide (x.1=11)) (brn x.2.2.2.1 (back (x.1,x.2.1,i64.wrap (x.2.2.1+1),y.1,x.2.2.2.2.1,i64.wrap (x.2.2.2.2.2+1))) (back (x.1,x.2.1,i64.wrap (x.2.2.1+1),false,x.2.2.2.2.1,i64.wrap (x.2.2.2.2.2+1)))) (brn x.2.2.2.1 (back (x.1,x.2.1,i64.wrap (x.2.2.1+1),true,x.2.2.2.2.1,i64.wrap (x.2.2.2.2.2+1))) (back (x.1,x.2.1,i64.wrap (x.2.2.1+1),y.1,x.2.2.2.2.1,i64.wrap (x.2.2.2.2.2+1))))))) (obnd (czK y) fun y=>brn (!y.2.2) (some (Sum.inr ((),y.2.1))) (brn (decide (x.1=11)) (brn x.2.2.2.1 (back (x.1,x.2.1,i64.wrap (x.2.2.1+1),y.1,x.2.2.2.2.1,i64.wrap (x.2.2.2.2.2+1))) (back (x.1,x.2.1,i64.wrap (x.2.2.1+1),false,x.2.2.2.2.1,i64.wrap (x.2.2.2.2.2+1)))) (brn x.2.2.2.1 (back (x.1,x.2.1,i64.wrap (x.2.2.1+1),true,x.2.2.2.2.1,i64.wrap (x.2.2.2.2.2+1))) (back (x.1,x.2.1,i64.wrap (x.2.2.1+1),y.1,x.2.2.2.2.1,i64.wrap (x.2.2.2.2.2+1))))))) (some (Sum.inl ((x.2.2.1,x.2.2.2.1),x.2.1)))
def mzv:Int×Val×Int×Bool×Arg×Int->Option (((Int×Bool)×Val)⊕((Unit)×Val)):=iter fzT big
def BzZ:CutSpec tb:=⟨92,[(0,.val 3),(4,.ref 25),(5,.val 3),(6,.val 4),(8,.ro 96),(9,.val 3)],[((.exit 2),[(5,.val 3),(6,.val 4)]),(.ret,[])],[30,31,32,33,34,37,38,39,40,41,10,42,43,44,45,46,47,48,49,50,51,52,53,54,55,56,57,58,60,61,59,62,63,64,12,11,13,65,66,67,68,69,5,70,71,72,73,74,75,6,76,77,78,79,35,36,9],mzv⟩
theorem wzu:A3 Tryz.f99 92 BzZ:=A4 mzt .nil fzT
def fzS (back:Int×List Arg×Val×Int×Bool×Int->Option (((Int×Bool)×Val)⊕((Unit)×Val)))(x:Int×List Arg×Val×Int×Bool×Int):Option (((Int×Bool)×Val)⊕((Unit)×Val)):=brn (decide (x.2.2.2.2.2<(↑x.2.1.length:Int))) (obnd (idx x.2.1 x.2.2.2.2.2) fun y=>obnd (mzv (x.1,x.2.2.1,x.2.2.2.1,x.2.2.2.2.1,y,0)) fun y=>osum y (fun y=>back (x.1,x.2.1,y.2,y.1.1,y.1.2,i64.wrap (x.2.2.2.2.2+1))) fun y=>some (Sum.inr ((),y.2))) (some (Sum.inl ((x.2.2.2.1,x.2.2.2.2.1),x.2.2.1)))
def mzu:Int×List Arg×Val×Int×Bool×Int->Option (((Int×Bool)×Val)⊕((Unit)×Val)):=iter fzS big
def BzY:CutSpec tb:=⟨60,[(0,.val 3),(1,.val 123),(4,.ref 25),(5,.val 3),(6,.val 4),(7,.val 3)],[((.exit 0),[(5,.val 3),(6,.val 4)]),(.ret,[])],[20,21,22,23,26,27,28,29,8,9,30,31,32,33,34,37,38,39,40,41,10,42,43,44,45,46,47,48,49,50,51,52,53,54,55,56,57,58,60,61,59,62,63,64,12,11,13,65,66,67,68,69,5,70,71,72,73,74,75,6,76,77,78,79,35,36,24,25,7],mzu⟩
theorem wzt:A3 Tryz.f99 60 BzY:=A4 mzt (.cons wzu .nil) fzS
def jzi (x:Int×List Arg):Option (Val):=obnd (gzp x.2) fun y=>brn (!y) (obnd (azg 15) fun y=>some y) (obnd (mzu (x.1,x.2,{Kind:=0,N:={M:=0,S:=0},S:=[],B:=false,E:=0},0,decide (x.1=11),0)) fun y=>osum y (fun y=>brn (decide (y.1.1=0)) (obnd (azg 15) fun y=>some y) (obnd (bzt y.1.2) fun y=>some y)) fun y=>some y.2)
def vzV:FSpec tb:=⟨[(0,.val 3),(1,.val 123)],[(0,.val 25)],jzi⟩
theorem xz4:A0 99 vzV:=A2 Tryz.func99 mzt (.cons wzt .nil)
def kzv (x:Int×List Arg):Option (Val):=obnd (azY (x.2,1,1)) fun y=>brn (!y) (obnd (azg 15) fun y=>some y) (obnd (idx x.2 0) fun y=>obnd (idx y.L 0) fun y=>brn (decide (x.1=13)) (obnd (czK y) fun y=>brn (!y.2.2) (some y.2.1) (obnd (bzt !y.1) fun y=>some y)) (brn (decide (x.1=21)) (obnd (bzt (decide (y.Kind=0))) fun y=>some y) (brn (decide (x.1=22)) (obnd (bzt (decide (y.Kind=4))) fun y=>some y) (brn (decide (y.Kind=2)) (obnd (bzM {M:=2,S:=0}) fun y=>some y) (brn (decide (y.Kind=3)) (obnd (bzM {M:=4,S:=0}) fun y=>some y) (brn (decide (y.Kind=4)) (obnd (bzM {M:=16,S:=0}) fun y=>some y) (obnd (bzM {M:=1,S:=0}) fun y=>some y)))))))
def xzT:FSpec tb:=⟨[(0,.val 3),(1,.val 123)],[(0,.val 25)],kzv⟩
theorem zzm:A0 100 xzT:=A1 Tryz.func100 (.cons ezw (.cons azG (.cons lzm (.cons ezv (.cons dzW .nil)))))
abbrev FzU:List (Nat×FSpec tb):=[(1099511627784,mutS)]
theorem hzw:azl Tryz.prog tb (FzU):=(.consK szp .nil)
def lzo (x:Int×List (UInt8)×Int):Option (Bool×List (UInt8)):=brn (decide (x.1=19)) (obnd (inb x.2.1.length x.2.2) fun k=>obnd (nth x.2.1 k) fun y=>brn (decide (97<=(↑(UInt8.toNat y):Int))) (obnd (inb x.2.1.length x.2.2) fun k=>obnd (nth x.2.1 k) fun y=>some (decide ((↑(UInt8.toNat y):Int)<=122),x.2.1)) (some (false,x.2.1))) (some (false,x.2.1))
def zzo:CutSpec tb:=⟨48,[(0,.val 3),(5,.wr 5),(6,.val 3)],[(.normal,[(30,.val 4),(5,.wr 5)])],[15,16,17,18,19,20,21,22,23,24,25,26,27,28,29,30],(lzo)⟩
theorem uz0:A5 Tryz.f160 48 zzo:=A6 hzw .nil
def hzx (x:Int×List (UInt8)×Int):Option (List (UInt8)):=obnd (lzo (x.1,x.2)) fun y=>brn y.1 (obnd (inb (List.length y.2) x.2.2) fun k=>obnd (nth y.2 k) fun y_1=>obnd (inb (List.length y.2) x.2.2) fun k=>obnd (nth y.2 k) fun y_2=>brn (decide (x.1=20)) (obnd (inb (List.length y.2) x.2.2) fun k_1=>obnd (nth (List.set y.2 k (UInt8.ofNat (u8.wrap ((↑(UInt8.toNat y_1):Int)-32)).toNat)) k_1) fun y_3=>brn (decide (65<=(↑(UInt8.toNat y_3):Int))) (obnd (inb (List.length y.2) x.2.2) fun k_2=>obnd (nth (List.set y.2 k (UInt8.ofNat (u8.wrap ((↑(UInt8.toNat y_1):Int)-32)).toNat)) k_2) fun y_4=>brn (decide ((↑(UInt8.toNat y_4):Int)<=90)) (obnd (inb (List.length y.2) x.2.2) fun k_3=>obnd (nth (List.set y.2 k (UInt8.ofNat (u8.wrap ((↑(UInt8.toNat y_1):Int)-32)).toNat)) k_3) fun y_5=>obnd (inb (List.length y.2) x.2.2) fun k_4=>obnd (nth (List.set y.2 k (UInt8.ofNat (u8.wrap ((↑(UInt8.toNat y_1):Int)-32)).toNat)) k_4) fun y_6=>some ((List.set y.2 k (UInt8.ofNat (u8.wrap ((↑(UInt8.toNat y_1):Int)-32)).toNat)).set k_4 (UInt8.ofNat (u8.wrap ((↑(UInt8.toNat y_5):Int)+32)).toNat))) (some (List.set y.2 k (UInt8.ofNat (u8.wrap ((↑(UInt8.toNat y_1):Int)-32)).toNat)))) (some (List.set y.2 k (UInt8.ofNat (u8.wrap ((↑(UInt8.toNat y_1):Int)-32)).toNat)))) (some (List.set y.2 k (UInt8.ofNat (u8.wrap ((↑(UInt8.toNat y_1):Int)-32)).toNat)))) (brn (decide (x.1=20)) (obnd (inb (List.length y.2) x.2.2) fun k=>obnd (nth y.2 k) fun y_1=>brn (decide (65<=(↑(UInt8.toNat y_1):Int))) (obnd (inb (List.length y.2) x.2.2) fun k=>obnd (nth y.2 k) fun y_2=>brn (decide ((↑(UInt8.toNat y_2):Int)<=90)) (obnd (inb (List.length y.2) x.2.2) fun k=>obnd (nth y.2 k) fun y_3=>obnd (inb (List.length y.2) x.2.2) fun k=>obnd (nth y.2 k) fun y_4=>some (List.set y.2 k (UInt8.ofNat (u8.wrap ((↑(UInt8.toNat y_3):Int)+32)).toNat))) (some y.2)) (some y.2)) (some y.2))
def zzn:CutSpec tb:=⟨51,[(0,.val 3),(5,.wr 5),(6,.val 3)],[(.normal,[(5,.wr 5)])],[15,16,17,18,19,20,21,22,23,24,25,26,27,28,29,30,31,32,33,34,35,36,37,38,39,40,41,42,43,44,45,46,47,48,49,50,51,52,53,54,55,56,57,58,59,60,61,62],(hzx)⟩
theorem uzZ:A5 Tryz.f160 51 zzn:=A6 hzw (.cons uz0 .nil)
def dzX (back:Int×List (UInt8)×Int->Option (List (UInt8)))(x:Int×List (UInt8)×Int):Option (List (UInt8)):=brn (decide (x.2.2<(↑x.2.1.length:Int))) (obnd (hzx (x.1,x.2)) fun y=>back (x.1,y,i64.wrap (x.2.2+1))) (some x.2.1)
def lzp:Int×List (UInt8)×Int->Option (List (UInt8)):=iter dzX big
def zzp:CutSpec tb:=⟨36,[(0,.val 3),(5,.wr 5),(6,.val 3)],[((.exit 0),[(5,.own 5)])],[9,10,11,12,15,16,17,18,19,20,21,22,23,24,25,26,27,28,29,30,31,32,33,34,35,36,37,38,39,40,41,42,43,44,45,46,47,48,49,50,51,52,53,54,55,56,57,58,59,60,61,62,13,14,6],lzp⟩
theorem uz1:A3 Tryz.f160 36 zzp:=A4 hzw (.cons uzZ .nil) dzX
def hz0 (x:Int×List UInt8):Option (List UInt8):=obnd (lzp (x.1,x.2,0)) fun y=>some y
def tzV:FSpec tb:=⟨[(0,.val 3),(1,.val 9)],[(0,.val 9)],hz0⟩
theorem wzk:A0 160 tzV:=A2 Tryz.func160 hzw (.cons uz1 .nil)
abbrev HzR:List (Nat×FSpec tb):=[(154,jzg),(52,bzY),(159,nzD),(69,gz9),(53,nzB),(160,tzV),(91,kzt),(90,jze),(85,ezO)]
theorem mzw:azl Tryz.prog tb (HzR):=(.cons ezw (.cons azG (.cons lzn (.cons izX (.cons dzW (.cons wzk (.cons hzu (.cons ezv (.cons czJ .nil)))))))))
def czL (x:Int×List Arg×Val×List UInt8×Int):Option (((Unit)×Val)⊕((Unit)×Val)):=brn (decide (x.2.2.2.2=14)) (obnd (fzm x.2.2.2.1) fun y=>obnd (bzM {M:=y.1,S:=0}) fun y=>some (Sum.inr ((),y))) (brn (decide (x.2.2.2.2=19)) (brn (decide (x.2.2.2.2=19)) (obnd (hz0 (x.1,x.2.2.2.1)) fun y=>obnd (azA y) fun y=>some (Sum.inr ((),y))) (brn (decide (x.2.2.2.2=26)) (obnd (idx x.2.1 1) fun y=>obnd (idx y.L 0) fun y=>obnd (czo y) fun y=>brn (!y.2.2) (some (Sum.inr ((),y.2.1))) (obnd (bzt (decide (x.2.2.2.1=y.1))) fun y=>some (Sum.inr ((),y)))) (some (Sum.inl ((),x.2.2.1))))) (brn (decide (x.2.2.2.2=20)) (obnd (hz0 (x.1,x.2.2.2.1)) fun y=>obnd (azA y) fun y=>some (Sum.inr ((),y))) (brn (decide (x.2.2.2.2=26)) (obnd (idx x.2.1 1) fun y=>obnd (idx y.L 0) fun y=>obnd (czo y) fun y=>brn (!y.2.2) (some (Sum.inr ((),y.2.1))) (obnd (bzt (decide (x.2.2.2.1=y.1))) fun y=>some (Sum.inr ((),y)))) (some (Sum.inl ((),x.2.2.1))))))
def Bz0:CutSpec tb:=⟨91,[(0,.val 3),(1,.val 123),(4,.ref 25),(6,.val 9),(41,.val 3)],[(.normal,[]),(.ret,[])],[43,42,45,46,44,47,48,9,10,49,50,51,53,52,54,55,56,57,58,60,59,62,63,64,65,66,67,68,61,69,70,71,12,11,13,72,73,74,75,76,77,78],(czL)⟩
theorem wzv:A5 Tryz.f101 91 Bz0:=A6 mzw .nil
def fzU (back:List UInt8×Dec×List UInt8×Int->Option (List UInt8))(x:List UInt8×Dec×List UInt8×Int):Option (List UInt8):=brn (decide (x.2.2.2<x.2.1.M)) (obnd (cat x.2.2.1 x.1) fun z=>back (x.1,x.2.1,z,i64.wrap (x.2.2.2+1))) (some x.2.2.1)
def eze:List UInt8×Dec×List UInt8×Int->Option (List UInt8):=iter fzU big
def Bz1:CutSpec tb:=⟨268,[(6,.val 9),(14,.ro 23),(17,.val 9),(18,.val 3)],[((.exit 1),[(17,.val 9)])],[109,110,111,112,115,116,117,17,113,114,18],eze⟩
theorem wzw:A3 Tryz.f101 268 Bz1:=A4 mzw .nil fzU
def jzj (x:Int×List Arg):Option (Val):=brn (decide (26<=x.1)) (obnd (azY (x.2,2,2)) fun y=>brn (!y) (obnd (azg 15) fun y=>some y) (obnd (idx x.2 0) fun y=>obnd (idx y.L 0) fun y=>obnd (czo y) fun y=>brn (!y.2.2) (some y.2.1) (obnd (czL (x.1,x.2,{Kind:=0,N:={M:=0,S:=0},S:=[],B:=false,E:=0},y.1,x.1)) fun y_1=>osum y_1 (fun y_2=>obnd (idx x.2 1) fun y_3=>obnd (idx y_3.L 0) fun y_4=>obnd (azX y_4) fun y_5=>brn (!y_5.2.2) (some y_5.2.1) (brn (!decide (y_5.1.S=0)) (obnd (azg 15) fun y=>some y) (brn (decide (y_5.1.M<0)) (obnd (azg 15) fun y=>some y) (brn (decide (y.1=[])) (obnd (azA []) fun y=>some y) (brn (decide (1000<y_5.1.M)) (obnd (azg 15) fun y=>some y) (obnd (eze (y.1,y_5.1,[],0)) fun y=>obnd (azA y) fun y=>some y)))))) fun y=>some y.2))) (obnd (azY (x.2,1,1)) fun y=>brn (!y) (obnd (azg 15) fun y=>some y) (obnd (idx x.2 0) fun y=>obnd (idx y.L 0) fun y=>obnd (czo y) fun y=>brn (!y.2.2) (some y.2.1) (obnd (czL (x.1,x.2,{Kind:=0,N:={M:=0,S:=0},S:=[],B:=false,E:=0},y.1,x.1)) fun y_1=>osum y_1 (fun y_2=>obnd (idx x.2 1) fun y_3=>obnd (idx y_3.L 0) fun y_4=>obnd (azX y_4) fun y_5=>brn (!y_5.2.2) (some y_5.2.1) (brn (!decide (y_5.1.S=0)) (obnd (azg 15) fun y=>some y) (brn (decide (y_5.1.M<0)) (obnd (azg 15) fun y=>some y) (brn (decide (y.1=[])) (obnd (azA []) fun y=>some y) (brn (decide (1000<y_5.1.M)) (obnd (azg 15) fun y=>some y) (obnd (eze (y.1,y_5.1,[],0)) fun y=>obnd (azA y) fun y=>some y)))))) fun y=>some y.2)))
def vzW:FSpec tb:=⟨[(0,.val 3),(1,.val 123)],[(0,.val 25)],jzj⟩
theorem xz5:A0 101 vzW:=A2 Tryz.func101 mzw (.cons wzv (.cons wzw .nil))
abbrev JzK:List (Nat×FSpec tb):=[(207,nzL)]
theorem szC:azl Tryz.prog tb (JzK):=(.cons Ezu .nil)
def gzS (back:List Int×List (UInt8)×Int->Option (List (UInt8)))(x:List Int×List (UInt8)×Int):Option (List (UInt8)):=brn (decide (x.2.2<(↑x.1.length:Int))) (obnd (idx x.1 x.2.2) fun y=>obnd (qzA y) fun y=>obnd (app 1 x.2.1 y) fun zs=>back (x.1,zs,i64.wrap (x.2.2+1))) (some x.2.1)
def nzG:List Int×List (UInt8)×Int->Option (List (UInt8)):=iter gzS big
def Ezk:CutSpec tb:=⟨36,[(0,.val 169),(3,.own 5),(4,.val 3)],[((.exit 0),[(3,.own 5)])],[5,6,7,8,11,12,13,14,15,16,17,3,9,10,4],nzG⟩
theorem xz2:A3 Tryz.f161 36 Ezk:=A4 szC .nil gzS
def azM (x:List Int):Option (List UInt8):=obnd (nzG (x,[],0)) fun y=>some y
def xz1:FSpec tb:=⟨[(0,.val 169)],[(0,.val 9)],azM⟩
theorem zzC:A0 161 xz1:=A2 Tryz.func161 szC (.cons xz2 .nil)
abbrev HzO:List (Nat×FSpec tb):=[(154,jzg),(52,bzY),(159,nzD),(85,ezO),(109,jzF),(161,xz1),(91,kzt),(1099511627818,mutS)]
theorem fzO:azl Tryz.prog tb (HzO):=(.cons ezw (.cons azG (.cons lzn (.cons czJ (.cons rzC (.cons zzC (.cons hzu (.consK szp .nil))))))))
def dzl (x:Dec×Int):Option (Bool):=brn (!decide (x.1.S=0)) (some true) (some (decide (x.1.M<x.2)))
def BzS:CutSpec tb:=⟨176,[(12,.ro 23),(15,.val 2)],[(.normal,[(78,.val 4)])],[70,71,72,73,74,75,76,77,78],(dzl)⟩
theorem wzo:A5 Tryz.f102 176 BzS:=A6 fzO .nil
def izU (x:Int×List Arg×Val×List (Int)×Int):Option (((List (Int))×Val)⊕((Unit)×Val)):=obnd (idx x.2.1 x.2.2.2.2) fun y=>obnd (idx y.L 0) fun y=>obnd (azX y) fun y=>brn (!y.2.2) (some (Sum.inr ((),y.2.1))) (brn (decide (x.1=17)) (brn (decide (x.2.2.2.2=1)) (obnd (dzl (y.1,1)) fun y_1=>brn y_1 (obnd (azg 15) fun y=>some (Sum.inr ((),y))) (brn (decide (10000<y.1.M)) (obnd (inb x.2.2.2.1.length (i64.wrap (x.2.2.2.2-1))) fun k=>obnd (nth x.2.2.2.1 k) fun y=>some (Sum.inl (x.2.2.2.1.set k 10000,x.2.2.1))) (obnd (inb x.2.2.2.1.length (i64.wrap (x.2.2.2.2-1))) fun k=>obnd (nth x.2.2.2.1 k) fun y_2=>some (Sum.inl (x.2.2.2.1.set k y.1.M,x.2.2.1))))) (obnd (dzl (y.1,0)) fun y_1=>brn y_1 (obnd (azg 15) fun y=>some (Sum.inr ((),y))) (brn (decide (10000<y.1.M)) (obnd (inb x.2.2.2.1.length (i64.wrap (x.2.2.2.2-1))) fun k=>obnd (nth x.2.2.2.1 k) fun y=>some (Sum.inl (x.2.2.2.1.set k 10000,x.2.2.1))) (obnd (inb x.2.2.2.1.length (i64.wrap (x.2.2.2.2-1))) fun k=>obnd (nth x.2.2.2.1 k) fun y_2=>some (Sum.inl (x.2.2.2.1.set k y.1.M,x.2.2.1)))))) (obnd (dzl (y.1,0)) fun y_1=>brn y_1 (obnd (azg 15) fun y=>some (Sum.inr ((),y))) (brn (decide (10000<y.1.M)) (obnd (inb x.2.2.2.1.length (i64.wrap (x.2.2.2.2-1))) fun k=>obnd (nth x.2.2.2.1 k) fun y=>some (Sum.inl (x.2.2.2.1.set k 10000,x.2.2.1))) (obnd (inb x.2.2.2.1.length (i64.wrap (x.2.2.2.2-1))) fun k=>obnd (nth x.2.2.2.1 k) fun y_2=>some (Sum.inl (x.2.2.2.1.set k y.1.M,x.2.2.1))))))
def BzR:CutSpec tb:=⟨131,[(0,.val 3),(1,.val 123),(4,.ref 25),(10,.wr 3),(11,.val 3)],[(.normal,[(10,.wr 3)]),(.ret,[])],[50,51,52,53,54,55,56,57,49,58,59,60,12,13,14,61,62,63,15,64,65,66,67,68,69,70,71,72,73,74,75,76,77,78,79,80,81,82,83,84,85,86,87,88,89],(izU)⟩
theorem wzn:A5 Tryz.f102 131 BzR:=A6 fzO (.cons wzo .nil)
def fzP (back:Int×List Arg×Val×List (Int)×Int->Option (((List (Int))×Val)⊕((Unit)×Val)))(x:Int×List Arg×Val×List (Int)×Int):Option (((List (Int))×Val)⊕((Unit)×Val)):=brn (decide (x.2.2.2.2<(↑x.2.1.length:Int))) (obnd (izU (x.1,x.2.1,x.2.2.1,x.2.2.2)) fun y=>osum y (fun y=>back (x.1,x.2.1,y.2,y.1,i64.wrap (x.2.2.2.2+1))) fun y=>some (Sum.inr ((),y.2))) (some (Sum.inl (x.2.2.2.1,x.2.2.1)))
def ezd:Int×List Arg×Val×List (Int)×Int->Option (((List (Int))×Val)⊕((Unit)×Val)):=iter fzP big
def BzU:CutSpec tb:=⟨116,[(0,.val 3),(1,.val 123),(4,.ref 25),(10,.wr 3),(11,.val 3)],[((.exit 0),[(10,.own 3)]),(.ret,[])],[43,44,45,46,50,51,52,53,54,55,56,57,49,58,59,60,12,13,14,61,62,63,15,64,65,66,67,68,69,70,71,72,73,74,75,76,77,78,79,80,81,82,83,84,85,86,87,88,89,47,48,11],ezd⟩
theorem wzq:A3 Tryz.f102 116 BzU:=A4 fzO (.cons wzn .nil) fzP
def ezc (x:List Int×List Int×Int×Int×Int):Option (Int×Int):=brn (decide (x.2.2.2.2=16)) (brn (decide (i64.wrap ((↑x.2.1.length:Int)-x.2.2.2.1)<0)) (some (0,x.2.2.2.1)) (some (i64.wrap ((↑x.2.1.length:Int)-x.2.2.2.1),x.2.2.2.1))) (brn (decide (x.2.2.2.2=17)) (obnd (idx x.1 0) fun y=>obnd (idx x.1 1) fun y_1=>some (i64.wrap (y-1),y_1)) (some (x.2.2.1,x.2.2.2.1)))
def BzT:CutSpec tb:=⟨251,[(10,.val 169),(16,.val 169),(18,.val 3),(19,.val 3),(98,.val 3)],[(.normal,[(18,.val 3),(19,.val 3)])],[100,99,101,102,103,104,18,105,106,108,107,109,110,111,112,113,114,115,19],(ezc)⟩
theorem wzp:A5 Tryz.f102 251 BzT:=A6 fzO .nil
def dz6 (x:Int×List Arg):Option (Val):=brn (decide (x.1=17)) (obnd (azY (x.2,3,3)) fun y=>brn (!y) (obnd (azg 15) fun y=>some y) (obnd (idx x.2 0) fun y=>obnd (idx y.L 0) fun y=>obnd (czo y) fun y=>brn (!y.2.2) (some y.2.1) (obnd (ezd (x.1,x.2,{Kind:=0,N:={M:=0,S:=0},S:=[],B:=false,E:=0},[1,1],1)) fun y_1=>osum y_1 (fun y_2=>obnd (gz8 y.1) fun y=>obnd (idx y_2.1 0) fun y_3=>obnd (ezc (y_2.1,y.1,0,y_3,x.1)) fun y_4=>brn (decide ((↑(List.length y.1):Int)<y_4.1)) (brn (decide (i64.wrap ((↑(List.length y.1):Int)-(↑(List.length y.1):Int))<y_4.2)) (obnd (sub y.1 (↑(List.length y.1):Int) (i64.wrap ((↑(List.length y.1):Int)+i64.wrap ((↑(List.length y.1):Int)-(↑(List.length y.1):Int))))) fun z=>obnd (azM z) fun y=>obnd (azA y) fun y=>some y) (obnd (sub y.1 (↑(List.length y.1):Int) (i64.wrap ((↑(List.length y.1):Int)+y_4.2))) fun z=>obnd (azM z) fun y=>obnd (azA y) fun y=>some y)) (brn (decide (i64.wrap ((↑(List.length y.1):Int)-y_4.1)<y_4.2)) (obnd (sub y.1 y_4.1 (i64.wrap (y_4.1+i64.wrap ((↑(List.length y.1):Int)-y_4.1)))) fun z=>obnd (azM z) fun y=>obnd (azA y) fun y=>some y) (obnd (sub y.1 y_4.1 (i64.wrap (y_4.1+y_4.2))) fun z=>obnd (azM z) fun y=>obnd (azA y) fun y=>some y))) fun y=>some y.2))) (obnd (azY (x.2,1,2)) fun y=>brn (!y) (obnd (azg 15) fun y=>some y) (obnd (idx x.2 0) fun y=>obnd (idx y.L 0) fun y=>obnd (czo y) fun y=>brn (!y.2.2) (some y.2.1) (obnd (ezd (x.1,x.2,{Kind:=0,N:={M:=0,S:=0},S:=[],B:=false,E:=0},[1,1],1)) fun y_1=>osum y_1 (fun y_2=>obnd (gz8 y.1) fun y=>obnd (idx y_2.1 0) fun y_3=>obnd (ezc (y_2.1,y.1,0,y_3,x.1)) fun y_4=>brn (decide ((↑(List.length y.1):Int)<y_4.1)) (brn (decide (i64.wrap ((↑(List.length y.1):Int)-(↑(List.length y.1):Int))<y_4.2)) (obnd (sub y.1 (↑(List.length y.1):Int) (i64.wrap ((↑(List.length y.1):Int)+i64.wrap ((↑(List.length y.1):Int)-(↑(List.length y.1):Int))))) fun z=>obnd (azM z) fun y=>obnd (azA y) fun y=>some y) (obnd (sub y.1 (↑(List.length y.1):Int) (i64.wrap ((↑(List.length y.1):Int)+y_4.2))) fun z=>obnd (azM z) fun y=>obnd (azA y) fun y=>some y)) (brn (decide (i64.wrap ((↑(List.length y.1):Int)-y_4.1)<y_4.2)) (obnd (sub y.1 y_4.1 (i64.wrap (y_4.1+i64.wrap ((↑(List.length y.1):Int)-y_4.1)))) fun z=>obnd (azM z) fun y=>obnd (azA y) fun y=>some y) (obnd (sub y.1 y_4.1 (i64.wrap (y_4.1+y_4.2))) fun z=>obnd (azM z) fun y=>obnd (azA y) fun y=>some y))) fun y=>some y.2)))
def vzT:FSpec tb:=⟨[(0,.val 3),(1,.val 123)],[(0,.val 25)],dz6⟩
theorem xzY:A0 102 vzT:=A2 Tryz.func102 fzO (.cons wzq (.cons wzp .nil))
abbrev HzM:List (Nat×FSpec tb):=[(151,lzV),(52,bzY),(159,nzD),(69,gz9),(91,kzt)]
theorem mzo:azl Tryz.prog tb (HzM):=(.cons kzw (.cons azG (.cons lzn (.cons izX (.cons hzu .nil)))))
def fzM (back:List Arg×Val×List UInt8×Bool×Int×Int->Option (((List UInt8×Bool)×Val)⊕((Unit)×Val)))(x:List Arg×Val×List UInt8×Bool×Int×Int):Option (((List UInt8×Bool)×Val)⊕((Unit)×Val)):=obnd (idx x.1 x.2.2.2.2.1) fun y=>brn (decide (x.2.2.2.2.2<(↑y.L.length:Int))) (obnd (idx x.1 x.2.2.2.2.1) fun y=>obnd (idx y.L x.2.2.2.2.2) fun y=>obnd (czo y) fun y=>brn (!y.2.2) (some (Sum.inr ((),y.2.1))) (brn (!x.2.2.2.1) (obnd (cat x.2.2.1 y.1) fun z=>obnd (fzm z) fun y=>brn x.2.2.2.1 (back (x.1,x.2.1,z,true,x.2.2.2.2.1,i64.wrap (x.2.2.2.2.2+1))) (back (x.1,x.2.1,z,!decide (y.2=0),x.2.2.2.2.1,i64.wrap (x.2.2.2.2.2+1)))) (obnd (fzm x.2.2.1) fun y=>brn x.2.2.2.1 (back (x.1,x.2.1,x.2.2.1,true,x.2.2.2.2.1,i64.wrap (x.2.2.2.2.2+1))) (back (x.1,x.2.1,x.2.2.1,!decide (y.2=0),x.2.2.2.2.1,i64.wrap (x.2.2.2.2.2+1)))))) (some (Sum.inl ((x.2.2.1,x.2.2.2.1),x.2.1)))
def mzq:List Arg×Val×List UInt8×Bool×Int×Int->Option (((List UInt8×Bool)×Val)⊕((Unit)×Val)):=iter fzM big
def BzM:CutSpec tb:=⟨84,[(0,.val 123),(2,.ref 25),(3,.val 9),(4,.val 4),(5,.val 3),(6,.val 3)],[((.exit 2),[(3,.val 9),(4,.val 4)]),(.ret,[])],[22,23,24,25,26,27,28,29,33,34,35,36,37,38,39,40,41,32,42,43,44,8,7,9,45,46,47,48,49,50,51,52,3,54,55,53,56,57,10,11,58,59,60,61,62,4,30,31,6],mzq⟩
theorem wzi:A3 Tryz.f103 84 BzM:=A4 mzo .nil fzM
def fzL (back:List Arg×Val×List UInt8×Bool×Int->Option (((List UInt8×Bool)×Val)⊕((Unit)×Val)))(x:List Arg×Val×List UInt8×Bool×Int):Option (((List UInt8×Bool)×Val)⊕((Unit)×Val)):=brn (decide (x.2.2.2.2<(↑x.1.length:Int))) (obnd (mzq (x.1,x.2.1,x.2.2.1,x.2.2.2.1,x.2.2.2.2,0)) fun y=>osum y (fun y=>back (x.1,y.2,y.1.1,y.1.2,i64.wrap (x.2.2.2.2+1))) fun y=>some (Sum.inr ((),y.2))) (some (Sum.inl ((x.2.2.1,x.2.2.2.1),x.2.1)))
def mzp:List Arg×Val×List UInt8×Bool×Int->Option (((List UInt8×Bool)×Val)⊕((Unit)×Val)):=iter fzL big
def BzL:CutSpec tb:=⟨60,[(0,.val 123),(2,.ref 25),(3,.val 9),(4,.val 4),(5,.val 3)],[((.exit 0),[(3,.val 9),(4,.val 4)]),(.ret,[])],[16,17,18,19,6,22,23,24,25,26,27,28,29,33,34,35,36,37,38,39,40,41,32,42,43,44,8,7,9,45,46,47,48,49,50,51,52,3,54,55,53,56,57,10,11,58,59,60,61,62,4,30,31,20,21,5],mzp⟩
theorem wzh:A3 Tryz.f103 60 BzL:=A4 mzo (.cons wzi .nil) fzL
def dz5 (x:List Arg):Option (Val):=obnd (gzp x) fun y=>brn (!y) (obnd (azg 15) fun y=>some y) (obnd (mzp (x,{Kind:=0,N:={M:=0,S:=0},S:=[],B:=false,E:=0},[],false,0)) fun y=>osum y (fun y=>brn y.1.2 (obnd (azg 15) fun y=>some y) (obnd (azA y.1.1) fun y=>some y)) fun y=>some y.2)
def vzR:FSpec tb:=⟨[(0,.val 123)],[(0,.val 25)],dz5⟩
theorem xzV:A0 103 vzR:=A2 Tryz.func103 mzo (.cons wzh .nil)
abbrev JzA:List (Nat×FSpec tb):=[(96,vzS),(97,tzX),(98,vzQ),(99,vzV),(100,xzT),(101,vzW),(102,vzT),(103,vzR),(52,bzY)]
theorem cz3:azl Tryz.prog tb (JzA):=(.cons xzW (.cons wzm (.cons xzU (.cons xz4 (.cons zzm (.cons xz5 (.cons xzY (.cons xzV (.cons azG .nil)))))))))
def czw (x:Int×List Arg×Val×Int×Bool):Option (((Unit)×Val)⊕((Unit)×Val)):=brn x.2.2.2.2 (obnd (jzj (x.1,x.2.1)) fun y=>some (Sum.inr ((),y))) (brn (decide (x.2.2.2.1=15)) (brn (decide (x.2.2.2.1=15)) (obnd (dz6 (x.1,x.2.1)) fun y=>some (Sum.inr ((),y))) (brn (decide (x.2.2.2.1=18)) (obnd (dz5 x.2.1) fun y=>some (Sum.inr ((),y))) (brn (decide (x.2.2.2.1=28)) (brn (decide ((↑x.2.1.length:Int)=0)) (obnd (azg 42) fun y=>some (Sum.inr ((),y))) (some (Sum.inl ((),x.2.2.1)))) (some (Sum.inl ((),x.2.2.1)))))) (brn (decide (x.2.2.2.1=16)) (brn (decide (x.2.2.2.1=16)) (obnd (dz6 (x.1,x.2.1)) fun y=>some (Sum.inr ((),y))) (brn (decide (x.2.2.2.1=18)) (obnd (dz5 x.2.1) fun y=>some (Sum.inr ((),y))) (brn (decide (x.2.2.2.1=28)) (brn (decide ((↑x.2.1.length:Int)=0)) (obnd (azg 42) fun y=>some (Sum.inr ((),y))) (some (Sum.inl ((),x.2.2.1)))) (some (Sum.inl ((),x.2.2.1)))))) (brn (decide (x.2.2.2.1=17)) (obnd (dz6 (x.1,x.2.1)) fun y=>some (Sum.inr ((),y))) (brn (decide (x.2.2.2.1=18)) (obnd (dz5 x.2.1) fun y=>some (Sum.inr ((),y))) (brn (decide (x.2.2.2.1=28)) (brn (decide ((↑x.2.1.length:Int)=0)) (obnd (azg 42) fun y=>some (Sum.inr ((),y))) (some (Sum.inl ((),x.2.2.1)))) (some (Sum.inl ((),x.2.2.1))))))))
def Dz4:CutSpec tb:=⟨266,[(0,.val 3),(1,.val 123),(4,.ref 25),(5,.val 3),(46,.val 4)],[(.normal,[]),(.ret,[])],[52,53,54,56,55,57,58,59,60,61,63,62,64,65,67,66,68,69,70,71],(czw)⟩
theorem xzK:A5 Tryz.f61 266 Dz4:=A6 cz3 .nil
def cz5 (x:Int×List Arg×Val×Int×Bool):Option (((Unit)×Val)⊕((Unit)×Val)):=brn x.2.2.2.2 (obnd (kzv (x.1,x.2.1)) fun y=>some (Sum.inr ((),y))) (brn (decide (x.2.2.2.1=14)) (obnd (czw (x.1,x.2.1,x.2.2.1,x.2.2.2.1,decide (x.2.2.2.1=14))) fun y=>osum y (fun y=>some (Sum.inl ((),y.2))) fun y=>some (Sum.inr ((),y.2))) (brn (decide (x.2.2.2.1=19)) (obnd (czw (x.1,x.2.1,x.2.2.1,x.2.2.2.1,decide (x.2.2.2.1=19))) fun y=>osum y (fun y=>some (Sum.inl ((),y.2))) fun y=>some (Sum.inr ((),y.2))) (brn (decide (x.2.2.2.1=20)) (obnd (czw (x.1,x.2.1,x.2.2.1,x.2.2.2.1,decide (x.2.2.2.1=20))) fun y=>osum y (fun y=>some (Sum.inl ((),y.2))) fun y=>some (Sum.inr ((),y.2))) (brn (decide (x.2.2.2.1=26)) (obnd (czw (x.1,x.2.1,x.2.2.1,x.2.2.2.1,decide (x.2.2.2.1=26))) fun y=>osum y (fun y=>some (Sum.inl ((),y.2))) fun y=>some (Sum.inr ((),y.2))) (obnd (czw (x.1,x.2.1,x.2.2.1,x.2.2.2.1,decide (x.2.2.2.1=27))) fun y=>osum y (fun y=>some (Sum.inl ((),y.2))) fun y=>some (Sum.inr ((),y.2)))))))
def Dz3:CutSpec tb:=⟨218,[(0,.val 3),(1,.val 123),(4,.ref 25),(5,.val 3),(38,.val 4)],[(.normal,[]),(.ret,[])],[43,44,45,47,46,48,49,50,51,52,53,54,56,55,57,58,59,60,61,63,62,64,65,67,66,68,69,70,71],(cz5)⟩
theorem xzJ:A5 Tryz.f61 218 Dz3:=A6 cz3 (.cons xzK .nil)
def ezH (x:Int×List Arg×Val×Int×Bool):Option (((Unit)×Val)⊕((Unit)×Val)):=brn x.2.2.2.2 (obnd (jzi (x.1,x.2.1)) fun y=>some (Sum.inr ((),y))) (brn (decide (x.2.2.2.1=13)) (obnd (cz5 (x.1,x.2.1,x.2.2.1,x.2.2.2.1,decide (x.2.2.2.1=13))) fun y=>osum y (fun y=>some (Sum.inl ((),y.2))) fun y=>some (Sum.inr ((),y.2))) (brn (decide (x.2.2.2.1=21)) (obnd (cz5 (x.1,x.2.1,x.2.2.1,x.2.2.2.1,decide (x.2.2.2.1=21))) fun y=>osum y (fun y=>some (Sum.inl ((),y.2))) fun y=>some (Sum.inr ((),y.2))) (brn (decide (x.2.2.2.1=22)) (obnd (cz5 (x.1,x.2.1,x.2.2.1,x.2.2.2.1,decide (x.2.2.2.1=22))) fun y=>osum y (fun y=>some (Sum.inl ((),y.2))) fun y=>some (Sum.inr ((),y.2))) (obnd (cz5 (x.1,x.2.1,x.2.2.1,x.2.2.2.1,decide (x.2.2.2.1=29))) fun y=>osum y (fun y=>some (Sum.inl ((),y.2))) fun y=>some (Sum.inr ((),y.2))))))
def Dz2:CutSpec tb:=⟨178,[(0,.val 3),(1,.val 123),(4,.ref 25),(5,.val 3),(32,.val 4)],[(.normal,[]),(.ret,[])],[35,36,37,39,38,40,41,42,43,44,45,47,46,48,49,50,51,52,53,54,56,55,57,58,59,60,61,63,62,64,65,67,66,68,69,70,71],(ezH)⟩
theorem xzI:A5 Tryz.f61 178 Dz2:=A6 cz3 (.cons xzJ .nil)
def cz4 (x:Int×List Arg×Val×Int×Bool):Option (((Unit)×Val)⊕((Unit)×Val)):=brn x.2.2.2.2 (obnd (bzb (x.1,x.2.1)) fun y=>some (Sum.inr ((),y))) (brn (decide (x.2.2.2.1=11)) (obnd (ezH (x.1,x.2.1,x.2.2.1,x.2.2.2.1,decide (x.2.2.2.1=11))) fun y=>osum y (fun y=>some (Sum.inl ((),y.2))) fun y=>some (Sum.inr ((),y.2))) (obnd (ezH (x.1,x.2.1,x.2.2.1,x.2.2.2.1,decide (x.2.2.2.1=12))) fun y=>osum y (fun y=>some (Sum.inl ((),y.2))) fun y=>some (Sum.inr ((),y.2))))
def Dz1:CutSpec tb:=⟨154,[(0,.val 3),(1,.val 123),(4,.ref 25),(5,.val 3),(24,.val 4)],[(.normal,[]),(.ret,[])],[29,30,31,33,32,34,35,36,37,39,38,40,41,42,43,44,45,47,46,48,49,50,51,52,53,54,56,55,57,58,59,60,61,63,62,64,65,67,66,68,69,70,71],(cz4)⟩
theorem xzH:A5 Tryz.f61 154 Dz1:=A6 cz3 (.cons xzI .nil)
def czv (x:Int×List Arg×Val×Int×Bool):Option (((Unit)×Val)⊕((Unit)×Val)):=brn x.2.2.2.2 (obnd (hz6 (x.1,x.2.1)) fun y=>some (Sum.inr ((),y))) (brn (decide (x.2.2.2.1=10)) (obnd (cz4 (x.1,x.2.1,x.2.2.1,x.2.2.2.1,decide (x.2.2.2.1=10))) fun y=>osum y (fun y=>some (Sum.inl ((),y.2))) fun y=>some (Sum.inr ((),y.2))) (brn (decide (x.2.2.2.1=23)) (obnd (cz4 (x.1,x.2.1,x.2.2.1,x.2.2.2.1,decide (x.2.2.2.1=23))) fun y=>osum y (fun y=>some (Sum.inl ((),y.2))) fun y=>some (Sum.inr ((),y.2))) (brn (decide (x.2.2.2.1=24)) (obnd (cz4 (x.1,x.2.1,x.2.2.1,x.2.2.2.1,decide (x.2.2.2.1=24))) fun y=>osum y (fun y=>some (Sum.inl ((),y.2))) fun y=>some (Sum.inr ((),y.2))) (obnd (cz4 (x.1,x.2.1,x.2.2.1,x.2.2.2.1,decide (x.2.2.2.1=25))) fun y=>osum y (fun y=>some (Sum.inl ((),y.2))) fun y=>some (Sum.inr ((),y.2))))))
def Dz0:CutSpec tb:=⟨114,[(0,.val 3),(1,.val 123),(4,.ref 25),(5,.val 3),(15,.val 4)],[(.normal,[]),(.ret,[])],[21,22,23,25,24,26,27,28,29,30,31,33,32,34,35,36,37,39,38,40,41,42,43,44,45,47,46,48,49,50,51,52,53,54,56,55,57,58,59,60,61,63,62,64,65,67,66,68,69,70,71],(czv)⟩
theorem xzG:A5 Tryz.f61 114 Dz0:=A6 cz3 (.cons xzH .nil)
def czu (x:Int×List Arg×Val×Int×Bool):Option (((Unit)×Val)⊕((Unit)×Val)):=brn x.2.2.2.2 (obnd (jzf (x.1,x.2.1)) fun y=>some (Sum.inr ((),y))) (brn (decide (x.2.2.2.1=5)) (obnd (czv (x.1,x.2.1,x.2.2.1,x.2.2.2.1,decide (x.2.2.2.1=5))) fun y=>osum y (fun y=>some (Sum.inl ((),y.2))) fun y=>some (Sum.inr ((),y.2))) (brn (decide (x.2.2.2.1=6)) (obnd (czv (x.1,x.2.1,x.2.2.1,x.2.2.2.1,decide (x.2.2.2.1=6))) fun y=>osum y (fun y=>some (Sum.inl ((),y.2))) fun y=>some (Sum.inr ((),y.2))) (brn (decide (x.2.2.2.1=7)) (obnd (czv (x.1,x.2.1,x.2.2.1,x.2.2.2.1,decide (x.2.2.2.1=7))) fun y=>osum y (fun y=>some (Sum.inl ((),y.2))) fun y=>some (Sum.inr ((),y.2))) (brn (decide (x.2.2.2.1=8)) (obnd (czv (x.1,x.2.1,x.2.2.1,x.2.2.2.1,decide (x.2.2.2.1=8))) fun y=>osum y (fun y=>some (Sum.inl ((),y.2))) fun y=>some (Sum.inr ((),y.2))) (obnd (czv (x.1,x.2.1,x.2.2.1,x.2.2.2.1,decide (x.2.2.2.1=9))) fun y=>osum y (fun y=>some (Sum.inl ((),y.2))) fun y=>some (Sum.inr ((),y.2)))))))
def DzZ:CutSpec tb:=⟨66,[(0,.val 3),(1,.val 123),(4,.ref 25),(5,.val 3),(6,.val 4)],[(.normal,[]),(.ret,[])],[12,13,14,16,15,17,18,19,20,21,22,23,25,24,26,27,28,29,30,31,33,32,34,35,36,37,39,38,40,41,42,43,44,45,47,46,48,49,50,51,52,53,54,56,55,57,58,59,60,61,63,62,64,65,67,66,68,69,70,71],(czu)⟩
theorem xzF:A5 Tryz.f61 66 DzZ:=A6 cz3 (.cons xzG .nil)
def jzQ (x:Int×List Arg×Val×Int):Option (((Unit)×Val)⊕((Unit)×Val)):=brn (decide (x.2.2.2=0)) (obnd (czu (x.1,x.2.1,x.2.2.1,x.2.2.2,decide (x.2.2.2=0))) fun y=>osum y (fun y=>some (Sum.inl ((),y.2))) fun y=>some (Sum.inr ((),y.2))) (brn (decide (x.2.2.2=1)) (obnd (czu (x.1,x.2.1,x.2.2.1,x.2.2.2,decide (x.2.2.2=1))) fun y=>osum y (fun y=>some (Sum.inl ((),y.2))) fun y=>some (Sum.inr ((),y.2))) (brn (decide (x.2.2.2=2)) (obnd (czu (x.1,x.2.1,x.2.2.1,x.2.2.2,decide (x.2.2.2=2))) fun y=>osum y (fun y=>some (Sum.inl ((),y.2))) fun y=>some (Sum.inr ((),y.2))) (brn (decide (x.2.2.2=3)) (obnd (czu (x.1,x.2.1,x.2.2.1,x.2.2.2,decide (x.2.2.2=3))) fun y=>osum y (fun y=>some (Sum.inl ((),y.2))) fun y=>some (Sum.inr ((),y.2))) (obnd (czu (x.1,x.2.1,x.2.2.1,x.2.2.2,decide (x.2.2.2=4))) fun y=>osum y (fun y=>some (Sum.inl ((),y.2))) fun y=>some (Sum.inr ((),y.2))))))
def DzY:CutSpec tb:=⟨27,[(0,.val 3),(1,.val 123),(4,.ref 25),(5,.val 3)],[(.normal,[]),(.ret,[])],[7,6,8,9,10,11,12,13,14,16,15,17,18,19,20,21,22,23,25,24,26,27,28,29,30,31,33,32,34,35,36,37,39,38,40,41,42,43,44,45,47,46,48,49,50,51,52,53,54,56,55,57,58,59,60,61,63,62,64,65,67,66,68,69,70,71],(jzQ)⟩
theorem xzE:A5 Tryz.f61 27 DzY:=A6 cz3 (.cons xzF .nil)
def kzo (x:Int×List Arg):Option (Val):=obnd (jzQ (x.1,x.2,{Kind:=0,N:={M:=0,S:=0},S:=[],B:=false,E:=0},x.1)) fun y=>osum y (fun y=>obnd (azg 15) fun y=>some y) fun y=>some y.2
def xzD:FSpec tb:=⟨[(0,.val 3),(1,.val 123)],[(0,.val 25)],kzo⟩
theorem zzg:A0 61 xzD:=A2 Tryz.func61 cz3 (.cons xzE .nil)
end Go.Proofs.YtmkmofdnmllioaaGreatDoor
/- Y1 -/
namespace Go.Proofs.YtmkmofdnmllioaaGreatDoor
open Go Go.Ev Go.Lib
open Go.IntKind (i64 u64 u8 i32 u32 i16 u16)
def v0:Val:=⟨0,⟨0,0⟩,[],false,0⟩
theorem dzj (e:Int):azm e=some (vE e):=rfl
theorem az7 (e:Int):azg e=some (vE e):=rfl
def okA (l:List Arg):Prop:=l.length<=40/\∀a∈l,a.L.length<=5000/\∀v∈a.L,okW v
def badA (a:Arg):Bool:=!a.Area&&!decide (a.L.length=1)
def badB (a:Arg):Bool:=a.Area||!decide (a.L.length=1)
theorem many1_is (a:Arg):oz8 a=some (badA a):=by
 unfold oz8 badA;cases a.Area with
 | true=>rfl
 | false =>
  simp only[Bool.not_false,azc,Bool.true_and];by_cases h:a.L.length=1<;>simp[h]<;>omega
theorem MzJ (a:Arg):lzQ a=some (badB a):=by
 unfold lzQ badB;cases a.Area with
 | true=>rfl
 | false =>
  simp only[azb,Bool.false_or];by_cases h:a.L.length=1<;>simp[h]<;>omega
theorem iz2 {l:List Arg}(hl:l.length<=1000):bzf (l,())=some (l.any badA):=by
 unfold bzf bz0;have this:bzO (l,(),(l.length:Int),0)=some ((fun(r:Option Nat)=>match r with|some i=>.inr (i:Int)|none=>.inl ()) _):=jz7 (F:=azQ) (fun i=>(l,(),(l.length:Int),(i:Int))) (fun r=>match r with|some i=>.inr (i:Int)|none=>.inl ()) l badA (by omega)
  (fun back i hi=>by
   unfold azQ;simp only;rw[ltT hi,azc,idxG hi,aza,many1_is,aza,wr1 (by omega)];cases badA l[i]<;>rfl)
  (fun back=>by
   unfold azQ;simp only;rw[ltF,azb])
 simp only;rw[this,aza,<-lzw];cases l.findIdx? badA with
 | none=>rfl
 | some i =>
  simp only[osum,aza,Option.isSome_some];rw[dT0 (by omega)]
theorem Gz1 {l:List Arg}(hl:l.length<=1000):fzk l=some (!l.any badB):=by
 unfold fzk bzC bzR;have this:bzD (l,(),(l.length:Int),0)=some ((fun(r:Option Nat)=>match r with|some i=>.inr (i:Int)|none=>.inl ()) _):=jz7 (F:=azN) (fun i=>(l,(),(l.length:Int),(i:Int))) (fun r=>match r with|some i=>.inr (i:Int)|none=>.inl ()) l badB (by omega)
  (fun back i hi=>by
   unfold azN;simp only;rw[ltT hi,azc,idxG hi,aza,MzJ,aza,wr1 (by omega)];cases badB l[i]<;>rfl)
  (fun back=>by
   unfold azN;simp only;rw[ltF,azb])
 simp only;rw[this,aza,<-lzw];cases l.findIdx? badB with
 | none=>rfl
 | some i =>
  simp only[osum,aza,Option.isSome_some];rw[dT0 (show(0:Int)<=(i:Int) by omega)];rfl
theorem rzF {l:List Arg}(hl:l.length<=1000):gzp l=some (!l.any badA):=by
 unfold gzp;have this:mzr (l,0)=some ((fun(r:Option Nat)=>match r with|some _=>.inr false|none=>.inl ()) _):=jz7 (F:=fzQ) (fun i=>(l,(i:Int))) (fun r=>match r with|some _=>.inr false|none=>.inl ()) l badA (by omega)
  (fun back i hi=>by
   unfold fzQ badA;simp only;rw[ltT hi,azc,idxG hi,aza,wr1 (by omega)];cases(l[i]).Area with
   | true=>rfl
   | false =>
    simp only[Bool.not_false,azc,aza,Bool.true_and];by_cases h:(l[i]).L.length=1
    .rw[h];rfl
    .rw[dF0 h,dF0 (by omega)];rfl)
  (fun back=>by
   unfold fzQ;simp only;rw[ltF,azb])
 rw[this,aza,<-lzw];cases l.findIdx? badA<;>rfl
theorem rzG {l:List Arg}{p q:Int}(hl:l.length<=1000):azY (l,p,q)=some (decide (p<=l.length)&&(decide ((l.length:Int)<=q)&&!l.any badB)):=by
 unfold azY;simp only;by_cases h1:(l.length:Int)<p
 .rw[dT0 h1,azc,dF0 (show ¬p<=(l.length:Int) by omega)];rfl
 rw[dF0 h1,azb,dT0 (show p<=(l.length:Int) by omega)];by_cases h2:q<(l.length:Int)
 .rw[dT0 h2,azc,dF0 (show ¬(l.length:Int)<=q by omega)];rfl
 rw[dF0 h2,azb,dT0 (show(l.length:Int)<=q by omega)];have this:mzs (l,0)=some ((fun(r:Option Nat)=>match r with|some _=>.inr false|none=>.inl ()) _):=jz7 (F:=fzR) (fun i=>(l,(i:Int))) (fun r=>match r with|some _=>.inr false|none=>.inl ()) l badB (by omega)
  (fun back i hi=>by
   unfold fzR badB;simp only;rw[ltT hi,azc,idxG hi,aza,wr1 (by omega)];cases(l[i]).Area with
   | true=>rfl
   | false =>
    simp only[azb,aza,Bool.false_or];by_cases h:(l[i]).L.length=1
    .rw[h];rfl
    .rw[dF0 h,dF0 (by omega)];rfl)
  (fun back=>by
   unfold fzR;simp only;rw[ltF,azb])
 rw[this,aza,<-lzw];cases l.findIdx? badB<;>rfl
def numR (v:Val):Dec×Val×Bool:=(bzd v).getD (⟨0,0⟩,v0,false)
def truR (v:Val):Bool×Val×Bool:=(czl v).getD (false,v0,false)
def worR (v:Val):List UInt8×Val×Bool:=(dzT v).getD ([],v0,false)
theorem ezX {v:Val}(h:okW v):bzd v=some (numR v)/\azX v=some (numR v):=by
 obtain⟨r,h1,h2⟩:=number_eq h.1 h.2.1;unfold numR;rw[h1];exact⟨rfl,h2⟩
theorem tz6 {v:Val}(h:okW v):czl v=some (truR v)/\czK v=some (truR v):=by
 obtain⟨r,h1,h2⟩:=truth_eq h.1;unfold truR;rw[h1];exact⟨rfl,h2⟩
theorem uzb {v:Val}(h:okW v):dzT v=some (worR v)/\czo v=some (worR v):=by
 obtain⟨r,h1,h2⟩:=words_eq h.1 h.2.2;unfold worR;rw[h1];exact⟨rfl,h2⟩
theorem parse_ok (x:List UInt8):okD (fzl x).1/\I64 (fzl x).1.M:=by
 have z:okD ⟨0,0⟩/\I64 (⟨0,0⟩:Dec).M:=⟨ok0,I0⟩;unfold fzl;generalize (cutW (bz7 x)).1=w;generalize (cutW (bz7 x)).2.1=b;generalize (cutW (bz7 x)).2.2=p;generalize czS x=m;split
 .exact z
 .rename_i hc;have hd:(w++b).all isD=true:=by
   cases h:(w++b).all isD with
   | true=>rfl
   | false=>rw[h]at hc;simp at hc
  unfold lzC;by_cases h1:(if m then 9223372036854775808<valB (w++b) 0 else 9223372036854775808<=valB (w++b) 0)
  .rw[if_pos h1];exact z
  rw[if_neg h1];by_cases h2:9<b.length\/b.getLast?=some 48
  .rw[if_pos h2];exact z
  rw[if_neg h2];simp only[not_or]at h2;refine⟨⟨by simp,by simp only;omega,fun h3 hm=>?_⟩,?_⟩
  .simp only at h3 hm;rcases List.eq_nil_or_concat b with rfl|⟨l,c,rfl⟩
   .simp at h3
   .simp only[List.concat_eq_append]at hd h2 hm;have hc:isD c=true:=by
     rw[List.all_eq_true]at hd;exact hd c (by simp)
    have hne:c≠48:=fun e=>h2.2 (by simp[e])
    have hv:valB (w++(l++[c])) 0%10=c.toNat-48:=by
     rw[<-List.append_assoc,tzg];unfold isD at hc;simp only[Bool.and_eq_true,decide_eq_true_eq]at hc;simp only[valB];omega
    have hc48:c.toNat≠48:=fun e=>hne (UInt8.toNat_inj.1 (by simpa using e))
    unfold isD at hc;simp only[Bool.and_eq_true,decide_eq_true_eq]at hc;generalize valB (w++(l++[c])) 0=n at hv hm;cases m
    .simp at hm;omega
    .simp at hm;omega
  .unfold I64;generalize valB (w++b) 0=n at h1;cases m
   .simp at h1 ⊢;omega
   .simp at h1 ⊢;omega
theorem jzb {v:Val}(h:okW v):okD (numR v).1/\I64 (numR v).1.M:=by
 have z:okD ⟨0,0⟩/\I64 (⟨0,0⟩:Dec).M:=⟨ok0,I0⟩;obtain⟨h,hl,hm⟩:=h;rcases h with rfl|⟨d,rfl,hd⟩|⟨s,rfl,hs⟩|⟨t,rfl⟩|⟨e,rfl⟩
 .exact z
 .exact⟨hd,hm⟩
 .have hl:s.length<=3000:=hl;unfold numR bzd vS azm;simp[BzC (x:=s) (by omega)];by_cases h:(fzl s).2=0<;>simp[h]
  .exact parse_ok s
  .exact z
 .cases t
  .exact z
  .exact⟨okInt 1,by unfold I64;decide⟩
 .exact z
def szO (area:Bool)(v:Val):Bool:=area&&(!decide (v.Kind=1)&&!decide (v.Kind=4))
def dzV (area:Bool)(acc:List Dec)(v:Val):List Dec⊕(List Dec⊕Val):=bif szO area v then .inl acc else bif (numR v).2.2 then .inl (acc++[(numR v).1])else .inr (.inr (numR v).2.1)
def numL (area:Bool)(acc:List Dec)(l:List Val):List Dec⊕Val:=azo (dzV area) .inl acc l
def kzl:List Dec⊕Val->((List Dec)×Val)⊕((List Dec×Bool)×Val)
 | .inl acc=>.inl (acc,v0)
 | .inr v=>.inr (([],false),v)
theorem Azi {area:Bool}{acc acc':List Dec}{v:Val}(h:dzV area acc v = .inl acc'):acc'.length<=acc.length+1:=by
 unfold dzV at h;cases hk:szO area v with
 | true=>rw[hk,cond_true]at h;injection h with h;subst h;omega
 | false =>
  rw[hk,cond_false]at h;cases hn:(numR v).2.2 with
  | true=>rw[hn,cond_true]at h;injection h with h;subst h;simp
  | false=>rw[hn,cond_false]at h;cases h
theorem BzB {area:Bool}:∀{l:List Val} {acc acc':List Dec},numL area acc l = .inl acc'->acc'.length<=acc.length+l.length
 | [],acc,acc',h=>by simp only[numL,azo]at h;injection h with h;subst h;simp
 | v::l,acc,acc',h=>by
  simp only[numL,azo]at h;cases hs:dzV area acc v with
  | inl a =>
   rw[hs]at h;have:=BzB (l:=l) h;have:=Azi hs;simp only[List.length_cons];omega
  | inr y =>
   rw[hs]at h;have h:y = .inl acc':=h;subst h;unfold dzV at hs;cases h1:szO area v<;>cases h2:(numR v).2.2<;>simp[h1,h2]at hs
theorem Mzk {a:Arg}{acc:List Dec}(hL:a.L.length<=5000)(hv:∀v∈a.L,okW v)(ha:acc.length<=1000000):
 nzk (v0,acc,a,a.L,(a.L.length:Int),0)=some (kzl (numL a.Area acc a.L)):=by
 refine azC (F:=gzF) (fun s i=>(v0,s,a,a.L,(a.L.length:Int),(i:Int))) kzl a.L (dzV a.Area) .inl (fun s i=>s.length<=acc.length+i) (by omega) ?_ ?_ ?_ acc (by simp)
 .intro back s i hi hs;unfold gzF;simp only;have hn:=(ezX (hv a.L[i] (List.getElem_mem hi))).1;rw[ltT hi,azc,idxG hi,aza,wr1 (by omega)];unfold dzV szO;have e:obnd (bzd a.L[i]) (fun y=>brn (!y.2.2) (some (Sum.inr (([],false),y.2.1))) (obnd (app 16 s [y.1]) fun zs=>back (v0,zs,a,a.L,(a.L.length:Int),((i+1:Nat):Int)))) =
   jzM (fun s'=>back (v0,s',a,a.L,(a.L.length:Int),((i+1:Nat):Int))) kzl (bif (numR a.L[i]).2.2 then(.inl (s++[(numR a.L[i]).1]):List Dec⊕(List Dec⊕Val))else .inr (.inr (numR a.L[i]).2.1)):=by
   rw[hn,aza,appN (by simp;omega)];cases(numR a.L[i]).2.2<;>rfl
  cases a.Area with
  | false=>simp only[azb,Bool.false_and,cond_false];exact e
  | true =>
   simp only[azc,Bool.true_and];by_cases h1:(a.L[i]).Kind=1
   .rw[dT0 h1];simp only[Bool.not_true,azb,Bool.false_and,cond_false];exact e
   .rw[dF0 h1];simp only[Bool.not_false,azc,Bool.true_and];by_cases h4:(a.L[i]).Kind=4
    .rw[dT0 h4];simp only[Bool.not_true,azb,cond_false];exact e
    .rw[dF0 h4];rfl
 .intro s i hi s' hs hst;have:=Azi hst;omega
 .intro back s hs;unfold gzF;simp only;rw[ltF,azb];rfl
def numA (acc:List Dec)(l:List Arg):List Dec⊕Val:=azo (fun acc a=>match numL a.Area acc a.L with | .inl x=>.inl x | .inr v=>.inr (.inr v)) .inl acc l
theorem Mzj {l:List Arg}(h:okA l):nzi l=some (match numA [] l with | .inl x=>(x,v0,true) | .inr v=>([],v,false)):=by
 unfold nzi;have:=azC (F:=gzE) (fun s i=>(v0,s,l,(l.length:Int),(i:Int))) kzl l (fun acc a=>match numL a.Area acc a.L with | .inl x=>.inl x | .inr v=>.inr (.inr v)) .inl (fun s i=>s.length<=5000*i) (by have:=h.1;omega)
  (fun back s i hi hs=>by
   have hai:=h.2 l[i] (List.getElem_mem hi);have hl:=h.1;unfold gzE;simp only;rw[ltT hi,azc,idxG hi,aza,wr1 (by omega),Mzk hai.1 hai.2 (by omega),aza];cases numL (l[i]).Area s (l[i]).L<;>rfl)
  (fun s i hi s' hs hst=>by
   have hai:=h.2 l[i] (List.getElem_mem hi);cases hn:numL (l[i]).Area s (l[i]).L with
   | inl x =>
    rw[hn]at hst;simp only at hst;injection hst with hst;subst hst;have:=BzB hn;omega
   | inr v=>rw[hn]at hst;cases hst)
  (fun back s hs=>by
   unfold gzE;simp only;rw[ltF,azb];rfl) [] (by simp)
 have this:jzN (v0,[],l,(l.length:Int),0)=some (kzl (numA [] l)):=this
 show(obnd (jzN (v0,[],l,(l.length:Int),0)) _)=_
 rw[this,aza];cases numA [] l<;>rfl
def qzF (area count:Bool)(v:Val):Bool:=area&&(!decide (v.Kind=1)&&(!decide (v.Kind=4)||count))
def ezg (area count:Bool)(acc:List Dec)(v:Val):List Dec⊕(List Dec⊕Val):=bif qzF area count v then .inl acc else bif (numR v).2.2 then .inl (acc++[(numR v).1])else bif count then .inl acc else .inr (.inr (numR v).2.1)
theorem Azv {area count:Bool}{acc acc':List Dec}{v:Val}(h:ezg area count acc v = .inl acc'):acc'.length<=acc.length+1:=by
 unfold ezg at h;cases hk:qzF area count v with
 | true=>rw[hk,cond_true]at h;injection h with h;subst h;omega
 | false =>
  rw[hk,cond_false]at h;cases hn:(numR v).2.2 with
  | true=>rw[hn,cond_true]at h;injection h with h;subst h;simp
  | false =>
   rw[hn,cond_false]at h;cases count with
   | true=>rw[cond_true]at h;injection h with h;subst h;omega
   | false=>rw[cond_false]at h;cases h
def refL (area count:Bool)(acc:List Dec)(l:List Val):List Dec⊕Val:=azo (ezg area count) .inl acc l
theorem JzU {area count:Bool}:∀{l:List Val} {acc acc':List Dec},refL area count acc l = .inl acc'->acc'.length<=acc.length+l.length
 | [],acc,acc',h=>by simp only[refL,azo]at h;injection h with h;subst h;simp
 | v::l,acc,acc',h=>by
  simp only[refL,azo]at h;cases hs:ezg area count acc v with
  | inl a =>
   rw[hs]at h;have:=JzU (l:=l) h;have:=Azv hs;simp only[List.length_cons];omega
  | inr y =>
   rw[hs]at h;have h:y = .inl acc':=h;subst h;unfold ezg at hs;cases h1:qzF area count v<;>cases h2:(numR v).2.2<;>cases count<;>simp[h1,h2]at hs
theorem Hz4 {a:Arg}{acc:List Dec}{c:Bool}{i:Nat}(hi:i<a.L.length)(hv:okW a.L[i])(ha:acc.length<=2000000):
 hzz (c,v0,acc,a,(i:Int))=some (match ezg a.Area c acc a.L[i]with | .inl s=>.inl (s,v0) | .inr y=>kzl y):=by
 unfold hzz;simp only;rw[idxG hi,aza];have hn:=(ezX hv).2;unfold ezg qzF;generalize hvv:a.L[i]=v at hn ⊢;have e:obnd (azX v) (fun y=>brn (!y.2.2) (brn c (some (Sum.inl (acc,v0))) (brn (!y.2.2) (some (Sum.inr (([],false),y.2.1))) (obnd (app 16 acc [y.1]) fun zs=>some (Sum.inl (zs,v0)))))
  (brn (!y.2.2) (some (Sum.inr (([],false),y.2.1))) (obnd (app 16 acc [y.1]) fun zs=>some (Sum.inl (zs,v0))))) =
  some (match(bif (numR v).2.2 then(.inl (acc++[(numR v).1]):List Dec⊕(List Dec⊕Val))else bif c then .inl acc else .inr (.inr (numR v).2.1))with | .inl s=>.inl (s,v0) | .inr y=>kzl y):=by
  rw[hn,aza,appN (by simp;omega)];cases(numR v).2.2<;>cases c<;>rfl
 cases a.Area with
 | false=>simp only[azb,Bool.false_and,cond_false];exact e
 | true =>
  simp only[azc,Bool.true_and];by_cases h1:v.Kind=1
  .rw[dT0 h1];simp only[Bool.not_true,azb,Bool.false_and,cond_false];exact e
  .rw[dF0 h1];simp only[Bool.not_false,azc,Bool.true_and];by_cases h4:v.Kind=4
   .rw[dT0 h4];simp only[Bool.not_true,azb,Bool.false_or];cases c with
    | true=>rfl
    | false=>simp only[azb,cond_false];exact e
   .rw[dF0 h4];rfl
theorem Hz6 {a:Arg}{acc:List Dec}{c:Bool}(hL:a.L.length<=5000)(hv:∀v∈a.L,okW v)(ha:acc.length<=1000000):
 lzq (c,v0,acc,a,0)=some (kzl (refL a.Area c acc a.L)):=by
 refine azC (F:=ez0) (fun s i=>(c,v0,s,a,(i:Int))) kzl a.L (ezg a.Area c) .inl (fun s i=>s.length<=acc.length+i) (by omega) ?_ ?_ ?_ acc (by simp)
 .intro back s i hi hs;unfold ez0;simp only;rw[ltT hi,azc,Hz4 hi (hv _ (List.getElem_mem hi)) (by omega),aza,wr1 (by omega)];cases hst:ezg a.Area c s a.L[i]with
  | inl s'=>rfl
  | inr y =>
   cases y with
   | inr v=>rfl
   | inl x=>exfalso;unfold ezg at hst;cases h1:qzF a.Area c a.L[i]<;>cases h2:(numR a.L[i]).2.2<;>cases c<;>simp[h1,h2]at hst
 .intro s i hi s' hs hst;have:=Azv hst;omega
 .intro back s hs;unfold ez0;simp only;rw[ltF,azb];rfl
def refA (c:Bool)(acc:List Dec)(l:List Arg):List Dec⊕Val:=azo (fun acc a=>match refL a.Area c acc a.L with | .inl x=>.inl x | .inr v=>.inr (.inr v)) .inl acc l
theorem Hz5 {l:List Arg}{c:Bool}(h:okA l):kzY (l,c)=some (match refA c [] l with | .inl x=>(x,v0,true) | .inr v=>([],v,false)):=by
 unfold kzY;have:=azC (F:=ezZ) (fun s i=>(l,c,v0,s,(i:Int))) kzl l (fun acc a=>match refL a.Area c acc a.L with | .inl x=>.inl x | .inr v=>.inr (.inr v)) .inl (fun s i=>s.length<=5000*i) (by have:=h.1;omega)
  (fun back s i hi hs=>by
   have hai:=h.2 l[i] (List.getElem_mem hi);have hl:=h.1;unfold ezZ;simp only;rw[ltT hi,azc,idxG hi,aza,wr1 (by omega),Hz6 hai.1 hai.2 (by omega),aza];cases refL (l[i]).Area c s (l[i]).L<;>rfl)
  (fun s i hi s' hs hst=>by
   have hai:=h.2 l[i] (List.getElem_mem hi);cases hn:refL (l[i]).Area c s (l[i]).L with
   | inl x =>
    rw[hn]at hst;simp only at hst;injection hst with hst;subst hst;have:=JzU hn;omega
   | inr v=>rw[hn]at hst;cases hst)
  (fun back s hs=>by
   unfold ezZ;simp only;rw[ltF,azb];rfl) [] (by simp)
 have this:hzA (l,c,v0,[],0)=some (kzl (refA c [] l)):=this
 show(obnd (hzA (l,c,v0,[],0)) _)=_
 rw[this,aza];cases refA c [] l<;>rfl
theorem Lzf (area:Bool)(acc:List Dec)(v:Val):ezg area false acc v=dzV area acc v:=by
 unfold ezg dzV qzF szO;simp
theorem refA_num (acc:List Dec)(l:List Arg):refA false acc l=numA acc l:=by
 unfold refA numA refL numL;have:∀area,ezg area false=dzV area:=fun area=>funext fun acc=>funext fun v=>Lzf area acc v
 simp only[this]
def okd (d:Dec):Prop:=okD d/\I64 d.M
theorem okd0:okd ⟨0,0⟩:=⟨ok0,I0⟩
theorem okdI {n:Int}(h:I64 n):okd ⟨n,0⟩:=⟨okInt n,h⟩
def okR (r:Dec×Int):Prop:=(r.2=0->okd r.1)/\(r.2≠0->r.1=⟨0,0⟩)
theorem izF (v:Int){p:Nat}(hp:p<=9):okR (decV v p):=by
 have h:=@decV_ok v p;unfold decV at h ⊢;by_cases hc:I64 (azr v p).1
 .rw[if_pos hc]at h ⊢;exact⟨fun _=>(by obtain⟨h1,h2,_⟩:=h hp rfl;exact⟨h1,h2⟩),fun e=>absurd rfl e⟩
 .rw[if_neg hc];exact⟨fun e=>by simp at e,fun _=>rfl⟩
theorem natS {d:Dec}(h:okD d):∃s:Nat,d=⟨d.M,(s:Int)⟩/\s<=9:=by
 obtain⟨M,S⟩:=d;obtain⟨s,rfl⟩:=Int.eq_ofNat_of_zero_le h.1;have:=h.2.1;exact⟨s,rfl,by simp only at this;omega⟩
theorem add_eq {a b:Dec}(ha:okd a)(hb:okd b):∃r,ozg (a,b)=some r/\hz9 (a,b)=some r/\okR r/\r=decV (V a+V b) 9:=by
 refine⟨_,Add_is ha.2 hb.2 ha.1 hb.1,?_,izF _ (by omega),rfl⟩;obtain⟨s,es,hs⟩:=natS ha.1;obtain⟨t,et,ht⟩:=natS hb.1;have hm:=ha.2;have hn:=hb.2;generalize a.M=M at *;generalize b.M=N at *;subst es;subst et;exact refAdd_is hm hn hs ht
theorem sub_eq {a b:Dec}(ha:okd a)(hb:okd b):∃r,izH (a,b)=some r/\dzP (a,b)=some r/\okR r/\r=decV (V a-V b) 9:=by
 refine⟨_,Sub_is ha.2 hb.2 ha.1 hb.1,?_,izF _ (by omega),rfl⟩;obtain⟨s,es,hs⟩:=natS ha.1;obtain⟨t,et,ht⟩:=natS hb.1;have hm:=ha.2;have hn:=hb.2;generalize a.M=M at *;generalize b.M=N at *;subst es;subst et;exact refSub_is hm hn hs ht
theorem mul_eq {a b:Dec}(ha:okd a)(hb:okd b):∃r,gz1 (a,b)=some r/\fzY (a,b)=some r/\okR r:=by
 obtain⟨s,es,hs⟩:=natS ha.1;obtain⟨t,et,ht⟩:=natS hb.1;have hm:=ha.2;have hn:=hb.2;generalize a.M=M at *;generalize b.M=N at *;subst es;subst et;refine⟨_,Mzr hm hn hs ht,refMul_is hm hn hs ht,?_⟩;unfold prodV;split
 .exact izF _ (by omega)
 .exact izF _ (by omega)
theorem wzU {a b:Dec}(ha:okd a)(hb:okd b):∃r,ezJ (a,b)=some r/\bz6 (a,b)=some r/\okR r:=by
 by_cases h0:b.M=0
 .refine⟨(⟨0,0⟩,9),?_,?_,fun e=>by simp at e,fun _=>rfl⟩
  .unfold ezJ;simp only;rw[dT0 h0,azc]
  .unfold bz6;simp only;rw[dT0 h0,azc]
 obtain⟨s,es,hs⟩:=natS ha.1;obtain⟨t,et,ht⟩:=natS hb.1;have hm:=ha.2;have hn:=hb.2;generalize a.M=M at *;generalize b.M=N at *;subst es;subst et;exact⟨_,Mzq hm hn hs ht h0,refDiv_is hm hn hs ht h0,izF _ (by omega)⟩
theorem round_eq {a:Dec}{t:Int}(ha:okd a):∃r,fzb (a,t)=some r/\izf (a,t)=some r/\okR r:=by
 refine⟨_,sz0 ha.2 ha.1,Azt ha.2 ha.1,?_⟩;unfold mzQ;split
 .exact⟨fun e=>by simp at e,fun _=>rfl⟩
 .split
  .exact⟨fun _=>ha,fun e=>absurd rfl e⟩
  .split
   .exact izF _ (by omega)
   .exact izF _ (by omega)
theorem I64_floor {m:Int}{k:Nat}(h:I64 m):I64 (m/10^k):=by
 unfold I64 at *;have hp:(0:Int)<10^k:=Int.pow_pos (by decide);generalize (10:Int)^k=p at hp;rcases Int.le_total 0 m with hm|hm
 .have h1:=Int.ediv_nonneg hm (Int.le_of_lt hp);have h2:=Int.ediv_le_self p hm;omega
 .have h1:m<=m/p:=by
   refine Int.le_ediv_of_mul_le hp ?_;have h3:(-m)*1<=(-m)*p:=Int.mul_le_mul_of_nonneg_left (by omega) (by omega);rw[Int.neg_mul,Int.neg_mul,Int.mul_one]at h3;omega
  have h2:m/p<1:=Int.ediv_lt_of_lt_mul hp (by omega);omega
theorem IzN {a:Dec}(ha:okd a):∃r,izG a=some r/\fzv a=some r/\okR r :=
 ⟨_,Floor_is ha.2 ha.1.1 ha.1.2.1,Lzc ha.2 ha.1,fun _=>okdI (I64_floor ha.2),fun e=>absurd rfl e⟩
theorem tzo {a b:Dec}(ha:okd a)(hb:okd b):dzF (a,b)=some (cmpV (V a) (V b))/\czM (a,b)=some (cmpV (V a) (V b)):=yzs ha.1 hb.1 ha.2 hb.2
def numV (r:Dec×Int):Val:=if r.2=0 then vN r.1 else if r.2=9 then vE 7 else vE 36
theorem czA (r:Dec×Int):bza r=some (numV r):=by
 unfold bza numV;by_cases h:r.2=0
 .simp[h,vN]
 .by_cases h9:r.2=9<;>simp[h,h9,dzj]
theorem czH (r:Dec×Int):azL r=some (numV r):=by
 unfold azL numV;by_cases h:r.2=0
 .simp[h,vN,bzM]
 .by_cases h9:r.2=9<;>simp[h,h9,az7]
theorem int_is (n:Int):bzJ n=some (vN ⟨n,0⟩):=by
 unfold bzJ;rw[show bzH n=some ⟨n,0⟩ from rfl,aza,czA];rfl
theorem rzl (d:Dec):bzM d=some (vN d):=rfl
def cnt1 (area:Bool)(n:Nat)(v:Val):Nat:=bif (numR v).2.2&&(!area||decide (v.Kind=1))then n+1 else n
theorem bzx {A S Y:Type}(f:S->A->S)(fin:S->Y):∀(l:List A) (s:S),azo (fun s a=>.inl (f s a)) fin s l=fin (l.foldl f s)
 | [],_=>rfl
 | a::l,s=>by simp only[azo,List.foldl_cons];exact bzx f fin l _
def cntL (area:Bool)(n:Nat)(l:List Val):Nat:=l.foldl (cnt1 area) n
theorem cnt1_le (area:Bool)(n:Nat)(v:Val):cnt1 area n v<=n+1:=by unfold cnt1;cases(numR v).2.2&&(!area||decide (v.Kind=1))<;>simp
theorem Fzc (area:Bool):∀(l:List Val) (n:Nat),cntL area n l<=n+l.length
 | [],n=>by simp[cntL]
 | v::l,n=>by
  have:=Fzc area l (cnt1 area n v);have:=cnt1_le area n v;simp only[cntL,List.foldl_cons,List.length_cons]at *;omega
theorem Lzy {a:Arg}{n:Nat}(hL:a.L.length<=5000)(hv:∀v∈a.L,okW v)(hn:n<=1000000):
 nzf ((n:Int),a,a.L,(a.L.length:Int),0)=some ((cntL a.Area n a.L:Nat):Int):=by
 have:=azC (F:=gzD) (fun s i=>(((s:Nat):Int),a,a.L,(a.L.length:Int),(i:Int))) (fun s:Nat=>(s:Int)) a.L (fun s v=>.inl (cnt1 a.Area s v)) id (fun s i=>s<=n+i) (by omega)
  (fun back s i hi hs=>by
   unfold gzD;simp only;rw[ltT hi,azc,idxG hi,aza,(ezX (hv _ (List.getElem_mem hi))).1,aza,wr1 (i:=i) (by omega)];have w:i64.wrap ((s:Int)+1)=((s+1:Nat):Int):=wr1 (by omega);unfold cnt1;simp only[jzM];rw[w];cases(numR a.L[i]).2.2 with
   | false=>rfl
   | true =>
    cases a.Area with
    | false=>rfl
    | true =>
     by_cases h1:(a.L[i]).Kind=1
     .rw[dT0 h1];rfl
     .rw[dF0 h1];rfl)
  (fun s i hi s' hs hst=>by
   injection hst with hst;have:=cnt1_le a.Area s a.L[i];omega)
  (fun back s hs=>by
   unfold gzD;simp only;rw[ltF,azb];rfl) n (by simp)
 rw[bzx]at this;exact this
def cntA (n:Nat)(l:List Arg):Nat:=l.foldl (fun n a=>cntL a.Area n a.L) n
theorem Lzx {l:List Arg}(h:okA l):nzc l=some ((cntA 0 l:Nat):Int):=by
 have:=azC (F:=gzC) (fun s i=>(((s:Nat):Int),l,(l.length:Int),(i:Int))) (fun s:Nat=>(s:Int)) l (fun s a=>.inl (cntL a.Area s a.L)) id (fun s i=>s<=5000*i) (by have:=h.1;omega)
  (fun back s i hi hs=>by
   have hai:=h.2 l[i] (List.getElem_mem hi);have hl:=h.1;unfold gzC;simp only;rw[ltT hi,azc,idxG hi,aza,wr1 (by omega),Lzy hai.1 hai.2 (by omega),aza];rfl)
  (fun s i hi s' hs hst=>by
   have hai:=h.2 l[i] (List.getElem_mem hi);injection hst with hst;have:=Fzc (l[i]).Area (l[i]).L s;omega)
  (fun back s hs=>by
   unfold gzC;simp only;rw[ltF,azb];rfl) 0 (by simp)
 rw[bzx]at this;have this:nze (0,l,(l.length:Int),0)=some ((cntA 0 l:Nat):Int):=this;unfold nzc;rw[this];rfl
def uzW (area:Bool)(acc:List Dec)(v:Val):List Dec:=bif qzF area true v then acc else bif (numR v).2.2 then acc++[(numR v).1]else acc
theorem JzV (area:Bool):ezg area true=fun acc v=>.inl (uzW area acc v):=by
 funext acc v;unfold ezg uzW;cases qzF area true v<;>cases(numR v).2.2<;>rfl
theorem push1_len (area:Bool)(acc:List Dec)(v:Val):(uzW area acc v).length=cnt1 area acc.length v:=by
 unfold uzW cnt1 qzF;cases area with
 | false=>cases(numR v).2.2<;>simp
 | true =>
  by_cases h1:v.Kind=1
  .rw[dT0 h1];cases(numR v).2.2<;>simp
  .rw[dF0 h1];simp
theorem GzO (area:Bool):∀(l:List Val) (acc:List Dec),(l.foldl (uzW area) acc).length=cntL area acc.length l
 | [],_=>rfl
 | v::l,acc=>by
  simp only[List.foldl_cons,cntL];rw[GzO area l,push1_len];rfl
theorem EzD:∀(l:List Arg) (acc:List Dec),∃xs,refA true acc l = .inl xs/\xs.length=cntA acc.length l
 | [],acc=>⟨acc,rfl,rfl⟩
 | a::l,acc=>by
  have hr:refL a.Area true acc a.L = .inl (a.L.foldl (uzW a.Area) acc):=by
   unfold refL;rw[JzV,bzx]
  obtain⟨xs,h1,h2⟩:=EzD l (a.L.foldl (uzW a.Area) acc);refine⟨xs,?_,?_⟩
  .unfold refA at h1 ⊢;simp only[azo,hr];exact h1
  .rw[h2,GzO];rfl
theorem Mzi {area:Bool}{acc acc':List Dec}{v:Val}(hv:okW v)(ha:∀d∈acc,okd d)(h:dzV area acc v = .inl acc'):∀d∈acc',okd d:=by
 unfold dzV at h;cases hk:szO area v with
 | true=>rw[hk,cond_true]at h;injection h with h;subst h;exact ha
 | false =>
  rw[hk,cond_false]at h;cases hn:(numR v).2.2 with
  | true =>
   rw[hn,cond_true]at h;injection h with h;subst h;intro d hd;rcases List.mem_append.1 hd with hd|hd
   .exact ha d hd
   .rw[List.mem_singleton.1 hd];exact jzb hv
  | false=>rw[hn,cond_false]at h;cases h
theorem numL_ok {area:Bool}:∀{l:List Val} {acc acc':List Dec},(∀v∈l,okW v)->(∀d∈acc,okd d)->numL area acc l = .inl acc'->∀d∈acc',okd d
 | [],acc,acc',_,ha,h=>by simp only[numL,azo]at h;injection h with h;subst h;exact ha
 | v::l,acc,acc',hv,ha,h=>by
  simp only[numL,azo]at h;cases hs:dzV area acc v with
  | inl a =>
   rw[hs]at h;exact numL_ok (l:=l) (fun v hv'=>hv v (List.mem_cons_of_mem _ hv')) (Mzi (hv v (List.mem_cons_self ..)) ha hs) h
  | inr y =>
   rw[hs]at h;have h:y = .inl acc':=h;subst h;unfold dzV at hs;cases h1:szO area v<;>cases h2:(numR v).2.2<;>simp[h1,h2]at hs
theorem yzK:∀{l:List Arg} {acc acc':List Dec},(∀a∈l,∀v∈a.L,okW v)->(∀d∈acc,okd d)->numA acc l = .inl acc'->∀d∈acc',okd d
 | [],acc,acc',_,ha,h=>by simp only[numA,azo]at h;injection h with h;subst h;exact ha
 | a::l,acc,acc',hv,ha,h=>by
  simp only[numA,azo]at h;cases hs:numL a.Area acc a.L with
  | inl x =>
   rw[hs]at h;exact yzK (l:=l) (fun b hb=>hv b (List.mem_cons_of_mem _ hb)) (numL_ok (hv a (List.mem_cons_self ..)) ha hs) h
  | inr y=>rw[hs]at h;cases h
theorem uzQ:∀{l:List Arg} {acc acc':List Dec},(∀a∈l,a.L.length<=5000)->numA acc l = .inl acc'->acc'.length<=acc.length+5000*l.length
 | [],acc,acc',_,h=>by simp only[numA,azo]at h;injection h with h;subst h;simp
 | a::l,acc,acc',hv,h=>by
  simp only[numA,azo]at h;cases hs:numL a.Area acc a.L with
  | inl x =>
   rw[hs]at h;have:=uzQ (l:=l) (fun b hb=>hv b (List.mem_cons_of_mem _ hb)) h;have:=BzB hs;have:=hv a (List.mem_cons_self ..);simp only[List.length_cons];omega
  | inr y=>rw[hs]at h;cases h
def minD (m y:Dec):Dec:=if V y<V m then y else m
def maxD (m y:Dec):Dec:=if V m<V y then y else m
theorem AzK (a b:Int):decide (cmpV a b<0)=decide (a<b):=by
 unfold cmpV;by_cases h:a<b
 .simp[h]
 .by_cases h':b<a<;>simp[h,h']
theorem Izr (a b:Int):decide (0<cmpV a b)=decide (b<a):=by
 unfold cmpV;by_cases h:a<b
 .have:¬b<a:=by omega
  simp[h,this]
 .by_cases h':b<a<;>simp[h,h']
theorem FzO {m y:Dec}(hm:okd m)(hy:okd y):okd (minD m y):=by unfold minD;split<;>assumption
theorem FzN {m y:Dec}(hm:okd m)(hy:okd y):okd (maxD m y):=by unfold maxD;split<;>assumption
theorem min_is {x:Dec}{xs:List Dec}(hx:okd x)(hl:xs.length<=1000000)(h:∀d∈xs,okd d):bzq (x::xs,())=some (xs.foldl minD x):=by
 have:=azC (F:=azV) (fun s i=>(x::xs,(),s,((i+1:Nat):Int))) (fun s:Dec=>((),s)) xs (fun s y=>.inl (minD s y)) id (fun s _=>okd s) (by omega)
  (fun back s i hi hs=>by
   have hy:=h _ (List.getElem_mem hi);have hi':i+1<(x::xs).length:=by simpa using hi
   unfold azV;simp only;rw[ltT hi',azc,idxG hi',aza,List.getElem_cons_succ,(tzo hy hs).1,aza,aza,wr1 (by omega),AzK];simp only[jzM,minD];by_cases c:V xs[i]<V s
   .rw[dT0 c,if_pos c];rfl
   .rw[dF0 c,if_neg c];rfl)
  (fun s i hi s' hs hst=>by
   injection hst with hst;subst hst;exact FzO hs (h _ (List.getElem_mem hi)))
  (fun back s hs=>by
   unfold azV;simp only;rw[show((xs.length+1:Nat):Int)=((x::xs).length:Int) by simp,ltF,azb];rfl) x hx
 rw[bzx]at this;have this:bzT (x::xs,(),x,1)=some ((),xs.foldl minD x):=this;unfold bzq;simp only;rw[dF0 (by simp;omega),azb,idxZ,aza,this];rfl
theorem max_is {x:Dec}{xs:List Dec}(hx:okd x)(hl:xs.length<=1000000)(h:∀d∈xs,okd d):az4 (x::xs,())=some (xs.foldl maxD x):=by
 have:=azC (F:=azU) (fun s i=>(x::xs,(),s,((i+1:Nat):Int))) (fun s:Dec=>((),s)) xs (fun s y=>.inl (maxD s y)) id (fun s _=>okd s) (by omega)
  (fun back s i hi hs=>by
   have hy:=h _ (List.getElem_mem hi);have hi':i+1<(x::xs).length:=by simpa using hi
   unfold azU;simp only;rw[ltT hi',azc,idxG hi',aza,List.getElem_cons_succ,(tzo hy hs).1,aza,aza,wr1 (by omega),Izr];simp only[jzM,maxD];by_cases c:V s<V xs[i]
   .rw[dT0 c,if_pos c];rfl
   .rw[dF0 c,if_neg c];rfl)
  (fun s i hi s' hs hst=>by
   injection hst with hst;subst hst;exact FzN hs (h _ (List.getElem_mem hi)))
  (fun back s hs=>by
   unfold azU;simp only;rw[show((xs.length+1:Nat):Int)=((x::xs).length:Int) by simp,ltF,azb];rfl) x hx
 rw[bzx]at this;have this:bzS (x::xs,(),x,1)=some ((),xs.foldl maxD x):=this;unfold az4;simp only;rw[dF0 (by simp;omega),azb,idxZ,aza,this];rfl
def best (op:Int)(s:Option Dec)(y:Dec):Option Dec:=match s with
 | none=>some y
 | some m=>some (if op=1 then minD m y else maxD m y)
theorem best_is {op:Int}(hop:op=1\/op=2){l:List Dec}(hl:l.length<=1000000)(h:∀d∈l,okd d):izT (op,l,⟨0,0⟩,0)=some ((),(l.foldl (best op) none).getD ⟨0,0⟩):=by
 have:=azC (F:=fzN) (fun(s:Option Dec) i=>(op,l,s.getD ⟨0,0⟩,(i:Int))) (fun s:Option Dec=>((),s.getD ⟨0,0⟩)) l (fun s y=>.inl (best op s y)) id (fun s i=>(s=none↔i=0)/\okd (s.getD ⟨0,0⟩)) (by omega)
  (fun back s i hi hs=>by
   have hy:=h _ (List.getElem_mem hi);unfold fzN;simp only;rw[ltT hi,azc,idxG hi,aza,(tzo hy hs.2).2,aza,aza,wr1 (by omega),AzK,Izr];simp only[jzM];by_cases hi0:i=0
   .have:s=none:=hs.1.2 hi0;subst this;subst hi0;rfl
   .cases s with
    | none=>exact absurd (hs.1.1 rfl) hi0
    | some m =>
     rw[dF0 (show ¬(i:Int)=0 by omega),azb];simp only[best,Option.getD_some];rcases hop with rfl|rfl
     .rw[dT0 rfl,azc,if_pos rfl];unfold minD;by_cases c:V l[i]<V m
      .rw[dT0 c,if_pos c];rfl
      .rw[dF0 c,if_neg c];rfl
     .rw[dF0 (by decide),azb,dT0 rfl,azc,if_neg (by decide)];unfold maxD;by_cases c:V m<V l[i]
      .rw[dT0 c,if_pos c];rfl
      .rw[dF0 c,if_neg c];rfl)
  (fun s i hi s' hs hst=>by
   have hy:=h _ (List.getElem_mem hi);injection hst with hst;subst hst;refine⟨by unfold best;cases s<;>simp,?_⟩;unfold best;cases s with
   | none=>exact hy
   | some m =>
    simp only[Option.getD_some];split
    .exact FzO hs.2 hy
    .exact FzN hs.2 hy)
  (fun back s hs=>by
   unfold fzN;simp only;rw[ltF,azb];rfl) none ⟨by simp,okd0⟩
 rw[bzx]at this;exact this
theorem Gzn (op:Int):∀(xs:List Dec) (x:Dec),xs.foldl (best op) (some x)=some (xs.foldl (fun m y=>if op=1 then minD m y else maxD m y) x)
 | [],_=>rfl
 | y::xs,x=>by simp only[List.foldl_cons,best];exact Gzn op xs _
def addR (t d:Dec):Dec×Int:=decV (V t+V d) 9
def fzD (t d:Dec):Dec⊕(Dec×Int):=if(addR t d).2=0 then .inl (addR t d).1 else .inr (⟨0,0⟩,(addR t d).2)
def sumD (t:Dec)(l:List Dec):Dec×Int:=azo fzD (fun t=>(t,0)) t l
theorem addR_ok (t d:Dec):okR (addR t d):=izF _ (by omega)
theorem vzn {t d t':Dec}(h:fzD t d = .inl t'):okd t':=by
 unfold fzD at h;by_cases c:(addR t d).2=0
 .rw[if_pos c]at h;injection h with h;subst h;exact(addR_ok t d).1 c
 .rw[if_neg c]at h;cases h
theorem tz2:∀{l:List Dec} {t:Dec},okd t->okR (sumD t l)
 | [],t,h=>⟨fun _=>h,fun e=>absurd rfl e⟩
 | d::l,t,h=>by
  unfold sumD;simp only[azo];cases hs:fzD t d with
  | inl t'=>exact tz2 (l:=l) (vzn hs)
  | inr y =>
   unfold fzD at hs;by_cases c:(addR t d).2=0
   .rw[if_pos c]at hs;cases hs
   .rw[if_neg c]at hs;injection hs with hs;subst hs;exact⟨fun e=>absurd e c,fun _=>rfl⟩
def EzV (r:Dec×Int):((Unit)×(Val×Dec))⊕((Unit)×(Val×Dec)):=if r.2=0 then .inl ((),v0,r.1)else .inr ((),numV r,r.1)
theorem many_l5 {l:List Dec}(hl:l.length<=1000000)(h:∀d∈l,okd d):qz6 (v0,⟨0,0⟩,l,(l.length:Int),0)=some (EzV (sumD ⟨0,0⟩ l)):=by
 refine azC (F:=kzd) (fun s i=>(v0,s,l,(l.length:Int),(i:Int))) EzV l fzD (fun t=>(t,0)) (fun s _=>okd s) (by omega) ?_ ?_ ?_ ⟨0,0⟩ okd0
 .intro back s i hi hs;have hy:=h _ (List.getElem_mem hi);obtain⟨r,h1,_,hr,h3⟩:=add_eq hs hy;unfold kzd;simp only;rw[ltT hi,azc,idxG hi,aza,h1,aza,wr1 (by omega),czA,aza];unfold fzD addR;rw[<-h3];by_cases c:r.2=0
  .rw[dT0 c,if_pos c];rfl
  .rw[dF0 c,if_neg c];obtain⟨d,e⟩:=r;have:=hr.2 c;simp only at this c;subst this;simp only[jzM,EzV,if_neg c];rfl
 .intro s i hi s' hs hst;exact vzn hst
 .intro back s hs;unfold kzd;simp only;rw[ltF,azb];rfl
theorem refSum_is {l:List Dec}(hl:l.length<=1000000)(h:∀d∈l,okd d):nzH l=some (sumD ⟨0,0⟩ l):=by
 have:=azC (F:=jzh) (fun(s:Dec) i=>(l,(⟨0,0⟩:Dec),s,(i:Int))) (fun(r:(Dec×Int)×Dec)=>if r.1.2=0 then(.inl ((),(⟨0,0⟩:Dec),r.1.1):((Unit)×(Dec×Dec))⊕((Int)×(Dec×Dec)))else .inr (r.1.2,⟨0,0⟩,r.2)) l
  (fun s y=>match fzD s y with | .inl t=>.inl t | .inr r=>.inr (r,s)) (fun t=>((t,0),t)) (fun s _=>okd s) (by omega)
  (fun back s i hi hs=>by
   have hy:=h _ (List.getElem_mem hi);obtain⟨r,_,h1,hr,h3⟩:=add_eq hs hy;unfold jzh;simp only;rw[ltT hi,azc,idxG hi,aza,h1,aza,wr1 (by omega)];unfold fzD addR;rw[<-h3];by_cases c:r.2=0
   .rw[dT0 c,if_pos c];rfl
   .rw[dF0 c,if_neg c];simp only[jzM,if_neg c];rfl)
  (fun s i hi s' hs hst=>by
   cases hq:fzD s l[i]with
   | inl t=>rw[hq]at hst;injection hst with hst;subst hst;exact vzn hq
   | inr r=>rw[hq]at hst;cases hst)
  (fun back s hs=>by
   unfold jzh;simp only;rw[ltF,azb];rfl) ⟨0,0⟩ okd0
 have this:pzS (l,⟨0,0⟩,⟨0,0⟩,0)=_:=this;unfold nzH;rw[this,aza];have key:∀(l:List Dec) (t:Dec),(azo (fun s y=>match fzD s y with | .inl t=>.inl t | .inr r=>.inr (r,s)) (fun t=>((t,(0:Int)),t)) t l).1=sumD t l:=by
  intro l;induction l with
  | nil=>intro t;rfl
  | cons y l ih =>
   intro t;unfold sumD;simp only[azo];cases fzD t y with
   | inl t'=>exact ih t'
   | inr r=>rfl
 have k:=key l ⟨0,0⟩;generalize azo (fun s y=>match fzD s y with | .inl t=>.inl t | .inr r=>.inr (r,s)) (fun t=>((t,(0:Int)),t)) (⟨0,0⟩:Dec) l=q at k;obtain⟨⟨d,e⟩,d'⟩:=q;simp only at k;rw[<-k];have hok:okR (d,e):=by rw[k];exact tz2 okd0
 by_cases c:e=0
 .subst c;rfl
 .have:=hok.2 c;simp only at this;subst this;simp only[if_neg c];rfl
theorem LzD {a b:List UInt8}(ha:a≠[])(hg:good a):decodeL (a++b)=decodeL a:=by
 have hl:0<a.length:=List.length_pos_iff.2 ha;have hget:∀j,j<a.length->(a++b).getD j 0=a.getD j 0:=fun j hj=>by simp[List.getD_eq_getElem?_getD,List.getElem?_append_left hj]
 unfold good at hg;rw[decodeL_N]at hg ⊢;rw[decodeL_N,hget 0 hl,List.length_append];have k0:=(a.getD 0 0).toNat_lt;rcases decodeN_shape a.length (a.getD 0 0).toNat (a.getD 1 0).toNat (a.getD 2 0).toNat (a.getD 3 0).toNat with⟨c,e⟩|⟨c1,c2,c3,cv,e⟩|⟨c1,c2,c3,c4,cv,cs,e⟩|⟨c1,c2,c3,c4,c5,cv,cw,e⟩|e
 .rw[e];unfold decodeN;rw[if_pos c]
 .rw[e,hget 1 c2];unfold decodeN;rw[if_neg (by omega),if_pos ⟨c1,by omega,c3⟩,if_pos cv]
 .rw[e,hget 1 (by omega),hget 2 c2];unfold decodeN;rw[if_neg (by omega),if_neg (by omega),if_pos ⟨c1,⟨by omega,c3⟩,by omega,c4⟩];rw[if_pos (by omega)]
 .rw[e,hget 1 (by omega),hget 2 (by omega),hget 3 c2];unfold decodeN;rw[if_neg (by omega),if_neg (by omega),if_neg (by omega),if_pos ⟨c1,⟨by omega,c3⟩,⟨by omega,c4⟩,by omega,c5⟩];rw[if_pos (by omega)]
 .rw[e]at hg;exact absurd ⟨rfl,rfl⟩ hg
theorem tzE {a:List UInt8}(ha:a≠[])(h:validD a=true):good a/\validD (a.drop (decodeL a).2)=true:=by
 rw[validD_step a ha]at h;unfold good;by_cases c:(decodeL a).1=65533/\(decodeL a).2=1
 .rw[if_pos c]at h;cases h
 .rw[if_neg c]at h;exact⟨c,h⟩
theorem Ez3:∀(n:Nat) (a b:List UInt8),a.length<=n->validD a=true->validD (a++b)=validD b/\rs (a++b)=rs a++rs b
 | n,[],b,_,_=>⟨rfl,rfl⟩
 | 0,c::a,b,h,_=>by simp at h
 | n+1,c::a,b,h,hv=>by
  have hne:c::a≠[]:=by simp
  obtain⟨hg,hv'⟩:=tzE hne hv;have hne2:(c::a)++b≠[]:=by simp
  have hd:=LzD (b:=b) hne hg;have hw:=decodeL_width (c::a);have hle:=decodeL_le (c::a) hne;have hdr:((c::a)++b).drop (decodeL (c::a)).2=(c::a).drop (decodeL (c::a)).2++b:=List.drop_append_of_le_length hle;obtain⟨i1,i2⟩:=Ez3 n ((c::a).drop (decodeL (c::a)).2) b (by rw[List.length_drop];simp only[List.length_cons]at *;omega) hv';refine⟨?_,?_⟩
  .rw[validD_step _ hne2,hd,hdr,if_neg hg,i1]
  .rw[fzx hne2,hd,hdr,i2,fzx hne];rfl
theorem szV {a b:List UInt8}(ha:validD a=true):validD (a++b)=validD b:=(Ez3 _ a b (Nat.le_refl _) ha).1
theorem rs_app {a b:List UInt8}(ha:validD a=true):rs (a++b)=rs a++rs b:=(Ez3 _ a b (Nat.le_refl _) ha).2
theorem CzD:∀(a b:List Int),ulen (a++b)=ulen a+ulen b
 | [],b=>by simp[ulen]
 | r::a,b=>by simp only[List.cons_append,ulen];rw[CzD a b];omega
def encs (l:List Int):List UInt8:=l.flatMap Lib.encodeRune
theorem tzs:∀(n:Nat) (a:List UInt8),a.length<=n->validD a=true->encs (rs a)=a
 | _,[],_,_=>rfl
 | 0,c::a,h,_=>by simp at h
 | n+1,c::a,h,hv=>by
  have hne:c::a≠[]:=by simp
  obtain⟨hg,hv'⟩:=tzE hne hv;have hw:=decodeL_width (c::a);have ih:=tzs n ((c::a).drop (decodeL (c::a)).2) (by rw[List.length_drop];simp only[List.length_cons]at *;omega) hv';rw[fzx hne];unfold encs at *;rw[List.flatMap_cons,ih,encode_decode _ hne hg,List.take_append_drop]
theorem FzR:∀(i:Nat) (a:List UInt8),validD a=true->i<=(rs a).length->∃x y,a=x++y/\validD x=true/\validD y=true/\rs x=(rs a).take i/\rs y=(rs a).drop i
 | 0,a,hv,_=>⟨[],a,rfl,rfl,hv,rfl,rfl⟩
 | i+1,[],_,h=>by simp[pzz]at h
 | i+1,c::a,hv,h=>by
  have hne:c::a≠[]:=by simp
  obtain⟨hg,hv'⟩:=tzE hne hv;have hle:=decodeL_le (c::a) hne;rw[fzx hne]at h ⊢;simp only[List.length_cons]at h;obtain⟨x,y,h1,h2,h3,h4,h5⟩:=FzR i _ hv' (by omega);have hw:=decodeL_width (c::a);have he:(c::a).take (decodeL (c::a)).2≠[]:=fun e=>by
   have:=congrArg List.length e;simp only[List.length_take,List.length_nil]at this;simp only[List.length_cons]at *;omega
  have hd:decodeL ((c::a).take (decodeL (c::a)).2)=decodeL (c::a):=by
   have hs:=decodeN_shape (c::a).length ((c::a).getD 0 0).toNat ((c::a).getD 1 0).toNat ((c::a).getD 2 0).toNat ((c::a).getD 3 0).toNat
   unfold good at hg;have hN:=decodeL_N (c::a);have hget:∀k j,j<k->((c::a).take k).getD j 0=(c::a).getD j 0:=fun k j hj=>by simp[List.getD_eq_getElem?_getD,hj]
   rw[hN]at hg;rcases hs with⟨c1,e⟩|⟨c1,c2,c3,cv,e⟩|⟨c1,c2,c3,c4,cv,cs,e⟩|⟨c1,c2,c3,c4,c5,cv,cw,e⟩|e
   .rw[hN,e];rw[decodeL_N,hget 1 0 (by omega)];unfold decodeN;rw[if_pos c1]
   .rw[hN,e];rw[decodeL_N,hget 2 0 (by omega),hget 2 1 (by omega),List.length_take];unfold decodeN;rw[if_neg (by omega),if_pos ⟨c1,by omega,c3⟩,if_pos cv]
   .rw[hN,e];rw[decodeL_N,hget 3 0 (by omega),hget 3 1 (by omega),hget 3 2 (by omega),List.length_take];unfold decodeN;rw[if_neg (by omega),if_neg (by omega),if_pos ⟨c1,⟨by omega,c3⟩,by omega,c4⟩];rw[if_pos (by omega)]
   .rw[hN,e];rw[decodeL_N,hget 4 0 (by omega),hget 4 1 (by omega),hget 4 2 (by omega),hget 4 3 (by omega),List.length_take];unfold decodeN;rw[if_neg (by omega),if_neg (by omega),if_neg (by omega),if_pos ⟨c1,⟨by omega,c3⟩,⟨by omega,c4⟩,by omega,c5⟩];rw[if_pos (by omega)]
   .rw[e]at hg;exact absurd ⟨rfl,rfl⟩ hg
  have hdn:((c::a).take (decodeL (c::a)).2).drop (decodeL (c::a)).2=[]:=by
   rw[List.drop_eq_nil_iff,List.length_take];omega
  have hvt:validD ((c::a).take (decodeL (c::a)).2)=true:=by
   rw[validD_step _ he,hd,if_neg hg,hdn];rfl
  have hrt:rs ((c::a).take (decodeL (c::a)).2)=[((decodeL (c::a)).1:Int)]:=by
   rw[fzx he,hd,hdn];rfl
  refine⟨(c::a).take (decodeL (c::a)).2++x,y,?_,?_,h3,?_,h5⟩
  .rw[List.append_assoc,<-h1,List.take_append_drop]
  .rw[szV hvt,h2]
  .rw[rs_app hvt,hrt,h4];rfl
theorem slice_rs {a:List UInt8}(hv:validD a=true){i k:Nat}(h:i+k<=(rs a).length):validD (encs (((rs a).drop i).take k))=true/\rs (encs (((rs a).drop i).take k))=((rs a).drop i).take k/\(encs (((rs a).drop i).take k)).length<=a.length:=by
 obtain⟨x,y,h1,h2,h3,h4,h5⟩:=FzR i a hv (by omega);obtain⟨x',y',k1,k2,k3,k4,k5⟩:=FzR k y h3 (by rw[h5,List.length_drop];omega);rw[<-h5,<-k4,tzs _ x' (Nat.le_refl _) k2];refine⟨k2,rfl,?_⟩;rw[h1,k1];simp;omega
theorem or8:(∀x:Fin 32,azn .or .u8 192 (x.val:Int)=192+x.val)/\(∀x:Fin 16,azn .or .u8 224 (x.val:Int)=224+x.val)/\(∀x:Fin 8,azn .or .u8 240 (x.val:Int)=240+x.val) /\
 (∀x:Fin 64,azn .or .u8 128 (x.val:Int)=128+x.val)/\(∀x:Fin 256,azn .and .u8 (x.val:Int) 63=((x.val%64:Nat):Int)):=by decide +kernel
theorem u8w (n:Nat):u8.wrap (n:Int)=((n%256:Nat):Int):=by simp[IntKind.wrap,IntKind.bits,IntKind.signed]
theorem yzC (n k:Nat):(n:Int).fdiv (k:Int)=((n/k:Nat):Int):=by
 rw[Int.fdiv_eq_ediv_of_nonneg _ (by omega)];rfl
theorem lo6 (n:Nat):azn .or .u8 128 (azn .and .u8 (u8.wrap (n:Int)) 63)=((128+n%64:Nat):Int):=by
 rw[u8w];have h1:=or8.2.2.2.2 ⟨n%256,by omega⟩;simp only at h1;rw[h1];have h2:=or8.2.2.2.1 ⟨n%256%64,by omega⟩;simp only at h2;rw[h2];omega
theorem hi5 {n:Nat}(h:n<32):azn .or .u8 192 (u8.wrap (n:Int))=((192+n:Nat):Int):=by
 rw[u8w,Nat.mod_eq_of_lt (by omega)];have:=or8.1 ⟨n,h⟩;simp only at this;rw[this];omega
theorem hi4 {n:Nat}(h:n<16):azn .or .u8 224 (u8.wrap (n:Int))=((224+n:Nat):Int):=by
 rw[u8w,Nat.mod_eq_of_lt (by omega)];have:=or8.2.1 ⟨n,h⟩;simp only at this;rw[this];omega
theorem hi3 {n:Nat}(h:n<8):azn .or .u8 240 (u8.wrap (n:Int))=((240+n:Nat):Int):=by
 rw[u8w,Nat.mod_eq_of_lt (by omega)];have:=or8.2.2.1 ⟨n,h⟩;simp only at this;rw[this];omega
def bzK (r:Int):Prop:=0<=r/\r<=1114111/\(r<55296\/57343<r)
theorem zz1 (l:List UInt8):bzK ((decodeL l).1:Int):=by
 rw[decodeL_N];have h:=decodeN_shape l.length (l.getD 0 0).toNat (l.getD 1 0).toNat (l.getD 2 0).toNat (l.getD 3 0).toNat
 have k0:=(l.getD 0 0).toNat_lt;unfold bzK;rcases h with⟨c,e⟩|⟨c1,c2,c3,cv,e⟩|⟨c1,c2,c3,c4,cv,cs,e⟩|⟨c1,c2,c3,c4,c5,cv,cw,e⟩|e
 all_goals rw[e];simp only;omega
theorem rzJ:∀(n:Nat) (l:List UInt8),l.length<=n->∀r∈rs l,bzK r
 | _,[],_,r,h=>by simp[pzz]at h
 | 0,c::l,h,_,_=>by simp at h
 | n+1,c::l,hl,r,h=>by
  have hw:=decodeL_width (c::l);rw[fzx (by simp)]at h;rcases List.mem_cons.1 h with rfl|h
  .exact zz1 _
  .exact rzJ n _ (by rw[List.length_drop];simp only[List.length_cons]at *;omega) r h
theorem u32in {r:Int}(h:bzK r):u32.wrap r=r:=by
 unfold bzK at h;have:u32.wrap r=r%4294967296:=by simp[IntKind.wrap,IntKind.bits,IntKind.signed]
 rw[this];omega
theorem encZ (r:Nat)(h:bzK r):Lib.encodeRune (r:Int)=if r<128 then [UInt8.ofNat r]else if r<2048 then [UInt8.ofNat (192+r/64),UInt8.ofNat (128+r%64)]else if r<65536 then [UInt8.ofNat (224+r/4096),UInt8.ofNat (128+r/64%64),UInt8.ofNat (128+r%64)]else
 [UInt8.ofNat (240+r/262144),UInt8.ofNat (128+r/4096%64),UInt8.ofNat (128+r/64%64),UInt8.ofNat (128+r%64)]:=by
 unfold bzK at h;unfold Lib.encodeRune;have b:∀z:Int,∀n:Nat,z=(n:Int)->z.toNat.toUInt8=UInt8.ofNat n:=fun z n e=>by subst e;rfl
 by_cases h1:r<128
 .rw[if_pos h1,encodeRuneZ_one (by omega) (by omega)];simp only[List.map_cons,List.map_nil];rw[b _ r rfl]
 rw[if_neg h1];by_cases h2:r<2048
 .rw[if_pos h2,encodeRuneZ_two (by omega) (by omega)];simp only[List.map_cons,List.map_nil];rw[b _ (192+r/64) (by omega),b _ (128+r%64) (by omega)]
 rw[if_neg h2];by_cases h3:r<65536
 .rw[if_pos h3,encodeRuneZ_three (by omega)];simp only[List.map_cons,List.map_nil];rw[b _ (224+r/4096) (by omega),b _ (128+r/64%64) (by omega),b _ (128+r%64) (by omega)]
 rw[if_neg h3,encodeRuneZ_four (by omega) (by omega)];simp only[List.map_cons,List.map_nil];rw[b _ (240+r/262144) (by omega),b _ (128+r/4096%64) (by omega),b _ (128+r/64%64) (by omega),b _ (128+r%64) (by omega)]
theorem AzF:∀{l:List UInt8},(∀c∈l,c.toNat<128)->validD l=true
 | [],_=>rfl
 | c::l,h=>by
  have hc:=h c (by simp);have hd:decodeL (c::l)=(c.toNat,1):=by
   rw[decodeL_N];unfold decodeN;rw[if_pos (by simpa using hc)];rfl
  rw[validD_step _ (by simp),hd,if_neg (by simp only;omega)];exact AzF (l:=l) (fun d hd=>h d (List.mem_cons_of_mem _ hd))
theorem tzh {D:List Int}(h:azW D):∀c∈azS D,c.toNat<128:=by
 intro c hc;unfold azS at hc;simp only[List.mem_reverse,List.mem_map]at hc;obtain⟨d,hd,rfl⟩:=hc;have:=h d hd;unfold chr;rw[show(UInt8.ofNat (48+d.toNat)).toNat=(48+d.toNat)%256 from rfl];omega
theorem sz1 {M:Int}{s:Nat}(hM:I64 M)(hs:s<=9):(fzF M s).length<=45/\∀c∈fzF M s,c.toNat<128:=by
 have l1:=qzw hM;have hp:=uzU M.natAbs s;have hd:=DzS M.natAbs s;have w:∀D:List Int,(azS D).length=D.length:=fun D=>by unfold azS;simp
 unfold fzF mz3;constructor
 .have hs1:(if M<0 then [(45:UInt8)]else []).length<=1:=by split<;>simp
  have hp30:(dza M.natAbs s).length<=20:=by rw[hp];omega
  rw[List.length_append];by_cases h0:s=0
  .rw[if_pos h0,w];omega
  .rw[if_neg h0];simp only[List.length_append,List.length_cons,w,List.length_drop,List.length_take];omega
 .intro c hc;rcases List.mem_append.1 hc with hc|hc
  .split at hc
   .simp only[List.mem_singleton]at hc;subst hc;decide
   .simp at hc
  .split at hc
   .exact tzh hd c hc
   .rcases List.mem_append.1 hc with hc|hc
    .exact tzh (Lz1 hd _) c hc
    .rcases List.mem_cons.1 hc with rfl|hc
     .decide
     .exact tzh (Lz2 hd _) c hc
def texR (v:Val):List UInt8:=(dz7 v).getD []
theorem tex_eq {v:Val}(h:okW v):dz7 v=some (texR v)/\dzs v=some (texR v):=by
 obtain⟨r,h1,h2⟩:=text_eq h.1 h.2.2;unfold texR;rw[h1];exact⟨rfl,h2⟩
theorem nzV {v:Val}(h:okW v)(h4:v.Kind≠4):(texR v).length<=3000/\validD (texR v)=true:=by
 obtain⟨h,hl,hm⟩:=h;rcases h with rfl|⟨d,rfl,hd⟩|⟨s,rfl,hs⟩|⟨t,rfl⟩|⟨e,rfl⟩
 .exact⟨by decide,rfl⟩
 .obtain⟨M,S⟩:=d;have hm':I64 M:=hm;obtain⟨s,rfl⟩:=Int.eq_ofNat_of_zero_le hd.1;have hs:s<=9:=by have:=hd.2.1;simp only at this;omega
  have e:texR (vN ⟨M,(s:Int)⟩)=fzF M s:=by
   unfold texR dz7 vN;simp[qzl hm' hs]
  have:=sz1 hm' hs;rw[e];exact⟨by omega,AzF this.2⟩
 .exact⟨hl,hs⟩
 .cases t<;>exact⟨by decide,by decide +kernel⟩
 .exact absurd rfl h4
def czD (x:List UInt8):Val:=if(az5 x).2=0 then vS x else vE 15
theorem ozW {x:List UInt8}(hl:x.length<=900000000):cz1 x=some (czD x):=by
 unfold cz1 czD;rw[qzR hl,aza];by_cases h:(az5 x).2=0
 .rw[if_pos h,h];rfl
 .rw[if_neg h,dF0 h];rfl
theorem mzj {x:List UInt8}(hl:x.length<=4000000):azA x=some (czD x):=by
 unfold azA czD;rw[lzH hl,aza];by_cases h:(az5 x).2=0
 .rw[if_pos h,h];rfl
 .rw[if_neg h,dF0 h];rfl
def mulR (a b:Dec):Dec×Int:=(gz1 (a,b)).getD (⟨0,0⟩,0)
theorem yzG {a b:Dec}(ha:okd a)(hb:okd b):gz1 (a,b)=some (mulR a b)/\fzY (a,b)=some (mulR a b)/\okR (mulR a b):=by
 obtain⟨r,h1,h2,h3⟩:=mul_eq ha hb;unfold mulR;rw[h1];exact⟨rfl,h2,h3⟩
def powS (a:Dec)(s:Dec)(_:Unit):Dec⊕(Dec⊕((Dec×Int)×Dec)):=let r:=mulR s a;bif decide (r.2=0)then .inl r.1 else .inr (.inr (r,s))
theorem yzL {a s s':Dec}{u:Unit}(ha:okd a)(hs:okd s)(h:powS a s u = .inl s'):okd s':=by
 unfold powS at h;simp only at h;by_cases h0:(mulR s a).2=0
 .rw[dT0 h0,cond_true]at h;cases h;exact(yzG hs ha).2.2.1 h0
 .rw[dF0 h0,cond_false]at h;cases h
def powX (a:Dec)(n:Nat):Dec⊕((Dec×Int)×Dec):=azo (powS a) .inl ⟨1,0⟩ (List.replicate n ())
theorem pow_l1 {a:Dec}(v:Val){n:Nat}(ha:okd a)(hn:n<=1000):pzL (a,v,⟨1,0⟩,(n:Int),0)=some ((fun(r:Dec⊕((Dec×Int)×Dec))=>match r with | .inl d=>.inl ((),v,d) | .inr (r,_)=>.inr ((),numV r,r.1)) (powX a n)) :=
 azC (F:=iz7) (fun(s:Dec) (i:Nat)=>(a,v,s,(n:Int),(i:Int))) (fun(r:Dec⊕((Dec×Int)×Dec))=>match r with | .inl d=>.inl ((),v,d) | .inr (r,_)=>.inr ((),numV r,r.1)) (List.replicate n ()) (powS a) .inl (fun s _=>okd s) (by rw[List.length_replicate];omega)
  (fun back s i hi hs=>by
   rw[List.length_replicate]at hi;unfold iz7 powS;simp only;rw[ltT hi,azc,(yzG hs ha).1,aza,wr1 (by omega),czA,aza];cases decide ((mulR s a).2=0)<;>rfl)
  (fun s i hi s' hs h=>yzL ha hs h)
  (fun back s hs=>by
   rw[List.length_replicate];unfold iz7;simp only;rw[ltF,azb]) _ (okdI (by unfold I64;omega))
theorem GzR {a:Dec}(v:Val){n:Nat}(ha:okd a)(hn:n<=1000):jzR (a,v,(n:Int),⟨1,0⟩,0)=some ((fun(r:Dec⊕((Dec×Int)×Dec))=>match r with | .inl d=>.inl ((),v,d) | .inr (r,s)=>.inr ((),numV r,s)) (powX a n)) :=
 azC (F:=gzR) (fun(s:Dec) (i:Nat)=>(a,v,(n:Int),s,(i:Int))) (fun(r:Dec⊕((Dec×Int)×Dec))=>match r with | .inl d=>.inl ((),v,d) | .inr (r,s)=>.inr ((),numV r,s)) (List.replicate n ()) (powS a) .inl (fun s _=>okd s) (by rw[List.length_replicate];omega)
  (fun back s i hi hs=>by
   rw[List.length_replicate]at hi;unfold gzR powS;simp only;rw[ltT hi,azc,(yzG hs ha).2.1,aza,wr1 (by omega),czH,aza];cases decide ((mulR s a).2=0)<;>rfl)
  (fun s i hi s' hs h=>yzL ha hs h)
  (fun back s hs=>by
   rw[List.length_replicate];unfold gzR;simp only;rw[ltF,azb]) _ (okdI (by unfold I64;omega))
theorem fold_ok {a:Dec}(ha:okd a):∀(l:List Unit) (s d:Dec),okd s->azo (powS a) (.inl:Dec->Dec⊕((Dec×Int)×Dec)) s l = .inl d->okd d
 | [],s,d,hs,h=>by simp only[azo]at h;cases h;exact hs
 | u::l,s,d,hs,h=>by
  simp only[azo]at h;cases hst:powS a s u with
  | inl s'=>rw[hst]at h;exact fold_ok ha l s' d (yzL ha hs hst) h
  | inr y =>
   rw[hst]at h;unfold powS at hst;simp only at hst;by_cases h0:(mulR s a).2=0
   .rw[dT0 h0,cond_true]at hst;cases hst
   .rw[dF0 h0,cond_false]at hst;cases hst;cases h
theorem okW_of {v:Val}(hl:v.S.length<=3000)(hm:I64 v.N.M)(h:nzY v=some 0):okW v:=by
 obtain⟨e,h1,_,h3⟩:=qzW hl;rw[h1]at h;exact⟨h3 (Option.some.inj h),hl,hm⟩
def fnT:List Function:=(jz9 ()).getD []
theorem allT_is:jz9 ()=some fnT:=rfl
theorem Fzt:fnT.length=30:=by decide +kernel
def core (k:Int)(l:List Arg):Option Val:=obnd (ezL (k,l,v0,k)) fun y=>osum y (fun y=>obnd (fzk l) fun y_2=>brn (!y_2) (some (vE 15)) (obnd (iz5 ([],l,(l.length:Int),0)) fun y_3=>obnd (dze (k,y.2,y_3,k)) fun y=>osum y (fun _=>obnd (bz8 (k,y_3)) fun y=>some y) fun y=>some y.2)) fun y=>some y.2
def arLo (k:Nat):Int:=((fnT[k]?).map (·.lo)).getD 0
def arHi (k:Nat):Int:=((fnT[k]?).map (·.hi)).getD 0
theorem Izk {k:Nat}(hk:k<30)(l:List Arg):czi ((k:Int),l) =
 brn (decide ((l.length:Int)<arLo k)) (some (vE 15)) (brn (decide (arHi k<(l.length:Int))) (some (vE 15)) (core k l)):=by
 have h1:k<fnT.length:=by rw[Fzt];exact hk
 unfold czi arLo arHi;rw[allT_is,aza,dF0 (show ¬(k:Int)<0 by omega),azb,dF0 (show ¬(fnT.length:Int)<=(k:Int) by rw[Fzt];omega),azb,idxG h1,List.getElem?_eq_getElem h1];simp only[dzj,aza];rfl
theorem Izl {k:Nat}(hk:k<30){l:List Arg}(h1:arLo k<=l.length)(h2:(l.length:Int)<=arHi k):czi ((k:Int),l)=core k l:=by
 rw[Izk hk,dF0 (by omega),azb,dF0 (by omega),azb]
theorem apply_bad {k:Nat}(hk:k<30){l:List Arg}(h:(l.length:Int)<arLo k\/arHi k<l.length):czi ((k:Int),l)=some (vE 15):=by
 rw[Izk hk];by_cases h1:(l.length:Int)<arLo k
 .rw[dT0 h1,azc]
 .rw[dF0 h1,azb,dT0 (by omega),azc]
theorem apply_out {op:Int}{l:List Arg}(h:op<0\/30<=op):czi (op,l)=some (vE 15):=by
 unfold czi;rw[allT_is,aza];simp only[dzj,aza];rcases h with h|h
 .rw[dT0 h];rfl
 .rw[dF0 (show ¬op<0 by omega),azb,dT0 (show(fnT.length:Int)<=op by rw[Fzt];omega)];rfl
theorem core_many {k:Int}{l:List Arg}(h:k=0\/k=1\/k=2\/k=3\/k=4\/k=11\/k=12\/k=18):core k l=bzu (k,l):=by
 unfold core ezL bzV;rcases h with rfl|rfl|rfl|rfl|rfl|rfl|rfl|rfl
 .cases bzu (0,l)<;>simp[osum]
 .cases bzu (1,l)<;>simp[osum]
 .cases bzu (2,l)<;>simp[osum]
 .cases bzu (3,l)<;>simp[osum]
 .cases bzu (4,l)<;>simp[osum]
 .cases bzu (11,l)<;>simp[osum]
 .cases bzu (12,l)<;>simp[osum]
 .cases bzu (18,l)<;>simp[osum]
theorem oz3 {k:Int}{l:List Arg}(h:k=10\/k=23\/k=24\/k=25):core k l=bzy (k,l):=by
 unfold core ezL bzV;rcases h with rfl|rfl|rfl|rfl
 .cases bzy (10,l)<;>simp[osum]
 .cases bzy (23,l)<;>simp[osum]
 .cases bzy (24,l)<;>simp[osum]
 .cases bzy (25,l)<;>simp[osum]
theorem core_na {l:List Arg}:core 28 l=some (vE 42):=by
 unfold core ezL bzV;simp[dzj,osum]
def fst1 (a:Arg):Val:=a.L.headD v0
def jzv (k:Int)(vs:List Val):Option Val:=obnd (dze (k,v0,vs,k)) fun y=>osum y (fun _=>bz8 (k,vs)) fun y=>some y.2
theorem firsts_is {l:List Arg}(hl:l.length<=1000)(hb:l.any badB=false):iz5 ([],l,(l.length:Int),0)=some (l.map fst1):=by
 have this:iz5 ([],l,(l.length:Int),0)=some (id _):=azC (F:=iz4) (fun(s:List Val) (i:Nat)=>(s,l,(l.length:Int),(i:Int))) id l (fun s a=>.inl (s++[fst1 a])) id (fun s i=>s.length=i) (by omega)
  (fun back s i hi hs=>by
   have hb':badB l[i]=false:=by
    rw[List.any_eq_false]at hb;simpa using hb _ (List.getElem_mem hi)
   unfold badB at hb';simp only[Bool.or_eq_false_iff,Bool.not_eq_false',decide_eq_true_eq]at hb';have e:idx (l[i]).L 0=some (fst1 l[i]):=by
    unfold fst1;obtain⟨_,h1⟩:=hb'
    match h:(l[i]).L,h1 with
    | [v],_=>rfl
   unfold iz4;simp only;rw[ltT hi,azc,idxG hi,aza,e,aza,appN (by simp only[List.length_singleton];omega),aza,wr1 (by omega)];rfl)
  (fun s i hi s' hs h=>by cases h;simp[hs])
  (fun back s hs=>by
   unfold iz4;simp only;rw[ltF,azb];rfl) [] rfl
 rw[this,bzx];have:∀(l:List Arg) (s:List Val),l.foldl (fun s a=>s++[fst1 a]) s=s++l.map fst1:=by
  intro l;induction l with
  | nil=>intro s;simp
  | cons a l ih=>intro s;simp only[List.foldl_cons,List.map_cons];rw[ih];simp
 rw[id,id,this];rfl
theorem wzR {k:Int}{l:List Arg}(hl:l.length<=1000)(h:k≠0/\k≠1/\k≠2/\k≠3/\k≠4/\k≠11/\k≠12/\k≠18/\k≠10/\k≠23/\k≠24/\k≠25/\k≠28):core k l=if l.any badB then some (vE 15)else jzv k (l.map fst1):=by
 unfold core ezL bzV;obtain⟨h0,h1,h2,h3,h4,h5,h6,h7,h8,h9,h10,h11,h12⟩:=h;simp only[h0,h1,h2,h3,h4,h5,h6,h7,h8,h9,h10,h11,h12,decide_false,azb,osum,aza];rw[Gz1 hl,aza];cases hb:l.any badB with
 | true=>rfl
 | false =>
  simp only[Bool.not_false,Bool.not_true,azb,Bool.false_eq_true,if_false];rw[firsts_is hl hb,aza];unfold jzv;cases dze (k,v0,l.map fst1,k)with
  | none=>rfl
  | some y =>
   cases y with
   | inl _=>simp only[aza];cases bz8 (k,l.map fst1)<;>rfl
   | inr _=>rfl
theorem Jz5 (v:Val)(vs:List Val):jzv 21 (v::vs)=some (vT (decide (v.Kind=0))):=rfl
theorem MzK (v:Val)(vs:List Val):jzv 22 (v::vs)=some (vT (decide (v.Kind=4))):=rfl
def typeN (k:Int):Int:=if k=2 then 2 else if k=3 then 4 else if k=4 then 16 else 1
theorem Lzj {v:Val}(vs:List Val)(h:v.Kind=0\/v.Kind=1\/v.Kind=2\/v.Kind=3\/v.Kind=4):jzv 29 (v::vs)=some (vN ⟨typeN v.Kind,0⟩):=by
 unfold jzv dze;simp only[idxZ,aza,decide_true,azc];rcases h with h|h|h|h|h<;>(rw[h];kernel_rfl)
theorem MzL {v:Val}(vs:List Val)(h:okW v):jzv 13 (v::vs)=some (bif (truR v).2.2 then vT (!(truR v).1)else(truR v).2.1):=by
 unfold jzv dze;simp only[idxZ,aza];rw[(tz6 h).1];rcases truR v with⟨t,f,b⟩;cases b<;>rfl
theorem Lzi {k:Int}(vs:List Val)(h:k=5\/k=6\/k=7\/k=8\/k=9):jzv k vs=bzF (k,vs):=by
 unfold jzv dze;rcases h with rfl|rfl|rfl|rfl|rfl
 .cases bzF (5,vs)<;>simp[osum]
 .cases bzF (6,vs)<;>simp[osum]
 .cases bzF (7,vs)<;>simp[osum]
 .cases bzF (8,vs)<;>simp[osum]
 .cases bzF (9,vs)<;>simp[osum]
theorem Lzk {k:Int}(vs:List Val)(h:k≠21/\k≠22/\k≠29/\k≠13/\k≠5/\k≠6/\k≠7/\k≠8/\k≠9):jzv k vs=bz8 (k,vs):=by
 unfold jzv dze;obtain⟨h0,h1,h2,h3,h4,h5,h6,h7,h8⟩:=h;simp only[h0,h1,h2,h3,h4,h5,h6,h7,h8,decide_false,azb,osum,aza]
theorem Iz9 {v:Val}(h:okW v):v.Kind=0\/v.Kind=1\/v.Kind=2\/v.Kind=3\/v.Kind=4:=by
 rcases h.1 with rfl|⟨d,rfl,_⟩|⟨s,rfl,_⟩|⟨t,rfl⟩|⟨e,rfl⟩<;>simp[vB,vN,vS,vT,vE]
def up (d:Dec)(p:Nat):Int:=d.M*10^(p-d.S.toNat)
theorem pow_big {M:Int}(k:Nat)(h:¬I64 (M*10)):¬I64 (M*10*10^k):=by
 intro hh;refine h ?_;have h1:(1:Int)<=10^k:=by
  have:0<(10:Int)^k:=Int.pow_pos (by decide);omega
 unfold I64 at *;generalize (10:Int)^k=e at *;generalize M*10=z at *;rcases Int.le_total 0 z with hz|hz
 .have:z*1<=z*e:=Int.mul_le_mul_of_nonneg_left h1 hz;omega
 .have:(-z)*1<=(-z)*e:=Int.mul_le_mul_of_nonneg_left h1 (by omega);rw[Int.neg_mul,Int.neg_mul]at this;omega
theorem check10 {M:Int}(h:I64 M):decide (i64.wrap ((i64.wrap (M*10)).tdiv 10)=M)=decide (I64 (M*10)):=by
 by_cases hb:I64 (M*10)
 .rw[dT0 hb,azi (n:=M*10) hb.1 hb.2,Int.mul_tdiv_cancel _ (by decide),azi h.1 h.2,dT0 rfl]
 .rw[dF0 hb];refine dF0 fun e=>hb ?_
  have hr:-9223372036854775808<=i64.wrap (M*10)/\i64.wrap (M*10)<=9223372036854775807:=by rw[wi64];omega
  generalize i64.wrap (M*10)=w at *;have ht:-922337203685477580<=w.tdiv 10/\w.tdiv 10<=922337203685477580:=by
   rcases Int.le_total 0 w with hw|hw
   .rw[Int.tdiv_eq_ediv_of_nonneg hw];omega
   .rw[show w.tdiv 10 = -((-w).tdiv 10) by rw[Int.neg_tdiv,Int.neg_neg],Int.tdiv_eq_ediv_of_nonneg (by omega)];omega
  rw[azi (by omega) (by omega)]at e;unfold I64;omega
theorem up_step {M:Int}{k:Nat}:M*10^(k+1)=M*10*10^k:=by rw[Int.pow_succ,Int.mul_comm (10^k) 10,Int.mul_assoc]
theorem GzZ:∀(k n:Nat) (M S:Int),k<n->I64 M->0<=S->S+k<=9->∃y,iter hzO n (S+k,⟨M,S⟩)=some y /\
 (I64 (M*10^k)->y = .inl ((),⟨M*10^k,S+k⟩))/\(¬I64 (M*10^k)->∃d,y = .inr ((0,false),d))
 | 0,n+1,M,S,_,hM,h0,h9=>by
  rw[azF];unfold hzO;simp only;rw[dF0 (show ¬S<S+((0:Nat):Int) by omega),azb];refine⟨_,rfl,fun _=>?_,fun h=>?_⟩
  .simp
  .exact absurd (by simpa using hM) h
 | k+1,n+1,M,S,hn,hM,h0,h9=>by
  rw[azF];unfold hzO;simp only;rw[dT0 (show S<S+((k+1:Nat):Int) by omega),azc,check10 hM,up_step];by_cases hb:I64 (M*10)
  .rw[dT0 hb,Bool.not_true,azb,azi (n:=M*10) hb.1 hb.2,azi (n:=S+1) (by omega) (by omega)];obtain⟨y,h1,h2,h3⟩:=GzZ k n (M*10) (S+1) (by omega) hb (by omega) (by omega);rw[show S+((k+1:Nat):Int)=S+1+(k:Int) by omega];exact⟨y,h1,h2,h3⟩
  .rw[dF0 hb,Bool.not_false,azc];exact⟨_,rfl,fun h=>absurd h (pow_big k hb),fun _=>⟨_,rfl⟩⟩
theorem EzL {d:Dec}{p:Nat}(hd:okd d)(hp:d.S<=(p:Int))(h9:p<=9):lzB (d,(p:Int))=some (if I64 (up d p)then(up d p,true)else(0,false)):=by
 have h0:=hd.1.1;obtain⟨y,h1,h2,h3⟩:=GzZ (p-d.S.toNat) big d.M d.S (by rw[czd];omega) hd.2 h0 (by omega);unfold lzB up;simp only;have e:ozj ((p:Int),d)=some y:=by
  rw[<-h1,show d.S+((p-d.S.toNat:Nat):Int)=(p:Int) by omega];rfl
 rw[e,aza];by_cases hb:I64 (d.M*10^(p-d.S.toNat))
 .rw[h2 hb,if_pos hb];rfl
 .obtain⟨d',h⟩:=h3 hb;rw[h,if_neg hb];rfl
theorem more_l1:∀(k n:Nat) (M S:Int),k<n->I64 M->0<=S->S+k<=9->iter hz3 n (S+k,M,S)=some (if I64 (M*10^k)then .inl (M*10^k)else .inr (0,8))
 | 0,n+1,M,S,_,hM,h0,h9=>by
  rw[azF];unfold hz3;simp only;rw[dF0 (show ¬S<S+((0:Nat):Int) by omega),azb,if_pos (by simpa using hM)];simp
 | k+1,n+1,M,S,hn,hM,h0,h9=>by
  rw[azF];unfold hz3;simp only;rw[dT0 (show S<S+((k+1:Nat):Int) by omega),azc,up_step];by_cases hb:I64 (M*10)
  .have hb':=hb;unfold I64 at hb';rw[dF0 (show ¬922337203685477580<M by omega),dF0 (show ¬M < -922337203685477580 by omega),azb,azb,Int.mul_comm 10 M,azi (n:=M*10) hb.1 hb.2,azi (n:=S+1) (by omega) (by omega)];have:=more_l1 k n (M*10) (S+1) (by omega) hb (by omega) (by omega);rw[show S+((k+1:Nat):Int)=S+1+(k:Int) by omega];exact this
  .rw[if_neg (pow_big k hb)];by_cases h1:922337203685477580<M
   .rw[dT0 h1];rfl
   .rw[dF0 h1,azb,dT0 (show M < -922337203685477580 by unfold I64 at hb;omega)];rfl
theorem Jzm {d:Dec}{p:Nat}(hd:okd d)(hp:d.S<=(p:Int))(h9:p<=9):lzD (d,(p:Int))=some (if I64 (up d p)then(up d p,0)else(0,8)):=by
 have h0:=hd.1.1;have h1:=more_l1 (p-d.S.toNat) big d.M d.S (by rw[czd];omega) hd.2 h0 (by omega);unfold lzD up;simp only;rw[show d.S+((p-d.S.toNat:Nat):Int)=(p:Int) by omega]at h1;rw[show ozE ((p:Int),d.M,d.S)=_ from h1,aza];by_cases hb:I64 (d.M*10^(p-d.S.toNat))
 .rw[if_pos hb,if_pos hb];rfl
 .rw[if_neg hb,if_neg hb];rfl
def fm (X Y:Int):Int:=let r:=X.tmod Y;if ¬r=0/\¬(decide (r<0)=decide (Y<0))then r+Y else r
theorem fm_ok (X:Int){Y:Int}(h:Y≠0):(fm X Y).natAbs<Y.natAbs/\(fm X Y≠0->(fm X Y<0↔Y<0))/\∃k,X-fm X Y=k*Y:=by
 have hr:(X.tmod Y).natAbs<Y.natAbs:=by
  rw[Int.natAbs_tmod];exact Nat.mod_lt _ (by omega)
 have hq:=Int.mul_tdiv_add_tmod X Y;unfold fm;simp only;generalize X.tmod Y=r at *;generalize hk:X.tdiv Y=k at *;by_cases h0:r=0
 .subst h0;rw[if_neg (by simp)];exact⟨by omega,fun h=>absurd rfl h,k,by rw[Int.mul_comm k Y];omega⟩
 .by_cases h1:decide (r<0)=decide (Y<0)
  .rw[if_neg (fun c=>c.2 h1)];refine⟨hr,fun _=>?_,k,by rw[Int.mul_comm k Y];omega⟩;simpa using h1
  .rw[if_pos ⟨h0,h1⟩];have h2:¬(r<0↔Y<0):=by simpa using h1
   refine⟨by omega,fun _=>by omega,k-1,?_⟩;rw[Int.sub_mul,Int.one_mul,Int.mul_comm k Y];omega
def modV (a b:Dec):Dec×Int :=
 if b.M=0 then(⟨0,0⟩,9)else
  let p:=max a.S.toNat b.S.toNat
  if I64 (up a p)/\I64 (up b p)then(⟨(azr (fm (up a p) (up b p)) p).1,((azr (fm (up a p) (up b p)) p).2:Int)⟩,0)else(⟨0,0⟩,8)
theorem Gzg {d:Dec}{p:Nat}(h:d.M≠0):up d p≠0:=by
 unfold up;intro e;have:(10:Int)^(p-d.S.toNat)≠0:=by
  have:0<(10:Int)^(p-d.S.toNat):=Int.pow_pos (by decide);omega
 rcases Int.mul_eq_zero.1 e with h1|h1
 .exact h h1
 .exact this h1
theorem fm_I64 {X Y:Int}(hY:I64 Y)(h:Y≠0):I64 (fm X Y):=by
 have:=(fm_ok X h).1;unfold I64 at *;omega
theorem cond_max {a b:Dec}(ha:0<=a.S)(hb:0<=b.S):(bif decide (a.S<b.S)then b.S else a.S)=((max a.S.toNat b.S.toNat:Nat):Int):=by
 by_cases h:a.S<b.S
 .rw[dT0 h,cond_true];omega
 .rw[dF0 h,cond_false];omega
theorem IzO {α:Type}(X Y:Int)(f:Int->α)(g:Int->α)(hg:∀r,I64 (r+Y)->g (r+Y)=f (r+Y))(hi:I64 (fm X Y)):
 brn (!decide (X.tmod Y=0)) (brn (!decide (decide (X.tmod Y<0)=decide (Y<0))) (some (g (X.tmod Y+Y))) (some (f (X.tmod Y)))) (some (f (X.tmod Y)))=some (f (fm X Y)):=by
 unfold fm at hi ⊢;simp only at hi ⊢;by_cases h0:X.tmod Y=0
 .rw[dT0 h0,if_neg (fun c=>c.1 h0)];rfl
 .by_cases h1:decide (X.tmod Y<0)=decide (Y<0)
  .rw[dF0 h0,dT0 h1,if_neg (fun c=>c.2 h1)];rfl
  .rw[if_pos ⟨h0,h1⟩]at hi;rw[dF0 h0,dF0 h1,if_pos ⟨h0,h1⟩,<-hg _ hi];rfl
theorem rest_is4 {a b:Dec}(ha:okd a)(hb:okd b):sze (a,b)=some (numV (modV a b)):=by
 unfold sze modV;simp only[dzj,aza];by_cases h0:b.M=0
 .rw[dT0 h0,if_pos h0];rfl
 rw[dF0 h0,if_neg h0,azb,cond_max ha.1.1 hb.1.1];have p9:max a.S.toNat b.S.toNat<=9:=by have:=ha.1.2.1;have:=hb.1.2.1;omega
 have pa:a.S<=((max a.S.toNat b.S.toNat:Nat):Int):=by omega
 have pb:b.S<=((max a.S.toNat b.S.toNat:Nat):Int):=by omega
 generalize max a.S.toNat b.S.toNat=p at *;rw[EzL ha pa p9,EzL hb pb p9];simp only[aza];by_cases c1:I64 (up a p)
 .rw[if_pos c1];by_cases c2:I64 (up b p)
  .have hz:=Gzg (p:=p) h0;rw[if_pos c2,if_pos ⟨c1,c2⟩];simp only[Bool.not_true,azb];rw[dF0 hz,azb];have hi:=fm_I64 (X:=up a p) c2 hz;have n1:∀m:Int,I64 m->(obnd (izA ⟨m,(p:Int)⟩) fun y=>obnd (bza (y,0)) fun y=>some y)=some (numV (⟨(azr m p).1,((azr m p).2:Int)⟩,0)):=fun m hm=>by
    rw[Norm_is hm p9,aza,czA,aza]
   have t1:I64 ((up a p).tmod (up b p)):=by
    have h1:=Int.natAbs_tmod (up a p) (up b p);have h2:=Nat.mod_le (up a p).natAbs (up b p).natAbs;have h3:(up a p).tmod (up b p)<=(up a p).natAbs:=by omega
    unfold I64 at c1 c2 ⊢;have h4:((up a p).tmod (up b p)).natAbs<(up b p).natAbs:=by rw[h1];exact Nat.mod_lt _ (by omega)
    omega
   rw[n1 _ t1];have hw:∀(x:Option Val),(obnd (izA ⟨i64.wrap ((up a p).tmod (up b p)+up b p),(p:Int)⟩) fun y=>obnd (bza (y,0)) fun y=>some y)=some (numV (⟨(azr (i64.wrap ((up a p).tmod (up b p)+up b p)) p).1,((azr (i64.wrap ((up a p).tmod (up b p)+up b p)) p).2:Int)⟩,0)):=fun _=>n1 _ (by unfold I64;rw[wi64];omega)
   rw[hw none];exact IzO (up a p) (up b p) (fun r=>numV (⟨(azr r p).1,((azr r p).2:Int)⟩,0)) (fun r=>numV (⟨(azr (i64.wrap r) p).1,((azr (i64.wrap r) p).2:Int)⟩,0)) (fun r hr=>by rw[azi hr.1 hr.2]) hi
  .rw[if_neg c2,if_neg (show ¬(I64 (up a p)/\I64 (up b p)) from fun c=>c2 c.2)];rfl
 .rw[if_neg c1,if_neg (show ¬(I64 (up a p)/\I64 (up b p)) from fun c=>c1 c.1)];rfl
def one (v:Val):Arg:=⟨false,[v]⟩
def redS (s:List Dec)(v:Val):List Dec⊕(List Dec⊕Val):=bif (numR v).2.2 then .inl (s++[(numR v).1])else .inr (.inr (numR v).2.1)
def redG:List Dec⊕Val->(List Dec×Val)⊕(Unit×Val)
 | .inl ds=>.inl (ds,v0)
 | .inr f=>.inr ((),f)
theorem reck_l1 {vs:List Val}(hv:∀v∈vs,okW v)(hl:vs.length<=1000):mzg (v0,[],vs,(vs.length:Int),0)=some (redG (azo redS .inl [] vs)) :=
 azC (F:=fzH) (fun(s:List Dec) (i:Nat)=>(v0,s,vs,(vs.length:Int),(i:Int))) redG vs redS .inl (fun s i=>s.length=i) (by omega)
  (fun back s i hi hs=>by
   unfold fzH redS;simp only;rw[ltT hi,azc,idxG hi,aza,(ezX (hv _ (List.getElem_mem hi))).1,aza,appN (by simp only[List.length_singleton];omega),aza,wr1 (by omega)];cases(numR vs[i]).2.2<;>rfl)
  (fun s i hi s' hs h=>by
   unfold redS at h;revert h;cases(numR vs[i]).2.2<;>intro h<;>cases h;simp[hs])
  (fun back s hs=>by
   unfold fzH;simp only;rw[ltF,azb];rfl) [] rfl
theorem okW_N {d:Dec}(h:okd d):okW (vN d):=⟨.inr (.inl ⟨d,rfl,h.1⟩),by simp[vN],h.2⟩
def divR (a b:Dec):Dec×Int:=(ezJ (a,b)).getD (⟨0,0⟩,0)
theorem divR_eq {a b:Dec}(ha:okd a)(hb:okd b):ezJ (a,b)=some (divR a b)/\bz6 (a,b)=some (divR a b):=by
 obtain⟨r,h1,h2,_⟩:=wzU ha hb;unfold divR;rw[h1];exact⟨rfl,h2⟩
def mz9 (op:Int)(l:List Dec):Val :=
 if op=1 then(match l with | []=>vN ⟨0,0⟩|x::xs=>vN (xs.foldl minD x))
 else if op=2 then(match l with | []=>vN ⟨0,0⟩|x::xs=>vN (xs.foldl maxD x))
 else if(sumD ⟨0,0⟩ l).2=0 then(if op=0 then vN (sumD ⟨0,0⟩ l).1 else numV (divR (sumD ⟨0,0⟩ l).1 ⟨l.length,0⟩))else numV (sumD ⟨0,0⟩ l)
theorem BzA {op:Int}{l:List Arg}(hl:l.length<=1000)(hb:l.any badA=true):bzu (op,l)=some (vE 15):=by
 unfold bzu;simp only;rw[iz2 hl,hb];rfl
theorem Mzf {l:List Arg}(h:okA l)(hb:l.any badA=false):bzu (3,l)=some (vN ⟨(cntA 0 l:Nat),0⟩):=by
 unfold bzu dzJ;simp only;rw[iz2 (by have:=h.1;omega),hb,aza,azb,Lzx h];simp only[decide_true,azc,aza];rw[int_is];rfl
theorem b4_one {x:List Dec}(hx:∀d∈x,okd d)(hl:x.length<=1000000):ezq (1,v0,x)=some (.inr ((),mz9 1 x)):=by
 unfold ezq mz9;simp only[decide_true,azc,if_true];cases x with
 | nil=>rfl
 | cons d xs =>
  rw[dT0 (show 0<((d::xs).length:Int) by simp only[List.length_cons];omega),azc,min_is (hx d (by simp)) (by simp only[List.length_cons]at hl;omega) (fun e he=>hx e (by simp[he])),aza,czA];rfl
theorem b4_two {x:List Dec}(hx:∀d∈x,okd d)(hl:x.length<=1000000):ezq (2,v0,x)=some (.inr ((),mz9 2 x)):=by
 unfold ezq mz9;simp only;rw[show decide ((2:Int)=1)=false from rfl,azb,if_neg (by decide)];simp only[decide_true,azc,if_true];cases x with
 | nil=>rfl
 | cons d xs =>
  rw[dT0 (show 0<((d::xs).length:Int) by simp only[List.length_cons];omega),azc,max_is (hx d (by simp)) (by simp only[List.length_cons]at hl;omega) (fun e he=>hx e (by simp[he])),aza,czA];rfl
theorem many_num {op:Int}{l:List Arg}(hop:op=0\/op=1\/op=2\/op=4)(h:okA l)(hb:l.any badA=false):
 bzu (op,l)=some (match numA [] l with | .inl x=>mz9 op x | .inr v=>v):=by
 have hb1:dzJ (op,l,v0,op)=some (.inl ((),v0)):=by
  unfold dzJ;rcases hop with rfl|rfl|rfl|rfl<;>rfl
 unfold bzu;simp only;rw[iz2 (by have:=h.1;omega),hb,aza,azb,show(⟨0,⟨0,0⟩,[],false,0⟩:Val)=v0 from rfl,hb1,Mzj h];simp only[aza,osum];cases hn:numA [] l with
 | inr v=>rfl
 | inl x =>
  have hx:=yzK (fun a ha=>(h.2 a ha).2) (by simp) hn;have hl:=uzQ (fun a ha=>(h.2 a ha).1) hn;have h40:=h.1;simp only[List.length_nil]at hl;simp only[Bool.not_true,azb];rcases(show op=1\/op=2\/(op=0\/op=4) by omega)with rfl|rfl|ho
  .rw[b4_one hx (by omega)];rfl
  .rw[b4_two hx (by omega)];rfl
  .have hb4:ezq (op,v0,x)=some (.inl ((),v0)):=by
    unfold ezq;rcases ho with rfl|rfl<;>rfl
   rw[hb4,show bzH 0=some ⟨0,0⟩ from rfl];simp only[aza];rw[many_l5 (by omega) hx,aza];unfold EzV mz9;rw[if_neg (show ¬op=1 by omega),if_neg (show ¬op=2 by omega)];by_cases hs:(sumD ⟨0,0⟩ x).2=0
   .rw[if_pos hs,if_pos hs];simp only;by_cases h0:op=0
    .rw[dT0 h0,azc,if_pos h0,czA];rfl
    .have so:=(tz2 (l:=x) okd0).1 hs;rw[dF0 h0,azb,if_neg h0,show bzH (x.length:Int)=some ⟨x.length,0⟩ from rfl,aza,(divR_eq so (okdI (by unfold I64;omega))).1,aza,czA,aza]
   .rw[if_neg hs,if_neg hs]
theorem uzi {k:Nat}{l:List Arg}(hl:l.length<=1000)(h:k=0\/k=1\/k=2\/k=3\/k=4\/k=11\/k=12\/k=18):czi ((k:Int),l)=bzu ((k:Int),l):=by
 have ha:arLo k=0/\arHi k=9223372036854775807:=by
  rcases h with rfl|rfl|rfl|rfl|rfl|rfl|rfl|rfl<;>decide +kernel
 rw[Izl (by omega) (by rw[ha.1];omega) (by rw[ha.2];omega),core_many (by omega)]
theorem tru_bad {v:Val}(h:okW v)(e:(truR v).2.2=false):(truR v).2.1.Kind=4:=by
 rcases h.1 with rfl|⟨d,rfl,hd⟩|⟨s,rfl,hs⟩|⟨t,rfl⟩|⟨c,rfl⟩
 .cases e
 .cases e
 .revert e;unfold truR czl vS;simp[dzj];generalize decide (s=[84,82,85,69])=p;generalize decide (s=U8s [70,65,76,83,69])=q;cases p<;>cases q<;>simp[vE]
 .cases t<;>cases e
 .rfl
def vzk (area:Bool)(v:Val):Bool:=area&&(!decide (v.Kind=1)&&(!decide (v.Kind=3)&&!decide (v.Kind=4)))
def truS (area:Bool)(acc:List Bool)(v:Val):List Bool⊕(List Bool⊕Val):=bif vzk area v then .inl acc else bif (truR v).2.2 then .inl (acc++[(truR v).1])else .inr (.inr (truR v).2.1)
def truL (area:Bool)(acc:List Bool)(l:List Val):List Bool⊕Val:=azo (truS area) .inl acc l
def truG:List Bool⊕Val->((List Bool)×Val)⊕((List Bool×Bool)×Val)
 | .inl acc=>.inl (acc,v0)
 | .inr v=>.inr (([],false),v)
theorem CzC {area:Bool}{acc acc':List Bool}{v:Val}(h:truS area acc v = .inl acc'):acc'.length<=acc.length+1:=by
 unfold truS at h;revert h;cases vzk area v<;>cases(truR v).2.2<;>intro h<;>cases h<;>simp
theorem vzp {area:Bool}:∀{l:List Val} {acc acc':List Bool},truL area acc l = .inl acc'->acc'.length<=acc.length+l.length
 | [],acc,acc',h=>by simp only[truL,azo]at h;cases h;simp
 | v::l,acc,acc',h=>by
  simp only[truL,azo]at h;cases hs:truS area acc v with
  | inl x =>
   rw[hs]at h;have h1:=CzC hs;have h2:=vzp (l:=l) h;simp only[List.length_cons];omega
  | inr y =>
   rw[hs]at h;unfold truS at hs;revert hs;cases vzk area v<;>cases(truR v).2.2<;>intro hs<;>cases hs;cases h
theorem truths_l2 {a:Arg}{acc:List Bool}(hL:a.L.length<=5000)(hv:∀v∈a.L,okW v)(ha:acc.length<=1000000):
 ozm (v0,acc,a,a.L,(a.L.length:Int),0)=some (truG (truL a.Area acc a.L)):=by
 refine azC (F:=hzQ) (fun s i=>(v0,s,a,a.L,(a.L.length:Int),(i:Int))) truG a.L (truS a.Area) .inl (fun s i=>s.length<=acc.length+i) (by omega) ?_ ?_ ?_ acc (by simp)
 .intro back s i hi hs;unfold hzQ;simp only;have hn:=(tz6 (hv a.L[i] (List.getElem_mem hi))).1;rw[ltT hi,azc,idxG hi,aza,wr1 (by omega)];unfold truS vzk;have e:obnd (czl a.L[i]) (fun y=>brn (!y.2.2) (some (Sum.inr (([],false),y.2.1))) (obnd (app 1 s [y.1]) fun zs=>back (v0,zs,a,a.L,(a.L.length:Int),((i+1:Nat):Int)))) =
   jzM (fun s'=>back (v0,s',a,a.L,(a.L.length:Int),((i+1:Nat):Int))) truG (bif (truR a.L[i]).2.2 then(.inl (s++[(truR a.L[i]).1]):List Bool⊕(List Bool⊕Val))else .inr (.inr (truR a.L[i]).2.1)):=by
   rw[hn,aza,appN (by simp;omega)];cases(truR a.L[i]).2.2<;>rfl
  cases a.Area with
  | false=>simp only[azb,Bool.false_and,cond_false];exact e
  | true =>
   simp only[azc,Bool.true_and];by_cases h1:(a.L[i]).Kind=1
   .rw[dT0 h1];simp only[Bool.not_true,azb,Bool.false_and,cond_false];exact e
   .rw[dF0 h1];simp only[Bool.not_false,azc,Bool.true_and];by_cases h3:(a.L[i]).Kind=3
    .rw[dT0 h3];simp only[Bool.not_true,azb,Bool.false_and,cond_false];exact e
    .rw[dF0 h3];simp only[Bool.not_false,azc,Bool.true_and];by_cases h4:(a.L[i]).Kind=4
     .rw[dT0 h4];simp only[Bool.not_true,azb,cond_false];exact e
     .rw[dF0 h4];rfl
 .intro s i hi s' hs hst;have:=CzC hst;omega
 .intro back s hs;unfold hzQ;simp only;rw[ltF,azb];rfl
def truA (acc:List Bool)(l:List Arg):List Bool⊕Val:=azo (fun acc a=>match truL a.Area acc a.L with | .inl x=>.inl x | .inr v=>.inr (.inr v)) .inl acc l
theorem truths_is {l:List Arg}(h:okA l):jzC l=some (match truA [] l with | .inl x=>(x,v0,decide (0<(x.length:Int))) | .inr v=>([],v,false)):=by
 unfold jzC;have:=azC (F:=hzP) (fun s i=>(v0,s,l,(l.length:Int),(i:Int))) truG l (fun acc a=>match truL a.Area acc a.L with | .inl x=>.inl x | .inr v=>.inr (.inr v)) .inl (fun s i=>s.length<=5000*i) (by have:=h.1;omega)
  (fun back s i hi hs=>by
   have hai:=h.2 l[i] (List.getElem_mem hi);have hl:=h.1;unfold hzP;simp only;rw[ltT hi,azc,idxG hi,aza,wr1 (by omega),truths_l2 hai.1 hai.2 (by omega),aza];cases truL (l[i]).Area s (l[i]).L<;>rfl)
  (fun s i hi s' hs hst=>by
   have hai:=h.2 l[i] (List.getElem_mem hi);cases hn:truL (l[i]).Area s (l[i]).L with
   | inl x =>
    rw[hn]at hst;simp only at hst;injection hst with hst;subst hst;have:=vzp hn;omega
   | inr v=>rw[hn]at hst;cases hst)
  (fun back s hs=>by
   unfold hzP;simp only;rw[ltF,azb];rfl) [] (by simp)
 have this:kzR (v0,[],l,(l.length:Int),0)=some (truG (truA [] l)):=this
 show(obnd (kzR (v0,[],l,(l.length:Int),0)) _)=_
 rw[this,aza];cases truA [] l<;>rfl
theorem Kzb {area:Bool}:∀{l:List Val} {acc:List Bool} {f:Val},(∀v∈l,okW v)->truL area acc l = .inr f->f.Kind=4
 | [],acc,f,_,h=>by simp only[truL,azo]at h;cases h
 | v::l,acc,f,hv,h=>by
  simp only[truL,azo]at h;cases hs:truS area acc v with
  | inl x=>rw[hs]at h;exact Kzb (l:=l) (fun w hw=>hv w (by simp[hw])) h
  | inr y =>
   rw[hs]at h;unfold truS at hs;cases hk:vzk area v with
   | true=>rw[hk]at hs;cases hs
   | false =>
    rw[hk,cond_false]at hs;cases hb:(truR v).2.2 with
    | true=>rw[hb]at hs;cases hs
    | false =>
     rw[hb]at hs;cases hs;cases h;exact tru_bad (hv v (by simp)) hb
theorem Jz9:∀{l:List Arg} {acc:List Bool} {f:Val},(∀a∈l,∀v∈a.L,okW v)->truA acc l = .inr f->f.Kind=4
 | [],acc,f,_,h=>by simp only[truA,azo]at h;cases h
 | a::l,acc,f,hv,h=>by
  simp only[truA,azo]at h;cases hs:truL a.Area acc a.L with
  | inl x=>rw[hs]at h;exact Jz9 (l:=l) (fun b hb=>hv b (by simp[hb])) h
  | inr y=>rw[hs]at h;cases h;exact Kzb (hv a (by simp)) hs
theorem Kza:∀{l:List Arg} {acc acc':List Bool},(∀a∈l,a.L.length<=5000)->truA acc l = .inl acc'->acc'.length<=acc.length+5000*l.length
 | [],acc,acc',_,h=>by simp only[truA,azo]at h;cases h;simp
 | a::l,acc,acc',hv,h=>by
  simp only[truA,azo]at h;cases hs:truL a.Area acc a.L with
  | inl x =>
   rw[hs]at h;have h1:=vzp hs;have h2:=Kza (l:=l) (fun b hb=>hv b (by simp[hb])) h;have:=hv a (by simp);simp only[List.length_cons];omega
  | inr y=>rw[hs]at h;cases h
theorem has_is {l:List Bool}{t:Bool}(hl:l.length<=1000000):az3 (l,t)=some (l.any (fun b=>decide (t=b))):=by
 unfold az3 gzh;have this:ezT (l,t,(l.length:Int),0)=some ((fun(r:Option Nat)=>match r with|some i=>.inr (i:Int)|none=>.inl ()) _):=jz7 (F:=czp) (fun i=>(l,t,(l.length:Int),(i:Int))) (fun r=>match r with|some i=>.inr (i:Int)|none=>.inl ()) l (fun b=>decide (t=b)) (by omega)
  (fun back i hi=>by
   unfold czp;simp only;rw[ltT hi,azc,idxG hi,aza,wr1 (by omega)];cases decide (t=l[i])<;>rfl)
  (fun back=>by
   unfold czp;simp only;rw[ltF,azb])
 simp only;rw[this,aza,<-lzw];cases l.findIdx? (fun b=>decide (t=b))with
 | none=>rfl
 | some i =>
  simp only[osum,aza,Option.isSome_some];rw[dT0 (show(0:Int)<=(i:Int) by omega)]
def outT (op:Int)(s:List Bool):Bool:=if op=11 then s.all id else s.any id
def truV (op:Int)(l:List Arg):Val:=match truA [] l with
 | .inl s=>if s=[]then vE 15 else vT (outT op s)
 | .inr f=>f
theorem many_tru {op:Int}{l:List Arg}(hop:op=11\/op=12)(h:okA l)(hb:l.any badA=false):bzu (op,l)=some (truV op l):=by
 have hl:=h.1;have hm:(obnd (jzC l) fun y =>
  brn (!y.2.2)
   (brn (!decide (y.2.1.Kind=4)) (obnd (azm 15) fun y=>some (Sum.inr ((),y)))
    (brn (!y.2.2) (some (Sum.inr ((),y.2.1)))
     (obnd (az3 (y.1,decide (op=12))) fun y=>obnd (czj (decide (y=decide (op=12)))) fun y=>some (Sum.inr ((),y)))))
   (brn (!y.2.2) (some (Sum.inr ((),y.2.1)))
    (obnd (az3 (y.1,decide (op=12))) fun y=>obnd (czj (decide (y=decide (op=12)))) fun y=>some (Sum.inr ((),y)))))=(some (Sum.inr ((),truV op l)):Option ((Unit×Val)⊕(Unit×Val))):=by
  rw[truths_is h,aza];unfold truV;cases ht:truA [] l with
  | inr f =>
   have:=Jz9 (fun a ha=>(h.2 a ha).2) ht;simp only[Bool.not_false,azc];rw[dT0 this];rfl
  | inl s =>
   have hsl:=Kza (fun a ha=>(h.2 a ha).1) ht;simp only[List.length_nil]at hsl;simp only;by_cases h0:s=[]
   .subst h0;rfl
   .have hp:0<s.length:=List.length_pos_iff.2 h0;rw[dT0 (show 0<(s.length:Int) by omega)];simp only[Bool.not_true,azb];rw[if_neg h0,has_is (by omega),aza];have:decide (s.any (fun b=>decide (decide (op=12)=b))=decide (op=12))=outT op s:=by
     unfold outT;rcases hop with rfl|rfl
     .rw[if_pos rfl,show decide ((11:Int)=12)=false from rfl];clear hsl ht h0 hp;induction s with
      | nil=>rfl
      | cons b s ih=>cases b<;>simp_all
     .rw[if_neg (by decide),show decide ((12:Int)=12)=true from rfl];clear hsl ht h0 hp;induction s with
      | nil=>rfl
      | cons b s ih=>cases b<;>simp_all
    rw[this];rfl
 have hb1:dzJ (op,l,v0,op)=some (.inr ((),truV op l)):=by
  unfold dzJ;rcases hop with rfl|rfl
  .exact hm
  .exact hm
 unfold bzu;simp only;rw[iz2 (by omega),hb,aza,azb,show(⟨0,⟨0,0⟩,[],false,0⟩:Val)=v0 from rfl,hb1];rfl
def hzo {S:Type}(step:S->Nat->Int->S):S->Nat->List Int->S
 | st,_,[]=>st
 | st,i,r::l=>hzo step (step st i r) (i+1) l
theorem GzW {S X Z:Type}{F:(X->Option Z)->X->Option Z}(mk:S->Nat->Nat->X)(g:S->Nat->Z)(s:List UInt8)(step:S->Nat->Int->S)(Pre:S->Nat->Prop)(hl:s.length<=100000000)
 (h:∀back st i p,p<s.length->i<=p->Pre st i->bzK ((rune s p).1:Int)->F back (mk st i p)=back (mk (step st i ((rune s p).1:Int)) (i+1) (p+(rune s p).2)))
 (hp:∀st i r,bzK r->Pre st i->Pre (step st i r) (i+1))
 (hend:∀back st i p,s.length<=p->Pre st i->F back (mk st i p)=some (g st p)) (st:S) (h0:Pre st 0):∃p,iter F big (mk st 0 0)=some (g (hzo step st 0 (rs s)) p):=by
 have key:∀k n p i st,s.length-p<=k->k<n->i<=p->Pre st i->∃q,iter F n (mk st i p)=some (g (hzo step st i (rs (s.drop p))) q):=by
  intro k;induction k with
  | zero =>
   intro n p i st hk hn hi hpre;obtain⟨m,rfl⟩:∃m,n=m+1:=⟨n-1,by omega⟩;refine⟨p,?_⟩;rw[azF,hend _ _ _ _ (by omega) hpre,List.drop_eq_nil_of_le (by omega)];rfl
  | succ k ih =>
   intro n p i st hk hn hi hpre;obtain⟨m,rfl⟩:∃m,n=m+1:=⟨n-1,by omega⟩;by_cases hlt:p<s.length
   .obtain⟨e,hw⟩:=rs_at hlt;have hr:bzK ((rune s p).1:Int):=by rw[pzA];exact zz1 _
    rw[azF,h _ _ _ _ hlt hi hpre hr,e];exact ih m (p+(rune s p).2) (i+1) _ (by omega) (by omega) (by omega) (hp _ _ _ hr hpre)
   .refine⟨p,?_⟩;rw[azF,hend _ _ _ _ (by omega) hpre,List.drop_eq_nil_of_le (by omega)];rfl
 have:=key s.length big 0 0 st (by omega) (by rw[czd];omega) (by omega) h0;simpa using this
theorem tzr {r:Int}(h:bzK r):(Lib.encodeRune r).length<=4:=by
 obtain⟨n,rfl⟩:=Int.eq_ofNat_of_zero_le h.1;rw[encZ n h];split
 .simp
 .split
  .simp
  .split<;>simp
theorem ozC (n:Nat):UInt8.ofNat (u8.wrap (n:Int)).toNat=UInt8.ofNat n:=by
 rw[u8w];apply UInt8.toNat_inj.1;simp[UInt8.toNat_ofNat'];omega
theorem Hzd {out:List UInt8}{r:Int}(h:bzK r)(hl:out.length<=100000000):iz0 (out,r)=some (out++Lib.encodeRune r):=by
 have hu:=u32in h;obtain⟨n,rfl⟩:=Int.eq_ofNat_of_zero_le h.1;have h':=h;unfold bzK at h';rw[encZ n h];have ha:∀ys:List UInt8,ys.length<=4->app 1 out ys=some (out++ys):=fun ys hy=>appN (by omega)
 unfold iz0;simp only;rw[hu];by_cases c1:n<128
 .rw[dT0 (show(n:Int)<=127 by omega),azc,if_pos c1,ozC,ha _ (by simp),aza]
 rw[dF0 (show ¬(n:Int)<=127 by omega),azb,if_neg c1];unfold fz4 ezC;simp only;rw[hu];have d6:=yzC n 64;have d12:=yzC n 4096;have d18:=yzC n 262144;simp only[Int.cast_ofNat_Int]at d6 d12 d18;rw[d6,d12,d18,lo6,lo6,lo6];simp only[Int.toNat_natCast];by_cases c2:n<2048
 .rw[dT0 (show(n:Int)<=2047 by omega),azc,if_pos c2,hi5 (by omega),Int.toNat_natCast,ha _ (by simp),aza,aza]
 rw[dF0 (show ¬(n:Int)<=2047 by omega),azb,if_neg c2];by_cases c3:n<65536
 .rw[if_pos c3,hi4 (by omega),Int.toNat_natCast];by_cases c4:(n:Int)<55296
  .rw[dT0 c4,azc,aza,azc,ha _ (by simp),aza,aza]
  .rw[dF0 c4,azb,dT0 (show 57343<(n:Int) by omega),azc,dT0 (show(n:Int)<=65535 by omega),aza,azc,ha _ (by simp),aza,aza]
 .rw[if_neg c3,hi3 (by omega),Int.toNat_natCast,dF0 (show ¬(n:Int)<55296 by omega),azb,dT0 (show 57343<(n:Int) by omega),azc,dF0 (show ¬(n:Int)<=65535 by omega),aza,azb,
   dT0 (show 65535<(n:Int) by omega),azc,dT0 (show(n:Int)<=1114111 by omega),azc,ha _ (by simp),aza,aza]
theorem rzS {out:List UInt8}{r:Int}(h:bzK r)(hl:out.length<=100000000):∃k,azw (out,(),r)=some ((out++Lib.encodeRune r,k,()),()):=by
 unfold azw;simp only;rw[show hzJ (out,())=some (out,()) from rfl,aza,Hzd h hl,aza];exact⟨_,rfl⟩
def selS (f n:Int)(out:List UInt8)(i:Nat)(r:Int):List UInt8:=if f<=(i:Int)/\(i:Int)-f<n then out++Lib.encodeRune r else out
theorem part_is {s:List UInt8}{f n:Int}(hl:s.length<=2000000)(hf:0<=f)(hf2:f<=9223372036854775807):kze (s,f,n)=some (hzo (selS f n) [] 0 (rs s)):=by
 obtain⟨p,e⟩:=GzW (F:=kzf) (fun(out:List UInt8) (i p:Nat)=>(out,f,n,(),(i:Int),s,p)) (fun(out:List UInt8) p=>(out,(),s,p)) s (selS f n) (fun out i=>out.length<=4*i) (by omega)
  (fun back out i p hp hi hpre hr=>by
   obtain⟨k,hk⟩:=rzS (out:=out) hr (by omega);unfold kzf selS;simp only;rw[dT0 hp,azc,hk,aza,wr1 (by omega)];by_cases c1:f<=(i:Int)
   .rw[dT0 c1,azc,azi (by omega) (by omega)];by_cases c2:(i:Int)-f<n
    .rw[dT0 c2,if_pos ⟨c1,c2⟩];rfl
    .rw[dF0 c2,if_neg (fun c=>c2 c.2)];rfl
   .rw[dF0 c1,if_neg (fun c=>c1 c.1)];rfl)
  (fun out i r hr hpre=>by
   have:=tzr hr;unfold selS;split
   .rw[List.length_append];omega
   .omega)
  (fun back out i p hp hpre=>by
   unfold kzf;simp only;rw[dF0 (by omega),azb]) [] (by simp)
 unfold kze;simp only;rw[show qz8 ([],f,n,(),0,s,0)=_ from e,aza];rfl
theorem Jz2 {f n:Int}:∀(l:List Int) (i:Nat) (out:List UInt8),f+n<=(i:Int)->hzo (selS f n) out i l=out
 | [],_,_,_=>rfl
 | r::l,i,out,h=>by
  simp only[hzo];have e:selS f n out i r=out:=by unfold selS;rw[if_neg (by omega)]
  rw[e];exact Jz2 l (i+1) out (by omega)
theorem Jz3 {f:Nat}{n:Int}:∀(l:List Int) (i:Nat) (out:List UInt8),f<=i->hzo (selS (f:Int) n) out i l=out++encs (l.take ((f:Int)+n-i).toNat)
 | [],_,_,_=>by simp[hzo,encs]
 | r::l,i,out,h=>by
  simp only[hzo];by_cases c:(i:Int)-f<n
  .have e:selS (f:Int) n out i r=out++Lib.encodeRune r:=by unfold selS;rw[if_pos ⟨by omega,c⟩]
   rw[e,Jz3 l (i+1) _ (by omega)];have e2:((f:Int)+n-(i:Nat)).toNat=((f:Int)+n-((i+1:Nat):Int)).toNat+1:=by omega
   rw[e2,List.take_succ_cons];unfold encs;rw[List.flatMap_cons,List.append_assoc]
  .have e:=Jz2 (f:=(f:Int)) (n:=n) (r::l) i out (by omega);simp only[hzo]at e;rw[e,show((f:Int)+n-(i:Nat)).toNat=0 by omega];simp[encs]
theorem sel_is {f:Nat}{n:Int}:∀(l:List Int) (i:Nat) (out:List UInt8),i<=f->hzo (selS (f:Int) n) out i l=out++encs ((l.drop (f-i)).take n.toNat)
 | [],_,_,_=>by simp[hzo,encs]
 | r::l,i,out,h=>by
  by_cases c:i=f
  .subst c;rw[Jz3 (r::l) i out (Nat.le_refl _),Nat.sub_self,List.drop_zero,show((i:Int)+n-(i:Nat)).toNat=n.toNat by omega]
  .simp only[hzo];have e:selS (f:Int) n out i r=out:=by unfold selS;rw[if_neg (by omega)]
   rw[e,sel_is l (i+1) out (by omega),show f-i=(f-(i+1))+1 by omega,List.drop_succ_cons]
theorem xzx {s:List UInt8}{f:Nat}{n:Int}(hl:s.length<=2000000)(hf2:f<=9223372036854775807):kze (s,(f:Int),n)=some (encs (((rs s).drop f).take n.toNat)):=by
 rw[part_is hl (by omega) (by omega),sel_is _ _ _ (by omega)];rfl
def dzw (up:Bool)(r:Int):Int:=if up then(if 97<=r/\r<=122 then r-32 else r)else(if 65<=r/\r<=90 then r+32 else r)
theorem uzm {up:Bool}{r:Int}(h:bzK r):bzK (dzw up r):=by
 unfold bzK at h ⊢;unfold dzw;split<;>split<;>omega
theorem Izq {s:List UInt8}{up:Bool}(hl:s.length<=2000000):nzb (s,up)=some (encs ((rs s).map (dzw up))):=by
 obtain⟨p,e⟩:=GzW (F:=iz6) (fun(out:List UInt8) (_ p:Nat)=>(out,up,(),s,p)) (fun(out:List UInt8) p=>(out,(),s,p)) s (fun out _ r=>out++Lib.encodeRune (dzw up r)) (fun out i=>out.length<=4*i) (by omega)
  (fun back out i p hp hi hpre hr=>by
   have hc:=uzm (up:=up) hr;obtain⟨k,hk⟩:=rzS (out:=out) hc (by omega);obtain⟨k',hk'⟩:=rzS (out:=out) hr (by omega);unfold iz6;simp only;rw[dT0 hp,azc];generalize ((rune s p).1:Int)=r at *;have hr':=hr;unfold bzK at hr';rw[i32_in (n:=r+-32) (by omega) (by omega),i32_in (n:=r+32) (by omega) (by omega)];unfold dzw at hk hc;cases up with
   | true =>
    simp only[if_true,Bool.not_true,azc,azb]at hk ⊢;by_cases c1:97<=r
    .rw[dT0 c1,azc];by_cases c2:r<=122
     .rw[if_pos ⟨c1,c2⟩]at hk;rw[dT0 c2,azc,show r+-32=r-32 by omega,hk,aza];simp only[dzw,if_true];rw[if_pos ⟨c1,c2⟩]
     .rw[dF0 c2,azb,hk',aza];simp only[dzw,if_true];rw[if_neg (fun c=>c2 c.2)]
    .rw[dF0 c1,azb,hk',aza];simp only[dzw,if_true];rw[if_neg (fun c=>c1 c.1)]
   | false =>
    simp only[Bool.false_eq_true,if_false,Bool.not_false,azc,azb]at hk ⊢;by_cases c1:65<=r
    .rw[dT0 c1,azc];by_cases c2:r<=90
     .rw[if_pos ⟨c1,c2⟩]at hk;rw[dT0 c2,azc,hk,aza];simp only[dzw,Bool.false_eq_true,if_false];rw[if_pos ⟨c1,c2⟩]
     .rw[dF0 c2,azb,hk',aza];simp only[dzw,Bool.false_eq_true,if_false];rw[if_neg (fun c=>c2 c.2)]
    .rw[dF0 c1,azb,hk',aza];simp only[dzw,Bool.false_eq_true,if_false];rw[if_neg (fun c=>c1 c.1)])
  (fun out i r hr hpre=>by
   have:=tzr (uzm (up:=up) hr);rw[List.length_append];omega)
  (fun back out i p hp hpre=>by
   unfold iz6;simp only;rw[dF0 (by omega),azb]) [] (by simp)
 unfold nzb;simp only;rw[show pzK ([],up,(),s,0)=_ from e,aza];have:∀(l:List Int) (i:Nat) (out:List UInt8),hzo (fun out _ r=>out++Lib.encodeRune (dzw up r)) out i l=out++encs (l.map (dzw up)):=by
  intro l;induction l with
  | nil=>intro i out;simp[hzo,encs]
  | cons r l ih =>
   intro i out;simp only[hzo];rw[ih];unfold encs;rw[List.map_cons,List.flatMap_cons,List.append_assoc]
 rw[this];rfl
theorem bifI2 {α:Type}(p:Prop)[Decidable p](x y:α):(bif decide p then x else y)=if p then x else y:=by by_cases h:p<;>simp[h]
theorem subG {A:Type}{D:List A}{i k:Nat}(h:i<=k)(h2:k<=D.length):sub D (i:Int) (k:Int)=some ((D.take k).drop i):=by
 have hd:(decide ((0:Int)<=(i:Int))&&decide ((i:Int)<=(k:Int))&&decide ((k:Int)<=(D.length:Int)))=true:=by
  simp;omega
 simp only[sub,hd,cond_true,Int.toNat_natCast]
 try rfl
def amt (v:Val)(lo:Int):Int⊕Val:=if(numR v).2.2=true then(if(numR v).1.S=0/\lo<=(numR v).1.M then .inl (numR v).1.M else .inr (vE 15))else .inr (numR v).2.1
theorem amount_is {v:Val}{lo:Int}(h:okW v):jzB (v,lo)=some (match amt v lo with | .inl m=>(m,v0,true) | .inr f=>(0,f,false)):=by
 unfold jzB amt;simp only[dzj,aza];rw[(ezX h).1,aza];rcases numR v with⟨⟨M,S⟩,f,b⟩;cases b with
 | false=>rfl
 | true =>
  simp only[Bool.not_true,azb,if_true];by_cases c1:S=0
  .rw[dT0 c1];by_cases c2:M<lo
   .rw[dT0 c2,if_neg (by omega)];rfl
   .rw[dF0 c2,if_pos ⟨c1,by omega⟩];rfl
  .rw[dF0 c1,if_neg (fun c=>c1 c.1)];rfl
def ezl (k:Int)(i:Nat):Int:=if k=17/\i=0 then 1 else 0
def amtS (k:Int)(x:List Int×Nat)(v:Val):(List Int×Nat)⊕(List Int⊕Val):=match amt v (ezl k x.2)with
 | .inl m=>.inl (x.1.set x.2 m,x.2+1)
 | .inr f=>.inr (.inr f)
def dzD (k:Int)(vs:List Val):List Int⊕Val:=azo (amtS k) (fun x=>.inl x.1) ([1,1],0) vs
def amtG:List Int⊕Val->(List Int×Val)⊕(Unit×Val)
 | .inl ns=>.inl (ns,v0)
 | .inr f=>.inr ((),f)
theorem inb_is {n i:Nat}(h:i<n):inb n (i:Int)=some i:=by
 simp[inb,h]
theorem DzP {A:Type}{l:List A}{i:Nat}(h:i<l.length):nth l i=some l[i]:=by
 simp[nth,h]
theorem Hzb {k:Int}{vs:List Val}(hv:∀v∈vs,okW v)(hl:vs.length<=2):ozo (k,v0,[1,1],vs,(vs.length:Int),0)=some (amtG (dzD k vs)) :=
 azC (F:=hzR) (fun(x:List Int×Nat) (i:Nat)=>(k,v0,x.1,vs,(vs.length:Int),(i:Int))) amtG vs (amtS k) (fun x=>.inl x.1) (fun x i=>x.2=i/\x.1.length=2) (by omega)
  (fun back x i hi hp=>by
   obtain⟨ns,j⟩:=x;simp only at hp;obtain⟨rfl,h2⟩:=hp;unfold hzR amtS;simp only;have ha:=fun lo=>amount_is (lo:=lo) (hv _ (List.getElem_mem hi))
   have hb:=inb_is (show j<ns.length by omega);have hn:=DzP (show j<ns.length by omega);rw[ltT hi,azc,idxG hi,aza,wr1 (by omega)];simp only[ha,hb,hn,aza];by_cases c1:k=17
   .rw[dT0 c1,azc];by_cases c2:(j:Int)=0
    .rw[dT0 c2,azc,show ezl k j=1 from if_pos ⟨c1,by omega⟩];cases amt vs[j] 1<;>rfl
    .rw[dF0 c2,azb,show ezl k j=0 from if_neg (by omega)];cases amt vs[j] 0<;>rfl
   .rw[dF0 c1,azb,show ezl k j=0 from if_neg (fun c=>c1 c.1)];cases amt vs[j] 0<;>rfl)
  (fun x i hi x' hp h=>by
   obtain⟨ns,j⟩:=x;simp only at hp;obtain⟨rfl,h2⟩:=hp;unfold amtS at h;simp only at h;revert h;cases amt vs[j] (ezl k j)<;>intro h<;>cases h;simp[h2])
  (fun back x hp=>by
   unfold hzR;simp only;rw[ltF,azb];rfl) ([1,1],0) ⟨rfl,rfl⟩
def jzd (k:Int)(s:List UInt8)(ns:List Int):Val :=
 let l:=rs s
 if k=15 then czD (encs (l.take (ns.getD 0 0).toNat))
 else if k=16 then czD (encs ((l.drop (l.length-(ns.getD 0 0).toNat)).take (ns.getD 0 0).toNat))
 else czD (encs ((l.drop (ns.getD 0 0-1).toNat).take (ns.getD 1 0).toNat))
theorem GzM (s:List UInt8)(a b:Int):jzd 15 s [a,b]=czD (encs (((rs s).drop 0).take a.toNat)):=by simp[jzd]
theorem xzy (s:List UInt8)(a b:Int):jzd 16 s [a,b]=czD (encs (((rs s).drop ((rs s).length-a.toNat)).take a.toNat)):=by simp[jzd]
theorem GzN (s:List UInt8)(a b:Int):jzd 17 s [a,b]=czD (encs (((rs s).drop (a-1).toNat).take b.toNat)):=by simp[jzd]
theorem czg {v:Val}(h:okW v):(v.Kind=4->worR v=([],v,false))/\(v.Kind≠4->worR v=(texR v,v0,true)):=by
 unfold worR dzT;rw[(tex_eq h).1];constructor
 .intro h4;rw[dT0 h4];rfl
 .intro h4;rw[dF0 h4];rfl
theorem amt_ok {v:Val}{lo m:Int}(h:okW v)(e:amt v lo = .inl m):lo<=m/\m<=9223372036854775807:=by
 have:=(jzb h).2;unfold I64 at this;unfold amt at e;split at e
 .split at e
  .rename_i hc;cases e;exact⟨hc.2,this.2⟩
  .cases e
 .cases e
theorem pzJ {s:List UInt8}(hv:validD s=true){i k:Nat}:(encs (((rs s).drop i).take k)).length<=s.length:=by
 by_cases h:i<=(rs s).length
 .have:=(slice_rs hv (i:=i) (k:=min k ((rs s).length-i)) (by omega)).2.2;rw[show((rs s).drop i).take k=((rs s).drop i).take (min k ((rs s).length-i)) from by
   rw[List.take_eq_take_iff,List.length_drop];omega]
  exact this
 .rw[List.drop_eq_nil_of_le (by omega)];simp[encs]
theorem Ez2 {k:Int}:∀{vs:List Val} {ns:List Int},vs.length<=2->(∀v∈vs,okW v)->dzD k vs = .inl ns->∃a b:Int,ns=[a,b]/\0<=a/\a<=9223372036854775807/\0<=b/\b<=9223372036854775807/\(k=17->1<=a)
 | [],ns,_,_,e=>by
  cases e;exact⟨1,1,rfl,by omega,by omega,by omega,by omega,fun _=>by omega⟩
 | [v],ns,_,hv,e=>by
  unfold dzD at e;simp only[azo,amtS]at e;cases h:amt v (ezl k 0)with
  | inr f=>rw[h]at e;cases e
  | inl m =>
   rw[h]at e;cases e;have:=amt_ok (hv v (by simp)) h;unfold ezl at this;refine⟨m,1,rfl,?_,this.2,by omega,by omega,fun hk=>?_⟩
   .have:=this.1;split at this<;>omega
   .rw[if_pos ⟨hk,rfl⟩]at this;exact this.1
 | [v,w],ns,_,hv,e=>by
  unfold dzD at e;simp only[azo,amtS]at e;cases h:amt v (ezl k 0)with
  | inr f=>rw[h]at e;cases e
  | inl m =>
   rw[h]at e;simp only at e;have h1:=amt_ok (hv v (by simp)) h;unfold ezl at h1;cases h':amt w (ezl k (0+1))with
   | inr f=>rw[h']at e;cases e
   | inl m' =>
    rw[h']at e;cases e;have h2:=amt_ok (hv w (by simp)) h';unfold ezl at h2;rw[if_neg (by omega)]at h2;refine⟨m,m',rfl,?_,h1.2,h2.1,h2.2,fun hk=>?_⟩
    .have:=h1.1;split at this<;>omega
    .rw[if_pos ⟨hk,rfl⟩]at h1;exact h1.1
 | _::_::_::_,_,h,_,_=>by simp only[List.length_cons]at h;omega
theorem qzQ {v:Val}(h:okW v):dzT v=some (worR v):=(uzb h).1
theorem Kzl {k:Int}(hk:k=15\/k=16\/k=17){v:Val}{vs:List Val}(h:okW v)(hv:∀w∈vs,okW w)(hl:vs.length<=2):
 bz8 (k,v::vs)=some (if v.Kind=4 then v else match dzD k vs with | .inl ns=>jzd k (texR v) ns | .inr f=>f):=by
 unfold bz8;simp only;rw[idxZ,aza,qzQ h,aza];by_cases h4:v.Kind=4
 .rw[(czg h).1 h4,if_pos h4];rfl
 rw[(czg h).2 h4,if_neg h4];simp only[Bool.not_true,azb];have hb:czR (k,v::vs,v0,texR v,k)=some (.inl ((),v0)):=by
  unfold czR;rcases hk with rfl|rfl|rfl<;>rfl
 rw[show(⟨0,⟨0,0⟩,[],false,0⟩:Val)=v0 from rfl,hb];simp only[aza,osum];have hs:sub (v::vs) 1 (((v::vs).length:Nat):Int)=some vs:=by
  have:=subG (D:=v::vs) (i:=1) (k:=(v::vs).length) (by simp) (by simp);rw[List.take_length]at this;simpa using this
 rw[hs,aza,Hzb hv hl,aza];cases e:dzD k vs with
 | inr f=>rfl
 | inl ns =>
  obtain⟨a,b,rfl,a0,a1,b0,b1,ha⟩:=Ez2 hl hv e;obtain⟨tl,tv⟩:=nzV h h4;rw[show amtG (.inl [a,b]) = .inl ([a,b],v0) from rfl];simp only;have i1:idx [a,b] 1=some b:=rfl;have hrl:=pzy (texR v);have ht:∀x:List UInt8,x.length<=3000->(obnd (cz1 x) fun y=>some y)=some (czD x):=fun x hx=>by rw[ozW (by omega),aza]
  rcases hk with rfl|rfl|rfl
  .have hp:=xzx (s:=texR v) (f:=0) (n:=a) (by omega) (by omega);rw[show decide ((15:Int)=15)=true from rfl,azc,idxZ,aza,show(0:Int)=((0:Nat):Int) from rfl,hp,aza,ht _ (by have:=pzJ tv (i:=0) (k:=a.toNat);omega),GzM]
  .rw[show decide ((16:Int)=15)=false from rfl,azb,show decide ((16:Int)=16)=true from rfl,azc];rw[idxZ];have hr:=Jz1 (s:=texR v) (by omega);unfold qzE at hr;rw[hr,aza,aza,aza,azi (by omega) (by omega),bifI2,show(if((rs (texR v)).length:Int)-a<0 then 0 else((rs (texR v)).length:Int)-a)=(((rs (texR v)).length-a.toNat:Nat):Int) from by split<;>omega];rw[xzx (by omega) (by omega),aza,ht _ (by have:=pzJ tv (i:=(rs (texR v)).length-a.toNat) (k:=a.toNat);omega),xzy]
  .rw[show decide ((17:Int)=15)=false from rfl,azb,show decide ((17:Int)=16)=false from rfl,azb,show decide ((17:Int)=17)=true from rfl,azc];have:=ha rfl;rw[idxZ,aza,i1,aza,azi (by omega) (by omega),show a-1=(((a-1).toNat:Nat):Int) by omega,xzx (by omega) (by omega),aza,ht _ (by have:=pzJ tv (i:=(a-1).toNat) (k:=b.toNat);omega),GzN]
theorem Gzi {out w:List UInt8}(h:out.length+w.length<=100000000000):∃k,czU (out,(),w)=some ((out++w,k,()),()):=by
 unfold czU;simp only;rw[show hzJ (out,())=some (out,()) from rfl,aza];simp only;rw[appN (by omega),aza];exact⟨_,rfl⟩
theorem vzt {v:Val}(h:okW v):(worR v).1.length<=3000/\validD (worR v).1=true:=by
 by_cases h4:v.Kind=4
 .rw[(czg h).1 h4];exact⟨by simp,rfl⟩
 .rw[(czg h).2 h4];exact nzV h h4
def conS (s:List UInt8)(v:Val):List UInt8⊕(List UInt8⊕(List UInt8×Val)):=bif (worR v).2.2 then .inl (s++(worR v).1)else .inr (.inr (s,(worR v).2.1))
def conL (s:List UInt8)(l:List Val):List UInt8⊕(List UInt8×Val):=azo conS .inl s l
def conG:List UInt8⊕(List UInt8×Val)->(List UInt8×(Val×Unit))⊕(List UInt8×(Val×Unit))
 | .inl s=>.inl (s,v0,())
 | .inr (s,f)=>.inr (s,f,())
theorem Izv {s s':List UInt8}{v:Val}(h:okW v)(e:conS s v = .inl s'):s'.length<=s.length+3000:=by
 have:=(vzt h).1;unfold conS at e;revert e;cases(worR v).2.2<;>intro e<;>cases e;rw[List.length_append];omega
theorem AzN:∀{l:List Val} {s s':List UInt8},(∀v∈l,okW v)->conL s l = .inl s'->s'.length<=s.length+3000*l.length
 | [],s,s',_,e=>by simp only[conL,azo]at e;cases e;simp
 | v::l,s,s',h,e=>by
  simp only[conL,azo]at e;cases hs:conS s v with
  | inr y =>
   rw[hs]at e;unfold conS at hs;revert hs;cases(worR v).2.2<;>intro hs<;>cases hs;cases e
  | inl s1 =>
   rw[hs]at e;have h1:=Izv (h v (by simp)) hs;have h2:=AzN (l:=l) (fun w hw=>h w (by simp[hw])) e;simp only[List.length_cons];omega
theorem step3 {x y z i:Nat}(h1:y<=z+3000*i)(h2:x<=y+3000):x<=z+3000*(i+1):=by
 rw[Nat.mul_add,Nat.mul_one,<-Nat.add_assoc];exact Nat.le_trans h2 (Nat.add_le_add_right h1 _)
theorem many_l3 {l:List Val}{s:List UInt8}(hl:l.length<=5000)(h:∀v∈l,okW v)(hs:s.length<=1000000000):qz5 (s,v0,(),l,(l.length:Int),0)=some (conG (conL s l)) :=
 azC (F:=kzc) (fun(s:List UInt8) (i:Nat)=>(s,v0,(),l,(l.length:Int),(i:Int))) conG l conS .inl (fun s' i=>s'.length<=s.length+3000*i) (by omega)
  (fun back s' i hi hp=>by
   have ho:=h _ (List.getElem_mem hi);have hw:=(vzt ho).1;obtain⟨k,hk⟩:=Gzi (out:=s') (w:=(worR l[i]).1) (by omega);unfold kzc conS;simp only;rw[ltT hi,azc,idxG hi,aza,qzQ ho,aza,hk,aza,wr1 (by omega)];cases(worR l[i]).2.2<;>rfl)
  (fun s' i hi s'' hp e=>by
   exact step3 hp (Izv (h _ (List.getElem_mem hi)) e))
  (fun back s' hp=>by
   unfold kzc;simp only;rw[ltF,azb];rfl) s (by simp)
def conA (s:List UInt8)(l:List Arg):List UInt8⊕(List UInt8×Val):=azo (fun s a=>match conL s a.L with | .inl x=>.inl x | .inr y=>.inr (.inr y)) .inl s l
theorem many_l2 {l:List Arg}(h:okA l):nzh ([],v0,(),l,(l.length:Int),0)=some (conG (conA [] l)) :=
 azC (F:=kzb) (fun(s:List UInt8) (i:Nat)=>(s,v0,(),l,(l.length:Int),(i:Int))) conG l (fun s a=>match conL s a.L with | .inl x=>.inl x | .inr y=>.inr (.inr y)) .inl (fun s i=>s.length<=15000000*i) (by have:=h.1;omega)
  (fun back s i hi hp=>by
   have h40:=h.1;obtain⟨h1,h2⟩:=h.2 _ (List.getElem_mem hi);unfold kzb;simp only;rw[ltT hi,azc,idxG hi,aza,many_l3 h1 h2 (by omega),aza,wr1 (by omega)];cases conL s (l[i]).L with
   | inl x=>rfl
   | inr y=>rfl)
  (fun s i hi s' hp e=>by
   obtain⟨h1,h2⟩:=h.2 _ (List.getElem_mem hi);cases hc:conL s (l[i]).L with
   | inl x =>
    rw[hc]at e;cases e;have:=AzN h2 hc;omega
   | inr y=>rw[hc]at e;cases e)
  (fun back s hp=>by
   unfold kzb;simp only;rw[ltF,azb];rfl) [] (by simp)
theorem Izt:∀{l:List Arg} {s s':List UInt8},(∀a∈l,a.L.length<=5000/\∀v∈a.L,okW v)->conA s l = .inl s'->s'.length<=s.length+15000000*l.length
 | [],s,s',_,e=>by simp only[conA,azo]at e;cases e;simp
 | a::l,s,s',h,e=>by
  simp only[conA,azo]at e;cases hc:conL s a.L with
  | inr y=>rw[hc]at e;cases e
  | inl s1 =>
   rw[hc]at e;obtain⟨h1,h2⟩:=h a (by simp);have h3:=AzN h2 hc;have h4:=Izt (l:=l) (fun b hb=>h b (by simp[hb])) e;simp only[List.length_cons];omega
theorem KzZ {l:List Arg}(h:okA l)(hb:l.any badA=false):bzu (18,l)=some (match conA [] l with | .inl s=>czD s | .inr y=>y.2):=by
 have hl:=h.1;have hb1:dzJ (18,l,v0,18)=some (.inr ((),match conA [] l with | .inl s=>czD s | .inr y=>y.2)):=by
  unfold dzJ;simp only;rw[show decide ((18:Int)=3)=false from rfl,show decide ((18:Int)=11)=false from rfl,show decide ((18:Int)=12)=false from rfl,azb,azb,azb];simp only[decide_true,azc];rw[many_l2 h,aza];cases hc:conA [] l with
  | inr y=>rfl
  | inl s =>
   have:=Izt h.2 hc;rw[show conG (.inl s) = .inl (s,v0,()) from rfl];simp only[osum];rw[show jzA (s,())=some (s,()) from rfl,aza];simp only;rw[ozW (by simp only[List.length_nil]at this;omega),aza]
 unfold bzu;simp only;rw[iz2 (by omega),hb,aza,azb,show(⟨0,⟨0,0⟩,[],false,0⟩:Val)=v0 from rfl,hb1];rfl
def foldA (op:Int)(l:List Arg):Val:=if op=3 then vN ⟨(cntA 0 l:Nat),0⟩else match numA [] l with | .inl x=>mz9 op x | .inr v=>v
theorem best_V {op:Int}(hop:op=1\/op=2)(x:List Dec):vN ((x.foldl (best op) none).getD ⟨0,0⟩)=mz9 op x:=by
 cases x with
 | nil=>rcases hop with rfl|rfl<;>rfl
 | cons d xs =>
  rw[List.foldl_cons,show best op none d=some d from rfl,Gzn];rcases hop with rfl|rfl<;>rfl
theorem JzT {op:Int}{l:List Arg}(hop:op=0\/op=1\/op=2\/op=3\/op=4)(h:okA l):jzf (op,l)=some (if l.any badA=true then vE 15 else foldA op l):=by
 have hl:=h.1;unfold jzf;simp only[az7,aza];rw[rzF (by omega),aza];cases hb:l.any badA with
 | true=>rfl
 | false =>
  simp only[Bool.not_false,Bool.not_true,azb,Bool.false_eq_true,if_false];rw[Hz5 h,aza];unfold foldA;by_cases h3:op=3
  .subst h3;obtain⟨xs,e,hx⟩:=EzD l [];rw[show decide ((3:Int)=3)=true from rfl,e];simp only[Bool.not_true,azb,azc,if_true];rw[rzl,aza,hx];rfl
  .rw[if_neg h3,dF0 h3,refA_num];cases hn:numA [] l with
   | inr v=>rfl
   | inl x =>
    have hx:=yzK (fun a ha=>(h.2 a ha).2) (by simp) hn;have hxl:=uzQ (fun a ha=>(h.2 a ha).1) hn;simp only[List.length_nil]at hxl;simp only[Bool.not_true,azb];rcases(show op=1\/op=2\/(op=0\/op=4) by omega)with rfl|rfl|ho
    .simp only[decide_true,azc];rw[best_is (.inl rfl) (by omega) hx,aza,rzl,aza,best_V (.inl rfl)]
    .rw[show decide ((2:Int)=1)=false from rfl,azb];simp only[decide_true,azc];rw[best_is (.inr rfl) (by omega) hx,aza,rzl,aza,best_V (.inr rfl)]
    .rw[dF0 (show ¬op=1 by omega),azb,dF0 (show ¬op=2 by omega),azb,refSum_is (by omega) hx,aza];unfold mz9;rw[if_neg (show ¬op=1 by omega),if_neg (show ¬op=2 by omega)];by_cases hs:(sumD ⟨0,0⟩ x).2=0
     .have so:=(tz2 (l:=x) okd0).1 hs;rw[dT0 hs,azc,if_pos hs];by_cases h0:op=0
      .rw[dF0 (show ¬op=4 by omega),azb,if_pos h0,czH,aza];unfold numV;rw[if_pos hs]
      .rw[dT0 (show op=4 by omega),azc,if_neg h0,(divR_eq so (okdI (by unfold I64;omega))).2,aza,czH,aza]
     .rw[dF0 hs,azb,if_neg hs,czH,aza]
def rtG (op:Int):List Bool⊕Val->((Int×Bool)×Val)⊕(Unit×Val)
 | .inl s=>.inl (((s.length:Int),outT op s),v0)
 | .inr f=>.inr ((),f)
theorem outT_push {op:Int}(s:List Bool)(t:Bool):outT op (s++[t])=if op=11 then(outT op s&&t)else(outT op s||t):=by
 unfold outT;by_cases h:op=11<;>simp[h]
theorem JzX {op:Int}{a:Arg}{acc:List Bool}(hL:a.L.length<=5000)(hv:∀v∈a.L,okW v)(ha:acc.length<=1000000):
 mzv (op,v0,(acc.length:Int),outT op acc,a,0)=some (rtG op (truL a.Area acc a.L)):=by
 refine azC (F:=fzT) (fun(s:List Bool) i=>(op,v0,(s.length:Int),outT op s,a,(i:Int))) (rtG op) a.L (truS a.Area) .inl (fun s i=>s.length<=acc.length+i) (by omega) ?_ ?_ ?_ acc (by simp)
 .intro back s i hi hs;unfold fzT;simp only;have hn:=(tz6 (hv a.L[i] (List.getElem_mem hi))).2;rw[ltT hi,azc,idxG hi,aza,wr1 (by omega)];unfold truS vzk;have e:(obnd (czK a.L[i]) fun y =>
   brn (!y.2.2) (some (Sum.inr ((),y.2.1)))
    (brn (decide (op=11))
     (brn (outT op s) (back (op,v0,i64.wrap ((s.length:Int)+1),y.1,a,((i+1:Nat):Int)))
      (back (op,v0,i64.wrap ((s.length:Int)+1),false,a,((i+1:Nat):Int))))
     (brn (outT op s) (back (op,v0,i64.wrap ((s.length:Int)+1),true,a,((i+1:Nat):Int)))
      (back (op,v0,i64.wrap ((s.length:Int)+1),y.1,a,((i+1:Nat):Int)))))) =
   jzM (fun s'=>back (op,v0,(s'.length:Int),outT op s',a,((i+1:Nat):Int))) (rtG op) (bif (truR a.L[i]).2.2 then(.inl (s++[(truR a.L[i]).1]):List Bool⊕(List Bool⊕Val))else .inr (.inr (truR a.L[i]).2.1)):=by
   rw[hn,aza,wr1 (by omega)];cases(truR a.L[i]).2.2 with
   | false=>rfl
   | true =>
    simp only[Bool.not_true,azb,cond_true,jzM];rw[outT_push,List.length_append,List.length_singleton];by_cases ho:op=11
    .rw[dT0 ho,azc,if_pos ho];cases outT op s<;>cases(truR a.L[i]).1<;>rfl
    .rw[dF0 ho,azb,if_neg ho];cases outT op s<;>cases(truR a.L[i]).1<;>rfl
  cases a.Area with
  | false=>simp only[azb,Bool.false_and,cond_false];exact e
  | true =>
   simp only[azc,Bool.true_and];by_cases h1:(a.L[i]).Kind=1
   .rw[dT0 h1];simp only[Bool.not_true,azb,Bool.false_and,cond_false];exact e
   .rw[dF0 h1];simp only[Bool.not_false,azc,Bool.true_and];by_cases h3:(a.L[i]).Kind=3
    .rw[dT0 h3];simp only[Bool.not_true,azb,Bool.false_and,cond_false];exact e
    .rw[dF0 h3];simp only[Bool.not_false,azc,Bool.true_and];by_cases h4:(a.L[i]).Kind=4
     .rw[dT0 h4];simp only[Bool.not_true,azb,cond_false];exact e
     .rw[dF0 h4];rfl
 .intro s i hi s' hs hst;have:=CzC hst;omega
 .intro back s hs;unfold fzT;simp only;rw[ltF,azb];rfl
theorem JzW {op:Int}{l:List Arg}(hop:op=11\/op=12)(h:okA l):jzi (op,l)=some (if l.any badA=true then vE 15 else truV op l):=by
 have hl:=h.1;have h0:decide (op=11)=outT op []:=by rcases hop with rfl|rfl<;>rfl
 unfold jzi;simp only[az7,aza];rw[rzF (by omega),aza];cases hb:l.any badA with
 | true=>rfl
 | false =>
  simp only[Bool.not_false,Bool.not_true,azb,Bool.false_eq_true,if_false];have:=azC (F:=fzS) (fun(s:List Bool) i=>(op,l,v0,(s.length:Int),outT op s,(i:Int))) (rtG op) l (fun acc a=>match truL a.Area acc a.L with | .inl x=>.inl x | .inr v=>.inr (.inr v)) .inl (fun s i=>s.length<=5000*i) (by omega)
   (fun back s i hi hs=>by
    have hai:=h.2 l[i] (List.getElem_mem hi);unfold fzS;simp only;rw[ltT hi,azc,idxG hi,aza,wr1 (by omega),JzX hai.1 hai.2 (by omega),aza];cases truL (l[i]).Area s (l[i]).L<;>rfl)
   (fun s i hi s' hs hst=>by
    have hai:=h.2 l[i] (List.getElem_mem hi);cases hn:truL (l[i]).Area s (l[i]).L with
    | inl x =>
     rw[hn]at hst;simp only at hst;injection hst with hst;subst hst;have:=vzp hn;omega
    | inr v=>rw[hn]at hst;cases hst)
   (fun back s hs=>by
    unfold fzS;simp only;rw[ltF,azb];rfl) [] (by simp)
  have this:mzu (op,l,v0,0,outT op [],0)=some (rtG op (truA [] l)):=this;rw[h0,show(⟨0,⟨0,0⟩,[],false,0⟩:Val)=v0 from rfl,this,aza];unfold truV;cases truA [] l with
  | inr f=>rfl
  | inl s =>
   simp only[rtG,osum];by_cases hs:s=[]
   .subst hs;rfl
   .have:0<s.length:=List.length_pos_iff.2 hs;rw[dF0 (show ¬(s.length:Int)=0 by omega),azb,if_neg hs];rfl
theorem szY {s:List UInt8}(hv:validD s=true):s.length<=3*ulen (rs s):=by
 have h1:=tzs s.length s (Nat.le_refl _) hv;have h2:=rzJ s.length s (Nat.le_refl _);have key:∀l:List Int,(∀r∈l,bzK r)->(encs l).length<=3*ulen l:=by
  intro l;induction l with
  | nil=>intro _;simp[encs]
  | cons r l ih =>
   intro h;have hr:=h r (by simp);have ih:=ih (fun x hx=>h x (by simp[hx]));have:(Lib.encodeRune r).length<=3*(if r<65536 then 1 else 2):=by
    obtain⟨n,rfl⟩:=Int.eq_ofNat_of_zero_le hr.1;rw[encZ n hr];by_cases c:n<65536
    .rw[if_pos (show(n:Int)<65536 by omega)];split
     .simp
     .split
      .simp
      .simp
    .rw[if_neg (show ¬(n:Int)<65536 by omega),if_neg (show ¬n<128 by omega),if_neg (show ¬n<2048 by omega),if_neg c];simp
   unfold encs at ih ⊢;rw[List.flatMap_cons,List.length_append,ulen];omega
 have:=key _ h2;rw[h1]at this;exact this
theorem kzH {s:List UInt8}(hv:validD s=true):(az5 s).2=0↔ulen (rs s)<=1000:=by
 unfold az5;rw[if_pos hv];by_cases h:1000<ulen (rs s)
 .rw[if_pos h];simp;omega
 .rw[if_neg h];simp;omega
theorem units_app {s w:List UInt8}(hv:validD s=true)(hw:validD w=true)(h:¬(az5 s).2=0):¬(az5 (s++w)).2=0:=by
 rw[kzH hv]at h;rw[kzH (by rw[szV hv];exact hw),rs_app hv,CzD];omega
structure CS where
 T:List UInt8
 s:List UInt8
 b:Bool
def CS.ok (x:CS):Prop:=validD x.T=true/\x.s.length<=6000/\(x.b=false->x.s=x.T/\(az5 x.T).2=0)/\(x.b=true->¬(az5 x.T).2=0)
def csS (x:CS)(v:Val):CS⊕(CS⊕Val) :=
 bif (worR v).2.2 then(let s':=if x.b then x.s else x.s++(worR v).1;.inl ⟨x.T++(worR v).1,s',if x.b then true else !decide ((az5 s').2=0)⟩)else .inr (.inr (worR v).2.1)
theorem csS_ok {x x':CS}{v:Val}(hx:x.ok)(hv:okW v)(e:csS x v = .inl x'):x'.ok:=by
 obtain⟨h1,h2,h3,h4⟩:=hx;obtain⟨w1,w2⟩:=vzt hv;unfold csS at e;cases hb:(worR v).2.2 with
 | false=>rw[hb]at e;cases e
 | true =>
  rw[hb,cond_true]at e;simp only at e;cases e;have hvT:validD (x.T++(worR v).1)=true:=by rw[szV h1];exact w2
  refine⟨hvT,?_,?_,?_⟩
  .cases hxb:x.b with
   | true=>simp only[if_true];exact h2
   | false =>
    obtain⟨e1,e2⟩:=h3 hxb;have:=szY h1;rw[kzH h1]at e2;simp only[Bool.false_eq_true,if_false];rw[List.length_append,e1];omega
  .intro hb';cases hxb:x.b with
   | true=>rw[hxb]at hb';simp at hb'
   | false =>
    rw[hxb]at hb';simp only[Bool.false_eq_true,if_false]at hb' ⊢;obtain⟨e1,_⟩:=h3 hxb;rw[e1]at hb' ⊢;exact⟨rfl,by simpa using hb'⟩
  .intro hb';cases hxb:x.b with
   | true=>exact units_app h1 w2 (h4 hxb)
   | false =>
    rw[hxb]at hb';simp only[Bool.false_eq_true,if_false]at hb';obtain⟨e1,_⟩:=h3 hxb;rw[e1]at hb';simpa using hb'
def csL (x:CS)(l:List Val):CS⊕Val:=azo csS .inl x l
def csA (x:CS)(l:List Arg):CS⊕Val:=azo (fun x a=>match csL x a.L with | .inl y=>.inl y | .inr f=>.inr (.inr f)) .inl x l
theorem csL_ok:∀{l:List Val} {x x':CS},x.ok->(∀v∈l,okW v)->csL x l = .inl x'->x'.ok
 | [],x,x',hx,_,e=>by simp only[csL,azo]at e;cases e;exact hx
 | v::l,x,x',hx,hv,e=>by
  simp only[csL,azo]at e;cases hs:csS x v with
  | inl y=>rw[hs]at e;exact csL_ok (l:=l) (csS_ok hx (hv v (by simp)) hs) (fun w hw=>hv w (by simp[hw])) e
  | inr y =>
   rw[hs]at e;unfold csS at hs;revert hs;cases(worR v).2.2<;>intro hs<;>cases hs;cases e
theorem csL_con:∀{l:List Val} {x:CS},(match csL x l with | .inl y=>conL x.T l = .inl y.T | .inr f=>∃s,conL x.T l = .inr (s,f))
 | [],x=>by simp[csL,conL,azo]
 | v::l,x=>by
  unfold csL conL;simp only[azo];unfold csS conS;cases(worR v).2.2 with
  | false=>exact⟨_,rfl⟩
  | true=>exact csL_con (l:=l) (x:=⟨x.T++(worR v).1,_,_⟩)
theorem csA_con:∀{l:List Arg} {x:CS},(match csA x l with | .inl y=>conA x.T l = .inl y.T | .inr f=>∃s,conA x.T l = .inr (s,f))
 | [],x=>by simp[csA,conA,azo]
 | a::l,x=>by
  have h:=csL_con (l:=a.L) (x:=x);unfold csA conA;simp only[azo];cases hc:csL x a.L with
  | inr f =>
   rw[hc]at h;obtain⟨s,h⟩:=h;rw[h];exact⟨s,rfl⟩
  | inl y =>
   rw[hc]at h;simp only at h ⊢;rw[h];exact csA_con (l:=l) (x:=y)
theorem csA_ok:∀{l:List Arg} {x x':CS},x.ok->(∀a∈l,∀v∈a.L,okW v)->csA x l = .inl x'->x'.ok
 | [],x,x',hx,_,e=>by simp only[csA,azo]at e;cases e;exact hx
 | a::l,x,x',hx,hv,e=>by
  simp only[csA,azo]at e;cases hs:csL x a.L with
  | inl y=>rw[hs]at e;exact csA_ok (l:=l) (csL_ok hx (hv a (by simp)) hs) (fun b hb=>hv b (by simp[hb])) e
  | inr y=>rw[hs]at e;cases e
def csG:CS⊕Val->((List UInt8×Bool)×Val)⊕(Unit×Val)
 | .inl x=>.inl ((x.s,x.b),v0)
 | .inr f=>.inr ((),f)
theorem JzS {l:List Arg}{i:Nat}{x:CS}(h:okA l)(hi:i<l.length)(hx:x.ok):mzq (l,v0,x.s,x.b,(i:Int),0)=some (csG (csL x (l[i]).L)):=by
 have hai:=h.2 l[i] (List.getElem_mem hi);have h40:=hai.1;exact azC (F:=fzM) (fun(x:CS) (k:Nat)=>(l,v0,x.s,x.b,(i:Int),(k:Int))) csG (l[i]).L csS .inl (fun x _=>x.ok) (by omega)
  (fun back x k hk hx=>by
   have hv:=hai.2 _ (List.getElem_mem hk);have hw:=(vzt hv).1;have hsl:=hx.2.1;unfold fzM csS;simp only;rw[idxG hi,aza,ltT hk,azc,aza,idxG hk,aza,(uzb hv).2,aza,wr1 (by omega)];cases(worR (l[i]).L[k]).2.2 with
   | false=>rfl
   | true =>
    simp only[Bool.not_true,azb,cond_true];cases hxb:x.b with
    | true =>
     simp only[Bool.not_true,azb,azc,if_true];rw[lzH (by omega),aza];rfl
    | false =>
     simp only[Bool.not_false,azc,azb,Bool.false_eq_true,if_false];have h3000:x.s.length<=3000:=by
      obtain⟨e1,e2⟩:=hx.2.2.1 hxb;rw[kzH hx.1]at e2;have:=szY hx.1;rw[e1];omega
     rw[catS (by omega),aza,lzH (by rw[List.length_append];omega),aza];rfl)
  (fun x k hk x' hx e=>csS_ok hx (hai.2 _ (List.getElem_mem hk)) e)
  (fun back x _=>by
   unfold fzM;simp only;rw[idxG hi,aza,ltF,azb];rfl) x hx
theorem concat_eq {l:List Arg}(h:okA l):dz5 l=some (if l.any badA=true then vE 15 else(match conA [] l with | .inl s=>czD s | .inr y=>y.2)):=by
 have hl:=h.1;unfold dz5;simp only[az7,aza];rw[rzF (by omega),aza];cases hb:l.any badA with
 | true=>rfl
 | false =>
  simp only[Bool.not_false,Bool.not_true,azb,Bool.false_eq_true,if_false];have o0:(⟨[],[],false⟩:CS).ok:=⟨rfl,by simp,fun _=>⟨rfl,rfl⟩,fun e=>by cases e⟩;have:=azC (F:=fzL) (fun(x:CS) (i:Nat)=>(l,v0,x.s,x.b,(i:Int))) csG l (fun x a=>match csL x a.L with | .inl y=>.inl y | .inr f=>.inr (.inr f)) .inl (fun x _=>x.ok) (by omega)
   (fun back x i hi hx=>by
    unfold fzL;simp only;rw[ltT hi,azc,JzS h hi hx,aza,wr1 (by omega)];cases csL x (l[i]).L<;>rfl)
   (fun x i hi x' hx e=>by
    cases hc:csL x (l[i]).L with
    | inl y=>rw[hc]at e;cases e;exact csL_ok hx (h.2 _ (List.getElem_mem hi)).2 hc
    | inr f=>rw[hc]at e;cases e)
   (fun back x _=>by
    unfold fzL;simp only;rw[ltF,azb];rfl) ⟨[],[],false⟩ o0
  have this:mzp (l,v0,[],false,0)=some (csG (csA ⟨[],[],false⟩ l)):=this;rw[show(⟨0,⟨0,0⟩,[],false,0⟩:Val)=v0 from rfl,this,aza];have hcon:=csA_con (l:=l) (x:=⟨[],[],false⟩);cases hc:csA ⟨[],[],false⟩ l with
  | inr f =>
   rw[hc]at hcon;obtain⟨s,e⟩:=hcon;simp only at e;rw[e];rfl
  | inl y =>
   rw[hc]at hcon;simp only at hcon;have oy:=csA_ok o0 (fun a ha=>(h.2 a ha).2) hc;rw[hcon];simp only[csG,osum];cases hyb:y.b with
   | true =>
    have:=oy.2.2.2 hyb;rw[azc];unfold czD;rw[if_neg this]
   | false =>
    have:=(oy.2.2.1 hyb).1;have hsl:=oy.2.1;rw[azb,mzj (by omega),aza,this]
def sing (a:Arg):Val:=if badB a=true then vE 15 else fst1 a
theorem cz8 {a:Arg}(h:badB a=false):idx a.L 0=some (fst1 a):=by
 unfold badB at h;simp only[Bool.or_eq_false_iff,Bool.not_eq_false',decide_eq_true_eq]at h;unfold fst1;obtain⟨_,h1⟩:=h
 match h:a.L,h1 with
 | [v],_=>rfl
theorem sing_is (a:Arg):bzP a=some (sing a):=by
 unfold bzP sing;simp only[dzj,aza];cases hb:badB a with
 | false =>
  rw[cz8 hb];unfold badB at hb;simp only[Bool.or_eq_false_iff,Bool.not_eq_false',decide_eq_true_eq]at hb;rw[hb.1,dT0 (show((a.L.length:Nat):Int)=1 by omega)];rfl
 | true =>
  unfold badB at hb;cases ha:a.Area with
  | true=>rfl
  | false =>
   rw[ha]at hb;have:¬(a.L.length:Int)=1:=by
    intro e;have:a.L.length=1:=by omega
    simp[this]at hb
   rw[dF0 this];rfl
theorem shaped1 (a:Arg):fzk [a]=some (!badB a):=by rw[Gz1 (by simp)];simp
theorem Gze (a:Arg):azY ([a],1,1)=some (!badB a):=by rw[rzG (by simp)];simp
theorem sub0 (a:Arg)(l:List Arg):sub (a::l) 0 1=some [a]:=by
 have:=subG (D:=a::l) (i:=0) (k:=1) (by omega) (by simp);simpa using this
theorem subK {l:List Arg}{k:Nat}(h:k<l.length)(hl:l.length<=1000):sub l (k:Int) (i64.wrap ((k:Int)+1))=some [l[k]]:=by
 rw[azi (by omega) (by omega),show(k:Int)+1=((k+1:Nat):Int) by omega,subG (by omega) (by omega),List.take_succ_eq_append_getElem h,List.drop_append_of_le_length (by rw[List.length_take];omega),List.drop_of_length_le (by rw[List.length_take];omega)];rfl
theorem ref_pick {l:List Arg}{k:Nat}(h:k<l.length)(hl:l.length<=1000):(obnd (sub l (k:Int) (i64.wrap ((k:Int)+1))) fun z =>
 obnd (azY (z,1,1)) fun y_4=>brn (!y_4) (some (vE 15)) (obnd (idx l (k:Int)) fun y=>obnd (idx y.L 0) fun y=>some y))=some (sing l[k]):=by
 rw[subK h hl,aza,Gze,aza,idxG h,aza];unfold sing;cases hb:badB l[k]with
 | true=>rfl
 | false=>rw[cz8 hb];rfl
def tzF (a b:Arg):Val:=if a.Area=true then(if badB b=true then vE 15 else if(numR (fst1 b)).2.2=true then(if(numR (fst1 b)).1.S=0 then(if 1<=(numR (fst1 b)).1.M/\(numR (fst1 b)).1.M<=a.L.length then a.L.getD ((numR (fst1 b)).1.M-1).toNat v0 else vE 23)else vE 15)else(numR (fst1 b)).2.1)else vE 15
theorem sub12 (a b:Arg):sub [a,b] 1 (([a,b]:List Arg).length:Int)=some [b]:=subG (D:=[a,b]) (i:=1) (k:=2) (by omega) (by simp)
theorem idx1 (a b:Arg)(l:List Arg):idx (a::b::l) 1=some b:=idxG (l:=a::b::l) (i:=1) (by simp)
theorem index_is {a b:Arg}(hb:∀v∈b.L,okW v):nzg [a,b]=some (tzF a b):=by
 unfold nzg tzF;simp only[dzj,aza];rw[idxZ,aza];cases ha:a.Area with
 | false=>rfl
 | true =>
  rw[sub12,aza,shaped1,aza,idx1,aza];simp only[Bool.not_true,azb,if_true];cases hbb:badB b with
  | true=>rfl
  | false =>
   have hm:fst1 b∈b.L:=by
    have:=cz8 hbb;unfold fst1
    match h:b.L with
    | []=>rw[h]at this;cases this
    | v::_=>simp
   rw[cz8 hbb,aza,(ezX (hb _ hm)).1,aza];simp only[Bool.not_false,Bool.not_true,azb,Bool.false_eq_true,if_false];have ho:=(jzb (hb _ hm)).2;generalize numR (fst1 b)=r at *;obtain⟨⟨M,S⟩,f,ok⟩:=r;cases ok with
   | false=>rfl
   | true =>
    simp only[Bool.not_true,azb,if_true];by_cases c1:S=0
    .rw[dT0 c1,if_pos c1];simp only[Bool.not_true,azb];by_cases c2:M<1
     .rw[dT0 c2,if_neg (by omega)];rfl
     .rw[dF0 c2,azb,aza];by_cases c3:(a.L.length:Int)<M
      .rw[dT0 c3,if_neg (by omega)];rfl
      .rw[dF0 c3,azb,if_pos ⟨by omega,by omega⟩,aza];have hk:(M-1).toNat<a.L.length:=by omega
       unfold I64 at ho;simp only at ho;rw[azi (by omega) (by omega),show M-1=(((M-1).toNat:Nat):Int) by omega,idxG hk,aza,Int.toNat_natCast,List.getD_eq_getElem?_getD,List.getElem?_eq_getElem hk];rfl
    .rw[dF0 c1,if_neg c1];rfl
theorem Lzd {a b:Arg}(hb:∀v∈b.L,okW v):bzb (24,[a,b])=some (tzF a b):=by
 unfold bzb fzK tzF;simp only[az7,aza];rw[dF0 (show ¬(([a,b]:List Arg).length:Int)=0 by simp),azb,show decide ((([a,b]:List Arg).length:Int)=2)=true from rfl,idxZ,aza];simp only[decide_true,azc,Bool.not_true,azb];cases ha:a.Area with
 | false=>rfl
 | true =>
  rw[sub12,aza,Gze,aza,idx1,aza];simp only[Bool.not_true,azb,if_true];cases hbb:badB b with
  | true=>rfl
  | false =>
   have hm:fst1 b∈b.L:=by
    have:=cz8 hbb;unfold fst1
    match h:b.L with
    | []=>rw[h]at this;cases this
    | v::_=>simp
   rw[cz8 hbb,aza,(ezX (hb _ hm)).2,aza];simp only[Bool.not_false,Bool.not_true,azb,Bool.false_eq_true,if_false];have ho:=(jzb (hb _ hm)).2;generalize numR (fst1 b)=r at *;obtain⟨⟨M,S⟩,f,ok⟩:=r;cases ok with
   | false=>rfl
   | true =>
    simp only[Bool.not_true,azb,if_true];by_cases c1:S=0
    .rw[dT0 c1,if_pos c1];simp only[Bool.not_true,azb];by_cases c2:M<1
     .rw[dT0 c2,if_neg (by omega)];rfl
     .rw[dF0 c2,azb,aza];by_cases c3:(a.L.length:Int)<M
      .rw[dT0 c3,if_neg (by omega)];rfl
      .rw[dF0 c3,azb,if_pos ⟨by omega,by omega⟩,aza];have hk:(M-1).toNat<a.L.length:=by omega
       unfold I64 at ho;simp only at ho;rw[azi (by omega) (by omega),show M-1=(((M-1).toNat:Nat):Int) by omega,idxG hk,aza,Int.toNat_natCast,List.getD_eq_getElem?_getD,List.getElem?_eq_getElem hk];rfl
    .rw[dF0 c1,if_neg c1];rfl
end Go.Proofs.YtmkmofdnmllioaaGreatDoor