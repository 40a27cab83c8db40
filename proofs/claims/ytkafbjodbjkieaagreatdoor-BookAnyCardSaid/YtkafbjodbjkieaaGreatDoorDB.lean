import Derived.Test.YtkafbjodbjkieaaGreatDoorPT
import Derived.Test.YtkafbjodbjkieaaGreatDoorU1
import Derived.Test.YtkafbjodbjkieaaGreatDoorTie
import Derived.Stop.Joined
import Derived.Lib.LaidU8T
import Derived.Lay
import Derived.Test.YtkafbjodbjkieaaGreatDoorCards
set_option linter.unusedSimpArgs false
set_option linter.unusedVariables false
/- PU -/
namespace Go.Proofs.YtkafbjodbjkieaaGreatDoor
open Go Go.Ev Go.Lib
open Go.IntKind (i64 u64 u8 i32 u32 i16 u16)
theorem lz9 {X Z:Type}{F:(X->Option Z)->X->Option Z}(mk:Nat->X)(n:Nat)(c:Nat->Bool)(bad ok:Z)(hn:n<=1000000000)
 (h:∀back i,i<n->F back (mk i)=bif c i then back (mk (i+1))else some bad) (hend:∀back,F back (mk n)=some ok) :
 iter F big (mk 0)=some (bif (List.range n).all c then ok else bad):=by
 obtain⟨z,e1,e2⟩:=czz (F:=F) mk n (fun i=>c i=true) (fun z=>z=bad/\(List.range n).all c=false) ok hn
  (fun back i hi=>by
   rw[h back i hi];cases hc:c i with
   | true=>exact .inl ⟨rfl,rfl⟩
   | false=>exact .inr ⟨_,rfl,rfl,List.all_eq_false.2 ⟨i,List.mem_range.2 hi,by simp[hc]⟩⟩) hend
 rw[e1];rcases e2 with⟨rfl,e2⟩|⟨rfl,e2⟩
 .rw[e2];rfl
 .rw[show(List.range n).all c=true from List.all_eq_true.2 fun i hi=>e2 i (List.mem_range.1 hi)];rfl
theorem pzu {A X Z:Type}{F:(X->Option Z)->X->Option Z}(mk:Nat->X)(l:List A)(c:A->Bool)(bad ok:Z)(hn:l.length<=1000000000)
 (h:∀back i (hi:i<l.length),F back (mk i)=bif c l[i]then back (mk (i+1))else some bad) (hend:∀back,F back (mk l.length)=some ok) :
 iter F big (mk 0)=some (bif l.all c then ok else bad):=by
 obtain⟨z,e1,e2⟩:=czz (F:=F) mk l.length (fun i=>∀hi:i<l.length,c l[i]=true) (fun z=>z=bad/\l.all c=false) ok hn
  (fun back i hi=>by
   rw[h back i hi];cases hc:c l[i]with
   | true=>exact .inl ⟨rfl,fun _=>hc⟩
   | false=>exact .inr ⟨_,rfl,rfl,List.all_eq_false.2 ⟨_,List.getElem_mem hi,by simp[hc]⟩⟩) hend
 rw[e1];rcases e2 with⟨rfl,e2⟩|⟨rfl,e2⟩
 .rw[e2];rfl
 .rw[show l.all c=true from List.all_eq_true.2 fun a ha=>by obtain⟨i,hi,rfl⟩:=List.mem_iff_getElem.1 ha;exact e2 i hi hi];rfl
theorem cz2 {A B X Z:Type}{F:(X->Option Z)->X->Option Z}(mk:List B->Nat->X)(g:List B->Z)(l:List A)(f:A->List B)(K:Nat)(s0:List B)(hl:l.length<=1000000000)(hK:∀a∈l,(f a).length<=K)
 (h:∀back s i (hi:i<l.length),s.length<=s0.length+K*i->F back (mk s i)=back (mk (s++f l[i]) (i+1)))
 (hend:∀back s,s.length<=s0.length+K*l.length->F back (mk s l.length)=some (g s)):iter F big (mk s0 0)=some (g (s0++l.flatMap f)):=by
 have this:=bzG (F:=F) mk g l (fun(s:List B) k=>(.inl (s++f k):List B⊕List B)) id (fun s i=>s.length<=s0.length+K*i) (by omega)
  (fun back s i hi hp=>h back s i hi hp)
  (fun s i hi s' hp he=>by
   cases he;have:=hK _ (List.getElem_mem hi);rw[List.length_append,Nat.mul_add];omega)
  (fun back s hs=>hend back s hs) s0 (by omega)
 rw[cz3,id,kzp]at this;exact this
def fz {A:Type}(f:A->Int):List A->Int
 | []=>0
 | a::l=>if f a=0 then fz f l else f a
theorem tz5 {A:Type}{f:A->Int}:∀{l:List A},fz f l=0↔∀a∈l,f a=0
 | []=>by simp[fz]
 | a::l=>by
  simp only[fz,List.mem_cons,forall_eq_or_imp];by_cases h:f a=0
  .rw[if_pos h,tz5];simp[h]
  .rw[if_neg h];simp[h]
def er (e:Int):Unit⊕Int:=if e=0 then .inl ()else .inr e
theorem er0:er 0 = .inl ():=rfl
theorem dz4 {A X Z:Type}{F:(X->Option Z)->X->Option Z}(mk:Nat->X)(g:Int->Z)(l:List A)(f:A->Int)(hl:l.length<=1000000000)
 (h:∀back i (hi:i<l.length),F back (mk i)=bif decide (f l[i]=0)then back (mk (i+1))else some (g (f l[i])))
 (hend:∀back,F back (mk l.length)=some (g 0)):iter F big (mk 0)=some (g (fz f l)):=by
 have this:=bzG (F:=F) (fun(_:Unit) i=>mk i) g l (fun _ a=>if f a=0 then .inl ()else .inr (f a)) (fun _=>0) (fun _ _=>True) hl
  (fun back s i hi _=>by
   rw[h back i hi];by_cases c:f l[i]=0
   .rw[dT0 c,if_pos c];rfl
   .rw[dF0 c,if_neg c];rfl) (fun _ _ _ _ _ _=>trivial) (fun back _ _=>hend back) () trivial
 rw[this];congr 2;clear this h hend hl;induction l with
 | nil=>rfl
 | cons a l ih =>
  simp only[iz3,fz];by_cases c:f a=0
  .rw[if_pos c,if_pos c];exact ih
  .rw[if_neg c,if_neg c]
noncomputable def eqX {A:Type}(a b:A):Bool:=@decide (a=b) (Classical.propDecidable _)
theorem dz3 {A:Type}{a b:A}:eqX a b=true↔a=b:=by unfold eqX;exact @decide_eq_true_iff _ (Classical.propDecidable _)
theorem kzm {A:Type}{a b:A}(h:¬a=b):eqX a b=false:=by
 cases e:eqX a b
 .rfl
 .exact absurd (dz3.1 e) h
theorem izA {A:Type}(a:A):eqX a a=true:=dz3.2 rfl
theorem wz6 {c:Bool}{x:Option Bool}(h:c=false->x=some false):brn c (some false) x=some false:=by
 cases c
 .exact h rfl
 .rfl
noncomputable def eq2 {A:Type}(l m:List A)(i:Nat):Bool:=match l[i]?,m[i]? with
 | some x,some y=>eqX x y
 | _,_=>true
theorem tz3 {A:Type}{l m:List A}{i:Nat}(h1:i<l.length)(h2:i<m.length):eq2 l m i=eqX l[i] m[i]:=by
 unfold eq2;rw[List.getElem?_eq_getElem h1,List.getElem?_eq_getElem h2]
theorem CzR {A:Type}{l m:List A}(hl:l.length=m.length):(List.range l.length).all (eq2 l m)=eqX l m:=by
 by_cases h:l=m
 .subst h;rw[izA,List.all_eq_true];intro i hi;rw[tz3 (List.mem_range.1 hi) (List.mem_range.1 hi),izA]
 .rw[kzm h];cases hq:(List.range l.length).all (eq2 l m)
  .rfl
  .exfalso;apply h;apply List.ext_getElem hl;intro i h1 h2;have:=List.all_eq_true.1 hq i (List.mem_range.2 h1);rw[tz3 h1 h2]at this;exact dz3.1 this
theorem same_eq:∀(d N:Nat) (a b:Expr),d<N->sz d a<=1000->tr d a->iter dzA N (a,b)=some (eqX a b)
 | _,0,_,_,h,_,_=>absurd h (by omega)
 | 0,_,_,_,_,_,h=>h.elim
 | d+1,N+1,a,b,hN,hs,ht=>by
  have hl:=lenK hs;have hk:∀x∈a.Kids,∀y,iter dzA N (x,y)=some (eqX x y):=fun x hx y=>same_eq d N x y (by omega) (szK hs hx) (mzV ht hx)
  rw[azz];generalize iter dzA N=S at hk;have loop:a.Kids.length=b.Kids.length->kzz S (a,b,0)=some (bif eqX a.Kids b.Kids then .inl ()else .inr false):=fun hlen=>by
   rw[<-CzR hlen];exact lz9 (F:=dzI S) (fun i=>(a,b,(i:Int))) a.Kids.length _ (.inr false) (.inl ()) (by omega)
    (by
     intro back i hi;unfold dzI;simp only[azj];rw[ltT hi,azc,idxG hi,idxG (by omega:i<b.Kids.length),aza,aza,hk _ (List.getElem_mem hi),aza,wr1 (by omega),tz3 hi (by omega)];cases eqX a.Kids[i] b.Kids[i]<;>rfl)
    (by
     intro back;unfold dzI;simp only;rw[ltF];rfl)
  unfold dzA;simp only[azj];by_cases hab:a=b
  .subst hab;rw[loop rfl,izA,izA];simp;rfl
  .rw[kzm hab];refine wz6 fun h1=>wz6 fun h2=>wz6 fun h3=>wz6 fun h4=>wz6 fun h5=>wz6 fun h6=>?_
   have hlen:a.Kids.length=b.Kids.length:=by simp at h6;omega
   rw[loop hlen];cases hq:eqX a.Kids b.Kids
   .rfl
   .exfalso;have h7:=dz3.1 hq;apply hab;clear hs ht hl hk loop hlen hq h6 hab hN;obtain⟨k,⟨vk,⟨m,s⟩,st,bb,e⟩,⟨⟨a1,a2,a3,a4⟩,⟨b1,b2,b3,b4⟩⟩,sh,op,ks⟩:=a;obtain⟨k',⟨vk',⟨m',s'⟩,st',bb',e'⟩,⟨⟨a1',a2',a3',a4'⟩,⟨b1',b2',b3',b4'⟩⟩,sh',op',ks'⟩:=b;simp at h1 h2 h3 h4 h5 h7 ⊢;simp[h1,h2,h3,h4,h5,h7]
theorem nzM {a b:Expr}(h:fewE a):cz6 (a,b)=some (eqX a b):=same_eq 40 big a b (by rw[bzT];omega) (by have:=h.1;omega) h.2
theorem bzV (g:Group):Group.mk g.Array g.A g.B g.E=g:=rfl
theorem kzi (c:Cell2):Cell2.mk c.At c.XF c.V c.Has c.E=c:=rfl
def ltC (g:Group):Bool:=gdC g.A&&(gdC g.B&&(!decide (g.B.Row<g.A.Row)&&!decide (g.B.Col<g.A.Col)))
theorem gdC_b {c:Cell}(h:gdC c=true):0<=c.Row/\c.Row<65536/\0<=c.Col/\c.Col<256:=by
 unfold gdC at h;simp at h;omega
theorem vz0 {g:Group}(h:ltC g=true):0<=g.A.Row/\g.A.Row<=g.B.Row/\g.B.Row<65536/\0<=g.A.Col/\g.A.Col<=g.B.Col/\g.B.Col<256:=by
 unfold ltC at h;simp only[Bool.and_eq_true,Bool.not_eq_true',decide_eq_false_iff_not]at h;obtain⟨h1,h2,h3,h4⟩:=h;have:=gdC_b h1;have:=gdC_b h2;omega
def rows (g:Group):Int:=g.B.Row-g.A.Row+1
def cols (g:Group):Int:=g.B.Col-g.A.Col+1
def cgD (g:Group):Int:=bif ltC g then(if 1024<rows g*cols g then 13 else bif !g.Array&&(!decide (g.A.Col=g.B.Col)||decide (g.A.Row=g.B.Row))then 13 else(enc1 g.E).2)else 12
theorem wz1 {g:Group}(h:ltC g=true):1<=rows g/\rows g<=65536/\1<=cols g/\cols g<=256/\0<=rows g*cols g/\rows g*cols g<=16777216:=by
 have:=vz0 h;have h1:1<=rows g/\rows g<=65536:=by unfold rows;omega
 have h2:1<=cols g/\cols g<=256:=by unfold cols;omega
 refine⟨h1.1,h1.2,h2.1,h2.2,Int.mul_nonneg (by omega) (by omega),?_⟩;have:=Int.mul_le_mul h1.2 h2.2 (by omega) (by omega:(0:Int)<=65536);omega
theorem ltC_is (g:Group):iz5 g=some (!ltC g):=by
 unfold iz5 ltC;rw[nz7,nz7];cases gdC g.A
 .rfl
 cases gdC g.B
 .rfl
 cases decide (g.B.Row<g.A.Row)<;>cases decide (g.B.Col<g.A.Col)<;>rfl
theorem group_is {g:Group}(h:fewE g.E):kz3 g=some (cgD g):=by
 unfold kz3 cgD;simp only[azj,bzV];rw[ltC_is,aza];cases hb:ltC g
 .rfl
 .obtain⟨a1,a2,a3,a4,a5,a6⟩:=wz1 hb;have:=vz0 hb;have e1:i64.wrap (i64.wrap (g.B.Row-g.A.Row)+1)=rows g:=by rw[azH (n:=g.B.Row-g.A.Row) (by omega) (by omega),azH (by omega) (by omega)];rfl
  have e2:i64.wrap (i64.wrap (g.B.Col-g.A.Col)+1)=cols g:=by rw[azH (n:=g.B.Col-g.A.Col) (by omega) (by omega),azH (by omega) (by omega)];rfl
  rw[e1,e2,azH (by omega) (by omega),show(!true)=false from rfl,azd,(lz3 (by have:=h.1;omega) h.2).2,cond_true];simp only[aza];by_cases c:1024<rows g*cols g
  .rw[dT0 c,if_pos c];rfl
  .rw[dF0 c,if_neg c,azd];cases g.Array<;>cases decide (g.A.Col=g.B.Col)<;>cases decide (g.A.Row=g.B.Row)<;>rfl
def ovB (a b:Group):Bool:=decide (a.A.Row<=b.B.Row)&&(decide (b.A.Row<=a.B.Row)&&(decide (a.A.Col<=b.B.Col)&&decide (b.A.Col<=a.B.Col)))
theorem PzD (a b:Group):ozb (a,b)=some (ovB a b):=by
 unfold ozb ovB;simp only[brnA]
def apart (l:List Group):Bool:=(List.range l.length).all fun i=>match l[i]? with
 | some a=>(l.take i).all fun b=>!ovB a b
 | none=>true
def csD (l:List Group):Int:=if fz cgD l=0 then(bif apart l then 0 else 13)else fz cgD l
theorem groups_l3 {l:List Group}{n:Nat}(hl:l.length<=1000)(hn:n<l.length):lzE (l,(n:Int),0)=some (bif (l.take n).all (fun b=>!ovB l[n] b)then .inl ()else .inr 13):=by
 have ht:(l.take n).length=n:=by rw[List.length_take];omega
 refine pzu (F:=fzw) (fun i=>(l,(n:Int),(i:Int))) (l.take n) (fun b=>!ovB l[n] b) (.inr 13) (.inl ()) (by omega) ?_ ?_
 .intro back i hi;have hi':i<n:=by omega
  unfold fzw;simp only[azj,bzV];rw[ltT hi',azc,idxG hn,idxG (by omega:i<l.length),aza,aza,PzD,aza,wr1 (by omega),List.getElem_take];cases ovB l[n] l[i]<;>rfl
 .intro back;rw[ht];unfold fzw;simp only;rw[ltF];rfl
theorem Jza {l:List Group}(hl:l.length<=1000)(he:∀g∈l,fewE g.E):kzB l=some (csD l):=by
 have l1:lzC (l,0)=some (er (fz cgD l)):=by
  refine dz4 (F:=fzu) (fun i=>(l,(i:Int))) er l cgD (by omega) ?_ ?_
  .intro back i hi;unfold fzu;simp only[azj,bzV];rw[ltT hi,azc,idxG hi,aza,group_is (he _ (List.getElem_mem hi)),aza,wr1 (by omega)];by_cases c:cgD l[i]=0
   .rw[dT0 c];rfl
   .rw[dF0 c,er,if_neg c];rfl
  .intro back;unfold fzu;simp only;rw[ltF];rfl
 have l2:lzD (l,0)=some (bif apart l then .inl ()else .inr 13):=by
  refine lz9 (F:=fzv) (fun i=>(l,(i:Int))) l.length _ (.inr 13) (.inl ()) (by omega) ?_ ?_
  .intro back i hi;unfold fzv;simp only;rw[ltT hi,azc,groups_l3 hl hi,aza,wr1 (by omega),List.getElem?_eq_getElem hi];simp only;cases(l.take i).all fun b=>!ovB l[i] b<;>rfl
  .intro back;unfold fzv;simp only;rw[ltF];rfl
 unfold kzB csD;rw[l1,l2,aza,aza];by_cases c:fz cgD l=0
 .rw[c,er0,if_pos rfl];cases apart l<;>rfl
 .rw[er,if_neg c,if_neg c];rfl
theorem rz2 {A:Type}(p:A->Bool):∀l:List A,(l.flatMap fun a=>bif p a then [a]else [])=l.filter p
 | []=>rfl
 | a::l=>by rw[List.flatMap_cons,List.filter_cons,rz2 p l];cases p a<;>rfl
theorem MzL {A B:Type}(f:A->B):∀l:List A,(l.flatMap fun a=>[f a])=l.map f
 | []=>rfl
 | a::l=>by rw[List.flatMap_cons,MzL f l];rfl
theorem arrays_is {l:List Group}(hl:l.length<=1000):pzn l=some (l.filter (·.Array)):=by
 have:pzE (l,[],0)=some ([]++l.flatMap fun g=>bif g.Array then [g]else []):=by
  refine cz2 (F:=jzM) (fun s i=>(l,s,(i:Int))) id l (fun g=>bif g.Array then [g]else []) 1 [] (by omega) (fun g _=>by cases g.Array<;>simp) ?_ ?_
  .intro back s i hi hs;unfold jzM;simp only[azj,bzV];rw[ltT hi,azc,idxG hi,aza,aza,wr1 (by omega)];cases l[i].Array
   .simp
   .rw[azc,appN (by simp at hs ⊢;omega)];rfl
  .intro back s _;unfold jzM;simp only;rw[ltF];rfl
 unfold pzn;rw[this,aza,List.nil_append,rz2]
def exD (g:Group):List Member:=(List.range (rows g).toNat).flatMap fun(r:Nat)=>(List.range (cols g).toNat).map fun(c:Nat)=>⟨⟨g.A.Row+(r:Int),g.A.Col+(c:Int)⟩,g.E⟩
theorem expand_is {g:Group}(h:ltC g=true)(ha:rows g*cols g<=1024):mzL g=some (exD g):=by
 have hb:=vz0 h;obtain⟨a1,a2,a3,a4,-,-⟩:=wz1 h;have b1:rows g<=1024:=by
  have:=Int.mul_le_mul (Int.le_refl (rows g)) a3 (by omega) (by omega);omega
 have l2:∀(s:List Member) (r:Nat),(r:Int)<rows g->s.length<=1000000->mzh (g,s,g.A.Row+r,g.A.Col)=some (s++(List.range (cols g).toNat).map fun(c:Nat)=>(⟨⟨g.A.Row+(r:Int),g.A.Col+(c:Int)⟩,g.E⟩:Member)):=by
  intro s r hr hs;have:=cz2 (F:=jzK) (fun s i=>(g,s,g.A.Row+r,g.A.Col+(i:Int))) id (List.range (cols g).toNat) (fun(c:Nat)=>[(⟨⟨g.A.Row+(r:Int),g.A.Col+(c:Int)⟩,g.E⟩:Member)]) 1 s (by simp;omega) (by simp) ?_ ?_
  .rw[show g.A.Col+((0:Nat):Int)=g.A.Col by simp]at this;rw[show mzh (g,s,g.A.Row+r,g.A.Col)=_ from this];rw[id,MzL]
  .intro back z i hi hz;have hi':i<(cols g).toNat:=by simpa using hi
   unfold jzK;simp only[azj,bzV];have:g.A.Col+(i:Int)<=g.B.Col:=by unfold cols at hi';omega
   rw[dT0 this,azc,appN (by simp at hz ⊢;omega),aza,azH (by omega) (by omega),List.getElem_range];rw[show g.A.Col+(i:Int)+1=g.A.Col+((i+1:Nat):Int) by omega]
  .intro back z hz;unfold jzK;simp only[azj,bzV];have:¬g.A.Col+((List.range (cols g).toNat).length:Int)<=g.B.Col:=by rw[List.length_range];unfold cols;omega
   rw[dF0 this];rfl
 have l1:pzB (g,[],g.A.Row)=some ([]++exD g):=by
  have:=cz2 (F:=jzJ) (fun s i=>(g,s,g.A.Row+(i:Int))) id (List.range (rows g).toNat) (fun(r:Nat)=>(List.range (cols g).toNat).map fun(c:Nat)=>(⟨⟨g.A.Row+(r:Int),g.A.Col+(c:Int)⟩,g.E⟩:Member)) 256 [] (by simp;omega) (by simp;omega) ?_ ?_
  .rw[show g.A.Row+((0:Nat):Int)=g.A.Row by simp]at this;exact this
  .intro back z i hi hz;have hi':i<(rows g).toNat:=by simpa using hi
   unfold jzJ;simp only[azj,bzV];have:g.A.Row+(i:Int)<=g.B.Row:=by unfold rows at hi';omega
   rw[dT0 this,azc,l2 _ _ (by omega) (by simp at hz;omega),aza,azH (by omega) (by omega),List.getElem_range];rw[show g.A.Row+(i:Int)+1=g.A.Row+((i+1:Nat):Int) by omega]
  .intro back z hz;unfold jzJ;simp only[azj,bzV];have:¬g.A.Row+((List.range (rows g).toNat).length:Int)<=g.B.Row:=by rw[List.length_range];unfold rows;omega
   rw[dF0 this];rfl
 unfold mzL;simp only[azj,bzV];rw[l1];rfl
def atC (p:Cell)(c:Cell2):Bool:=decide (c.At.Row=p.Row)&&decide (c.At.Col=p.Col)
def loc:Option Nat->Unit⊕Int
 | some i=>.inr i
 | none=>.inl ()
theorem cellAt_is {l:List Cell2}{p:Cell}(hl:l.length<=1000):pzo (l,p)=some (match l.findIdx? (atC p)with|some i=>(i:Int)|none=>-1):=by
 have:=kzo (F:=jzN) (fun i=>(l,p,(i:Int))) loc l (atC p) (by omega) ?_ ?_
 .unfold pzo;rw[show pzF (l,p,0)=_ from this,aza];cases l.findIdx? (atC p)<;>rfl
 .intro back i hi;unfold jzN;simp only;rw[ltT hi,azc,idxG hi,aza,wr1 (by omega)];rfl
 .intro back;unfold jzN;simp only;rw[ltF];rfl
noncomputable def hasC (l:List Cell2)(e:Expr)(p:Cell):Bool:=match l.find? (atC p)with
 | some c=>c.Has&&eqX c.E e
 | none=>false
theorem Fzy {A:Type}{p:A->Bool}:∀{l:List A},(l.findIdx? p=none/\l.find? p=none)\/∃j,∃h:j<l.length,l.findIdx? p=some j/\l.find? p=some l[j]
 | []=>.inl ⟨rfl,rfl⟩
 | a::l=>by
  rw[List.findIdx?_cons,List.find?_cons];cases h:p a with
  | true=>exact .inr ⟨0,by simp,by simp,by simp⟩
  | false =>
   rcases Fzy (p:=p) (l:=l)with⟨h1,h2⟩|⟨j,hj,h1,h2⟩
   .exact .inl ⟨by simp[h1],by simp[h2]⟩
   .exact .inr ⟨j+1,by simp;omega,by simp[h1],by simp[h2]⟩
theorem groups_l2 {s:Sheet}{a:List Group}{n:Nat}{m:List Member}(hc:s.Cells.length<=1000)(he:∀x∈s.Cells,fewE x.E)(hn:n<a.length)(hm:m.length<=100000):
 mzm (s,a,(n:Int),m,0)=some (bif m.all (fun x=>hasC s.Cells a[n].E x.At)then .inl ()else .inr false):=by
 refine pzu (F:=jzP) (fun i=>(s,a,(n:Int),m,(i:Int))) m _ (.inr false) (.inl ()) (by omega) ?_ ?_
 .intro back i hi;unfold jzP;simp only[azj];rw[ltT hi,azc,idxG hi,aza,cellAt_is hc,aza,idxG hn,wr1 (by omega)];unfold hasC;rcases Fzy (p:=atC m[i].At) (l:=s.Cells)with⟨h1,h2⟩|⟨j,hj,h1,h2⟩
  .rw[h1,h2];rfl
  .rw[h1,h2];simp only;rw[dF0 (by omega),azd,idxG hj];simp only[aza];rw[nzM (he _ (List.getElem_mem hj)),aza];cases s.Cells[j].Has<;>cases eqX s.Cells[j].E a[n].E<;>rfl
 .intro back;unfold jzP;simp only;rw[ltF];rfl
noncomputable def gOk (cs:List Cell2)(a:List Group)(i:Nat):Bool:=match a[i]? with
 | some g=>(decide (i=0)||match a[i-1]? with
  | some f=>dzy f.A g.A
  | none=>true)&&(exD g).all fun x=>hasC cs g.E x.At
 | none=>true
theorem exD_len {g:Group}(h:ltC g=true)(ha:rows g*cols g<=1024):(exD g).length<=1024:=by
 obtain⟨a1,a2,a3,a4,-,-⟩:=wz1 h;have:((exD g).length:Int)=rows g*cols g:=by
  unfold exD;simp only[List.length_flatMap,List.length_map,List.length_range];rw[List.map_const',List.sum_replicate_nat,List.length_range,Int.natCast_mul,Int.toNat_of_nonneg (by omega),Int.toNat_of_nonneg (by omega)]
 omega
theorem cg0 {g:Group}(h:cgD g=0):ltC g=true/\rows g*cols g<=1024/\(g.Array=false->g.A.Col=g.B.Col/\g.A.Row≠g.B.Row)/\ck g.E=0:=by
 unfold cgD at h;cases hb:ltC g
 .rw[hb]at h;cases h
 .rw[hb,cond_true]at h;by_cases c:1024<rows g*cols g
  .rw[if_pos c]at h;cases h
  .rw[if_neg c]at h;cases hc:(!g.Array&&(!decide (g.A.Col=g.B.Col)||decide (g.A.Row=g.B.Row)))
   .rw[hc,cond_false]at h;refine⟨rfl,by omega,fun ha=>?_,enc0 h⟩;rw[ha]at hc;simpa using hc
   .rw[hc,cond_true]at h;cases h
theorem cs0 {l:List Group}(h:csD l=0):(∀g∈l,cgD g=0)/\apart l=true:=by
 unfold csD at h;by_cases c:fz cgD l=0
 .rw[if_pos c]at h;refine⟨tz5.1 c,?_⟩;cases ha:apart l
  .rw[ha]at h;cases h
  .rfl
 .rw[if_neg c]at h;exact absurd h c
theorem groups_l1 {s:Sheet}{a:List Group}(hc:s.Cells.length<=1000)(he:∀x∈s.Cells,fewE x.E)(hl:a.length<=1000)(h0:∀g∈a,cgD g=0):
 pzG (s,a,0)=some (bif (List.range a.length).all (gOk s.Cells a)then .inl ()else .inr false):=by
 refine lz9 (F:=jzO) (fun i=>(s,a,(i:Int))) a.length _ (.inr false) (.inl ()) (by omega) ?_ ?_
 .intro back i hi;obtain⟨q1,q2,-,-⟩:=cg0 (h0 _ (List.getElem_mem hi));have q3:=exD_len q1 q2;unfold jzO gOk;simp only[azj,bzV];rw[ltT hi,azc,idxG hi,List.getElem?_eq_getElem hi];simp only[aza];rw[expand_is q1 q2,aza,groups_l2 hc he hi (by omega),aza,wr1 (by omega)];by_cases hi0:i=0
  .subst hi0;rw[dF0 (by omega),azd,dT0 rfl,Bool.true_or,Bool.true_and];cases(exD a[0]).all fun x=>hasC s.Cells a[0].E x.At<;>rfl
  .rw[dT0 (by omega),azc,CzF (by omega) (by omega),idxG (by omega:i-1<a.length),aza,yzl,aza,dF0 hi0,Bool.false_or,List.getElem?_eq_getElem (by omega:i-1<a.length)];simp only;cases dzy a[i-1].A a[i].A
   .rfl
   .cases(exD a[i]).all fun x=>hasC s.Cells a[i].E x.At<;>rfl
 .intro back;unfold jzO;simp only;rw[ltF];rfl
def hasG (g:Group)(c:Cell):Bool:=decide (g.A.Row<=c.Row)&&(decide (c.Row<=g.B.Row)&&(decide (g.A.Col<=c.Col)&&decide (c.Col<=g.B.Col)))
theorem Az9 (g:Group)(c:Cell):qzC (g,c)=some (hasG g c):=by
 unfold qzC hasG;simp only[brnA]
def inA (l:List Group)(c:Cell):Bool:=l.any fun g=>g.Array&&hasG g c
theorem Pzn {l:List Group}{c:Cell}(hl:l.length<=1000):ozg (l,c)=some (inA l c):=by
 have:=pzu (F:=izU) (fun i=>(l,c,(i:Int))) l (fun g=>!(g.Array&&hasG g c)) (.inr true) (.inl ()) (by omega) ?_ ?_
 .unfold ozg inA;rw[show ozR (l,c,0)=_ from this,aza,List.all_eq_not_any_not];simp only[Bool.not_not];cases l.any fun g=>g.Array&&hasG g c<;>rfl
 .intro back i hi;unfold izU;simp only[azj,bzV];rw[ltT hi,azc,idxG hi];simp only[aza];rw[Az9,aza,wr1 (by omega)];cases l[i].Array<;>cases hasG l[i] c<;>rfl
 .intro back;unfold izU;simp only;rw[ltF];rfl
def mem (cs:List Cell2)(a:List Group):List Member:=cs.flatMap fun c=>bif c.Has&&!inA a c.At then [⟨c.At,c.E⟩]else []
theorem PzG {cs:List Cell2}{a:List Group}(hc:cs.length<=1000)(ha:a.length<=1000):ozO (cs,a,[],0)=some (mem cs a):=by
 refine cz2 (F:=izR) (fun s i=>(cs,a,s,(i:Int))) id cs _ 1 [] (by omega) (fun c _=>by cases c.Has&&!inA a c.At<;>simp) ?_ ?_
 .intro back s i hi hs;unfold izR;simp only[azj];rw[ltT hi,azc,idxG hi];simp only[aza];rw[Pzn ha,aza,wr1 (by omega),appN (by simp at hs ⊢;omega),aza];cases cs[i].Has<;>cases inA a cs[i].At<;>simp
 .intro back s _;unfold izR;simp only;rw[ltF];rfl
theorem fzq {A B:Type}{f:A->List B}{K:Nat}:∀(l:List A),(∀a∈l,(f a).length<=K)->(l.flatMap f).length<=K*l.length
 | [],_=>Nat.zero_le _
 | a::l,h=>by
  have h1:=fzq l fun b hb=>h b (List.mem_cons_of_mem _ hb)
  have h2:=h a (List.mem_cons_self ..);rw[List.flatMap_cons,List.length_append,List.length_cons,Nat.mul_add];omega
theorem mem_len (cs:List Cell2)(a:List Group):(mem cs a).length<=cs.length:=by
 have:=fzq (f:=fun c:Cell2=>bif c.Has&&!inA a c.At then [(⟨c.At,c.E⟩:Member)]else []) (K:=1) cs (fun c _=>by cases c.Has&&!inA a c.At<;>simp);unfold mem;omega
theorem CzZ {cs:List Cell2}{a:List Group}(he:∀x∈cs,fewE x.E):∀m∈mem cs a,fewE m.E:=by
 intro m hm;unfold mem at hm;obtain⟨c,hc,hm⟩:=List.mem_flatMap.1 hm;cases h:c.Has&&!inA a c.At
 .rw[h]at hm;cases hm
 .rw[h]at hm;simp at hm;rw[hm];exact he c hc
def colI (l:List Member)(c:Nat):List Nat:=(List.range l.length).filter fun i=>match l[i]? with
 | some m=>decide (m.At.Col=c)
 | none=>false
def ints (l:List Nat):List Int:=l.map fun(i:Nat)=>(i:Int)
theorem Jzd {l:List Member}{c:Nat}:∀i∈colI l c,i<l.length:=fun i h=>List.mem_range.1 (List.mem_filter.1 h).1
theorem Mzt (l:List Member)(c:Nat):(colI l c).length<=l.length:=by
 have:=List.length_filter_le (fun i=>match l[i]? with|some m=>decide (m.At.Col=c)|none=>false) (List.range l.length);rw[List.length_range]at this;exact this
theorem plan_l2 {l:List Member}{c:Nat}(hl:l.length<=1000):ozc (l,(c:Int),[],0)=some (ints (colI l c)):=by
 have:=cz2 (F:=lzG) (fun s i=>(l,(c:Int),s,(i:Int))) id (List.range l.length) (fun i=>match l[i]? with|some m=>bif decide (m.At.Col=c)then [(i:Int)]else []|none=>[]) 1 [] (by simp;omega) ?_ ?_ ?_
 .rw[show ozc (l,(c:Int),[],0)=_ from this];congr 1;unfold ints colI;rw[id,List.nil_append];induction List.range l.length with
  | nil=>rfl
  | cons a t ih =>
   rw[List.flatMap_cons,List.filter_cons,ih];cases l[a]? with
   | none=>rfl
   | some m=>by_cases hd:m.At.Col=(c:Int)<;>simp[hd]
 .intro a _;cases l[a]? with
  | none=>simp
  | some m=>simp only;cases decide (m.At.Col=c)<;>simp
 .intro back s i hi hs;have hi':i<l.length:=by simpa using hi
  unfold lzG;simp only[azj];rw[ltT hi',azc,idxG hi',aza,wr1 (by omega),appN (by simp at hs ⊢;omega),aza,List.getElem_range,List.getElem?_eq_getElem hi'];simp only;cases decide (l[i].At.Col=c)<;>simp
 .intro back s _;unfold lzG;simp only;rw[List.length_range,ltF];rfl
noncomputable def runN (x:Member):Nat->List Member->Nat
 | n,[]=>n
 | n,y::t=>bif decide (n<1024)&&(decide (y.At.Row=i64.wrap (x.At.Row+n))&&eqX y.E x.E)then runN x (n+1) t else n
theorem runN_le (x:Member):∀(n:Nat) (t:List Member),n<=runN x n t/\runN x n t<=n+t.length
 | n,[]=>⟨Nat.le_refl _,by simp[runN]⟩
 | n,y::t=>by
  unfold runN;have:=runN_le x (n+1) t;cases decide (n<1024)&&(decide (y.At.Row=i64.wrap (x.At.Row+n))&&eqX y.E x.E)
  .simp
  .simp;omega
def pick (l:List Member)(at_:List Nat):List Member:=at_.flatMap fun i=>match l[i]? with
 | some m=>[m]
 | none=>[]
theorem yzV {l:List Member}:∀{a:List Nat},(∀i∈a,i<l.length)->(pick l a).length=a.length
 | [],_=>rfl
 | i::a,h=>by
  have:=yzV (l:=l) (a:=a) fun j hj=>h j (by simp[hj])
  unfold pick at this ⊢;rw[List.flatMap_cons,List.getElem?_eq_getElem (h i (by simp))];simp[this]
theorem yzU {l:List Member}:∀{a:List Nat} (h:∀i∈a,i<l.length) (j:Nat) (hj:j<a.length),(pick l a)[j]?=some (l[a[j]]'(h _ (List.getElem_mem hj)))
 | i::a,h,0,_=>by
  unfold pick;rw[List.flatMap_cons,List.getElem?_eq_getElem (h i (by simp))];rfl
 | i::a,h,j+1,hj=>by
  have:=yzU (l:=l) (a:=a) (fun j hj=>h j (by simp[hj])) j (by simpa using hj);unfold pick at this ⊢;rw[List.flatMap_cons,List.getElem?_eq_getElem (h i (by simp))];simpa using this
theorem idxN {a:List Nat}{j:Nat}(hj:j<a.length):idx (ints a) (j:Int)=some (a[j]:Int):=by
 rw[idxG (by unfold ints;simpa using hj)];simp[ints]
theorem bif_inl {A B:Type}{c:Bool}{x s:A}{y:B}(h:(bif c then .inl x else .inr y:A⊕B) = .inl s):s=x:=by
 cases c
 .cases h
 .cases h;rfl
theorem plan_l4 {l:List Member}{a:List Nat}{i:Nat}(ha:a.length<=1000)(h:∀i∈a,i<l.length)(he:∀m∈l,fewE m.E)(hi:i<a.length):
 ozd (l,ints a,(i:Int),1)=some ((runN (l[a[i]]'(h _ (List.getElem_mem hi))) 1 ((pick l a).drop (i+1)):Nat):Int):=by
 have hp:=yzV h;have hdl:((pick l a).drop (i+1)).length=a.length-(i+1):=by rw[List.length_drop,hp]
 have hai:=h _ (List.getElem_mem hi);have key:=bzG (F:=lzI) (fun(s:Nat) j=>(l,ints a,(i:Int),((1+j:Nat):Int))) (fun n:Nat=>(n:Int)) ((pick l a).drop (i+1))
  (fun(n:Nat) y=>bif decide (n<1024)&&(decide (y.At.Row=i64.wrap (l[a[i]].At.Row+n))&&eqX y.E l[a[i]].E)then(.inl (n+1):Nat⊕Nat)else .inr n) id (fun s j=>s=1+j) (by omega)
  (by
   intro back s j hj hs;subst hs;have hj':i+(1+j)<a.length:=by omega
   have hb:=h _ (List.getElem_mem hj');have hg:((pick l a).drop (i+1))[j]=l[a[i+(1+j)]]:=by
    have:=yzU h (i+(1+j)) hj';rw[List.getElem?_eq_getElem (by omega)]at this;injection this with this;rw[List.getElem_drop,<-this];congr 1;omega
   have hil:(ints a).length=a.length:=by simp[ints]
   unfold lzI;simp only[azj];rw[hg,show i64.wrap ((i:Int)+((1+j:Nat):Int))=((i+(1+j):Nat):Int) by rw[azH (by omega) (by omega)];omega,hil,ltT hj',azc,idxN hj',idxN hi];simp only[aza];rw[idxG hb,idxG hai];simp only[aza];rw[nzM (he _ (List.getElem_mem hb)),aza,wr1 (by omega)];have hd:decide (((1+j:Nat):Int)<1024)=decide (1+j<1024):=by simp only[decide_eq_decide];omega
   rw[hd];cases decide (1+j<1024)<;>cases decide (l[a[i+(1+j)]].At.Row=i64.wrap (l[a[i]].At.Row+((1+j:Nat):Int)))<;>cases eqX l[a[i+(1+j)]].E l[a[i]].E<;>rfl)
  (by
   intro s j hj s' hs hst;subst hs;have:=bif_inl hst;omega)
  (by
   intro back s hs;subst hs;have hil:(ints a).length=a.length:=by simp[ints]
   unfold lzI;simp only[azj];rw[show i64.wrap ((i:Int)+((1+((pick l a).drop (i+1)).length:Nat):Int))=(a.length:Int) by rw[azH (by omega) (by omega)];omega,hil,ltF];rfl)
  1 rfl
 rw[show ozd (l,ints a,(i:Int),1)=_ from key];congr 2;have:∀(t:List Member) (n:Nat),iz3 (fun(n:Nat) (y:Member)=>bif decide (n<1024)&&(decide (y.At.Row=i64.wrap (l[a[i]].At.Row+n))&&eqX y.E l[a[i]].E)then(.inl (n+1):Nat⊕Nat)else .inr n) id n t=runN l[a[i]] n t:=by
  intro t;induction t with
  | nil=>intro n;rfl
  | cons y t ih =>
   intro n;simp only[iz3,runN];cases decide (n<1024)&&(decide (y.At.Row=i64.wrap (l[a[i]].At.Row+n))&&eqX y.E l[a[i]].E)
   .rfl
   .exact ih _
 rw[this]
theorem inbG {n k:Nat}(h:k<n):inb n (k:Int)=some k:=by
 unfold inb;rw[dT0 (by omega),dT0 (by omega)];rfl
theorem plan_l5 {l:List Member}{a:List Nat}{i n:Nat}{b:List Bool}(hb:b.length=l.length)(hl:l.length<=1000)(ha:a.length<=1000)(h:∀i∈a,i<l.length)(hn:i+n<=a.length):
 ∃y,rzD (b,ints a,(i:Int),(n:Int),(i:Int))=some y/\y.length=l.length:=by
 have:=scan (F:=lzJ) (fun(s:List Bool) j=>(s,ints a,(i:Int),(n:Int),((i+j:Nat):Int))) n (fun s _=>s.length=l.length) (fun y=>y.length=l.length) (by omega) ?_ ?_ b hb
 .exact this
 .intro back s j hj hs;right;have hj':i+j<a.length:=by omega
  have hlt:=h _ (List.getElem_mem hj');unfold lzJ;simp only;rw[show i64.wrap ((i:Int)+(n:Int))=((i+n:Nat):Int) by rw[azH (by omega) (by omega)];omega,ltT (by omega),azc,idxN hj',aza,inbG (by omega:a[i+j]<s.length),aza];rw[show nth s (0+a[i+j])=some s[a[i+j]] by simp[nth],aza,wr1 (by omega)];exact⟨_,rfl,by simpa using hs⟩
 .intro back s hs;unfold lzJ;simp only;rw[show i64.wrap ((i:Int)+(n:Int))=((i+n:Nat):Int) by rw[azH (by omega) (by omega)];omega,ltF];exact⟨_,rfl,hs⟩
noncomputable def runs:Nat->List Member->List Group
 | 0,_=>[]
 | _+1,[]=>[]
 | k+1,x::t=>(bif decide (1<runN x 1 t)then [⟨false,x.At,((x::t)[runN x 1 t-1]?.getD x).At,x.E⟩]else [])++runs k ((x::t).drop (runN x 1 t))
theorem Cz2 {l:List Member}{a:List Nat}(hl:l.length<=1000)(ha:a.length<=1000)(h:∀i∈a,i<l.length)(he:∀m∈l,fewE m.E):
 ∀(k N i:Nat) (o:List Group) (b:List Bool),a.length-i<=k->k<N->i<=a.length->b.length=l.length->o.length+(a.length-i)<=1000000 ->
  ∃b',iter lzH N (l,o,b,ints a,(i:Int))=some (o++runs k ((pick l a).drop i),b')/\b'.length=l.length/\(runs k ((pick l a).drop i)).length<=a.length-i
 | _,0,_,_,_,_,h,_,_,_=>absurd h (by omega)
 | k,N+1,i,o,b,hk,hN,hi,hb,ho=>by
  have hp:=yzV h;have hil:(ints a).length=a.length:=by simp[ints]
  rw[azz];generalize hS:iter lzH N=S;unfold lzH;simp only[azj];rw[hil];by_cases hlt:i<a.length
  .obtain⟨k,rfl⟩:∃k',k=k'+1:=⟨k-1,by omega⟩;have hai:=h _ (List.getElem_mem hlt);have hd:(pick l a).drop i=l[a[i]]::(pick l a).drop (i+1):=by
    rw[List.drop_eq_getElem_cons (by omega)];have:=yzU h i hlt;rw[List.getElem?_eq_getElem (by omega)]at this;injection this with this;rw[this]
   obtain⟨r1,r2⟩:=runN_le l[a[i]] 1 ((pick l a).drop (i+1));rw[List.length_drop,hp]at r2;rw[ltT hlt,azc,plan_l4 ha h he hlt,aza,hd];unfold runs;generalize hR:runN l[a[i]] 1 ((pick l a).drop (i+1))=R at r1 r2;obtain⟨R,rfl⟩:∃R',R=R'+1:=⟨R-1,by omega⟩;have hRl:i+R<a.length:=by omega
   rw[<-hd,List.drop_drop,show i64.wrap ((i:Int)+((R+1:Nat):Int))=((i+(R+1):Nat):Int) by rw[azH (by omega) (by omega)];omega];by_cases c:1<R+1
   .obtain⟨b',e1,e2⟩:=plan_l5 (i:=i) (n:=R+1) hb hl ha h (by omega);have hq:=h _ (List.getElem_mem hRl);rw[dT0 (by omega),azc,e1,aza,idxN hlt,show i64.wrap (((i+(R+1):Nat):Int)-1)=((i+R:Nat):Int) by rw[azH (by omega) (by omega)];omega,idxN hRl];simp only[aza];rw[idxG hai,idxG hq];simp only[aza];rw[appN (by simp;omega),aza];obtain⟨b2,f1,f2,f3⟩:=Cz2 hl ha h he k N (i+(R+1)) (o++[⟨false,l[a[i]].At,l[a[i+R]].At,l[a[i]].E⟩]) b' (by omega) (by omega) (by omega) e2 (by simp;omega);rw[<-hS,f1];refine⟨b2,?_,f2,?_⟩
    .rw[dT0 (by omega),cond_true,List.append_assoc];have:=yzU h (i+R) hRl;rw[show R+1-1=R by omega,List.getElem?_drop,this];rfl
    .rw[dT0 (by omega),cond_true,List.length_append];simp;omega
   .obtain⟨b2,f1,f2,f3⟩:=Cz2 hl ha h he k N (i+(R+1)) o b (by omega) (by omega) (by omega) hb (by omega);rw[dF0 (by omega),azd,<-hS,f1];exact⟨b2,by rw[dF0 (by omega)];rfl,f2,by rw[dF0 (by omega)];simp;omega⟩
  .have:i=a.length:=by omega
   subst this;rw[ltF,List.drop_eq_nil_of_le (by omega)];refine⟨b,?_,hb,?_⟩
   .cases k<;>simp[runs]
   .cases k<;>simp[runs]
noncomputable def plD (l:List Member):List Group:=(List.range 256).flatMap fun c=>runs (colI l c).length (pick l (colI l c))
theorem plan_is {l:List Member}(hl:l.length<=1000)(he:∀m∈l,fewE m.E):∃o,rz7 l=some (plD l,o)/\(plD l).length<=256000:=by
 have hr:∀c,(runs (colI l c).length (pick l (colI l c))).length<=1000:=by
  intro c;have hc:=Mzt l c;obtain⟨b',-,-,e3⟩:=Cz2 hl (by omega) (Jzd (c:=c)) he (colI l c).length ((colI l c).length+1) 0 [] (List.replicate l.length false) (by omega) (by omega) (by omega) (by simp) (by simp;omega);rw[List.drop_zero]at e3;omega
 have l1:=scan (F:=lzF) (fun(s:List Group×List Bool) c=>(l,s.1,s.2,(c:Int))) 256 (fun s c=>s.1=(List.range c).flatMap (fun c=>runs (colI l c).length (pick l (colI l c)))/\s.1.length<=1000*c/\s.2.length=l.length)
  (fun y=>y.1=plD l/\y.1.length<=256000/\y.2.length=l.length) (by omega) ?_ ?_ ([],List.replicate l.length false) (by simp)
 .obtain⟨y,e1,e2,e3,e4⟩:=l1;have l6:∃o,rzE (l,y.2,[],0)=some o:=by
   refine⟨_,cz2 (F:=lzK) (fun s i=>(l,y.2,s,(i:Int))) id (List.range l.length) (fun i=>match l[i]?,y.2[i]? with|some m,some b=>bif b then []else [m]|_,_=>[]) 1 [] (by simp;omega) ?_ ?_ ?_⟩
   .intro i _;cases l[i]? with
    | none=>simp
    | some m =>
     cases y.2[i]? with
     | none=>simp
     | some b=>cases b<;>simp
   .intro back s i hi hs;have hi':i<l.length:=by simpa using hi
    unfold lzK;simp only[azj];rw[ltT hi',azc,idxG (by omega:i<y.2.length),idxG hi',aza,aza,wr1 (by omega),appN (by simp at hs ⊢;omega),aza,List.getElem_range,List.getElem?_eq_getElem hi',List.getElem?_eq_getElem (by omega:i<y.2.length)];simp only;cases y.2[i]<;>simp
   .intro back s _;unfold lzK;simp only;rw[List.length_range,ltF];rfl
  obtain⟨o,e5⟩:=l6;refine⟨o,?_,by rw[<-e2];exact e3⟩;unfold rz7;rw[show uzF 1 false (l.length:Int) (l.length:Int)=some (List.replicate l.length false) by
   unfold uzF;rw[dT0 (by omega),dT0 (by omega),dT0 (by omega)];rfl,aza,show rzB (l,[],List.replicate l.length false,0)=_ from e1,aza,e5,aza,e2]
 .rintro back ⟨o,b⟩ c hc ⟨h1,h2,h3⟩;right;simp only at h1 h2 h3;have hcl:=Mzt l c;obtain⟨b',f1,f2,f3⟩:=Cz2 hl (by omega) (Jzd (c:=c)) he (colI l c).length big 0 o b (by omega) (by rw[bzT];omega) (by omega) h3 (by omega);rw[List.drop_zero]at f1;unfold lzF;simp only;rw[dT0 (by omega),azc,plan_l2 hl,aza,show rzC (l,o,b,ints (colI l c),0)=_ from f1,aza,wr1 (by omega)];refine⟨(_,_),rfl,?_,?_,f2⟩
  .simp only;rw[List.range_succ,List.flatMap_append,<-h1];simp
  .have:=hr c;simp only[List.length_append];omega
 .rintro back ⟨o,b⟩ ⟨h1,h2,h3⟩;unfold lzF;simp only;rw[dF0 (by omega)];exact⟨_,rfl,h1,h2,h3⟩
theorem Czl {a b:Group}(h:fewE a.E):jzL (a,b)=some (eqX a b):=by
 unfold jzL;simp only[azj,nzM h,aza,cond_false];by_cases hab:a=b
 .subst hab;rw[izA,izA];simp
 .rw[kzm hab];obtain⟨k,⟨r1,c1⟩,⟨r2,c2⟩,e⟩:=a;obtain⟨k',⟨r1',c1'⟩,⟨r2',c2'⟩,e'⟩:=b;simp only;rw[brnA,brnA,brnA];congr 1;by_cases he:e=e'
  .simp at hab ⊢;intro h1 h2 h3 h4 h5;exact absurd he (hab h1 h2 h3 h4 h5)
  .rw[kzm he];simp
theorem pick_mem {l:List Member}{a:List Nat}:∀m∈pick l a,m∈l:=by
 intro m hm;unfold pick at hm;obtain⟨i,hi,hm⟩:=List.mem_flatMap.1 hm;cases h:l[i]? with
 | none=>rw[h]at hm;cases hm
 | some x =>
  rw[h]at hm;simp at hm;rw[hm];exact List.mem_of_getElem? h
theorem runs_E:∀(k:Nat) (l:List Member),∀g∈runs k l,g.Array=false/\∃m∈l,g.E=m.E
 | 0,_,g,h=>by cases h
 | _+1,[],g,h=>by cases h
 | k+1,x::t,g,h=>by
  unfold runs at h;rcases List.mem_append.1 h with h|h
  .cases hd:decide (1<runN x 1 t)
   .rw[hd]at h;cases h
   .rw[hd]at h;simp at h;rw[h];exact⟨rfl,x,by simp,rfl⟩
  .obtain⟨h1,m,hm,h2⟩:=runs_E k _ g h;exact⟨h1,m,List.mem_of_mem_drop hm,h2⟩
theorem plD_E {l:List Member}:∀g∈plD l,g.Array=false/\∃m∈l,g.E=m.E:=by
 intro g hg;unfold plD at hg;obtain⟨c,-,hg⟩:=List.mem_flatMap.1 hg;obtain⟨h1,m,hm,h2⟩:=runs_E _ _ g hg;exact⟨h1,m,pick_mem m hm,h2⟩
noncomputable def grD (s:Sheet):Bool:=bif decide (csD (s.Groups.filter (·.Array))=0)then(bif (List.range (s.Groups.filter (·.Array)).length).all (gOk s.Cells (s.Groups.filter (·.Array)))then eqX (s.Groups.filter (·.Array)++plD (mem s.Cells (s.Groups.filter (·.Array)))) s.Groups else false)else false
theorem KzS {s:Sheet}(h:fewS s):pzp s=some (grD s):=by
 have hc:=h.cells;have hg:=h.groups;have ce:=fun x hx=>(h.cellE x hx).1
 have ge:=h.groupE;unfold pzp grD;rw[arrays_is (by omega),aza];have al:(s.Groups.filter (·.Array)).length<=s.Groups.length:=List.length_filter_le _ _;have ae:∀g∈s.Groups.filter (·.Array),fewE g.E:=fun g hg=>ge g (List.mem_filter.1 hg).1
 generalize s.Groups.filter (·.Array)=a at al ae;rw[Jza (by omega) ae,aza];by_cases c0:csD a=0
 .rw[dT0 c0,show(!true)=false from rfl,azd,cond_true,groups_l1 (by omega) ce (by omega) (cs0 c0).1,aza];cases(List.range a.length).all (gOk s.Cells a)
  .rfl
  .rw[cond_true,cond_true];simp only[osum];obtain⟨o,e1,e2⟩:=plan_is (l:=mem s.Cells a) (by have:=mem_len s.Cells a;omega) (CzZ ce);unfold rzF;simp only;rw[PzG (by omega) (by omega),aza,e1];simp only[aza];rw[appN (by simp;omega),aza,List.nil_append,appN (by omega),aza,aza];have pe:∀g∈a++plD (mem s.Cells a),fewE g.E:=by
    intro g hg;rcases List.mem_append.1 hg with hg|hg
    .exact ae g hg
    .obtain⟨-,m,hm,h2⟩:=plD_E g hg;rw[h2];exact CzZ ce m hm
   have pl:(a++plD (mem s.Cells a)).length<=300000:=by rw[List.length_append];omega
   generalize a++plD (mem s.Cells a)=p at pe pl;by_cases hl:p.length=s.Groups.length
   .rw[dT0 (by omega),show(!true)=false from rfl,azd];have:=lz9 (F:=jzQ) (fun i=>(s,p,(i:Int))) p.length (eq2 p s.Groups) (.inr false) (.inl ()) (by omega) ?_ ?_
    .rw[show pzH (s,p,0)=_ from this,aza,CzR hl];cases eqX p s.Groups<;>rfl
    .intro back i hi;unfold jzQ;simp only[azj,bzV];rw[ltT hi,azc,idxG hi,idxG (by omega:i<s.Groups.length),aza,aza,Czl (pe _ (List.getElem_mem hi)),aza,wr1 (by omega),tz3 hi (by omega)];cases eqX p[i] s.Groups[i]<;>rfl
    .intro back;unfold jzQ;simp only;rw[ltF];rfl
   .rw[dF0 (by omega),kzm (fun h=>hl (by rw[h]))];rfl
 .rw[dF0 c0];rfl
def rwD (l:List Row)(i:Nat):Int:=match l[i]? with
 | some r=>if r.Row<0 then 12 else if 65536<=r.Row then 12 else if r.Height<0 then 1 else if 32767<r.Height then 1 else if i=0 then 0 else match l[i-1]? with
  | some q=>if r.Row<=q.Row then 6 else 0
  | none=>0
 | none=>0
theorem Kzq {s:Sheet}(hl:s.Rows.length<=1000):mzi (s,0)=some (er (fz (rwD s.Rows) (List.range s.Rows.length))):=by
 refine dz4 (F:=gze) (fun i=>(s,(i:Int))) er (List.range s.Rows.length) (rwD s.Rows) (by simp;omega) ?_ ?_
 .intro back i hi;have hi':i<s.Rows.length:=by simpa using hi
  unfold gze;simp only;rw[ltT hi',azc,idxG hi',aza,wr1 (by omega),List.getElem_range];generalize hv:rwD s.Rows i=v;unfold rwD at hv;rw[List.getElem?_eq_getElem hi']at hv;simp only at hv;by_cases c1:s.Rows[i].Row<0
  .rw[if_pos c1]at hv;subst hv;rw[dT0 c1];rfl
  rw[if_neg c1]at hv;rw[dF0 c1,azd];by_cases c2:65536<=s.Rows[i].Row
  .rw[if_pos c2]at hv;subst hv;rw[dT0 c2];rfl
  rw[if_neg c2]at hv;rw[dF0 c2,azd];by_cases c3:s.Rows[i].Height<0
  .rw[if_pos c3]at hv;subst hv;rw[dT0 c3];rfl
  rw[if_neg c3]at hv;rw[dF0 c3,azd];by_cases c4:32767<s.Rows[i].Height
  .rw[if_pos c4]at hv;subst hv;rw[dT0 c4];rfl
  rw[if_neg c4]at hv;rw[dF0 c4,azd];by_cases c5:i=0
  .rw[if_pos c5]at hv;subst hv;rw[dF0 (by omega)];rfl
  rw[if_neg c5,List.getElem?_eq_getElem (by omega:i-1<s.Rows.length)]at hv;simp only at hv;rw[dT0 (by omega),azc,CzF (by omega) (by omega),idxG (by omega:i-1<s.Rows.length),aza];by_cases c6:s.Rows[i].Row<=s.Rows[i-1].Row
  .rw[if_pos c6]at hv;subst hv;rw[dT0 c6];rfl
  .rw[if_neg c6]at hv;subst hv;rw[dF0 c6];rfl
 .intro back;unfold gze;simp only;rw[List.length_range,ltF];rfl
theorem Gzu {s:Sheet}(h:fewS s):∃r,bzw s=some r/\(r=0->okCs s.Cells/\grD s=true):=by
 unfold bzw;obtain⟨r,e1,e2⟩:=Fzo (l:=s.Cells) (by have:=h.cells;omega) h.cellE;rw[dF0 (by have:=h.rows;omega),azd,Kzq (by have:=h.rows;omega),aza,e1,KzS h];simp only[aza];by_cases c:fz (rwD s.Rows) (List.range s.Rows.length)=0
 .rw[c,er0];simp only[osum];by_cases c0:r=0
  .rw[dT0 c0];cases hg:grD s
   .exact⟨_,rfl,fun h=>by cases h⟩
   .exact⟨_,rfl,fun _=>⟨e2 c0,rfl⟩⟩
  .rw[dF0 c0];exact⟨_,rfl,fun h=>absurd h c0⟩
 .rw[er,if_neg c];exact⟨_,rfl,fun h=>absurd h c⟩
def txS (s:Sheet):List (List UInt8):=s.Cells.flatMap fun c=>bif !c.Has&&decide (c.V.Kind=2)then [c.V.S]else []
theorem tz9 (s:Sheet):(txS s).length<=s.Cells.length:=by
 have:=fzq (f:=fun c:Cell2=>bif !c.Has&&decide (c.V.Kind=2)then [c.V.S]else []) (K:=1) s.Cells (fun c _=>by cases !c.Has&&decide (c.V.Kind=2)<;>simp);unfold txS;omega
theorem Lz4 {s:Sheet}(h:s.Cells.length<=1000):kz4 s=some (txS s):=by
 have:=cz2 (F:=gzf) (fun z i=>(s,z,(i:Int))) id s.Cells (fun c=>bif !c.Has&&decide (c.V.Kind=2)then [c.V.S]else []) 1 [] (by omega) (fun c _=>by cases !c.Has&&decide (c.V.Kind=2)<;>simp) ?_ ?_
 .unfold kz4;rw[show mzk (s,[],0)=_ from this];rfl
 .intro back z i hi hz;unfold gzf;simp only;rw[ltT hi,azc,idxG hi];simp only[aza];rw[wr1 (by omega),appN (by simp at hz ⊢;omega),aza];cases s.Cells[i].Has<;>cases decide (s.Cells[i].V.Kind=2)<;>simp
 .intro back z _;unfold gzf;simp only;rw[ltF];rfl
theorem EzC {l:List Sheet}(hl:l.length<=1000)(h:∀s∈l,s.Cells.length<=1000):izv l=some (l.flatMap txS):=by
 have:=cz2 (F:=hz3) (fun z i=>(l,z,(i:Int))) id l txS 1000 [] (by omega) (fun s hs=>by have:=tz9 s;have:=h s hs;omega) ?_ ?_
 .unfold izv;rw[show nzJ (l,[],0)=_ from this];rfl
 .intro back z i hi hz;have h1:=h _ (List.getElem_mem hi);have h2:=tz9 l[i];unfold hz3;simp only;rw[ltT hi,azc,idxG hi,aza,Lz4 h1,aza,wr1 (by omega),appN (by simp at hz ⊢;omega),aza]
 .intro back z _;unfold hz3;simp only;rw[ltF];rfl
theorem build_l3 {x:List (List UInt8)}{t:Table}{n:Nat}(hn:n<x.length)(ht:t.Texts.length<=100000):∃k:Nat,ozk (x,t,(n:Int),0)=some (k:Int)/\k<=t.Texts.length:=by
 have:=scan (F:=fzC) (fun(_:Unit) i=>(x,t,(n:Int),(i:Int))) t.Texts.length (fun _ _=>True) (fun y=>∃k:Nat,y=(k:Int)/\k<=t.Texts.length) (by omega) ?_ ?_ () trivial
 .obtain⟨y,e,k,rfl,hk⟩:=this;exact⟨k,e,hk⟩
 .intro back _ i hi _;unfold fzC;simp only;rw[ltT hi,azc,idxG hi,idxG hn,aza,aza,wr1 (by omega)];cases decide (t.Texts[i]=x[n])
  .exact .inr ⟨(),rfl,trivial⟩
  .exact .inl ⟨_,rfl,i,rfl,by omega⟩
 .intro back _ _;unfold fzC;simp only;rw[ltF];exact⟨_,rfl,_,rfl,Nat.le_refl _⟩
theorem build_tot {x:List (List UInt8)}(hx:x.length<=50000)(hs:∀s∈x,s.length<=4000000):∃t,jzk x=some t:=by
 have l1:=czz (F:=fzA) (fun i=>(x,⟨[],0⟩,(i:Int))) x.length (fun _=>True) (fun z=>∃q,z = .inr q) (.inl ((),⟨[],0⟩)) (by omega) ?_ ?_
 .obtain⟨z,e1,hz⟩:=l1;unfold jzk;rw[show ozi (x,⟨[],0⟩,0)=_ from e1,aza];rcases hz with⟨q,rfl⟩|⟨rfl,-⟩
  .exact⟨_,rfl⟩
  .simp only[osum];have l2:=scan (F:=fzB) (fun(s:List (List UInt8)×Table×Table×List Int) i=>(s.1,x,s.2.1,s.2.2.1,s.2.2.2,(i:Int))) x.length (fun s i=>s.1.length<=i/\s.2.2.2.length<=i) (fun _=>True) (by omega) ?_ ?_ ([],⟨[],0⟩,⟨[],0⟩,[]) (by simp)
   .obtain⟨y,e2,-⟩:=l2;rw[show ozj ([],x,⟨[],0⟩,⟨[],0⟩,[],0)=_ from e2,aza];cases y<;>exact⟨_,rfl⟩
   .rintro back ⟨a,t,u,z⟩ i hi ⟨h1,h2⟩;simp only at h1 h2;obtain⟨k,e3,hk⟩:=build_l3 (x:=x) (t:=⟨a,u.Uses⟩) hi (by simp only;omega);unfold fzB;simp only;rw[ltT hi,azc,e3,aza,idxG hi];simp only[aza];rw[appN (by simp;omega),appN (by simp;omega),aza,aza,wr1 (by omega)];cases decide ((k:Int)=(a.length:Int))
    .exact .inr ⟨(_,_,_,_),rfl,by simp only;omega,by simp;omega⟩
    .cases decide (1024<=(k:Int))
     .exact .inr ⟨(_,_,_,_),rfl,by simp;omega,by simp;omega⟩
     .exact .inl ⟨_,rfl,trivial⟩
   .rintro back ⟨a,t,u,z⟩ _;unfold fzB;simp only;rw[ltF];exact⟨_,rfl,trivial⟩
 .intro back i hi;unfold fzA;simp only;rw[ltT hi,azc,idxG hi,aza,fz0 (hs _ (List.getElem_mem hi)),aza,wr1 (by omega)];cases decide ((azZ x[i]).2=0)
  .exact .inr ⟨_,rfl,_,rfl⟩
  .exact .inl ⟨rfl,trivial⟩
 .intro back;unfold fzA;simp only;rw[ltF];rfl
theorem qz1 {a b:List (List UInt8)}(h:b.length<=1000000000):ezP (a,b)=some (eqX a b):=by
 unfold ezP;by_cases hl:a.length=b.length
 .rw[dT0 (by simp only;omega),show(!true)=false from rfl,azd];have:=lz9 (F:=izS) (fun i=>(a,b,(i:Int))) a.length (eq2 a b) (.inr false) (.inl ()) (by omega) ?_ ?_
  .rw[show ozP (a,b,0)=_ from this,aza,CzR hl];cases eqX a b<;>rfl
  .intro back i hi;unfold izS;simp only;rw[ltT hi,azc,idxG hi,idxG (by omega:i<b.length),aza,aza,wr1 (by omega),tz3 hi (by omega)];by_cases c:a[i]=b[i]
   .rw[dT0 c,dz3.2 c];rfl
   .rw[dF0 c,kzm c];rfl
  .intro back;unfold izS;simp only;rw[ltF];rfl
 .rw[dF0 (by simp only;omega),kzm (fun h=>hl (by rw[h]))];rfl
structure okB (b:Book):Prop where
 len:b.Sheets.length=b.Globals.Sheets.length
 one:1<=b.Sheets.length
 most:b.Sheets.length<=8
 names:∀e∈b.Globals.Names,BzG e
 cells:∀s∈b.Sheets,okCs s.Cells
theorem check_l2 {b:Book}(h:fewB b):∃n,izs (b,0,0)=some n:=by
 have:=scan (F:=ezZ) (fun(s:Int) i=>(b,s,(i:Int))) b.Sheets.length (fun _ _=>True) (fun _=>True) (by have:=h.sheets;omega) ?_ ?_ 0 trivial
 .obtain⟨y,e,-⟩:=this;exact⟨y,e⟩
 .intro back s i hi _;unfold ezZ;simp only;rw[ltT hi,azc,idxG hi,aza,wr1 (by have:=h.sheets;omega)];exact .inr ⟨_,rfl,trivial⟩
 .intro back s _;unfold ezZ;simp only;rw[ltF];exact⟨_,rfl,trivial⟩
theorem check_l4 {b:Book}(h:fewB b){n:Nat}(hn:n<b.Sheets.length):∃z,nzj (b,(n:Int),0)=some z/\((∃e,z = .inr e/\e≠0)\/z = .inl ()):=by
 have hc:=(h.sheet _ (List.getElem_mem hn)).cells;obtain⟨z,e1,e2⟩:=czz (F:=ez1) (fun i=>(b,(n:Int),(i:Int))) b.Sheets[n].Cells.length (fun _=>True) (fun z=>∃e,z = .inr e/\e≠0) (.inl ()) (by omega)
  (by
   intro back i hi;unfold ez1;simp only;rw[idxG hn];simp only[aza];rw[ltT hi,azc,idxG hi,aza,wr1 (by omega)];cases decide ((b.Globals.XFs.length:Int)<=b.Sheets[n].Cells[i].XF)
   .exact .inl ⟨rfl,trivial⟩
   .cases decide (b.Sheets[n].Cells[i].XF=0)
    .exact .inr ⟨_,rfl,_,rfl,by decide⟩
    .exact .inl ⟨rfl,trivial⟩)
  (by
   intro back;unfold ez1;simp only;rw[idxG hn];simp only[aza];rw[ltF];rfl)
 refine⟨z,e1,?_⟩;rcases e2 with e2|⟨e2,-⟩
 .exact .inl e2
 .exact .inr e2
theorem Mzj {b:Book}(h:fewB b)(hs:IzO b):∃r,gzd b=some r/\(r=0->okB b):=by
 have hl:=h.sheets;obtain⟨g,g1,g2⟩:=yzD h.glob hs.1 hs.2.1 hs.2.2;obtain⟨n,n1⟩:=check_l2 h;obtain⟨z,e1,e2⟩:=czz (F:=ezY) (fun i=>(b,(i:Int))) b.Sheets.length (fun i=>∀hi:i<b.Sheets.length,okCs b.Sheets[i].Cells) (fun z=>∃e,z = .inr e/\e≠0) (.inl ()) (by omega)
  (by
   intro back i hi;obtain⟨r,f1,f2⟩:=Gzu (h.sheet _ (List.getElem_mem hi));unfold ezY;simp only;rw[ltT hi,azc,idxG hi,aza,f1,aza,wr1 (by omega)];by_cases c:r=0
   .rw[dT0 c];exact .inl ⟨rfl,fun _=>(f2 c).1⟩
   .rw[dF0 c];exact .inr ⟨_,rfl,_,rfl,c⟩)
  (by
   intro back;unfold ezY;simp only;rw[ltF];rfl)
 obtain⟨q,q1,q2⟩:=czz (F:=ez0) (fun i=>(b,(i:Int))) b.Sheets.length (fun _=>True) (fun z=>∃e,z = .inr e/\e≠0) (.inl ()) (by omega)
  (by
   intro back i hi;obtain⟨w,w1,w2⟩:=check_l4 h hi;unfold ez0;simp only;rw[ltT hi,azc,w1,aza,wr1 (by omega)];rcases w2 with⟨e,rfl,he⟩|rfl
   .exact .inr ⟨_,rfl,_,rfl,he⟩
   .exact .inl ⟨rfl,trivial⟩)
  (by
   intro back;unfold ez0;simp only;rw[ltF];rfl)
 have cl:∀s∈b.Sheets,s.Cells.length<=120:=fun s hs=>(h.sheet s hs).cells
 have tl:=fzq (f:=txS) (K:=120) b.Sheets fun s hs=>by have:=tz9 s;have:=cl s hs;omega
 obtain⟨t,t1⟩:=build_tot (x:=b.Sheets.flatMap txS) (by omega) (by
  intro x hx;obtain⟨s,hs,hx⟩:=List.mem_flatMap.1 hx;unfold txS at hx;obtain⟨c,hc,hx⟩:=List.mem_flatMap.1 hx;have:=((h.sheet s hs).cellE c hc).2;cases hd:!c.Has&&decide (c.V.Kind=2)
  .rw[hd]at hx;cases hx
  .rw[hd]at hx;simp at hx;rw[hx];omega)
 unfold gzd;rw[g1,aza];by_cases c0:g=0
 .rw[dT0 c0,show(!true)=false from rfl,azd];by_cases c1:b.Sheets.length=b.Globals.Sheets.length
  .rw[dT0 (by omega),show(!true)=false from rfl,azd,show nzi (b,0)=_ from e1,aza];rcases e2 with⟨e,rfl,he⟩|⟨rfl,e2⟩
   .exact⟨_,rfl,fun h=>absurd h he⟩
   .simp only[osum];have ok:okB b:=⟨c1,by have:=(g2 c0).1;omega,by have:=(g2 c0).2.1;omega,(g2 c0).2.2,fun s hs=>by
     obtain⟨i,hi,rfl⟩:=List.mem_iff_getElem.1 hs;exact e2 i hi hi⟩
    rw[n1,aza,show izt (b,0)=_ from q1,aza,EzC (by omega) (fun s hs=>by have:=cl s hs;omega),aza,t1,aza,qz1 (by have:=h.glob.texts;omega)];cases decide (4096<n)
    .rw[azd];rcases q2 with⟨e,rfl,he⟩|⟨rfl,-⟩
     .exact⟨_,rfl,fun h=>absurd h he⟩
     .simp only[osum,aza];obtain⟨r,hr⟩:=dzh (b:=!decide (t.2.2=0)) (x:=some (3:Int)) (y:=brn (!eqX t.1.Texts b.Globals.Texts.Texts) (some 3) (brn (!decide (t.1.Uses=b.Globals.Texts.Uses)) (some 3) (some 0))) ⟨_,rfl⟩ (dzh ⟨_,rfl⟩ (dzh ⟨_,rfl⟩ ⟨_,rfl⟩));exact⟨r,hr,fun _=>ok⟩
    .exact⟨_,rfl,fun h=>by cases h⟩
  .rw[dF0 (by omega)];exact⟨_,rfl,fun h=>by cases h⟩
 .rw[dF0 c0];exact⟨_,rfl,fun h=>absurd h c0⟩
theorem fzt {A X:Type}{F:(X->Option (Unit⊕Bool))->X->Option (Unit⊕Bool)}(mk:Nat->X)(l m:List A)(hl:l.length=m.length)(hn:l.length<=1000000000)
 (h:∀back i (h1:i<l.length) (h2:i<m.length),F back (mk i)=brn (!eqX l[i] m[i]) (some (.inr false)) (back (mk (i+1)))) (hend:∀back,F back (mk l.length)=some (.inl ())) :
 iter F big (mk 0)=some (bif eqX l m then .inl ()else .inr false):=by
 rw[<-CzR hl];refine lz9 mk l.length (eq2 l m) _ _ hn (fun back i hi=>?_) hend;have h2:i<m.length:=by omega
 rw[h back i hi h2,tz3 hi h2];cases eqX l[i] m[i]<;>rfl
theorem gz3 {A:Type}{l m:List A}(h:¬l.length=m.length):eqX l m=false:=kzm fun e=>h (by rw[e])
theorem Jzf {A:Type}[DecidableEq A](a b:A):eqX a b=decide (a=b):=by rw[Bool.eq_iff_iff,dz3,decide_eq_true_eq]
def sm1 (x y:Node2):Bool:=decide (x.deep=y.deep)&&(decide (x.e.Kind=y.e.Kind)&&(decide (x.e.V=y.e.V)&&(decide (x.e.A=y.e.A)&&(decide (x.e.Sheet=y.e.Sheet)&&(decide (x.e.Op=y.e.Op)&&decide (x.e.Kids.length=y.e.Kids.length))))))
theorem valE (a b:Val):(decide (a.Kind=b.Kind)&&(decide (a.N.M=b.N.M)&&(decide (a.N.S=b.N.S)&&(decide (a.S=b.S)&&(decide (a.B=b.B)&&decide (a.E=b.E))))))=decide (a=b):=by
 obtain⟨k,⟨m,s⟩,t,bb,e⟩:=a;obtain⟨k',⟨m',s'⟩,t',bb',e'⟩:=b;rw[Bool.eq_iff_iff];simp[and_assoc]
theorem areaE (a b:Area):(decide (a.A.Row=b.A.Row)&&(decide (a.A.Col=b.A.Col)&&(decide (a.A.RelRow=b.A.RelRow)&&(decide (a.A.RelCol=b.A.RelCol)&&(decide (a.B.Row=b.B.Row)&&(decide (a.B.Col=b.B.Col)&&(decide (a.B.RelRow=b.B.RelRow)&&decide (a.B.RelCol=b.B.RelCol))))))))=decide (a=b):=by
 obtain⟨⟨a1,a2,a3,a4⟩,⟨b1,b2,b3,b4⟩⟩:=a;obtain⟨⟨c1,c2,c3,c4⟩,⟨d1,d2,d3,d4⟩⟩:=b;rw[Bool.eq_iff_iff];simp[and_assoc]
theorem cellE (a b:Cell):(decide (a.Row=b.Row)&&decide (a.Col=b.Col))=decide (a=b):=by
 obtain⟨k,m⟩:=a;obtain⟨k',m'⟩:=b;rw[Bool.eq_iff_iff];simp
theorem sm1_is (x y:Node2):nzx (x,y)=some (sm1 x y):=by
 unfold nzx sm1;simp only[cond_false,valE,areaE];rw[brnA,brnA,brnA,brnA,brnA,brnA,show decide ((x.e.Kids.length:Int)=(y.e.Kids.length:Int))=decide (x.e.Kids.length=y.e.Kids.length) by simp only[decide_eq_decide];omega]
theorem sm1_refl (x:Node2):sm1 x x=true:=by unfold sm1;simp
def al2:List Node2->List Node2->Prop
 | [],[]=>True
 | x::l,y::m=>sm1 x y=true/\al2 l m
 | _,_=>False
theorem expr_ext {a b:Expr}(h1:a.Kind=b.Kind)(h2:a.V=b.V)(h3:a.A=b.A)(h4:a.Sheet=b.Sheet)(h5:a.Op=b.Op)(h6:a.Kids=b.Kids):a=b:=by
 cases a;cases b;simp at *;simp[h1,h2,h3,h4,h5,h6]
theorem pre_inj:∀(d:Nat) (k:Int) (a b:Expr) (r s:List Node2),tr d a->tr d b->al2 (pre d k a++r) (pre d k b++s)->a=b/\al2 r s
 | 0,_,_,_,_,_,h,_,_=>h.elim
 | d+1,k,a,b,r,s,ha,hb,h=>by
  simp only[pre,List.cons_append,al2]at h;obtain⟨h1,h2⟩:=h;unfold sm1 at h1;simp only[Bool.and_eq_true,decide_eq_true_eq]at h1;obtain⟨-,e1,e2,e3,e4,e5,e6⟩:=h1;have key:∀(l m:List Expr),l.length=m.length->(∀x∈l,tr d x)->(∀x∈m,tr d x)->al2 (l.flatMap (pre d (k+1))++r) (m.flatMap (pre d (k+1))++s)->l=m/\al2 r s:=by
   intro l;induction l with
   | nil =>
    intro m hl _ _ h;cases m with
    | nil=>exact⟨rfl,h⟩
    | cons _ _=>simp at hl
   | cons x l ih =>
    intro m hl t1 t2 h;cases m with
    | nil=>simp at hl
    | cons y m =>
     rw[List.flatMap_cons,List.flatMap_cons,List.append_assoc,List.append_assoc]at h;obtain⟨q1,q2⟩:=pre_inj d (k+1) x y _ _ (t1 x (by simp)) (t2 y (by simp)) h;obtain⟨q3,q4⟩:=ih m (by simpa using hl) (fun z hz=>t1 z (by simp[hz])) (fun z hz=>t2 z (by simp[hz])) q2;exact⟨by rw[q1,q3],q4⟩
  obtain⟨e7,h3⟩:=key _ _ e6 (fun x hx=>mzV ha hx) (fun x hx=>mzV hb hx) h2;exact⟨expr_ext e1 e2 e3 e4 e5 e7,h3⟩
theorem al2_get:∀{l m:List Node2},l.length=m.length->(∀i (h1:i<l.length) (h2:i<m.length),sm1 l[i] m[i]=true)->al2 l m
 | [],[],_,_=>trivial
 | [],_::_,h,_=>by simp at h
 | _::_,[],h,_=>by simp at h
 | x::l,y::m,h,k=>⟨k 0 (by simp) (by simp),al2_get (by simpa using h) fun i h1 h2=>k (i+1) (by simp;omega) (by simp;omega)⟩
theorem mzX {a b:Expr}(ha:fewE a)(hb:fewE b):iz2 (a,b)=some (eqX a b):=by
 obtain⟨a1,a2⟩:=ha;obtain⟨b1,b2⟩:=hb;unfold iz2 bzF;simp only[azj];rw[GzJ (by omega) a2,GzJ (by omega) b2,aza,aza];have l1:=Cz3 40 1 a a2;have l2:=Cz3 40 1 b b2;have inj:=fun h=>(pre_inj 40 1 a b [] [] a2 b2 h).1
 rw[List.append_nil,List.append_nil]at inj;have refl:a=b->pre 40 1 a=pre 40 1 b:=fun h=>by rw[h]
 generalize pre 40 1 a=l at l1 inj refl;generalize pre 40 1 b=m at l2 inj refl;by_cases hl:l.length=m.length
 .rw[dT0 (by omega),show(!true)=false from rfl,azd];have:=lz9 (F:=azC) (fun i=>(m,(),l,(l.length:Int),(i:Int))) l.length (fun i=>match l[i]?,m[i]? with|some x,some y=>sm1 x y|_,_=>true) (.inr false) (.inl ()) (by omega) ?_ ?_
  .rw[show bzy (m,(),l,(l.length:Int),0)=_ from this,aza];cases hq:(List.range l.length).all (fun i=>match l[i]?,m[i]? with|some x,some y=>sm1 x y|_,_=>true)
   .rw[kzm]
    .rfl
    .intro h;have:=refl h;subst this;rw[List.all_eq_false]at hq;obtain⟨i,hi,hq⟩:=hq;rw[List.getElem?_eq_getElem (List.mem_range.1 hi)]at hq;simp only[sm1_refl]at hq;exact hq trivial
   .rw[dz3.2 (inj (al2_get hl fun i h1 h2=>by
     have:=List.all_eq_true.1 hq i (List.mem_range.2 h1);rw[List.getElem?_eq_getElem h1,List.getElem?_eq_getElem h2]at this;exact this))];rfl
  .intro back i hi;have h2:i<m.length:=by omega
   unfold azC;simp only[azj];rw[ltT hi,azc,idxG hi,idxG h2,aza,aza,show nzx (⟨l[i].e,l[i].deep⟩,⟨m[i].e,m[i].deep⟩)=_ from sm1_is l[i] m[i],aza,wr1 (by omega),List.getElem?_eq_getElem hi,List.getElem?_eq_getElem h2];simp only;cases sm1 l[i] m[i]<;>rfl
  .intro back;unfold azC;simp only;rw[ltF];rfl
 .rw[dF0 (by omega),kzm (fun h=>hl (by rw[refl h]))];rfl
theorem groupE (a b:Group):(decide (a.Array=b.Array)&&(decide (a.A=b.A)&&(decide (a.B=b.B)&&eqX a.E b.E)))=eqX a b:=by
 rw[Bool.eq_iff_iff];simp only[Bool.and_eq_true,decide_eq_true_eq,dz3];cases a;cases b;simp
theorem cell2E (a b:Cell2):(decide (a.At=b.At)&&(decide (a.XF=b.XF)&&(decide (a.V=b.V)&&(decide (a.Has=b.Has)&&eqX a.E b.E))))=eqX a b:=by
 rw[Bool.eq_iff_iff];simp only[Bool.and_eq_true,decide_eq_true_eq,dz3];cases a;cases b;simp
theorem rowE (a b:Row):(decide (a.Row=b.Row)&&(decide (a.Height=b.Height)&&decide (a.Hidden=b.Hidden)))=eqX a b:=by
 rw[Bool.eq_iff_iff];simp only[Bool.and_eq_true,decide_eq_true_eq,dz3];cases a;cases b;simp
theorem placeE (a b:Place):(decide (a.Sheet=b.Sheet)&&(decide (a.At.Row=b.At.Row)&&decide (a.At.Col=b.At.Col)))=eqX a b:=by
 rw[Bool.eq_iff_iff];simp only[Bool.and_eq_true,decide_eq_true_eq,dz3];obtain⟨a,⟨a1,a2⟩⟩:=a;obtain⟨b,⟨b1,b2⟩⟩:=b;simp
theorem sheetE (a b:Sheet):(eqX a.Rows b.Rows&&(eqX a.Cells b.Cells&&eqX a.Groups b.Groups))=eqX a b:=by
 rw[Bool.eq_iff_iff];simp only[Bool.and_eq_true,dz3];cases a;cases b;simp
theorem globE (a b:Globals):(eqX a.Sheets b.Sheets&&(eqX a.Formats b.Formats&&(eqX a.XFs b.XFs&&(eqX a.Names b.Names&&(eqX a.Texts.Texts b.Texts.Texts&&(decide (a.Texts.Uses=b.Texts.Uses)&&eqX a.Chain b.Chain))))))=eqX a b:=by
 rw[Bool.eq_iff_iff];simp only[Bool.and_eq_true,dz3,decide_eq_true_eq];obtain⟨a1,a2,a3,a4,⟨a5,a6⟩,a7⟩:=a;obtain⟨b1,b2,b3,b4,⟨b5,b6⟩,b7⟩:=b;simp[and_assoc]
theorem bookE (a b:Book):(eqX a.Globals b.Globals&&eqX a.Sheets b.Sheets)=eqX a b:=by
 rw[Bool.eq_iff_iff];simp only[Bool.and_eq_true,dz3];cases a;cases b;simp
theorem Nz8 {a b:Cell2}(ha:fewE a.E)(hb:fewE b.E):rzX (a,b)=some (eqX a b):=by
 unfold rzX;simp only[cond_false,valE,cellE,azj];rw[mzX ha hb,aza,brnA,brnA,brnA,brnA,cell2E]
theorem Mzr {a b:Cell2}(ha:fewE a.E):nzk (a,b)=some (eqX a b):=by
 unfold nzk;simp only[cond_false,valE,cellE,azj];rw[nzM ha,aza,brnA,brnA,brnA,brnA,cell2E]
theorem MzQ {a b:Group}(ha:fewE a.E)(hb:fewE b.E):mzr (a,b)=some (eqX a b):=by
 unfold mzr;simp only[cond_false,cellE,azj];rw[mzX ha hb,aza,brnA,brnA,brnA,groupE]
theorem izM (b:Bool):(osum (bif b then .inl ()else .inr false:Unit⊕Bool) (fun _=>some true) fun y=>some y)=some b:=by cases b<;>rfl
theorem lenD {A:Type}{l m:List A}(h:l.length=m.length):decide ((l.length:Int)=(m.length:Int))=true:=dT0 (by omega)
theorem lenN {A:Type}{l m:List A}(h:¬l.length=m.length):decide ((l.length:Int)=(m.length:Int))=false:=dF0 (by omega)
def ltM (x y:Member):Bool:=decide (x.At.Col<y.At.Col)||decide (x.At.Col=y.At.Col)&&decide (x.At.Row<y.At.Row)
theorem ltM_iff {x y:Member}:ltM x y=true↔x.At.Col<y.At.Col\/x.At.Col=y.At.Col/\x.At.Row<y.At.Row:=by unfold ltM;simp
theorem tz7 {x y:Member}:ltM x y=false↔¬(x.At.Col<y.At.Col\/x.At.Col=y.At.Col/\x.At.Row<y.At.Row):=by
 rw[<-ltM_iff];simp
theorem or2 (a b:Int):mzW [a,b]=some (if a≠0 then a else b):=by
 unfold mzW;have this:rzl (0,[a,b],(([a,b]:List Int).length:Int),0)=some ((fun(r:Option Nat)=>match r with|some i=>.inr (([a,b]:List Int).getD i 0)|none=>.inl ()) _) :=
  kzo (F:=lzj) (fun i=>(0,[a,b],(([a,b]:List Int).length:Int),(i:Int))) (fun r=>match r with|some i=>.inr (([a,b]:List Int).getD i 0)|none=>.inl ()) [a,b] (fun y=>!decide (y=0)) (by simp)
  (fun back i hi=>by
   unfold lzj;simp only;rw[ltT hi,azc,idxG hi,aza,wr1 (by simp only[List.length_cons,List.length_nil]at hi;omega)];have hg:([a,b]:List Int).getD i 0=([a,b]:List Int)[i]:=by rw[List.getD_eq_getElem?_getD,List.getElem?_eq_getElem hi];rfl
   rw[hg];cases decide (([a,b]:List Int)[i]=0)<;>rfl)
  (fun back=>by
   unfold lzj;simp only;rw[ltF,azd])
 rw[this,aza];by_cases h1:a=0
 .by_cases h2:b=0<;>simp[h1,h2,List.findIdx?_cons,osum]
 .simp[h1,List.findIdx?_cons,osum]
theorem or2_lt (a b c d:Int):decide ((if cmpV a b≠0 then cmpV a b else cmpV c d)<0)=(decide (a<b)||decide (a=b)&&decide (c<d)):=by
 unfold cmpV;rcases Int.lt_trichotomy a b with h1|h1|h1
 .simp[h1]
 .rcases Int.lt_trichotomy c d with h2|h2|h2
  .simp[h1,h2]
  .simp[h1,h2]
  .have n1:¬c<d:=by omega
   simp[h1,h2,n1]
 .have n1:¬a<b:=by omega
  have n2:¬a=b:=by omega
  simp[h1,n1,n2]
theorem Gz3 (x y:Member):∃v,gzg (x,y)=some v/\decide (v<0)=ltM x y:=by
 refine⟨_,?_,or2_lt x.At.Col y.At.Col x.At.Row y.At.Row⟩;unfold gzg;simp only;rw[tz2,aza,tz2,aza,or2];rfl
theorem nthG {A:Type}{l:List A}{k:Nat}(h:k<l.length):nth l (0+k)=some l[k]:=by simp[nth]
theorem fz3 (m:Member):Member.mk m.At m.E=m:=rfl
def swp (d:List Member)(i j:Nat):List Member:=match d[i]?,d[j]? with
 | some x,some y=>(d.set i y).set j x
 | _,_=>d
theorem yzc {d:List Member}{i j:Nat}(hi:i<d.length)(hj:j<d.length):swp d i j=(d.set i d[j]).set j d[i]:=by
 unfold swp;rw[List.getElem?_eq_getElem hi,List.getElem?_eq_getElem hj]
theorem swp_len (d:List Member)(i j:Nat):(swp d i j).length=d.length:=by
 unfold swp;split<;>simp
theorem swp_perm {d:List Member}{i j:Nat}(hi:i<d.length)(hj:j<d.length):(swp d i j).Perm d:=by
 rw[yzc hi hj];exact List.set_set_perm hi hj
theorem tz8 {d:List Member}{i j:Nat}(hi:i<d.length)(hj:j<d.length)(k:Nat):(swp d i j)[k]?=if k=j then d[i]? else if k=i then d[j]? else d[k]?:=by
 rw[yzc hi hj,List.getElem?_set,List.getElem?_set,List.length_set,List.getElem?_eq_getElem hi,List.getElem?_eq_getElem hj];by_cases h1:k=j
 .subst h1;simp[hj]
 .rw[if_neg (by omega),if_neg h1];by_cases h2:k=i
  .subst h2;simp[hi]
  .rw[if_neg (by omega),if_neg h2]
structure Mv (a b:Nat) (d r:List Member):Prop where
 perm:r.Perm d
 out:∀k,k<a\/b<=k->r[k]?=d[k]?
 frm:∀k,a<=k->k<b->∃k',a<=k'/\k'<b/\r[k]?=d[k']?
theorem Mv.refl (a b:Nat)(d:List Member):Mv a b d d:=⟨.refl _,fun _ _=>rfl,fun k h1 h2=>⟨k,h1,h2,rfl⟩⟩
theorem Mv.trans {a b:Nat}{d r s:List Member}(h:Mv a b d r)(k:Mv a b r s):Mv a b d s :=
 ⟨k.perm.trans h.perm,fun i hi=>(k.out i hi).trans (h.out i hi),fun i h1 h2=>by
  obtain⟨j,j1,j2,j3⟩:=k.frm i h1 h2;obtain⟨n,n1,n2,n3⟩:=h.frm j j1 j2;exact⟨n,n1,n2,j3.trans n3⟩⟩
theorem Mv.wide {a b a' b':Nat}{d r:List Member}(h:Mv a b d r)(ha:a'<=a)(hb:b<=b'):Mv a' b' d r :=
 ⟨h.perm,fun i hi=>h.out i (by omega),fun i h1 h2=>by
  by_cases c:a<=i/\i<b
  .obtain⟨j,j1,j2,j3⟩:=h.frm i c.1 c.2;exact⟨j,by omega,by omega,j3⟩
  .exact⟨i,h1,h2,h.out i (by omega)⟩⟩
theorem Mv.len {a b:Nat}{d r:List Member}(h:Mv a b d r):r.length=d.length:=h.perm.length_eq
theorem Mv.swp {a b i j:Nat}{d:List Member}(hi:a<=i)(hi':i<b)(hj:a<=j)(hj':j<b)(hb:b<=d.length):Mv a b d (swp d i j) :=
 ⟨swp_perm (by omega) (by omega),fun k hk=>by rw[tz8 (by omega) (by omega),if_neg (by omega),if_neg (by omega)],fun k h1 h2=>by
  rw[tz8 (by omega) (by omega)];by_cases c1:k=j
  .exact⟨i,hi,hi',if_pos c1⟩
  .by_cases c2:k=i
   .exact⟨j,hj,hj',by rw[if_neg c1,if_pos c2]⟩
   .exact⟨k,h1,h2,by rw[if_neg c1,if_neg c2]⟩⟩
def Srt (a b:Nat)(d:List Member):Prop:=∀i j,a<=i->i<j->j<b->∀x y,d[i]?=some x->d[j]?=some y->ltM y x=false
theorem Srt.one {a b:Nat}{d:List Member}(h:b<=a+1):Srt a b d:=fun i j h1 h2 h3=>by omega
theorem Srt.same {a b:Nat}{d r:List Member}(h:Srt a b d)(k:∀i,a<=i->i<b->r[i]?=d[i]?):Srt a b r:=fun i j h1 h2 h3 x y hx hy =>
 h i j h1 h2 h3 x y (by rw[<-k i h1 (by omega)];exact hx) (by rw[<-k j (by omega) h3];exact hy)
theorem half {i j:Nat}(h:i+j<=1000000000):i64.wrap ((u64.wrap (i64.wrap ((i:Int)+(j:Int)))).fdiv 2)=(((i+j)/2:Nat):Int):=by
 rw[azH (n:=(i:Int)+(j:Int)) (by omega) (by omega),wu64,show((i:Int)+(j:Int))%18446744073709551616=(i:Int)+(j:Int) by omega,Int.fdiv_eq_ediv_of_nonneg _ (by omega),azH (by omega) (by omega)];omega
theorem wadd {i j:Nat}(h:i+j<=1000000000):i64.wrap ((i:Int)+(j:Int))=((i+j:Nat):Int):=by rw[azH (by omega) (by omega)];omega
theorem wsub {i j:Nat}(h:j<=i)(h1:i<=1000000000):i64.wrap ((i:Int)-(j:Int))=((i-j:Nat):Int):=by rw[azH (by omega) (by omega)];omega
theorem pzt {i:Nat}(h:1<=i)(h1:i<=1000000000):i64.wrap ((i:Int)-1)=((i-1:Nat):Int):=CzF (by omega) h1
theorem FzU {d:List Member}{a b n:Nat}(h1:a+n<=b)(h2:b+n<=d.length)(hd:d.length<=100000):
 ∃r,azU (d,(a:Int),(b:Int),(n:Int),())=some r/\Mv a (b+n) d r /\
  ∀k,r[k]?=if a<=k/\k<a+n then d[k-a+b]? else if b<=k/\k<b+n then d[k-b+a]? else d[k]?:=by
 have:=scan (F:=az9) (fun(s:List Member) i=>(s,(a:Int),(b:Int),(n:Int),(i:Int))) n
  (fun s i=>Mv a (b+n) d s/\∀k,s[k]?=if a<=k/\k<a+i then d[k-a+b]? else if b<=k/\k<b+i then d[k-b+a]? else d[k]?)
  (fun r=>Mv a (b+n) d r/\∀k,r[k]?=if a<=k/\k<a+n then d[k-a+b]? else if b<=k/\k<b+n then d[k-b+a]? else d[k]?) (by omega) ?_ ?_ d
  ⟨.refl _ _ _,fun k=>by rw[if_neg (by omega),if_neg (by omega)]⟩
 .obtain⟨r,e1,e2⟩:=this;refine⟨r,?_,e2⟩;unfold azU;rw[show czk (d,(a:Int),(b:Int),(n:Int),0)=_ from e1];rfl
 .rintro back s i hi ⟨hm,hg⟩;right;have hl:=hm.len;have ha:a+i<s.length:=by omega
  have hb:b+i<s.length:=by omega
  refine⟨swp s (a+i) (b+i),?_,?_,?_⟩
  .unfold az9;simp only[azj,fz3];rw[ltT hi,azc,wadd (by omega),wadd (by omega)];simp only[inbG ha,inbG hb,nthG ha,nthG hb,aza,List.length_set];rw[nthG (by simpa using hb),aza,wr1 (by omega),yzc ha hb];simp only[Nat.zero_add]
  .exact hm.trans (.swp (by omega) (by omega) (by omega) (by omega) (by omega))
  .intro k;rw[tz8 ha hb,hg,hg,hg]
   (repeat' split)<;>first|(exfalso;omega)|exact congrArg (fun i=>d[i]?) (by omega)
 .rintro back s ⟨hm,hg⟩;unfold az9;simp only;rw[ltF];exact⟨_,rfl,hm,hg⟩
def rotI (m i j k:Nat):Nat:=if m-i<=k/\k<m-i+j then k+i else if m-i+j<=k/\k<m+j then k-j else k
theorem wzS:∀(s N m i j:Nat) (d:List Member),i+j<=s->s<N->0<i->0<j->i<=m->m+j<=d.length->d.length<=100000 ->
 ∃y,∃z:Nat,iter bzj N (d,(m:Int),(),(i:Int),(j:Int))=some y/\0<z/\y.1=(z:Int)/\z<=m/\m+z<=d.length/\z<=i/\z<=j /\
  Mv (m-i) (m+j) d y.2/\(∀k,k<m-z\/m+z<=k->y.2[k]?=d[rotI m i j k]?)/\(∀k,m-z<=k->k<m->y.2[k+z]?=d[rotI m i j k]?/\y.2[k]?=d[rotI m i j (k+z)]?)
 | _,0,_,_,_,_,_,h,_,_,_,_,_=>absurd h (by omega)
 | 0,_,_,_,_,_,h,_,h1,_,_,_,_=>absurd h (by omega)
 | s+1,N+1,m,i,j,d,hs,hN,hi,hj,hm,hb,hd=>by
  rw[azz];generalize hS:iter bzj N=S;unfold bzj;simp only;by_cases c:i=j
  .subst c;rw[dT0 rfl];refine⟨_,i,rfl,hi,rfl,hm,hb,Nat.le_refl _,Nat.le_refl _,.refl _ _ _,fun k hk=>?_,fun k h1 h2=>⟨?_,?_⟩⟩
   .unfold rotI;rw[if_neg (by omega),if_neg (by omega)]
   .unfold rotI;rw[if_pos (by omega)]
   .unfold rotI;rw[if_neg (by omega),if_pos (by omega)];simp only;congr 1;omega
  .rw[dF0 (by omega),show(!false)=true from rfl,azc];by_cases c2:j<i
   .obtain⟨r,r1,r2,r3⟩:=FzU (d:=d) (a:=m-i) (b:=m) (n:=j) (by omega) hb hd;rw[dT0 (by omega),azc,wsub hm (by omega),r1,aza,wsub (by omega) (by omega)];have hl:=r2.len;obtain⟨y,z,y1,y2,y3,y4,y5,y6,y7,y8,y9,y10⟩:=wzS s N m (i-j) j r (by omega) (by omega) (by omega) hj (by omega) (by omega) (by omega);rw[hS]at y1;refine⟨y,z,y1,y2,y3,y4,by omega,by omega,y7,r2.trans (y8.wide (by omega) (by omega)),fun k hk=>?_,fun k h1 h2=>⟨?_,?_⟩⟩
    .rw[y9 k hk,r3];unfold rotI
     (repeat' split)<;>first|(exfalso;omega)|exact congrArg (fun i=>d[i]?) (by omega)
    .rw[(y10 k h1 h2).1,r3];unfold rotI
     (repeat' split)<;>first|(exfalso;omega)|exact congrArg (fun i=>d[i]?) (by omega)
    .rw[(y10 k h1 h2).2,r3];unfold rotI
     (repeat' split)<;>first|(exfalso;omega)|exact congrArg (fun i=>d[i]?) (by omega)
   .obtain⟨r,r1,r2,r3⟩:=FzU (d:=d) (a:=m-i) (b:=m+j-i) (n:=i) (by omega) (by omega) hd;rw[dF0 (by omega),azd,wsub hm (by omega),wadd (by omega),wsub (by omega) (by omega),r1,aza,wsub (by omega) (by omega)];have hl:=r2.len;obtain⟨y,z,y1,y2,y3,y4,y5,y6,y7,y8,y9,y10⟩:=wzS s N m i (j-i) r (by omega) (by omega) hi (by omega) hm (by omega) (by omega);rw[hS]at y1;refine⟨y,z,y1,y2,y3,y4,by omega,y6,by omega,(r2.wide (by omega) (by omega)).trans (y8.wide (by omega) (by omega)),fun k hk=>?_,fun k h1 h2=>⟨?_,?_⟩⟩
    .rw[y9 k hk,r3];unfold rotI
     (repeat' split)<;>first|(exfalso;omega)|exact congrArg (fun i=>d[i]?) (by omega)
    .rw[(y10 k h1 h2).1,r3];unfold rotI
     (repeat' split)<;>first|(exfalso;omega)|exact congrArg (fun i=>d[i]?) (by omega)
    .rw[(y10 k h1 h2).2,r3];unfold rotI
     (repeat' split)<;>first|(exfalso;omega)|exact congrArg (fun i=>d[i]?) (by omega)
theorem rotate_is {d:List Member}{a m b:Nat}(h1:a<m)(h2:m<b)(hb:b<=d.length)(hd:d.length<=100000):
 ∃r,bzU (d,(a:Int),(m:Int),(b:Int),())=some r/\Mv a b d r/\∀k,r[k]?=d[rotI m (m-a) (b-m) k]?:=by
 obtain⟨y,z,y1,y2,y3,y4,y5,y6,y7,y8,y9,y10⟩:=wzS (b-a) big m (m-a) (b-m) d (by omega) (by rw[bzT];omega) (by omega) (by omega) (by omega) (by omega) hd;have hl:=y8.len;obtain⟨r,r1,r2,r3⟩:=FzU (d:=y.2) (a:=m-z) (b:=m) (n:=z) (by omega) (by omega) (by omega);unfold bzU;simp only;rw[wsub (by omega) (by omega),wsub (by omega) (by omega),show czD (d,(m:Int),(),((m-a:Nat):Int),((b-m:Nat):Int))=_ from y1,aza,y3,wsub y4 (by omega),r1,aza];refine⟨r,rfl,(y8.wide (by omega) (by omega)).trans (r2.wide (by omega) (by omega)),fun k=>?_⟩;rw[r3];by_cases c1:m-z<=k/\k<m-z+z
 .rw[if_pos c1,show k-(m-z)+m=k+z by omega];exact(y10 k (by omega) (by omega)).1
 .rw[if_neg c1];by_cases c2:m<=k/\k<m+z
  .rw[if_pos c2];have:=(y10 (k-z) (by omega) (by omega)).2;rw[show k-z+z=k by omega]at this;rw[show k-m+(m-z)=k-z by omega,this]
  .rw[if_neg c2];exact y9 k (by omega)
def leO (x y:Option Member):Prop:=∀a b,x=some a->y=some b->ltM b a=false
theorem leO_trans {x z:Option Member}{y:Member}(h:leO x (some y))(k:leO (some y) z):leO x z:=fun a b ha hb=>by
 have h1:=h a y ha rfl;have h2:=k y b rfl hb;rw[tz7]at *;omega
theorem Nzh {x y:Member}(h:ltM y x=false):leO (some x) (some y):=fun a b ha hb=>by cases ha;cases hb;exact h
theorem leO_lt {x y:Member}(h:ltM x y=true):leO (some x) (some y):=Nzh (by rw[ltM_iff]at h;rw[tz7];omega)
theorem Srt.le {a b:Nat}{d:List Member}(h:Srt a b d){i j:Nat}(h1:a<=i)(h2:i<j)(h3:j<b):leO d[i]? d[j]?:=h i j h1 h2 h3
theorem leO_refl (x:Option Member):leO x x:=fun a b ha hb=>by rw[ha]at hb;cases hb;rw[tz7];omega
theorem Srt.le' {a b:Nat}{d:List Member}(h:Srt a b d){i j:Nat}(h1:a<=i)(h2:i<=j)(h3:j<b):leO d[i]? d[j]?:=by
 by_cases c:i=j
 .subst c;exact leO_refl _
 .exact h.le h1 (by omega) h3
theorem tzM {x z:Option Member}{d:List Member}{k:Nat}(hk:k<d.length)(h:leO x d[k]?)(h2:leO d[k]? z):leO x z:=by
 rw[List.getElem?_eq_getElem hk]at h h2;exact leO_trans h h2
theorem lt_get {d:List Member}{i j:Nat}(hi:i<d.length)(hj:j<d.length)(h:ltM d[i] d[j]=true):leO d[i]? d[j]?:=by
 rw[List.getElem?_eq_getElem hi,List.getElem?_eq_getElem hj];exact leO_lt h
theorem le_get {d:List Member}{i j:Nat}(hi:i<d.length)(hj:j<d.length)(h:ltM d[j] d[i]=false):leO d[i]? d[j]?:=by
 rw[List.getElem?_eq_getElem hi,List.getElem?_eq_getElem hj];exact Nzh h
theorem ins_l2 {a i:Nat}:∀(n N j:Nat) (s:List Member),j-a<=n->n<N->a<=j->j<=i->i<s.length->s.length<=100000 ->
 (∀p q,a<=p->p<q->q<=i->p≠j->q≠j->leO s[p]? s[q]?)->(∀q,j<q->q<=i->leO s[j]? s[q]?) ->
 ∃r,iter az0 N (s,(a:Int),(),(j:Int))=some r/\Mv a (i+1) s r/\Srt a (i+1) r
 | _,0,_,_,_,h,_,_,_,_,_,_=>absurd h (by omega)
 | n,N+1,j,s,hn,hN,ha,hj,hi,hs,h1,h2=>by
  rw[azz];generalize hS:iter az0 N=S;unfold az0;simp only[azj,fz3];have done:(j=a\/leO s[j-1]? s[j]?)->Srt a (i+1) s:=by
   intro h p q hp hpq hq;by_cases c1:p=j
   .subst c1;exact h2 q hpq (by omega)
   .by_cases c2:q=j
    .subst c2;rcases h with h|h
     .omega
     .by_cases c3:p=q-1
      .subst c3;exact h
      .exact tzM (by omega:q-1<s.length) (h1 p (q-1) hp (by omega) (by omega) c1 (by omega)) h
    .exact h1 p q hp hpq (by omega) c1 c2
  by_cases c:a=j
  .rw[dF0 (by omega)];exact⟨s,rfl,.refl _ _ _,done (.inl c.symm)⟩
  .have hjl:j<s.length:=by omega
   have hjl':j-1<s.length:=by omega
   rw[dT0 (by omega),azc,pzt (by omega) (by omega)];simp only[inbG hjl,inbG hjl',nthG hjl,nthG hjl',aza,List.length_set];obtain⟨v,v1,v2⟩:=Gz3 s[j] s[j-1];rw[v1,aza,v2];cases hlt:ltM s[j] s[j-1]
   .exact⟨s,rfl,.refl _ _ _,done (.inr (le_get hjl' hjl hlt))⟩
   .rw[azc,nthG (by simpa using hjl'),aza];have he:swp s j (j-1)=(s.set (0+j) s[j-1]).set (0+(j-1)) s[j]:=by rw[yzc hjl hjl',Nat.zero_add,Nat.zero_add]
    rw[<-he];have hg:=tz8 hjl hjl';obtain⟨r,r1,r2,r3⟩:=ins_l2 (a:=a) (i:=i) (n-1) N (j-1) (swp s j (j-1)) (by omega) (by omega) (by omega) (by omega) (by rw[swp_len];exact hi) (by rw[swp_len];exact hs)
     (by
      intro p q hp hpq hq hp' hq';rw[hg,hg,if_neg hp',if_neg hq'];by_cases c1:p=j
      .subst c1;rw[if_pos rfl,if_neg (by omega)];exact h1 (p-1) q (by omega) (by omega) hq (by omega) (by omega)
      .rw[if_neg c1];by_cases c2:q=j
       .subst c2;rw[if_pos rfl];exact h1 p (q-1) hp (by omega) (by omega) c1 (by omega)
       .rw[if_neg c2];exact h1 p q hp hpq hq c1 c2)
     (by
      intro q hq hqi;rw[hg,hg,if_pos rfl,if_neg (by omega)];by_cases c2:q=j
      .subst c2;rw[if_pos rfl];exact lt_get hjl hjl' hlt
      .rw[if_neg c2];exact h2 q (by omega) hqi)
    exact⟨r,by rw[<-hS];exact r1,(Mv.swp (by omega) (by omega) (by omega) (by omega) (by omega)).trans r2,r3⟩
theorem Bza {a b:Nat}{d:List Member}(hab:a<=b)(hb:b<=d.length)(hd:d.length<=100000):
 ∃r,az6 (d,(a:Int),(b:Int),())=some r/\Mv a b d r/\Srt a b r:=by
 unfold az6;simp only;rw[wr1 (by omega)];by_cases c:a=b
 .subst c;have:bzv (d,(a:Int),(a:Int),(),((a+1:Nat):Int))=some d:=by
   show iter _ big _=_
   rw[bzT,azz];unfold azF;simp only;rw[dF0 (by omega)];rfl
  rw[this];exact⟨d,rfl,.refl _ _ _,.one (by omega)⟩
 .obtain⟨y,y1,y2,y3⟩:=scan (F:=azF) (fun(s:List Member) i=>(s,(a:Int),(b:Int),(),((a+1+i:Nat):Int))) (b-(a+1)) (fun s i=>Mv a b d s/\Srt a (a+1+i) s) (fun y=>Mv a b d y/\Srt a b y) (by omega)
   (by
    rintro back s i hi ⟨h1,h2⟩;right;have hl:=h1.len;obtain⟨r,r1,r2,r3⟩:=ins_l2 (a:=a) (i:=a+1+i) (i+1) big (a+1+i) s (by omega) (by rw[bzT];omega) (by omega) (by omega) (by omega) (by omega)
     (fun p q hp hpq hq hp' hq'=>h2.le hp hpq (by omega)) (fun q hq hq'=>by omega)
    unfold azF;simp only;rw[dT0 (by omega),azc,show bz5 (s,(a:Int),(),((a+1+i:Nat):Int))=_ from r1,aza,wr1 (by omega)];exact⟨r,rfl,h1.trans (r2.wide (by omega) (by omega)),r3⟩)
   (by
    rintro back s ⟨h1,h2⟩;unfold azF;simp only;rw[dF0 (by omega)];rw[show a+1+(b-(a+1))=b by omega]at h2;exact⟨_,rfl,h1,h2⟩) d ⟨.refl _ _ _,.one (by omega)⟩
  rw[show bzv (d,(a:Int),(b:Int),(),((a+1:Nat):Int))=_ from y1];exact⟨y,rfl,y2,y3⟩
theorem bin {X:Type}{F:(X->Option (Int×List Member))->X->Option (Int×List Member)}(mk:Nat->Nat->X)(d:List Member)(c:Nat->Bool){i0 j0:Nat}(h01:i0<=j0)(hj:j0<=100000)
 (h:∀back i j,i0<=i->i<j->j<=j0->F back (mk i j)=bif c ((i+j)/2)then back (mk ((i+j)/2+1) j)else back (mk i ((i+j)/2))) (hend:∀back i,F back (mk i i)=some ((i:Int),d)) :
 ∃r:Nat,i0<=r/\r<=j0/\(r=i0\/c (r-1)=true)/\(r=j0\/c r=false)/\iter F big (mk i0 j0)=some ((r:Int),d):=by
 have key:∀n N i j,j-i<=n->n<N->i0<=i->i<=j->j<=j0->(i=i0\/c (i-1)=true)->(j=j0\/c j=false) ->
  ∃r:Nat,i0<=r/\r<=j0/\(r=i0\/c (r-1)=true)/\(r=j0\/c r=false)/\iter F N (mk i j)=some ((r:Int),d):=by
  intro n;induction n with
  | zero =>
   intro N i j h1 h2 h3 h4 h5 h6 h7;obtain⟨N,rfl⟩:∃m,N=m+1:=⟨N-1,by omega⟩;have:i=j:=by omega
   subst this;exact⟨i,h3,h5,h6,h7,by rw[azz,hend]⟩
  | succ n ih =>
   intro N i j h1 h2 h3 h4 h5 h6 h7;obtain⟨N,rfl⟩:∃m,N=m+1:=⟨N-1,by omega⟩;by_cases e:i=j
   .subst e;exact⟨i,h3,h5,h6,h7,by rw[azz,hend]⟩
   .rw[azz,h _ i j h3 (by omega) h5];cases hc:c ((i+j)/2)with
    | true=>exact ih N ((i+j)/2+1) j (by omega) (by omega) (by omega) (by omega) h5 (.inr (by rw[Nat.add_sub_cancel];exact hc)) h7
    | false=>exact ih N i ((i+j)/2) (by omega) (by omega) h3 (by omega) (by omega) h6 (.inr hc)
 exact key (j0-i0) big i0 j0 (by omega) (by rw[bzT];omega) (by omega) h01 (by omega) (.inl rfl) (.inl rfl)
theorem up_l2 {S:List Member×Int×Int×Int×Unit->Option (List Member)}{d:List Member}{a i:Nat}(h1:a<i)(h2:i<=d.length)(hd:d.length<=100000):
 ∃r,bzJ S (d,(i:Int),(a:Int))=some r/\Mv a i d r/\∀t,r[t]?=if t=i-1 then d[a]? else if a<=t/\t<i-1 then d[t+1]? else d[t]?:=by
 have:=scan (F:=azO S) (fun(s:List Member) k=>(s,(i:Int),((a+k:Nat):Int))) (i-1-a) (fun s k=>Mv a i d s/\∀t,s[t]?=if t=a+k then d[a]? else if a<=t/\t<a+k then d[t+1]? else d[t]?)
  (fun r=>Mv a i d r/\∀t,r[t]?=if t=i-1 then d[a]? else if a<=t/\t<i-1 then d[t+1]? else d[t]?) (by omega) ?_ ?_ d ⟨.refl _ _ _,fun t=>by
   by_cases c:t=a
   .subst c;simp
   .rw[if_neg (by omega),if_neg (by omega)]⟩
 .obtain⟨y,y1,y2⟩:=this;exact⟨y,y1,y2⟩
 .rintro back s k hk ⟨hm,hg⟩;right;have hl:=hm.len;have h3:a+k<s.length:=by omega
  have h4:a+k+1<s.length:=by omega
  refine⟨swp s (a+k) (a+k+1),?_,hm.trans (.swp (by omega) (by omega) (by omega) (by omega) (by omega)),fun t=>?_⟩
  .unfold azO;simp only[azj,fz3];rw[pzt (by omega) (by omega),dT0 (by omega),azc,wr1 (by omega)];simp only[inbG h3,inbG h4,nthG h3,nthG h4,aza,List.length_set];rw[nthG (by simpa using h4),aza,yzc h3 h4];simp only[Nat.zero_add];rfl
  .rw[tz8 h3 h4,hg,hg,hg]
   (repeat' split)<;>first|(exfalso;omega)|exact congrArg (fun i=>d[i]?) (by omega)
 .rintro back s ⟨hm,hg⟩;unfold azO;simp only;rw[pzt (by omega) (by omega),dF0 (by omega)];refine⟨_,rfl,hm,fun t=>?_⟩;rw[hg]
  (repeat' split)<;>first|(exfalso;omega)|exact congrArg (fun i=>d[i]?) (by omega)
theorem down_l4 {S:List Member×Int×Int×Int×Unit->Option (List Member)}{d:List Member}{i m:Nat}(h1:i<=m)(h2:m<d.length)(hd:d.length<=100000):
 ∃r,bzL S (d,(i:Int),(m:Int))=some r/\Mv i (m+1) d r/\∀t,r[t]?=if t=i then d[m]? else if i<t/\t<=m then d[t-1]? else d[t]?:=by
 have:=scan (F:=azQ S) (fun(s:List Member) k=>(s,(i:Int),((m-k:Nat):Int))) (m-i) (fun s k=>Mv i (m+1) d s/\∀t,s[t]?=if t=m-k then d[m]? else if m-k<t/\t<=m then d[t-1]? else d[t]?)
  (fun r=>Mv i (m+1) d r/\∀t,r[t]?=if t=i then d[m]? else if i<t/\t<=m then d[t-1]? else d[t]?) (by omega) ?_ ?_ d ⟨.refl _ _ _,fun t=>by
   by_cases c:t=m
   .subst c;simp
   .rw[if_neg (by omega),if_neg (by omega)]⟩
 .obtain⟨y,y1,y2⟩:=this;exact⟨y,y1,y2⟩
 .rintro back s k hk ⟨hm,hg⟩;right;have hl:=hm.len;have h3:m-k<s.length:=by omega
  have h4:m-k-1<s.length:=by omega
  refine⟨swp s (m-k) (m-k-1),?_,hm.trans (.swp (by omega) (by omega) (by omega) (by omega) (by omega)),fun t=>?_⟩
  .unfold azQ;simp only[azj,fz3];rw[dT0 (by omega),azc,pzt (by omega) (by omega)];simp only[inbG h3,inbG h4,nthG h3,nthG h4,aza,List.length_set];rw[nthG (by simpa using h4),aza,yzc h3 h4,show m-(k+1)=m-k-1 by omega];simp only[Nat.zero_add]
  .rw[tz8 h3 h4,hg,hg,hg]
   (repeat' split)<;>first|(exfalso;omega)|exact congrArg (fun i=>d[i]?) (by omega)
 .rintro back s ⟨hm,hg⟩;unfold azQ;simp only;rw[dF0 (by omega)];refine⟨_,rfl,hm,fun t=>?_⟩;rw[hg]
  (repeat' split)<;>first|(exfalso;omega)|exact congrArg (fun i=>d[i]?) (by omega)
def ltI (d:List Member)(i j:Nat):Bool:=match d[i]?,d[j]? with
 | some x,some y=>ltM x y
 | _,_=>false
theorem BzA {d:List Member}{i j:Nat}(hi:i<d.length)(hj:j<d.length):ltI d i j=ltM d[i] d[j]:=by
 unfold ltI;rw[List.getElem?_eq_getElem hi,List.getElem?_eq_getElem hj]
theorem ltI_le {d:List Member}{i j:Nat}(hi:i<d.length)(hj:j<d.length)(h:ltI d i j=true):leO d[i]? d[j]?:=lt_get hi hj (by rw[<-BzA hi hj];exact h)
theorem ltI_ge {d:List Member}{i j:Nat}(hi:i<d.length)(hj:j<d.length)(h:ltI d i j=false):leO d[j]? d[i]?:=le_get hj hi (by rw[<-BzA hi hj];exact h)
theorem joinS {a m b:Nat}{d r s:List Member}(h1:Mv a m d r)(k1:Srt a m r)(h2:Mv m b r s)(k2:Srt m b s)(hx:∀p q,a<=p->p<m->m<=q->q<b->leO d[p]? d[q]?):Srt a b s:=by
 intro p q hp hpq hq
 show leO s[p]? s[q]?
 by_cases c1:q<m
 .rw[h2.out p (by omega),h2.out q (by omega)];exact k1.le hp hpq c1
 .by_cases c2:m<=p
  .exact k2.le c2 hpq hq
  .rw[h2.out p (by omega)];obtain⟨p',p1,p2,p3⟩:=h1.frm p hp (by omega);obtain⟨q',q1,q2,q3⟩:=h2.frm q (by omega) hq;rw[p3,q3,h1.out q' (by omega)];exact hx p' q' p1 p2 q1 q2
theorem sym_one {S:List Member×Int×Int×Int×Unit->Option (List Member)}{d:List Member}{a b:Nat}(hb:b<=d.length)(hab:a+1<b)(hd:d.length<=100000)(h2:Srt (a+1) b d):
 ∃r,(obnd (bzI S (d,(a:Int),(),((a+1:Nat):Int),(b:Int))) fun y=>obnd (bzJ S (y.2,y.1,(a:Int))) fun y=>some y)=some r/\Mv a b d r/\Srt a b r:=by
 have hal:a<d.length:=by omega
 obtain⟨i,i1,i2,i3,i4,i5⟩:=bin (F:=azN S) (fun i j=>(d,(a:Int),(),(i:Int),(j:Int))) d (fun h=>ltI d h a) (i0:=a+1) (j0:=b) (by omega) (by omega)
  (by
   intro back i j h1 h2 h3;have hh:(i+j)/2<d.length:=by omega
   unfold azN;simp only[azj,fz3];rw[ltT h2,azc,half (by omega)];simp only[inbG hal,inbG hh,nthG hal,nthG hh,aza];obtain⟨v,v1,v2⟩:=Gz3 d[(i+j)/2] d[a];rw[v1,aza,v2,<-BzA hh hal,wr1 (by omega)];cases ltI d ((i+j)/2) a<;>rfl)
  (by
   intro back i;unfold azN;simp only;rw[ltF];rfl)
 obtain⟨r,r1,r2,r3⟩:=up_l2 (S:=S) (d:=d) (a:=a) (i:=i) (by omega) (by omega) hd;rw[show bzI S (d,(a:Int),(),((a+1:Nat):Int),(b:Int))=_ from i5,aza,r1];refine⟨r,rfl,r2.wide (by omega) (by omega),?_⟩;have A:∀t,a+1<=t->t<i->leO d[t]? d[a]?:=fun t h3 h4=>by
  rcases i3 with h|h
  .omega
  .exact tzM (by omega:i-1<d.length) (h2.le' h3 (by omega) (by omega)) (ltI_le (by omega) hal h)
 have B:∀t,i<=t->t<b->leO d[a]? d[t]?:=fun t h3 h4=>by
  rcases i4 with h|h
  .omega
  .exact tzM (by omega:i<d.length) (ltI_ge (by omega) hal h) (h2.le' (by omega) h3 h4)
 intro p q hp hpq hq
 show leO r[p]? r[q]?
 rw[r3,r3];by_cases c1:p=i-1
 .rw[if_pos c1,if_neg (by omega),if_neg (by omega)];exact B q (by omega) hq
 .rw[if_neg c1];by_cases c2:p<i-1
  .rw[if_pos (by omega)];by_cases c3:q=i-1
   .rw[if_pos c3];exact A (p+1) (by omega) (by omega)
   .rw[if_neg c3];by_cases c4:q<i-1
    .rw[if_pos (by omega)];exact h2.le (by omega) (by omega) (by omega)
    .rw[if_neg (by omega)];exact h2.le (by omega) (by omega) hq
  .rw[if_neg (by omega),if_neg (by omega),if_neg (by omega)];exact h2.le (by omega) hpq hq
theorem sym_two {S:List Member×Int×Int×Int×Unit->Option (List Member)}{d:List Member}{a m:Nat}(hb:m+1<=d.length)(ham:a<m)(hd:d.length<=100000)(h1:Srt a m d):
 ∃r,(obnd (bzK S (d,(m:Int),(),(a:Int),(m:Int))) fun y=>obnd (bzL S (y.2,y.1,(m:Int))) fun y=>some y)=some r/\Mv a (m+1) d r/\Srt a (m+1) r:=by
 have hml:m<d.length:=by omega
 obtain⟨i,i1,i2,i3,i4,i5⟩:=bin (F:=azP S) (fun i j=>(d,(m:Int),(),(i:Int),(j:Int))) d (fun h=>!ltI d m h) (i0:=a) (j0:=m) (by omega) (by omega)
  (by
   intro back i j h1 h2 h3;have hh:(i+j)/2<d.length:=by omega
   unfold azP;simp only[azj,fz3];rw[ltT h2,azc,half (by omega)];simp only[inbG hml,inbG hh,nthG hml,nthG hh,aza];obtain⟨v,v1,v2⟩:=Gz3 d[m] d[(i+j)/2];rw[v1,aza,v2,<-BzA hml hh,wr1 (by omega)];cases ltI d m ((i+j)/2)<;>rfl)
  (by
   intro back i;unfold azP;simp only;rw[ltF];rfl)
 obtain⟨r,r1,r2,r3⟩:=down_l4 (S:=S) (d:=d) (i:=i) (m:=m) (by omega) (by omega) hd;rw[show bzK S (d,(m:Int),(),(a:Int),(m:Int))=_ from i5,aza,r1];refine⟨r,rfl,r2.wide (by omega) (by omega),?_⟩;have A:∀t,a<=t->t<i->leO d[t]? d[m]?:=fun t h3 h4=>by
  rcases i3 with h|h
  .omega
  .exact tzM (by omega:i-1<d.length) (h1.le' h3 (by omega) (by omega)) (ltI_ge hml (by omega) (by simpa using h))
 have B:∀t,i<=t->t<m->leO d[m]? d[t]?:=fun t h3 h4=>by
  rcases i4 with h|h
  .omega
  .exact tzM (by omega:i<d.length) (ltI_le hml (by omega) (by simpa using h)) (h1.le' (by omega) h3 h4)
 intro p q hp hpq hq
 show leO r[p]? r[q]?
 rw[r3,r3];by_cases c1:p=i
 .rw[if_pos c1,if_neg (by omega),if_pos (by omega)];exact B (q-1) (by omega) (by omega)
 .rw[if_neg c1];by_cases c2:i<p
  .rw[if_pos (by omega),if_neg (by omega),if_pos (by omega)];exact h1.le (by omega) (by omega) (by omega)
  .rw[if_neg (by omega)];by_cases c3:q=i
   .rw[if_pos c3];exact A p hp (by omega)
   .rw[if_neg c3];by_cases c4:i<q
    .rw[if_pos (by omega)];exact h1.le (by omega) (by omega) (by omega)
    .rw[if_neg (by omega)];exact h1.le (by omega) (by omega) (by omega)
theorem sym_is:∀(n N a m b:Nat) (d:List Member),b-a<=n->n<N->a<m->m<b->b<=d.length->d.length<=100000->Srt a m d->Srt m b d ->
 ∃r,iter azs N (d,(a:Int),(m:Int),(b:Int),())=some r/\Mv a b d r/\Srt a b r
 | _,0,_,_,_,_,_,h,_,_,_,_,_,_=>absurd h (by omega)
 | 0,_+1,_,_,_,_,h,_,_,_,_,_,_,_=>absurd h (by omega)
 | n+1,N+1,a,m,b,d,hn,hN,ham,hmb,hb,hd,h1,h2=>by
  rw[azz];have rc0:=fun a m b d h3 h4 h5 h6 h7 k1 k2=>sym_is n N a m b d h3 (by omega) h4 h5 h6 h7 k1 k2
  generalize iter azs N=S at rc0;unfold azs;simp only;rw[wsub (by omega) (by omega),wsub (by omega) (by omega),half (by omega)];by_cases c1:m-a=1
  .obtain rfl:m=a+1:=by omega
   rw[dT0 (by omega),azc];exact sym_one hb hmb hd h2
  by_cases c2:b-m=1
  .obtain rfl:b=m+1:=by omega
   rw[dF0 (by omega),azd,dT0 (by omega),azc];exact sym_two hb ham hd h1
  rw[dF0 (by omega),dF0 (by omega),azd,azd];generalize hmid:(a+b)/2=mid;have q1:a<mid:=by omega
  have q2:mid<b:=by omega
  rw[wadd (by omega),pzt (by omega) (by omega)];obtain⟨i0,j0,hs0,e0,e1,e2,e3,e4,e5⟩:∃i0 j0:Nat,azK S ((a:Int),(m:Int),(b:Int),(mid:Int),((mid+m:Nat):Int),decide ((mid:Int)<(m:Int)))=some ((i0:Int),(j0:Int)) /\
   i0<=j0/\a<=i0/\j0<=m/\j0<=mid/\mid+m-i0<=b/\m<=mid+m-j0:=by
   unfold azK;simp only;by_cases c:mid<m
   .rw[dT0 (by omega),azc,wsub (by omega) (by omega)];exact⟨mid+m-b,mid,rfl,by omega,by omega,by omega,by omega,by omega,by omega⟩
   .rw[dF0 (by omega),azd];exact⟨a,m,rfl,by omega,by omega,by omega,by omega,by omega,by omega⟩
  have edge1:i0=a\/mid+m-i0=b:=by
   unfold azK at hs0;simp only at hs0;by_cases c:mid<m
   .rw[dT0 (by omega),azc,wsub (by omega) (by omega)]at hs0;injection hs0 with hs0;injection hs0 with g1 g2;omega
   .rw[dF0 (by omega),azd]at hs0;injection hs0 with hs0;injection hs0 with g1 g2;omega
  have edge2:j0=m\/j0=mid:=by
   unfold azK at hs0;simp only at hs0;by_cases c:mid<m
   .rw[dT0 (by omega),azc,wsub (by omega) (by omega)]at hs0;injection hs0 with hs0;injection hs0 with g1 g2;omega
   .rw[dF0 (by omega),azd]at hs0;injection hs0 with hs0;injection hs0 with g1 g2;omega
  rw[hs0,aza];simp only;obtain⟨st,s1,s2,s3,s4,s5⟩:=bin (F:=azR S) (fun i j=>(d,(),(i:Int),(j:Int),((mid+m-1:Nat):Int))) d (fun h=>!ltI d (mid+m-1-h) h) (i0:=i0) (j0:=j0) e0 (by omega)
   (by
    intro back i j h1 h2 h3;have hh:(i+j)/2<d.length:=by omega
    have hk:mid+m-1-(i+j)/2<d.length:=by omega
    unfold azR;simp only[azj,fz3];rw[ltT h2,azc,half (by omega),wsub (by omega) (by omega)];simp only[inbG hk,inbG hh,nthG hk,nthG hh,aza];obtain⟨v,v1,v2⟩:=Gz3 d[mid+m-1-(i+j)/2] d[(i+j)/2];rw[v1,aza,v2,<-BzA hk hh,wr1 (by omega)];cases ltI d (mid+m-1-(i+j)/2) ((i+j)/2)<;>rfl)
   (by
    intro back i;unfold azR;simp only;rw[ltF];rfl)
  rw[show czs S (d,(),(i0:Int),(j0:Int),((mid+m-1:Nat):Int))=_ from s5,aza];simp only;rw[wsub (by omega) (by omega)];generalize hen:mid+m-st=en;have z1:m<=en:=by omega
  have z2:en<=b:=by omega
  have z3:st<=m:=by omega
  have z4:st<=mid:=by omega
  have z5:mid<=en:=by omega
  obtain⟨r0,g1,g2,g3⟩:∃r,(obnd (bza S ((m:Int),(st:Int),(en:Int))) fun y_1=>bzH S (d,(m:Int),(),(st:Int),(en:Int),y_1))=some r/\Mv st en d r/\∀k,r[k]?=d[rotI m (m-st) (en-m) k]?:=by
   unfold bza bzH;simp only;have same:(st=m\/m=en)->∀k,d[k]?=d[rotI m (m-st) (en-m) k]?:=by
    intro h k;unfold rotI
    (repeat' split)<;>first|(exfalso;omega)|exact congrArg (fun i=>d[i]?) (by omega)
   by_cases c3:st<m
   .rw[dT0 (by omega),azc,aza];by_cases c4:m<en
    .rw[dT0 (by omega),azc];obtain⟨r,r1,r2,r3⟩:=rotate_is (d:=d) c3 c4 (by omega) hd;exact⟨r,by rw[r1];rfl,r2,r3⟩
    .rw[dF0 (by omega),azd];exact⟨d,rfl,.refl _ _ _,same (by omega)⟩
   .rw[dF0 (by omega),azd,aza,azd];exact⟨d,rfl,.refl _ _ _,same (by omega)⟩
  have hl0:=g2.len;cases hb7:bza S ((m:Int),(st:Int),(en:Int))with
  | none=>rw[hb7]at g1;cases g1
  | some v =>
   rw[hb7,aza]at g1;rw[aza,g1,aza];have L1:∀k,a<=k->k<st->r0[k]?=d[k]?:=fun k k1 k2=>g2.out k (by omega)
   have R1:∀k,st<=k->k<mid->r0[k]?=d[k-st+m]?:=fun k k1 k2=>by
    rw[g3];unfold rotI;rw[if_pos (by omega)];exact congrArg (fun i=>d[i]?) (by omega)
   have L2:∀k,mid<=k->k<en->r0[k]?=d[k-mid+st]?:=fun k k1 k2=>by
    rw[g3];unfold rotI;rw[if_neg (by omega),if_pos (by omega)];exact congrArg (fun i=>d[i]?) (by omega)
   have R2:∀k,en<=k->k<b->r0[k]?=d[k]?:=fun k k1 k2=>g2.out k (by omega)
   have A:∀p q,a<=p->p<st->en<=q->q<b->leO d[p]? d[q]?:=fun p q p1 p2 p3 p4=>by
    rcases s3 with h|h
    .omega
    .have:=ltI_ge (by omega) (by omega) (show ltI d (mid+m-1-(st-1)) (st-1)=false by simpa using h);rw[show mid+m-1-(st-1)=en by omega]at this;exact tzM (by omega:st-1<d.length) (h1.le' p1 (by omega) (by omega)) (tzM (by omega:en<d.length) this (h2.le' (by omega) p3 p4))
   have B:∀p q,m<=p->p<en->st<=q->q<m->leO d[p]? d[q]?:=fun p q p1 p2 p3 p4=>by
    rcases s4 with h|h
    .omega
    .have:=ltI_le (by omega) (by omega) (show ltI d (mid+m-1-st) st=true by simpa using h);rw[show mid+m-1-st=en-1 by omega]at this;exact tzM (by omega:en-1<d.length) (h2.le' p1 (by omega) (by omega)) (tzM (by omega:st<d.length) this (h1.le' (by omega) p3 p4))
   have cross:∀p q,a<=p->p<mid->mid<=q->q<b->leO r0[p]? r0[q]?:=fun p q p1 p2 p3 p4=>by
    by_cases c5:p<st
    .rw[L1 p p1 c5];by_cases c6:q<en
     .rw[L2 q p3 c6];exact h1.le p1 (by omega) (by omega)
     .rw[R2 q (by omega) p4];exact A p q p1 c5 (by omega) p4
    .rw[R1 p (by omega) p2];by_cases c6:q<en
     .rw[L2 q p3 c6];exact B _ _ (by omega) (by omega) (by omega) (by omega)
     .rw[R2 q (by omega) p4];exact h2.le (by omega) (by omega) p4
   have k1:Srt a st r0:=fun p q p1 p2 p3=>by
    show leO r0[p]? r0[q]?
    rw[L1 p p1 (by omega),L1 q (by omega) p3];exact h1.le (by omega) (by omega) (by omega)
   have k2:Srt st mid r0:=fun p q p1 p2 p3=>by
    show leO r0[p]? r0[q]?
    rw[R1 p p1 (by omega),R1 q (by omega) p3];exact h2.le (by omega) (by omega) (by omega)
   have k3:Srt mid en r0:=fun p q p1 p2 p3=>by
    show leO r0[p]? r0[q]?
    rw[L2 p p1 (by omega),L2 q (by omega) p3];exact h1.le (by omega) (by omega) (by omega)
   have k4:Srt en b r0:=fun p q p1 p2 p3=>by
    show leO r0[p]? r0[q]?
    rw[R2 p p1 (by omega),R2 q (by omega) p3];exact h2.le (by omega) (by omega) (by omega)
   have tail:∀y,Mv a mid r0 y->Srt a mid y->∃r,(brn (decide ((mid:Int)<(en:Int))) (brn (decide ((en:Int)<(b:Int))) (obnd (S (y,(mid:Int),(en:Int),(b:Int),())) fun y=>some y) (some y)) (some y))=some r/\Mv a b d r/\Srt a b r:=by
    intro y y1 y2;have yl:=y1.len;have o3:Srt mid en y:=k3.same fun i p1 p2=>y1.out i (by omega)
    have o4:Srt en b y:=k4.same fun i p1 p2=>y1.out i (by omega)
    by_cases c5:mid<en
    .rw[dT0 (by omega),azc];by_cases c6:en<b
     .rw[dT0 (by omega),azc];obtain⟨r,w1,w2,w3⟩:=rc0 mid en b y (by omega) c5 c6 (by omega) (by omega) o3 o4;exact⟨r,by rw[w1];rfl,(g2.wide (by omega) (by omega)).trans ((y1.wide (by omega) (by omega)).trans (w2.wide (by omega) (by omega))),joinS y1 y2 w2 w3 cross⟩
     .rw[dF0 (by omega),azd];have:en=b:=by omega
      subst this;exact⟨y,rfl,(g2.wide (by omega) (by omega)).trans (y1.wide (by omega) (by omega)),joinS y1 y2 (.refl _ _ _) o3 cross⟩
    .rw[dF0 (by omega),azd];have:en=mid:=by omega
     subst this;exact⟨y,rfl,(g2.wide (by omega) (by omega)).trans (y1.wide (by omega) (by omega)),joinS y1 y2 (.refl _ _ _) o4 cross⟩
   by_cases c5:a<st
   .rw[dT0 (by omega),azc];by_cases c6:st<mid
    .rw[dT0 (by omega),azc];obtain⟨y,w1,w2,w3⟩:=rc0 a st mid r0 (by omega) c5 c6 (by omega) (by omega) k1 k2;rw[w1,aza];exact tail y w2 w3
    .rw[dF0 (by omega),azd];have:st=mid:=by omega
     subst this;exact tail r0 (.refl _ _ _) k1
   .rw[dF0 (by omega),azd];have:st=a:=by omega
    subst this;exact tail r0 (.refl _ _ _) k2
def Blk (k n:Nat)(d:List Member):Prop:=∀c,k∣c->Srt c (min n (c+k)) d
theorem KzH {n:Nat}:∀(f N a:Nat) (d:List Member),n+20-a<=f->f<N->20∣a->a<=n->d.length=n->n<=10000->(∀c,20∣c->c<a->Srt c (min n (c+20)) d) ->
 ∃y,iter bzk N (d,(n:Int),(),20,(a:Int),((a+20:Nat):Int))=some y/\∃e:Nat,y.1=(e:Int)/\20∣e/\e<=n/\n<e+20/\y.2.Perm d/\∀c,20∣c->c<e->Srt c (min n (c+20)) y.2
 | _,0,_,_,_,h,_,_,_,_,_=>absurd h (by omega)
 | 0,N+1,a,d,h,_,_,h2,_,_,_=>absurd h (by omega)
 | f+1,N+1,a,d,h,hN,h1,h2,hl,hn,hb=>by
  rw[azz];generalize hS:iter bzk N=S;unfold bzk;simp only;by_cases c:a+20<=n
  .obtain⟨r,r1,r2,r3⟩:=Bza (d:=d) (a:=a) (b:=a+20) (by omega) (by omega) (by omega);rw[dT0 (by omega),azc,r1,aza,show i64.wrap (((a+20:Nat):Int)+20)=((a+20+20:Nat):Int) by rw[azH (by omega) (by omega)];omega];obtain⟨y,y1,e,e1,e2,e3,e4,e5,e6⟩:=KzH f N (a+20) r (by omega) (by omega) (Nat.dvd_add h1 (Nat.dvd_refl 20)) c (by rw[r2.len];exact hl) hn (by
    intro x hx hxa;by_cases c2:x<a
    .refine(hb x hx c2).same fun i i1 i2=>r2.out i (by omega)
    .have:x=a:=by omega
     subst this;rw[Nat.min_eq_right c];exact r3)
   exact⟨y,by rw[<-hS];exact y1,e,e1,e2,e3,e4,e5.trans r2.perm,e6⟩
  .rw[dF0 (by omega)];exact⟨_,rfl,a,rfl,h1,h2,by omega,.refl _,hb⟩
theorem KzN {n k:Nat}(hk:1<=k)(hk':k<=10000):∀(f N a:Nat) (d:List Member),n+2*k-a<=f->f<N->2*k∣a->a<=n->d.length=n->n<=10000->(∀c,2*k∣c->c<a->Srt c (min n (c+2*k)) d)->(∀c,k∣c->a<=c->Srt c (min n (c+k)) d) ->
 ∃y,iter bzm N (d,(n:Int),(),(k:Int),(a:Int),((a+2*k:Nat):Int))=some y/\∃e:Nat,y.1=(e:Int)/\2*k∣e/\e<=n/\n<e+2*k/\y.2.Perm d/\(∀c,2*k∣c->c<e->Srt c (min n (c+2*k)) y.2)/\∀c,k∣c->e<=c->Srt c (min n (c+k)) y.2
 | _,0,_,_,_,h,_,_,_,_,_,_=>absurd h (by omega)
 | 0,N+1,a,d,h,_,_,h2,_,_,_,_=>absurd h (by omega)
 | f+1,N+1,a,d,h,hN,h1,h2,hl,hn,hb,hc=>by
  rw[azz];generalize hS:iter bzm N=S;unfold bzm;simp only;have hka:k∣a:=Nat.dvd_trans (Nat.dvd_mul_left k 2) h1;by_cases c:a+2*k<=n
  .have s1:=hc a hka (by omega);have s2:=hc (a+k) (Nat.dvd_add hka (Nat.dvd_refl k)) (by omega);rw[Nat.min_eq_right (by omega)]at s1 s2;rw[show a+k+k=a+2*k by omega]at s2;obtain⟨r,r1,r2,r3⟩:=sym_is (2*k) big a (a+k) (a+2*k) d (by omega) (by rw[bzT];omega) (by omega) (by omega) (by omega) (by omega) s1 s2;rw[dT0 (by omega),azc,wadd (by omega),show bzn (d,(a:Int),((a+k:Nat):Int),((a+2*k:Nat):Int),())=_ from r1,aza,
    show i64.wrap (2*(k:Int))=((2*k:Nat):Int) by rw[azH (by omega) (by omega)];omega,wadd (by omega)]
   obtain⟨y,y1,e,e1,e2,e3,e4,e5,e6,e7⟩:=KzN hk hk' f N (a+2*k) r (by omega) (by omega) (Nat.dvd_add h1 (Nat.dvd_refl _)) c (by rw[r2.len];exact hl) hn (by
    intro x hx hxa;by_cases c2:x<a
    .obtain⟨u,rfl⟩:=hx;obtain⟨v,rfl⟩:=h1;have:u<v:=Nat.lt_of_mul_lt_mul_left c2;have:2*k*(u+1)<=2*k*v:=Nat.mul_le_mul_left _ this;rw[Nat.mul_add]at this;refine(hb _ (Nat.dvd_mul_right _ _) c2).same fun i i1 i2=>r2.out i (by omega)
    .by_cases c3:x=a
     .subst c3;rw[Nat.min_eq_right c];exact r3
     .exfalso;obtain⟨u,rfl⟩:=hx;obtain⟨v,rfl⟩:=h1;have h3:v<u:=Nat.lt_of_mul_lt_mul_left (a:=2*k) (by omega);have:2*k*(v+1)<=2*k*u:=Nat.mul_le_mul_left _ h3;rw[Nat.mul_add]at this;omega) (fun x hx hxa=>(hc x hx (by omega)).same fun i i1 i2=>r2.out i (by omega))
   exact⟨y,by rw[<-hS];exact y1,e,e1,e2,e3,e4,e5.trans r2.perm,e6,e7⟩
  .rw[dF0 (by omega)];exact⟨_,rfl,a,rfl,h1,h2,by omega,.refl _,hb,hc⟩
theorem AzV {n:Nat}:∀(f N k:Nat) (d:List Member),n-k<=f->f<N->1<=k->k<=20000->d.length=n->n<=10000->Blk k n d ->
 ∃r,iter bzl N (d,(n:Int),(),(k:Int))=some r/\r.Perm d/\Srt 0 n r
 | _,0,_,_,_,h,_,_,_,_,_=>absurd h (by omega)
 | f,N+1,k,d,h,hN,h1,h2,hl,hn,hb=>by
  rw[azz];generalize hS:iter bzl N=S;unfold bzl;simp only;by_cases c:k<n
  .obtain⟨y,y1,e,e1,e2,e3,e4,e5,e6,e7⟩:=KzN (n:=n) h1 (by omega) (n+2*k) big 0 d (by omega) (by rw[bzT];omega) ⟨0,rfl⟩ (by omega) hl hn (fun x hx hx0=>by omega) (fun x hx _=>hb x hx);rw[Nat.zero_add]at y1;rw[dT0 (by omega),azc,show i64.wrap (2*(k:Int))=((2*k:Nat):Int) by rw[azH (by omega) (by omega)];omega,
    show czG (d,(n:Int),(),(k:Int),0,((2*k:Nat):Int))=_ from y1,aza,e1,wadd (by omega),
    show i64.wrap ((k:Int)*2)=((2*k:Nat):Int) by rw[azH (by omega) (by omega)];omega]
   have hke:k∣e:=Nat.dvd_trans (Nat.dvd_mul_left k 2) e2;have far:∀x,2*k∣x->e<x->n<=x:=fun x hx hlt=>by
    obtain⟨u,rfl⟩:=hx;obtain⟨v,rfl⟩:=e2;have h3:v<u:=Nat.lt_of_mul_lt_mul_left (a:=2*k) hlt;have:2*k*(v+1)<=2*k*u:=Nat.mul_le_mul_left _ h3;rw[Nat.mul_add]at this;omega
   have near:∀x,2*k∣x->x<e->x+2*k<=e:=fun x hx hlt=>by
    obtain⟨u,rfl⟩:=hx;obtain⟨v,rfl⟩:=e2;have h3:u<v:=Nat.lt_of_mul_lt_mul_left (a:=2*k) hlt;have:2*k*(u+1)<=2*k*v:=Nat.mul_le_mul_left _ h3;rw[Nat.mul_add]at this;omega
   have s1:=e7 e hke (Nat.le_refl _);by_cases c2:e+k<n
   .have s2:=e7 (e+k) (Nat.dvd_add hke (Nat.dvd_refl k)) (by omega);rw[Nat.min_eq_right (by omega)]at s1;rw[Nat.min_eq_left (by omega)]at s2;obtain⟨r,r1,r2,r3⟩:=sym_is n big e (e+k) n y.2 (by omega) (by rw[bzT];omega) (by omega) c2 (by rw[e5.length_eq];omega) (by rw[e5.length_eq];omega) s1 s2;rw[dT0 (by omega),azc,show bzn (y.2,(e:Int),((e+k:Nat):Int),(n:Int),())=_ from r1,aza];obtain⟨z,z1,z2,z3⟩:=AzV (f-1) N (2*k) r (by omega) (by omega) (by omega) (by omega) (by rw[r2.len,e5.length_eq];exact hl) hn (by
     intro x hx;by_cases c3:x<e
     .have:=near x hx c3;exact(e6 x hx c3).same fun i i1 i2=>r2.out i (by omega)
     .by_cases c4:x=e
      .subst c4;rw[Nat.min_eq_left (by omega)];exact r3
      .have:=far x hx (by omega);exact .one (by omega))
    exact⟨z,by rw[<-hS];exact z1,z2.trans (r2.perm.trans e5),z3⟩
   .rw[Nat.min_eq_left (by omega)]at s1;rw[dF0 (by omega),azd];obtain⟨z,z1,z2,z3⟩:=AzV (f-1) N (2*k) y.2 (by omega) (by omega) (by omega) (by omega) (by rw[e5.length_eq];exact hl) hn (by
     intro x hx;by_cases c3:x<e
     .exact e6 x hx c3
     .by_cases c4:x=e
      .subst c4;rw[Nat.min_eq_left (by omega)];exact s1
      .have:=far x hx (by omega);exact .one (by omega))
    exact⟨z,by rw[<-hS];exact z1,z2.trans e5,z3⟩
  .rw[dF0 (by omega)];have:=hb 0 ⟨0,rfl⟩;rw[Nat.min_eq_left (by omega)]at this;exact⟨d,rfl,.refl _,this⟩
theorem stable_is {d:List Member}(hd:d.length<=10000):∃r,bzi (d,())=some r/\r.Perm d/\Srt 0 d.length r:=by
 unfold bzi czV;simp only;obtain⟨y,y1,e,e1,e2,e3,e4,e5,e6⟩:=KzH (n:=d.length) (d.length+20) big 0 d (by omega) (by rw[bzT];omega) ⟨0,rfl⟩ (by omega) rfl hd (fun x hx h0=>by omega);rw[show czE (d,(d.length:Int),(),20,0,20)=_ from y1,aza,e1];obtain⟨r,r1,r2,r3⟩:=Bza (d:=y.2) (a:=e) (b:=d.length) e3 (by rw[e5.length_eq];exact Nat.le_refl _) (by rw[e5.length_eq];omega);rw[r1,aza];obtain⟨z,z1,z2,z3⟩:=AzV (n:=d.length) d.length big 20 r (by omega) (by rw[bzT];omega) (by omega) (by omega) (by rw[r2.len,e5.length_eq]) hd (by
  intro x hx;by_cases c3:x<e
  .exact(e6 x hx c3).same fun i i1 i2=>r2.out i (by omega)
  .by_cases c4:x=e
   .subst c4;rw[Nat.min_eq_left (by omega)];exact r3
   .exact .one (by omega))
 rw[show czF (r,(d.length:Int),(),20)=_ from z1];exact⟨z,rfl,z2.trans (r2.perm.trans e5),z3⟩
theorem Gz8:∀(l zs:List Member) (s:List Member),zs.length+l.length<=100000->jzI az4 l (zs,(),s)=some (zs++l,(),s)
 | [],zs,s,_=>by simp[jzI]
 | m::l,zs,s,h=>by
  simp only[List.length_cons]at h;have e1:az4 m (zs,(),s)=some (zs++[m],(),s):=by
   unfold az4;simp only[azj,fz3];rw[appN (by simp;omega),aza]
  rw[jzI,e1,aza,Gz8 l _ s (by simp;omega)];simp
theorem sorted_is {l:List Member}(hl:l.length<=10000):∃r,bzO (l,())=some r/\r.Perm l/\Srt 0 l.length r:=by
 unfold bzO gzh cz8 czZ bzZ cz0;simp only;rw[Gz8 l [] l (by simp;omega)];simp only[aza,List.nil_append];obtain⟨r,r1,r2,r3⟩:=stable_is hl;rw[r1];exact⟨r,rfl,r2,r3⟩
noncomputable def cP (x prev:Member)(n:Nat)(y:Member):Bool:=decide (n<1024)&&((decide (y.At.Row=i64.wrap (prev.At.Row+1))&&decide (y.At.Col=x.At.Col))&&eqX y.E x.E)
noncomputable def runP (x:Member):Member->Nat->List Member->Nat
 | _,n,[]=>n
 | prev,n,y::t=>bif cP x prev n y then runP x y (n+1) t else n
theorem Cz5 (x:Member):∀(t:List Member) (prev:Member) (n:Nat),n<=runP x prev n t/\runP x prev n t<=n+t.length
 | [],_,n=>⟨Nat.le_refl _,by simp[runP]⟩
 | y::t,prev,n=>by
  unfold runP;have:=Cz5 x t y (n+1);cases cP x prev n y
  .simp
  .simp;omega
noncomputable def hzD:Nat->List Member->List Group
 | 0,_=>[]
 | _+1,[]=>[]
 | k+1,x::t=>(bif decide (1<runP x x 1 t)then [⟨false,x.At,((x::t)[runP x x 1 t-1]?.getD x).At,x.E⟩]else [])++hzD k ((x::t).drop (runP x x 1 t))
theorem ozs (k:Nat)(x:Member)(t:List Member):hzD (k+1) (x::t)=(bif decide (1<runP x x 1 t)then [⟨false,x.At,((x::t)[runP x x 1 t-1]?.getD x).At,x.E⟩]else [])++hzD k ((x::t).drop (runP x x 1 t)):=rfl
theorem szB (k:Nat):hzD k []=[]:=by cases k<;>rfl
theorem plb3_is {r:List Member}{i k:Nat}(hi:i<k)(hk:k<=r.length)(hl:r.length<=10000)(he:∀m∈r,fewE m.E):
 fzF (r,(i:Int),(k:Int))=some (match r[k]?,r[k-1]?,r[i]? with
  | some y,some p,some x=>cP x p (k-i) y
  | _,_,_=>false):=by
 unfold fzF;simp only[azj,cond_false];by_cases c:k<r.length
 .have h1:k-1<r.length:=by omega
  have h2:i<r.length:=by omega
  rw[ltT c,azc,wsub (by omega) (by omega),pzt (by omega) (by omega),idxG c,idxG h1,idxG h2];simp only[aza];rw[mzX (he _ (List.getElem_mem c)) (he _ (List.getElem_mem h2)),aza,brnA,List.getElem?_eq_getElem c,List.getElem?_eq_getElem h1,List.getElem?_eq_getElem h2,brnA];unfold cP;have:decide (((k-i:Nat):Int)<1024)=decide (k-i<1024):=by simp only[decide_eq_decide];omega
  rw[this]
 .rw[dF0 (by omega),azd,List.getElem?_eq_none (by omega)]
def grp (r:List Member)(i k:Nat):List Group:=match r[i]?,r[k-1]? with
 | some x,some y=>bif decide (1<k-i)then [⟨false,x.At,y.At,x.E⟩]else []
 | _,_=>[]
theorem CzW {r:List Member}{i k:Nat}(h1:i<r.length)(h2:k-1<r.length):grp r i k=bif decide (1<k-i)then [⟨false,r[i].At,r[k-1].At,r[i].E⟩]else []:=by
 unfold grp;rw[List.getElem?_eq_getElem h1,List.getElem?_eq_getElem h2]
theorem xzt {A:Type}(x:Option A):(obnd x fun y=>some y)=x:=by cases x<;>rfl
theorem run_is {out:List Member×List Member×List Group×List Member×Int->Option (List Group×List Member)}{l r:List Member}{gs:List Group}{os:List Member}{i:Nat}(hl:r.length<=10000)(he:∀m∈r,fewE m.E)(hg:gs.length<=100000)(hi:i<r.length):
 ∀(f N k:Nat),r.length-k<=f->f<N->i<k->k<=r.length ->
  iter (jzU out) N (l,r,gs,os,(i:Int),(k:Int))=out (l,r,gs++grp r i (i+runP r[i] (r[k-1]?.getD r[i]) (k-i) (r.drop k)),os,((i+runP r[i] (r[k-1]?.getD r[i]) (k-i) (r.drop k):Nat):Int))
 | _,0,_,_,h,_,_=>absurd h (by omega)
 | f,N+1,k,h,hN,h1,h2=>by
  have hk1:k-1<r.length:=by omega
  rw[azz];have ih:=run_is (out:=out) (l:=l) (gs:=gs) (os:=os) hl he hg hi (f-1) N (k+1);generalize iter (jzU out) N=S at ih;unfold jzU;simp only[azj,xzt];rw[plb3_is h1 h2 hl he,aza,List.getElem?_eq_getElem hi,List.getElem?_eq_getElem hk1];have stop:(brn (decide (1<i64.wrap ((k:Int)-(i:Int)))) (obnd (idx r (i:Int)) fun y=>obnd (idx r (i64.wrap ((k:Int)-1))) fun y_1=>obnd (idx r (i:Int)) fun y_2=>obnd (app 192 gs [⟨false,y.At,y_1.At,y_2.E⟩]) fun zs=>out (l,r,zs,os,(k:Int))) (out (l,r,gs,os,(k:Int))))=out (l,r,gs++grp r i k,os,(k:Int)):=by
   rw[wsub (by omega) (by omega),pzt (by omega) (by omega),idxG hi,idxG hk1];simp only[aza];rw[appN (by simp;omega),aza,CzW hi hk1,show decide ((1:Int)<((k-i:Nat):Int))=decide (1<k-i) by simp only[decide_eq_decide];omega];cases decide (1<k-i)
   .rw[azd,cond_false,List.append_nil]
   .rfl
  by_cases c:k<r.length
  .rw[List.getElem?_eq_getElem c];simp only;rw[List.drop_eq_getElem_cons c];cases hc:cP r[i] r[k-1] (k-i) r[k]
   .rw[azd];simp only[runP,Option.getD_some,hc,cond_false];rw[show i+(k-i)=k by omega];exact stop
   .rw[azc,wr1 (by omega),ih (by omega) (by omega) (by omega) (by omega)];simp only[runP,Option.getD_some,hc,cond_true];rw[show k+1-1=k by omega,List.getElem?_eq_getElem c,show k+1-i=k-i+1 by omega];rfl
  .rw[List.getElem?_eq_none (by omega),List.drop_eq_nil_of_le (by omega)];simp only[runP];rw[azd,show i+(k-i)=k by omega];exact stop
theorem containsP {m:Member}{gs:List Group}(hg:gs.length<=100000):∃b,bzA (m,gs,())=some b:=by
 unfold bzA czr;simp only[azj,fz3];obtain⟨z,e1,-⟩:=czz (F:=az2) (fun i=>(m,gs,(),(gs.length:Int),(i:Int))) gs.length (fun _=>True) (fun _=>True) (.inl ()) (by omega)
  (by
   intro back i hi;unfold az2 sz2;simp only[azj,fz3,bzV,xzt];rw[ltT hi,azc,idxG hi,aza,show kzL (gs[i],m.At)=_ from Az9 gs[i] m.At,aza,wr1 (by omega)];cases hasG gs[i] m.At
   .exact .inl ⟨rfl,trivial⟩
   .exact .inr ⟨_,rfl,trivial⟩)
  (by
   intro back;unfold az2;simp only;rw[ltF];rfl)
 rw[show czd (m,gs,(),(gs.length:Int),0)=_ from e1,aza];cases z<;>exact⟨_,rfl⟩
theorem others_is {l:List Member}{gs:List Group}(hl:l.length<=10000)(hg:gs.length<=100000):∃o,hza (l,gs,[])=some (gs,o):=by
 unfold hza;simp only;obtain⟨y,e1,-⟩:=scan (F:=lzX) (fun(z:List Member) i=>(gs,z,l,(l.length:Int),(i:Int))) l.length (fun z i=>z.length<=i) (fun _=>True) (by omega)
  (by
   intro back z i hi hz;right;obtain⟨b,hb⟩:=containsP (m:=l[i]) hg;unfold lzX;simp only[azj,fz3];rw[ltT hi,azc,idxG hi,aza,hb,aza,wr1 (by omega),appN (by simp;omega),aza];cases b
   .exact⟨_,rfl,by simp;omega⟩
   .exact⟨_,rfl,by omega⟩)
  (by
   intro back z _;unfold lzX;simp only;rw[ltF];exact⟨_,rfl,trivial⟩) [] (by simp)
 rw[show rzL (gs,[],l,(l.length:Int),0)=_ from e1];exact⟨y,rfl⟩
theorem Hz3 {l r:List Member}(hl:l.length<=10000)(hr:r.length<=10000)(he:∀m∈r,fewE m.E):
 ∀(f N i:Nat) (gs:List Group),r.length-i<=f->f<N->i<=r.length->gs.length+(r.length-i)<=100000->∃o,iter mzo N (l,r,gs,[],(i:Int))=some (gs++hzD f (r.drop i),o)
 | _,0,_,_,_,h,_,_=>absurd h (by omega)
 | f,N+1,i,gs,h,hN,hi,hg=>by
  rw[azz];have ih:=fun f i gs h1 h2 h3 h4=>Hz3 hl hr he f N i gs h1 h2 h3 h4
  generalize iter mzo N=S at ih;unfold mzo;simp only[xzt];by_cases c:i=r.length
  .subst c;rw[dT0 rfl,azc,List.drop_length,szB,List.append_nil];exact others_is hl (by omega)
  .have hlt:i<r.length:=by omega
   obtain⟨f,rfl⟩:∃g,f=g+1:=⟨f-1,by omega⟩;rw[dF0 (by omega),azd,wr1 (by omega),plb3_is (by omega) (by omega) hr he,aza,show i+1-1=i by omega,List.getElem?_eq_getElem hlt];obtain⟨q1,q2⟩:=Cz5 r[i] (r.drop (i+1)) r[i] 1;rw[List.length_drop]at q2;have hg1:∀n,1<=n->i+n<=r.length->(grp r i (i+n)).length<=1:=fun n h1 h2=>by
    rw[CzW hlt (by omega)];cases decide (1<i+n-i)<;>simp
   have fin:gs++(grp r i (i+runP r[i] r[i] 1 (r.drop (i+1)))++hzD f (r.drop (i+runP r[i] r[i] 1 (r.drop (i+1)))))=gs++hzD (f+1) (r.drop i):=by
    rw[List.drop_eq_getElem_cons hlt,ozs];generalize runP r[i] r[i] 1 (r.drop (i+1))=R at q1 q2;have h1:i+R-1<r.length:=by omega
    rw[CzW hlt h1,<-List.drop_eq_getElem_cons hlt,List.drop_drop,List.getElem?_drop,show i+(R-1)=i+R-1 by omega,List.getElem?_eq_getElem h1,show i+R-i=R by omega];rfl
   cases hc:(match r[i+1]?,(some r[i]:Option Member),(some r[i]:Option Member)with
    | some y,some p,some x=>cP x p (i+1-i) y
    | _,_,_=>false)
   .have hR:runP r[i] r[i] 1 (r.drop (i+1))=1:=by
     by_cases c2:i+1<r.length
     .rw[List.getElem?_eq_getElem c2]at hc;simp only[show i+1-i=1 by omega]at hc;rw[List.drop_eq_getElem_cons c2];simp only[runP,hc,cond_false]
     .rw[List.drop_eq_nil_of_le (by omega)];rfl
    rw[hR]at fin;have hgr:grp r i (i+1)=[]:=by rw[CzW hlt (by omega),show i+1-i=1 by omega];rfl
    rw[hgr,List.nil_append]at fin;rw[azd,show i64.wrap (((i+1:Nat):Int)-(i:Int))=1 by rw[wsub (by omega) (by omega),show i+1-i=1 by omega];rfl];unfold lzW;simp only;rw[show decide ((1:Int)<1)=false from rfl,azd,aza,<-fin];exact ih f (i+1) gs (by omega) (by omega) (by omega) (by omega)
   .rw[azc,wr1 (by omega)];have c2:i+1<r.length:=by
     apply Decidable.byContradiction;intro h2;rw[List.getElem?_eq_none (by omega)]at hc;cases hc
    rw[List.getElem?_eq_getElem c2]at hc;simp only[show i+1-i=1 by omega]at hc;have:=run_is (out:=S) (l:=l) (gs:=gs) (os:=[]) hr he (by omega) hlt (r.length) big (i+1+1) (by omega) (by rw[bzT];omega) (by omega) (by omega);rw[show jzV S (l,r,gs,[],(i:Int),((i+1+1:Nat):Int))=_ from this];have hR:runP r[i] r[i] 1 (r.drop (i+1))=runP r[i] (r[i+1+1-1]?.getD r[i]) (i+1+1-i) (r.drop (i+1+1)):=by
     rw[List.drop_eq_getElem_cons c2];simp only[runP,hc,cond_true];rw[show i+1+1-1=i+1 by omega,List.getElem?_eq_getElem c2,show i+1+1-i=1+1 by omega];rfl
    rw[<-hR,<-fin,<-List.append_assoc];have:=hg1 _ q1 (by omega);exact ih f _ _ (by omega) (by omega) (by omega) (by rw[List.length_append];omega)
theorem planP_is {l:List Member}(hl:l.length<=10000)(he:∀m∈l,fewE m.E):∃r o,r.Perm l/\Srt 0 l.length r/\oz4 l=some (hzD r.length r,o):=by
 obtain⟨r,r1,r2,r3⟩:=sorted_is hl;have hlen:=r2.length_eq;have he':∀m∈r,fewE m.E:=fun m hm=>he m (r2.mem_iff.1 hm)
 unfold oz4 rzM dzP;simp only[aza];rw[r1,aza];obtain⟨o,key⟩:=Hz3 (l:=l) (r:=r) hl (by omega) he' r.length (big+1) 0 [] (by omega) (by rw[bzT];omega) (by omega) (by simp;omega);rw[azz,List.drop_zero,List.nil_append]at key;refine⟨r,o,r2,r3,?_⟩;have key2:brn (decide ((0:Int)=(r.length:Int))) (obnd (hza (l,[],[])) fun y=>some y) (obnd (fzF (r,0,1)) fun y=>brn y (obnd (jzV ezw (l,r,[],[],0,2)) fun y=>some y)
  (obnd (lzW (r,[],0,1,decide ((1:Int)<1))) fun y=>obnd (ezw (l,r,y,[],1)) fun y=>some y))=some (hzD r.length r,o):=key
 clear key;simp only[xzt]at key2;cases hd:decide ((0:Int)=(r.length:Int))
 .rw[hd,azd]at key2;rw[azd];cases hb:fzF (r,0,1)with
  | none=>rw[hb]at key2;cases key2
  | some v =>
   rw[hb,aza]at key2;rw[aza];cases v
   .rw[azd]at key2;rw[azd];have key3:ezw (l,r,[],[],1)=some (hzD r.length r,o):=key2
    show(obnd (obnd (ezw (l,r,[],[],1)) fun y=>some (Sum.inr y)) fun y=>osum y (fun y=>none) fun y=>some y)=_
    rw[key3];rfl
   .rw[azc]at key2;rw[azc,key2];rfl
 .rw[hd,azc]at key2;rw[azc,key2];rfl
def bsOf (gs:List Group)(c:Cell2):Cell:=gs.foldl (fun b g=>bif g.Array&&hasG g c.At then g.A else b) c.At
def ndS (gs:List Group)(i:Nat)(cs:List Cell2):List Node:=cs.flatMap fun c=>bif c.Has then [⟨⟨(i:Int),c.At⟩,bsOf gs c,c.E⟩]else []
def slS (i:Nat)(cs:List Cell2):List Slot:=cs.flatMap fun c=>bif !decide (c.V.Kind=0)then [⟨⟨(i:Int),c.At⟩,c.V⟩]else []
def nds (l:List Sheet):List Node:=l.zipIdx.flatMap fun p=>ndS p.1.Groups p.2 p.1.Cells
def sls (l:List Sheet):List Slot:=l.zipIdx.flatMap fun p=>slS p.2 p.1.Cells
theorem Node_eta (n:Node):Node.mk n.P n.Base n.E=n:=rfl
theorem hasS_is (g:Group)(c:Cell):kzL (g,c)=some (hasG g c):=Az9 g c
theorem JzT (gs:List Group)(i:Nat)(cs:List Cell2):(ndS gs i cs).length<=cs.length:=by
 have:=fzq (f:=fun c:Cell2=>bif c.Has then [(⟨⟨(i:Int),c.At⟩,bsOf gs c,c.E⟩:Node)]else []) (K:=1) cs (fun c _=>by cases c.Has<;>simp);unfold ndS;omega
theorem Kzw (i:Nat)(cs:List Cell2):(slS i cs).length<=cs.length:=by
 have:=fzq (f:=fun c:Cell2=>bif !decide (c.V.Kind=0)then [(⟨⟨(i:Int),c.At⟩,c.V⟩:Slot)]else []) (K:=1) cs (fun c _=>by cases !decide (c.V.Kind=0)<;>simp);unfold slS;omega
theorem nodes_l3 {c:Cell2}{p:Place}{e:Expr}{gs:List Group}(hg:gs.length<=1000):rzj (c,⟨p,c.At,e⟩,gs,(gs.length:Int),0)=some ((),⟨p,bsOf gs c,e⟩):=by
 have:=bzG (F:=lzg) (fun(b:Cell) i=>(c,(⟨p,b,e⟩:Node),gs,(gs.length:Int),(i:Int))) (fun b:Cell=>((),(⟨p,b,e⟩:Node))) gs (fun b g=>(.inl (bif g.Array&&hasG g c.At then g.A else b):Cell⊕Cell)) id (fun _ _=>True) (by omega) ?_ (fun _ _ _ _ _ _=>trivial) ?_ c.At trivial
 .rw[cz3]at this;exact this
 .intro back b i hi _;unfold lzg;simp only[azj,bzV];rw[ltT hi,azc,idxG hi,aza,hasS_is,aza,wr1 (by omega)];cases gs[i].Array<;>cases hasG gs[i] c.At<;>rfl
 .intro back b _;unfold lzg;simp only[azj];rw[ltF];rfl
theorem nodes_l2 {z:List Node}{n:Nat}{s:Sheet}(hz:z.length<=1000000)(hc:s.Cells.length<=1000)(hg:s.Groups.length<=1000):
 rzi (z,(n:Int),s,s.Cells,(s.Cells.length:Int),0)=some (z++ndS s.Groups n s.Cells):=by
 refine cz2 (F:=lzf) (fun z i=>(z,(n:Int),s,s.Cells,(s.Cells.length:Int),(i:Int))) id s.Cells _ 1 z (by omega) (fun c _=>by cases c.Has<;>simp) ?_ ?_
 .intro back y i hi hy;unfold lzf;simp only[azj,kzi];rw[ltT hi,azc,idxG hi];simp only[aza];rw[nodes_l3 hg,aza,wr1 (by omega),appN (by simp at hy ⊢;omega),aza];cases s.Cells[i].Has
  .simp
  .rfl
 .intro back y _;unfold lzf;simp only;rw[ltF];rfl
theorem nodesP_is {b:Book}(hb:b.Sheets.length<=1000)(h:∀s∈b.Sheets,s.Cells.length<=1000/\s.Groups.length<=1000):ozW b=some (nds b.Sheets):=by
 have:=cz2 (F:=lze) (fun z i=>(z,b.Sheets,(b.Sheets.length:Int),(i:Int))) id b.Sheets.zipIdx (fun p=>ndS p.1.Groups p.2 p.1.Cells) 1000 [] (by simp;omega) ?_ ?_ ?_
 .unfold ozW;rw[show rzh ([],b.Sheets,(b.Sheets.length:Int),0)=_ from this];rfl
 .rintro⟨s,i⟩ hp;have:=h s (List.fst_mem_of_mem_zipIdx hp);have:=JzT s.Groups i s.Cells;simp only;omega
 .intro back z i hi hz;have hi':i<b.Sheets.length:=by simpa using hi
  obtain⟨h1,h2⟩:=h _ (List.getElem_mem hi');unfold lze;simp only;rw[ltT hi',azc,idxG hi',aza,nodes_l2 (by simp at hz;omega) h1 h2,aza,wr1 (by omega),List.getElem_zipIdx,Nat.zero_add]
 .intro back z _;unfold lze;simp only;rw[List.length_zipIdx,ltF];rfl
theorem env_l2 {z:List Slot}{k:Int}{n:Nat}{s:Sheet}(hz:z.length<=1000000)(hc:s.Cells.length<=1000):
 uze (z,⟨k,z,[]⟩,(n:Int),s.Cells,(s.Cells.length:Int),0)=some (z++slS n s.Cells,⟨k,z++slS n s.Cells,[]⟩):=by
 refine cz2 (F:=nzv) (fun z i=>(z,(⟨k,z,[]⟩:Env),(n:Int),s.Cells,(s.Cells.length:Int),(i:Int))) (fun z=>(z,(⟨k,z,[]⟩:Env))) s.Cells _ 1 z (by omega) (fun c _=>by cases !decide (c.V.Kind=0)<;>simp) ?_ ?_
 .intro back y i hi hy;unfold nzv;simp only;rw[ltT hi,azc,idxG hi,aza,wr1 (by omega),appN (by simp at hy ⊢;omega),aza];cases decide (s.Cells[i].V.Kind=0)
  .rfl
  .simp
 .intro back y _;unfold nzv;simp only;rw[ltF];rfl
theorem envP_is {b:Book}(hb:b.Sheets.length<=1000)(h:∀s∈b.Sheets,s.Cells.length<=1000)(hn:b.Globals.Names.length<=1000):szm b=some ⟨(b.Sheets.length:Int),sls b.Sheets,b.Globals.Names⟩:=by
 have:=cz2 (F:=nzu) (fun z i=>(z,(⟨(b.Sheets.length:Int),z,[]⟩:Env),b.Sheets,(b.Sheets.length:Int),(i:Int))) (fun z=>(z,(⟨(b.Sheets.length:Int),z,[]⟩:Env))) b.Sheets.zipIdx (fun p=>slS p.2 p.1.Cells) 1000 [] (by simp;omega) ?_ ?_ ?_
 .unfold szm fzi;rw[show uzd ([],⟨(b.Sheets.length:Int),[],[]⟩,b.Sheets,(b.Sheets.length:Int),0)=_ from this,aza,pzx (by omega)];rfl
 .rintro⟨s,i⟩ hp;have:=h s (List.fst_mem_of_mem_zipIdx hp);have:=Kzw i s.Cells;simp only;omega
 .intro back z i hi hz;have hi':i<b.Sheets.length:=by simpa using hi
  have h1:=h _ (List.getElem_mem hi');unfold nzu;simp only;rw[ltT hi',azc,idxG hi',aza,env_l2 (by simp at hz;omega) h1,aza,wr1 (by omega),List.getElem_zipIdx,Nat.zero_add]
 .intro back z _;unfold nzu;simp only;rw[List.length_zipIdx,ltF];rfl
theorem gzw {a b:Cell}:dzy a b=true↔a.Row<b.Row\/a.Row=b.Row/\a.Col<b.Col:=by
 unfold dzy;simp
theorem tzv {l:List Cell2}(h:okCs l):l.Pairwise fun a b=>dzy a.At b.At=true:=by
 rw[List.pairwise_iff_getElem];intro i j hi hj hij;induction j with
 | zero=>omega
 | succ j ih =>
  have h1:=h.2 (j+1) hj (by omega);replace h1:dzy l[j].At l[j+1].At=true:=h1;by_cases c:i=j
  .subst c;exact h1
  .have h2:=ih (by omega) (by omega);rw[gzw]at *;omega
theorem PzR {A:Type}{R:A->A->Prop}:∀{l:List A},l.length<=1->l.Pairwise R
 | [],_=>.nil
 | [a],_=>.cons (fun _ h=>by cases h) .nil
 | _::_::_,h=>by simp at h
theorem go_loop {X Z:Type}{F:(X->Option Z)->X->Option Z}(mk:Nat->X)(n:Nat)(ok:Z)(hn:n<=1000000000)(h:∀back i,i<n->F back (mk i)=back (mk (i+1)))(hend:∀back,F back (mk n)=some ok):iter F big (mk 0)=some ok:=by
 obtain⟨z,e1,e2⟩:=czz (F:=F) mk n (fun _=>True) (fun _=>False) ok hn (fun back i hi=>.inl ⟨h back i hi,trivial⟩) hend;rw[e1];rcases e2 with e2|⟨rfl,-⟩
 .exact e2.elim
 .rfl
def colM (c:Nat)(l:List Member):List Member:=l.filter fun m=>decide (m.At.Col=c)
theorem Hz9 {A B:Type}(f:A->List B):∀l:List A,((List.range l.length).flatMap fun i=>(l[i]?.map f).getD [])=l.flatMap f
 | []=>rfl
 | a::l=>by
  have:=Hz9 f l;rw[List.length_cons,List.range_succ_eq_map,List.flatMap_cons,List.flatMap_map,List.flatMap_cons,<-this];rfl
theorem pick_col (l:List Member)(c:Nat):pick l (colI l c)=colM c l:=by
 unfold colM;rw[<-rz2,<-Hz9];unfold pick colI;induction List.range l.length with
 | nil=>rfl
 | cons i t ih =>
  rw[List.filter_cons,List.flatMap_cons,<-ih];cases h:l[i]? with
  | none=>simp
  | some m=>by_cases hd:m.At.Col=(c:Int)<;>simp[hd,h]
theorem KzK:∀(n:Nat) (l:List Member),(∀m∈l,0<=m.At.Col/\m.At.Col<n)->((List.range n).flatMap fun c=>colM c l).Perm l
 | 0,l,h=>by
  cases l with
  | nil=>exact .refl _
  | cons m l=>have:=h m (by simp);omega
 | n+1,l,h=>by
  have e:((List.range n).flatMap fun c=>colM c l)=(List.range n).flatMap fun c=>colM c (l.filter fun m=>decide (m.At.Col<n)):=by
   have:∀cs:List Nat,(∀c∈cs,c<n)->(cs.flatMap fun c=>colM c l)=cs.flatMap fun c=>colM c (l.filter fun m=>decide (m.At.Col<n)):=by
    intro cs;induction cs with
    | nil=>intro _;rfl
    | cons c cs ih =>
     intro hc;rw[List.flatMap_cons,List.flatMap_cons,ih fun x hx=>hc x (by simp[hx])];congr 1;unfold colM;rw[List.filter_filter];refine List.filter_congr fun m _=>?_
     have:=hc c (by simp);rw[Bool.eq_iff_iff];simp only[Bool.and_eq_true,decide_eq_true_eq];omega
   exact this _ fun c hc=>List.mem_range.1 hc
  have ih:=KzK n (l.filter fun m=>decide (m.At.Col<n)) fun m hm=>by
   obtain⟨h1,h2⟩:=List.mem_filter.1 hm;exact⟨(h m h1).1,of_decide_eq_true h2⟩
  rw[List.range_succ,List.flatMap_append,e,List.flatMap_cons,List.flatMap_nil,List.append_nil];refine(ih.append (.refl _)).trans ?_;have e2:colM n l=l.filter fun m=>!decide (m.At.Col<(n:Int)):=by
   unfold colM;refine List.filter_congr fun m hm=>?_
   have:=h m hm;rw[Bool.eq_iff_iff];simp only[Bool.not_eq_true',decide_eq_true_eq,decide_eq_false_iff_not];omega
  rw[e2];exact List.filter_append_perm _ _
theorem NzN (x:Member){B:List Member}(hB:∀y∈B,y.At.Col≠x.At.Col):∀(A:List Member) (prev:Member) (n:Nat),runP x prev n (A++B)=runP x prev n A
 | [],prev,n=>by
  cases B with
  | nil=>rfl
  | cons y B =>
   have:cP x prev n y=false:=by
    unfold cP;rw[dF0 (hB y (by simp))];simp
   simp only[List.nil_append,runP,this,cond_false]
 | y::A,prev,n=>by
  simp only[List.cons_append,runP];rw[NzN x hB A y (n+1)]
theorem zzg:∀(k k':Nat) (l:List Member),l.length<=k->l.length<=k'->hzD k l=hzD k' l
 | k,k',[],_,_=>by rw[szB,szB]
 | 0,_,_::_,h,_=>by simp at h
 | _+1,0,_::_,_,h=>by simp at h
 | k+1,k'+1,x::t,h,h'=>by
  have:=(Cz5 x t x 1).1;rw[ozs,ozs,zzg k k' _ (by rw[List.length_drop];omega) (by rw[List.length_drop];omega)]
theorem Lzh:∀(k:Nat) (A B:List Member),(A++B).length<=k->(∀x∈A,∀y∈B,y.At.Col≠x.At.Col)->hzD k (A++B)=hzD k A++hzD k B
 | k,[],B,_,_=>by rw[szB];rfl
 | 0,_::_,_,h,_=>by simp at h
 | k+1,x::t,B,h,hx=>by
  obtain⟨r1,r2⟩:=Cz5 x t x 1;rw[List.length_append,List.length_cons]at h;rw[List.cons_append,ozs,ozs,NzN x (hx x (by simp)) t x 1];generalize runP x x 1 t=R at r1 r2;rw[<-List.cons_append,List.getElem?_append_left (by rw[List.length_cons];omega),List.drop_append_of_le_length (by rw[List.length_cons];omega),
   Lzh k _ B (by rw[List.length_append,List.length_drop,List.length_cons];omega) (fun y hy z hz=>hx y (List.mem_of_mem_drop hy) z hz),zzg k (k+1) B (by omega) (by omega),List.append_assoc]
theorem szo {c:Nat}{l:List Member}:∀m∈colM c l,m.At.Col=c/\m∈l:=fun m h=>by
 obtain⟨h1,h2⟩:=List.mem_filter.1 h;exact⟨of_decide_eq_true h2,h1⟩
theorem IzH {l:List Member}{k:Nat}:∀cs:List Nat,cs.Nodup->(cs.flatMap fun c=>colM c l).length<=k->hzD k (cs.flatMap fun c=>colM c l)=cs.flatMap fun c=>hzD k (colM c l)
 | [],_,_=>by rw[List.flatMap_nil,szB];rfl
 | c::cs,hn,hk=>by
  rw[List.nodup_cons]at hn;rw[List.flatMap_cons]at hk;rw[List.flatMap_cons,List.flatMap_cons,Lzh k _ _ hk,IzH cs hn.2 (by rw[List.length_append]at hk;omega)];intro x hx y hy;obtain⟨c',hc',hy⟩:=List.mem_flatMap.1 hy;rw[(szo x hx).1,(szo y hy).1];intro e;have:c'=c:=by omega
  subst this;exact hn.1 hc'
theorem runN_P {x:Member}(h0:0<=x.At.Row)(h1:x.At.Row<65536):∀(t:List Member) (prev:Member) (n:Nat),(∀y∈t,y.At.Col=x.At.Col)->prev.At.Row=x.At.Row+((n:Int)-1)->1<=n->n<=1024->runP x prev n t=runN x n t
 | [],_,_,_,_,_,_=>rfl
 | y::t,prev,n,hc,hp,hn,hn'=>by
  have e:cP x prev n y=(decide (n<1024)&&(decide (y.At.Row=i64.wrap (x.At.Row+n))&&eqX y.E x.E)):=by
   unfold cP;rw[dT0 (hc y (by simp)),Bool.and_true,show prev.At.Row+1=x.At.Row+n by omega]
  simp only[runP,runN,<-e];cases hcp:cP x prev n y
  .rfl
  .rw[e]at hcp;simp only[Bool.and_eq_true,decide_eq_true_eq]at hcp;rw[azH (by omega) (by omega)]at hcp;exact runN_P h0 h1 t y (n+1) (fun z hz=>hc z (by simp[hz])) (by omega) (by omega) (by omega)
theorem runs_P {c:Nat}:∀(k:Nat) (l:List Member),(∀m∈l,m.At.Col=c/\0<=m.At.Row/\m.At.Row<65536)->runs k l=hzD k l
 | 0,l,_=>rfl
 | k+1,[],_=>rfl
 | k+1,x::t,h=>by
  have hx:=h x (by simp);unfold runs;rw[ozs,runN_P hx.2.1 hx.2.2 t x 1 (fun y hy=>by rw[(h y (by simp[hy])).1,hx.1]) (by omega) (by omega) (by omega),runs_P (c:=c) k _ fun m hm=>h m (List.mem_of_mem_drop hm)]
def okM (l:List Member):Prop:=(l.Pairwise fun a b=>dzy a.At b.At=true)/\∀m∈l,gdC m.At=true
theorem srt_pair {r:List Member}(h:Srt 0 r.length r):r.Pairwise fun x y=>ltM y x=false:=by
 rw[List.pairwise_iff_getElem];intro i j hi hj hij;exact h i j (by omega) hij hj _ _ (List.getElem?_eq_getElem hi) (List.getElem?_eq_getElem hj)
theorem okM_inj {l:List Member}(h:okM l):∀x∈l,∀y∈l,x.At.Row=y.At.Row->x.At.Col=y.At.Col->x=y:=by
 intro x hx y hy h1 h2;obtain⟨i,hi,rfl⟩:=List.mem_iff_getElem.1 hx;obtain⟨j,hj,rfl⟩:=List.mem_iff_getElem.1 hy;by_cases c:i=j
 .subst c;rfl
 .exfalso;by_cases c2:i<j
  .have:=List.pairwise_iff_getElem.1 h.1 i j hi hj c2;rw[gzw]at this;omega
  .have:=List.pairwise_iff_getElem.1 h.1 j i hj hi (by omega);rw[gzw]at this;omega
theorem planP_eq {l:List Member}(hl:l.length<=10000)(he:∀m∈l,fewE m.E)(ho:okM l):∃o,oz4 l=some (plD l,o):=by
 obtain⟨r,o,r1,r2,r3⟩:=planP_is hl he;refine⟨o,?_⟩;have hb:∀m∈l,0<=m.At.Col/\m.At.Col<(256:Nat)/\0<=m.At.Row/\m.At.Row<65536:=fun m hm=>by have:=gdC_b (ho.2 m hm);omega
 have hp:=KzK 256 l fun m hm=>⟨(hb m hm).1,(hb m hm).2.1⟩
 have er:r=(List.range 256).flatMap fun c=>colM c l:=by
  refine List.Perm.eq_of_pairwise (le:=fun x y=>ltM y x=false) ?_ ?_ ?_ (r1.trans hp.symm)
  .intro x y hx hy h1 h2;rw[tz7]at h1 h2;exact okM_inj ho x (r1.mem_iff.1 hx) y (hp.mem_iff.1 hy) (by omega) (by omega)
  .exact srt_pair (by rw[r1.length_eq];exact r2)
  .rw[List.pairwise_flatMap];constructor
   .intro c _;refine(ho.1.sublist (List.filter_sublist (p:=fun m:Member=>decide (m.At.Col=(c:Int))))).imp_of_mem ?_;intro x y hx hy hxy;have h1:=(szo x hx).1;have h2:=(szo y hy).1;rw[gzw]at hxy;rw[tz7];omega
   .refine List.pairwise_lt_range.imp ?_;intro c c' hcc x hx y hy;have h1:=(szo x hx).1;have h2:=(szo y hy).1;rw[tz7];omega
 rw[r3];congr 2;have hlen:r.length=l.length:=r1.length_eq;have hk:((List.range 256).flatMap fun c=>colM c l).length<=r.length:=by rw[<-er];exact Nat.le_refl _
 rw[show hzD r.length r=hzD r.length ((List.range 256).flatMap fun c=>colM c l) by rw[<-er],IzH _ List.nodup_range hk];unfold plD;have:∀cs:List Nat,(cs.flatMap fun c=>hzD r.length (colM c l))=cs.flatMap fun c=>runs (colI l c).length (pick l (colI l c)):=by
  intro cs;induction cs with
  | nil=>rfl
  | cons c cs ih =>
   rw[List.flatMap_cons,List.flatMap_cons,ih];congr 1;have h1:=yzV (Jzd (l:=l) (c:=c));have h2:(colM c l).length<=l.length:=List.length_filter_le _ _;rw[pick_col]at h1 ⊢;rw[runs_P (c:=c) _ _ fun m hm=>⟨(szo m hm).1,(hb m (szo m hm).2).2.2⟩,zzg r.length (colI l c).length _ (by omega) (by omega)]
 exact this _
theorem groupP_is {g:Group}(h:fewE g.E):qzR g=some (cgD g):=by
 unfold qzR qzS cgD ltC;simp only[azj,bzV];rw[goodE,goodE,nz7,nz7];simp only[aza];cases hA:gdC g.A
 .rfl
 cases hB:gdC g.B
 .rfl
 have:=gdC_b hA;have:=gdC_b hB;have e1:i64.wrap (i64.wrap (g.B.Row-g.A.Row)+1)=rows g:=by rw[azH (n:=g.B.Row-g.A.Row) (by omega) (by omega),azH (by omega) (by omega)];rfl
 have e2:i64.wrap (i64.wrap (g.B.Col-g.A.Col)+1)=cols g:=by rw[azH (n:=g.B.Col-g.A.Col) (by omega) (by omega),azH (by omega) (by omega)];rfl
 rw[e1,e2];by_cases c1:g.B.Row<g.A.Row
 .rw[dT0 c1,dT0 (show rows g<1 by unfold rows;omega)];rfl
 rw[dF0 c1,dF0 (show ¬rows g<1 by unfold rows;omega)];by_cases c2:g.B.Col<g.A.Col
 .rw[dT0 c2,dT0 (show cols g<1 by unfold cols;omega)];rfl
 have hb:ltC g=true:=by unfold ltC;rw[hA,hB,dF0 c1,dF0 c2];rfl
 obtain⟨a1,a2,a3,a4,a5,a6⟩:=wz1 hb;rw[dF0 c2,dF0 (show ¬cols g<1 by omega),azH (by omega) (by omega),(lz3 (by have:=h.1;omega) h.2).1];simp only[aza];rw[show(true&&(true&&(!false&&!false)))=true from rfl,cond_true];by_cases c3:1024<rows g*cols g
 .rw[dT0 c3,if_pos c3];rfl
 rw[dF0 c3,if_neg c3];have f1:decide (cols g=1)=decide (g.A.Col=g.B.Col):=by simp only[decide_eq_decide];unfold cols;omega
 have f2:decide (rows g<2)=decide (g.A.Row=g.B.Row):=by simp only[decide_eq_decide];unfold rows;omega
 rw[f1,f2];cases g.Array<;>cases decide (g.A.Col=g.B.Col)<;>cases decide (g.A.Row=g.B.Row)<;>rfl
theorem Nzo (a b:Group):ovB a b=ovB b a:=by
 unfold ovB;rw[Bool.eq_iff_iff];simp only[Bool.and_eq_true,decide_eq_true_eq];omega
theorem OzC {a b:Group}(ha:ltC a=true)(hb:ltC b=true):ozt (a,b)=some (ovB a b):=by
 have:=vz0 ha;have:=vz0 hb;unfold ozt ovB;simp only;rw[brnA];congr 1;rw[Bool.eq_iff_iff];simp only[Bool.and_eq_true,decide_eq_true_eq];by_cases c1:a.A.Row<b.A.Row<;>by_cases c2:b.B.Row<a.B.Row<;>by_cases c3:a.A.Col<b.A.Col<;>by_cases c4:b.B.Col<a.B.Col<;>simp only[c1,c2,c3,c4,decide_true,decide_false,cond_true,cond_false]<;>omega
def GzR (l:List Group):Bool:=(List.range l.length).all fun i=>match l[i]? with
 | some a=>(l.drop (i+1)).all fun b=>!ovB a b
 | none=>true
theorem AzF {l:List Group}:apart l=true↔∀i j (hi:i<l.length) (hj:j<l.length),j<i->ovB l[i] l[j]=false:=by
 unfold apart;rw[List.all_eq_true];constructor
 .intro h i j hi hj hji;have:=h i (List.mem_range.2 hi);rw[List.getElem?_eq_getElem hi]at this;have:=List.all_eq_true.1 this l[j] (by rw[List.mem_take_iff_getElem];exact⟨j,by omega,rfl⟩);simpa using this
 .intro h i hi;have hi:=List.mem_range.1 hi;rw[List.getElem?_eq_getElem hi];simp only;rw[List.all_eq_true];intro b hb;rw[List.mem_take_iff_getElem]at hb;obtain⟨j,hj,rfl⟩:=hb;rw[h i j hi (by omega) (by omega)];rfl
theorem OzV {l:List Group}:GzR l=true↔∀i j (hi:i<l.length) (hj:j<l.length),j<i->ovB l[i] l[j]=false:=by
 unfold GzR;rw[List.all_eq_true];constructor
 .intro h i j hi hj hji;have:=h j (List.mem_range.2 hj);rw[List.getElem?_eq_getElem hj]at this;have:=List.all_eq_true.1 this l[i] (by rw[List.mem_drop_iff_getElem];exact⟨i-(j+1),by omega,by congr 1;omega⟩);rw[Nzo];simpa using this
 .intro h i hi;have hi:=List.mem_range.1 hi;rw[List.getElem?_eq_getElem hi];simp only;rw[List.all_eq_true];intro b hb;rw[List.mem_drop_iff_getElem]at hb;obtain⟨j,hj,rfl⟩:=hb;rw[Nzo,h (i+1+j) i (by omega) hi (by omega)];rfl
theorem apart_eq (l:List Group):GzR l=apart l:=by rw[Bool.eq_iff_iff,AzF,OzV]
theorem subD {A:Type}{l:List A}{i:Nat}(h:i<=l.length)(h1:l.length<=1000000):sub l (i:Int) (l.length:Int)=some (l.drop i):=by
 unfold sub;rw[dT0 (by omega),dT0 (by omega),dT0 (by omega)];simp
theorem subT {A:Type}{l:List A}{i:Nat}(h:i<=l.length)(h1:l.length<=1000000):sub l 0 (i:Int)=some (l.take i):=by
 unfold sub;rw[dT0 (by omega),dT0 (by omega),dT0 (by omega)];simp
theorem all_l3 {g:Group}{l:List Group}(hg:ltC g=true)(hl:∀x∈l,ltC x=true)(hn:l.length<=1000):nzR (g,l,(l.length:Int),0)=some (bif l.all (fun b=>!ovB g b)then .inl ()else .inr 13):=by
 refine pzu (F:=hz6) (fun i=>(g,l,(l.length:Int),(i:Int))) l (fun b=>!ovB g b) (.inr 13) (.inl ()) (by omega) ?_ ?_
 .intro back i hi;unfold hz6;simp only[azj,bzV];rw[ltT hi,azc,idxG hi,aza,OzC hg (hl _ (List.getElem_mem hi)),aza,wr1 (by omega)];cases ovB g l[i]<;>rfl
 .intro back;unfold hz6;simp only;rw[ltF];rfl
theorem Nz9 {l:List Group}(hl:l.length<=1000)(he:∀g∈l,fewE g.E):nzq l=some (csD l):=by
 have l1:nzP (l,(l.length:Int),0)=some (er (fz cgD l)):=by
  refine dz4 (F:=hz4) (fun i=>(l,(l.length:Int),(i:Int))) er l cgD (by omega) ?_ ?_
  .intro back i hi;unfold hz4;simp only[azj,bzV];rw[ltT hi,azc,idxG hi,aza,groupP_is (he _ (List.getElem_mem hi)),aza,wr1 (by omega)];by_cases c:cgD l[i]=0
   .rw[dT0 c];rfl
   .rw[dF0 c,er,if_neg c];rfl
  .intro back;unfold hz4;simp only;rw[ltF];rfl
 unfold nzq csD;rw[l1,aza];by_cases c:fz cgD l=0
 .have h0:=tz5.1 c;have l2:nzQ (l,l,(l.length:Int),0)=some (bif GzR l then .inl ()else .inr 13):=by
   refine lz9 (F:=hz5) (fun i=>(l,l,(l.length:Int),(i:Int))) l.length _ (.inr 13) (.inl ()) (by omega) ?_ ?_
   .intro back i hi;unfold hz5;simp only[azj,bzV];rw[ltT hi,azc,idxG hi,aza,wr1 (by omega),subD (by omega) (by omega),aza,all_l3 (cg0 (h0 _ (List.getElem_mem hi))).1 (fun x hx=>(cg0 (h0 x (List.mem_of_mem_drop hx))).1) (by rw[List.length_drop];omega),aza,List.getElem?_eq_getElem hi];simp only;cases(l.drop (i+1)).all fun b=>!ovB l[i] b<;>rfl
   .intro back;unfold hz5;simp only;rw[ltF];rfl
  rw[c,er0,if_pos rfl,l2,apart_eq];cases apart l<;>rfl
 .rw[er,if_neg c,if_neg c];rfl
theorem order_is (a b:Group):∃v,nzS (a,b)=some v/\decide (v<0)=dzy a.A b.A:=by
 refine⟨_,?_,or2_lt a.A.Row b.A.Row a.A.Col b.A.Col⟩;unfold nzS;simp only;rw[tz2,aza,tz2,aza,or2];rfl
def ordP (l:List Group):Bool:=(List.range (l.length-1)).all fun i=>match l[i+1]?,l[i]? with
 | some a,some b=>!dzy a.A b.A
 | _,_=>true
theorem down_loop {X Z:Type}{F:(X->Option Z)->X->Option Z}(mk:Nat->X)(n:Nat)(c:Nat->Bool)(bad ok:Z)(hn:n<=1000000000)
 (h:∀back i,i<n->F back (mk (i+1))=bif c i then back (mk i)else some bad) (hend:∀back,F back (mk 0)=some ok):iter F big (mk n)=some (bif (List.range n).all c then ok else bad):=by
 have key:∀n N,n<N->(∀back i,i<n->F back (mk (i+1))=bif c i then back (mk i)else some bad)->iter F N (mk n)=some (bif (List.range n).all c then ok else bad):=by
  intro n;induction n with
  | zero =>
   intro N hN _;obtain⟨N,rfl⟩:∃m,N=m+1:=⟨N-1,by omega⟩;rw[azz,hend];rfl
  | succ n ih =>
   intro N hN h;obtain⟨N,rfl⟩:∃m,N=m+1:=⟨N-1,by omega⟩;rw[azz,h _ n (by omega),List.range_succ,List.all_append];cases hc:c n with
   | true =>
    rw[cond_true,ih N (by omega) fun back i hi=>h back i (by omega)];simp[hc]
   | false=>simp[hc]
 exact key n big (by rw[bzT];omega) h
theorem Ozx {l:List Group}(hl:l.length<=1000):bzC (l,())=some (ordP l):=by
 unfold bzC;simp only;have step:∀n,n<=l.length-1->bzu (l,(),(n:Int))=some (bif (List.range n).all (fun i=>match l[i+1]?,l[i]? with
  | some a,some b=>!dzy a.A b.A
  | _,_=>true)then .inl ()else .inr false):=by
  intro n hn;refine down_loop (F:=azE) (fun i=>(l,(),(i:Int))) n _ (.inr false) (.inl ()) (by omega) ?_ ?_
  .intro back i hi;have h1:i+1<l.length:=by omega
   have h2:i<l.length:=by omega
   unfold azE;simp only[azj,bzV];rw[dT0 (by omega),azc,pzt (by omega) (by omega),show i+1-1=i by omega,idxG h1,idxG h2];simp only[aza];obtain⟨v,v1,v2⟩:=order_is l[i+1] l[i];rw[v1,aza,v2,List.getElem?_eq_getElem h1,List.getElem?_eq_getElem h2];simp only;cases dzy l[i+1].A l[i].A<;>rfl
  .intro back;unfold azE;simp only;rw[dF0 (by omega)];rfl
 unfold ordP;by_cases c:l.length=0
 .have:l=[]:=List.eq_nil_of_length_eq_zero c;subst this;have:bzu ([],(),-1)=some (.inl ()):=by
   show iter _ big _=_
   rw[bzT,azz];unfold azE;rfl
  rw[show i64.wrap ((([]:List Group).length:Int)-1) = -1 from rfl,this];rfl
 .rw[pzt (by omega) (by omega),step _ (Nat.le_refl _),aza,izM]
theorem Cz8:∀(A P:List Cell),(A.Pairwise fun a b=>dzy a b=true)->(P.Pairwise fun a b=>dzy a b=true)->(∀x∈A,x∈P)->A.length<=P.length/\(A.length=P.length->A=P)
 | [],P,_,_,_=>⟨Nat.zero_le _,fun h=>(List.eq_nil_of_length_eq_zero h.symm).symm⟩
 | a::A,[],_,_,h=>absurd (h a (by simp)) (by simp)
 | a::A,p::P,h1,h2,h=>by
  rw[List.pairwise_cons]at h1 h2;by_cases c:a=p
  .subst c;obtain⟨k1,k2⟩:=Cz8 A P h1.2 h2.2 fun x hx=>by
    rcases List.mem_cons.1 (h x (by simp[hx]))with rfl|k
    .have:=h1.1 _ hx;rw[gzw]at this;omega
    .exact k
   refine⟨by simp;omega,fun e=>?_⟩;rw[k2 (by simpa using e)]
  .have ha:a∈P:=by
    rcases List.mem_cons.1 (h a (by simp))with k|k
    .exact absurd k c
    .exact k
   obtain⟨k1,-⟩:=Cz8 (a::A) P (List.pairwise_cons.2 h1) h2.2 fun x hx=>by
    rcases List.mem_cons.1 (h x hx)with rfl|k
    .exfalso;have a1:=h2.1 a ha;rcases List.mem_cons.1 hx with e|hx
     .exact c e.symm
     .have a2:=h1.1 _ hx;rw[gzw]at a1 a2;omega
    .exact k
   rw[List.length_cons]at k1;refine⟨by simp;omega,fun e=>?_⟩;rw[List.length_cons,List.length_cons]at e;omega
theorem cells_inj {cs:List Cell2}(h:okCs cs):∀x∈cs,∀y∈cs,x.At=y.At->x=y:=by
 intro x hx y hy h1;obtain⟨i,hi,rfl⟩:=List.mem_iff_getElem.1 hx;obtain⟨j,hj,rfl⟩:=List.mem_iff_getElem.1 hy;by_cases c:i=j
 .subst c;rfl
 .exfalso;by_cases c2:i<j
  .have:=List.pairwise_iff_getElem.1 (tzv h) i j hi hj c2;rw[h1,gzw]at this;omega
  .have:=List.pairwise_iff_getElem.1 (tzv h) j i hj hi (by omega);rw[h1,gzw]at this;omega
theorem Iz2 {p:Cell}{c:Cell2}:atC p c=true↔c.At=p:=by
 unfold atC;rw[cellE,decide_eq_true_eq]
theorem hasC_iff {cs:List Cell2}(h:okCs cs){e:Expr}{p:Cell}:hasC cs e p=true↔∃c∈cs,c.At=p/\c.Has=true/\c.E=e:=by
 unfold hasC;constructor
 .intro k;cases hf:cs.find? (atC p)with
  | none=>rw[hf]at k;cases k
  | some c =>
   rw[hf]at k;simp only[Bool.and_eq_true,dz3]at k;exact⟨c,List.mem_of_find?_eq_some hf,Iz2.1 (List.find?_some hf),k.1,k.2⟩
 .rintro⟨c,hc,h1,h2,h3⟩;cases hf:cs.find? (atC p)with
  | none=>exact absurd (Iz2.2 h1) (by simpa using List.find?_eq_none.1 hf c hc)
  | some d =>
   have:=cells_inj h d (List.mem_of_find?_eq_some hf) c hc (by rw[Iz2.1 (List.find?_some hf),h1]);subst this;simp only[Bool.and_eq_true,dz3];exact⟨h2,h3⟩
theorem FzB {g:Group}{c:Cell}:hasG g c=true↔g.A.Row<=c.Row/\c.Row<=g.B.Row/\g.A.Col<=c.Col/\c.Col<=g.B.Col:=by unfold hasG;simp
theorem exD_pair (g:Group):(exD g).Pairwise fun x y=>dzy x.At y.At=true:=by
 unfold exD;rw[List.pairwise_flatMap];constructor
 .intro r _;rw[List.pairwise_map];refine List.pairwise_lt_range.imp ?_;intro c c' h;refine gzw.2 (.inr ⟨rfl,?_⟩)
  show g.A.Col+(c:Int)<g.A.Col+(c':Int)
  omega
 .refine List.pairwise_lt_range.imp ?_;intro r r' h x hx y hy;obtain⟨c,-,rfl⟩:=List.mem_map.1 hx;obtain⟨c',-,rfl⟩:=List.mem_map.1 hy;refine gzw.2 (.inl ?_)
  show g.A.Row+(r:Int)<g.A.Row+(r':Int)
  omega
theorem exD_mem {g:Group}{p:Cell}:p∈(exD g).map (·.At)↔hasG g p=true:=by
 rw[FzB,List.mem_map];unfold exD;constructor
 .rintro⟨x,hx,rfl⟩;obtain⟨r,hr,hx⟩:=List.mem_flatMap.1 hx;obtain⟨c,hc,rfl⟩:=List.mem_map.1 hx;have hr:=List.mem_range.1 hr;have hc:=List.mem_range.1 hc;unfold rows at hr;unfold cols at hc;simp only;omega
 .intro h;refine⟨⟨p,g.E⟩,List.mem_flatMap.2 ⟨(p.Row-g.A.Row).toNat,List.mem_range.2 (by unfold rows;omega),List.mem_map.2 ⟨(p.Col-g.A.Col).toNat,List.mem_range.2 (by unfold cols;omega),?_⟩⟩,rfl⟩;rw[show g.A.Row+((p.Row-g.A.Row).toNat:Int)=p.Row by omega,show g.A.Col+((p.Col-g.A.Col).toNat:Int)=p.Col by omega]
theorem exD_size {g:Group}(h:ltC g=true):((exD g).length:Int)=rows g*cols g:=by
 obtain⟨a1,a2,a3,a4,-,-⟩:=wz1 h;unfold exD;simp only[List.length_flatMap,List.length_map,List.length_range];rw[List.map_const',List.sum_replicate_nat,List.length_range,Int.natCast_mul,Int.toNat_of_nonneg (by omega),Int.toNat_of_nonneg (by omega)]
noncomputable def inG (g:Group)(c:Cell2):Bool:=c.Has&&(hasG g c.At&&eqX c.E g.E)
theorem fits_l1 {cs:List Cell2}{g:Group}(hl:cs.length<=1000)(he:∀c∈cs,fewE c.E)(hg:fewE g.E):rzO (g,0,cs,(cs.length:Int),0)=some ((cs.filter (inG g)).length:Int):=by
 rw[<-rz2];refine cz2 (F:=lzY) (fun(z:List Cell2) i=>(g,(z.length:Int),cs,(cs.length:Int),(i:Int))) (fun z=>(z.length:Int)) cs _ 1 [] (by omega) (fun c _=>by cases inG g c<;>simp) ?_ ?_
 .intro back z i hi hz;unfold lzY inG;simp only[azj,bzV];rw[ltT hi,azc,idxG hi,aza,hasS_is,aza,mzX (he _ (List.getElem_mem hi)) hg,aza,wr1 (i:=i) (by omega),wr1 (i:=z.length) (by simp at hz;omega)];cases cs[i].Has<;>cases hasG g cs[i].At<;>cases eqX cs[i].E g.E<;>simp
 .intro back z _;unfold lzY;simp only;rw[ltF];rfl
theorem fits_is {cs:List Cell2}{g:Group}(hl:cs.length<=1000)(hc:okCs cs)(he:∀c∈cs,fewE c.E)(hg:fewE g.E)(hb:ltC g=true):szd (cs,g)=some ((exD g).all fun x=>hasC cs g.E x.At):=by
 obtain⟨a1,a2,a3,a4,a5,a6⟩:=wz1 hb;have:=vz0 hb;have e1:i64.wrap (i64.wrap (g.B.Row-g.A.Row)+1)=rows g:=by rw[azH (n:=g.B.Row-g.A.Row) (by omega) (by omega),azH (by omega) (by omega)];rfl
 have e2:i64.wrap (i64.wrap (g.B.Col-g.A.Col)+1)=cols g:=by rw[azH (n:=g.B.Col-g.A.Col) (by omega) (by omega),azH (by omega) (by omega)];rfl
 unfold szd;simp only[azj,bzV];rw[fits_l1 hl he hg,aza,e1,e2,azH (by omega) (by omega),<-exD_size hb];congr 1;have hS:((cs.filter (inG g)).map (·.At)).Pairwise fun a b=>dzy a b=true:=by
  rw[List.pairwise_map];exact(tzv hc).sublist List.filter_sublist
 have hP:((exD g).map (·.At)).Pairwise fun a b=>dzy a b=true:=by
  rw[List.pairwise_map];exact exD_pair g
 have inS:∀p,p∈(cs.filter (inG g)).map (·.At)↔hasG g p=true/\hasC cs g.E p=true:=by
  intro p;rw[List.mem_map,hasC_iff hc];constructor
  .rintro⟨c,hcm,rfl⟩;obtain⟨h1,h2⟩:=List.mem_filter.1 hcm;unfold inG at h2;simp only[Bool.and_eq_true,dz3]at h2;exact⟨h2.2.1,c,h1,rfl,h2.1,h2.2.2⟩
  .rintro⟨h1,c,h2,rfl,h3,h4⟩;refine⟨c,List.mem_filter.2 ⟨h2,?_⟩,rfl⟩;unfold inG;simp only[Bool.and_eq_true,dz3];exact⟨h3,h1,h4⟩
 have l1:((cs.filter (inG g)).map (·.At)).length=(cs.filter (inG g)).length:=List.length_map ..;have l2:((exD g).map (·.At)).length=(exD g).length:=List.length_map ..;have s1:=Cz8 _ _ hS hP fun x hx=>exD_mem.2 ((inS x).1 hx).1
 rw[Bool.eq_iff_iff,decide_eq_true_eq,List.all_eq_true];constructor
 .intro h x hx;have e:=s1.2 (by omega);have:x.At∈(exD g).map (·.At):=List.mem_map.2 ⟨x,hx,rfl⟩;rw[<-e]at this;exact((inS _).1 this).2
 .intro h;have s2:=(Cz8 _ _ hP hS fun p hp=>by
   obtain⟨x,hx,rfl⟩:=List.mem_map.1 hp;exact(inS _).2 ⟨exD_mem.1 hp,h x hx⟩).1
  have:=s1.1;omega
theorem eqStr {l m:List (List UInt8)}(hn:l.length<=1000000):bzt (l,m)=some (eqX l m):=by
 unfold bzt;simp only;by_cases hl:l.length=m.length
 .rw[lenD hl,show(!true)=false from rfl,azd];have:=fzt (F:=dzb) (fun i=>(l,m,(l.length:Int),(i:Int))) l m hl (by omega) ?_ ?_
  .rw[show gzi (l,m,(l.length:Int),0)=_ from this,aza,izM]
  .intro back i h1 h2;unfold dzb;simp only[cond_true];rw[ltT h1,azc,idxG h1,idxG h2,aza,aza,<-Jzf,wr1 (by omega)]
  .intro back;unfold dzb;simp only;rw[ltF];rfl
 .rw[lenN hl,gz3 hl];rfl
theorem eqInt {l m:List Int}(hn:l.length<=1000000):izw (l,m)=some (eqX l m):=by
 unfold izw;simp only;by_cases hl:l.length=m.length
 .rw[lenD hl,show(!true)=false from rfl,azd];have:=fzt (F:=ezD) (fun i=>(l,m,(l.length:Int),(i:Int))) l m hl (by omega) ?_ ?_
  .rw[show jzW (l,m,(l.length:Int),0)=_ from this,aza,izM]
  .intro back i h1 h2;unfold ezD;simp only[cond_true];rw[ltT h1,azc,idxG h1,idxG h2,aza,aza,<-Jzf,wr1 (by omega)]
  .intro back;unfold ezD;simp only;rw[ltF];rfl
 .rw[lenN hl,gz3 hl];rfl
theorem eqPlace {l m:List Place}(hn:l.length<=1000000):dzB (l,m)=some (eqX l m):=by
 unfold dzB;simp only;by_cases hl:l.length=m.length
 .rw[lenD hl,show(!true)=false from rfl,azd];have:=fzt (F:=czo) (fun i=>(l,m,(l.length:Int),(i:Int))) l m hl (by omega) ?_ ?_
  .rw[show ezC (l,m,(l.length:Int),0)=_ from this,aza,izM]
  .intro back i h1 h2;unfold czo;simp only[cond_true,placeE];rw[ltT h1,azc,idxG h1,idxG h2,aza,aza,wr1 (by omega)]
  .intro back;unfold czo;simp only;rw[ltF];rfl
 .rw[lenN hl,gz3 hl];rfl
theorem eqRow {l m:List Row}(hn:l.length<=1000000):dzC (l,m)=some (eqX l m):=by
 unfold dzC;simp only;by_cases hl:l.length=m.length
 .rw[lenD hl,show(!true)=false from rfl,azd];have:=fzt (F:=czp) (fun i=>(l,m,(l.length:Int),(i:Int))) l m hl (by omega) ?_ ?_
  .rw[show ezE (l,m,(l.length:Int),0)=_ from this,aza,izM]
  .intro back i h1 h2;unfold czp;simp only[cond_true,rowE];rw[ltT h1,azc,idxG h1,idxG h2,aza,aza,wr1 (by omega)]
  .intro back;unfold czp;simp only;rw[ltF];rfl
 .rw[lenN hl,gz3 hl];rfl
theorem eqExprs {l m:List Expr}(hn:l.length<=1000000)(ha:∀x∈l,fewE x)(hb:∀x∈m,fewE x):az7 (l,m,())=some (eqX l m):=by
 unfold az7;simp only;by_cases hl:l.length=m.length
 .rw[lenD hl,show(!true)=false from rfl,azd];have:=fzt (F:=azD) (fun i=>(m,(),l,(l.length:Int),(i:Int))) l m hl (by omega) ?_ ?_
  .rw[show bzB (m,(),l,(l.length:Int),0)=_ from this,aza,izM]
  .intro back i h1 h2;unfold azD;simp only[cond_true,azj];rw[ltT h1,azc,idxG h1,idxG h2,aza,aza,mzX (ha _ (List.getElem_mem h1)) (hb _ (List.getElem_mem h2)),aza,wr1 (by omega)]
  .intro back;unfold azD;simp only;rw[ltF];rfl
 .rw[lenN hl,gz3 hl];rfl
theorem fzb {l m:List Cell2}(hn:l.length<=1000000)(ha:∀x∈l,fewE x.E)(hb:∀x∈m,fewE x.E):azW (l,m,())=some (eqX l m):=by
 unfold azW;simp only;by_cases hl:l.length=m.length
 .rw[lenD hl,show(!true)=false from rfl,azd];have:=fzt (F:=azB) (fun i=>(m,(),l,(l.length:Int),(i:Int))) l m hl (by omega) ?_ ?_
  .rw[show bzs (m,(),l,(l.length:Int),0)=_ from this,aza,izM]
  .intro back i h1 h2;unfold azB;simp only[cond_true,azj,kzi];rw[ltT h1,azc,idxG h1,idxG h2,aza,aza,Nz8 (ha _ (List.getElem_mem h1)) (hb _ (List.getElem_mem h2)),aza,wr1 (by omega)]
  .intro back;unfold azB;simp only;rw[ltF];rfl
 .rw[lenN hl,gz3 hl];rfl
theorem MzA {l m:List Group}(hn:l.length<=1000000)(ha:∀x∈l,fewE x.E)(hb:∀x∈m,fewE x.E):azq (l,m,())=some (eqX l m):=by
 unfold azq;simp only;by_cases hl:l.length=m.length
 .rw[lenD hl,show(!true)=false from rfl,azd];have:=fzt (F:=azx) (fun i=>(m,(),l,(l.length:Int),(i:Int))) l m hl (by omega) ?_ ?_
  .rw[show az5 (m,(),l,(l.length:Int),0)=_ from this,aza,izM]
  .intro back i h1 h2;unfold azx;simp only[cond_true,azj,bzV];rw[ltT h1,azc,idxG h1,idxG h2,aza,aza,MzQ (ha _ (List.getElem_mem h1)) (hb _ (List.getElem_mem h2)),aza,wr1 (by omega)]
  .intro back;unfold azx;simp only;rw[ltF];rfl
 .rw[lenN hl,gz3 hl];rfl
theorem NzT {a b:Sheet}(ha:fewS a)(hb:fewS b):szc (a,b)=some (eqX a b):=by
 unfold szc;simp only;rw[eqRow (by have:=ha.rows;omega),fzb (by have:=ha.cells;omega) (fun x hx=>(ha.cellE x hx).1) (fun x hx=>(hb.cellE x hx).1),MzA (by have:=ha.groups;omega) ha.groupE hb.groupE];simp only[aza];rw[brnA,brnA,sheetE]
theorem eqSheets {l m:List Sheet}(hn:l.length<=1000000)(ha:∀x∈l,fewS x)(hb:∀x∈m,fewS x):azI (l,m,())=some (eqX l m):=by
 unfold azI;simp only;by_cases hl:l.length=m.length
 .rw[lenD hl,show(!true)=false from rfl,azd];have:=fzt (F:=azy) (fun i=>(m,(),l,(l.length:Int),(i:Int))) l m hl (by omega) ?_ ?_
  .rw[show bzh (m,(),l,(l.length:Int),0)=_ from this,aza,izM]
  .intro back i h1 h2;unfold azy;simp only[cond_true];rw[ltT h1,azc,idxG h1,idxG h2,aza,aza,NzT (ha _ (List.getElem_mem h1)) (hb _ (List.getElem_mem h2)),aza,wr1 (by omega)]
  .intro back;unfold azy;simp only;rw[ltF];rfl
 .rw[lenN hl,gz3 hl];rfl
theorem Ozt {a b:Globals}(ha:fewG a)(hb:fewG b):tzD (a,b)=some (eqX a b):=by
 unfold tzD;simp only;rw[eqStr (by have:=ha.sheets;omega),eqStr (by have:=ha.formats;omega),eqInt (by have:=ha.xfs;omega),eqExprs (by have:=ha.names;omega) ha.nameE hb.nameE,eqStr (by have:=ha.texts;omega),eqPlace (by have:=ha.chain;omega)];simp only[aza];rw[brnA,brnA,brnA,brnA,brnA,brnA,globE]
theorem EzD {a b:Book}(ha:fewB a)(hb:fewB b):mza (a,b)=some (eqX a b):=by
 unfold mza;simp only;rw[Ozt ha.glob hb.glob,eqSheets (by have:=ha.sheets;omega) ha.sheet hb.sheet];simp only[aza];rw[brnA,bookE]
theorem osumC (c:Bool)(x:Option Bool):(osum (bif c then .inl ()else .inr false:Unit⊕Bool) (fun _=>x) fun y=>some y)=bif c then x else some false:=by cases c<;>rfl
theorem bifC (c b:Bool):(bif c then some b else some false)=some (c&&b):=by cases c<;>rfl
theorem dXF {a b:Globals}(hl:a.XFs.length=b.XFs.length)(hn:a.XFs.length<=1000000):lzL (a,b,0)=some (bif eqX a.XFs b.XFs then .inl ()else .inr false):=by
 refine fzt (F:=fzx) (fun i=>(a,b,(i:Int))) a.XFs b.XFs hl (by omega) ?_ ?_
 .intro back i h1 h2;unfold fzx;simp only[cond_true];rw[ltT h1,azc,idxG h1,idxG h2,aza,aza,<-Jzf,wr1 (by omega)]
 .intro back;unfold fzx;simp only;rw[ltF];rfl
theorem dName {a b:Globals}(hl:a.Names.length=b.Names.length)(hn:a.Names.length<=1000000)(ha:∀x∈a.Names,fewE x):lzM (a,b,0)=some (bif eqX a.Names b.Names then .inl ()else .inr false):=by
 refine fzt (F:=fzy) (fun i=>(a,b,(i:Int))) a.Names b.Names hl (by omega) ?_ ?_
 .intro back i h1 h2;unfold fzy;simp only[cond_true,azj];rw[ltT h1,azc,idxG h1,idxG h2,aza,aza,nzM (ha _ (List.getElem_mem h1)),aza,wr1 (by omega)]
 .intro back;unfold fzy;simp only;rw[ltF];rfl
theorem dChain {a b:Globals}(hl:a.Chain.length=b.Chain.length)(hn:a.Chain.length<=1000000):lzN (a,b,0)=some (bif eqX a.Chain b.Chain then .inl ()else .inr false):=by
 refine fzt (F:=fzz) (fun i=>(a,b,(i:Int))) a.Chain b.Chain hl (by omega) ?_ ?_
 .intro back i h1 h2;unfold fzz;simp only[cond_true,placeE];rw[ltT h1,azc,idxG h1,idxG h2,aza,aza,wr1 (by omega)]
 .intro back;unfold fzz;simp only;rw[ltF];rfl
theorem dRow {a b:Sheet}(hl:a.Rows.length=b.Rows.length)(hn:a.Rows.length<=1000000):mz6 (a,b,0)=some (bif eqX a.Rows b.Rows then .inl ()else .inr false):=by
 refine fzt (F:=gzG) (fun i=>(a,b,(i:Int))) a.Rows b.Rows hl (by omega) ?_ ?_
 .intro back i h1 h2;unfold gzG;simp only[cond_true,rowE];rw[ltT h1,azc,idxG h1,idxG h2,aza,aza,wr1 (by omega)]
 .intro back;unfold gzG;simp only;rw[ltF];rfl
theorem dCell {a b:Sheet}(hl:a.Cells.length=b.Cells.length)(hn:a.Cells.length<=1000000)(ha:∀x∈a.Cells,fewE x.E):mz7 (a,b,0)=some (bif eqX a.Cells b.Cells then .inl ()else .inr false):=by
 refine fzt (F:=gzH) (fun i=>(a,b,(i:Int))) a.Cells b.Cells hl (by omega) ?_ ?_
 .intro back i h1 h2;unfold gzH;simp only[cond_true,azj,kzi];rw[ltT h1,azc,idxG h1,idxG h2,aza,aza,Mzr (ha _ (List.getElem_mem h1)),aza,wr1 (by omega)]
 .intro back;unfold gzH;simp only;rw[ltF];rfl
theorem dGroup {a b:Sheet}(hl:a.Groups.length=b.Groups.length)(hn:a.Groups.length<=1000000)(ha:∀x∈a.Groups,fewE x.E):mz8 (a,b,0)=some (bif eqX a.Groups b.Groups then .inl ()else .inr false):=by
 refine fzt (F:=gzI) (fun i=>(a,b,(i:Int))) a.Groups b.Groups hl (by omega) ?_ ?_
 .intro back i h1 h2;unfold gzI;simp only[cond_true,azj,bzV];rw[ltT h1,azc,idxG h1,idxG h2,aza,aza,Czl (ha _ (List.getElem_mem h1)),aza,wr1 (by omega)]
 .intro back;unfold gzI;simp only;rw[ltF];rfl
theorem Lz3 {a b:Sheet}(ha:fewS a):mzj (a,b)=some (eqX a b):=by
 have h1:=ha.rows;have h2:=ha.cells;have h3:=ha.groups;unfold mzj;simp only;rw[<-sheetE];by_cases c1:a.Rows.length=b.Rows.length
 .by_cases c2:a.Cells.length=b.Cells.length
  .by_cases c3:a.Groups.length=b.Groups.length
   .rw[lenD c1,lenD c2,lenD c3,dRow c1 (by omega),dCell c2 (by omega) (fun x hx=>(ha.cellE x hx).1),dGroup c3 (by omega) ha.groupE];simp only[aza,izM,osumC];rw[bifC,bifC];rfl
   .rw[lenD c1,lenD c2,lenN c3,gz3 c3];simp
  .rw[lenD c1,lenN c2,gz3 c2];simp
 .rw[lenN c1,gz3 c1];simp
theorem dSheet {a b:Book}(hl:a.Sheets.length=b.Sheets.length)(hn:a.Sheets.length<=1000000)(ha:∀x∈a.Sheets,fewS x):rzG (a,b,0)=some (bif eqX a.Sheets b.Sheets then .inl ()else .inr false):=by
 refine fzt (F:=lzO) (fun i=>(a,b,(i:Int))) a.Sheets b.Sheets hl (by omega) ?_ ?_
 .intro back i h1 h2;unfold lzO;simp only[cond_true];rw[ltT h1,azc,idxG h1,idxG h2,aza,aza,Lz3 (ha _ (List.getElem_mem h1)),aza,wr1 (by omega)]
 .intro back;unfold lzO;simp only;rw[ltF];rfl
theorem MzN {a b:Globals}(ha:fewG a)(hb:fewG b):kzF (a,b)=some (eqX a b):=by
 obtain⟨h1,h2,h3,h4,h5,h6,h7⟩:=ha;obtain⟨k1,k2,k3,k4,k5,k6,k7⟩:=hb;unfold kzF;simp only;rw[<-globE,qz1 (by omega),qz1 (by omega),qz1 (by omega)];simp only[aza];by_cases c1:a.XFs.length=b.XFs.length
 .by_cases c2:a.Names.length=b.Names.length
  .by_cases c3:a.Chain.length=b.Chain.length
   .rw[lenD c1,lenD c2,lenD c3,dXF c1 (by omega),dName c2 (by omega) h7,dChain c3 (by omega)];simp only[aza,izM,osumC];cases eqX a.Sheets b.Sheets<;>cases eqX a.Formats b.Formats<;>cases eqX a.Texts.Texts b.Texts.Texts<;>cases decide (a.Texts.Uses=b.Texts.Uses)<;>cases eqX a.XFs b.XFs<;>cases eqX a.Names b.Names<;>cases eqX a.Chain b.Chain<;>rfl
   .rw[lenD c1,lenD c2,lenN c3,gz3 c3];cases eqX a.Sheets b.Sheets<;>cases eqX a.Formats b.Formats<;>cases eqX a.Texts.Texts b.Texts.Texts<;>cases decide (a.Texts.Uses=b.Texts.Uses)<;>simp
  .rw[lenD c1,lenN c2,gz3 c2];cases eqX a.Sheets b.Sheets<;>cases eqX a.Formats b.Formats<;>simp
 .rw[lenN c1,gz3 c1];cases eqX a.Sheets b.Sheets<;>cases eqX a.Formats b.Formats<;>simp
theorem Mzk {a b:Book}(ha:fewB a)(hb:fewB b):rz8 (a,b)=some (eqX a b):=by
 unfold rz8;simp only;rw[<-bookE,MzN ha.glob hb.glob];simp only[aza];by_cases c1:a.Sheets.length=b.Sheets.length
 .rw[lenD c1,dSheet c1 (by have:=ha.sheets;omega) ha.sheet];simp only[aza,izM];cases eqX a.Globals b.Globals<;>rfl
 .rw[lenN c1,gz3 c1];cases eqX a.Globals b.Globals<;>simp
theorem pre_is {s:Sheet}(hl:s.Groups.length<=1000):∃n:Nat,ozU (s,0)=some (n:Int)/\n<=s.Groups.length/\(∀g∈s.Groups.take n,g.Array=true)/\∀h:n<s.Groups.length,s.Groups[n].Array=false:=by
 obtain⟨y,e1,n,rfl,e2⟩:=scan (F:=izW) (fun(_:Unit) i=>(s,(i:Int))) s.Groups.length (fun _ i=>∀g∈s.Groups.take i,g.Array=true)
  (fun y=>∃n:Nat,y=(n:Int)/\n<=s.Groups.length/\(∀g∈s.Groups.take n,g.Array=true)/\∀h:n<s.Groups.length,s.Groups[n].Array=false) (by omega)
  (by
   intro back _ i hi h;unfold izW;simp only;rw[ltT hi,azc,idxG hi,aza,wr1 (by omega)];cases ha:s.Groups[i].Array
   .exact .inl ⟨_,rfl,i,rfl,by omega,h,fun _=>ha⟩
   .refine .inr ⟨(),rfl,fun g hg=>?_⟩;rw[List.take_succ_eq_append_getElem hi]at hg;rcases List.mem_append.1 hg with hg|hg
    .exact h g hg
    .simp at hg;rw[hg];exact ha)
  (by
   intro back _ h;unfold izW;simp only;rw[ltF];exact⟨_,rfl,s.Groups.length,rfl,Nat.le_refl _,h,fun h=>absurd h (by omega)⟩) () (by simp)
 exact⟨n,e1,e2⟩
theorem HzT (o:Option Nat):(obnd (osum (loc o) (fun _=>some (-1:Int)) fun y=>some y) fun y=>some (decide (0<=y)))=some o.isSome:=by
 cases o with
 | none=>rfl
 | some i=>show some (decide ((0:Int)<=(i:Int)))=_;rw[dT0 (by omega)];rfl
theorem tzE {A:Type}(l:List A)(p:A->Bool):(l.findIdx? p).isSome=l.any p:=by simp
theorem planIn {c:Cell2}{a:List Group}(ha:a.length<=1000):bzr (c,a,())=some (a.any fun g=>hasG g c.At):=by
 unfold bzr cze;simp only[azj,kzi];have:=kzo (F:=azX) (fun i=>(c,a,(),(a.length:Int),(i:Int))) loc a (fun g=>hasG g c.At) (by omega)
  (by
   intro back i hi;unfold azX pzJ;simp only[azj,bzV,kzi,xzt];rw[ltT hi,azc,idxG hi,aza,show kzL (a[i],c.At)=_ from Az9 a[i] c.At,aza,wr1 (by omega)];rfl)
  (by
   intro back;unfold azX;simp only;rw[ltF];rfl)
 rw[show bz0 (c,a,(),(a.length:Int),0)=_ from this,aza,HzT,tzE]
theorem inA_all {a:List Group}(h:∀g∈a,g.Array=true)(c:Cell):inA a c=a.any fun g=>hasG g c:=by
 unfold inA;induction a with
 | nil=>rfl
 | cons g a ih=>rw[List.any_cons,List.any_cons,ih fun x hx=>h x (by simp[hx]),h g (by simp)];rfl
theorem mem_ok {cs:List Cell2}{a:List Group}(h:okCs cs):okM (mem cs a):=by
 unfold mem;constructor
 .rw[List.pairwise_flatMap];refine⟨fun c _=>PzR (by cases c.Has&&!inA a c.At<;>simp),(tzv h).imp ?_⟩;intro c d hcd x hx y hy;cases h1:c.Has&&!inA a c.At
  .rw[h1]at hx;cases hx
  .cases h2:d.Has&&!inA a d.At
   .rw[h2]at hy;cases hy
   .rw[h1]at hx;rw[h2]at hy;simp at hx hy;rw[hx,hy];exact hcd
 .intro m hm;obtain⟨c,hc,hm⟩:=List.mem_flatMap.1 hm;cases h1:c.Has&&!inA a c.At
  .rw[h1]at hm;cases hm
  .rw[h1]at hm;simp at hm;rw[hm];exact(h.1 c hc).1
theorem OzD {cs:List Cell2}{a:List Group}(hl:cs.length<=1000)(ha:a.length<=1000)(hA:∀g∈a,g.Array=true)(hc:okCs cs)(he:∀c∈cs,fewE c.E):jzv (cs,a)=some (plD (mem cs a)):=by
 have l1:ozT (a,[],cs,(cs.length:Int),0)=some (mem cs a):=by
  refine cz2 (F:=izV) (fun s i=>(a,s,cs,(cs.length:Int),(i:Int))) id cs _ 1 [] (by omega) (fun c _=>by cases c.Has&&!inA a c.At<;>simp) ?_ ?_
  .intro back s i hi hs;unfold izV;simp only[azj,kzi];rw[ltT hi,azc,idxG hi,aza,planIn ha,aza,<-inA_all hA,wr1 (by omega),appN (by simp at hs ⊢;omega),aza];cases cs[i].Has<;>cases inA a cs[i].At<;>simp
  .intro back s _;unfold izV;simp only;rw[ltF];rfl
 unfold jzv;simp only;obtain⟨o,e⟩:=planP_eq (l:=mem cs a) (by have:=mem_len cs a;omega) (CzZ he) (mem_ok hc);rw[l1,aza,e];rfl
noncomputable def fitA (cs:List Cell2)(g:Group):Bool:=(exD g).all fun x=>hasC cs g.E x.At
theorem fitsIn {s:Sheet}{a:List Group}(hl:s.Cells.length<=1000)(ha:a.length<=1000)(hc:okCs s.Cells)(he:∀c∈s.Cells,fewE c.E)(hg:∀g∈a,fewE g.E)(hb:∀g∈a,ltC g=true):
 azV (s,a,())=some (a.any fun g=>!fitA s.Cells g):=by
 unfold azV czf;simp only;have:=kzo (F:=azY) (fun i=>(s,a,(),(a.length:Int),(i:Int))) loc a (fun g=>!fitA s.Cells g) (by omega)
  (by
   intro back i hi;have hm:=List.getElem_mem hi;unfold azY pzK;simp only[azj,bzV];rw[ltT hi,azc,idxG hi,aza,fits_is hl hc he (hg _ hm) (hb _ hm),aza,aza,wr1 (by omega)]
   show brn (bif fitA s.Cells a[i]then false else true) _ _=_
   cases fitA s.Cells a[i]<;>rfl)
  (by
   intro back;unfold azY;simp only;rw[ltF];rfl)
 rw[show bz1 (s,a,(),(a.length:Int),0)=_ from this,aza,HzT,tzE]
theorem ord_apart {a:List Group}(h0:∀g∈a,cgD g=0)(hx:apart a=true)(cs:List Cell2):(ordP a&&!(a.any fun g=>!fitA cs g))=(List.range a.length).all (gOk cs a):=by
 rw[Bool.eq_iff_iff,Bool.and_eq_true,List.all_eq_true];unfold ordP;rw[List.all_eq_true,Bool.not_eq_true',List.any_eq_false];have strict:∀i (h:i+1<a.length),dzy a[i+1].A a[i].A=false↔dzy a[i].A a[i+1].A=true:=by
  intro i h;have:=AzF.1 hx (i+1) i h (by omega) (by omega);have b1:=vz0 (cg0 (h0 _ (List.getElem_mem h))).1;have b2:=vz0 (cg0 (h0 _ (List.getElem_mem (by omega:i<a.length)))).1;have ne:¬(a[i].A.Row=a[i+1].A.Row/\a[i].A.Col=a[i+1].A.Col):=by
   intro e;unfold ovB at this;rw[dT0 (by omega),dT0 (by omega),dT0 (by omega),dT0 (by omega)]at this;cases this
  constructor
  .intro k;have k:¬dzy a[i+1].A a[i].A=true:=by rw[k];simp
   rw[gzw]at *;omega
  .intro k;cases e:dzy a[i+1].A a[i].A
   .rfl
   .rw[gzw]at k e;omega
 constructor
 .rintro⟨h1,h2⟩ i hi;have hi:=List.mem_range.1 hi;unfold gOk;rw[List.getElem?_eq_getElem hi];simp only;have f:fitA cs a[i]=true:=by simpa using h2 _ (List.getElem_mem hi)
  rw[show((exD a[i]).all fun x=>hasC cs a[i].E x.At)=true from f,Bool.and_true];by_cases c:i=0
  .rw[dT0 c];rfl
  .obtain⟨j,rfl⟩:∃j,i=j+1:=⟨i-1,by omega⟩;have:=h1 j (List.mem_range.2 (by omega));rw[List.getElem?_eq_getElem hi,List.getElem?_eq_getElem (by omega:j<a.length)]at this;rw[dF0 c,Bool.false_or,show j+1-1=j by omega,List.getElem?_eq_getElem (by omega:j<a.length)];exact(strict j hi).1 (by simpa using this)
 .intro h;constructor
  .intro i hi;have hi:i+1<a.length:=by have:=List.mem_range.1 hi;omega
   rw[List.getElem?_eq_getElem hi,List.getElem?_eq_getElem (by omega:i<a.length)];have:=h (i+1) (List.mem_range.2 hi);unfold gOk at this;rw[List.getElem?_eq_getElem hi,show i+1-1=i by omega,List.getElem?_eq_getElem (by omega:i<a.length)]at this;simp only[Bool.and_eq_true,Bool.or_eq_true,decide_eq_true_eq]at this;rcases this.1 with k|k
   .omega
   .simp only;rw[(strict i hi).2 k];rfl
  .intro g hg;obtain⟨i,hi,rfl⟩:=List.mem_iff_getElem.1 hg;have:=h i (List.mem_range.2 hi);unfold gOk at this;rw[List.getElem?_eq_getElem hi]at this;simp only[Bool.and_eq_true]at this
   show ¬(!fitA cs a[i])=true
   rw[show fitA cs a[i]=true from this.2];simp
theorem Ozv {s:Sheet}(h:fewS s)(hc:okCs s.Cells):ozu s=some (grD s):=by
 have h1:=h.cells;have h2:=h.groups;have ce:=fun x hx=>(h.cellE x hx).1
 obtain⟨n,e1,e2,e3,e4⟩:=pre_is (s:=s) (by omega);unfold ozu;rw[e1,aza,subT e2 (by omega),aza,subD e2 (by omega)];have al:(s.Groups.take n).length<=20:=by rw[List.length_take];omega
 have ae:∀g∈s.Groups.take n,fewE g.E:=fun g hg=>h.groupE g (List.mem_of_mem_take hg)
 have de:∀g∈s.Groups.drop n,fewE g.E:=fun g hg=>h.groupE g (List.mem_of_mem_drop hg)
 have split:s.Groups=s.Groups.take n++s.Groups.drop n:=(List.take_append_drop n s.Groups).symm;have dh:∀g t,s.Groups.drop n=g::t->g.Array=false:=by
  intro g t e;have hn:n<s.Groups.length:=by
   apply Decidable.byContradiction;intro k;rw[List.drop_eq_nil_of_le (by omega)]at e;cases e
  rw[List.drop_eq_getElem_cons hn]at e;injection e with e5 e6;rw[<-e5];exact e4 hn
 have dl:(s.Groups.drop n).length<=20:=by rw[List.length_drop];omega
 have fil:s.Groups.filter (·.Array)=s.Groups.take n++(s.Groups.drop n).filter (·.Array):=by
  conv=>lhs;rw[split]
  rw[List.filter_append,List.filter_eq_self.2 e3]
 unfold grD;rw[fil];generalize s.Groups.take n=a at *;generalize s.Groups.drop n=d at *;rw[split];rw[Nz9 (by omega) ae,aza,Ozx (by omega)];simp only[aza];have pe:∀a,∀g∈plD (mem s.Cells a),fewE g.E:=fun a g hg=>by
  obtain⟨-,m,hm,k⟩:=plD_E g hg;rw[k];exact CzZ ce m hm
 have key:(brn (!decide (csD a=0)) (some false) (brn (!ordP a) (some false) (obnd (azV (s,a,())) fun y_3=>brn y_3 (some false) (obnd (jzv (s.Cells,a)) fun y=>obnd (azq (d,y,())) fun y=>some y)))) =
  some (bif decide (csD a=0)then(bif (List.range a.length).all (gOk s.Cells a)then eqX d (plD (mem s.Cells a))else false)else false):=by
  by_cases c0:csD a=0
  .obtain⟨q1,q2⟩:=cs0 c0;rw[dT0 c0,fitsIn (by omega) (by omega) hc ce ae (fun g hg=>(cg0 (q1 g hg)).1),OzD (by omega) (by omega) e3 hc ce];simp only[aza];rw[MzA (by omega) de (pe a),<-ord_apart q1 q2];cases ordP a<;>cases(a.any fun g=>!fitA s.Cells g)<;>rfl
  .rw[dF0 c0];rfl
 refine Eq.trans ?_ (key.trans ?_)
 .rfl
 congr 1;cases hf:d.filter (·.Array)with
 | nil =>
  rw[List.append_nil];have:eqX (a++plD (mem s.Cells a)) (a++d)=eqX d (plD (mem s.Cells a)):=by
   rw[Bool.eq_iff_iff,dz3,dz3];constructor
   .intro k;exact(List.append_cancel_left k).symm
   .intro k;rw[k]
  rw[this]
 | cons g t =>
  have hg:g∈d/\g.Array=true:=by
   have:=List.mem_filter.1 (show g∈d.filter (·.Array) by rw[hf];simp);exact this
  have n1:eqX d (plD (mem s.Cells a))=false:=kzm fun k=>by
   have:=(plD_E g (k▸hg.1)).1;rw[hg.2]at this;cases this
  have n2:eqX (a++(g::t)++plD (mem s.Cells (a++g::t))) (a++d)=false:=kzm fun k=>by
   rw[List.append_assoc,List.cons_append]at k;have k:=List.append_cancel_left k;have:=dh _ _ k.symm;rw[hg.2]at this;cases this
  rw[n1,n2];cases decide (csD a=0)<;>cases(List.range a.length).all (gOk s.Cells a)<;>cases decide (csD (a++g::t)=0)<;>cases(List.range (a++g::t).length).all (gOk s.Cells (a++g::t))<;>rfl
abbrev zeroE:Expr:=⟨0,⟨0,⟨0,0⟩,[],false,0⟩,⟨⟨0,0,false,false⟩,⟨0,0,false,false⟩⟩,0,0,[]⟩
theorem zero_few:fewE zeroE:=⟨by simp[sz],by simp[tr]⟩
theorem cellP_is {x:Cell2}(h:fewE x.E)(hv:x.V.S.length<=3000):pz5 x=czB x:=by
 unfold pz5 czB;obtain⟨v,v1,v2,-⟩:=uzj hv;rw[goodE,v1,v2,azj,mzX h zero_few,nzM h,(lz3 (by have:=h.1;omega) h.2).1,(lz3 (by have:=h.1;omega) h.2).2]
theorem cord_is (a b:Cell):∃v,pz6 (a,b)=some v/\decide (0<=v) = !dzy a b:=by
 refine⟨if cmpV a.Row b.Row≠0 then cmpV a.Row b.Row else cmpV a.Col b.Col,?_,?_⟩
 .unfold pz6;simp only;rw[tz2,aza,tz2,aza,or2];rfl
 .have:=or2_lt a.Row b.Row a.Col b.Col;unfold dzy;rw[<-this,<-decide_not];simp only[decide_eq_decide];omega
def yzq (x:Cell2):Int:=(czB x).getD 0
theorem uzh {x:Cell2}(h:fewE x.E)(hv:x.V.S.length<=3000):czB x=some (yzq x):=by
 obtain⟨r,hr,-⟩:=cell_is h hv;unfold yzq;rw[hr];rfl
def crD (l:List Cell2)(i:Nat):Int:=match l[i]? with
 | some x=>if yzq x=0 then(if i=0 then 0 else match l[i-1]? with
  | some p=>bif dzy p.At x.At then 0 else 6
  | none=>0)else yzq x
 | none=>0
theorem cells_eq {l:List Cell2}(hl:l.length<=1000)(hc:∀x∈l,fewE x.E/\x.V.S.length<=3000):nzf l=ezb l:=by
 have p1:nzw (l,l,(l.length:Int),0)=some (er (fz (crD l) (List.range l.length))):=by
  refine dz4 (F:=hzX) (fun i=>(l,l,(l.length:Int),(i:Int))) er (List.range l.length) (crD l) (by simp;omega) ?_ ?_
  .intro back i hi;have hi':i<l.length:=by simpa using hi
   obtain⟨c1,c2⟩:=hc _ (List.getElem_mem hi');unfold hzX;simp only[azj,kzi];rw[ltT hi',azc,idxG hi',aza,cellP_is c1 c2,uzh c1 c2,aza,wr1 (by omega),List.getElem_range];generalize hv:crD l i=v;unfold crD at hv;rw[List.getElem?_eq_getElem hi']at hv;simp only at hv;by_cases e1:yzq l[i]=0
   .rw[if_pos e1]at hv;rw[dT0 e1,show(!true)=false from rfl,azd];by_cases e2:i=0
    .rw[if_pos e2]at hv;subst hv;rw[dF0 (by omega)];rfl
    .rw[if_neg e2,List.getElem?_eq_getElem (by omega:i-1<l.length)]at hv;simp only at hv;rw[dT0 (by omega),azc,pzt (by omega) (by omega),idxG (by omega:i-1<l.length),aza];obtain⟨w,w1,w2⟩:=cord_is l[i-1].At l[i].At;rw[w1,aza,w2];cases ha:dzy l[i-1].At l[i].At
     .rw[ha]at hv;subst hv;rfl
     .rw[ha]at hv;subst hv;rfl
   .rw[if_neg e1]at hv;subst hv;rw[dF0 e1,er,if_neg e1];rfl
  .intro back;unfold hzX;simp only;rw[List.length_range,ltF];rfl
 have p2:gzc (l,0)=some (er (fz (crD l) (List.range l.length))):=by
  refine dz4 (F:=bzY) (fun i=>(l,(i:Int))) er (List.range l.length) (crD l) (by simp;omega) ?_ ?_
  .intro back i hi;have hi':i<l.length:=by simpa using hi
   obtain⟨c1,c2⟩:=hc _ (List.getElem_mem hi');unfold bzY;simp only[azj,kzi];rw[ltT hi',azc,idxG hi',aza,uzh c1 c2,aza,wr1 (by omega),List.getElem_range];generalize hv:crD l i=v;unfold crD at hv;rw[List.getElem?_eq_getElem hi']at hv;simp only at hv;by_cases e1:yzq l[i]=0
   .rw[if_pos e1]at hv;rw[dT0 e1,show(!true)=false from rfl,azd];by_cases e2:i=0
    .rw[if_pos e2]at hv;subst hv;rw[dF0 (by omega)];rfl
    .rw[if_neg e2,List.getElem?_eq_getElem (by omega:i-1<l.length)]at hv;simp only at hv;rw[dT0 (by omega),azc,pzt (by omega) (by omega),idxG (by omega:i-1<l.length),aza,aza,yzl,aza];cases ha:dzy l[i-1].At l[i].At
     .rw[ha]at hv;subst hv;rfl
     .rw[ha]at hv;subst hv;rfl
   .rw[if_neg e1]at hv;subst hv;rw[dF0 e1,er,if_neg e1];rfl
  .intro back;unfold bzY;simp only;rw[List.length_range,ltF];rfl
 unfold nzf ezb;rw[p1,p2]
theorem rowsP_is {l:List Row}(hl:l.length<=1000):mzq l=some (fz (rwD l) (List.range l.length)):=by
 have:mz9 (l,l,(l.length:Int),0)=some (er (fz (rwD l) (List.range l.length))):=by
  refine dz4 (F:=gzJ) (fun i=>(l,l,(l.length:Int),(i:Int))) er (List.range l.length) (rwD l) (by simp;omega) ?_ ?_
  .intro back i hi;have hi':i<l.length:=by simpa using hi
   unfold gzJ;simp only;rw[ltT hi',azc,idxG hi',aza,wr1 (by omega),List.getElem_range];generalize hv:rwD l i=v;unfold rwD at hv;rw[List.getElem?_eq_getElem hi']at hv;simp only at hv;by_cases c1:l[i].Row<0
   .rw[if_pos c1]at hv;subst hv;rw[dT0 c1];rfl
   rw[if_neg c1]at hv;rw[dF0 c1,azd];by_cases c2:65536<=l[i].Row
   .rw[if_pos c2]at hv;subst hv;rw[dT0 c2];rfl
   rw[if_neg c2]at hv;rw[dF0 c2,azd];by_cases c3:l[i].Height<0
   .rw[if_pos c3]at hv;subst hv;rw[dT0 c3];rfl
   rw[if_neg c3]at hv;rw[dF0 c3,azd];by_cases c4:32767<l[i].Height
   .rw[if_pos c4]at hv;subst hv;rw[dT0 c4];rfl
   rw[if_neg c4]at hv;rw[dF0 c4,azd];by_cases c5:i=0
   .rw[if_pos c5]at hv;subst hv;rw[dF0 (by omega)];rfl
   rw[if_neg c5,List.getElem?_eq_getElem (by omega:i-1<l.length)]at hv;simp only at hv;rw[dT0 (by omega),azc,pzt (by omega) (by omega),idxG (by omega:i-1<l.length),aza];by_cases c6:l[i].Row<=l[i-1].Row
   .rw[if_pos c6]at hv;subst hv;rw[dT0 c6];rfl
   .rw[if_neg c6]at hv;subst hv;rw[dF0 c6];rfl
  .intro back;unfold gzJ;simp only;rw[List.length_range,ltF];rfl
 unfold mzq;rw[dF0 (by omega),azd,this,aza];unfold er;by_cases c:fz (rwD l) (List.range l.length)=0
 .rw[c];rfl
 .rw[if_neg c];rfl
theorem sheetP_is {s:Sheet}(h:fewS s):hz7 s=bzw s:=by
 have h1:=h.rows;have h2:=h.cells;obtain⟨r,e1,e2⟩:=Fzo (l:=s.Cells) (by omega) h.cellE;unfold hz7 bzw;rw[rowsP_is (by omega),Kzq (by omega),cells_eq (by omega) h.cellE,e1,dF0 (by omega),azd];simp only[aza];by_cases c:fz (rwD s.Rows) (List.range s.Rows.length)=0
 .rw[c,er0,dT0 rfl];simp only[osum];by_cases c0:r=0
  .rw[dT0 c0,Ozv h (e2 c0),KzS h];rfl
  .rw[dF0 c0];rfl
 .rw[er,if_neg c,dF0 c];rfl
theorem pzR (a b:List UInt8):keq9 a b=decide (a=b):=by
 unfold keq9 keq;rw[CzQ,CzQ];simp[eqB,eq1]
theorem get_put {V:Type}(z v:V)(k k':List UInt8):∀m:List (List UInt8×V),ezS keq9 z k (kz1 keq9 k' v m)=if k=k' then v else ezS keq9 z k m
 | []=>by
  simp only[kz1,ezS,pzR];by_cases h:k=k'<;>simp[h]
 | p::m=>by
  simp only[kz1,ezS,pzR];by_cases h1:k'=p.1
  .subst h1;simp only[decide_true,cond_true,ezS,pzR];by_cases h:k=p.1<;>simp[h]
  .simp only[dF0 h1,cond_false,ezS,pzR];rw[get_put z v k k' m];by_cases h:k=p.1
   .subst h;have h2:¬p.1=k':=fun e=>h1 e.symm
    rw[if_neg h2,if_neg h2]
   .rw[dF0 h];rfl
theorem has_put {V:Type}(v:V)(k k':List UInt8):∀m:List (List UInt8×V),kz0 keq9 k (kz1 keq9 k' v m)=(decide (k=k')||kz0 keq9 k m)
 | []=>by simp only[kz1,kz0,pzR,Bool.or_false]
 | p::m=>by
  simp only[kz1,kz0,pzR];by_cases h1:k'=p.1
  .subst h1;simp only[decide_true,cond_true,kz0,pzR];cases decide (k=p.1)<;>simp
  .simp only[dF0 h1,cond_false,kz0,pzR];rw[has_put v k k' m];cases decide (k=p.1)<;>cases decide (k=k')<;>simp
def ndT (l:List (List UInt8)):Bool:=(List.range l.length).all fun i=>match l[i]? with
 | some a=>(l.take i).all fun b=>!decide (b=a)
 | none=>true
def tbD (t:Table):Int:=if 1024<t.Texts.length then 4 else if fz (fun s=>(azZ s).2) t.Texts=0 then(bif ndT t.Texts then(if t.Uses<t.Texts.length then 1 else if 2147483647<t.Uses then 1 else 0)else 7)else fz (fun s=>(azZ s).2) t.Texts
theorem GzG {A:Type}{l:List A}{i:Nat}(hi:i<l.length){k:A}:k∈l.take (i+1)↔k∈l.take i\/k=l[i]:=by
 rw[List.take_succ_eq_append_getElem hi,List.mem_append,List.mem_singleton]
theorem tableP_is {t:Table}(hl:t.Texts.length<=1000)(hs:ezs t.Texts):tz0 t=some (tbD t):=by
 have l1:sz7 (t.Texts,(t.Texts.length:Int),0)=some (er (fz (fun s=>(azZ s).2) t.Texts)):=by
  refine dz4 (F:=mzT) (fun i=>(t.Texts,(t.Texts.length:Int),(i:Int))) er t.Texts _ (by omega) ?_ ?_
  .intro back i hi;have:=hs _ (List.getElem_mem hi);unfold mzT;simp only;rw[ltT hi,azc,idxG hi,aza,rzc (by omega),aza,wr1 (by omega)];by_cases c:(azZ t.Texts[i]).2=0
   .rw[dT0 c];rfl
   .rw[dF0 c,er,if_neg c];rfl
  .intro back;unfold mzT;simp only;rw[ltF];rfl
 obtain⟨y,e1,e2⟩:=scan (F:=mzU) (fun(m:List (List UInt8×Bool)) i=>(m,t.Texts,(t.Texts.length:Int),(i:Int))) t.Texts.length
  (fun m i=>(∀k,ezS keq9 false k m=decide (k∈t.Texts.take i))/\∀j,j<i->∀h:j<t.Texts.length,(t.Texts.take j).all (fun b=>!decide (b=t.Texts[j]))=true)
  (fun y=>(ndT t.Texts=true/\∃m,y = .inl ((),m))\/ndT t.Texts=false/\∃m,y = .inr (7,m)) (by omega)
  (by
   rintro back m i hi ⟨h1,h2⟩;unfold mzU;simp only;rw[ltT hi,azc,idxG hi,aza,h1,wr1 (by omega)];by_cases c:t.Texts[i]∈t.Texts.take i
   .left;rw[dT0 c];refine⟨_,rfl,.inr ⟨?_,_,rfl⟩⟩;unfold ndT;rw[List.all_eq_false];refine⟨i,List.mem_range.2 hi,?_⟩;rw[List.getElem?_eq_getElem hi];simp only;rw[Bool.not_eq_true,List.all_eq_false];exact⟨_,c,by simp⟩
   .right;rw[dF0 c];refine⟨_,rfl,fun k=>?_,fun j hj hjl=>?_⟩
    .rw[get_put,h1];by_cases e:k=t.Texts[i]
     .rw[if_pos e,dT0 ((GzG hi).2 (.inr e))]
     .rw[if_neg e];simp only[decide_eq_decide,GzG hi];simp[e]
    .by_cases e:j=i
     .subst e;rw[List.all_eq_true];intro b hb;have:¬b=t.Texts[j]:=fun e=>c (e▸hb)
      simp[this]
     .exact h2 j (by omega) hjl)
  (by
   rintro back m ⟨h1,h2⟩;unfold mzU;simp only;rw[ltF];refine⟨_,rfl,.inl ⟨?_,_,rfl⟩⟩;unfold ndT;rw[List.all_eq_true];intro i hi;have hi:=List.mem_range.1 hi;rw[List.getElem?_eq_getElem hi];exact h2 i hi hi) [] ⟨fun k=>by simp[ezS],fun j hj=>by omega⟩
 unfold tz0 tbD;rw[dF0 (by omega),azd,if_neg (by omega),l1,aza];by_cases c:fz (fun s=>(azZ s).2) t.Texts=0
 .rw[if_pos c,c,er0];simp only[osum];rw[show sz8 ([],t.Texts,(t.Texts.length:Int),0)=_ from e1,aza];rcases e2 with⟨h1,m,rfl⟩|⟨h1,m,rfl⟩
  .rw[h1];simp only[cond_true];by_cases d1:t.Uses<(t.Texts.length:Int)
   .rw[dT0 d1,if_pos d1];rfl
   .rw[dF0 d1,if_neg d1];by_cases d2:2147483647<t.Uses
    .rw[dT0 d2,if_pos d2];rfl
    .rw[dF0 d2,if_neg d2];rfl
  .rw[h1];rfl
 .rw[if_neg c,er,if_neg c];rfl
theorem tableD_is {t:Table}(hl:t.Texts.length<=1000)(hs:ezs t.Texts):gz7 t=some (tbD t):=by
 have l1:jz6 (t,0)=some (er (fz (fun s=>(azZ s).2) t.Texts)):=by
  refine dz4 (F:=dzm) (fun i=>(t,(i:Int))) er t.Texts _ (by omega) ?_ ?_
  .intro back i hi;have:=hs _ (List.getElem_mem hi);unfold dzm;simp only;rw[ltT hi,azc,idxG hi,aza,fz0 (by omega),aza,wr1 (by omega)];by_cases c:(azZ t.Texts[i]).2=0
   .rw[dT0 c];rfl
   .rw[dF0 c,er,if_neg c];rfl
  .intro back;unfold dzm;simp only;rw[ltF];rfl
 have l2:jz7 (t,0)=some (bif ndT t.Texts then .inl ()else .inr 7):=by
  refine lz9 (F:=dzn) (fun i=>(t,(i:Int))) t.Texts.length _ (.inr 7) (.inl ()) (by omega) ?_ ?_
  .intro back i hi;have ht:(t.Texts.take i).length=i:=by rw[List.length_take];omega
   have l3:jz8 (t,(i:Int),0)=some (bif (t.Texts.take i).all (fun b=>!decide (b=t.Texts[i]))then .inl ()else .inr 7):=by
    refine pzu (F:=dzo) (fun k=>(t,(i:Int),(k:Int))) (t.Texts.take i) _ (.inr 7) (.inl ()) (by omega) ?_ ?_
    .intro back k hk;unfold dzo;simp only;rw[ltT (by omega:k<i),azc,idxG (by omega:k<t.Texts.length),idxG hi,aza,aza,wr1 (by omega),List.getElem_take];cases decide (t.Texts[k]=t.Texts[i])<;>rfl
    .intro back;rw[ht];unfold dzo;simp only;rw[ltF];rfl
   unfold dzn;simp only;rw[ltT hi,azc,l3,aza,wr1 (by omega),List.getElem?_eq_getElem hi];simp only;cases(t.Texts.take i).all fun b=>!decide (b=t.Texts[i])<;>rfl
  .intro back;unfold dzn;simp only;rw[ltF];rfl
 unfold gz7 tbD;rw[dF0 (by omega),azd,if_neg (by omega),l1,aza];by_cases c:fz (fun s=>(azZ s).2) t.Texts=0
 .rw[if_pos c,c,er0];simp only[osum];rw[l2,aza];cases ndT t.Texts
  .rfl
  .simp only[cond_true];by_cases d1:t.Uses<(t.Texts.length:Int)
   .rw[dT0 d1,if_pos d1];rfl
   .rw[dF0 d1,if_neg d1];by_cases d2:2147483647<t.Uses
    .rw[dT0 d2,if_pos d2];rfl
    .rw[dF0 d2,if_neg d2];rfl
 .rw[if_neg c,er,if_neg c];rfl
noncomputable def dd (l:List (List UInt8)):List (List UInt8):=l.foldl (fun z s=>if s∈z then z else z++[s]) []
theorem dd_snoc (l:List (List UInt8))(s:List UInt8):dd (l++[s])=if s∈dd l then dd l else dd l++[s]:=by
 unfold dd;rw[List.foldl_append];rfl
theorem dd_len (l:List (List UInt8)):(dd l).length<=l.length:=by
 have:∀(l z:List (List UInt8)),(l.foldl (fun z s=>if s∈z then z else z++[s]) z).length<=z.length+l.length:=by
  intro l;induction l with
  | nil=>simp
  | cons s l ih =>
   intro z;rw[List.foldl_cons,List.length_cons];have:=ih (if s∈z then z else z++[s]);split at this<;>(try rw[List.length_append,List.length_singleton]at this)<;>split<;>first|omega|contradiction
 have:=this l [];simpa[dd]using this
theorem xzb {l:List (List UInt8)}{i:Nat}(hi:i<l.length):dd (l.take (i+1))=if l[i]∈dd (l.take i)then dd (l.take i)else dd (l.take i)++[l[i]]:=by
 rw[List.take_succ_eq_append_getElem hi,dd_snoc]
theorem dd_mono {l:List (List UInt8)}{i:Nat}(hi:i<=l.length):(dd (l.take i)).length<=(dd l).length:=by
 have:∀j,i+j<=l.length->(dd (l.take i)).length<=(dd (l.take (i+j))).length:=by
  intro j;induction j with
  | zero=>intro _;exact Nat.le_refl _
  | succ j ih =>
   intro h;refine Nat.le_trans (ih (by omega)) ?_;rw[show i+(j+1)=i+j+1 by omega,xzb (by omega)];split<;>simp
 have:=this (l.length-i) (by omega);rwa[show i+(l.length-i)=l.length by omega,List.take_length]at this
def okBd (x:List (List UInt8)):Prop:=(∀s∈x,(azZ s).2=0)/\(dd x).length<=1024
theorem buildP_is {x:List (List UInt8)}(hx:x.length<=50000)(hs:∀s∈x,s.length<=4000000):∃t a e,tzZ x=some (t,a,e)/\(e=0↔okBd x)/\(e=0->t=⟨dd x,(x.length:Int)⟩):=by
 obtain⟨y,e1,e2⟩:=scan (F:=mzS) (fun(s:List (List UInt8)×List Int×List (List UInt8×Int)) i=>(s.1,(⟨s.1,0⟩:Table),s.2.1,s.2.2,x,(x.length:Int),(i:Int))) x.length
  (fun s i=>s.1=dd (x.take i)/\s.2.1.length<=i/\(∀k,kz0 keq9 k s.2.2=decide (k∈s.1))/\∀k∈x.take i,(azZ k).2=0)
  (fun y=>(∃a m,(∀s∈x,(azZ s).2=0)/\y = .inl ((dd x,a),⟨dd x,0⟩,m))\/∃z e m,e≠0/\(¬∀s∈x,(azZ s).2=0)/\y = .inr ((z,e),⟨z,0⟩,m)) (by omega)
  (by
   rintro back ⟨z,a,m⟩ i hi ⟨h1,h2,h3,h4⟩;simp only at h1 h2 h3 h4;have hm:=List.getElem_mem hi;have hzl:z.length<=i:=by rw[h1];have:=dd_len (x.take i);rw[List.length_take]at this;omega
   unfold mzS;simp only;rw[ltT hi,azc,idxG hi,aza,rzc (by have:=hs _ hm;omega),aza,h3,wr1 (by omega)];by_cases c:(azZ x[i]).2=0
   .right;rw[dT0 c,show(!true)=false from rfl,azd];have ok:∀k∈x.take (i+1),(azZ k).2=0:=fun k hk=>by
     rcases(GzG hi).1 hk with h|h
     .exact h4 k h
     .rw[h];exact c
    by_cases c2:x[i]∈z
    .rw[dT0 c2,show(!true)=false from rfl,azd,appN (by simp;omega),aza];exact⟨(z,_,m),rfl,by simp only;rw[xzb hi,<-h1,if_pos c2],by simp;omega,h3,ok⟩
    .rw[dF0 c2,show(!false)=true from rfl,azc,appN (by simp;omega),aza,appN (by simp;omega),aza];refine⟨(_,_,_),rfl,by simp only;rw[xzb hi,<-h1,if_neg c2],by simp;omega,fun k=>?_,ok⟩;simp only;rw[has_put,h3];rw[Bool.eq_iff_iff];simp[or_comm]
   .left;rw[dF0 c];exact⟨_,rfl,.inr ⟨_,_,_,c,fun h=>c (h _ hm),rfl⟩⟩)
  (by
   rintro back ⟨z,a,m⟩ ⟨h1,h2,h3,h4⟩;simp only at h1 h2 h3 h4;unfold mzS;simp only;rw[ltF];rw[List.take_length]at h1 h4;subst h1;exact⟨_,rfl,.inl ⟨_,_,h4,rfl⟩⟩) ([],[],[]) ⟨rfl,by simp,fun k=>by simp[kz0],by simp⟩
 unfold tzZ sz5 nzs;simp only;rw[show sz4 ([],⟨[],0⟩,[],[],x,(x.length:Int),0)=_ from e1,aza];rcases e2 with⟨a,m,h1,rfl⟩|⟨z,e,m,h1,h2,rfl⟩
 .simp only[osum];by_cases c:1024<(dd x).length
  .rw[dT0 (by omega)];exact⟨_,_,4,rfl,⟨fun h=>(by cases h),fun h=>absurd h.2 (by omega)⟩,fun h=>by cases h⟩
  .rw[dF0 (by omega)];exact⟨_,_,0,rfl,⟨fun _=>⟨h1,by omega⟩,fun _=>rfl⟩,fun _=>rfl⟩
 .exact⟨_,_,e,rfl,⟨fun h=>absurd h h1,fun h=>absurd h.1 h2⟩,fun h=>absurd h h1⟩
theorem build_l3e {x:List (List UInt8)}{t:Table}{n:Nat}(hn:n<x.length)(ht:t.Texts.length<=100000):ozk (x,t,(n:Int),0)=some ((match t.Texts.findIdx? (fun s=>decide (s=x[n]))with|some i=>i|none=>t.Texts.length:Nat):Int):=by
 have:=kzo (F:=fzC) (fun i=>(x,t,(n:Int),(i:Int))) (fun o:Option Nat=>((match o with|some i=>i|none=>t.Texts.length:Nat):Int)) t.Texts (fun s=>decide (s=x[n])) (by omega)
  (by
   intro back i hi;unfold fzC;simp only;rw[ltT hi,azc,idxG hi,idxG hn,aza,aza,wr1 (by omega)];cases decide (t.Texts[i]=x[n])<;>rfl)
  (by
   intro back;unfold fzC;simp only;rw[ltF];rfl)
 exact this
theorem MzJ {l:List (List UInt8)}{s:List UInt8}:((match l.findIdx? (fun a=>decide (a=s))with|some i=>i|none=>l.length)=l.length)↔¬s∈l:=by
 cases h:l.findIdx? (fun a=>decide (a=s))with
 | none =>
  rw[List.findIdx?_eq_none_iff]at h;simp only[true_iff];intro hm;have:=h s hm;simp at this
 | some i =>
  have h:=List.findIdx?_eq_some_iff_getElem.1 h;obtain⟨hi,h1,-⟩:=h;simp only;constructor
  .intro e;omega
  .intro hm;have:l[i]=s:=by simpa using h1
   exact absurd (this▸List.getElem_mem hi) hm
theorem buildD_is {x:List (List UInt8)}(hx:x.length<=50000)(hs:∀s∈x,s.length<=4000000):∃t a e,jzk x=some (t,a,e)/\(e=0↔okBd x)/\(e=0->t=⟨dd x,(x.length:Int)⟩):=by
 obtain⟨z,f1,f2⟩:=czz (F:=fzA) (fun i=>(x,⟨[],0⟩,(i:Int))) x.length (fun i=>∀h:i<x.length,(azZ x[i]).2=0) (fun z=>∃e,e≠0/\(¬∀s∈x,(azZ s).2=0)/\z = .inr (([],e),⟨[],0⟩)) (.inl ((),⟨[],0⟩)) (by omega)
  (by
   intro back i hi;unfold fzA;simp only;rw[ltT hi,azc,idxG hi,aza,fz0 (hs _ (List.getElem_mem hi)),aza,wr1 (by omega)];by_cases c:(azZ x[i]).2=0
   .rw[dT0 c];exact .inl ⟨rfl,fun _=>c⟩
   .rw[dF0 c];exact .inr ⟨_,rfl,_,c,fun h=>c (h _ (List.getElem_mem hi)),rfl⟩)
  (by
   intro back;unfold fzA;simp only;rw[ltF];rfl)
 unfold jzk;rw[show ozi (x,⟨[],0⟩,0)=_ from f1,aza];rcases f2 with⟨e,h1,h2,rfl⟩|⟨rfl,f2⟩
 .exact⟨_,_,e,rfl,⟨fun h=>absurd h h1,fun h=>absurd h.1 h2⟩,fun h=>absurd h h1⟩
 .have ok:∀s∈x,(azZ s).2=0:=fun s hs=>by
   obtain⟨i,hi,rfl⟩:=List.mem_iff_getElem.1 hs;exact f2 i hi hi
  simp only[osum];obtain⟨y,e1,e2⟩:=scan (F:=fzB) (fun(s:List (List UInt8)×List Int) i=>(s.1,x,(⟨[],0⟩:Table),(⟨s.1,(i:Int)⟩:Table),s.2,(i:Int))) x.length
   (fun s i=>s.1=dd (x.take i)/\s.2.length<=i/\s.1.length<=1024)
   (fun y=>(∃a,(dd x).length<=1024/\y = .inl ((dd x,a),⟨[],0⟩,⟨dd x,(x.length:Int)⟩))\/∃z t,1024<(dd x).length/\y = .inr ((z,[],4),⟨[],0⟩,t)) (by omega)
   (by
    rintro back ⟨z,a⟩ i hi ⟨h1,h2,h3⟩;simp only at h1 h2 h3;unfold fzB;simp only;rw[ltT hi,azc,build_l3e hi (by simp only;omega),aza,idxG hi,wr1 (by omega)];simp only[aza];by_cases c:x[i]∈z
    .right;have:=mt (MzJ (l:=z) (s:=x[i])).1 (not_not_intro c);rw[dF0 (fun e=>this (by omega)),azd,appN (by simp;omega),aza];exact⟨(z,_),rfl,by simp only;rw[xzb hi,<-h1,if_pos c],by simp;omega,h3⟩
    .have he:=(MzJ (l:=z) (s:=x[i])).2 c;rw[he,dT0 rfl,azc];have hd:dd (x.take (i+1))=z++[x[i]]:=by rw[xzb hi,<-h1,if_neg c]
     by_cases c2:1024<=z.length
     .left;rw[dT0 (by omega)];have:=dd_mono (l:=x) (i:=i+1) (by omega);rw[hd,List.length_append,List.length_singleton]at this;exact⟨_,rfl,.inr ⟨_,_,by omega,rfl⟩⟩
     .right;rw[dF0 (by omega),azd,appN (by simp;omega),aza,appN (by simp;omega),aza];exact⟨(_,_),rfl,hd.symm,by simp;omega,by simp;omega⟩)
   (by
    rintro back ⟨z,a⟩ ⟨h1,h2,h3⟩;simp only at h1 h2 h3;unfold fzB;simp only;rw[ltF];rw[List.take_length]at h1;subst h1;exact⟨_,rfl,.inl ⟨_,h3,rfl⟩⟩) ([],[]) ⟨rfl,by simp,by simp⟩
  rw[show ozj ([],x,⟨[],0⟩,⟨[],0⟩,[],0)=_ from e1,aza];rcases e2 with⟨a,h1,rfl⟩|⟨z,t,h1,rfl⟩
  .exact⟨_,_,0,rfl,⟨fun _=>⟨ok,h1⟩,fun _=>rfl⟩,fun _=>rfl⟩
  .exact⟨_,_,4,rfl,⟨fun h=>(by cases h),fun h=>absurd h.2 (by omega)⟩,fun h=>by cases h⟩
abbrev Ly:=List UInt8×List Int×Int
def wN (n:Bool):Int:=if n then 1 else 2
def fl (n:Bool):UInt8:=if n then 0 else 1
def ly1 (n:Bool)(s:Ly)(u:Int):Ly:=bif decide (224<(s.1.length:Int)-s.2.2+wN n)then(s.1++(fl n::tub n u),s.2.1++[(s.1.length:Int)],(s.1.length:Int))else(s.1++tub n u,s.2.1,s.2.2)
structure okL (k:Nat) (s:Ly):Prop where
 b:s.1.length<=k
 c:s.2.1.length<=k
 p0:0<=s.2.2
 p1:s.2.2<=(s.1.length:Int)
theorem ly1_ok {n:Bool}{s:Ly}{u:Int}{k:Nat}(h:okL k s):okL (k+3) (ly1 n s u):=by
 obtain⟨h1,h2,h3,h4⟩:=h;have:=yze n u;unfold ly1;cases decide (224<(s.1.length:Int)-s.2.2+wN n)
 .exact⟨by simp;omega,by simp only[cond_false];omega,h3,by simp;omega⟩
 .exact⟨by simp;omega,by simp;omega,by simp,by simp;omega⟩
theorem ly_ok {n:Bool}:∀(us:List Int) {s:Ly} {k:Nat},okL k s->okL (k+3*us.length) (us.foldl (ly1 n) s)
 | [],_,_,h=>h
 | u::us,s,k,h=>by
  have:=ly_ok (n:=n) us (ly1_ok (n:=n) (u:=u) h);rw[List.foldl_cons,List.length_cons,show k+3*(us.length+1)=k+3+3*us.length by omega];exact this
theorem room_w {s:Ly}{k:Nat}{w:Int}(h:okL k s)(hk:k<=100000000)(hw:0<=w/\w<=10):i64.wrap (i64.wrap ((s.1.length:Int)-s.2.2)+w)=(s.1.length:Int)-s.2.2+w:=by
 obtain⟨h1,h2,h3,h4⟩:=h;rw[azH (n:=(s.1.length:Int)-s.2.2) (by omega) (by omega),azH (by omega) (by omega)]
theorem wN_b (n:Bool):0<=wN n/\wN n<=10:=by cases n<;>simp[wN]
theorem layD {n:Bool}{us:List Int}{s:Ly}{k:Nat}(h:okL k s)(hk:k+3*us.length<=10000000):ezi (s.1,s.2.1,s.2.2,us,wN n,0)=some (us.foldl (ly1 n) s):=by
 have:=bzG (F:=ez3) (fun(s:Ly) i=>(s.1,s.2.1,s.2.2,us,wN n,(i:Int))) id us (fun(s:Ly) u=>(.inl (ly1 n s u):Ly⊕Ly)) id (fun s i=>okL (k+3*i) s) (by omega)
  (by
   intro back s i hi hs;unfold ez3;simp only;rw[ltT hi,azc,idxG hi,wr1 (by omega),room_w hs (by omega) (wN_b n)];have h1:=hs.b;have h2:=hs.c;simp only[aza,rzZ,ly1];cases decide (224<(s.1.length:Int)-s.2.2+wN n)
   .rw[azd,cond_false,appN (by simp;omega),aza];cases n
    .rw[show decide (wN false=2)=true from rfl,azc,appN (by simp;omega),aza];simp[tub,lw2]
    .rw[show decide (wN true=2)=false from rfl,azd];simp[tub]
   .rw[azc,cond_true,appN (by simp;omega),aza,appN (by simp;omega),aza,appN (by simp;omega),aza];cases n
    .rw[show decide (wN false=2)=true from rfl,azc,appN (by simp;omega),aza];simp[tub,lw2,fl,wN];rfl
    .rw[show decide (wN true=2)=false from rfl,azd];simp[tub,fl,wN];rfl)
  (by
   intro s i hi s' hs he;cases he;rw[Nat.mul_add];exact ly1_ok hs)
  (by
   intro back s _;unfold ez3;simp only;rw[ltF];rfl) s (by simpa using h)
 rw[cz3]at this;exact this
theorem KzJ {f:Int->List UInt8}{w:Nat}(hw:1<=w):∀(us:List Int) (N:Nat),(∀u∈us,(f u).length=w)->(us.flatMap f).length<=N->pzO N w (us.flatMap f)=us.map f
 | [],N,_,_=>by rw[List.flatMap_nil,EzH];rfl
 | u::us,N,h,hN=>by
  have hu:=h u (by simp);rw[List.flatMap_cons,List.length_append]at hN;obtain⟨N,rfl⟩:∃m,N=m+1:=⟨N-1,by omega⟩;rw[List.flatMap_cons,pzO];have hne:(f u++us.flatMap f).isEmpty=false:=by
   cases hf:f u with
   | nil=>rw[hf]at hu;simp at hu;omega
   | cons a b=>rfl
  rw[hne,cond_false,<-hu,List.take_left,List.drop_left,List.map_cons];congr 1;rw[hu];exact KzJ hw us N (fun x hx=>h x (by simp[hx])) (by omega)
theorem tub_len (n:Bool)(u:Int):(tub n u).length=(wN n).toNat:=by cases n<;>simp[tub,wN,czw]
abbrev toM (s:Ly):Maker:=⟨s.1,s.2.1,s.2.2⟩
theorem room_is {s:Ly}{k:Nat}{w:Int}(h:okL k s)(hk:k<=10000000)(hw:0<=w/\w<=10):kzT (s.1,s.2.1,toM s,w)=some (bif decide (224<(s.1.length:Int)-s.2.2+w)then((s.1,s.2.1++[(s.1.length:Int)],true),⟨s.1,s.2.1++[(s.1.length:Int)],(s.1.length:Int)⟩)else((s.1,s.2.1,false),toM s)):=by
 have h2:=h.c;unfold kzT;simp only;rw[room_w h (by omega) hw,appN (by simp;omega),aza];by_cases c:224<(s.1.length:Int)-s.2.2+w
 .rw[dT0 c,dF0 (by omega)];rfl
 .rw[dF0 c,dT0 (by omega)];rfl
theorem unit_is {n:Bool}{s:Ly}{k:Nat}{u:Int}{p:List UInt8}{it:Int×List UInt8}(h:okL k s)(hk:k<=10000000)(hp:idx p 2=some (fl n)):
 fzL (tub n u) (s.1,s.2.1,toM s,p,wN n,it)=some ((ly1 n s u).1,(ly1 n s u).2.1,toM (ly1 n s u),p,wN n,it):=by
 have h1:=h.b;have h3:=yze n u;unfold fzL ly1;simp only;rw[show(⟨s.1,s.2.1,s.2.2⟩:Maker)=toM s from rfl,room_is h hk (wN_b n),aza];cases decide (224<(s.1.length:Int)-s.2.2+wN n)
 .simp only[cond_false,azd];rw[appN (by simp;omega),aza]
 .simp only[cond_true,azc];rw[hp,aza,appN (by simp;omega),aza,appN (by simp;omega),aza];cases n<;>simp[fl]
theorem Fzh {n:Bool}{p:List UInt8}{it:Int×List UInt8}(hp:idx p 2=some (fl n)):∀(us:List Int) (s:Ly) (k:Nat),okL k s->k+3*us.length<=10000000 ->
 jzI fzL (us.map (tub n)) (s.1,s.2.1,toM s,p,wN n,it)=some ((us.foldl (ly1 n) s).1,(us.foldl (ly1 n) s).2.1,toM (us.foldl (ly1 n) s),p,wN n,it)
 | [],s,_,_,_=>rfl
 | u::us,s,k,h,hk=>by
  rw[List.length_cons]at hk;rw[List.map_cons,jzI,unit_is h (by omega) hp,aza,List.foldl_cons];exact Fzh hp us (ly1 n s u) (k+3) (ly1_ok h) (by omega)
def ly0 (s:Ly):Ly:=bif decide (224<(s.1.length:Int)-s.2.2+3)then(s.1,s.2.1++[(s.1.length:Int)],(s.1.length:Int))else s
def lyT (s:Ly)(x:List UInt8):Ly:=(us (rs x)).foldl (ly1 (nar x)) ((ly0 s).1++(lw 2 ((us (rs x)).length:Int)++[fl (nar x)]),(ly0 s).2)
theorem ly0_ok {s:Ly}{k:Nat}(h:okL k s):okL (k+1) (ly0 s):=by
 obtain⟨h1,h2,h3,h4⟩:=h;unfold ly0;cases decide (224<(s.1.length:Int)-s.2.2+3)
 .exact⟨by simp only[cond_false];omega,by simp only[cond_false];omega,h3,h4⟩
 .exact⟨by simp only[cond_true];omega,by simp;omega,by simp,by simp⟩
theorem lyF_ok {s:Ly}{k:Nat}{x:List UInt8}(h:okL k s):okL (k+4) ((ly0 s).1++(lw 2 ((us (rs x)).length:Int)++[fl (nar x)]),(ly0 s).2):=by
 obtain⟨h1,h2,h3,h4⟩:=ly0_ok h;exact⟨by simp[czw];omega,by simp only;omega,h3,by simp[czw];omega⟩
theorem lyT_ok {s:Ly}{k:Nat}{x:List UInt8}(h:okL k s)(hu:(azZ x).2=0):okL (k+3004) (lyT s x):=by
 obtain⟨u1,u2,-⟩:=nzY hu;rw[<-qz2]at u2;have:=ly_ok (n:=nar x) (us (rs x)) (lyF_ok (x:=x) h);unfold lyT;exact⟨Nat.le_trans this.b (by omega),Nat.le_trans this.c (by omega),this.p0,this.p1⟩
theorem ly0_len (s:Ly):(ly0 s).1=s.1:=by unfold ly0;cases decide (224<(s.1.length:Int)-s.2.2+3)<;>rfl
theorem text_is {s:Ly}{k:Nat}{x:List UInt8}(h:okL k s)(hk:k<=9000000)(hu:(azZ x).2=0)(hx:x.length<=4000000):
 nzt (s.1,s.2.1,toM s,x)=some (((lyT s x).1,(lyT s x).2.1,(s.1.length:Int)),toM (lyT s x)):=by
 obtain⟨u1,u2,-⟩:=nzY hu;rw[<-qz2]at u2;have h1:=h.b;unfold nzt;simp only;rw[put_is (by simp) hx,if_pos hu,aza,show(⟨s.1,s.2.1,s.2.2⟩:Maker)=toM s from rfl,room_is h (by omega) (by omega),aza];have r0:(bif decide (224<(s.1.length:Int)-s.2.2+3)then((s.1,s.2.1++[(s.1.length:Int)],true),(⟨s.1,s.2.1++[(s.1.length:Int)],(s.1.length:Int)⟩:Maker))else((s.1,s.2.1,false),toM s)) =
  (((ly0 s).1,(ly0 s).2.1,decide (224<(s.1.length:Int)-s.2.2+3)),toM (ly0 s)):=by
  unfold ly0;cases decide (224<(s.1.length:Int)-s.2.2+3)<;>rfl
 rw[r0];simp only[List.nil_append];generalize hW:us (rs x)=W at u2;have hst:stB x=(lw 2 (W.length:Int)++[fl (nar x)])++W.flatMap (tub (nar x)):=by unfold stB fl;rw[hW]
 have hfl:(W.flatMap (tub (nar x))).length<=2*W.length:=fzq W fun u _=>yze _ u
 have h3:(lw 2 (W.length:Int)++[fl (nar x)]).length=3:=by simp[czw]
 have hsl:(stB x).length=3+(W.flatMap (tub (nar x))).length:=by rw[hst,List.length_append,h3]
 have s1:sub (stB x) 0 3=some (lw 2 (W.length:Int)++[fl (nar x)]):=by
  rw[show(3:Int)=((3:Nat):Int) from rfl,subT (by omega) (by omega),hst,<-h3,List.take_left]
 have s2:sub (stB x) 3 ((stB x).length:Int)=some (W.flatMap (tub (nar x))):=by
  rw[show(3:Int)=((3:Nat):Int) from rfl,subD (by omega) (by omega),hst,<-h3,List.drop_left]
 have s3:idx (stB x) 2=some (fl (nar x)):=by
  rw[show(2:Int)=((2:Nat):Int) from rfl,idxG (by omega)];have:(stB x)[2]?=some (fl (nar x)):=by rw[hst,lw2];rfl
  rw[List.getElem?_eq_getElem (by omega)]at this;exact this
 have s4:i64.wrap (1+i64.wrap (((fl (nar x)).toNat:Nat):Int))=wN (nar x):=by cases nar x<;>rfl
 have ok:=lyF_ok (x:=x) h;rw[hW]at ok;have hb0:=(ly0_ok h).b;rw[s1,aza,appN (by rw[h3];omega),aza,s3,aza,s2,aza,s4];unfold kza;simp only;rw[dF0 (by cases nar x<;>simp[wN]),azd,aza];unfold nzW kzU nzX;simp only;have ck:wz9 (wN (nar x)) (W.flatMap (tub (nar x)))=true:=by
  unfold wz9;have:=wN_b (nar x);rw[dT0 (by cases nar x<;>simp[wN]),dT0 (by omega)];rfl
 rw[ck,cond_true];have hc:Gz7 (wN (nar x)).toNat (W.flatMap (tub (nar x)))=W.map (tub (nar x)):=KzJ (by cases nar x<;>simp[wN]) W _ (fun u _=>tub_len _ u) (Nat.le_refl _);rw[hc];have:=Fzh (n:=nar x) (p:=stB x) (it:=(wN (nar x),W.flatMap (tub (nar x)))) s3 W _ _ ok (by omega);rw[show((ly0 s).1++(lw 2 (W.length:Int)++[fl (nar x)]),(ly0 s).2.1,(⟨(ly0 s).1++(lw 2 (W.length:Int)++[fl (nar x)]),(ly0 s).2.1,(ly0 s).2.2⟩:Maker),stB x,wN (nar x),(wN (nar x),W.flatMap (tub (nar x))))=(((ly0 s).1++(lw 2 (W.length:Int)++[fl (nar x)]),(ly0 s).2).1,(((ly0 s).1++(lw 2 (W.length:Int)++[fl (nar x)]),(ly0 s).2):Ly).2.1,toM ((ly0 s).1++(lw 2 (W.length:Int)++[fl (nar x)]),(ly0 s).2),stB x,wN (nar x),(wN (nar x),W.flatMap (tub (nar x)))) from rfl,this];simp only[aza];unfold lyT;rw[hW,ly0_len]
def lyA (s:Ly×List Int)(x:List UInt8):Ly×List Int:=(lyT s.1 x,s.2++[(s.1.1.length:Int)])
theorem made_l1 {t:List (List UInt8)}(hl:t.length<=1000)(hs:ezs t)(ht:okT t){b:List UInt8}(hb:b.length=8):
 vzj (b,[],⟨b,[],0⟩,[],t,(t.length:Int),0)=some ((fun s:Ly×List Int=>((s.1.1,s.1.2.1,s.2),toM s.1)) (t.foldl lyA ((b,[],0),[]))):=by
 have:=bzG (F:=nzV) (fun(s:Ly×List Int) i=>(s.1.1,s.1.2.1,toM s.1,s.2,t,(t.length:Int),(i:Int))) (fun s:Ly×List Int=>((s.1.1,s.1.2.1,s.2),toM s.1)) t (fun(s:Ly×List Int) x=>(.inl (lyA s x):(Ly×List Int)⊕(Ly×List Int))) id
  (fun s i=>okL (8+3004*i) s.1/\s.2.length=i) (by omega)
  (by
   rintro back s i hi ⟨h1,h2⟩;have hm:=List.getElem_mem hi;have:=hs _ hm;unfold nzV;simp only;rw[ltT hi,azc,idxG hi,aza,show(⟨s.1.1,s.1.2.1,s.1.2.2⟩:Maker)=toM s.1 from rfl,text_is h1 (by omega) (ht _ hm) (by omega),aza,appN (by simp;omega),aza,wr1 (by omega)];simp only[rzZ,lyA])
  (by
   rintro s i hi s' ⟨h1,h2⟩ he;cases he;exact⟨by rw[show 8+3004*(i+1)=8+3004*i+3004 by omega];exact lyT_ok h1 (ht _ (List.getElem_mem hi)),by simp[lyA,h2]⟩)
  (by
   intro back s _;unfold nzV;simp only;rw[ltF];rfl) ((b,[],0),[]) ⟨⟨by simp only;omega,by simp,by simp,by simp⟩,rfl⟩
 rw[cz3]at this;exact this
theorem layout_l1 {t:Table}(hl:t.Texts.length<=1000)(hs:ezs t.Texts)(ht:okT t.Texts){b:List UInt8}(hb:b.length=8):
 nzn (t,b,[],[],0,0)=some ((fun s:Ly×List Int=>(s.1.1,s.1.2.1,s.2)) (t.Texts.foldl lyA ((b,[],0),[]))):=by
 have:=bzG (F:=ez2) (fun(s:Ly×List Int) i=>(t,s.1.1,s.1.2.1,s.2,s.1.2.2,(i:Int))) (fun s:Ly×List Int=>(s.1.1,s.1.2.1,s.2)) t.Texts (fun(s:Ly×List Int) x=>(.inl (lyA s x):(Ly×List Int)⊕(Ly×List Int))) id
  (fun s i=>okL (8+3004*i) s.1/\s.2.length=i) (by omega)
  (by
   rintro back s i hi ⟨h1,h2⟩;have hm:=List.getElem_mem hi;have hm2:=hs _ hm;obtain⟨u1,u2,-⟩:=nzY (ht _ hm);rw[<-qz2]at u2;have hrl:=szA t.Texts[i];have hb:=h1.b;have hc:=h1.c;unfold ez2;simp only;rw[ltT hi,azc,idxG hi,wr1 (by omega),aza,oz2 (by omega),if_pos u1,aza,uz8 (by omega) (Gzl _),aza,aza,uz7 (by omega) u1,aza,room_w h1 (by omega) (by omega)];have ok:=lyF_ok (x:=t.Texts[i]) h1;have go:=layD (n:=nar t.Texts[i]) (us:=us (rs t.Texts[i])) ok (by omega);simp only[rzZ,lyA,lyT];generalize hW:us (rs t.Texts[i])=W at u2 go;have fin:∀(b':List UInt8) (c':List Int) (p' w:Int),(b',c',p')=((ly0 s.1).1++(lw 2 (W.length:Int)++[fl (nar t.Texts[i])]),(ly0 s.1).2)->w=wN (nar t.Texts[i]) ->
    (obnd (ezi (b',c',p',W,w,0)) fun y=>back (t,y.1,y.2.1,s.2++[(s.1.1.length:Int)],y.2.2,((i+1:Nat):Int))) =
    back (t,(W.foldl (ly1 (nar t.Texts[i])) ((ly0 s.1).1++(lw 2 (W.length:Int)++[fl (nar t.Texts[i])]),(ly0 s.1).2)).1,(W.foldl (ly1 (nar t.Texts[i])) ((ly0 s.1).1++(lw 2 (W.length:Int)++[fl (nar t.Texts[i])]),(ly0 s.1).2)).2.1,s.2++[(s.1.1.length:Int)],(W.foldl (ly1 (nar t.Texts[i])) ((ly0 s.1).1++(lw 2 (W.length:Int)++[fl (nar t.Texts[i])]),(ly0 s.1).2)).2.2,((i+1:Nat):Int)):=by
    intro b' c' p' w e1 e2;injection e1 with e1 e3;subst e1 e2;rw[<-e3]at go ⊢;rw[go,aza]
   by_cases c:224<(s.1.1.length:Int)-s.1.2.2+3
   .have e0:ly0 s.1=(s.1.1,s.1.2.1++[(s.1.1.length:Int)],(s.1.1.length:Int)):=by unfold ly0;rw[dT0 c];rfl
    rw[e0]at fin ⊢;rw[dT0 c];simp only[azc];rw[appN (by simp;omega),aza,appN (by simp;omega),aza,appN (by simp;omega),aza,appN (by simp;omega),aza];cases hn:nar t.Texts[i]
    .rw[hn]at fin;rw[azd];exact fin _ _ _ _ (by simp[lw2,fl]) rfl
    .rw[hn]at fin;rw[azc];exact fin _ _ _ _ (by simp[lw2,fl]) rfl
   .have e0:ly0 s.1=s.1:=by unfold ly0;rw[dF0 c];rfl
    rw[e0]at fin ⊢;rw[dF0 c];simp only[azd];rw[appN (by simp;omega),aza,appN (by simp;omega),aza,appN (by simp;omega),aza];cases hn:nar t.Texts[i]
    .rw[hn]at fin;exact fin _ _ _ _ (by simp[lw2,fl]) rfl
    .rw[hn]at fin;rw[azc];exact fin _ _ _ _ (by simp[lw2,fl]) rfl)
  (by
   rintro s i hi s' ⟨h1,h2⟩ he;cases he;exact⟨by rw[show 8+3004*(i+1)=8+3004*i+3004 by omega];exact lyT_ok h1 (ht _ (List.getElem_mem hi)),by simp[lyA,h2]⟩)
  (by
   intro back s _;unfold ez2;simp only;rw[ltF];rfl) ((b,[],0),[]) ⟨⟨by simp only;omega,by simp,by simp,by simp⟩,rfl⟩
 rw[cz3]at this;exact this
def c1 (L at_ y:Int):Int⊕(Unit⊕Int):=if y<=at_ then .inr (.inr 6)else if L<=y then .inr (.inr 6)else .inl y
def c2 (at_ y:Int):Int⊕Option Int:=if 224<i64.wrap (y-at_)then .inr none else .inl y
theorem recP_l2 {x:Rec}(hl:x.Cuts.length<=100000000):szU (x,0,x.Cuts,(x.Cuts.length:Int),0)=some (iz3 (c1 (x.Data.length:Int)) (fun _=>.inl ()) 0 x.Cuts):=by
 refine bzG (F:=mzI) (fun(s:Int) i=>(x,s,x.Cuts,(x.Cuts.length:Int),(i:Int))) id x.Cuts _ _ (fun _ _=>True) (by omega) ?_ (fun _ _ _ _ _ _=>trivial) ?_ 0 trivial
 .intro back s i hi _;unfold mzI c1;simp only;rw[ltT hi,azc,idxG hi,aza,wr1 (by omega)];by_cases a:x.Cuts[i]<=s
  .rw[dT0 a,if_pos a];rfl
  .rw[dF0 a,if_neg a];by_cases b:(x.Data.length:Int)<=x.Cuts[i]
   .rw[dT0 b,if_pos b];rfl
   .rw[dF0 b,if_neg b];rfl
 .intro back s _;unfold mzI;simp only;rw[ltF];rfl
theorem recD_l1 {x:Rec}(hl:x.Cuts.length<=100000000):kz5 (x,0,0)=some (iz3 (c1 (x.Data.length:Int)) (fun _=>.inl ()) 0 x.Cuts):=by
 refine bzG (F:=ezc) (fun(s:Int) i=>(x,s,(i:Int))) id x.Cuts _ _ (fun _ _=>True) (by omega) ?_ (fun _ _ _ _ _ _=>trivial) ?_ 0 trivial
 .intro back s i hi _;unfold ezc c1;simp only;rw[ltT hi,azc,idxG hi,wr1 (by omega)];simp only[aza];by_cases a:x.Cuts[i]<=s
  .rw[dT0 a,if_pos a];rfl
  .rw[dF0 a,if_neg a];by_cases b:(x.Data.length:Int)<=x.Cuts[i]
   .rw[dT0 b,if_pos b];rfl
   .rw[dF0 b,if_neg b];rfl
 .intro back s _;unfold ezc;simp only;rw[ltF];rfl
theorem recP_l3 {l:List Int}(hl:l.length<=100000000):szV (0,l,(l.length:Int),0)=some (match iz3 c2 some 0 l with|some a=>.inl a|none=>.inr ()):=by
 refine bzG (F:=mzJ) (fun(s:Int) i=>(s,l,(l.length:Int),(i:Int))) (fun o:Option Int=>match o with|some a=>.inl a|none=>.inr ()) l c2 some (fun _ _=>True) (by omega) ?_ (fun _ _ _ _ _ _=>trivial) ?_ 0 trivial
 .intro back s i hi _;unfold mzJ c2;simp only;rw[ltT hi,azc,idxG hi,aza,wr1 (by omega)];by_cases a:224<i64.wrap (l[i]-s)
  .rw[dT0 a,if_pos a];rfl
  .rw[dF0 a,if_neg a];rfl
 .intro back s _;unfold mzJ;simp only;rw[ltF];rfl
theorem recD_l2 {x:Rec}(hl:x.Cuts.length<=100000000):kz6 (x,0,0)=some (match iz3 c2 some 0 x.Cuts with|some a=>.inl a|none=>.inr 4):=by
 refine bzG (F:=ezd) (fun(s:Int) i=>(x,s,(i:Int))) (fun o:Option Int=>match o with|some a=>.inl a|none=>.inr 4) x.Cuts c2 some (fun _ _=>True) (by omega) ?_ (fun _ _ _ _ _ _=>trivial) ?_ 0 trivial
 .intro back s i hi _;unfold ezd c2;simp only;rw[ltT hi,azc,idxG hi,wr1 (by omega)];simp only[aza];by_cases a:224<i64.wrap (x.Cuts[i]-s)
  .rw[dT0 a,if_pos a];rfl
  .rw[dF0 a,if_neg a];rfl
 .intro back s _;unfold ezd;simp only;rw[ltF];rfl
theorem rec_eq {x:Rec}(hl:x.Cuts.length<=100000000):tzO x=fzD x:=by
 unfold tzO szW qzw fzD;rw[recP_l2 hl,recD_l1 hl,recP_l3 hl,recD_l2 hl];cases decide (x.Type_<0)
 .cases decide (65535<x.Type_)
  .cases decide (x.Type_=60)
   .cases decide (65536<(x.Data.length:Int))
    .simp only[azd,aza];cases iz3 (c1 (x.Data.length:Int)) (fun _=>.inl ()) 0 x.Cuts with
     | inr e=>rfl
     | inl u =>
      simp only[osum];cases iz3 c2 some 0 x.Cuts with
      | none=>rfl
      | some a =>
       simp only;by_cases d:224<i64.wrap ((x.Data.length:Int)-a)
       .rw[dT0 d,dF0 (by omega)];rfl
       .rw[dF0 d,dT0 (by omega)];rfl
    .rfl
   .rfl
  .rfl
 .rfl
theorem cut_tot {x:Rec}(hl:x.Data.length<=1000000):∃r,uzM x=some r:=by
 unfold uzM bzR;rw[pzx (by omega),aza];have:∃y,wzv ([],x,⟨x.Type_,x.Data,[],x.At⟩,224)=some y/\True:=by
  refine nz9 (F:=rz6) (fun z=>(x.Data.length+224-z.2.2.2.toNat)) (fun z=>∃(c:List Int) (r:Rec) (i:Nat),z=(c,x,r,(i:Int))/\c.length<=i/\i<=x.Data.length+224) _ ?_ _ ⟨[],_,224,rfl,by simp,by omega⟩ (by simp only;omega);rintro back z ⟨c,r,i,rfl,h2,h3⟩ hb;unfold rz6;simp only at hb ⊢;by_cases h:i<x.Data.length
  .rw[dT0 (by omega),azc,appN (by simp;omega),aza,azH (by omega) (by omega)];exact hb _ ⟨_,_,i+224,rfl,by simp;omega,by omega⟩ (by simp only;omega)
  .rw[dF0 (by omega),azd];exact⟨_,rfl,trivial⟩
 obtain⟨y,h,-⟩:=this;exact⟨_,by rw[h,aza]⟩
theorem put32_is {b:List UInt8}{v:Int}(hb:b.length<=1000000):∃r e,lz5 (b,v)=some (r,e)/\r.length<=b.length+4:=by
 unfold lz5 bzR;simp only;have p:=yzP (b:=b) (v:=u64.wrap v) (n:=4) (by omega) (by omega);rw[show((4:Nat):Int)=4 from rfl]at p;rw[pzx (by omega),p];cases decide (v<0)
 .cases decide (4294967295<v)
  .exact⟨_,_,rfl,by simp[czw]⟩
  .exact⟨_,_,rfl,by simp⟩
 .exact⟨_,_,rfl,by simp⟩
theorem Nzx {b:List UInt8}{v:Int}(hb:b.length<=1000000)(h0:0<=v)(h1:v<=4294967295):lz5 (b,v)=some (b++lw 4 (u64.wrap v),0):=by
 unfold lz5;simp only;have p:=yzP (b:=b) (v:=u64.wrap v) (n:=4) (by omega) (by omega);rw[show((4:Nat):Int)=4 from rfl]at p;rw[dF0 (by omega),dF0 (by omega),azd,azd,p];rfl
def lyO (t:Table):Ly×List Int:=t.Texts.foldl lyA (([]++lw 4 (u64.wrap t.Uses)++lw 4 (u64.wrap (t.Texts.length:Int)),[],0),[])
theorem lyO_ok {t:Table}(hl:t.Texts.length<=1000)(ht:okT t.Texts):okL (8+3004*t.Texts.length) (lyO t).1/\(lyO t).2.length=t.Texts.length:=by
 unfold lyO;have key:∀(l:List (List UInt8)) (s:Ly×List Int) (k:Nat),okT l->okL k s.1->okL (k+3004*l.length) (l.foldl lyA s).1/\(l.foldl lyA s).2.length=s.2.length+l.length:=by
  intro l;induction l with
  | nil=>intro s k _ h;exact⟨h,rfl⟩
  | cons x l ih =>
   intro s k hl h;have:=ih (lyA s x) (k+3004) (fun y hy=>hl y (by simp[hy])) (lyT_ok h (hl x (by simp)));rw[List.foldl_cons,List.length_cons,show k+3004*(l.length+1)=k+3004+3004*l.length by omega];refine⟨this.1,?_⟩;rw[this.2];simp[lyA];omega
 have:=key t.Texts (([]++lw 4 (u64.wrap t.Uses)++lw 4 (u64.wrap (t.Texts.length:Int)),[],0),[]) 8 ht ⟨by simp[czw],by simp,by simp,by simp only;omega⟩;exact⟨this.1,by rw[this.2];simp⟩
def recE (x:Rec):Int:=(fzD x).getD 0
theorem recE_is {x:Rec}(hl:x.Cuts.length<=100000000):fzD x=some (recE x):=by
 obtain⟨r,h⟩:=EzG hl;unfold recE;rw[h];rfl
def encE (t:Table):Int:=if tbD t=0 then recE ⟨252,(lyO t).1.1,(lyO t).1.2.1,0⟩else tbD t
theorem tbD_ok {t:Table}(h:tbD t=0):okT t.Texts/\0<=t.Uses/\t.Uses<=2147483647:=by
 unfold tbD at h;by_cases a:1024<t.Texts.length
 .rw[if_pos a]at h;cases h
 .rw[if_neg a]at h;by_cases b:fz (fun s=>(azZ s).2) t.Texts=0
  .rw[if_pos b]at h;cases c:ndT t.Texts
   .rw[c]at h;cases h
   .rw[c,cond_true]at h;by_cases d:t.Uses<t.Texts.length
    .rw[if_pos d]at h;cases h
    .rw[if_neg d]at h;by_cases e:2147483647<t.Uses
     .rw[if_pos e]at h;cases h
     .exact⟨tz5.1 b,by omega,by omega⟩
  .rw[if_neg b]at h;exact absurd h b
theorem encP_is {t:Table}(hl:t.Texts.length<=1000)(hs:ezs t.Texts):∃r x,oz9 t=some (r,x,encE t):=by
 unfold oz9 rzR mzs encE;simp only;rw[tableP_is hl hs,aza];by_cases c:tbD t=0
 .obtain⟨ht,u0,u1⟩:=tbD_ok c;obtain⟨o1,o2⟩:=lyO_ok hl ht;have ob:=o1.b;have oc:=o1.c;rw[dT0 c,if_pos c,show(!true)=false from rfl,azd];have hm:wzg t=some (toM (lyO t).1,(lyO t).2):=by
   unfold wzg;rw[Nzx (by simp) u0 (by omega),aza,Nzx (by simp[czw]) (by omega) (by omega),aza,made_l1 hl hs ht (by simp[czw]),aza];rfl
  rw[hm,aza];simp only;rw[rec_eq (by simp only;omega),recE_is (by simp only;omega),aza];by_cases d:recE ⟨252,(lyO t).1.1,(lyO t).1.2.1,0⟩=0
  .rw[dT0 d,show(!true)=false from rfl,azd];obtain⟨y,e1,e2⟩:=scan (F:=lz0) (fun(s:Rec) i=>(s,(lyO t).2,((lyO t).2.length:Int),(i:Int))) (lyO t).2.length (fun s i=>s.Data.length<=2+4*i) (fun y=>y.2.Data.length<=1000000) (by omega)
    (by
     intro back s i hi h;right;obtain⟨r,e,p1,p2⟩:=put32_is (b:=s.Data) (v:=(lyO t).2[i]) (by omega);unfold lz0;simp only;rw[ltT hi,azc,idxG hi,aza,p1,aza,wr1 (by omega)];cases decide ((i:Int).tmod 8=0)
     .exact⟨s,rfl,by omega⟩
     .exact⟨_,rfl,by simp only;omega⟩)
    (by
     intro back s h;unfold lz0;simp only;rw[ltF];exact⟨_,rfl,by simp only;omega⟩) ⟨255,[UInt8.ofNat 8,UInt8.ofNat 0],[],0⟩ (by simp)
   rw[show rzQ (⟨255,[UInt8.ofNat 8,UInt8.ofNat 0],[],0⟩,(lyO t).2,((lyO t).2.length:Int),0)=_ from e1,aza];obtain⟨z,hz⟩:=cut_tot e2;rw[hz,d];exact⟨_,_,rfl⟩
  .rw[dF0 d];exact⟨_,_,rfl⟩
 .rw[dF0 c,if_neg c];exact⟨_,_,rfl⟩
theorem encD_is {t:Table}(hl:t.Texts.length<=1000)(hs:ezs t.Texts):∃r x,ezV t=some (r,x,encE t):=by
 obtain⟨q,hq⟩:=xzc hl hs;refine⟨q.1,q.2.1,?_⟩;rw[hq];congr 2
 show q=(q.1,q.2.1,encE t)
 have:q.2.2=encE t:=by
  unfold ezV at hq;rw[tableD_is hl hs,aza]at hq;unfold encE;by_cases c:tbD t=0
  .obtain⟨ht,u0,u1⟩:=tbD_ok c;obtain⟨o1,o2⟩:=lyO_ok hl ht;have oc:=o1.c;have hm:lzT t=some ((lyO t).1.1,(lyO t).1.2.1,(lyO t).2):=by
    unfold lzT;have p1:=ez4 (b:=[]) (v:=u64.wrap t.Uses) (n:=4) (by omega) (by simp);have p2:=ez4 (b:=[]++lw 4 (u64.wrap t.Uses)) (v:=u64.wrap (t.Texts.length:Int)) (n:=4) (by omega) (by simp[czw]);rw[show((4:Nat):Int)=4 from rfl]at p1 p2;rw[p1,aza,p2,aza,layout_l1 hl hs ht (by simp[czw]),aza];rfl
   rw[if_pos c];rw[dT0 c,show(!true)=false from rfl,azd,hm,aza]at hq;cases h1:czl ([],8,2)with
   | none=>rw[h1]at hq;cases hq
   | some y1 =>
    rw[h1,aza]at hq;simp only at hq;cases h2:iz7 ((lyO t).2,y1,0)with
    | none=>rw[h2]at hq;cases hq
    | some y2 =>
     rw[h2,aza,recE_is (by simp only;omega),aza]at hq;by_cases d:recE ⟨252,(lyO t).1.1,(lyO t).1.2.1,0⟩=0
     .rw[dT0 d,show(!true)=false from rfl,azd]at hq;cases h3:lzP ⟨255,y2,[],0⟩with
      | none=>rw[h3]at hq;cases hq
      | some y3 =>
       rw[h3,aza]at hq;injection hq with hq;rw[<-hq,d]
     .rw[dF0 d]at hq;injection hq with hq;rw[<-hq]
  .rw[dF0 c]at hq;rw[if_neg c];injection hq with hq;rw[<-hq]
 rw[<-this]
def kzZ (p:Place):Bool:=decide (0<=p.Sheet)&&(decide (p.Sheet<8)&&gdC p.At)
def chE (l:List Place):Int:=bif l.all kzZ then 0 else 12
theorem chP_is {l:List Place}(hl:l.length<=1000):∃r,mzu l=some (r,chE l):=by
 unfold mzu Bzv;simp only;have p:=yzP (b:=[]) (v:=u64.wrap (l.length:Int)) (n:=2) (by omega) (by simp);rw[show((2:Nat):Int)=2 from rfl]at p;rw[dF0 (by omega),azd,dF0 (by omega),dF0 (by omega),azd,azd,p];simp only[aza];generalize hb0:[]++lw 2 (u64.wrap (l.length:Int))=b0;have hb0:b0.length=2:=by rw[<-hb0];simp[czw]
 obtain⟨y,e1,e2⟩:=scan (F:=jzC) (fun(s:List UInt8) i=>(⟨0,[],[],0⟩,s,l,(l.length:Int),(i:Int))) l.length (fun s i=>s.length<=2+4*i/\∀j,j<i->∀h:j<l.length,kzZ l[j]=true)
  (fun y=>(∃b:List UInt8,b.length<=100000/\l.all kzZ=true/\y = .inl (b,⟨0,[],[],0⟩))\/l.all kzZ=false/\y = .inr (12,⟨0,[],[],0⟩)) (by omega)
  (by
   rintro back s i hi ⟨h1,h2⟩;have bad:kzZ l[i]=false->l.all kzZ=false:=fun h=>List.all_eq_false.2 ⟨_,List.getElem_mem hi,by simp[h]⟩
   unfold jzC;simp only;rw[ltT hi,azc,idxG hi,aza,goodE,nz7,aza,wr1 (by omega)];by_cases a:l[i].Sheet<0
   .rw[dT0 a];exact .inl ⟨_,rfl,.inr ⟨bad (by unfold kzZ;rw[dF0 (by omega)];rfl),rfl⟩⟩
   .rw[dF0 a,azd];by_cases b:8<=l[i].Sheet
    .rw[dT0 b];exact .inl ⟨_,rfl,.inr ⟨bad (by unfold kzZ;rw[dF0 (show ¬l[i].Sheet<8 by omega)];simp),rfl⟩⟩
    .rw[dF0 b,azd];cases g:gdC l[i].At
     .exact .inl ⟨_,rfl,.inr ⟨bad (by unfold kzZ;rw[g];simp),rfl⟩⟩
     .right;rw[show(!true)=false from rfl,azd,appN (by simp;omega),aza];refine⟨_,rfl,by simp;omega,fun j hj hjl=>?_⟩;by_cases e:j=i
      .subst e;unfold kzZ;rw[dT0 (by omega),dT0 (by omega),g];rfl
      .exact h2 j (by omega) hjl)
  (by
   rintro back s ⟨h1,h2⟩;unfold jzC;simp only;rw[ltF];refine⟨_,rfl,.inl ⟨s,by omega,?_,rfl⟩⟩;rw[List.all_eq_true];intro x hx;obtain⟨j,hj,rfl⟩:=List.mem_iff_getElem.1 hx;exact h2 j hj hj) b0 ⟨by omega,fun j hj=>by omega⟩
 rw[show pzw (⟨0,[],[],0⟩,b0,l,(l.length:Int),0)=_ from e1,aza];unfold chE;rcases e2 with⟨b,h1,h2,rfl⟩|⟨h2,rfl⟩
 .obtain⟨z,hz⟩:=cut_tot (x:=⟨6247,b,[],0⟩) (by simp only;omega);simp only[osum];rw[hz,h2];exact⟨_,rfl⟩
 .rw[h2];exact⟨_,rfl⟩
theorem MzP (p:Place):gz5 (p,8)=some (kzZ p):=by
 unfold gz5 kzZ;simp only[nz7,aza];rw[brnA,brnA]
theorem chD_is {l:List Place}(hl:l.length<=1000):∃r,ezv l=some (r,chE l):=by
 unfold ezv;have:=ez4 (b:=[]) (v:=u64.wrap (l.length:Int)) (n:=2) (by omega) (by simp);rw[show((2:Nat):Int)=2 from rfl]at this;rw[dF0 (by omega),azd,this,aza];generalize hb:[]++lw 2 (u64.wrap (l.length:Int))=b0;have hb:b0.length=2:=by rw[<-hb];simp[czw]
 obtain⟨y,e1,e2⟩:=scan (F:=cz4) (fun(s:List UInt8) (i:Nat)=>(l,(⟨0,[],[],0⟩:Rec),s,(i:Int))) l.length (fun s i=>s.length<=2+4*i/\∀j,j<i->∀h:j<l.length,kzZ l[j]=true)
  (fun y=>(∃b:List UInt8,b.length<=100000/\l.all kzZ=true/\y = .inl (b,⟨0,[],[],0⟩))\/l.all kzZ=false/\y = .inr (12,⟨0,[],[],0⟩)) (by omega)
  (by
   rintro back s i hi ⟨h1,h2⟩;unfold cz4;simp only;have p1:=ez4 (b:=s++[UInt8.ofNat (u8.wrap l[i].Sheet).toNat]) (v:=u64.wrap l[i].At.Row) (n:=2) (by omega) (by simp;omega);rw[show((2:Nat):Int)=2 from rfl]at p1;rw[ltT hi,azc,idxG hi,wr1 (by omega),aza,MzP,aza];cases g:kzZ l[i]
   .exact .inl ⟨_,rfl,.inr ⟨List.all_eq_false.2 ⟨_,List.getElem_mem hi,by simp[g]⟩,rfl⟩⟩
   .right;rw[show(!true)=false from rfl,azd,aza,appN (by simp;omega),aza,aza,p1,aza,aza,appN (by simp[czw];omega),aza];refine⟨_,rfl,by simp[czw];omega,fun j hj hjl=>?_⟩;by_cases e:j=i
    .subst e;exact g
    .exact h2 j (by omega) hjl)
  (by
   rintro back s ⟨h1,h2⟩;unfold cz4;simp only;rw[ltF,azd];refine⟨_,rfl,.inl ⟨s,by omega,?_,rfl⟩⟩;rw[List.all_eq_true];intro x hx;obtain⟨j,hj,rfl⟩:=List.mem_iff_getElem.1 hx;exact h2 j hj hj) b0 ⟨by omega,fun j hj=>by omega⟩
 rw[show izr (l,⟨0,[],[],0⟩,b0,0)=_ from e1,aza];unfold chE;rcases e2 with⟨b,h1,h2,rfl⟩|⟨h2,rfl⟩
 .obtain⟨z,hz⟩:=AzU (x:=⟨6247,b,[],0⟩) (by simp only;omega);simp only[osum];rw[hz,h2];exact⟨_,rfl⟩
 .rw[h2];exact⟨_,rfl⟩
def shD (l:List (List UInt8))(i:Nat):Int:=match l[i]? with
 | some s=>if(azZ s).2=0 then(if(azZ s).1<1 then 3 else if 31<(azZ s).1 then 3 else bif (l.take i).all (fun b=>!decide (b=s))then 0 else 7)else 3
 | none=>0
theorem containsS {l:List (List UInt8)}{s:List UInt8}(hl:l.length<=1000):ezk (l,s)=some (!l.all fun b=>!decide (b=s)):=by
 have:=kzo (F:=dze) (fun i=>(l,s,(l.length:Int),(i:Int))) loc l (fun b=>decide (b=s)) (by omega)
  (by
   intro back i hi;unfold dze;simp only;rw[ltT hi,azc,idxG hi,aza,wr1 (by omega),show decide (s=l[i])=decide (l[i]=s) by simp only[decide_eq_decide];exact eq_comm];rfl)
  (by
   intro back;unfold dze;simp only;rw[ltF];rfl)
 unfold ezk ize;simp only;rw[show gzn (l,s,(l.length:Int),0)=_ from this,aza,HzT,tzE,List.any_eq_not_all_not]
theorem PzQ {l:List (List UInt8)}(hl:l.length<=1000)(hs:ezs l):kzY l=some (fz (shD l) (List.range l.length)):=by
 have:mzc (l,l,(l.length:Int),0)=some (er (fz (shD l) (List.range l.length))):=by
  refine dz4 (F:=fz6) (fun i=>(l,l,(l.length:Int),(i:Int))) er (List.range l.length) (shD l) (by simp;omega) ?_ ?_
  .intro back i hi;have hi':i<l.length:=by simpa using hi
   have hm:=hs _ (List.getElem_mem hi');unfold fz6;simp only;rw[ltT hi',azc,idxG hi',aza,rzc (by omega),aza,wr1 (by omega),subT (by omega) (by omega),aza,containsS (by rw[List.length_take];omega),aza,List.getElem_range];generalize hv:shD l i=v;unfold shD at hv;rw[List.getElem?_eq_getElem hi']at hv;simp only at hv;by_cases c1:(azZ l[i]).2=0
   .rw[if_pos c1]at hv;rw[dT0 c1,show(!true)=false from rfl,azd];by_cases c2:(azZ l[i]).1<1
    .rw[if_pos c2]at hv;subst hv;rw[dT0 c2];rfl
    rw[if_neg c2]at hv;rw[dF0 c2,azd];by_cases c3:31<(azZ l[i]).1
    .rw[if_pos c3]at hv;subst hv;rw[dT0 c3];rfl
    rw[if_neg c3]at hv;rw[dF0 c3,azd];cases ha:(l.take i).all fun b=>!decide (b=l[i])
    .rw[ha]at hv;subst hv;rfl
    .rw[ha]at hv;subst hv;rfl
   .rw[if_neg c1]at hv;subst hv;rw[dF0 c1];rfl
  .intro back;unfold fz6;simp only;rw[List.length_range,ltF];rfl
 unfold kzY;rw[this,aza];unfold er;by_cases c:fz (shD l) (List.range l.length)=0
 .rw[c];rfl
 .rw[if_neg c];rfl
theorem PzP {x:Globals}(hl:x.Sheets.length<=1000)(hs:ezs x.Sheets):hzw (x,0)=some (er (fz (shD x.Sheets) (List.range x.Sheets.length))):=by
 refine dz4 (F:=czM) (fun i=>(x,(i:Int))) er (List.range x.Sheets.length) (shD x.Sheets) (by simp;omega) ?_ ?_
 .intro back i hi;have hi':i<x.Sheets.length:=by simpa using hi
  have hm:=hs _ (List.getElem_mem hi');have ht:(x.Sheets.take i).length=i:=by rw[List.length_take];omega
  have l3:hzx (x,(i:Int),0)=some (bif (x.Sheets.take i).all (fun b=>!decide (b=x.Sheets[i]))then .inl ()else .inr 7):=by
   refine pzu (F:=czN) (fun k=>(x,(i:Int),(k:Int))) (x.Sheets.take i) _ (.inr 7) (.inl ()) (by omega) ?_ ?_
   .intro back k hk;unfold czN;simp only;rw[ltT (by omega:k<i),azc,idxG (by omega:k<x.Sheets.length),idxG hi',aza,aza,wr1 (by omega),List.getElem_take];cases decide (x.Sheets[k]=x.Sheets[i])<;>rfl
   .intro back;rw[ht];unfold czN;simp only;rw[ltF];rfl
  unfold czM;simp only;rw[ltT hi',azc,idxG hi',aza,fz0 (by omega),aza,wr1 (by omega),l3,aza,List.getElem_range];generalize hv:shD x.Sheets i=v;unfold shD at hv;rw[List.getElem?_eq_getElem hi']at hv;simp only at hv;by_cases c1:(azZ x.Sheets[i]).2=0
  .rw[if_pos c1]at hv;rw[dT0 c1,show(!true)=false from rfl,azd];by_cases c2:(azZ x.Sheets[i]).1<1
   .rw[if_pos c2]at hv;subst hv;rw[dT0 c2];rfl
   rw[if_neg c2]at hv;rw[dF0 c2,azd];by_cases c3:31<(azZ x.Sheets[i]).1
   .rw[if_pos c3]at hv;subst hv;rw[dT0 c3];rfl
   rw[if_neg c3]at hv;rw[dF0 c3,azd];cases ha:(x.Sheets.take i).all fun b=>!decide (b=x.Sheets[i])
   .rw[ha]at hv;subst hv;rfl
   .rw[ha]at hv;subst hv;rfl
  .rw[if_neg c1]at hv;subst hv;rw[dF0 c1];rfl
 .intro back;unfold czM;simp only;rw[List.length_range,ltF];rfl
theorem formP_is {l:List (List UInt8)}(hl:l.length<=1000)(hs:ezs l):rzq (l,(l.length:Int),0)=some (er (fz (fun s=>(azZ s).2) l)):=by
 refine dz4 (F:=lzo) (fun i=>(l,(l.length:Int),(i:Int))) er l _ (by omega) ?_ ?_
 .intro back i hi;have:=hs _ (List.getElem_mem hi);unfold lzo;simp only;rw[ltT hi,azc,idxG hi,aza,rzc (by omega),aza,wr1 (by omega)];by_cases c:(azZ l[i]).2=0
  .rw[dT0 c];rfl
  .rw[dF0 c,er,if_neg c];rfl
 .intro back;unfold lzo;simp only;rw[ltF];rfl
theorem formD_is {x:Globals}(hl:x.Formats.length<=1000)(hs:ezs x.Formats):hzy (x,0)=some (er (fz (fun s=>(azZ s).2) x.Formats)):=by
 refine dz4 (F:=czO) (fun i=>(x,(i:Int))) er x.Formats _ (by omega) ?_ ?_
 .intro back i hi;have:=hs _ (List.getElem_mem hi);unfold czO;simp only;rw[ltT hi,azc,idxG hi,aza,fz0 (by omega),aza,wr1 (by omega)];by_cases c:(azZ x.Formats[i]).2=0
  .rw[dT0 c];rfl
  .rw[dF0 c,er,if_neg c];rfl
 .intro back;unfold czO;simp only;rw[ltF];rfl
def xfD (n:Nat)(y:Int):Int:=if y<0 then 1 else if(n:Int)<=y/\¬y=0 then 1 else 0
theorem xfP_is {x:Globals}(hl:x.XFs.length<=1000):rzr (x,x.XFs,(x.XFs.length:Int),0)=some (er (fz (xfD x.Formats.length) x.XFs)):=by
 refine dz4 (F:=lzp) (fun i=>(x,x.XFs,(x.XFs.length:Int),(i:Int))) er x.XFs _ (by omega) ?_ ?_
 .intro back i hi;unfold lzp;simp only;rw[ltT hi,azc,idxG hi,aza,wr1 (by omega)];generalize hv:xfD x.Formats.length x.XFs[i]=v;unfold xfD at hv;by_cases c1:x.XFs[i]<0
  .rw[if_pos c1]at hv;subst hv;rw[dT0 c1];rfl
  rw[if_neg c1]at hv;rw[dF0 c1,azd];have e:decide ((bif decide ((x.Formats.length:Int)<1)then 1 else(x.Formats.length:Int))<=x.XFs[i])=decide ((x.Formats.length:Int)<=x.XFs[i]/\¬x.XFs[i]=0):=by
   simp only[decide_eq_decide];by_cases d:(x.Formats.length:Int)<1
   .rw[dT0 d,cond_true];omega
   .rw[dF0 d,cond_false];omega
  rw[e];by_cases c2:(x.Formats.length:Int)<=x.XFs[i]/\¬x.XFs[i]=0
  .rw[if_pos c2]at hv;subst hv;rw[dT0 c2];rfl
  .rw[if_neg c2]at hv;subst hv;rw[dF0 c2];rfl
 .intro back;unfold lzp;simp only;rw[ltF];rfl
theorem xfDoc_is {x:Globals}(hl:x.XFs.length<=1000):hzz (x,0)=some (er (fz (xfD x.Formats.length) x.XFs)):=by
 refine dz4 (F:=czP) (fun i=>(x,(i:Int))) er x.XFs _ (by omega) ?_ ?_
 .intro back i hi;unfold czP;simp only;rw[ltT hi,azc,idxG hi,wr1 (by omega)];simp only[aza];generalize hv:xfD x.Formats.length x.XFs[i]=v;unfold xfD at hv;by_cases c1:x.XFs[i]<0
  .rw[if_pos c1]at hv;subst hv;rw[dT0 c1];rfl
  rw[if_neg c1]at hv;rw[dF0 c1,azd];by_cases c2:(x.Formats.length:Int)<=x.XFs[i]
  .rw[dT0 c2,azc];by_cases c3:x.XFs[i]=0
   .rw[if_neg (by omega)]at hv;subst hv;rw[dT0 c3];rfl
   .rw[if_pos ⟨c2,c3⟩]at hv;subst hv;rw[dF0 c3];rfl
  .rw[if_neg (by omega)]at hv;subst hv;rw[dF0 c2];rfl
 .intro back;unfold czP;simp only;rw[ltF];rfl
def nmD (e:Expr):Int:=if(enc1 e).2=0 then(bif (rf 40 e).all (fun x=>!decide (x.Kind=6))then 0 else 3)else(enc1 e).2
theorem nameIn {l:List Expr}(hl:l.length<=1000000):bzz (l,())=some (!l.all fun x=>!decide (x.Kind=6)):=by
 have:=kzo (F:=az1) (fun i=>(l,(),(l.length:Int),(i:Int))) loc l (fun b=>decide (b.Kind=6)) (by omega)
  (by
   intro back i hi;unfold az1 ozH;simp only[azj];rw[ltT hi,azc,idxG hi,aza,aza,wr1 (by omega)];rfl)
  (by
   intro back;unfold az1;simp only;rw[ltF];rfl)
 unfold bzz czq;simp only;rw[show czc (l,(),(l.length:Int),0)=_ from this,aza,HzT,tzE,List.any_eq_not_all_not]
theorem nameP_is {e:Expr}(h:fewE e):nzg e=some (nmD e):=by
 have:=xzW 40 e;have hs:=h.1;unfold nzg nmD;simp only[azj];rw[(lz3 (by omega) h.2).1,aza,(wzq (by omega) h.2).1,aza,nameIn (by omega),aza];by_cases c:(enc1 e).2=0
 .rw[dT0 c,if_pos c];cases(rf 40 e).all fun x=>!decide (x.Kind=6)<;>rfl
 .rw[dF0 c,if_neg c];rfl
theorem namesP_is {l:List Expr}(hl:l.length<=1000)(he:∀e∈l,fewE e):rzs (l,(l.length:Int),0)=some (er (fz nmD l)):=by
 refine dz4 (F:=lzq) (fun i=>(l,(l.length:Int),(i:Int))) er l _ (by omega) ?_ ?_
 .intro back i hi;unfold lzq;simp only[azj];rw[ltT hi,azc,idxG hi,aza,nameP_is (he _ (List.getElem_mem hi)),aza,wr1 (by omega)];by_cases c:nmD l[i]=0
  .rw[dT0 c];rfl
  .rw[dF0 c,er,if_neg c];rfl
 .intro back;unfold lzq;simp only;rw[ltF];rfl
theorem namesD_is {x:Globals}(hl:x.Names.length<=1000)(he:∀e∈x.Names,fewE e):hzA (x,0)=some (er (fz nmD x.Names)):=by
 refine dz4 (F:=czQ) (fun i=>(x,(i:Int))) er x.Names _ (by omega) ?_ ?_
 .intro back i hi;obtain⟨s1,s2⟩:=he _ (List.getElem_mem hi);have hr:=xzW 40 x.Names[i];have l7:hzB (rf 40 x.Names[i],0)=some (bif (rf 40 x.Names[i]).all (fun y=>!decide (y.Kind=6))then .inl ()else .inr 3):=by
   refine pzu (F:=czR) (fun k=>(rf 40 x.Names[i],(k:Int))) (rf 40 x.Names[i]) _ (.inr 3) (.inl ()) (by omega) ?_ ?_
   .intro back k hk;unfold czR;simp only;rw[ltT hk,azc,idxG hk,aza,wr1 (by omega)];cases decide ((rf 40 x.Names[i])[k].Kind=6)<;>rfl
   .intro back;unfold czR;simp only;rw[ltF];rfl
  unfold czQ;simp only[azj];rw[ltT hi,azc,idxG hi,aza,(lz3 (by omega) s2).2,aza,aza,(wzq (by omega) s2).2,aza,l7,aza,wr1 (by omega)];generalize hv:nmD x.Names[i]=v;unfold nmD at hv;by_cases c:(enc1 x.Names[i]).2=0
  .rw[if_pos c]at hv;rw[dT0 c];cases ha:(rf 40 x.Names[i]).all fun y=>!decide (y.Kind=6)
   .rw[ha]at hv;subst hv;rfl
   .rw[ha]at hv;subst hv;rfl
  .rw[if_neg c]at hv;subst hv;rw[dF0 c,er,if_neg c];rfl
 .intro back;unfold czQ;simp only;rw[ltF];rfl
theorem glob_eq {x:Globals}(h:fewG x)(s1:ezs x.Sheets)(s2:ezs x.Formats)(s3:ezs x.Texts.Texts):rz3 x=fzc x:=by
 obtain⟨h1,h2,h3,h4,h5,h6,h7⟩:=h;obtain⟨r1,x1,e1⟩:=encP_is (t:=x.Texts) (by omega) s3;obtain⟨r2,x2,e2⟩:=encD_is (t:=x.Texts) (by omega) s3;obtain⟨r3,e3⟩:=chP_is (l:=x.Chain) (by omega);obtain⟨r4,e4⟩:=chD_is (l:=x.Chain) (by omega);unfold rz3 fzc;rw[PzQ (by omega) s1,PzP (by omega) s1,formP_is (by omega) s2,formD_is (by omega) s2,xfP_is (by omega),xfDoc_is (by omega),namesP_is (by omega) h7,namesD_is (by omega) h7,e1,e2,e3,e4];simp only[aza];rw[show rzp x=dz8 x from rfl];cases dz8 x with
 | none=>rfl
 | some b =>
  rw[aza,aza];cases b
  .rw[azd,azd];by_cases c:fz (shD x.Sheets) (List.range x.Sheets.length)=0
   .rw[c,er0];rfl
   .have e:er (fz (shD x.Sheets) (List.range x.Sheets.length)) = .inr (fz (shD x.Sheets) (List.range x.Sheets.length)):=by unfold er;rw[if_neg c]
    rw[dF0 c,e];rfl
  .rfl
theorem textsP_is {s:Sheet}(h:s.Cells.length<=1000):qzV s=some (txS s):=by
 have:=cz2 (F:=kzM) (fun z i=>(z,s.Cells,(s.Cells.length:Int),(i:Int))) id s.Cells (fun c=>bif !c.Has&&decide (c.V.Kind=2)then [c.V.S]else []) 1 [] (by omega) (fun c _=>by cases !c.Has&&decide (c.V.Kind=2)<;>simp) ?_ ?_
 .unfold qzV;rw[show qzW ([],s.Cells,(s.Cells.length:Int),0)=_ from this];rfl
 .intro back z i hi hz;unfold kzM;simp only;rw[ltT hi,azc,idxG hi,aza,wr1 (by omega),appN (by simp at hz ⊢;omega),aza];cases s.Cells[i].Has<;>cases decide (s.Cells[i].V.Kind=2)<;>simp
 .intro back z _;unfold kzM;simp only;rw[ltF];rfl
theorem allP_is {l:List Sheet}(hl:l.length<=1000)(h:∀s∈l,s.Cells.length<=1000):rzk ([],l,(l.length:Int),0)=some (l.flatMap txS):=by
 refine cz2 (F:=lzh) (fun z i=>(z,l,(l.length:Int),(i:Int))) id l txS 1000 [] (by omega) (fun s hs=>by have:=tz9 s;have:=h s hs;omega) ?_ ?_
 .intro back z i hi hz;have h1:=h _ (List.getElem_mem hi);have h2:=tz9 l[i];unfold lzh;simp only;rw[ltT hi,azc,idxG hi,aza,textsP_is h1,aza,wr1 (by omega),appN (by simp at hz ⊢;omega),aza]
 .intro back z _;unfold lzh;simp only;rw[ltF];rfl
def shsE (b:Book):Int:=fz (fun s=>(bzw s).getD 0) b.Sheets
def xf2 (n:Nat)(c:Cell2):Int:=if(n:Int)<=c.XF/\¬c.XF=0 then 1 else 0
def xfE (b:Book):Int:=fz (fun s:Sheet=>fz (xf2 b.Globals.XFs.length) s.Cells) b.Sheets
theorem sheetV {s:Sheet}(h:fewS s):bzw s=some ((bzw s).getD 0):=by
 obtain⟨r,e,-⟩:=Gzu h;rw[e];rfl
theorem xfB {n:Nat}{y:Int}(h:0<=y):decide ((bif decide ((n:Int)<1)then 1 else(n:Int))<=y)=decide ((n:Int)<=y/\¬y=0):=by
 simp only[decide_eq_decide];by_cases d:(n:Int)<1
 .rw[dT0 d,cond_true];omega
 .rw[dF0 d,cond_false];omega
theorem okC_xf {x:Cell2}(h:fewE x.E)(hv:x.V.S.length<=3000)(h0:czB x=some 0):0<=x.XF:=by
 unfold czB at h0;obtain⟨v,-,e1,-⟩:=uzj hv;rw[nz7,aza]at h0;cases hg:gdC x.At
 .rw[hg]at h0;cases h0
 .rw[hg,show(!true)=false from rfl,azd]at h0;apply Decidable.byContradiction;intro c;rw[dT0 (by omega),azc]at h0;cases h0
theorem cells_xf {l:List Cell2}(hl:l.length<=1000)(hc:∀x∈l,fewE x.E/\x.V.S.length<=3000)(h0:ezb l=some 0):∀x∈l,0<=x.XF:=by
 intro x hx;obtain⟨c1,c2⟩:=hc x hx;refine okC_xf c1 c2 ?_;obtain⟨i,hi,rfl⟩:=List.mem_iff_getElem.1 hx;unfold ezb at h0;obtain⟨z,e1,e2⟩:=czz (F:=bzY) (fun i=>(l,(i:Int))) l.length (fun i=>∀h:i<l.length,czB l[i]=some 0) (fun z=>∃e,z = .inr e/\e≠0) (.inl ()) (by omega)
  (by
   intro back i hi;obtain⟨c1,c2⟩:=hc _ (List.getElem_mem hi);unfold bzY;simp only[azj,kzi];rw[ltT hi,azc,idxG hi,aza,uzh c1 c2,aza,wr1 (by omega)];by_cases a:yzq l[i]=0
   .rw[dT0 a,show(!true)=false from rfl,azd];by_cases b:i=0
    .rw[dF0 (by omega),azd];exact .inl ⟨rfl,fun _=>by rw[uzh c1 c2,a]⟩
    .rw[dT0 (by omega),azc,CzF (by omega) (by omega),idxG (by omega:i-1<l.length),aza,aza,yzl,aza];cases dzy l[i-1].At l[i].At
     .exact .inr ⟨_,rfl,_,rfl,by decide⟩
     .exact .inl ⟨rfl,fun _=>by rw[uzh c1 c2,a]⟩
   .rw[dF0 a];exact .inr ⟨_,rfl,_,rfl,a⟩)
  (by
   intro back;unfold bzY;simp only;rw[ltF];rfl)
 rw[dF0 (by omega),azd,show gzc (l,0)=_ from e1,aza]at h0;rcases e2 with⟨e,rfl,he⟩|⟨rfl,e2⟩
 .exact absurd (Option.some.inj h0) he
 .exact e2 i hi hi
theorem sheet_xf {s:Sheet}(h:fewS s)(h0:bzw s=some 0):∀x∈s.Cells,0<=x.XF:=by
 refine cells_xf (by have:=h.cells;omega) h.cellE ?_;unfold bzw at h0;obtain⟨r,e1,e2⟩:=Fzo (l:=s.Cells) (by have:=h.cells;omega) h.cellE;rw[dF0 (by have:=h.rows;omega),azd,Kzq (by have:=h.rows;omega),aza,e1]at h0;unfold er at h0;by_cases c:fz (rwD s.Rows) (List.range s.Rows.length)=0
 .rw[if_pos c]at h0;simp only[osum,aza]at h0;by_cases c0:r=0
  .rw[e1,c0]
  .rw[dF0 c0]at h0;exact absurd (Option.some.inj h0) c0
 .rw[if_neg c]at h0;exact absurd (Option.some.inj h0) c
theorem xf_l3 {b:Book}{l:List Cell2}(hl:l.length<=1000)(h:∀x∈l,0<=x.XF):rzf (b,l,(l.length:Int),0)=some (er (fz (xf2 b.Globals.XFs.length) l)):=by
 refine dz4 (F:=lzd) (fun i=>(b,l,(l.length:Int),(i:Int))) er l _ (by omega) ?_ ?_
 .intro back i hi;unfold lzd;simp only;rw[ltT hi,azc,idxG hi,aza,xfB (h _ (List.getElem_mem hi)),wr1 (by omega)];generalize hv:xf2 b.Globals.XFs.length l[i]=v;unfold xf2 at hv;by_cases c:(b.Globals.XFs.length:Int)<=l[i].XF/\¬l[i].XF=0
  .rw[if_pos c]at hv;subst hv;rw[dT0 c];rfl
  .rw[if_neg c]at hv;subst hv;rw[dF0 c];rfl
 .intro back;unfold lzd;simp only;rw[ltF];rfl
theorem xf_l2 {b:Book}(hb:b.Sheets.length<=1000)(hl:∀s∈b.Sheets,s.Cells.length<=1000)(h:∀s∈b.Sheets,∀x∈s.Cells,0<=x.XF):jzo (b,b.Sheets,(b.Sheets.length:Int),0)=some (er (xfE b)):=by
 refine dz4 (F:=lzc) (fun i=>(b,b.Sheets,(b.Sheets.length:Int),(i:Int))) er b.Sheets _ (by omega) ?_ ?_
 .intro back i hi;have hm:=List.getElem_mem hi;unfold lzc;simp only;rw[ltT hi,azc,idxG hi,aza,xf_l3 (hl _ hm) (h _ hm),aza,wr1 (by omega)];by_cases c:fz (xf2 b.Globals.XFs.length) b.Sheets[i].Cells=0
  .rw[c];rfl
  .rw[dF0 c,er,if_neg c];rfl
 .intro back;unfold lzc;simp only;rw[ltF];rfl
theorem xfD_l3 {b:Book}(hb:b.Sheets.length<=1000)(hl:∀s∈b.Sheets,s.Cells.length<=1000):izt (b,0)=some (er (xfE b)):=by
 refine dz4 (F:=ez0) (fun i=>(b,(i:Int))) er b.Sheets _ (by omega) ?_ ?_
 .intro back i hi;have hm:=List.getElem_mem hi;have hln:=hl _ hm;have l4:nzj (b,(i:Int),0)=some (er (fz (xf2 b.Globals.XFs.length) b.Sheets[i].Cells)):=by
   refine dz4 (F:=ez1) (fun k=>(b,(i:Int),(k:Int))) er b.Sheets[i].Cells _ (by omega) ?_ ?_
   .intro back k hk;unfold ez1;simp only;rw[idxG hi];simp only[aza];rw[ltT hk,azc,idxG hk,aza,wr1 (by omega)];generalize hv:xf2 b.Globals.XFs.length b.Sheets[i].Cells[k]=v;unfold xf2 at hv;by_cases c2:(b.Globals.XFs.length:Int)<=b.Sheets[i].Cells[k].XF
    .rw[dT0 c2,azc];by_cases c3:b.Sheets[i].Cells[k].XF=0
     .rw[if_neg (by omega)]at hv;subst hv;rw[dT0 c3];rfl
     .rw[if_pos ⟨c2,c3⟩]at hv;subst hv;rw[dF0 c3];rfl
    .rw[if_neg (by omega)]at hv;subst hv;rw[dF0 c2];rfl
   .intro back;unfold ez1;simp only;rw[idxG hi];simp only[aza];rw[ltF];rfl
  unfold ez0;simp only;rw[ltT hi,azc,l4,aza,wr1 (by omega)];by_cases c:fz (xf2 b.Globals.XFs.length) b.Sheets[i].Cells=0
  .rw[c];rfl
  .rw[dF0 c,er,if_neg c];rfl
 .intro back;unfold ez0;simp only;rw[ltF];rfl
theorem shsD_is {b:Book}(hb:b.Sheets.length<=1000)(h:∀s∈b.Sheets,fewS s):nzi (b,0)=some (er (shsE b)):=by
 refine dz4 (F:=ezY) (fun i=>(b,(i:Int))) er b.Sheets _ (by omega) ?_ ?_
 .intro back i hi;unfold ezY;simp only;rw[ltT hi,azc,idxG hi,aza,sheetV (h _ (List.getElem_mem hi)),aza,wr1 (by omega)];simp only[Option.getD_some];by_cases c:(bzw b.Sheets[i]).getD 0=0
  .rw[dT0 c];rfl
  .rw[dF0 c,er,if_neg c];rfl
 .intro back;unfold ezY;simp only;rw[ltF];rfl
def nC (b:Book)(i:Nat):Nat:=((b.Sheets.take i).map fun s=>s.Cells.length).sum
theorem JzS {b:Book}{i:Nat}(hi:i<b.Sheets.length):nC b (i+1)=nC b i+b.Sheets[i].Cells.length:=by
 unfold nC;rw[List.take_succ_eq_append_getElem hi,List.map_append,List.sum_append];simp
theorem nC_le {b:Book}(h:∀s∈b.Sheets,s.Cells.length<=120):∀i,i<=b.Sheets.length->nC b i<=120*i
 | 0,_=>by simp[nC]
 | i+1,hi=>by
  have:=nC_le h i (by omega);have:=h _ (List.getElem_mem (show i<b.Sheets.length by omega));rw[JzS (by omega)];omega
theorem nCD {b:Book}(hb:b.Sheets.length<=1000)(h:∀s∈b.Sheets,s.Cells.length<=120):izs (b,0,0)=some (nC b b.Sheets.length:Int):=by
 obtain⟨y,e1,rfl⟩:=scan (F:=ezZ) (fun(s:Nat) i=>(b,(s:Int),(i:Int))) b.Sheets.length (fun s i=>s=nC b i) (fun y=>y=(nC b b.Sheets.length:Int)) (by omega)
  (by
   intro back s i hi hs;right;have:=nC_le h i (by omega);have:=h _ (List.getElem_mem hi);unfold ezZ;simp only;rw[ltT hi,azc,idxG hi,aza,wr1 (by omega),wadd (by omega)];exact⟨_,rfl,by rw[JzS hi,hs]⟩)
  (by
   intro back s hs;unfold ezZ;simp only;rw[ltF,hs];exact⟨_,rfl,rfl⟩) 0 (by simp[nC])
 exact e1
noncomputable def szg (b:Book):Int:=if xfE b=0 then(bif @decide (okBd (b.Sheets.flatMap txS)/\b.Globals.Texts=⟨dd (b.Sheets.flatMap txS),((b.Sheets.flatMap txS).length:Int)⟩) (Classical.propDecidable _)then 0 else 3)else xfE b
theorem Lzm {t u:Table}:t=u↔t.Texts=u.Texts/\t.Uses=u.Uses:=by
 cases t;cases u;simp
theorem wzU {b:Book}(hb:b.Sheets.length<=12)(hf:∀s∈b.Sheets,fewS s)(hx:∀s∈b.Sheets,s.Cells.length<=120) (tl:∀t,(shsE b=0->∃t',(brn (decide ((4096:Int)<(nC b b.Sheets.length:Int))) (some (4,t)) (obnd (jzo (b,b.Sheets,(b.Sheets.length:Int),0)) fun y =>
 osum y (fun y=>obnd (jzh b.Sheets) fun y=>brn (!decide (y.2=0)) (some (3,y.1)) (brn (!decide (y.1.Uses=b.Globals.Texts.Uses)) (some (3,y.1)) (obnd (bzt (y.1.Texts,b.Globals.Texts.Texts)) fun y_1=>brn (!y_1) (some (3,y.1)) (some (0,y.1))))) fun y=>some (y,t)))=some (szg b,t'))) :
 ∀(f N i:Nat) (t:Table),b.Sheets.length-i<=f->f<N->i<=b.Sheets.length->fz (fun s=>(bzw s).getD 0) (b.Sheets.take i)=0->∃t',iter gz2 N (b,t,(nC b i:Int),(i:Int))=some (if shsE b=0 then szg b else shsE b,t')
 | _,0,_,_,_,h,_,_=>absurd h (by omega)
 | f,N+1,i,t,h,hN,hi,h0=>by
  rw[azz];have ih:=fun i t h1 h2 h3 h4=>wzU hb hf hx tl (f-1) N i t h1 h2 h3 h4
  generalize iter gz2 N=S at ih;unfold gz2;simp only;have fz_app:∀(f:Sheet->Int) (l m:List Sheet),fz f l=0->fz f (l++m)=fz f m:=by
   intro f l m;induction l with
   | nil=>intro _;rfl
   | cons a l ih =>
    intro h;simp only[fz,List.cons_append]at h ⊢;by_cases c:f a=0
    .rw[if_pos c]at h ⊢;exact ih h
    .rw[if_neg c]at h;exact absurd h c
  by_cases c:i<b.Sheets.length
  .have hm:=List.getElem_mem c;rw[ltT c,azc,idxG c];simp only[aza];rw[sheetP_is (hf _ hm),sheetV (hf _ hm),aza,wr1 (by omega),wadd (by have:=nC_le hx i (by omega);have:=hx _ hm;omega),<-JzS c];have e:shsE b=fz (fun s=>(bzw s).getD 0) (b.Sheets.drop i):=by
    unfold shsE
    conv=>lhs;rw[<-List.take_append_drop i b.Sheets]
    exact fz_app _ _ _ h0
   by_cases d:(bzw b.Sheets[i]).getD 0=0
   .rw[dT0 d,show(!true)=false from rfl,azd];obtain⟨t',k⟩:=ih (i+1) t (by omega) (by omega) (by omega) (by
     rw[List.take_succ_eq_append_getElem c,fz_app _ _ _ h0];simp only[fz];rw[if_pos d])
    rw[k];exact⟨t',rfl⟩
   .rw[dF0 d];rw[List.drop_eq_getElem_cons c]at e;simp only[fz]at e;rw[if_neg d]at e;rw[e,if_neg d];exact⟨t,rfl⟩
  .have:i=b.Sheets.length:=by omega
   subst this;rw[List.take_length]at h0;have h0:shsE b=0:=h0;rw[ltF,azd,if_pos h0];exact tl t h0
theorem book_eq {b:Book}(h:fewB b)(hs:IzO b):jzg b=gzd b:=by
 have hl:=h.sheets;have cl:∀s∈b.Sheets,s.Cells.length<=120:=fun s hs=>(h.sheet s hs).cells
 have cl':∀s∈b.Sheets,s.Cells.length<=1000:=fun s hs=>by have:=cl s hs;omega
 have tlen:=fzq (f:=txS) (K:=120) b.Sheets fun s hs=>by have:=tz9 s;have:=cl s hs;omega
 have tsm:∀x∈b.Sheets.flatMap txS,x.length<=4000000:=by
  intro x hx;obtain⟨s,hs,hx⟩:=List.mem_flatMap.1 hx;unfold txS at hx;obtain⟨c,hc,hx⟩:=List.mem_flatMap.1 hx;have:=((h.sheet s hs).cellE c hc).2;cases hd:!c.Has&&decide (c.V.Kind=2)
  .rw[hd]at hx;cases hx
  .rw[hd]at hx;simp at hx;rw[hx];omega
 obtain⟨t1,a1,e1,p1,p2,p3⟩:=buildP_is (x:=b.Sheets.flatMap txS) (by omega) tsm;obtain⟨t2,a2,e2,d1,d2,d3⟩:=buildD_is (x:=b.Sheets.flatMap txS) (by omega) tsm;have nn:=nC_le cl b.Sheets.length (Nat.le_refl _);have htx:jzh b.Sheets=some (t1,e1):=by
  unfold jzh;rw[allP_is (by omega) cl',aza,p1];rfl
 have gt:=h.glob.texts;have tailP:shsE b=0->∀t,∃t',(brn (decide ((4096:Int)<(nC b b.Sheets.length:Int))) (some (4,t)) (obnd (jzo (b,b.Sheets,(b.Sheets.length:Int),0)) fun y =>
  osum y (fun y=>obnd (jzh b.Sheets) fun y=>brn (!decide (y.2=0)) (some (3,y.1)) (brn (!decide (y.1.Uses=b.Globals.Texts.Uses)) (some (3,y.1)) (obnd (bzt (y.1.Texts,b.Globals.Texts.Texts)) fun y_1=>brn (!y_1) (some (3,y.1)) (some (0,y.1))))) fun y=>some (y,t)))=some (szg b,t'):=by
  intro h0 t;have hx:∀s∈b.Sheets,∀x∈s.Cells,0<=x.XF:=fun s hs=>sheet_xf (h.sheet s hs) (by
   rw[sheetV (h.sheet s hs)];rw[show(bzw s).getD 0=0 from tz5.1 h0 s hs])
  rw[dF0 (by omega),azd,xf_l2 (by omega) cl' hx,aza];unfold szg;by_cases c:xfE b=0
  .rw[if_pos c,c,er0];simp only[osum];rw[htx];simp only[aza];by_cases k:e1=0
   .have ok:=p2.1 k;have ht:=p3 k;rw[dT0 k,show(!true)=false from rfl,azd,eqStr (by rw[ht];have:=ok.2;simp only;omega),aza];by_cases q:b.Globals.Texts=⟨dd (b.Sheets.flatMap txS),((b.Sheets.flatMap txS).length:Int)⟩
    .rw[@dT0 _ (Classical.propDecidable _) (show okBd (b.Sheets.flatMap txS)/\b.Globals.Texts=_ from⟨ok,q⟩),ht,q,izA,dT0 rfl];exact⟨_,rfl⟩
    .rw[@dF0 _ (Classical.propDecidable _) (fun k=>q k.2),ht];simp only[cond_false];by_cases u:(((b.Sheets.flatMap txS).length:Nat):Int)=b.Globals.Texts.Uses
     .have n:eqX (dd (b.Sheets.flatMap txS)) b.Globals.Texts.Texts=false:=kzm fun e=>q (Lzm.2 ⟨e.symm,u.symm⟩)
      rw[dT0 u,n];exact⟨_,rfl⟩
     .rw[dF0 u];exact⟨_,rfl⟩
   .rw[dF0 k,@dF0 _ (Classical.propDecidable _) (fun q=>k (p2.2 q.1))];exact⟨_,rfl⟩
  .rw[if_neg c,er,if_neg c];exact⟨_,rfl⟩
 have tailD:(obnd (izs (b,0,0)) fun y=>brn (decide (4096<y)) (some 4) (obnd (izt (b,0)) fun y=>osum y (fun y=>obnd (izv b.Sheets) fun y=>obnd (jzk y) fun y=>brn (!decide (y.2.2=0)) (some 3) (obnd (ezP (y.1.Texts,b.Globals.Texts.Texts)) fun y_1=>brn (!y_1) (some 3) (brn (!decide (y.1.Uses=b.Globals.Texts.Uses)) (some 3) (some 0)))) fun y=>some y))=some (szg b):=by
  rw[nCD (by omega) cl,aza,dF0 (by omega),azd,xfD_l3 (by omega) cl',aza,EzC (by omega) cl'];unfold szg;by_cases c:xfE b=0
  .rw[if_pos c,c,er0];simp only[osum,aza];rw[d1];simp only[aza];rw[qz1 (by omega)];by_cases k:e2=0
   .have ok:=d2.1 k;have ht:=d3 k;rw[dT0 k,show(!true)=false from rfl,azd,aza];by_cases q:b.Globals.Texts=⟨dd (b.Sheets.flatMap txS),((b.Sheets.flatMap txS).length:Int)⟩
    .rw[@dT0 _ (Classical.propDecidable _) (show okBd (b.Sheets.flatMap txS)/\b.Globals.Texts=_ from⟨ok,q⟩),ht,q,izA,dT0 rfl];rfl
    .rw[@dF0 _ (Classical.propDecidable _) (fun k=>q k.2),ht];simp only[cond_false];by_cases u:(((b.Sheets.flatMap txS).length:Nat):Int)=b.Globals.Texts.Uses
     .have n:eqX (dd (b.Sheets.flatMap txS)) b.Globals.Texts.Texts=false:=kzm fun e=>q (Lzm.2 ⟨e.symm,u.symm⟩)
      rw[n];rfl
     .rw[dF0 u];cases eqX (dd (b.Sheets.flatMap txS)) b.Globals.Texts.Texts<;>rfl
   .rw[dF0 k,@dF0 _ (Classical.propDecidable _) (fun q=>k (d2.2 q.1))];rfl
  .rw[if_neg c,er,if_neg c];rfl
 have full:∀t,∃t',fzp (b,t,0,0)=some (if shsE b=0 then szg b else shsE b,t'):=fun t=>by
  have:=wzU (b:=b) hl h.sheet cl (fun t h0=>tailP h0 t) b.Sheets.length big 0 t (by omega) (by rw[bzT];omega) (by omega) rfl;exact this
 have full1:∀t,∃t',gz2 fzp (b,t,0,0)=some (if shsE b=0 then szg b else shsE b,t'):=fun t=>by
  have:=wzU (b:=b) hl h.sheet cl (fun t h0=>tailP h0 t) b.Sheets.length (big+1) 0 t (by omega) (by rw[bzT];omega) (by omega) rfl;rw[azz]at this;exact this
 unfold jzg rzg gzd;rw[glob_eq h.glob hs.1 hs.2.1 hs.2.2];obtain⟨g,g1,g2⟩:=yzD h.glob hs.1 hs.2.1 hs.2.2;rw[g1];simp only[aza];by_cases c0:g=0
 .rw[dT0 c0,show(!true)=false from rfl,azd,azd];by_cases c1:b.Sheets.length=b.Globals.Sheets.length
  .rw[dT0 (by omega),show(!true)=false from rfl,azd,azd,shsD_is (by omega) h.sheet];obtain⟨t',k⟩:=full1 ⟨[],0⟩;unfold gz2 at k;simp only at k;have doc:(obnd (some (er (shsE b))) fun y=>osum y (fun y=>obnd (izs (b,0,0)) fun y=>brn (decide (4096<y)) (some 4) (obnd (izt (b,0)) fun y=>osum y (fun y=>obnd (izv b.Sheets) fun y=>obnd (jzk y) fun y=>brn (!decide (y.2.2=0)) (some 3) (obnd (ezP (y.1.Texts,b.Globals.Texts.Texts)) fun y_1=>brn (!y_1) (some 3) (brn (!decide (y.1.Uses=b.Globals.Texts.Uses)) (some 3) (some 0)))) fun y=>some y)) fun y=>some y)=some (if shsE b=0 then szg b else shsE b):=by
    rw[aza];by_cases c2:shsE b=0
    .rw[if_pos c2,c2,er0];simp only[osum];exact tailD
    .rw[if_neg c2,er,if_neg c2];rfl
   rw[doc];have c3:0<b.Sheets.length:=by have:=(g2 c0).1;omega
   rw[dT0 (by omega),azc,show(0:Int)=((0:Nat):Int) from rfl,idxG c3];rw[dT0 (by omega),azc,show(0:Int)=((0:Nat):Int) from rfl,idxG c3]at k;simp only[aza]at k ⊢;have k2:(obnd (hz7 b.Sheets[0]) fun y=>brn (!decide (y=0)) (some (y,(⟨[],0⟩:Table))) (obnd (fzp (b,⟨[],0⟩,i64.wrap (0+(b.Sheets[0].Cells.length:Int)),1)) fun y=>some (y.1,y.2)))=some (if shsE b=0 then szg b else shsE b,t'):=k
   show(obnd (obnd (hz7 b.Sheets[0]) fun y=>brn (!decide (y=0)) (some (Sum.inr y)) (obnd (fzp (b,⟨[],0⟩,i64.wrap (0+(b.Sheets[0].Cells.length:Int)),1)) fun y=>some (Sum.inr y.1))) fun y=>osum y (fun y=>none) fun y=>some y)=_
   clear k;cases hS:hz7 b.Sheets[0]with
   | none=>rw[hS]at k2;cases k2
   | some v =>
    rw[hS,aza]at k2;rw[aza];by_cases c4:v=0
    .rw[dT0 c4,show(!true)=false from rfl,azd]at k2;rw[dT0 c4,show(!true)=false from rfl,azd];cases hJ:fzp (b,⟨[],0⟩,i64.wrap (0+(b.Sheets[0].Cells.length:Int)),1)with
     | none=>rw[hJ]at k2;cases k2
     | some y =>
      rw[hJ,aza]at k2;rw[aza,aza];injection k2 with k2;injection k2 with k3 k4;exact congrArg some k3
    .rw[dF0 c4]at k2;rw[dF0 c4];injection k2 with k2;injection k2 with k3 k4;exact congrArg some k3
  .rw[dF0 (by omega)];rfl
 .rw[dF0 c0];rfl
theorem of_tot:∀(d N:Nat) (e:Expr),d<N->sz d e<=1000->tr d e->iter pzS N e=some e
 | _,0,_,h,_,_=>absurd h (by omega)
 | 0,_,_,_,_,h=>h.elim
 | d+1,N+1,e,hN,hs,ht=>by
  have hl:=lenK hs;have hk:∀k∈e.Kids,iter pzS N k=some k:=fun k hk=>of_tot d N k (by omega) (szK hs hk) (mzV ht hk)
  rw[azz];generalize iter pzS N=S at hk;have:=kzk (F:=nzz S) (fun(s:List Expr) (i:Nat)=>(s,e,(⟨e.Kind,e.V,e.A,e.Sheet,e.Op,s⟩:Expr),(i:Int))) (fun s:List Expr=>(s,(⟨e.Kind,e.V,e.A,e.Sheet,e.Op,s⟩:Expr))) e.Kids (by omega)
   (fun back s i hi hp=>by
    unfold nzz;simp only[azj];rw[ltT hi,azc,idxG hi,aza,hk _ (List.getElem_mem hi),aza,appN (by simp only[List.length_singleton];omega),aza,wr1 (by omega)])
   (fun back s=>by
    unfold nzz;simp only;rw[ltF,azd])
  unfold pzS;simp only[azj];rw[show uzC e.V=some e.V from rfl,show uzA e.A=some e.A from rfl,aza,aza,show uzv S ([],e,⟨e.Kind,e.V,e.A,e.Sheet,e.Op,[]⟩,0)=_ from this,aza];cases e;rfl
theorem ofE {e:Expr}(h:fewE e):vzQ e=some e:=of_tot 40 big e (by rw[bzT];omega) (by have:=h.1;omega) h.2
theorem ofEnv {v:Env}(hs:v.Slots.length<=100000)(hn:v.Names.length<=1000)(he:∀e∈v.Names,fewE e):vzS v=some v:=by
 have l1:=kzk (F:=izO) (fun s i=>(v.Slots,s,(i:Int))) id v.Slots (by omega)
  (fun back s i hi hp=>by
   unfold izO;simp only;rw[ltT hi,azc,idxG hi,aza,show lzr v.Slots[i].P=some v.Slots[i].P from rfl,aza,aza,show uzC v.Slots[i].V=some v.Slots[i].V from rfl,aza,appN (by simp only[List.length_singleton];omega),aza,wr1 (by omega)])
  (fun back s=>by unfold izO;simp only;rw[ltF];rfl)
 have l2:=kzk (F:=kzr) (fun s i=>(v.Names,s,(i:Int))) id v.Names (by omega)
  (fun back s i hi hp=>by
   unfold kzr;simp only[azj];rw[ltT hi,azc,idxG hi,aza,ofE (he _ (List.getElem_mem hi)),aza,appN (by simp only[List.length_singleton];omega),aza,wr1 (by omega)])
  (fun back s=>by unfold kzr;simp only;rw[ltF];rfl)
 unfold vzS rzw uzu;rw[show ozI (v.Slots,[],0)=_ from l1,show qze (v.Names,[],0)=_ from l2];rfl
theorem ofNode {n:Node}(h:fewE n.E):vzT n=some n:=by
 unfold vzT;simp only[azj];rw[show lzr n.P=some n.P from rfl,show qzm n.Base=some n.Base from rfl,ofE h];rfl
theorem slotE (a b:Slot):(decide (a.P.Sheet=b.P.Sheet)&&(decide (a.P.At.Row=b.P.At.Row)&&(decide (a.P.At.Col=b.P.At.Col)&&(decide (a.V.Kind=b.V.Kind)&&(decide (a.V.N.M=b.V.N.M)&&(decide (a.V.N.S=b.V.N.S)&&(decide (a.V.S=b.V.S)&&(decide (a.V.B=b.V.B)&&decide (a.V.E=b.V.E)))))))))=eqX a b:=by
 rw[Bool.eq_iff_iff,dz3];obtain⟨⟨s,⟨r,c⟩⟩,⟨k,⟨m,t⟩,u,v,w⟩⟩:=a;obtain⟨⟨s',⟨r',c'⟩⟩,⟨k',⟨m',t'⟩,u',v',w'⟩⟩:=b;simp[and_assoc]
theorem NzP {v:Env}(hs:v.Slots.length<=100000)(hn:v.Names.length<=1000)(he:∀e∈v.Names,fewE e):oze (v,v)=some true:=by
 have l1:=fzt (F:=gzF) (fun i=>(v.Slots,v.Slots,(i:Int))) v.Slots v.Slots rfl (by omega)
  (by
   intro back i h1 h2;unfold gzF;simp only[cond_true,slotE];rw[ltT h1,azc,idxG h1,aza,aza,wr1 (by omega)])
  (by
   intro back;unfold gzF;simp only;rw[ltF];rfl)
 have l2:=fzt (F:=izQ) (fun i=>(v,v,(i:Int))) v.Names v.Names rfl (by omega)
  (by
   intro back i h1 h2;unfold izQ;simp only[azj];rw[ltT h1,azc,idxG h1,aza,aza,nzM (he _ (List.getElem_mem h1)),aza,wr1 (by omega)])
  (by
   intro back;unfold izQ;simp only;rw[ltF];rfl)
 unfold oze pzD;simp only;rw[show mz5 (v.Slots,v.Slots,0)=_ from l1,show ozN (v,v,0)=_ from l2,izA,izA];simp;rfl
theorem envD_l2 {z:List Slot}{k:Int}{nm:List Expr}{n:Nat}{b:Book}(hn:n<b.Sheets.length)(hz:z.length<=1000000)(hc:b.Sheets[n].Cells.length<=1000):
 szZ (z,b,⟨k,z,nm⟩,(n:Int),0)=some (z++slS n b.Sheets[n].Cells,⟨k,z++slS n b.Sheets[n].Cells,nm⟩):=by
 refine cz2 (F:=mzN) (fun z i=>(z,b,(⟨k,z,nm⟩:Env),(n:Int),(i:Int))) (fun z=>(z,(⟨k,z,nm⟩:Env))) b.Sheets[n].Cells _ 1 z (by omega) (fun c _=>by cases !decide (c.V.Kind=0)<;>simp) ?_ ?_
 .intro back y i hi hy;unfold mzN;simp only;rw[idxG hn];simp only[aza];rw[ltT hi,azc,idxG hi,aza,wr1 (by omega),appN (by simp at hy ⊢;omega),aza];cases decide (b.Sheets[n].Cells[i].V.Kind=0)
  .rfl
  .simp
 .intro back y _;unfold mzN;simp only;rw[idxG hn];simp only[aza];rw[ltF];rfl
theorem envD_is {b:Book}(hb:b.Sheets.length<=1000)(h:∀s∈b.Sheets,s.Cells.length<=1000):tzW b=some ⟨(b.Sheets.length:Int),sls b.Sheets,b.Globals.Names⟩:=by
 have:=cz2 (F:=mzM) (fun z i=>(z,b,(⟨(b.Sheets.length:Int),z,b.Globals.Names⟩:Env),(i:Int))) (fun z=>(z,(⟨(b.Sheets.length:Int),z,b.Globals.Names⟩:Env))) b.Sheets.zipIdx (fun p=>slS p.2 p.1.Cells) 1000 [] (by simp;omega) ?_ ?_ ?_
 .unfold tzW;rw[show szY ([],b,⟨(b.Sheets.length:Int),[],b.Globals.Names⟩,0)=_ from this];rfl
 .rintro⟨s,i⟩ hp;have:=h s (List.fst_mem_of_mem_zipIdx hp);have:=Kzw i s.Cells;simp only;omega
 .intro back z i hi hz;have hi':i<b.Sheets.length:=by simpa using hi
  have h1:=h _ (List.getElem_mem hi');unfold mzM;simp only;rw[ltT hi',azc,envD_l2 hi' (by simp at hz;omega) h1,aza,wr1 (by omega),List.getElem_zipIdx,Nat.zero_add]
 .intro back z _;unfold mzM;simp only;rw[List.length_zipIdx,ltF];rfl
def qG (c:Cell)(g:Group):Bool:=g.Array&&hasG g c
theorem OzX {gs:List Group}{c:Cell}(hl:gs.length<=1000):ozf (gs,c)=some (match gs.findIdx? (qG c)with|some i=>(i:Int)|none=>-1):=by
 have:=kzo (F:=izT) (fun i=>(gs,c,(i:Int))) loc gs (qG c) (by omega)
  (by
   intro back i hi;unfold izT qG;simp only[azj,bzV];rw[ltT hi,azc,idxG hi];simp only[aza];rw[Az9,aza,wr1 (by omega)];cases gs[i].Array<;>cases hasG gs[i] c<;>rfl)
  (by
   intro back;unfold izT;simp only;rw[ltF];rfl)
 unfold ozf;rw[show ozQ (gs,c,0)=_ from this,aza];cases gs.findIdx? (qG c)<;>rfl
def oneA (gs:List Group):Prop:=∀c,gs.Pairwise fun g h=>qG c g=true->qG c h=true->False
theorem bs_none {c:Cell2}:∀(gs:List Group) (b:Cell),(∀g∈gs,qG c.At g=false)->gs.foldl (fun b g=>bif g.Array&&hasG g c.At then g.A else b) b=b
 | [],_,_=>rfl
 | g::gs,b,h=>by
  have h1:=h g (by simp);unfold qG at h1;rw[List.foldl_cons,h1,cond_false];exact bs_none gs b fun x hx=>h x (by simp[hx])
theorem bs_eq {c:Cell2}:∀(gs:List Group) (b:Cell),(gs.Pairwise fun g h=>qG c.At g=true->qG c.At h=true->False)->gs.foldl (fun b g=>bif g.Array&&hasG g c.At then g.A else b) b=(match gs.find? (qG c.At)with|some g=>g.A|none=>b)
 | [],_,_=>rfl
 | g::gs,b,h=>by
  rw[List.pairwise_cons]at h;rw[List.foldl_cons,List.find?_cons];cases hq:qG c.At g with
  | true =>
   have hq':=hq;unfold qG at hq';rw[hq',cond_true,bs_none gs g.A fun x hx=>by
    cases k:qG c.At x
    .rfl
    .exact(h.1 x hx hq k).elim]
  | false =>
   have hq':=hq;unfold qG at hq';rw[hq',cond_false];exact bs_eq gs b h.2
theorem nodesD_l2 {z:List Node}{n:Nat}{s:Sheet}(hz:z.length<=1000000)(hc:s.Cells.length<=1000)(hg:s.Groups.length<=1000)(ho:oneA s.Groups):
 qzI (z,(n:Int),s,0)=some (z++ndS s.Groups n s.Cells):=by
 refine cz2 (F:=kzE) (fun z i=>(z,(n:Int),s,(i:Int))) id s.Cells _ 1 z (by omega) (fun c _=>by cases c.Has<;>simp) ?_ ?_
 .intro back y i hi hy;unfold kzE;simp only[azj];rw[ltT hi,azc,idxG hi,aza,OzX hg,aza,wr1 (by omega)];have e:=bs_eq (c:=s.Cells[i]) s.Groups s.Cells[i].At (ho s.Cells[i].At);unfold bsOf;rw[e];cases hH:s.Cells[i].Has
  .simp
  .simp only[Bool.not_true,azd,cond_true];rcases Fzy (p:=qG s.Cells[i].At) (l:=s.Groups)with⟨h1,h2⟩|⟨j,hj,h1,h2⟩
   .rw[h1,h2];simp only;rw[dF0 (by omega),azd,appN (by simp at hy ⊢;omega),aza]
   .rw[h1,h2];simp only;rw[dT0 (by omega),azc,idxG hj,aza,appN (by simp at hy ⊢;omega),aza]
 .intro back y _;unfold kzE;simp only;rw[ltF];rfl
theorem nodesD_is {b:Book}(hb:b.Sheets.length<=1000)(h:∀s∈b.Sheets,s.Cells.length<=1000/\s.Groups.length<=1000/\oneA s.Groups):qzF b=some (nds b.Sheets):=by
 have:=cz2 (F:=kzD) (fun z i=>(b,z,(i:Int))) id b.Sheets.zipIdx (fun p=>ndS p.1.Groups p.2 p.1.Cells) 1000 [] (by simp;omega) ?_ ?_ ?_
 .unfold qzF;rw[show qzH (b,[],0)=_ from this];rfl
 .rintro⟨s,i⟩ hp;have:=h s (List.fst_mem_of_mem_zipIdx hp);have:=JzT s.Groups i s.Cells;simp only;omega
 .intro back z i hi hz;have hi':i<b.Sheets.length:=by simpa using hi
  obtain⟨h1,h2,h3⟩:=h _ (List.getElem_mem hi');unfold kzD;simp only;rw[ltT hi',azc,idxG hi',aza,nodesD_l2 (by simp at hz;omega) h1 h2 h3,aza,wr1 (by omega),List.getElem_zipIdx,Nat.zero_add]
 .intro back z _;unfold kzD;simp only;rw[List.length_zipIdx,ltF];rfl
theorem one_of {s:Sheet}(h:grD s=true):oneA s.Groups:=by
 have h0:csD (s.Groups.filter (·.Array))=0:=by
  unfold grD at h;apply Decidable.byContradiction;intro c;rw[dF0 c]at h;cases h
 have ha:=AzF.1 (cs0 h0).2;intro c;have:(s.Groups.filter (·.Array)).Pairwise fun g h=>ovB h g=false:=by
  rw[List.pairwise_iff_getElem];intro i j hi hj hij;exact ha j i hj hi hij
 rw[List.pairwise_filter]at this;refine this.imp ?_;intro g k hgk hg hk;unfold qG at hg hk;simp only[Bool.and_eq_true]at hg hk;have o:=hgk hg.1 hk.1;have a1:=FzB.1 hg.2;have a2:=FzB.1 hk.2;unfold ovB at o;rw[dT0 (by omega),dT0 (by omega),dT0 (by omega),dT0 (by omega)]at o;cases o
theorem check0 {b:Book}(h:fewB b)(hs:IzO b)(h0:gzd b=some 0):∀s∈b.Sheets,grD s=true:=by
 have hl:=h.sheets;obtain⟨g,g1,-⟩:=yzD h.glob hs.1 hs.2.1 hs.2.2;unfold gzd at h0;rw[g1,aza]at h0;by_cases c0:g=0
 .rw[dT0 c0,show(!true)=false from rfl,azd]at h0;by_cases c1:b.Sheets.length=b.Globals.Sheets.length
  .rw[dT0 (by omega),show(!true)=false from rfl,azd,shsD_is (by omega) h.sheet,aza]at h0;by_cases c2:shsE b=0
   .intro s hsm;obtain⟨r,e1,e2⟩:=Gzu (h.sheet s hsm);have:=tz5.1 c2 s hsm;rw[e1]at this;exact(e2 this).2
   .rw[er,if_neg c2]at h0;exact absurd (Option.some.inj h0) c2
  .rw[dF0 (by omega)]at h0;cases h0
 .rw[dF0 c0]at h0;exact absurd (Option.some.inj h0) c0
end Go.Proofs.YtkafbjodbjkieaaGreatDoor
/- KB -/
namespace Go.Proofs.YtkafbjodbjkieaaGreatDoor
open Go Go.Ev
open Go.IntKind (i64 u64 u8 i32 u32 i16 u16)
set_option maxRecDepth 100000
noncomputable section
abbrev JzK:List (Nat×Fq):=[(6,Bzr),(7,HzK),(8,Kz5),(9,rzV),(10,BzZ),(11,yzp),(12,Ez3),(13,wzo),(14,Bz4),(17,AzJ),(16,KzZ),(18,Izs),(15,xzH),(19,Kz0),(20,izo)]
theorem ozJ:azk Tryz.prog tb (JzK):=(.cons DzF (.cons HzL (.cons JzL (.cons pzv (.cons Dz3 (.cons vzy (.cons Gzf (.cons uzf (.cons Dz4 (.cons wz4 (.cons JzE (.cons Izt (.cons Aze (.cons JzF (.cons cz7 .nil)))))))))))))))
def ozK (x:Book×Book×Book):Option (Bool):=obnd (jzg x.2.2) fun y=>obnd (gzd x.1) fun y_1=>brn (!decide (y=y_1)) (some true) (obnd (pzW x.2.1) fun y=>obnd (mza (x.2.2,y)) fun y=>obnd (rz8 (x.1,x.2.1)) fun y_2=>brn (!decide (y=y_2)) (some true) (obnd (pzW x.1) fun y=>obnd (mza (x.2.2,y)) fun y=>some (bif y then false else true)))
def DzA:Cq:=⟨56,[(2,.ro 32),(3,.ro 32),(5,.ro 42)],[(.normal,[(43,.val 4)])],rg 22 22 [],(ozK),none⟩
theorem yzK:A5 Tryz.f3 56 DzA:=A6 ozJ .nil
def izP (back:List Node×List Node×Int->Option ((Unit)⊕(Bool)))(x:List Node×List Node×Int):Option ((Unit)⊕(Bool)):=brn (decide (x.2.2<(↑x.1.length:Int))) (obnd (idx x.1 x.2.2) fun y=>obnd (vzT (Node.mk y.P y.Base (aze y.E))) fun y=>obnd (idx x.2.1 x.2.2) fun y_1=>brn (bif true then !(decide (y.P.Sheet=y_1.P.Sheet)&&(decide (y.P.At.Row=y_1.P.At.Row)&&decide (y.P.At.Col=y_1.P.At.Col)))else decide (y.P.Sheet=y_1.P.Sheet)&&(decide (y.P.At.Row=y_1.P.At.Row)&&decide (y.P.At.Col=y_1.P.At.Col))) (some (Sum.inr false)) (obnd (idx x.2.1 x.2.2) fun y_2=>brn (bif true then !(decide (y.Base.Row=y_2.Base.Row)&&decide (y.Base.Col=y_2.Base.Col))else decide (y.Base.Row=y_2.Base.Row)&&decide (y.Base.Col=y_2.Base.Col)) (some (Sum.inr false)) (obnd (idx x.2.1 x.2.2) fun y_3=>obnd (cz6 (aze y.E,aze y_3.E)) fun y=>brn (!y) (some (Sum.inr false)) (back (x.1,x.2.1,i64.wrap (x.2.2+1)))))) (some (Sum.inl PUnit.unit))
def ozL:=iter izP big
def DzE:Cq:=⟨124,[(6,.val 49),(7,.val 51),(8,.val 3)],[(.exit 0,[]),(.ret,[(4,.val 4)])],rg 65 40 [4,8,9],ozL,none⟩
theorem yzM:A3 Tryz.f3 124 DzE:=A4 ozJ .nil izP
def rzy (x:Book×Book):Option (Bool):=obnd (uzz ()) fun y=>brn (!y) (some false) (obnd (qzl x.1) fun y=>brn (!y) (some true) (obnd (qzl x.2) fun y=>brn (!y) (some true) (obnd (pzW x.1) fun y=>obnd (ozK (x.1,x.2,y)) fun y_1=>brn y_1 (some false) (obnd (gzd x.1) fun y_2=>brn (!decide (y_2=0)) (some true) (obnd (ozW y) fun y_3=>obnd (qzF x.1) fun y_4=>brn (!decide ((↑(List.length y_3):Int)=(↑(List.length y_4):Int))) (some false) (obnd (szm y) fun y=>obnd (vzS y) fun y=>obnd (tzW x.1) fun y_5=>obnd (oze (y,y_5)) fun y=>brn (!y) (some false) (obnd (ozL (y_3,y_4,0)) fun y=>osum y (fun y=>some true) fun y=>some y)))))))
def xzo:Fq:=⟨[(0,.val 32),(1,.val 32)],[(0,.val 4)],rzy⟩
theorem zz8:A0 3 xzo:=A2 Tryz.func3 ozJ (.cons yzK (.cons yzM .nil))
end
set_option maxRecDepth 100000
theorem Pzp:uzz ()=some true:=by kernel_rfl
end Go.Proofs.YtkafbjodbjkieaaGreatDoor
/- RV -/
namespace Go.Proofs.YtkafbjodbjkieaaGreatDoor
open Go Go.Ev Go.Lib
open Go.IntKind (i64 u64 u8 i32 u32 i16 u16)
theorem nds_few {l:List Sheet}(h:∀s∈l,∀c∈s.Cells,fewE c.E):∀n∈nds l,fewE n.E:=by
 intro n hn;obtain⟨p,hp,hn⟩:=List.mem_flatMap.1 hn;obtain⟨c,hc,hn⟩:=List.mem_flatMap.1 hn;have:=h _ (List.fst_mem_of_mem_zipIdx hp) c hc;cases hd:c.Has
 .rw[hd]at hn;cases hn
 .rw[hd]at hn;simp at hn;rw[hn];exact this
theorem any_l2 {l:List Node}(hl:l.length<=100000)(he:∀n∈l,fewE n.E):ozL (l,l,0)=some (.inl ()):=by
 refine go_loop (F:=izP) (fun i=>(l,l,(i:Int))) l.length _ (by omega) ?_ ?_
 .intro back i hi;have hm:=he _ (List.getElem_mem hi);unfold izP;simp only[azj,Node_eta,cond_true];rw[ltT hi,azc,idxG hi];simp only[aza];rw[ofNode hm];simp only[aza];rw[nzM hm,izA,aza,wr1 (by omega)];simp
 .intro back;unfold izP;simp only;rw[ltF];rfl
theorem Mzc (a b:Book)(ha:fitB a)(hb:fitB b):rzy (a,b)=some true:=by
 unfold rzy ozK;rw[Pzp,aza];obtain⟨r,r1,r2⟩:=fewBook a ha;obtain⟨q,q1,q2⟩:=fewBook b hb;simp only;rw[r1,q1];simp only[aza];cases r
 .rfl
 cases q
 .rfl
 obtain⟨f1,f2,f3,f4,f5,f6,f7,f8,sa,f9⟩:=r2 rfl;obtain⟨e1,e2,e3,e4,e5,e6,e7,e8,sb,e9⟩:=q2 rfl;have fa:fewB a:=⟨⟨f3,f4,f5,f6,f7,f8,f9⟩,f1,f2⟩;have fb:fewB b:=⟨⟨e3,e4,e5,e6,e7,e8,e9⟩,e1,e2⟩;obtain⟨c,c1,c2⟩:=Mzj fa sa;rw[toBook fa,toBook fb];simp only[aza];rw[book_eq fa sa,c1];simp only[aza];rw[EzD fa fb,Mzk fa fb,EzD fa fa,izA];simp only[aza];simp only[decide_true,Bool.not_true,azd,cond_true,aza];by_cases hc:c=0
 .subst hc;have ok:=c2 rfl;have gr:=check0 fa sa c1;have hcl:∀s∈a.Sheets,s.Cells.length<=120:=fun s hs=>(f2 s hs).cells
  have hsl:=fzq (f:=fun p:Sheet×Nat=>slS p.2 p.1.Cells) (K:=120) a.Sheets.zipIdx fun p hp=>by
   have:=hcl _ (List.fst_mem_of_mem_zipIdx hp);have:=Kzw p.2 p.1.Cells;omega
  have hnl:=fzq (f:=fun p:Sheet×Nat=>ndS p.1.Groups p.2 p.1.Cells) (K:=120) a.Sheets.zipIdx fun p hp=>by
   have:=hcl _ (List.fst_mem_of_mem_zipIdx hp);have:=JzT p.1.Groups p.2 p.1.Cells;omega
  rw[List.length_zipIdx]at hsl hnl;have hsl:(sls a.Sheets).length<=1440:=by unfold sls;omega
  have hnl:(nds a.Sheets).length<=1440:=by unfold nds;omega
  rw[dT0 rfl,nodesP_is (b:=a) (by omega) (fun s hs=>⟨by have:=hcl s hs;omega,by have:=(f2 s hs).groups;omega⟩),
   nodesD_is (b:=a) (by omega) (fun s hs=>⟨by have:=hcl s hs;omega,by have:=(f2 s hs).groups;omega,one_of (gr s hs)⟩),envP_is (b:=a) (by omega) (fun s hs=>by have:=hcl s hs;omega) (by omega),envD_is (b:=a) (by omega) (fun s hs=>by have:=hcl s hs;omega)]
  simp only[aza];rw[ofEnv (by simp only;omega) (by simp only;omega) f9];simp only[aza];rw[NzP (by simp only;omega) (by simp only;omega) f9];simp only[aza];rw[any_l2 (by omega) (nds_few fun s hs c hc=>((f2 s hs).cellE c hc).1)];simp;rfl
 .rw[dF0 hc];rfl
end Go.Proofs.YtkafbjodbjkieaaGreatDoor
/- RW -/
namespace Go.Proofs.YtkafbjodbjkieaaGreatDoor
open Go Go.Ev
open Go.IntKind (i64 u64 u8 i32 u32 i16 u16)
theorem own:ownKnob Tryz.prog.godebug=none:=by kernel_rfl
theorem laidOut:laidOutB Tryz.prog=true:=by kernel_rfl
theorem and2 {a b:Bool}(h:a=true)(k:b=true):(a&&b)=true:=by rw[h,k];rfl
theorem main_is:Tryz.pinned.checked.prog.mainIs=some (true, "020e668ef3ba47a8d131159ae894effd8d56bef963cd7bc3292c53b116590e53".toList):=by kernel_rfl
theorem looks_is:false=Tryz.pinned.checked.prog.looks []:=by kernel_rfl
theorem PzA:mapsRowed Tryz.prog=true:=by kernel_rfl
theorem PzF:(Rows.bookNodesRow.plainKeys == Tryz.prog.plainKeys)=true:=by kernel_rfl
theorem OzS:Tryz.prog.stopsHeard=true:=by kernel_rfl
theorem may_enter:Tryz.prog.mayEnter=true:=by kernel_rfl
theorem lifts_is:(Rows.bookNodesRow.lifted == Tryz.prog.liftsFinal)=true:=by kernel_rfl
theorem make_is:(Tryz.prog.make == some Rows.bookNodesRow.make)=true:=by kernel_rfl
abbrev laidL:List (String×DataW Unit):=[("unicode/utf8.acceptRanges",Rows.laid_unicode_utf8_acceptRanges),("unicode/utf8.first",Rows.laid_unicode_utf8_first)]
theorem extra:Go.Proofs.U8Extra Tryz.prog Tryz.lays196_ren:=⟨by kernel_rfl,by kernel_rfl,by kernel_rfl,by kernel_rfl,by kernel_rfl,by kernel_rfl,by kernel_rfl⟩
theorem first_is:(Rows.laid_unicode_utf8_first:DataW Unit)=Lib.firstData:=by kernel_rfl
theorem accept_is:(Rows.laid_unicode_utf8_acceptRanges:DataW Unit)=Lib.acceptData:=by kernel_rfl
theorem inv_of {W:World}(h:laidMetH Tryz.prog laidL W):tb.inv (fun _=>.con) W:=by
 rw[MakeChecks.laidMetH_plain _ _ _ (by kernel_rfl)]at h;have h3:=Lib.laidMet.reads h (n := "unicode/utf8.first") (d:=Rows.laid_unicode_utf8_first) (by simp);have h4:=Lib.laidMet.reads h (n := "unicode/utf8.acceptRanges") (d:=Rows.laid_unicode_utf8_acceptRanges) (by simp);rw[first_is]at h3;rw[accept_is]at h4;exact⟨rfl,rfl,Go.Proofs.utf8Tabs_of_readsT (.of196 Tryz.lays196) extra h3 h4⟩
theorem true_out {P:Program}:∀g w us cs v,az8 P tb g w [(0,.val 4)] true us cs->RetV [(0,.val 4)] us v->bzq P 4=false->v = .bool true:=by
 intro g w us cs v h hr ha;cases us with
 | nil=>cases cs<;>exact h.elim
 | cons u us =>
  cases us with
  | cons _ _=>cases cs<;>exact h.elim
  | nil =>
   cases cs with
   | nil=>exact h.elim
   | cons c cs =>
    cases cs with
    | cons _ _=>exact h.elim
    | nil =>
     have hr:v=u:=hr;subst hr;obtain⟨h1,_⟩:=h;unfold bz6 at h1;simp only[ha,Bool.false_eq_true,if_false]at h1;obtain⟨c,hc,hrep⟩:=h1;have hc:[CV.bool true]=[c]:=hc;simp only[List.cons.injEq,and_true]at hc;subst hc;cases hrep;rfl
def rd2:RdTab Tryz.prog tb:=⟨[32,5,9,3,76,66,120,173,131,145],20,fun t ht=>by
 simp only[List.mem_cons,List.not_mem_nil,or_false]at ht;rcases ht with rfl|rfl|rfl|rfl|rfl|rfl|rfl|rfl|rfl|rfl
 .exact mz0 (ks:=[.sl 9,.sl 9,.sl 3,.sl 76,.sl 9,.int .i64,.sl 66,.sl 120]) (by kernel_rfl) (by kernel_rfl) (fun _ _ _ _ _ _ _ _=>rfl)
 .exact mz0 (ks:=[.int .u8]) (by kernel_rfl) (by kernel_rfl) (fun _=>rfl)
 .exact mz0 (ks:=[.str]) (by kernel_rfl) (by kernel_rfl) (fun _=>rfl)
 .exact mz0 (ks:=[.int .i64]) (by kernel_rfl) (by kernel_rfl) (fun _=>rfl)
 .exact mz0 (ks:=[.int .i64,.int .i64,.int .i64,.int .i64,.str,.bool,.int .i64,.int .i64,.int .i64,.bool,.bool,.int .i64,.int .i64,.bool,.bool,.int .i64,.int .i64,.sl 76]) (by kernel_rfl) (by kernel_rfl) (fun _ _ _ _ _ _ _ _ _ _ _ _ _ _ _ _ _ _=>rfl)
 .exact mz0 (ks:=[.int .i64,.int .i64,.int .i64]) (by kernel_rfl) (by kernel_rfl) (fun _ _ _=>rfl)
 .exact mz0 (ks:=[.sl 173,.sl 131,.sl 145]) (by kernel_rfl) (by kernel_rfl) (fun _ _ _=>rfl)
 .exact mz0 (ks:=[.int .i64,.int .i64,.bool]) (by kernel_rfl) (by kernel_rfl) (fun _ _ _=>rfl)
 .exact mz0 (ks:=[.int .i64,.int .i64,.int .i64,.int .i64,.int .i64,.int .i64,.str,.bool,.int .i64,.bool,.int .i64,.int .i64,.int .i64,.int .i64,.str,.bool,.int .i64,.int .i64,.int .i64,.bool,.bool,.int .i64,.int .i64,.bool,.bool,.int .i64,.int .i64,.sl 76]) (by kernel_rfl) (by kernel_rfl) (fun _ _ _ _ _ _ _ _ _ _ _ _ _ _ _ _ _ _ _ _ _ _ _ _ _ _ _ _=>rfl)
 .exact mz0 (ks:=[.bool,.int .i64,.int .i64,.int .i64,.int .i64,.int .i64,.int .i64,.int .i64,.int .i64,.str,.bool,.int .i64,.int .i64,.int .i64,.bool,.bool,.int .i64,.int .i64,.bool,.bool,.int .i64,.int .i64,.sl 76]) (by kernel_rfl) (by kernel_rfl) (fun _ _ _ _ _ _ _ _ _ _ _ _ _ _ _ _ _ _ _ _ _ _ _=>rfl)⟩
theorem readable2:∀t∈[32,5],Tryz.prog.readableRec t=true/\t<Tryz.prog.types.size:=by
 intro t ht;simp only[List.mem_cons,List.not_mem_nil,or_false]at ht;rcases ht with rfl|rfl<;>exact⟨by kernel_rfl,of_decide_eq_true (by kernel_rfl)⟩
theorem GzK {l:List (List UInt8)}(h:Wf Tryz.prog tb (.sl 9 l)):fitL l:=by
 cases h with
 | sl e xs _ hx =>
  intro x hm;have h1:=hx x hm;rw[CzQ]at h1;cases h1 (.str x) (by simp)with
  | str s hs=>exact hs
theorem fit_of {b:Book}(h:∀c∈tb.enc 32 b,Wf Tryz.prog tb c):fitB b:=by
 rw[enc32_eq]at h;exact⟨GzK (h _ (by simp)),GzK (h (.sl 9 b.Globals.Formats) (by simp)),GzK (h (.sl 9 b.Globals.Texts.Texts) (by simp))⟩
end Go.Proofs.YtkafbjodbjkieaaGreatDoor
/- DB -/
namespace Go.Proofs.YtkafbjodbjkieaaGreatDoor
open Go Go.Ev Go.ChangeShapes Go.WideShapes Go.RowKit
open Go.IntKind (i64 u64 u8 i32 u32 i16 u16)
theorem Bzp:KzE Tryz.prog tb xzo:=fun x hx=>by
 obtain⟨a,b⟩:=x;exact⟨true,Mzc a b (fit_of hx.1) (fit_of hx.2),fun g w us cs v h hr=>true_out g w us cs v h hr notAgg4⟩
set_option maxRecDepth 100000 in
theorem yzN (os:Os)(started:os.Started)(H:Type)(enc:TypeId×Value->H):
 ReturnsInHanded {} Tryz.checked os 3 .any (fun w args=>(Rows.bookAnySpec.pre enc Tryz.prog Tryz.f3 [] false w args/\laidMetH Tryz.prog laidL w)/\sizedMet enc Tryz.prog Tryz.f3 (OpenSpec.ofChange Rows.bookAnySpec) false w args)
  (Rows.bookAnySpec.post enc Tryz.prog Tryz.f3 false true false false):=by
 refine returnsInHanded_of_change_and (C:=Tryz.checked) (X:=fun w _=>laidMetH Tryz.prog laidL w) (fun _ _ _ hh h=>h.of_heap hh) own started (by kernel_rfl) Tryz.func3
  (ChangeSpec.witness_shaped (enc:=enc) (C:=Tryz.checked) (os:=os) (X:=fun w _=>laidMetH Tryz.prog laidL w) false (World.laidAll Tryz.prog os laidL) #[.agg #[.slice none 0 0,.slice none 0 0,.slice none 0 0,.slice none 0 0,.slice none 0 0,.int .i64 0,.slice none 0 0,.slice none 0 0],.agg #[.slice none 0 0,.slice none 0 0,.slice none 0 0,.slice none 0 0,.slice none 0 0,.int .i64 0,.slice none 0 0,.slice none 0 0]] 8 (World.laidAll_os _ _ _) (World.shaped_of_ZipB (by kernel_rfl) (by kernel_rfl)) (by kernel_rfl) (by kernel_rfl) (by kernel_rfl) (by rw[MakeChecks.laidMetH_plain _ _ _ (by kernel_rfl)];exact laidMet_laidAll _ (by kernel_rfl) (by kernel_rfl))) ?_
 intro W base args ds gs before hval hW _ hz hL _;exact law_calls (P:=Tryz.prog) (tb:=tb) rd2 (ts:=[32,32]) (rb:=4) zz8 Bzp (by rw[Tryz.params3]) rfl (fun t ht=>by revert t;decide) rfl Tryz.underlying4 rfl (fun ds h=>by
  match ds,h with
  | [d0,d1],_=>rfl) laidOut (fun t ht=>readable2 t (by revert t;decide)) hval hW hz (inv_of hL)
theorem FzL:(Rows.bookAnyRow.inPlace == Tryz.prog.inPlace 3)=true:=by kernel_rfl
theorem DzB:(Rows.bookAnyRow.unfollowed == Tryz.prog.unfollowed 3)=true:=by kernel_rfl
theorem DzC:(Rows.bookAnyRow.recurses == Tryz.prog.recurses 3)=true:=by kernel_rfl
theorem DzD:(Rows.bookAnyRow.named == Tryz.prog.varsNamed 3)=true:=by kernel_rfl
theorem yzL:joinedFacts Tryz.pinned.checked.prog 3 Tryz.f3 Rows.bookAnySpec Rows.bookAnyRow=true :=
 and2 (and2 (and2 (and2 (and2 (and2 (and2 (and2 (and2 (and2 (and2 (and2 (and2 (and2 (and2 (and2 (and2 (and2 (and2 (and2 (and2 (and2 (and2 (and2 (and2 (and2 (and2 (and2 (and2 (and2 (and2 (by kernel_rfl) laidOut) PzA) (by kernel_rfl)) (by kernel_rfl)) (by kernel_rfl)) (by kernel_rfl)) (by kernel_rfl)) (by kernel_rfl)) FzL) DzB) DzC) DzD) (by kernel_rfl)) (by kernel_rfl)) (by kernel_rfl)) (by kernel_rfl)) (by kernel_rfl)) (by kernel_rfl)) (by kernel_rfl)) (by kernel_rfl)) (by kernel_rfl)) PzF) (by kernel_rfl)) OzS) may_enter) lifts_is) make_is) (by kernel_rfl)) (by kernel_rfl)) (by kernel_rfl)) (by kernel_rfl)
theorem law22_BookAny_holds:Rows.BookAnySaid :=
 OpenClaim.holds_of_wide 3 Tryz.f3 rfl rfl rfl rfl rfl rfl rfl ⟨rfl,rfl,rfl,rfl,rfl⟩ rfl rfl rfl rfl rfl (by kernel_rfl) Tryz.func3 yzL
  (of_decide_eq_true (by kernel_rfl)) (by unfold Func.isWrapper;first|(rw[if_pos (by decide +kernel)];kernel_rfl)|(rw[if_neg (by decide +kernel)];exact⟨rfl,rfl⟩))
  (fun os started H enc _=>yzN os started H enc)
theorem Bzo:false=Rows.bookAnyRow.goesBy Tryz.pinned.checked.prog:=by kernel_rfl
theorem law22_BookAny_card:Rows.BookAnyCardSaid :=
 Claim7.holds_tied_plain_at .later [] [.data,.pinned] true (true, "020e668ef3ba47a8d131159ae894effd8d56bef963cd7bc3292c53b116590e53") false
  law22_BookAny_holds (fun _ h=>by cases h) (by kernel_rfl) (fun _ h=>by cases h) bookAny_row_tie rfl ⟨rfl,rfl⟩ main_is rfl
  (fun f fn hf hfn=>by
   obtain rfl:f=3:=Option.some.inj ((show Tryz.prog.funcNamed "cashbook/cashbooklaw22.BookAny" = some 3 by kernel_rfl).symm.trans hf) |>.symm;obtain rfl:fn=Tryz.f3:=(Option.some.inj (Tryz.func3.symm.trans hfn)).symm;exact⟨looks_is,fun j t ht=>by
    rw[Tryz.params3]at ht;have hm:t∈[32,32]:=by simpa using Array.mem_of_getElem? ht
    have hall:([32,32].all fun u=>!Tryz.prog.wantsStandIn u)=true:=by kernel_rfl
    exact(show Tryz.prog.wantsStandIn t=false by simpa using List.all_eq_true.1 hall t hm)⟩)
  Bzo
end Go.Proofs.YtkafbjodbjkieaaGreatDoor