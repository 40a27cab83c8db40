import Derived.Test.YtkafbjodbjkieaaGreatDoorRE
import Derived.Lib.MapLaws
import Derived.Test.YtkafbjodbjkieaaGreatDoorA0
import Derived.Test.YtkafbjodbjkieaaGreatDoorU1
import Derived.Test.YtkafbjodbjkieaaGreatDoorTie
import Derived.Stop.Joined
import Derived.Lib.LaidU8T
import Derived.Lay
import Derived.Test.YtkafbjodbjkieaaGreatDoorCards
set_option linter.unusedSimpArgs false
set_option linter.unusedVariables false
/- RN -/
namespace Go.Proofs.YtkafbjodbjkieaaGreatDoor
open Go Go.Ev Go.Lib
open Go.IntKind (i64 u64 u8 i32 u32 i16 u16)
theorem pre_is {s:Sheet}(hl:s.Groups.length<=1000):∃n:Nat,ozn (s,0)=some (n:Int)/\n<=s.Groups.length/\(∀g∈s.Groups.take n,g.Array=true)/\∀h:n<s.Groups.length,s.Groups[n].Array=false:=by
 obtain⟨y,e1,n,rfl,e2⟩:=scan (F:=izL) (fun(_:Unit) i=>(s,(i:Int))) s.Groups.length (fun _ i=>∀g∈s.Groups.take i,g.Array=true)
  (fun y=>∃n:Nat,y=(n:Int)/\n<=s.Groups.length/\(∀g∈s.Groups.take n,g.Array=true)/\∀h:n<s.Groups.length,s.Groups[n].Array=false) (by omega)
  (by
   intro back _ i hi h;unfold izL;simp only;rw[ltT hi,azd,idxG hi,aza,wr1 (by omega)];cases ha:s.Groups[i].Array
   .exact .inl ⟨_,rfl,i,rfl,by omega,h,fun _=>ha⟩
   .refine .inr ⟨(),rfl,fun g hg=>?_⟩;rw[List.take_succ_eq_append_getElem hi]at hg;rcases List.mem_append.1 hg with hg|hg
    .exact h g hg
    .simp at hg;rw[hg];exact ha)
  (by
   intro back _ h;unfold izL;simp only;rw[ltF];exact⟨_,rfl,s.Groups.length,rfl,Nat.le_refl _,h,fun h=>absurd h (by omega)⟩) () (by simp)
 exact⟨n,e1,e2⟩
theorem Gzd (o:Option Nat):(obnd (osum (loc o) (fun _=>some (-1:Int)) fun y=>some y) fun y=>some (decide (0<=y)))=some o.isSome:=by
 cases o with
 | none=>rfl
 | some i=>show some (decide ((0:Int)<=(i:Int)))=_;rw[dT0 (by omega)];rfl
theorem szN {A:Type}(l:List A)(p:A->Bool):(l.findIdx? p).isSome=l.any p:=by simp
theorem planIn {c:Cell2}{a:List Group}(ha:a.length<=1000):bzx (c,a,())=some (a.any fun g=>hasG g c.At):=by
 unfold bzx czo;simp only[azj,iz5];have:=kzb (F:=az3) (fun i=>(c,a,(),(a.length:Int),(i:Int))) loc a (fun g=>hasG g c.At) (by omega)
  (by
   intro back i hi;unfold az3 pzb;simp only[azj,bz4,iz5,wzp];rw[ltT hi,azd,idxG hi,aza,show kzx (a[i],c.At)=_ from FzI a[i] c.At,aza,wr1 (by omega)];rfl)
  (by
   intro back;unfold az3;simp only;rw[ltF];rfl)
 rw[show bz8 (c,a,(),(a.length:Int),0)=_ from this,aza,Gzd,szN]
theorem inA_all {a:List Group}(h:∀g∈a,g.Array=true)(c:Cell):inA a c=a.any fun g=>hasG g c:=by
 unfold inA;induction a with
 | nil=>rfl
 | cons g a ih=>rw[List.any_cons,List.any_cons,ih fun x hx=>h x (by simp[hx]),h g (by simp)];rfl
theorem mem_ok {cs:List Cell2}{a:List Group}(h:okCs cs):okM (mem cs a):=by
 unfold mem;constructor
 .rw[List.pairwise_flatMap];refine⟨fun c _=>NzR (by cases c.Has&&!inA a c.At<;>simp),(pzC h).imp ?_⟩;intro c d hcd x hx y hy;cases h1:c.Has&&!inA a c.At
  .rw[h1]at hx;cases hx
  .cases h2:d.Has&&!inA a d.At
   .rw[h2]at hy;cases hy
   .rw[h1]at hx;rw[h2]at hy;simp at hx hy;rw[hx,hy];exact hcd
 .intro m hm;obtain⟨c,hc,hm⟩:=List.mem_flatMap.1 hm;cases h1:c.Has&&!inA a c.At
  .rw[h1]at hm;cases hm
  .rw[h1]at hm;simp at hm;rw[hm];exact(h.1 c hc).1
theorem Dzm {cs:List Cell2}{a:List Group}(hl:cs.length<=1000)(ha:a.length<=1000)(hA:∀g∈a,g.Array=true)(hc:okCs cs)(he:∀c∈cs,fewE c.E):jzi (cs,a)=some (plD (mem cs a)):=by
 have l1:ozm (a,[],cs,(cs.length:Int),0)=some (mem cs a):=by
  refine ezz (F:=izK) (fun s i=>(a,s,cs,(cs.length:Int),(i:Int))) id cs _ 1 [] (by omega) (fun c _=>by cases c.Has&&!inA a c.At<;>simp) ?_ ?_
  .intro back s i hi hs;unfold izK;simp only[azj,iz5];rw[ltT hi,azd,idxG hi,aza,planIn ha,aza,<-inA_all hA,wr1 (by omega),appN (by simp at hs ⊢;omega),aza];cases cs[i].Has<;>cases inA a cs[i].At<;>simp
  .intro back s _;unfold izK;simp only;rw[ltF];rfl
 unfold jzi;simp only;obtain⟨o,e⟩:=planP_eq (l:=mem cs a) (by have:=mem_len cs a;omega) (BzE he) (mem_ok hc);rw[l1,aza,e];rfl
noncomputable def fitA (cs:List Cell2)(g:Group):Bool:=(exD g).all fun x=>hasC cs g.E x.At
theorem fitsIn {s:Sheet}{a:List Group}(hl:s.Cells.length<=1000)(ha:a.length<=1000)(hc:okCs s.Cells)(he:∀c∈s.Cells,fewE c.E)(hg:∀g∈a,fewE g.E)(hb:∀g∈a,ltC g=true):
 az1 (s,a,())=some (a.any fun g=>!fitA s.Cells g):=by
 unfold az1 czp;simp only;have:=kzb (F:=az4) (fun i=>(s,a,(),(a.length:Int),(i:Int))) loc a (fun g=>!fitA s.Cells g) (by omega)
  (by
   intro back i hi;have hm:=List.getElem_mem hi;unfold az4 pzc;simp only[azj,bz4];rw[ltT hi,azd,idxG hi,aza,fits_is hl hc he (hg _ hm) (hb _ hm),aza,aza,wr1 (by omega)]
   show brn (bif fitA s.Cells a[i]then false else true) _ _=_
   cases fitA s.Cells a[i]<;>rfl)
  (by
   intro back;unfold az4;simp only;rw[ltF];rfl)
 rw[show bz9 (s,a,(),(a.length:Int),0)=_ from this,aza,Gzd,szN]
theorem Azo {a:List Group}(h0:∀g∈a,cgD g=0)(hx:apart a=true)(cs:List Cell2):(ordP a&&!(a.any fun g=>!fitA cs g))=(List.range a.length).all (gOk cs a):=by
 rw[Bool.eq_iff_iff,Bool.and_eq_true,List.all_eq_true];unfold ordP;rw[List.all_eq_true,Bool.not_eq_true',List.any_eq_false];have strict:∀i (h:i+1<a.length),dzi a[i+1].A a[i].A=false↔dzi a[i].A a[i+1].A=true:=by
  intro i h;have:=IzV.1 hx (i+1) i h (by omega) (by omega);have b1:=uzT (cg0 (h0 _ (List.getElem_mem h))).1;have b2:=uzT (cg0 (h0 _ (List.getElem_mem (by omega:i<a.length)))).1;have ne:¬(a[i].A.Row=a[i+1].A.Row/\a[i].A.Col=a[i+1].A.Col):=by
   intro e;unfold ovB at this;rw[dT0 (by omega),dT0 (by omega),dT0 (by omega),dT0 (by omega)]at this;cases this
  constructor
  .intro k;have k:¬dzi a[i+1].A a[i].A=true:=by rw[k];simp
   rw[gzk]at *;omega
  .intro k;cases e:dzi a[i+1].A a[i].A
   .rfl
   .rw[gzk]at k e;omega
 constructor
 .rintro⟨h1,h2⟩ i hi;have hi:=List.mem_range.1 hi;unfold gOk;rw[List.getElem?_eq_getElem hi];simp only;have f:fitA cs a[i]=true:=by simpa using h2 _ (List.getElem_mem hi)
  rw[show((exD a[i]).all fun x=>hasC cs a[i].E x.At)=true from f,Bool.and_true];by_cases c:i=0
  .rw[dT0 c];rfl
  .obtain⟨j,rfl⟩:∃j,i=j+1:=⟨i-1,by omega⟩;have:=h1 j (List.mem_range.2 (by omega));rw[List.getElem?_eq_getElem hi,List.getElem?_eq_getElem (by omega:j<a.length)]at this;rw[dF0 c,Bool.false_or,show j+1-1=j by omega,List.getElem?_eq_getElem (by omega:j<a.length)];exact(strict j hi).1 (by simpa using this)
 .intro h;constructor
  .intro i hi;have hi:i+1<a.length:=by have:=List.mem_range.1 hi;omega
   rw[List.getElem?_eq_getElem hi,List.getElem?_eq_getElem (by omega:i<a.length)];have:=h (i+1) (List.mem_range.2 hi);unfold gOk at this;rw[List.getElem?_eq_getElem hi,show i+1-1=i by omega,List.getElem?_eq_getElem (by omega:i<a.length)]at this;simp only[Bool.and_eq_true,Bool.or_eq_true,decide_eq_true_eq]at this;rcases this.1 with k|k
   .omega
   .simp only;rw[(strict i hi).2 k];rfl
  .intro g hg;obtain⟨i,hi,rfl⟩:=List.mem_iff_getElem.1 hg;have:=h i (List.mem_range.2 hi);unfold gOk at this;rw[List.getElem?_eq_getElem hi]at this;simp only[Bool.and_eq_true]at this
   show ¬(!fitA cs a[i])=true
   rw[show fitA cs a[i]=true from this.2];simp
theorem Mzy {s:Sheet}(h:fewS s)(hc:okCs s.Cells):nz2 s=some (grD s):=by
 have h1:=h.cells;have h2:=h.groups;have ce:=fun x hx=>(h.cellE x hx).1
 obtain⟨n,e1,e2,e3,e4⟩:=pre_is (s:=s) (by omega);unfold nz2;rw[e1,aza,subT e2 (by omega),aza,subD e2 (by omega)];have al:(s.Groups.take n).length<=20:=by rw[List.length_take];omega
 have ae:∀g∈s.Groups.take n,fewE g.E:=fun g hg=>h.groupE g (List.mem_of_mem_take hg)
 have de:∀g∈s.Groups.drop n,fewE g.E:=fun g hg=>h.groupE g (List.mem_of_mem_drop hg)
 have split:s.Groups=s.Groups.take n++s.Groups.drop n:=(List.take_append_drop n s.Groups).symm;have dh:∀g t,s.Groups.drop n=g::t->g.Array=false:=by
  intro g t e;have hn:n<s.Groups.length:=by
   apply Decidable.byContradiction;intro k;rw[List.drop_eq_nil_of_le (by omega)]at e;cases e
  rw[List.drop_eq_getElem_cons hn]at e;injection e with e5 e6;rw[<-e5];exact e4 hn
 have dl:(s.Groups.drop n).length<=20:=by rw[List.length_drop];omega
 have fil:s.Groups.filter (·.Array)=s.Groups.take n++(s.Groups.drop n).filter (·.Array):=by
  conv=>lhs;rw[split]
  rw[List.filter_append,List.filter_eq_self.2 e3]
 unfold grD;rw[fil];generalize s.Groups.take n=a at *;generalize s.Groups.drop n=d at *;rw[split];rw[Mzc (by omega) ae,aza,MzA (by omega)];simp only[aza];have pe:∀a,∀g∈plD (mem s.Cells a),fewE g.E:=fun a g hg=>by
  obtain⟨-,m,hm,k⟩:=plD_E g hg;rw[k];exact BzE ce m hm
 have key:(brn (!decide (csD a=0)) (some false) (brn (!ordP a) (some false) (obnd (az1 (s,a,())) fun y_3=>brn y_3 (some false) (obnd (jzi (s.Cells,a)) fun y=>obnd (azq (d,y,())) fun y=>some y)))) =
  some (bif decide (csD a=0)then(bif (List.range a.length).all (gOk s.Cells a)then eqX d (plD (mem s.Cells a))else false)else false):=by
  by_cases c0:csD a=0
  .obtain⟨q1,q2⟩:=cs0 c0;rw[dT0 c0,fitsIn (by omega) (by omega) hc ce ae (fun g hg=>(cg0 (q1 g hg)).1),Dzm (by omega) (by omega) e3 hc ce];simp only[aza];rw[KzG (by omega) de (pe a),<-Azo q1 q2];cases ordP a<;>cases(a.any fun g=>!fitA s.Cells g)<;>rfl
  .rw[dF0 c0];rfl
 refine Eq.trans ?_ (key.trans ?_)
 .rfl
 congr 1;cases hf:d.filter (·.Array)with
 | nil =>
  rw[List.append_nil];have:eqX (a++plD (mem s.Cells a)) (a++d)=eqX d (plD (mem s.Cells a)):=by
   rw[Bool.eq_iff_iff,dzT,dzT];constructor
   .intro k;exact(List.append_cancel_left k).symm
   .intro k;rw[k]
  rw[this]
 | cons g t =>
  have hg:g∈d/\g.Array=true:=by
   have:=List.mem_filter.1 (show g∈d.filter (·.Array) by rw[hf];simp);exact this
  have n1:eqX d (plD (mem s.Cells a))=false:=jzq fun k=>by
   have:=(plD_E g (k▸hg.1)).1;rw[hg.2]at this;cases this
  have n2:eqX (a++(g::t)++plD (mem s.Cells (a++g::t))) (a++d)=false:=jzq fun k=>by
   rw[List.append_assoc,List.cons_append]at k;have k:=List.append_cancel_left k;have:=dh _ _ k.symm;rw[hg.2]at this;cases this
  rw[n1,n2];cases decide (csD a=0)<;>cases(List.range a.length).all (gOk s.Cells a)<;>cases decide (csD (a++g::t)=0)<;>cases(List.range (a++g::t).length).all (gOk s.Cells (a++g::t))<;>rfl
abbrev zeroE:Expr:=⟨0,⟨0,⟨0,0⟩,[],false,0⟩,⟨⟨0,0,false,false⟩,⟨0,0,false,false⟩⟩,0,0,[]⟩
theorem zero_few:fewE zeroE:=⟨by simp[sz],by simp[tr]⟩
theorem cellP_is {x:Cell2}(h:fewE x.E)(hv:x.V.S.length<=3000):pzA x=bzZ x:=by
 unfold pzA bzZ;obtain⟨v,v1,v2,-⟩:=tzp hv;rw[goodE,v1,v2,azj,mzC h zero_few,xz2 h,(lzM (by have:=h.1;omega) h.2).1,(lzM (by have:=h.1;omega) h.2).2]
theorem cord_is (a b:Cell):∃v,pzB (a,b)=some v/\decide (0<=v) = !dzi a b:=by
 refine⟨if cmpV a.Row b.Row≠0 then cmpV a.Row b.Row else cmpV a.Col b.Col,?_,?_⟩
 .unfold pzB;simp only;rw[tzc,aza,tzc,aza,or2];rfl
 .have:=or2_lt a.Row b.Row a.Col b.Col;unfold dzi;rw[<-this,<-decide_not];simp only[decide_eq_decide];omega
def uzz (x:Cell2):Int:=(bzZ x).getD 0
theorem mz8 {x:Cell2}(h:fewE x.E)(hv:x.V.S.length<=3000):bzZ x=some (uzz x):=by
 obtain⟨r,hr,-⟩:=cell_is h hv;unfold uzz;rw[hr];rfl
def crD (l:List Cell2)(i:Nat):Int:=match l[i]? with
 | some x=>if uzz x=0 then(if i=0 then 0 else match l[i-1]? with
  | some p=>bif dzi p.At x.At then 0 else 6
  | none=>0)else uzz x
 | none=>0
theorem cells_eq {l:List Cell2}(hl:l.length<=1000)(hc:∀x∈l,fewE x.E/\x.V.S.length<=3000):mzV l=bz0 l:=by
 have p1:mz9 (l,l,(l.length:Int),0)=some (er (fz (crD l) (List.range l.length))):=by
  refine ezc (F:=hzS) (fun i=>(l,l,(l.length:Int),(i:Int))) er (List.range l.length) (crD l) (by simp;omega) ?_ ?_
  .intro back i hi;have hi':i<l.length:=by simpa using hi
   obtain⟨c1,c2⟩:=hc _ (List.getElem_mem hi');unfold hzS;simp only[azj,iz5];rw[ltT hi',azd,idxG hi',aza,cellP_is c1 c2,mz8 c1 c2,aza,wr1 (by omega),List.getElem_range];generalize hv:crD l i=v;unfold crD at hv;rw[List.getElem?_eq_getElem hi']at hv;simp only at hv;by_cases e1:uzz l[i]=0
   .rw[if_pos e1]at hv;rw[dT0 e1,show(!true)=false from rfl,azc];by_cases e2:i=0
    .rw[if_pos e2]at hv;subst hv;rw[dF0 (by omega)];rfl
    .rw[if_neg e2,List.getElem?_eq_getElem (by omega:i-1<l.length)]at hv;simp only at hv;rw[dT0 (by omega),azd,ozd (by omega) (by omega),idxG (by omega:i-1<l.length),aza];obtain⟨w,w1,w2⟩:=cord_is l[i-1].At l[i].At;rw[w1,aza,w2];cases ha:dzi l[i-1].At l[i].At
     .rw[ha]at hv;subst hv;rfl
     .rw[ha]at hv;subst hv;rfl
   .rw[if_neg e1]at hv;subst hv;rw[dF0 e1,er,if_neg e1];rfl
  .intro back;unfold hzS;simp only;rw[List.length_range,ltF];rfl
 have p2:dzY (l,0)=some (er (fz (crD l) (List.range l.length))):=by
  refine ezc (F:=az0) (fun i=>(l,(i:Int))) er (List.range l.length) (crD l) (by simp;omega) ?_ ?_
  .intro back i hi;have hi':i<l.length:=by simpa using hi
   obtain⟨c1,c2⟩:=hc _ (List.getElem_mem hi');unfold az0;simp only[azj,iz5];rw[ltT hi',azd,idxG hi',aza,mz8 c1 c2,aza,wr1 (by omega),List.getElem_range];generalize hv:crD l i=v;unfold crD at hv;rw[List.getElem?_eq_getElem hi']at hv;simp only at hv;by_cases e1:uzz l[i]=0
   .rw[if_pos e1]at hv;rw[dT0 e1,show(!true)=false from rfl,azc];by_cases e2:i=0
    .rw[if_pos e2]at hv;subst hv;rw[dF0 (by omega)];rfl
    .rw[if_neg e2,List.getElem?_eq_getElem (by omega:i-1<l.length)]at hv;simp only at hv;rw[dT0 (by omega),azd,ozd (by omega) (by omega),idxG (by omega:i-1<l.length),aza,aza,qzC,aza];cases ha:dzi l[i-1].At l[i].At
     .rw[ha]at hv;subst hv;rfl
     .rw[ha]at hv;subst hv;rfl
   .rw[if_neg e1]at hv;subst hv;rw[dF0 e1,er,if_neg e1];rfl
  .intro back;unfold az0;simp only;rw[List.length_range,ltF];rfl
 unfold mzV bz0;rw[p1,p2]
theorem rowsP_is {l:List Row}(hl:l.length<=1000):lz9 l=some (fz (rwD l) (List.range l.length)):=by
 have:mzP (l,l,(l.length:Int),0)=some (er (fz (rwD l) (List.range l.length))):=by
  refine ezc (F:=gzA) (fun i=>(l,l,(l.length:Int),(i:Int))) er (List.range l.length) (rwD l) (by simp;omega) ?_ ?_
  .intro back i hi;have hi':i<l.length:=by simpa using hi
   unfold gzA;simp only;rw[ltT hi',azd,idxG hi',aza,wr1 (by omega),List.getElem_range];generalize hv:rwD l i=v;unfold rwD at hv;rw[List.getElem?_eq_getElem hi']at hv;simp only at hv;by_cases c1:l[i].Row<0
   .rw[if_pos c1]at hv;subst hv;rw[dT0 c1];rfl
   rw[if_neg c1]at hv;rw[dF0 c1,azc];by_cases c2:65536<=l[i].Row
   .rw[if_pos c2]at hv;subst hv;rw[dT0 c2];rfl
   rw[if_neg c2]at hv;rw[dF0 c2,azc];by_cases c3:l[i].Height<0
   .rw[if_pos c3]at hv;subst hv;rw[dT0 c3];rfl
   rw[if_neg c3]at hv;rw[dF0 c3,azc];by_cases c4:32767<l[i].Height
   .rw[if_pos c4]at hv;subst hv;rw[dT0 c4];rfl
   rw[if_neg c4]at hv;rw[dF0 c4,azc];by_cases c5:i=0
   .rw[if_pos c5]at hv;subst hv;rw[dF0 (by omega)];rfl
   rw[if_neg c5,List.getElem?_eq_getElem (by omega:i-1<l.length)]at hv;simp only at hv;rw[dT0 (by omega),azd,ozd (by omega) (by omega),idxG (by omega:i-1<l.length),aza];by_cases c6:l[i].Row<=l[i-1].Row
   .rw[if_pos c6]at hv;subst hv;rw[dT0 c6];rfl
   .rw[if_neg c6]at hv;subst hv;rw[dF0 c6];rfl
  .intro back;unfold gzA;simp only;rw[List.length_range,ltF];rfl
 unfold lz9;rw[dF0 (by omega),azc,this,aza];unfold er;by_cases c:fz (rwD l) (List.range l.length)=0
 .rw[c];rfl
 .rw[if_neg c];rfl
theorem sheetP_is {s:Sheet}(h:fewS s):hz3 s=azK s:=by
 have h1:=h.rows;have h2:=h.cells;obtain⟨r,e1,e2⟩:=xzj (l:=s.Cells) (by omega) h.cellE;unfold hz3 azK;rw[rowsP_is (by omega),wzN (by omega),cells_eq (by omega) h.cellE,e1,dF0 (by omega),azc];simp only[aza];by_cases c:fz (rwD s.Rows) (List.range s.Rows.length)=0
 .rw[c,er0,dT0 rfl];simp only[osum];by_cases c0:r=0
  .rw[dT0 c0,Mzy h (e2 c0),zzU h];rfl
  .rw[dF0 c0];rfl
 .rw[er,if_neg c,dF0 c];rfl
theorem pzm (a b:List UInt8):keq9 a b=decide (a=b):=by
 unfold keq9 keq;rw[Bzt,Bzt];simp[eqB,eq1]
theorem get_put {V:Type}(z v:V)(k k':List UInt8):∀m:List (List UInt8×V),ezU keq9 z k (kzP keq9 k' v m)=if k=k' then v else ezU keq9 z k m
 | []=>by
  simp only[kzP,ezU,pzm];by_cases h:k=k'<;>simp[h]
 | p::m=>by
  simp only[kzP,ezU,pzm];by_cases h1:k'=p.1
  .subst h1;simp only[decide_true,cond_true,ezU,pzm];by_cases h:k=p.1<;>simp[h]
  .simp only[dF0 h1,cond_false,ezU,pzm];rw[get_put z v k k' m];by_cases h:k=p.1
   .subst h;have h2:¬p.1=k':=fun e=>h1 e.symm
    rw[if_neg h2,if_neg h2]
   .rw[dF0 h];rfl
theorem has_put {V:Type}(v:V)(k k':List UInt8):∀m:List (List UInt8×V),kzO keq9 k (kzP keq9 k' v m)=(decide (k=k')||kzO keq9 k m)
 | []=>by simp only[kzP,kzO,pzm,Bool.or_false]
 | p::m=>by
  simp only[kzP,kzO,pzm];by_cases h1:k'=p.1
  .subst h1;simp only[decide_true,cond_true,kzO,pzm];cases decide (k=p.1)<;>simp
  .simp only[dF0 h1,cond_false,kzO,pzm];rw[has_put v k k' m];cases decide (k=p.1)<;>cases decide (k=k')<;>simp
def ndT (l:List (List UInt8)):Bool:=(List.range l.length).all fun i=>match l[i]? with
 | some a=>(l.take i).all fun b=>!decide (b=a)
 | none=>true
def tbD (t:Table):Int:=if 1024<t.Texts.length then 4 else if fz (fun s=>(azW s).2) t.Texts=0 then(bif ndT t.Texts then(if t.Uses<t.Texts.length then 1 else if 2147483647<t.Uses then 1 else 0)else 7)else fz (fun s=>(azW s).2) t.Texts
theorem Ez2 {A:Type}{l:List A}{i:Nat}(hi:i<l.length){k:A}:k∈l.take (i+1)↔k∈l.take i\/k=l[i]:=by
 rw[List.take_succ_eq_append_getElem hi,List.mem_append,List.mem_singleton]
theorem tableP_is {t:Table}(hl:t.Texts.length<=1000)(hs:dzg t.Texts):tza t=some (tbD t):=by
 have l1:szk (t.Texts,(t.Texts.length:Int),0)=some (er (fz (fun s=>(azW s).2) t.Texts)):=by
  refine ezc (F:=mzz) (fun i=>(t.Texts,(t.Texts.length:Int),(i:Int))) er t.Texts _ (by omega) ?_ ?_
  .intro back i hi;have:=hs _ (List.getElem_mem hi);unfold mzz;simp only;rw[ltT hi,azd,idxG hi,aza,qzB (by omega),aza,wr1 (by omega)];by_cases c:(azW t.Texts[i]).2=0
   .rw[dT0 c];rfl
   .rw[dF0 c,er,if_neg c];rfl
  .intro back;unfold mzz;simp only;rw[ltF];rfl
 obtain⟨y,e1,e2⟩:=scan (F:=mzA) (fun(m:List (List UInt8×Bool)) i=>(m,t.Texts,(t.Texts.length:Int),(i:Int))) t.Texts.length
  (fun m i=>(∀k,ezU keq9 false k m=decide (k∈t.Texts.take i))/\∀j,j<i->∀h:j<t.Texts.length,(t.Texts.take j).all (fun b=>!decide (b=t.Texts[j]))=true)
  (fun y=>(ndT t.Texts=true/\∃m,y = .inl ((),m))\/ndT t.Texts=false/\∃m,y = .inr (7,m)) (by omega)
  (by
   rintro back m i hi ⟨h1,h2⟩;unfold mzA;simp only;rw[ltT hi,azd,idxG hi,aza,h1,wr1 (by omega)];by_cases c:t.Texts[i]∈t.Texts.take i
   .left;rw[dT0 c];refine⟨_,rfl,.inr ⟨?_,_,rfl⟩⟩;unfold ndT;rw[List.all_eq_false];refine⟨i,List.mem_range.2 hi,?_⟩;rw[List.getElem?_eq_getElem hi];simp only;rw[Bool.not_eq_true,List.all_eq_false];exact⟨_,c,by simp⟩
   .right;rw[dF0 c];refine⟨_,rfl,fun k=>?_,fun j hj hjl=>?_⟩
    .rw[get_put,h1];by_cases e:k=t.Texts[i]
     .rw[if_pos e,dT0 ((Ez2 hi).2 (.inr e))]
     .rw[if_neg e];simp only[decide_eq_decide,Ez2 hi];simp[e]
    .by_cases e:j=i
     .subst e;rw[List.all_eq_true];intro b hb;have:¬b=t.Texts[j]:=fun e=>c (e▸hb)
      simp[this]
     .exact h2 j (by omega) hjl)
  (by
   rintro back m ⟨h1,h2⟩;unfold mzA;simp only;rw[ltF];refine⟨_,rfl,.inl ⟨?_,_,rfl⟩⟩;unfold ndT;rw[List.all_eq_true];intro i hi;have hi:=List.mem_range.1 hi;rw[List.getElem?_eq_getElem hi];exact h2 i hi hi) [] ⟨fun k=>by simp[ezU],fun j hj=>by omega⟩
 unfold tza tbD;rw[dF0 (by omega),azc,if_neg (by omega),l1,aza];by_cases c:fz (fun s=>(azW s).2) t.Texts=0
 .rw[if_pos c,c,er0];simp only[osum];rw[show szl ([],t.Texts,(t.Texts.length:Int),0)=_ from e1,aza];rcases e2 with⟨h1,m,rfl⟩|⟨h1,m,rfl⟩
  .rw[h1];simp only[cond_true];by_cases d1:t.Uses<(t.Texts.length:Int)
   .rw[dT0 d1,if_pos d1];rfl
   .rw[dF0 d1,if_neg d1];by_cases d2:2147483647<t.Uses
    .rw[dT0 d2,if_pos d2];rfl
    .rw[dF0 d2,if_neg d2];rfl
  .rw[h1];rfl
 .rw[if_neg c,er,if_neg c];rfl
theorem tableD_is {t:Table}(hl:t.Texts.length<=1000)(hs:dzg t.Texts):gzZ t=some (tbD t):=by
 have l1:jzT (t,0)=some (er (fz (fun s=>(azW s).2) t.Texts)):=by
  refine ezc (F:=dzy) (fun i=>(t,(i:Int))) er t.Texts _ (by omega) ?_ ?_
  .intro back i hi;have:=hs _ (List.getElem_mem hi);unfold dzy;simp only;rw[ltT hi,azd,idxG hi,aza,hzw (by omega),aza,wr1 (by omega)];by_cases c:(azW t.Texts[i]).2=0
   .rw[dT0 c];rfl
   .rw[dF0 c,er,if_neg c];rfl
  .intro back;unfold dzy;simp only;rw[ltF];rfl
 have l2:jzU (t,0)=some (bif ndT t.Texts then .inl ()else .inr 7):=by
  refine lzS (F:=dzz) (fun i=>(t,(i:Int))) t.Texts.length _ (.inr 7) (.inl ()) (by omega) ?_ ?_
  .intro back i hi;have ht:(t.Texts.take i).length=i:=by rw[List.length_take];omega
   have l3:jzV (t,(i:Int),0)=some (bif (t.Texts.take i).all (fun b=>!decide (b=t.Texts[i]))then .inl ()else .inr 7):=by
    refine mz7 (F:=dzA) (fun k=>(t,(i:Int),(k:Int))) (t.Texts.take i) _ (.inr 7) (.inl ()) (by omega) ?_ ?_
    .intro back k hk;unfold dzA;simp only;rw[ltT (by omega:k<i),azd,idxG (by omega:k<t.Texts.length),idxG hi,aza,aza,wr1 (by omega),List.getElem_take];cases decide (t.Texts[k]=t.Texts[i])<;>rfl
    .intro back;rw[ht];unfold dzA;simp only;rw[ltF];rfl
   unfold dzz;simp only;rw[ltT hi,azd,l3,aza,wr1 (by omega),List.getElem?_eq_getElem hi];simp only;cases(t.Texts.take i).all fun b=>!decide (b=t.Texts[i])<;>rfl
  .intro back;unfold dzz;simp only;rw[ltF];rfl
 unfold gzZ tbD;rw[dF0 (by omega),azc,if_neg (by omega),l1,aza];by_cases c:fz (fun s=>(azW s).2) t.Texts=0
 .rw[if_pos c,c,er0];simp only[osum];rw[l2,aza];cases ndT t.Texts
  .rfl
  .simp only[cond_true];by_cases d1:t.Uses<(t.Texts.length:Int)
   .rw[dT0 d1,if_pos d1];rfl
   .rw[dF0 d1,if_neg d1];by_cases d2:2147483647<t.Uses
    .rw[dT0 d2,if_pos d2];rfl
    .rw[dF0 d2,if_neg d2];rfl
 .rw[if_neg c,er,if_neg c];rfl
noncomputable def dd (l:List (List UInt8)):List (List UInt8):=l.foldl (fun z s=>if s∈z then z else z++[s]) []
theorem dd_snoc (l:List (List UInt8))(s:List UInt8):dd (l++[s])=if s∈dd l then dd l else dd l++[s]:=by
 unfold dd;rw[List.foldl_append];rfl
theorem dd_len (l:List (List UInt8)):(dd l).length<=l.length:=by
 have:∀(l z:List (List UInt8)),(l.foldl (fun z s=>if s∈z then z else z++[s]) z).length<=z.length+l.length:=by
  intro l;induction l with
  | nil=>simp
  | cons s l ih =>
   intro z;rw[List.foldl_cons,List.length_cons];have:=ih (if s∈z then z else z++[s]);split at this<;>(try rw[List.length_append,List.length_singleton]at this)<;>split<;>first|omega|contradiction
 have:=this l [];simpa[dd]using this
theorem vz9 {l:List (List UInt8)}{i:Nat}(hi:i<l.length):dd (l.take (i+1))=if l[i]∈dd (l.take i)then dd (l.take i)else dd (l.take i)++[l[i]]:=by
 rw[List.take_succ_eq_append_getElem hi,dd_snoc]
theorem dd_mono {l:List (List UInt8)}{i:Nat}(hi:i<=l.length):(dd (l.take i)).length<=(dd l).length:=by
 have:∀j,i+j<=l.length->(dd (l.take i)).length<=(dd (l.take (i+j))).length:=by
  intro j;induction j with
  | zero=>intro _;exact Nat.le_refl _
  | succ j ih =>
   intro h;refine Nat.le_trans (ih (by omega)) ?_;rw[show i+(j+1)=i+j+1 by omega,vz9 (by omega)];split<;>simp
 have:=this (l.length-i) (by omega);rwa[show i+(l.length-i)=l.length by omega,List.take_length]at this
def okBd (x:List (List UInt8)):Prop:=(∀s∈x,(azW s).2=0)/\(dd x).length<=1024
theorem Iz3 {x:List (List UInt8)}(hx:x.length<=50000)(hs:∀s∈x,s.length<=4000000):∃t a e,sz9 x=some (t,a,e)/\(e=0↔okBd x)/\(e=0->t=⟨dd x,(x.length:Int)⟩):=by
 obtain⟨y,e1,e2⟩:=scan (F:=mzy) (fun(s:List (List UInt8)×List Int×List (List UInt8×Int)) i=>(s.1,(⟨s.1,0⟩:Table),s.2.1,s.2.2,x,(x.length:Int),(i:Int))) x.length
  (fun s i=>s.1=dd (x.take i)/\s.2.1.length<=i/\(∀k,kzO keq9 k s.2.2=decide (k∈s.1))/\∀k∈x.take i,(azW k).2=0)
  (fun y=>(∃a m,(∀s∈x,(azW s).2=0)/\y = .inl ((dd x,a),⟨dd x,0⟩,m))\/∃z e m,e≠0/\(¬∀s∈x,(azW s).2=0)/\y = .inr ((z,e),⟨z,0⟩,m)) (by omega)
  (by
   rintro back ⟨z,a,m⟩ i hi ⟨h1,h2,h3,h4⟩;simp only at h1 h2 h3 h4;have hm:=List.getElem_mem hi;have hzl:z.length<=i:=by rw[h1];have:=dd_len (x.take i);rw[List.length_take]at this;omega
   unfold mzy;simp only;rw[ltT hi,azd,idxG hi,aza,qzB (by have:=hs _ hm;omega),aza,h3,wr1 (by omega)];by_cases c:(azW x[i]).2=0
   .right;rw[dT0 c,show(!true)=false from rfl,azc];have ok:∀k∈x.take (i+1),(azW k).2=0:=fun k hk=>by
     rcases(Ez2 hi).1 hk with h|h
     .exact h4 k h
     .rw[h];exact c
    by_cases c2:x[i]∈z
    .rw[dT0 c2,show(!true)=false from rfl,azc,appN (by simp;omega),aza];exact⟨(z,_,m),rfl,by simp only;rw[vz9 hi,<-h1,if_pos c2],by simp;omega,h3,ok⟩
    .rw[dF0 c2,show(!false)=true from rfl,azd,appN (by simp;omega),aza,appN (by simp;omega),aza];refine⟨(_,_,_),rfl,by simp only;rw[vz9 hi,<-h1,if_neg c2],by simp;omega,fun k=>?_,ok⟩;simp only;rw[has_put,h3];rw[Bool.eq_iff_iff];simp[or_comm]
   .left;rw[dF0 c];exact⟨_,rfl,.inr ⟨_,_,_,c,fun h=>c (h _ hm),rfl⟩⟩)
  (by
   rintro back ⟨z,a,m⟩ ⟨h1,h2,h3,h4⟩;simp only at h1 h2 h3 h4;unfold mzy;simp only;rw[ltF];rw[List.take_length]at h1 h4;subst h1;exact⟨_,rfl,.inl ⟨_,_,h4,rfl⟩⟩) ([],[],[]) ⟨rfl,by simp,fun k=>by simp[kzO],by simp⟩
 unfold sz9 szi mz5;simp only;rw[show szh ([],⟨[],0⟩,[],[],x,(x.length:Int),0)=_ from e1,aza];rcases e2 with⟨a,m,h1,rfl⟩|⟨z,e,m,h1,h2,rfl⟩
 .simp only[osum];by_cases c:1024<(dd x).length
  .rw[dT0 (by omega)];exact⟨_,_,4,rfl,⟨fun h=>(by cases h),fun h=>absurd h.2 (by omega)⟩,fun h=>by cases h⟩
  .rw[dF0 (by omega)];exact⟨_,_,0,rfl,⟨fun _=>⟨h1,by omega⟩,fun _=>rfl⟩,fun _=>rfl⟩
 .exact⟨_,_,e,rfl,⟨fun h=>absurd h h1,fun h=>absurd h.1 h2⟩,fun h=>absurd h h1⟩
theorem build_l3e {x:List (List UInt8)}{t:Table}{n:Nat}(hn:n<x.length)(ht:t.Texts.length<=100000):qz2 (x,t,(n:Int),0)=some ((match t.Texts.findIdx? (fun s=>decide (s=x[n]))with|some i=>i|none=>t.Texts.length:Nat):Int):=by
 have:=kzb (F:=lzx) (fun i=>(x,t,(n:Int),(i:Int))) (fun o:Option Nat=>((match o with|some i=>i|none=>t.Texts.length:Nat):Int)) t.Texts (fun s=>decide (s=x[n])) (by omega)
  (by
   intro back i hi;unfold lzx;simp only;rw[ltT hi,azd,idxG hi,idxG hn,aza,aza,wr1 (by omega)];cases decide (t.Texts[i]=x[n])<;>rfl)
  (by
   intro back;unfold lzx;simp only;rw[ltF];rfl)
 exact this
theorem KzQ {l:List (List UInt8)}{s:List UInt8}:((match l.findIdx? (fun a=>decide (a=s))with|some i=>i|none=>l.length)=l.length)↔¬s∈l:=by
 cases h:l.findIdx? (fun a=>decide (a=s))with
 | none =>
  rw[List.findIdx?_eq_none_iff]at h;simp only[true_iff];intro hm;have:=h s hm;simp at this
 | some i =>
  have h:=List.findIdx?_eq_some_iff_getElem.1 h;obtain⟨hi,h1,-⟩:=h;simp only;constructor
  .intro e;omega
  .intro hm;have:l[i]=s:=by simpa using h1
   exact absurd (this▸List.getElem_mem hi) hm
theorem Iz2 {x:List (List UInt8)}(hx:x.length<=50000)(hs:∀s∈x,s.length<=4000000):∃t a e,kzK x=some (t,a,e)/\(e=0↔okBd x)/\(e=0->t=⟨dd x,(x.length:Int)⟩):=by
 obtain⟨z,f1,f2⟩:=cz7 (F:=lzv) (fun i=>(x,⟨[],0⟩,(i:Int))) x.length (fun i=>∀h:i<x.length,(azW x[i]).2=0) (fun z=>∃e,e≠0/\(¬∀s∈x,(azW s).2=0)/\z = .inr (([],e),⟨[],0⟩)) (.inl ((),⟨[],0⟩)) (by omega)
  (by
   intro back i hi;unfold lzv;simp only;rw[ltT hi,azd,idxG hi,aza,hzw (hs _ (List.getElem_mem hi)),aza,wr1 (by omega)];by_cases c:(azW x[i]).2=0
   .rw[dT0 c];exact .inl ⟨rfl,fun _=>c⟩
   .rw[dF0 c];exact .inr ⟨_,rfl,_,c,fun h=>c (h _ (List.getElem_mem hi)),rfl⟩)
  (by
   intro back;unfold lzv;simp only;rw[ltF];rfl)
 unfold kzK;rw[show qz0 (x,⟨[],0⟩,0)=_ from f1,aza];rcases f2 with⟨e,h1,h2,rfl⟩|⟨rfl,f2⟩
 .exact⟨_,_,e,rfl,⟨fun h=>absurd h h1,fun h=>absurd h.1 h2⟩,fun h=>absurd h h1⟩
 .have ok:∀s∈x,(azW s).2=0:=fun s hs=>by
   obtain⟨i,hi,rfl⟩:=List.mem_iff_getElem.1 hs;exact f2 i hi hi
  simp only[osum];obtain⟨y,e1,e2⟩:=scan (F:=lzw) (fun(s:List (List UInt8)×List Int) i=>(s.1,x,(⟨[],0⟩:Table),(⟨s.1,(i:Int)⟩:Table),s.2,(i:Int))) x.length
   (fun s i=>s.1=dd (x.take i)/\s.2.length<=i/\s.1.length<=1024)
   (fun y=>(∃a,(dd x).length<=1024/\y = .inl ((dd x,a),⟨[],0⟩,⟨dd x,(x.length:Int)⟩))\/∃z t,1024<(dd x).length/\y = .inr ((z,[],4),⟨[],0⟩,t)) (by omega)
   (by
    rintro back ⟨z,a⟩ i hi ⟨h1,h2,h3⟩;simp only at h1 h2 h3;unfold lzw;simp only;rw[ltT hi,azd,build_l3e hi (by simp only;omega),aza,idxG hi,wr1 (by omega)];simp only[aza];by_cases c:x[i]∈z
    .right;have:=mt (KzQ (l:=z) (s:=x[i])).1 (not_not_intro c);rw[dF0 (fun e=>this (by omega)),azc,appN (by simp;omega),aza];exact⟨(z,_),rfl,by simp only;rw[vz9 hi,<-h1,if_pos c],by simp;omega,h3⟩
    .have he:=(KzQ (l:=z) (s:=x[i])).2 c;rw[he,dT0 rfl,azd];have hd:dd (x.take (i+1))=z++[x[i]]:=by rw[vz9 hi,<-h1,if_neg c]
     by_cases c2:1024<=z.length
     .left;rw[dT0 (by omega)];have:=dd_mono (l:=x) (i:=i+1) (by omega);rw[hd,List.length_append,List.length_singleton]at this;exact⟨_,rfl,.inr ⟨_,_,by omega,rfl⟩⟩
     .right;rw[dF0 (by omega),azc,appN (by simp;omega),aza,appN (by simp;omega),aza];exact⟨(_,_),rfl,hd.symm,by simp;omega,by simp;omega⟩)
   (by
    rintro back ⟨z,a⟩ ⟨h1,h2,h3⟩;simp only at h1 h2 h3;unfold lzw;simp only;rw[ltF];rw[List.take_length]at h1;subst h1;exact⟨_,rfl,.inl ⟨_,h3,rfl⟩⟩) ([],[]) ⟨rfl,by simp,by simp⟩
  rw[show qz1 ([],x,⟨[],0⟩,⟨[],0⟩,[],0)=_ from e1,aza];rcases e2 with⟨a,h1,rfl⟩|⟨z,t,h1,rfl⟩
  .exact⟨_,_,0,rfl,⟨fun _=>⟨ok,h1⟩,fun _=>rfl⟩,fun _=>rfl⟩
  .exact⟨_,_,4,rfl,⟨fun h=>(by cases h),fun h=>absurd h.2 (by omega)⟩,fun h=>by cases h⟩
abbrev Ly:=List UInt8×List Int×Int
def wN (n:Bool):Int:=if n then 1 else 2
def fl (n:Bool):UInt8:=if n then 0 else 1
def ly1 (n:Bool)(s:Ly)(u:Int):Ly:=bif decide (224<(s.1.length:Int)-s.2.2+wN n)then(s.1++(fl n::tub n u),s.2.1++[(s.1.length:Int)],(s.1.length:Int))else(s.1++tub n u,s.2.1,s.2.2)
structure okL (k:Nat) (s:Ly):Prop where
 b:s.1.length<=k
 c:s.2.1.length<=k
 p0:0<=s.2.2
 p1:s.2.2<=(s.1.length:Int)
theorem ly1_ok {n:Bool}{s:Ly}{u:Int}{k:Nat}(h:okL k s):okL (k+3) (ly1 n s u):=by
 obtain⟨h1,h2,h3,h4⟩:=h;have:=wz4 n u;unfold ly1;cases decide (224<(s.1.length:Int)-s.2.2+wN n)
 .exact⟨by simp;omega,by simp only[cond_false];omega,h3,by simp;omega⟩
 .exact⟨by simp;omega,by simp;omega,by simp,by simp;omega⟩
theorem ly_ok {n:Bool}:∀(us:List Int) {s:Ly} {k:Nat},okL k s->okL (k+3*us.length) (us.foldl (ly1 n) s)
 | [],_,_,h=>h
 | u::us,s,k,h=>by
  have:=ly_ok (n:=n) us (ly1_ok (n:=n) (u:=u) h);rw[List.foldl_cons,List.length_cons,show k+3*(us.length+1)=k+3+3*us.length by omega];exact this
theorem room_w {s:Ly}{k:Nat}{w:Int}(h:okL k s)(hk:k<=100000000)(hw:0<=w/\w<=10):i64.wrap (i64.wrap ((s.1.length:Int)-s.2.2)+w)=(s.1.length:Int)-s.2.2+w:=by
 obtain⟨h1,h2,h3,h4⟩:=h;rw[azG (n:=(s.1.length:Int)-s.2.2) (by omega) (by omega),azG (by omega) (by omega)]
theorem wN_b (n:Bool):0<=wN n/\wN n<=10:=by cases n<;>simp[wN]
theorem layD {n:Bool}{us:List Int}{s:Ly}{k:Nat}(h:okL k s)(hk:k+3*us.length<=10000000):ezp (s.1,s.2.1,s.2.2,us,wN n,0)=some (us.foldl (ly1 n) s):=by
 have:=bzV (F:=ez1) (fun(s:Ly) i=>(s.1,s.2.1,s.2.2,us,wN n,(i:Int))) id us (fun(s:Ly) u=>(.inl (ly1 n s u):Ly⊕Ly)) id (fun s i=>okL (k+3*i) s) (by omega)
  (by
   intro back s i hi hs;unfold ez1;simp only;rw[ltT hi,azd,idxG hi,wr1 (by omega),room_w hs (by omega) (wN_b n)];have h1:=hs.b;have h2:=hs.c;simp only[aza,rzn,ly1];cases decide (224<(s.1.length:Int)-s.2.2+wN n)
   .rw[azc,cond_false,appN (by simp;omega),aza];cases n
    .rw[show decide (wN false=2)=true from rfl,azd,appN (by simp;omega),aza];simp[tub,lw2]
    .rw[show decide (wN true=2)=false from rfl,azc];simp[tub]
   .rw[azd,cond_true,appN (by simp;omega),aza,appN (by simp;omega),aza,appN (by simp;omega),aza];cases n
    .rw[show decide (wN false=2)=true from rfl,azd,appN (by simp;omega),aza];simp[tub,lw2,fl,wN];rfl
    .rw[show decide (wN true=2)=false from rfl,azc];simp[tub,fl,wN];rfl)
  (by
   intro s i hi s' hs he;cases he;rw[Nat.mul_add];exact ly1_ok hs)
  (by
   intro back s _;unfold ez1;simp only;rw[ltF];rfl) s (by simpa using h)
 rw[dzj]at this;exact this
theorem Iz4 {f:Int->List UInt8}{w:Nat}(hw:1<=w):∀(us:List Int) (N:Nat),(∀u∈us,(f u).length=w)->(us.flatMap f).length<=N->pzg N w (us.flatMap f)=us.map f
 | [],N,_,_=>by rw[List.flatMap_nil,Dza];rfl
 | u::us,N,h,hN=>by
  have hu:=h u (by simp);rw[List.flatMap_cons,List.length_append]at hN;obtain⟨N,rfl⟩:∃m,N=m+1:=⟨N-1,by omega⟩;rw[List.flatMap_cons,pzg];have hne:(f u++us.flatMap f).isEmpty=false:=by
   cases hf:f u with
   | nil=>rw[hf]at hu;simp at hu;omega
   | cons a b=>rfl
  rw[hne,cond_false,<-hu,List.take_left,List.drop_left,List.map_cons];congr 1;rw[hu];exact Iz4 hw us N (fun x hx=>h x (by simp[hx])) (by omega)
theorem tub_len (n:Bool)(u:Int):(tub n u).length=(wN n).toNat:=by cases n<;>simp[tub,wN,czk]
abbrev toM (s:Ly):Maker:=⟨s.1,s.2.1,s.2.2⟩
theorem room_is {s:Ly}{k:Nat}{w:Int}(h:okL k s)(hk:k<=10000000)(hw:0<=w/\w<=10):kzF (s.1,s.2.1,toM s,w)=some (bif decide (224<(s.1.length:Int)-s.2.2+w)then((s.1,s.2.1++[(s.1.length:Int)],true),⟨s.1,s.2.1++[(s.1.length:Int)],(s.1.length:Int)⟩)else((s.1,s.2.1,false),toM s)):=by
 have h2:=h.c;unfold kzF;simp only;rw[room_w h (by omega) hw,appN (by simp;omega),aza];by_cases c:224<(s.1.length:Int)-s.2.2+w
 .rw[dT0 c,dF0 (by omega)];rfl
 .rw[dF0 c,dT0 (by omega)];rfl
theorem unit_is {n:Bool}{s:Ly}{k:Nat}{u:Int}{p:List UInt8}{it:Int×List UInt8}(h:okL k s)(hk:k<=10000000)(hp:idx p 2=some (fl n)):
 fzz (tub n u) (s.1,s.2.1,toM s,p,wN n,it)=some ((ly1 n s u).1,(ly1 n s u).2.1,toM (ly1 n s u),p,wN n,it):=by
 have h1:=h.b;have h3:=wz4 n u;unfold fzz ly1;simp only;rw[show(⟨s.1,s.2.1,s.2.2⟩:Maker)=toM s from rfl,room_is h hk (wN_b n),aza];cases decide (224<(s.1.length:Int)-s.2.2+wN n)
 .simp only[cond_false,azc];rw[appN (by simp;omega),aza]
 .simp only[cond_true,azd];rw[hp,aza,appN (by simp;omega),aza,appN (by simp;omega),aza];cases n<;>simp[fl]
theorem DzK {n:Bool}{p:List UInt8}{it:Int×List UInt8}(hp:idx p 2=some (fl n)):∀(us:List Int) (s:Ly) (k:Nat),okL k s->k+3*us.length<=10000000 ->
 jzx fzz (us.map (tub n)) (s.1,s.2.1,toM s,p,wN n,it)=some ((us.foldl (ly1 n) s).1,(us.foldl (ly1 n) s).2.1,toM (us.foldl (ly1 n) s),p,wN n,it)
 | [],s,_,_,_=>rfl
 | u::us,s,k,h,hk=>by
  rw[List.length_cons]at hk;rw[List.map_cons,jzx,unit_is h (by omega) hp,aza,List.foldl_cons];exact DzK hp us (ly1 n s u) (k+3) (ly1_ok h) (by omega)
def ly0 (s:Ly):Ly:=bif decide (224<(s.1.length:Int)-s.2.2+3)then(s.1,s.2.1++[(s.1.length:Int)],(s.1.length:Int))else s
def lyT (s:Ly)(x:List UInt8):Ly:=(us (rs x)).foldl (ly1 (nar x)) ((ly0 s).1++(lw 2 ((us (rs x)).length:Int)++[fl (nar x)]),(ly0 s).2)
theorem ly0_ok {s:Ly}{k:Nat}(h:okL k s):okL (k+1) (ly0 s):=by
 obtain⟨h1,h2,h3,h4⟩:=h;unfold ly0;cases decide (224<(s.1.length:Int)-s.2.2+3)
 .exact⟨by simp only[cond_false];omega,by simp only[cond_false];omega,h3,h4⟩
 .exact⟨by simp only[cond_true];omega,by simp;omega,by simp,by simp⟩
theorem lyF_ok {s:Ly}{k:Nat}{x:List UInt8}(h:okL k s):okL (k+4) ((ly0 s).1++(lw 2 ((us (rs x)).length:Int)++[fl (nar x)]),(ly0 s).2):=by
 obtain⟨h1,h2,h3,h4⟩:=ly0_ok h;exact⟨by simp[czk];omega,by simp only;omega,h3,by simp[czk];omega⟩
theorem lyT_ok {s:Ly}{k:Nat}{x:List UInt8}(h:okL k s)(hu:(azW x).2=0):okL (k+3004) (lyT s x):=by
 obtain⟨u1,u2,-⟩:=nzB hu;rw[<-ozE]at u2;have:=ly_ok (n:=nar x) (us (rs x)) (lyF_ok (x:=x) h);unfold lyT;exact⟨Nat.le_trans this.b (by omega),Nat.le_trans this.c (by omega),this.p0,this.p1⟩
theorem ly0_len (s:Ly):(ly0 s).1=s.1:=by unfold ly0;cases decide (224<(s.1.length:Int)-s.2.2+3)<;>rfl
theorem text_is {s:Ly}{k:Nat}{x:List UInt8}(h:okL k s)(hk:k<=9000000)(hu:(azW x).2=0)(hx:x.length<=4000000):
 mz6 (s.1,s.2.1,toM s,x)=some (((lyT s x).1,(lyT s x).2.1,(s.1.length:Int)),toM (lyT s x)):=by
 obtain⟨u1,u2,-⟩:=nzB hu;rw[<-ozE]at u2;have h1:=h.b;unfold mz6;simp only;rw[put_is (by simp) hx,if_pos hu,aza,show(⟨s.1,s.2.1,s.2.2⟩:Maker)=toM s from rfl,room_is h (by omega) (by omega),aza];have r0:(bif decide (224<(s.1.length:Int)-s.2.2+3)then((s.1,s.2.1++[(s.1.length:Int)],true),(⟨s.1,s.2.1++[(s.1.length:Int)],(s.1.length:Int)⟩:Maker))else((s.1,s.2.1,false),toM s)) =
  (((ly0 s).1,(ly0 s).2.1,decide (224<(s.1.length:Int)-s.2.2+3)),toM (ly0 s)):=by
  unfold ly0;cases decide (224<(s.1.length:Int)-s.2.2+3)<;>rfl
 rw[r0];simp only[List.nil_append];generalize hW:us (rs x)=W at u2;have hst:stB x=(lw 2 (W.length:Int)++[fl (nar x)])++W.flatMap (tub (nar x)):=by unfold stB fl;rw[hW]
 have hfl:(W.flatMap (tub (nar x))).length<=2*W.length:=izu W fun u _=>wz4 _ u
 have h3:(lw 2 (W.length:Int)++[fl (nar x)]).length=3:=by simp[czk]
 have hsl:(stB x).length=3+(W.flatMap (tub (nar x))).length:=by rw[hst,List.length_append,h3]
 have s1:sub (stB x) 0 3=some (lw 2 (W.length:Int)++[fl (nar x)]):=by
  rw[show(3:Int)=((3:Nat):Int) from rfl,subT (by omega) (by omega),hst,<-h3,List.take_left]
 have s2:sub (stB x) 3 ((stB x).length:Int)=some (W.flatMap (tub (nar x))):=by
  rw[show(3:Int)=((3:Nat):Int) from rfl,subD (by omega) (by omega),hst,<-h3,List.drop_left]
 have s3:idx (stB x) 2=some (fl (nar x)):=by
  rw[show(2:Int)=((2:Nat):Int) from rfl,idxG (by omega)];have:(stB x)[2]?=some (fl (nar x)):=by rw[hst,lw2];rfl
  rw[List.getElem?_eq_getElem (by omega)]at this;exact this
 have s4:i64.wrap (1+i64.wrap (((fl (nar x)).toNat:Nat):Int))=wN (nar x):=by cases nar x<;>rfl
 have ok:=lyF_ok (x:=x) h;rw[hW]at ok;have hb0:=(ly0_ok h).b;rw[s1,aza,appN (by rw[h3];omega),aza,s3,aza,s2,aza,s4];unfold jzX;simp only;rw[dF0 (by cases nar x<;>simp[wN]),azc,aza];unfold nzy kzG nzz;simp only;have ck:vz7 (wN (nar x)) (W.flatMap (tub (nar x)))=true:=by
  unfold vz7;have:=wN_b (nar x);rw[dT0 (by cases nar x<;>simp[wN]),dT0 (by omega)];rfl
 rw[ck,cond_true];have hc:Fzp (wN (nar x)).toNat (W.flatMap (tub (nar x)))=W.map (tub (nar x)):=Iz4 (by cases nar x<;>simp[wN]) W _ (fun u _=>tub_len _ u) (Nat.le_refl _);rw[hc];have:=DzK (n:=nar x) (p:=stB x) (it:=(wN (nar x),W.flatMap (tub (nar x)))) s3 W _ _ ok (by omega);rw[show((ly0 s).1++(lw 2 (W.length:Int)++[fl (nar x)]),(ly0 s).2.1,(⟨(ly0 s).1++(lw 2 (W.length:Int)++[fl (nar x)]),(ly0 s).2.1,(ly0 s).2.2⟩:Maker),stB x,wN (nar x),(wN (nar x),W.flatMap (tub (nar x))))=(((ly0 s).1++(lw 2 (W.length:Int)++[fl (nar x)]),(ly0 s).2).1,(((ly0 s).1++(lw 2 (W.length:Int)++[fl (nar x)]),(ly0 s).2):Ly).2.1,toM ((ly0 s).1++(lw 2 (W.length:Int)++[fl (nar x)]),(ly0 s).2),stB x,wN (nar x),(wN (nar x),W.flatMap (tub (nar x)))) from rfl,this];simp only[aza];unfold lyT;rw[hW,ly0_len]
def lyA (s:Ly×List Int)(x:List UInt8):Ly×List Int:=(lyT s.1 x,s.2++[(s.1.1.length:Int)])
theorem made_l1 {t:List (List UInt8)}(hl:t.length<=1000)(hs:dzg t)(ht:okT t){b:List UInt8}(hb:b.length=8):
 uzi (b,[],⟨b,[],0⟩,[],t,(t.length:Int),0)=some ((fun s:Ly×List Int=>((s.1.1,s.1.2.1,s.2),toM s.1)) (t.foldl lyA ((b,[],0),[]))):=by
 have:=bzV (F:=nzx) (fun(s:Ly×List Int) i=>(s.1.1,s.1.2.1,toM s.1,s.2,t,(t.length:Int),(i:Int))) (fun s:Ly×List Int=>((s.1.1,s.1.2.1,s.2),toM s.1)) t (fun(s:Ly×List Int) x=>(.inl (lyA s x):(Ly×List Int)⊕(Ly×List Int))) id
  (fun s i=>okL (8+3004*i) s.1/\s.2.length=i) (by omega)
  (by
   rintro back s i hi ⟨h1,h2⟩;have hm:=List.getElem_mem hi;have:=hs _ hm;unfold nzx;simp only;rw[ltT hi,azd,idxG hi,aza,show(⟨s.1.1,s.1.2.1,s.1.2.2⟩:Maker)=toM s.1 from rfl,text_is h1 (by omega) (ht _ hm) (by omega),aza,appN (by simp;omega),aza,wr1 (by omega)];simp only[rzn,lyA])
  (by
   rintro s i hi s' ⟨h1,h2⟩ he;cases he;exact⟨by rw[show 8+3004*(i+1)=8+3004*i+3004 by omega];exact lyT_ok h1 (ht _ (List.getElem_mem hi)),by simp[lyA,h2]⟩)
  (by
   intro back s _;unfold nzx;simp only;rw[ltF];rfl) ((b,[],0),[]) ⟨⟨by simp only;omega,by simp,by simp,by simp⟩,rfl⟩
 rw[dzj]at this;exact this
theorem layout_l1 {t:Table}(hl:t.Texts.length<=1000)(hs:dzg t.Texts)(ht:okT t.Texts){b:List UInt8}(hb:b.length=8):
 mz0 (t,b,[],[],0,0)=some ((fun s:Ly×List Int=>(s.1.1,s.1.2.1,s.2)) (t.Texts.foldl lyA ((b,[],0),[]))):=by
 have:=bzV (F:=ez0) (fun(s:Ly×List Int) i=>(t,s.1.1,s.1.2.1,s.2,s.1.2.2,(i:Int))) (fun s:Ly×List Int=>(s.1.1,s.1.2.1,s.2)) t.Texts (fun(s:Ly×List Int) x=>(.inl (lyA s x):(Ly×List Int)⊕(Ly×List Int))) id
  (fun s i=>okL (8+3004*i) s.1/\s.2.length=i) (by omega)
  (by
   rintro back s i hi ⟨h1,h2⟩;have hm:=List.getElem_mem hi;have hm2:=hs _ hm;obtain⟨u1,u2,-⟩:=nzB (ht _ hm);rw[<-ozE]at u2;have hrl:=rzS t.Texts[i];have hb:=h1.b;have hc:=h1.c;unfold ez0;simp only;rw[ltT hi,azd,idxG hi,wr1 (by omega),aza,ozu (by omega),if_pos u1,aza,tz7 (by omega) (EzJ _),aza,aza,tz6 (by omega) u1,aza,room_w h1 (by omega) (by omega)];have ok:=lyF_ok (x:=t.Texts[i]) h1;have go:=layD (n:=nar t.Texts[i]) (us:=us (rs t.Texts[i])) ok (by omega);simp only[rzn,lyA,lyT];generalize hW:us (rs t.Texts[i])=W at u2 go;have fin:∀(b':List UInt8) (c':List Int) (p' w:Int),(b',c',p')=((ly0 s.1).1++(lw 2 (W.length:Int)++[fl (nar t.Texts[i])]),(ly0 s.1).2)->w=wN (nar t.Texts[i]) ->
    (obnd (ezp (b',c',p',W,w,0)) fun y=>back (t,y.1,y.2.1,s.2++[(s.1.1.length:Int)],y.2.2,((i+1:Nat):Int))) =
    back (t,(W.foldl (ly1 (nar t.Texts[i])) ((ly0 s.1).1++(lw 2 (W.length:Int)++[fl (nar t.Texts[i])]),(ly0 s.1).2)).1,(W.foldl (ly1 (nar t.Texts[i])) ((ly0 s.1).1++(lw 2 (W.length:Int)++[fl (nar t.Texts[i])]),(ly0 s.1).2)).2.1,s.2++[(s.1.1.length:Int)],(W.foldl (ly1 (nar t.Texts[i])) ((ly0 s.1).1++(lw 2 (W.length:Int)++[fl (nar t.Texts[i])]),(ly0 s.1).2)).2.2,((i+1:Nat):Int)):=by
    intro b' c' p' w e1 e2;injection e1 with e1 e3;subst e1 e2;rw[<-e3]at go ⊢;rw[go,aza]
   by_cases c:224<(s.1.1.length:Int)-s.1.2.2+3
   .have e0:ly0 s.1=(s.1.1,s.1.2.1++[(s.1.1.length:Int)],(s.1.1.length:Int)):=by unfold ly0;rw[dT0 c];rfl
    rw[e0]at fin ⊢;rw[dT0 c];simp only[azd];rw[appN (by simp;omega),aza,appN (by simp;omega),aza,appN (by simp;omega),aza,appN (by simp;omega),aza];cases hn:nar t.Texts[i]
    .rw[hn]at fin;rw[azc];exact fin _ _ _ _ (by simp[lw2,fl]) rfl
    .rw[hn]at fin;rw[azd];exact fin _ _ _ _ (by simp[lw2,fl]) rfl
   .have e0:ly0 s.1=s.1:=by unfold ly0;rw[dF0 c];rfl
    rw[e0]at fin ⊢;rw[dF0 c];simp only[azc];rw[appN (by simp;omega),aza,appN (by simp;omega),aza,appN (by simp;omega),aza];cases hn:nar t.Texts[i]
    .rw[hn]at fin;exact fin _ _ _ _ (by simp[lw2,fl]) rfl
    .rw[hn]at fin;rw[azd];exact fin _ _ _ _ (by simp[lw2,fl]) rfl)
  (by
   rintro s i hi s' ⟨h1,h2⟩ he;cases he;exact⟨by rw[show 8+3004*(i+1)=8+3004*i+3004 by omega];exact lyT_ok h1 (ht _ (List.getElem_mem hi)),by simp[lyA,h2]⟩)
  (by
   intro back s _;unfold ez0;simp only;rw[ltF];rfl) ((b,[],0),[]) ⟨⟨by simp only;omega,by simp,by simp,by simp⟩,rfl⟩
 rw[dzj]at this;exact this
def c1 (L at_ y:Int):Int⊕(Unit⊕Int):=if y<=at_ then .inr (.inr 6)else if L<=y then .inr (.inr 6)else .inl y
def c2 (at_ y:Int):Int⊕Option Int:=if 224<i64.wrap (y-at_)then .inr none else .inl y
theorem recP_l2 {x:Rec}(hl:x.Cuts.length<=100000000):rz9 (x,0,x.Cuts,(x.Cuts.length:Int),0)=some (fzR (c1 (x.Data.length:Int)) (fun _=>.inl ()) 0 x.Cuts):=by
 refine bzV (F:=mzq) (fun(s:Int) i=>(x,s,x.Cuts,(x.Cuts.length:Int),(i:Int))) id x.Cuts _ _ (fun _ _=>True) (by omega) ?_ (fun _ _ _ _ _ _=>trivial) ?_ 0 trivial
 .intro back s i hi _;unfold mzq c1;simp only;rw[ltT hi,azd,idxG hi,aza,wr1 (by omega)];by_cases a:x.Cuts[i]<=s
  .rw[dT0 a,if_pos a];rfl
  .rw[dF0 a,if_neg a];by_cases b:(x.Data.length:Int)<=x.Cuts[i]
   .rw[dT0 b,if_pos b];rfl
   .rw[dF0 b,if_neg b];rfl
 .intro back s _;unfold mzq;simp only;rw[ltF];rfl
theorem recD_l1 {x:Rec}(hl:x.Cuts.length<=100000000):kzT (x,0,0)=some (fzR (c1 (x.Data.length:Int)) (fun _=>.inl ()) 0 x.Cuts):=by
 refine bzV (F:=ezj) (fun(s:Int) i=>(x,s,(i:Int))) id x.Cuts _ _ (fun _ _=>True) (by omega) ?_ (fun _ _ _ _ _ _=>trivial) ?_ 0 trivial
 .intro back s i hi _;unfold ezj c1;simp only;rw[ltT hi,azd,idxG hi,wr1 (by omega)];simp only[aza];by_cases a:x.Cuts[i]<=s
  .rw[dT0 a,if_pos a];rfl
  .rw[dF0 a,if_neg a];by_cases b:(x.Data.length:Int)<=x.Cuts[i]
   .rw[dT0 b,if_pos b];rfl
   .rw[dF0 b,if_neg b];rfl
 .intro back s _;unfold ezj;simp only;rw[ltF];rfl
theorem recP_l3 {l:List Int}(hl:l.length<=100000000):sza (0,l,(l.length:Int),0)=some (match fzR c2 some 0 l with|some a=>.inl a|none=>.inr ()):=by
 refine bzV (F:=mzr) (fun(s:Int) i=>(s,l,(l.length:Int),(i:Int))) (fun o:Option Int=>match o with|some a=>.inl a|none=>.inr ()) l c2 some (fun _ _=>True) (by omega) ?_ (fun _ _ _ _ _ _=>trivial) ?_ 0 trivial
 .intro back s i hi _;unfold mzr c2;simp only;rw[ltT hi,azd,idxG hi,aza,wr1 (by omega)];by_cases a:224<i64.wrap (l[i]-s)
  .rw[dT0 a,if_pos a];rfl
  .rw[dF0 a,if_neg a];rfl
 .intro back s _;unfold mzr;simp only;rw[ltF];rfl
theorem recD_l2 {x:Rec}(hl:x.Cuts.length<=100000000):kzU (x,0,0)=some (match fzR c2 some 0 x.Cuts with|some a=>.inl a|none=>.inr 4):=by
 refine bzV (F:=ezk) (fun(s:Int) i=>(x,s,(i:Int))) (fun o:Option Int=>match o with|some a=>.inl a|none=>.inr 4) x.Cuts c2 some (fun _ _=>True) (by omega) ?_ (fun _ _ _ _ _ _=>trivial) ?_ 0 trivial
 .intro back s i hi _;unfold ezk c2;simp only;rw[ltT hi,azd,idxG hi,wr1 (by omega)];simp only[aza];by_cases a:224<i64.wrap (x.Cuts[i]-s)
  .rw[dT0 a,if_pos a];rfl
  .rw[dF0 a,if_neg a];rfl
 .intro back s _;unfold ezk;simp only;rw[ltF];rfl
theorem rec_eq {x:Rec}(hl:x.Cuts.length<=100000000):szX x=ezR x:=by
 unfold szX szb pz1 ezR;rw[recP_l2 hl,recD_l1 hl,recP_l3 hl,recD_l2 hl];cases decide (x.Type_<0)
 .cases decide (65535<x.Type_)
  .cases decide (x.Type_=60)
   .cases decide (65536<(x.Data.length:Int))
    .simp only[azc,aza];cases fzR (c1 (x.Data.length:Int)) (fun _=>.inl ()) 0 x.Cuts with
     | inr e=>rfl
     | inl u =>
      simp only[osum];cases fzR c2 some 0 x.Cuts with
      | none=>rfl
      | some a =>
       simp only;by_cases d:224<i64.wrap ((x.Data.length:Int)-a)
       .rw[dT0 d,dF0 (by omega)];rfl
       .rw[dF0 d,dT0 (by omega)];rfl
    .rfl
   .rfl
  .rfl
 .rfl
theorem cut_tot {x:Rec}(hl:x.Data.length<=1000000):∃r,tzP x=some r:=by
 unfold tzP bz1;rw[kzJ (by omega),aza];have:∃y,vzs ([],x,⟨x.Type_,x.Data,[],x.At⟩,224)=some y/\True:=by
  refine nzM (F:=rzs) (fun z=>(x.Data.length+224-z.2.2.2.toNat)) (fun z=>∃(c:List Int) (r:Rec) (i:Nat),z=(c,x,r,(i:Int))/\c.length<=i/\i<=x.Data.length+224) _ ?_ _ ⟨[],_,224,rfl,by simp,by omega⟩ (by simp only;omega);rintro back z ⟨c,r,i,rfl,h2,h3⟩ hb;unfold rzs;simp only at hb ⊢;by_cases h:i<x.Data.length
  .rw[dT0 (by omega),azd,appN (by simp;omega),aza,azG (by omega) (by omega)];exact hb _ ⟨_,_,i+224,rfl,by simp;omega,by omega⟩ (by simp only;omega)
  .rw[dF0 (by omega),azc];exact⟨_,rfl,trivial⟩
 obtain⟨y,h,-⟩:=this;exact⟨_,by rw[h,aza]⟩
theorem put32_is {b:List UInt8}{v:Int}(hb:b.length<=1000000):∃r e,lzO (b,v)=some (r,e)/\r.length<=b.length+4:=by
 unfold lzO bz1;simp only;have p:=xzE (b:=b) (v:=u64.wrap v) (n:=4) (by omega) (by omega);rw[show((4:Nat):Int)=4 from rfl]at p;rw[kzJ (by omega),p];cases decide (v<0)
 .cases decide (4294967295<v)
  .exact⟨_,_,rfl,by simp[czk]⟩
  .exact⟨_,_,rfl,by simp⟩
 .exact⟨_,_,rfl,by simp⟩
theorem Lzz {b:List UInt8}{v:Int}(hb:b.length<=1000000)(h0:0<=v)(h1:v<=4294967295):lzO (b,v)=some (b++lw 4 (u64.wrap v),0):=by
 unfold lzO;simp only;have p:=xzE (b:=b) (v:=u64.wrap v) (n:=4) (by omega) (by omega);rw[show((4:Nat):Int)=4 from rfl]at p;rw[dF0 (by omega),dF0 (by omega),azc,azc,p];rfl
def lyO (t:Table):Ly×List Int:=t.Texts.foldl lyA (([]++lw 4 (u64.wrap t.Uses)++lw 4 (u64.wrap (t.Texts.length:Int)),[],0),[])
theorem lyO_ok {t:Table}(hl:t.Texts.length<=1000)(ht:okT t.Texts):okL (8+3004*t.Texts.length) (lyO t).1/\(lyO t).2.length=t.Texts.length:=by
 unfold lyO;have key:∀(l:List (List UInt8)) (s:Ly×List Int) (k:Nat),okT l->okL k s.1->okL (k+3004*l.length) (l.foldl lyA s).1/\(l.foldl lyA s).2.length=s.2.length+l.length:=by
  intro l;induction l with
  | nil=>intro s k _ h;exact⟨h,rfl⟩
  | cons x l ih =>
   intro s k hl h;have:=ih (lyA s x) (k+3004) (fun y hy=>hl y (by simp[hy])) (lyT_ok h (hl x (by simp)));rw[List.foldl_cons,List.length_cons,show k+3004*(l.length+1)=k+3004+3004*l.length by omega];refine⟨this.1,?_⟩;rw[this.2];simp[lyA];omega
 have:=key t.Texts (([]++lw 4 (u64.wrap t.Uses)++lw 4 (u64.wrap (t.Texts.length:Int)),[],0),[]) 8 ht ⟨by simp[czk],by simp,by simp,by simp only;omega⟩;exact⟨this.1,by rw[this.2];simp⟩
def recE (x:Rec):Int:=(ezR x).getD 0
theorem recE_is {x:Rec}(hl:x.Cuts.length<=100000000):ezR x=some (recE x):=by
 obtain⟨r,h⟩:=Cz9 hl;unfold recE;rw[h];rfl
def encE (t:Table):Int:=if tbD t=0 then recE ⟨252,(lyO t).1.1,(lyO t).1.2.1,0⟩else tbD t
theorem Hzj {t:Table}(h:tbD t=0):okT t.Texts/\0<=t.Uses/\t.Uses<=2147483647:=by
 unfold tbD at h;by_cases a:1024<t.Texts.length
 .rw[if_pos a]at h;cases h
 .rw[if_neg a]at h;by_cases b:fz (fun s=>(azW s).2) t.Texts=0
  .rw[if_pos b]at h;cases c:ndT t.Texts
   .rw[c]at h;cases h
   .rw[c,cond_true]at h;by_cases d:t.Uses<t.Texts.length
    .rw[if_pos d]at h;cases h
    .rw[if_neg d]at h;by_cases e:2147483647<t.Uses
     .rw[if_pos e]at h;cases h
     .exact⟨izj.1 b,by omega,by omega⟩
  .rw[if_neg b]at h;exact absurd h b
theorem Bzu {t:Table}(hl:t.Texts.length<=1000)(hs:dzg t.Texts):∃r x,ozB t=some (r,x,encE t):=by
 unfold ozB rzc mzb encE;simp only;rw[tableP_is hl hs,aza];by_cases c:tbD t=0
 .obtain⟨ht,u0,u1⟩:=Hzj c;obtain⟨o1,o2⟩:=lyO_ok hl ht;have ob:=o1.b;have oc:=o1.c;rw[dT0 c,if_pos c,show(!true)=false from rfl,azc];have hm:uz8 t=some (toM (lyO t).1,(lyO t).2):=by
   unfold uz8;rw[Lzz (by simp) u0 (by omega),aza,Lzz (by simp[czk]) (by omega) (by omega),aza,made_l1 hl hs ht (by simp[czk]),aza];rfl
  rw[hm,aza];simp only;rw[rec_eq (by simp only;omega),recE_is (by simp only;omega),aza];by_cases d:recE ⟨252,(lyO t).1.1,(lyO t).1.2.1,0⟩=0
  .rw[dT0 d,show(!true)=false from rfl,azc];obtain⟨y,e1,e2⟩:=scan (F:=lzJ) (fun(s:Rec) i=>(s,(lyO t).2,((lyO t).2.length:Int),(i:Int))) (lyO t).2.length (fun s i=>s.Data.length<=2+4*i) (fun y=>y.2.Data.length<=1000000) (by omega)
    (by
     intro back s i hi h;right;obtain⟨r,e,p1,p2⟩:=put32_is (b:=s.Data) (v:=(lyO t).2[i]) (by omega);unfold lzJ;simp only;rw[ltT hi,azd,idxG hi,aza,p1,aza,wr1 (by omega)];cases decide ((i:Int).tmod 8=0)
     .exact⟨s,rfl,by omega⟩
     .exact⟨_,rfl,by simp only;omega⟩)
    (by
     intro back s h;unfold lzJ;simp only;rw[ltF];exact⟨_,rfl,by simp only;omega⟩) ⟨255,[UInt8.ofNat 8,UInt8.ofNat 0],[],0⟩ (by simp)
   rw[show rzb (⟨255,[UInt8.ofNat 8,UInt8.ofNat 0],[],0⟩,(lyO t).2,((lyO t).2.length:Int),0)=_ from e1,aza];obtain⟨z,hz⟩:=cut_tot e2;rw[hz,d];exact⟨_,_,rfl⟩
  .rw[dF0 d];exact⟨_,_,rfl⟩
 .rw[dF0 c,if_neg c];exact⟨_,_,rfl⟩
theorem encD_is {t:Table}(hl:t.Texts.length<=1000)(hs:dzg t.Texts):∃r x,ezX t=some (r,x,encE t):=by
 obtain⟨q,hq⟩:=wza hl hs;refine⟨q.1,q.2.1,?_⟩;rw[hq];congr 2
 show q=(q.1,q.2.1,encE t)
 have:q.2.2=encE t:=by
  unfold ezX at hq;rw[tableD_is hl hs,aza]at hq;unfold encE;by_cases c:tbD t=0
  .obtain⟨ht,u0,u1⟩:=Hzj c;obtain⟨o1,o2⟩:=lyO_ok hl ht;have oc:=o1.c;have hm:lzC t=some ((lyO t).1.1,(lyO t).1.2.1,(lyO t).2):=by
    unfold lzC;have p1:=ez2 (b:=[]) (v:=u64.wrap t.Uses) (n:=4) (by omega) (by simp);have p2:=ez2 (b:=[]++lw 4 (u64.wrap t.Uses)) (v:=u64.wrap (t.Texts.length:Int)) (n:=4) (by omega) (by simp[czk]);rw[show((4:Nat):Int)=4 from rfl]at p1 p2;rw[p1,aza,p2,aza,layout_l1 hl hs ht (by simp[czk]),aza];rfl
   rw[if_pos c];rw[dT0 c,show(!true)=false from rfl,azc,hm,aza]at hq;cases h1:czx ([],8,2)with
   | none=>rw[h1]at hq;cases hq
   | some y1 =>
    rw[h1,aza]at hq;simp only at hq;cases h2:izW ((lyO t).2,y1,0)with
    | none=>rw[h2]at hq;cases hq
    | some y2 =>
     rw[h2,aza,recE_is (by simp only;omega),aza]at hq;by_cases d:recE ⟨252,(lyO t).1.1,(lyO t).1.2.1,0⟩=0
     .rw[dT0 d,show(!true)=false from rfl,azc]at hq;cases h3:lzy ⟨255,y2,[],0⟩with
      | none=>rw[h3]at hq;cases hq
      | some y3 =>
       rw[h3,aza]at hq;injection hq with hq;rw[<-hq,d]
     .rw[dF0 d]at hq;injection hq with hq;rw[<-hq]
  .rw[dF0 c]at hq;rw[if_neg c];injection hq with hq;rw[<-hq]
 rw[<-this]
def kzN (p:Place):Bool:=decide (0<=p.Sheet)&&(decide (p.Sheet<8)&&gdC p.At)
def chE (l:List Place):Int:=bif l.all kzN then 0 else 12
theorem chP_is {l:List Place}(hl:l.length<=1000):∃r,mzf l=some (r,chE l):=by
 unfold mzf Azc;simp only;have p:=xzE (b:=[]) (v:=u64.wrap (l.length:Int)) (n:=2) (by omega) (by simp);rw[show((2:Nat):Int)=2 from rfl]at p;rw[dF0 (by omega),azc,dF0 (by omega),dF0 (by omega),azc,azc,p];simp only[aza];generalize hb0:[]++lw 2 (u64.wrap (l.length:Int))=b0;have hb0:b0.length=2:=by rw[<-hb0];simp[czk]
 obtain⟨y,e1,e2⟩:=scan (F:=jzp) (fun(s:List UInt8) i=>(⟨0,[],[],0⟩,s,l,(l.length:Int),(i:Int))) l.length (fun s i=>s.length<=2+4*i/\∀j,j<i->∀h:j<l.length,kzN l[j]=true)
  (fun y=>(∃b:List UInt8,b.length<=100000/\l.all kzN=true/\y = .inl (b,⟨0,[],[],0⟩))\/l.all kzN=false/\y = .inr (12,⟨0,[],[],0⟩)) (by omega)
  (by
   rintro back s i hi ⟨h1,h2⟩;have bad:kzN l[i]=false->l.all kzN=false:=fun h=>List.all_eq_false.2 ⟨_,List.getElem_mem hi,by simp[h]⟩
   unfold jzp;simp only;rw[ltT hi,azd,idxG hi,aza,goodE,nzK,aza,wr1 (by omega)];by_cases a:l[i].Sheet<0
   .rw[dT0 a];exact .inl ⟨_,rfl,.inr ⟨bad (by unfold kzN;rw[dF0 (by omega)];rfl),rfl⟩⟩
   .rw[dF0 a,azc];by_cases b:8<=l[i].Sheet
    .rw[dT0 b];exact .inl ⟨_,rfl,.inr ⟨bad (by unfold kzN;rw[dF0 (show ¬l[i].Sheet<8 by omega)];simp),rfl⟩⟩
    .rw[dF0 b,azc];cases g:gdC l[i].At
     .exact .inl ⟨_,rfl,.inr ⟨bad (by unfold kzN;rw[g];simp),rfl⟩⟩
     .right;rw[show(!true)=false from rfl,azc,appN (by simp;omega),aza];refine⟨_,rfl,by simp;omega,fun j hj hjl=>?_⟩;by_cases e:j=i
      .subst e;unfold kzN;rw[dT0 (by omega),dT0 (by omega),g];rfl
      .exact h2 j (by omega) hjl)
  (by
   rintro back s ⟨h1,h2⟩;unfold jzp;simp only;rw[ltF];refine⟨_,rfl,.inl ⟨s,by omega,?_,rfl⟩⟩;rw[List.all_eq_true];intro x hx;obtain⟨j,hj,rfl⟩:=List.mem_iff_getElem.1 hx;exact h2 j hj hj) b0 ⟨by omega,fun j hj=>by omega⟩
 rw[show oz0 (⟨0,[],[],0⟩,b0,l,(l.length:Int),0)=_ from e1,aza];unfold chE;rcases e2 with⟨b,h1,h2,rfl⟩|⟨h2,rfl⟩
 .obtain⟨z,hz⟩:=cut_tot (x:=⟨6247,b,[],0⟩) (by simp only;omega);simp only[osum];rw[hz,h2];exact⟨_,rfl⟩
 .rw[h2];exact⟨_,rfl⟩
theorem KzU (p:Place):gzW (p,8)=some (kzN p):=by
 unfold gzW kzN;simp only[nzK,aza];rw[brnA,brnA]
theorem chD_is {l:List Place}(hl:l.length<=1000):∃r,ezB l=some (r,chE l):=by
 unfold ezB;have:=ez2 (b:=[]) (v:=u64.wrap (l.length:Int)) (n:=2) (by omega) (by simp);rw[show((2:Nat):Int)=2 from rfl]at this;rw[dF0 (by omega),azc,this,aza];generalize hb:[]++lw 2 (u64.wrap (l.length:Int))=b0;have hb:b0.length=2:=by rw[<-hb];simp[czk]
 obtain⟨y,e1,e2⟩:=scan (F:=dzf) (fun(s:List UInt8) (i:Nat)=>(l,(⟨0,[],[],0⟩:Rec),s,(i:Int))) l.length (fun s i=>s.length<=2+4*i/\∀j,j<i->∀h:j<l.length,kzN l[j]=true)
  (fun y=>(∃b:List UInt8,b.length<=100000/\l.all kzN=true/\y = .inl (b,⟨0,[],[],0⟩))\/l.all kzN=false/\y = .inr (12,⟨0,[],[],0⟩)) (by omega)
  (by
   rintro back s i hi ⟨h1,h2⟩;unfold dzf;simp only;have p1:=ez2 (b:=s++[UInt8.ofNat (u8.wrap l[i].Sheet).toNat]) (v:=u64.wrap l[i].At.Row) (n:=2) (by omega) (by simp;omega);rw[show((2:Nat):Int)=2 from rfl]at p1;rw[ltT hi,azd,idxG hi,wr1 (by omega),aza,KzU,aza];cases g:kzN l[i]
   .exact .inl ⟨_,rfl,.inr ⟨List.all_eq_false.2 ⟨_,List.getElem_mem hi,by simp[g]⟩,rfl⟩⟩
   .right;rw[show(!true)=false from rfl,azc,aza,appN (by simp;omega),aza,aza,p1,aza,aza,appN (by simp[czk];omega),aza];refine⟨_,rfl,by simp[czk];omega,fun j hj hjl=>?_⟩;by_cases e:j=i
    .subst e;exact g
    .exact h2 j (by omega) hjl)
  (by
   rintro back s ⟨h1,h2⟩;unfold dzf;simp only;rw[ltF,azc];refine⟨_,rfl,.inl ⟨s,by omega,?_,rfl⟩⟩;rw[List.all_eq_true];intro x hx;obtain⟨j,hj,rfl⟩:=List.mem_iff_getElem.1 hx;exact h2 j hj hj) b0 ⟨by omega,fun j hj=>by omega⟩
 rw[show izn (l,⟨0,[],[],0⟩,b0,0)=_ from e1,aza];unfold chE;rcases e2 with⟨b,h1,h2,rfl⟩|⟨h2,rfl⟩
 .obtain⟨z,hz⟩:=zzF (x:=⟨6247,b,[],0⟩) (by simp only;omega);simp only[osum];rw[hz,h2];exact⟨_,rfl⟩
 .rw[h2];exact⟨_,rfl⟩
def shD (l:List (List UInt8))(i:Nat):Int:=match l[i]? with
 | some s=>if(azW s).2=0 then(if(azW s).1<1 then 3 else if 31<(azW s).1 then 3 else bif (l.take i).all (fun b=>!decide (b=s))then 0 else 7)else 3
 | none=>0
theorem containsS {l:List (List UInt8)}{s:List UInt8}(hl:l.length<=1000):ezr (l,s)=some (!l.all fun b=>!decide (b=s)):=by
 have:=kzb (F:=dzq) (fun i=>(l,s,(l.length:Int),(i:Int))) loc l (fun b=>decide (b=s)) (by omega)
  (by
   intro back i hi;unfold dzq;simp only;rw[ltT hi,azd,idxG hi,aza,wr1 (by omega),show decide (s=l[i])=decide (l[i]=s) by simp only[decide_eq_decide];exact eq_comm];rfl)
  (by
   intro back;unfold dzq;simp only;rw[ltF];rfl)
 unfold ezr iza;simp only;rw[show gzb (l,s,(l.length:Int),0)=_ from this,aza,Gzd,szN,List.any_eq_not_all_not]
theorem sz6 {l:List (List UInt8)}(hl:l.length<=1000)(hs:dzg l):kzM l=some (fz (shD l) (List.range l.length)):=by
 have:lzU (l,l,(l.length:Int),0)=some (er (fz (shD l) (List.range l.length))):=by
  refine ezc (F:=fzS) (fun i=>(l,l,(l.length:Int),(i:Int))) er (List.range l.length) (shD l) (by simp;omega) ?_ ?_
  .intro back i hi;have hi':i<l.length:=by simpa using hi
   have hm:=hs _ (List.getElem_mem hi');unfold fzS;simp only;rw[ltT hi',azd,idxG hi',aza,qzB (by omega),aza,wr1 (by omega),subT (by omega) (by omega),aza,containsS (by rw[List.length_take];omega),aza,List.getElem_range];generalize hv:shD l i=v;unfold shD at hv;rw[List.getElem?_eq_getElem hi']at hv;simp only at hv;by_cases c1:(azW l[i]).2=0
   .rw[if_pos c1]at hv;rw[dT0 c1,show(!true)=false from rfl,azc];by_cases c2:(azW l[i]).1<1
    .rw[if_pos c2]at hv;subst hv;rw[dT0 c2];rfl
    rw[if_neg c2]at hv;rw[dF0 c2,azc];by_cases c3:31<(azW l[i]).1
    .rw[if_pos c3]at hv;subst hv;rw[dT0 c3];rfl
    rw[if_neg c3]at hv;rw[dF0 c3,azc];cases ha:(l.take i).all fun b=>!decide (b=l[i])
    .rw[ha]at hv;subst hv;rfl
    .rw[ha]at hv;subst hv;rfl
   .rw[if_neg c1]at hv;subst hv;rw[dF0 c1];rfl
  .intro back;unfold fzS;simp only;rw[List.length_range,ltF];rfl
 unfold kzM;rw[this,aza];unfold er;by_cases c:fz (shD l) (List.range l.length)=0
 .rw[c];rfl
 .rw[if_neg c];rfl
theorem NzQ {x:Globals}(hl:x.Sheets.length<=1000)(hs:dzg x.Sheets):hzm (x,0)=some (er (fz (shD x.Sheets) (List.range x.Sheets.length))):=by
 refine ezc (F:=czV) (fun i=>(x,(i:Int))) er (List.range x.Sheets.length) (shD x.Sheets) (by simp;omega) ?_ ?_
 .intro back i hi;have hi':i<x.Sheets.length:=by simpa using hi
  have hm:=hs _ (List.getElem_mem hi');have ht:(x.Sheets.take i).length=i:=by rw[List.length_take];omega
  have l3:hzn (x,(i:Int),0)=some (bif (x.Sheets.take i).all (fun b=>!decide (b=x.Sheets[i]))then .inl ()else .inr 7):=by
   refine mz7 (F:=czW) (fun k=>(x,(i:Int),(k:Int))) (x.Sheets.take i) _ (.inr 7) (.inl ()) (by omega) ?_ ?_
   .intro back k hk;unfold czW;simp only;rw[ltT (by omega:k<i),azd,idxG (by omega:k<x.Sheets.length),idxG hi',aza,aza,wr1 (by omega),List.getElem_take];cases decide (x.Sheets[k]=x.Sheets[i])<;>rfl
   .intro back;rw[ht];unfold czW;simp only;rw[ltF];rfl
  unfold czV;simp only;rw[ltT hi',azd,idxG hi',aza,hzw (by omega),aza,wr1 (by omega),l3,aza,List.getElem_range];generalize hv:shD x.Sheets i=v;unfold shD at hv;rw[List.getElem?_eq_getElem hi']at hv;simp only at hv;by_cases c1:(azW x.Sheets[i]).2=0
  .rw[if_pos c1]at hv;rw[dT0 c1,show(!true)=false from rfl,azc];by_cases c2:(azW x.Sheets[i]).1<1
   .rw[if_pos c2]at hv;subst hv;rw[dT0 c2];rfl
   rw[if_neg c2]at hv;rw[dF0 c2,azc];by_cases c3:31<(azW x.Sheets[i]).1
   .rw[if_pos c3]at hv;subst hv;rw[dT0 c3];rfl
   rw[if_neg c3]at hv;rw[dF0 c3,azc];cases ha:(x.Sheets.take i).all fun b=>!decide (b=x.Sheets[i])
   .rw[ha]at hv;subst hv;rfl
   .rw[ha]at hv;subst hv;rfl
  .rw[if_neg c1]at hv;subst hv;rw[dF0 c1];rfl
 .intro back;unfold czV;simp only;rw[List.length_range,ltF];rfl
theorem xzt {l:List (List UInt8)}(hl:l.length<=1000)(hs:dzg l):qzM (l,(l.length:Int),0)=some (er (fz (fun s=>(azW s).2) l)):=by
 refine ezc (F:=kz9) (fun i=>(l,(l.length:Int),(i:Int))) er l _ (by omega) ?_ ?_
 .intro back i hi;have:=hs _ (List.getElem_mem hi);unfold kz9;simp only;rw[ltT hi,azd,idxG hi,aza,qzB (by omega),aza,wr1 (by omega)];by_cases c:(azW l[i]).2=0
  .rw[dT0 c];rfl
  .rw[dF0 c,er,if_neg c];rfl
 .intro back;unfold kz9;simp only;rw[ltF];rfl
theorem formD_is {x:Globals}(hl:x.Formats.length<=1000)(hs:dzg x.Formats):hzo (x,0)=some (er (fz (fun s=>(azW s).2) x.Formats)):=by
 refine ezc (F:=czX) (fun i=>(x,(i:Int))) er x.Formats _ (by omega) ?_ ?_
 .intro back i hi;have:=hs _ (List.getElem_mem hi);unfold czX;simp only;rw[ltT hi,azd,idxG hi,aza,hzw (by omega),aza,wr1 (by omega)];by_cases c:(azW x.Formats[i]).2=0
  .rw[dT0 c];rfl
  .rw[dF0 c,er,if_neg c];rfl
 .intro back;unfold czX;simp only;rw[ltF];rfl
def xfD (n:Nat)(y:Int):Int:=if y<0 then 1 else if(n:Int)<=y/\¬y=0 then 1 else 0
theorem Hzo {x:Globals}(hl:x.XFs.length<=1000):qzN (x,x.XFs,(x.XFs.length:Int),0)=some (er (fz (xfD x.Formats.length) x.XFs)):=by
 refine ezc (F:=lza) (fun i=>(x,x.XFs,(x.XFs.length:Int),(i:Int))) er x.XFs _ (by omega) ?_ ?_
 .intro back i hi;unfold lza;simp only;rw[ltT hi,azd,idxG hi,aza,wr1 (by omega)];generalize hv:xfD x.Formats.length x.XFs[i]=v;unfold xfD at hv;by_cases c1:x.XFs[i]<0
  .rw[if_pos c1]at hv;subst hv;rw[dT0 c1];rfl
  rw[if_neg c1]at hv;rw[dF0 c1,azc];have e:decide ((bif decide ((x.Formats.length:Int)<1)then 1 else(x.Formats.length:Int))<=x.XFs[i])=decide ((x.Formats.length:Int)<=x.XFs[i]/\¬x.XFs[i]=0):=by
   simp only[decide_eq_decide];by_cases d:(x.Formats.length:Int)<1
   .rw[dT0 d,cond_true];omega
   .rw[dF0 d,cond_false];omega
  rw[e];by_cases c2:(x.Formats.length:Int)<=x.XFs[i]/\¬x.XFs[i]=0
  .rw[if_pos c2]at hv;subst hv;rw[dT0 c2];rfl
  .rw[if_neg c2]at hv;subst hv;rw[dF0 c2];rfl
 .intro back;unfold lza;simp only;rw[ltF];rfl
theorem xfDoc_is {x:Globals}(hl:x.XFs.length<=1000):hzp (x,0)=some (er (fz (xfD x.Formats.length) x.XFs)):=by
 refine ezc (F:=czY) (fun i=>(x,(i:Int))) er x.XFs _ (by omega) ?_ ?_
 .intro back i hi;unfold czY;simp only;rw[ltT hi,azd,idxG hi,wr1 (by omega)];simp only[aza];generalize hv:xfD x.Formats.length x.XFs[i]=v;unfold xfD at hv;by_cases c1:x.XFs[i]<0
  .rw[if_pos c1]at hv;subst hv;rw[dT0 c1];rfl
  rw[if_neg c1]at hv;rw[dF0 c1,azc];by_cases c2:(x.Formats.length:Int)<=x.XFs[i]
  .rw[dT0 c2,azd];by_cases c3:x.XFs[i]=0
   .rw[if_neg (by omega)]at hv;subst hv;rw[dT0 c3];rfl
   .rw[if_pos ⟨c2,c3⟩]at hv;subst hv;rw[dF0 c3];rfl
  .rw[if_neg (by omega)]at hv;subst hv;rw[dF0 c2];rfl
 .intro back;unfold czY;simp only;rw[ltF];rfl
def nmD (e:Expr):Int:=if(enc1 e).2=0 then(bif (rf 40 e).all (fun x=>!decide (x.Kind=6))then 0 else 3)else(enc1 e).2
theorem nameIn {l:List Expr}(hl:l.length<=1000000):bzF (l,())=some (!l.all fun x=>!decide (x.Kind=6)):=by
 have:=kzb (F:=az6) (fun i=>(l,(),(l.length:Int),(i:Int))) loc l (fun b=>decide (b.Kind=6)) (by omega)
  (by
   intro back i hi;unfold az6 ozg;simp only[azj];rw[ltT hi,azd,idxG hi,aza,aza,wr1 (by omega)];rfl)
  (by
   intro back;unfold az6;simp only;rw[ltF];rfl)
 unfold bzF czC;simp only;rw[show czm (l,(),(l.length:Int),0)=_ from this,aza,Gzd,szN,List.any_eq_not_all_not]
theorem nameP_is {e:Expr}(h:fewE e):mzW e=some (nmD e):=by
 have:=wzM 40 e;have hs:=h.1;unfold mzW nmD;simp only[azj];rw[(lzM (by omega) h.2).1,aza,(vzh (by omega) h.2).1,aza,nameIn (by omega),aza];by_cases c:(enc1 e).2=0
 .rw[dT0 c,if_pos c];cases(rf 40 e).all fun x=>!decide (x.Kind=6)<;>rfl
 .rw[dF0 c,if_neg c];rfl
theorem uzV {l:List Expr}(hl:l.length<=1000)(he:∀e∈l,fewE e):qzO (l,(l.length:Int),0)=some (er (fz nmD l)):=by
 refine ezc (F:=lzb) (fun i=>(l,(l.length:Int),(i:Int))) er l _ (by omega) ?_ ?_
 .intro back i hi;unfold lzb;simp only[azj];rw[ltT hi,azd,idxG hi,aza,nameP_is (he _ (List.getElem_mem hi)),aza,wr1 (by omega)];by_cases c:nmD l[i]=0
  .rw[dT0 c];rfl
  .rw[dF0 c,er,if_neg c];rfl
 .intro back;unfold lzb;simp only;rw[ltF];rfl
theorem namesD_is {x:Globals}(hl:x.Names.length<=1000)(he:∀e∈x.Names,fewE e):hzq (x,0)=some (er (fz nmD x.Names)):=by
 refine ezc (F:=czZ) (fun i=>(x,(i:Int))) er x.Names _ (by omega) ?_ ?_
 .intro back i hi;obtain⟨s1,s2⟩:=he _ (List.getElem_mem hi);have hr:=wzM 40 x.Names[i];have l7:hzt (rf 40 x.Names[i],0)=some (bif (rf 40 x.Names[i]).all (fun y=>!decide (y.Kind=6))then .inl ()else .inr 3):=by
   refine mz7 (F:=cz0) (fun k=>(rf 40 x.Names[i],(k:Int))) (rf 40 x.Names[i]) _ (.inr 3) (.inl ()) (by omega) ?_ ?_
   .intro back k hk;unfold cz0;simp only;rw[ltT hk,azd,idxG hk,aza,wr1 (by omega)];cases decide ((rf 40 x.Names[i])[k].Kind=6)<;>rfl
   .intro back;unfold cz0;simp only;rw[ltF];rfl
  unfold czZ;simp only[azj];rw[ltT hi,azd,idxG hi,aza,(lzM (by omega) s2).2,aza,aza,(vzh (by omega) s2).2,aza,l7,aza,wr1 (by omega)];generalize hv:nmD x.Names[i]=v;unfold nmD at hv;by_cases c:(enc1 x.Names[i]).2=0
  .rw[if_pos c]at hv;rw[dT0 c];cases ha:(rf 40 x.Names[i]).all fun y=>!decide (y.Kind=6)
   .rw[ha]at hv;subst hv;rfl
   .rw[ha]at hv;subst hv;rfl
  .rw[if_neg c]at hv;subst hv;rw[dF0 c,er,if_neg c];rfl
 .intro back;unfold czZ;simp only;rw[ltF];rfl
theorem HzU {x:Globals}(h:fewG x)(s1:dzg x.Sheets)(s2:dzg x.Formats)(s3:dzg x.Texts.Texts):fza x=dzx x:=by
 obtain⟨h1,h2,h3,h4,h5,h6,h7⟩:=h;obtain⟨r1,x1,e1⟩:=Bzu (t:=x.Texts) (by omega) s3;obtain⟨r2,x2,e2⟩:=encD_is (t:=x.Texts) (by omega) s3;obtain⟨r3,e3⟩:=chP_is (l:=x.Chain) (by omega);obtain⟨r4,e4⟩:=chD_is (l:=x.Chain) (by omega);unfold fza dzx;rw[sz6 (by omega) s1,NzQ (by omega) s1,xzt (by omega) s2,formD_is (by omega) s2,Hzo (by omega),xfDoc_is (by omega),uzV (by omega) h7,namesD_is (by omega) h7,e1,e2,e3,e4];simp only[aza];rw[show gzV x=ezg x from rfl];cases ezg x with
 | none=>rfl
 | some b =>
  rw[aza,aza];cases b
  .rw[azc,azc];by_cases c:fz (shD x.Sheets) (List.range x.Sheets.length)=0
   .rw[c,er0];rfl
   .have e:er (fz (shD x.Sheets) (List.range x.Sheets.length)) = .inr (fz (shD x.Sheets) (List.range x.Sheets.length)):=by unfold er;rw[if_neg c]
    rw[dF0 c,e];rfl
  .rfl
theorem textsP_is {s:Sheet}(h:s.Cells.length<=1000):qzo s=some (txS s):=by
 have:=ezz (F:=kzy) (fun z i=>(z,s.Cells,(s.Cells.length:Int),(i:Int))) id s.Cells (fun c=>bif !c.Has&&decide (c.V.Kind=2)then [c.V.S]else []) 1 [] (by omega) (fun c _=>by cases !c.Has&&decide (c.V.Kind=2)<;>simp) ?_ ?_
 .unfold qzo;rw[show qzp ([],s.Cells,(s.Cells.length:Int),0)=_ from this];rfl
 .intro back z i hi hz;unfold kzy;simp only;rw[ltT hi,azd,idxG hi,aza,wr1 (by omega),appN (by simp at hz ⊢;omega),aza];cases s.Cells[i].Has<;>cases decide (s.Cells[i].V.Kind=2)<;>simp
 .intro back z _;unfold kzy;simp only;rw[ltF];rfl
theorem allP_is {l:List Sheet}(hl:l.length<=1000)(h:∀s∈l,s.Cells.length<=1000):qzH ([],l,(l.length:Int),0)=some (l.flatMap txS):=by
 refine ezz (F:=kz2) (fun z i=>(z,l,(l.length:Int),(i:Int))) id l txS 1000 [] (by omega) (fun s hs=>by have:=rzg s;have:=h s hs;omega) ?_ ?_
 .intro back z i hi hz;have h1:=h _ (List.getElem_mem hi);have h2:=rzg l[i];unfold kz2;simp only;rw[ltT hi,azd,idxG hi,aza,textsP_is h1,aza,wr1 (by omega),appN (by simp at hz ⊢;omega),aza]
 .intro back z _;unfold kz2;simp only;rw[ltF];rfl
def shsE (b:Book):Int:=fz (fun s=>(azK s).getD 0) b.Sheets
def xf2 (n:Nat)(c:Cell2):Int:=if(n:Int)<=c.XF/\¬c.XF=0 then 1 else 0
def xfE (b:Book):Int:=fz (fun s:Sheet=>fz (xf2 b.Globals.XFs.length) s.Cells) b.Sheets
theorem Gz6 {s:Sheet}(h:fewS s):azK s=some ((azK s).getD 0):=by
 obtain⟨r,e,-⟩:=LzV h;rw[e];rfl
theorem xfB {n:Nat}{y:Int}(h:0<=y):decide ((bif decide ((n:Int)<1)then 1 else(n:Int))<=y)=decide ((n:Int)<=y/\¬y=0):=by
 simp only[decide_eq_decide];by_cases d:(n:Int)<1
 .rw[dT0 d,cond_true];omega
 .rw[dF0 d,cond_false];omega
theorem okC_xf {x:Cell2}(h:fewE x.E)(hv:x.V.S.length<=3000)(h0:bzZ x=some 0):0<=x.XF:=by
 unfold bzZ at h0;obtain⟨v,-,e1,-⟩:=tzp hv;rw[nzK,aza]at h0;cases hg:gdC x.At
 .rw[hg]at h0;cases h0
 .rw[hg,show(!true)=false from rfl,azc]at h0;apply Decidable.byContradiction;intro c;rw[dT0 (by omega),azd]at h0;cases h0
theorem cells_xf {l:List Cell2}(hl:l.length<=1000)(hc:∀x∈l,fewE x.E/\x.V.S.length<=3000)(h0:bz0 l=some 0):∀x∈l,0<=x.XF:=by
 intro x hx;obtain⟨c1,c2⟩:=hc x hx;refine okC_xf c1 c2 ?_;obtain⟨i,hi,rfl⟩:=List.mem_iff_getElem.1 hx;unfold bz0 at h0;obtain⟨z,e1,e2⟩:=cz7 (F:=az0) (fun i=>(l,(i:Int))) l.length (fun i=>∀h:i<l.length,bzZ l[i]=some 0) (fun z=>∃e,z = .inr e/\e≠0) (.inl ()) (by omega)
  (by
   intro back i hi;obtain⟨c1,c2⟩:=hc _ (List.getElem_mem hi);unfold az0;simp only[azj,iz5];rw[ltT hi,azd,idxG hi,aza,mz8 c1 c2,aza,wr1 (by omega)];by_cases a:uzz l[i]=0
   .rw[dT0 a,show(!true)=false from rfl,azc];by_cases b:i=0
    .rw[dF0 (by omega),azc];exact .inl ⟨rfl,fun _=>by rw[mz8 c1 c2,a]⟩
    .rw[dT0 (by omega),azd,uzk (by omega) (by omega),idxG (by omega:i-1<l.length),aza,aza,qzC,aza];cases dzi l[i-1].At l[i].At
     .exact .inr ⟨_,rfl,_,rfl,by decide⟩
     .exact .inl ⟨rfl,fun _=>by rw[mz8 c1 c2,a]⟩
   .rw[dF0 a];exact .inr ⟨_,rfl,_,rfl,a⟩)
  (by
   intro back;unfold az0;simp only;rw[ltF];rfl)
 rw[dF0 (by omega),azc,show dzY (l,0)=_ from e1,aza]at h0;rcases e2 with⟨e,rfl,he⟩|⟨rfl,e2⟩
 .exact absurd (Option.some.inj h0) he
 .exact e2 i hi hi
theorem sheet_xf {s:Sheet}(h:fewS s)(h0:azK s=some 0):∀x∈s.Cells,0<=x.XF:=by
 refine cells_xf (by have:=h.cells;omega) h.cellE ?_;unfold azK at h0;obtain⟨r,e1,e2⟩:=xzj (l:=s.Cells) (by have:=h.cells;omega) h.cellE;rw[dF0 (by have:=h.rows;omega),azc,wzN (by have:=h.rows;omega),aza,e1]at h0;unfold er at h0;by_cases c:fz (rwD s.Rows) (List.range s.Rows.length)=0
 .rw[if_pos c]at h0;simp only[osum,aza]at h0;by_cases c0:r=0
  .rw[e1,c0]
  .rw[dF0 c0]at h0;exact absurd (Option.some.inj h0) c0
 .rw[if_neg c]at h0;exact absurd (Option.some.inj h0) c
theorem xf_l3 {b:Book}{l:List Cell2}(hl:l.length<=1000)(h:∀x∈l,0<=x.XF):qzF (b,l,(l.length:Int),0)=some (er (fz (xf2 b.Globals.XFs.length) l)):=by
 refine ezc (F:=kz1) (fun i=>(b,l,(l.length:Int),(i:Int))) er l _ (by omega) ?_ ?_
 .intro back i hi;unfold kz1;simp only;rw[ltT hi,azd,idxG hi,aza,xfB (h _ (List.getElem_mem hi)),wr1 (by omega)];generalize hv:xf2 b.Globals.XFs.length l[i]=v;unfold xf2 at hv;by_cases c:(b.Globals.XFs.length:Int)<=l[i].XF/\¬l[i].XF=0
  .rw[if_pos c]at hv;subst hv;rw[dT0 c];rfl
  .rw[if_neg c]at hv;subst hv;rw[dF0 c];rfl
 .intro back;unfold kz1;simp only;rw[ltF];rfl
theorem xf_l2 {b:Book}(hb:b.Sheets.length<=1000)(hl:∀s∈b.Sheets,s.Cells.length<=1000)(h:∀s∈b.Sheets,∀x∈s.Cells,0<=x.XF):jzb (b,b.Sheets,(b.Sheets.length:Int),0)=some (er (xfE b)):=by
 refine ezc (F:=kz0) (fun i=>(b,b.Sheets,(b.Sheets.length:Int),(i:Int))) er b.Sheets _ (by omega) ?_ ?_
 .intro back i hi;have hm:=List.getElem_mem hi;unfold kz0;simp only;rw[ltT hi,azd,idxG hi,aza,xf_l3 (hl _ hm) (h _ hm),aza,wr1 (by omega)];by_cases c:fz (xf2 b.Globals.XFs.length) b.Sheets[i].Cells=0
  .rw[c];rfl
  .rw[dF0 c,er,if_neg c];rfl
 .intro back;unfold kz0;simp only;rw[ltF];rfl
theorem xfD_l3 {b:Book}(hb:b.Sheets.length<=1000)(hl:∀s∈b.Sheets,s.Cells.length<=1000):izp (b,0)=some (er (xfE b)):=by
 refine ezc (F:=kzq) (fun i=>(b,(i:Int))) er b.Sheets _ (by omega) ?_ ?_
 .intro back i hi;have hm:=List.getElem_mem hi;have hln:=hl _ hm;have l4:qzb (b,(i:Int),0)=some (er (fz (xf2 b.Globals.XFs.length) b.Sheets[i].Cells)):=by
   refine ezc (F:=kzr) (fun k=>(b,(i:Int),(k:Int))) er b.Sheets[i].Cells _ (by omega) ?_ ?_
   .intro back k hk;unfold kzr;simp only;rw[idxG hi];simp only[aza];rw[ltT hk,azd,idxG hk,aza,wr1 (by omega)];generalize hv:xf2 b.Globals.XFs.length b.Sheets[i].Cells[k]=v;unfold xf2 at hv;by_cases c2:(b.Globals.XFs.length:Int)<=b.Sheets[i].Cells[k].XF
    .rw[dT0 c2,azd];by_cases c3:b.Sheets[i].Cells[k].XF=0
     .rw[if_neg (by omega)]at hv;subst hv;rw[dT0 c3];rfl
     .rw[if_pos ⟨c2,c3⟩]at hv;subst hv;rw[dF0 c3];rfl
    .rw[if_neg (by omega)]at hv;subst hv;rw[dF0 c2];rfl
   .intro back;unfold kzr;simp only;rw[idxG hi];simp only[aza];rw[ltF];rfl
  unfold kzq;simp only;rw[ltT hi,azd,l4,aza,wr1 (by omega)];by_cases c:fz (xf2 b.Globals.XFs.length) b.Sheets[i].Cells=0
  .rw[c];rfl
  .rw[dF0 c,er,if_neg c];rfl
 .intro back;unfold kzq;simp only;rw[ltF];rfl
theorem shsD_is {b:Book}(hb:b.Sheets.length<=1000)(h:∀s∈b.Sheets,fewS s):qza (b,0)=some (er (shsE b)):=by
 refine ezc (F:=kzo) (fun i=>(b,(i:Int))) er b.Sheets _ (by omega) ?_ ?_
 .intro back i hi;unfold kzo;simp only;rw[ltT hi,azd,idxG hi,aza,Gz6 (h _ (List.getElem_mem hi)),aza,wr1 (by omega)];simp only[Option.getD_some];by_cases c:(azK b.Sheets[i]).getD 0=0
  .rw[dT0 c];rfl
  .rw[dF0 c,er,if_neg c];rfl
 .intro back;unfold kzo;simp only;rw[ltF];rfl
def nC (b:Book)(i:Nat):Nat:=((b.Sheets.take i).map fun s=>s.Cells.length).sum
theorem Ize {b:Book}{i:Nat}(hi:i<b.Sheets.length):nC b (i+1)=nC b i+b.Sheets[i].Cells.length:=by
 unfold nC;rw[List.take_succ_eq_append_getElem hi,List.map_append,List.sum_append];simp
theorem nC_le {b:Book}(h:∀s∈b.Sheets,s.Cells.length<=120):∀i,i<=b.Sheets.length->nC b i<=120*i
 | 0,_=>by simp[nC]
 | i+1,hi=>by
  have:=nC_le h i (by omega);have:=h _ (List.getElem_mem (show i<b.Sheets.length by omega));rw[Ize (by omega)];omega
theorem nCD {b:Book}(hb:b.Sheets.length<=1000)(h:∀s∈b.Sheets,s.Cells.length<=120):izo (b,0,0)=some (nC b b.Sheets.length:Int):=by
 obtain⟨y,e1,rfl⟩:=scan (F:=kzp) (fun(s:Nat) i=>(b,(s:Int),(i:Int))) b.Sheets.length (fun s i=>s=nC b i) (fun y=>y=(nC b b.Sheets.length:Int)) (by omega)
  (by
   intro back s i hi hs;right;have:=nC_le h i (by omega);have:=h _ (List.getElem_mem hi);unfold kzp;simp only;rw[ltT hi,azd,idxG hi,aza,wr1 (by omega),wadd (by omega)];exact⟨_,rfl,by rw[Ize hi,hs]⟩)
  (by
   intro back s hs;unfold kzp;simp only;rw[ltF,hs];exact⟨_,rfl,rfl⟩) 0 (by simp[nC])
 exact e1
noncomputable def hzQ (b:Book):Int:=if xfE b=0 then(bif @decide (okBd (b.Sheets.flatMap txS)/\b.Globals.Texts=⟨dd (b.Sheets.flatMap txS),((b.Sheets.flatMap txS).length:Int)⟩) (Classical.propDecidable _)then 0 else 3)else xfE b
theorem Bzg {t u:Table}:t=u↔t.Texts=u.Texts/\t.Uses=u.Uses:=by
 cases t;cases u;simp
theorem vzN {b:Book}(hb:b.Sheets.length<=12)(hf:∀s∈b.Sheets,fewS s)(hx:∀s∈b.Sheets,s.Cells.length<=120) (tl:∀t,(shsE b=0->∃t',(brn (decide ((4096:Int)<(nC b b.Sheets.length:Int))) (some (4,t)) (obnd (jzb (b,b.Sheets,(b.Sheets.length:Int),0)) fun y =>
 osum y (fun y=>obnd (ez9 b.Sheets) fun y=>brn (!decide (y.2=0)) (some (3,y.1)) (brn (!decide (y.1.Uses=b.Globals.Texts.Uses)) (some (3,y.1)) (obnd (bzz (y.1.Texts,b.Globals.Texts.Texts)) fun y_1=>brn (!y_1) (some (3,y.1)) (some (0,y.1))))) fun y=>some (y,t)))=some (hzQ b,t'))) :
 ∀(f N i:Nat) (t:Table),b.Sheets.length-i<=f->f<N->i<=b.Sheets.length->fz (fun s=>(azK s).getD 0) (b.Sheets.take i)=0->∃t',iter gzT N (b,t,(nC b i:Int),(i:Int))=some (if shsE b=0 then hzQ b else shsE b,t')
 | _,0,_,_,_,h,_,_=>absurd h (by omega)
 | f,N+1,i,t,h,hN,hi,h0=>by
  rw[azw];have ih:=fun i t h1 h2 h3 h4=>vzN hb hf hx tl (f-1) N i t h1 h2 h3 h4
  generalize iter gzT N=S at ih;unfold gzT;simp only;have fz_app:∀(f:Sheet->Int) (l m:List Sheet),fz f l=0->fz f (l++m)=fz f m:=by
   intro f l m;induction l with
   | nil=>intro _;rfl
   | cons a l ih =>
    intro h;simp only[fz,List.cons_append]at h ⊢;by_cases c:f a=0
    .rw[if_pos c]at h ⊢;exact ih h
    .rw[if_neg c]at h;exact absurd h c
  by_cases c:i<b.Sheets.length
  .have hm:=List.getElem_mem c;rw[ltT c,azd,idxG c];simp only[aza];rw[sheetP_is (hf _ hm),Gz6 (hf _ hm),aza,wr1 (by omega),wadd (by have:=nC_le hx i (by omega);have:=hx _ hm;omega),<-Ize c];have e:shsE b=fz (fun s=>(azK s).getD 0) (b.Sheets.drop i):=by
    unfold shsE
    conv=>lhs;rw[<-List.take_append_drop i b.Sheets]
    exact fz_app _ _ _ h0
   by_cases d:(azK b.Sheets[i]).getD 0=0
   .rw[dT0 d,show(!true)=false from rfl,azc];obtain⟨t',k⟩:=ih (i+1) t (by omega) (by omega) (by omega) (by
     rw[List.take_succ_eq_append_getElem c,fz_app _ _ _ h0];simp only[fz];rw[if_pos d])
    rw[k];exact⟨t',rfl⟩
   .rw[dF0 d];rw[List.drop_eq_getElem_cons c]at e;simp only[fz]at e;rw[if_neg d]at e;rw[e,if_neg d];exact⟨t,rfl⟩
  .have:i=b.Sheets.length:=by omega
   subst this;rw[List.take_length]at h0;have h0:shsE b=0:=h0;rw[ltF,azc,if_pos h0];exact tl t h0
theorem book_eq {b:Book}(h:fewB b)(hs:Gz8 b):dzK b=nzk b:=by
 have hl:=h.sheets;have cl:∀s∈b.Sheets,s.Cells.length<=120:=fun s hs=>(h.sheet s hs).cells
 have cl':∀s∈b.Sheets,s.Cells.length<=1000:=fun s hs=>by have:=cl s hs;omega
 have tlen:=izu (f:=txS) (K:=120) b.Sheets fun s hs=>by have:=rzg s;have:=cl s hs;omega
 have tsm:∀x∈b.Sheets.flatMap txS,x.length<=4000000:=by
  intro x hx;obtain⟨s,hs,hx⟩:=List.mem_flatMap.1 hx;unfold txS at hx;obtain⟨c,hc,hx⟩:=List.mem_flatMap.1 hx;have:=((h.sheet s hs).cellE c hc).2;cases hd:!c.Has&&decide (c.V.Kind=2)
  .rw[hd]at hx;cases hx
  .rw[hd]at hx;simp at hx;rw[hx];omega
 obtain⟨t1,a1,e1,p1,p2,p3⟩:=Iz3 (x:=b.Sheets.flatMap txS) (by omega) tsm;obtain⟨t2,a2,e2,d1,d2,d3⟩:=Iz2 (x:=b.Sheets.flatMap txS) (by omega) tsm;have nn:=nC_le cl b.Sheets.length (Nat.le_refl _);have htx:ez9 b.Sheets=some (t1,e1):=by
  unfold ez9;rw[allP_is (by omega) cl',aza,p1];rfl
 have gt:=h.glob.texts;have tailP:shsE b=0->∀t,∃t',(brn (decide ((4096:Int)<(nC b b.Sheets.length:Int))) (some (4,t)) (obnd (jzb (b,b.Sheets,(b.Sheets.length:Int),0)) fun y =>
  osum y (fun y=>obnd (ez9 b.Sheets) fun y=>brn (!decide (y.2=0)) (some (3,y.1)) (brn (!decide (y.1.Uses=b.Globals.Texts.Uses)) (some (3,y.1)) (obnd (bzz (y.1.Texts,b.Globals.Texts.Texts)) fun y_1=>brn (!y_1) (some (3,y.1)) (some (0,y.1))))) fun y=>some (y,t)))=some (hzQ b,t'):=by
  intro h0 t;have hx:∀s∈b.Sheets,∀x∈s.Cells,0<=x.XF:=fun s hs=>sheet_xf (h.sheet s hs) (by
   rw[Gz6 (h.sheet s hs)];rw[show(azK s).getD 0=0 from izj.1 h0 s hs])
  rw[dF0 (by omega),azc,xf_l2 (by omega) cl' hx,aza];unfold hzQ;by_cases c:xfE b=0
  .rw[if_pos c,c,er0];simp only[osum];rw[htx];simp only[aza];by_cases k:e1=0
   .have ok:=p2.1 k;have ht:=p3 k;rw[dT0 k,show(!true)=false from rfl,azc,eqStr (by rw[ht];have:=ok.2;simp only;omega),aza];by_cases q:b.Globals.Texts=⟨dd (b.Sheets.flatMap txS),((b.Sheets.flatMap txS).length:Int)⟩
    .rw[@dT0 _ (Classical.propDecidable _) (show okBd (b.Sheets.flatMap txS)/\b.Globals.Texts=_ from⟨ok,q⟩),ht,q,jzr,dT0 rfl];exact⟨_,rfl⟩
    .rw[@dF0 _ (Classical.propDecidable _) (fun k=>q k.2),ht];simp only[cond_false];by_cases u:(((b.Sheets.flatMap txS).length:Nat):Int)=b.Globals.Texts.Uses
     .have n:eqX (dd (b.Sheets.flatMap txS)) b.Globals.Texts.Texts=false:=jzq fun e=>q (Bzg.2 ⟨e.symm,u.symm⟩)
      rw[dT0 u,n];exact⟨_,rfl⟩
     .rw[dF0 u];exact⟨_,rfl⟩
   .rw[dF0 k,@dF0 _ (Classical.propDecidable _) (fun q=>k (p2.2 q.1))];exact⟨_,rfl⟩
  .rw[if_neg c,er,if_neg c];exact⟨_,rfl⟩
 have tailD:(obnd (izo (b,0,0)) fun y=>brn (decide (4096<y)) (some 4) (obnd (izp (b,0)) fun y=>osum y (fun y=>obnd (fz3 b.Sheets) fun y=>obnd (kzK y) fun y=>brn (!decide (y.2.2=0)) (some 3) (obnd (gzY (y.1.Texts,b.Globals.Texts.Texts)) fun y_1=>brn (!y_1) (some 3) (brn (!decide (y.1.Uses=b.Globals.Texts.Uses)) (some 3) (some 0)))) fun y=>some y))=some (hzQ b):=by
  rw[nCD (by omega) cl,aza,dF0 (by omega),azc,xfD_l3 (by omega) cl',aza,Cz4 (by omega) cl'];unfold hzQ;by_cases c:xfE b=0
  .rw[if_pos c,c,er0];simp only[osum,aza];rw[d1];simp only[aza];rw[Hzh (by omega)];by_cases k:e2=0
   .have ok:=d2.1 k;have ht:=d3 k;rw[dT0 k,show(!true)=false from rfl,azc,aza];by_cases q:b.Globals.Texts=⟨dd (b.Sheets.flatMap txS),((b.Sheets.flatMap txS).length:Int)⟩
    .rw[@dT0 _ (Classical.propDecidable _) (show okBd (b.Sheets.flatMap txS)/\b.Globals.Texts=_ from⟨ok,q⟩),ht,q,jzr,dT0 rfl];rfl
    .rw[@dF0 _ (Classical.propDecidable _) (fun k=>q k.2),ht];simp only[cond_false];by_cases u:(((b.Sheets.flatMap txS).length:Nat):Int)=b.Globals.Texts.Uses
     .have n:eqX (dd (b.Sheets.flatMap txS)) b.Globals.Texts.Texts=false:=jzq fun e=>q (Bzg.2 ⟨e.symm,u.symm⟩)
      rw[n];rfl
     .rw[dF0 u];cases eqX (dd (b.Sheets.flatMap txS)) b.Globals.Texts.Texts<;>rfl
   .rw[dF0 k,@dF0 _ (Classical.propDecidable _) (fun q=>k (d2.2 q.1))];rfl
  .rw[if_neg c,er,if_neg c];rfl
 have full:∀t,∃t',fzn (b,t,0,0)=some (if shsE b=0 then hzQ b else shsE b,t'):=fun t=>by
  have:=vzN (b:=b) hl h.sheet cl (fun t h0=>tailP h0 t) b.Sheets.length big 0 t (by omega) (by rw[bzH];omega) (by omega) rfl;exact this
 have full1:∀t,∃t',gzT fzn (b,t,0,0)=some (if shsE b=0 then hzQ b else shsE b,t'):=fun t=>by
  have:=vzN (b:=b) hl h.sheet cl (fun t h0=>tailP h0 t) b.Sheets.length (big+1) 0 t (by omega) (by rw[bzH];omega) (by omega) rfl;rw[azw]at this;exact this
 unfold dzK qzG nzk;rw[HzU h.glob hs.1 hs.2.1 hs.2.2];obtain⟨g,g1,g2⟩:=FzG h.glob hs.1 hs.2.1 hs.2.2;rw[g1];simp only[aza];by_cases c0:g=0
 .rw[dT0 c0,show(!true)=false from rfl,azc,azc];by_cases c1:b.Sheets.length=b.Globals.Sheets.length
  .rw[dT0 (by omega),show(!true)=false from rfl,azc,azc,shsD_is (by omega) h.sheet];obtain⟨t',k⟩:=full1 ⟨[],0⟩;unfold gzT at k;simp only at k;have doc:(obnd (some (er (shsE b))) fun y=>osum y (fun y=>obnd (izo (b,0,0)) fun y=>brn (decide (4096<y)) (some 4) (obnd (izp (b,0)) fun y=>osum y (fun y=>obnd (fz3 b.Sheets) fun y=>obnd (kzK y) fun y=>brn (!decide (y.2.2=0)) (some 3) (obnd (gzY (y.1.Texts,b.Globals.Texts.Texts)) fun y_1=>brn (!y_1) (some 3) (brn (!decide (y.1.Uses=b.Globals.Texts.Uses)) (some 3) (some 0)))) fun y=>some y)) fun y=>some y)=some (if shsE b=0 then hzQ b else shsE b):=by
    rw[aza];by_cases c2:shsE b=0
    .rw[if_pos c2,c2,er0];simp only[osum];exact tailD
    .rw[if_neg c2,er,if_neg c2];rfl
   rw[doc];have c3:0<b.Sheets.length:=by have:=(g2 c0).1;omega
   rw[dT0 (by omega),azd,show(0:Int)=((0:Nat):Int) from rfl,idxG c3];rw[dT0 (by omega),azd,show(0:Int)=((0:Nat):Int) from rfl,idxG c3]at k;simp only[aza]at k ⊢;have k2:(obnd (hz3 b.Sheets[0]) fun y=>brn (!decide (y=0)) (some (y,(⟨[],0⟩:Table))) (obnd (fzn (b,⟨[],0⟩,i64.wrap (0+(b.Sheets[0].Cells.length:Int)),1)) fun y=>some (y.1,y.2)))=some (if shsE b=0 then hzQ b else shsE b,t'):=k
   show(obnd (obnd (hz3 b.Sheets[0]) fun y=>brn (!decide (y=0)) (some (Sum.inr y)) (obnd (fzn (b,⟨[],0⟩,i64.wrap (0+(b.Sheets[0].Cells.length:Int)),1)) fun y=>some (Sum.inr y.1))) fun y=>osum y (fun y=>none) fun y=>some y)=_
   clear k;cases hS:hz3 b.Sheets[0]with
   | none=>rw[hS]at k2;cases k2
   | some v =>
    rw[hS,aza]at k2;rw[aza];by_cases c4:v=0
    .rw[dT0 c4,show(!true)=false from rfl,azc]at k2;rw[dT0 c4,show(!true)=false from rfl,azc];cases hJ:fzn (b,⟨[],0⟩,i64.wrap (0+(b.Sheets[0].Cells.length:Int)),1)with
     | none=>rw[hJ]at k2;cases k2
     | some y =>
      rw[hJ,aza]at k2;rw[aza,aza];injection k2 with k2;injection k2 with k3 k4;exact congrArg some k3
    .rw[dF0 c4]at k2;rw[dF0 c4];injection k2 with k2;injection k2 with k3 k4;exact congrArg some k3
  .rw[dF0 (by omega)];rfl
 .rw[dF0 c0];rfl
theorem zzD {b:Book}(h:fewB b)(hs:Gz8 b):∃g,dzx b.Globals=some g/\(g=0->1<=b.Globals.Sheets.length)/\dzK b=some (if g=0 then(if b.Sheets.length=b.Globals.Sheets.length then(if shsE b=0 then hzQ b else shsE b)else 1)else g):=by
 have hl:=h.sheets;have cl:∀s∈b.Sheets,s.Cells.length<=120:=fun s hs=>(h.sheet s hs).cells
 have cl':∀s∈b.Sheets,s.Cells.length<=1000:=fun s hs=>by have:=cl s hs;omega
 have tlen:=izu (f:=txS) (K:=120) b.Sheets fun s hs=>by have:=rzg s;have:=cl s hs;omega
 have tsm:∀x∈b.Sheets.flatMap txS,x.length<=4000000:=by
  intro x hx;obtain⟨s,hs,hx⟩:=List.mem_flatMap.1 hx;unfold txS at hx;obtain⟨c,hc,hx⟩:=List.mem_flatMap.1 hx;have:=((h.sheet s hs).cellE c hc).2;cases hd:!c.Has&&decide (c.V.Kind=2)
  .rw[hd]at hx;cases hx
  .rw[hd]at hx;simp at hx;rw[hx];omega
 obtain⟨t2,a2,e2,d1,d2,d3⟩:=Iz2 (x:=b.Sheets.flatMap txS) (by omega) tsm;have nn:=nC_le cl b.Sheets.length (Nat.le_refl _);have gt:=h.glob.texts;have tailD:(obnd (izo (b,0,0)) fun y=>brn (decide (4096<y)) (some 4) (obnd (izp (b,0)) fun y=>osum y (fun y=>obnd (fz3 b.Sheets) fun y=>obnd (kzK y) fun y=>brn (!decide (y.2.2=0)) (some 3) (obnd (gzY (y.1.Texts,b.Globals.Texts.Texts)) fun y_1=>brn (!y_1) (some 3) (brn (!decide (y.1.Uses=b.Globals.Texts.Uses)) (some 3) (some 0)))) fun y=>some y))=some (hzQ b):=by
  rw[nCD (by omega) cl,aza,dF0 (by omega),azc,xfD_l3 (by omega) cl',aza,Cz4 (by omega) cl'];unfold hzQ;by_cases c:xfE b=0
  .rw[if_pos c,c,er0];simp only[osum,aza];rw[d1];simp only[aza];rw[Hzh (by omega)];by_cases k:e2=0
   .have ok:=d2.1 k;have ht:=d3 k;rw[dT0 k,show(!true)=false from rfl,azc,aza];by_cases q:b.Globals.Texts=⟨dd (b.Sheets.flatMap txS),((b.Sheets.flatMap txS).length:Int)⟩
    .rw[@dT0 _ (Classical.propDecidable _) (show okBd (b.Sheets.flatMap txS)/\b.Globals.Texts=_ from⟨ok,q⟩),ht,q,jzr,dT0 rfl];rfl
    .rw[@dF0 _ (Classical.propDecidable _) (fun k=>q k.2),ht];simp only[cond_false];by_cases u:(((b.Sheets.flatMap txS).length:Nat):Int)=b.Globals.Texts.Uses
     .have n:eqX (dd (b.Sheets.flatMap txS)) b.Globals.Texts.Texts=false:=jzq fun e=>q (Bzg.2 ⟨e.symm,u.symm⟩)
      rw[n];rfl
     .rw[dF0 u];cases eqX (dd (b.Sheets.flatMap txS)) b.Globals.Texts.Texts<;>rfl
   .rw[dF0 k,@dF0 _ (Classical.propDecidable _) (fun q=>k (d2.2 q.1))];rfl
  .rw[if_neg c,er,if_neg c];rfl
 rw[book_eq h hs];unfold nzk;obtain⟨g,g1,g2⟩:=FzG h.glob hs.1 hs.2.1 hs.2.2;refine⟨g,g1,fun c=>(g2 c).1,?_⟩;rw[g1];simp only[aza];by_cases c0:g=0
 .rw[if_pos c0,dT0 c0,show(!true)=false from rfl,azc];by_cases c1:b.Sheets.length=b.Globals.Sheets.length
  .rw[if_pos c1,dT0 (by omega),show(!true)=false from rfl,azc,shsD_is (by omega) h.sheet,aza];by_cases c2:shsE b=0
   .rw[if_pos c2,c2,er0];simp only[osum];exact tailD
   .rw[if_neg c2,er,if_neg c2];rfl
  .rw[if_neg c1,dF0 (by omega)];rfl
 .rw[if_neg c0,dF0 c0];rfl
theorem gins_l2 {l:List Group}{i:Nat}(hl:l.length<=1000)(hi:i+1<l.length)(h:dzi l[i+1].A l[i].A=false):
 czv (l,0,(),((i+1:Nat):Int))=some l:=by
 show iter _ big _=_
 rw[bzH,azw];unfold czu;simp only[azj,bz4];obtain⟨v,v1,v2⟩:=Lzo l[i+1] l[i];rw[dT0 (by omega),azd,inbG hi,aza,nthG hi,aza,ozd (by omega) (by omega),show i+1-1=i by omega,inbG (by omega:i<l.length),aza,nthG (by omega:i<l.length),aza,v1,aza,v2,h];rfl
theorem gord_at {l:List Group}(h:ordP l=true){i:Nat}(hi:i+1<l.length):dzi l[i+1].A l[i].A=false:=by
 unfold ordP at h;have:=List.all_eq_true.1 h i (List.mem_range.2 (by omega));rw[List.getElem?_eq_getElem hi,List.getElem?_eq_getElem (by omega:i<l.length)]at this;simpa using this
theorem gins_is {l:List Group}(hl:l.length<=1000)(h:ordP l=true):azF (l,0,(l.length:Int),())=some l:=by
 have this:bzN (l,0,(l.length:Int),(),1)=some l:=by
  by_cases c:l.length<=1
  .show iter _ big _=_
   rw[bzH,azw];unfold azC;simp only;rw[dF0 (by omega)];rfl
  .refine HzW (F:=azC) (fun i=>(l,0,(l.length:Int),(),((i+1:Nat):Int))) (l.length-1) l (by omega) ?_ ?_
   .intro back i hi;unfold azC;simp only;rw[dT0 (by omega),azd,gins_l2 hl (by omega) (gord_at h (by omega)),aza,wr1 (by omega)]
   .intro back;unfold azC;simp only;rw[dF0 (by omega)];rfl
 unfold azF;simp only;rw[show i64.wrap (0+1)=1 from rfl,this];rfl
theorem gsort_is {l:List Group}(hl:l.length<=20)(h:ordP l=true):bzC (l,())=some l:=by
 unfold bzC dzr;simp only;have e2:dzd (l,(l.length:Int),(),20)=some l:=by
  show iter _ big _=_
  rw[bzH,azw];unfold dzc;simp only;rw[dF0 (by omega)];rfl
 by_cases c:l.length=20
 .have e1:czb (l,(l.length:Int),(),20,0,20)=some (20,l):=by
   show iter _ big _=_
   obtain⟨N,hN⟩:∃N,big=N+1+1:=⟨9223372036854775806,by rw[bzH]⟩;have inner:∀y,iter azL (N+1) (y,(l.length:Int),(),20,20,i64.wrap (20+20))=some (20,y):=fun y=>by
    rw[azw];unfold azL;simp only;rw[show i64.wrap (20+20)=40 from rfl,dF0 (by omega)];rfl
   rw[hN,azw];generalize iter azL (N+1)=S at inner;unfold azL;simp only;have g:=gins_is (l:=l) (by omega) h;rw[show(l.length:Int)=20 by omega]at g inner ⊢;rw[dT0 (by omega),azd,g,aza,inner]
  have e3:azF (l,20,(l.length:Int),())=some l:=by
   unfold azF;simp only;have:bzN (l,20,(l.length:Int),(),21)=some l:=by
    show iter _ big _=_
    rw[bzH,azw];unfold azC;simp only;rw[dF0 (by omega)];rfl
   rw[show i64.wrap (20+1)=21 from rfl,this];rfl
  rw[e1,aza,e3,aza,e2];rfl
 .have e1:czb (l,(l.length:Int),(),20,0,20)=some (0,l):=by
   show iter _ big _=_
   rw[bzH,azw];unfold azL;simp only;rw[dF0 (by omega)];rfl
  rw[e1,aza,gins_is (by omega) h,aza,e2];rfl
theorem find_has {l:List Cell2}{p:Cell}{c:Cell2}(h:l.find? (atC p)=some c)(hh:c.Has=true):∃j,∃hj:j<l.length,l.findIdx? (fun x=>atC p x&&x.Has)=some j/\l[j]=c:=by
 induction l with
 | nil=>cases h
 | cons a l ih =>
  rw[List.find?_cons]at h;cases ha:atC p a with
  | true =>
   rw[ha]at h;injection h with h;subst h;exact⟨0,by simp,by simp[List.findIdx?_cons,ha,hh],rfl⟩
  | false =>
   rw[ha]at h;obtain⟨j,hj,e1,e2⟩:=ih h;exact⟨j+1,by simp;omega,by simp[List.findIdx?_cons,ha,e1],by simpa using e2⟩
theorem at_is {l:List Cell2}{e:Expr}{p:Cell}(hl:l.length<=1000)(h:hasC l e p=true):xzg (l,p)=some (e,true):=by
 unfold hasC at h;cases hf:l.find? (atC p)with
 | none=>rw[hf]at h;cases h
 | some c =>
  rw[hf]at h;simp only[Bool.and_eq_true]at h;obtain⟨h1,h2⟩:=h;obtain⟨j,hj,e1,e2⟩:=find_has hf h1;have this:=kzb (F:=bzo) (fun i=>(p,l,(),(l.length:Int),(i:Int))) loc l (fun x=>atC p x&&x.Has) (by omega)
   (by
    intro back i hi;unfold bzo xzh;simp only[azj,cond_false];rw[ltT hi,azd,idxG hi,aza,wr1 (by omega)]
    show obnd (brn (atC p l[i]) (some l[i].Has) (some false)) _=_
    cases atC p l[i]<;>cases l[i].Has<;>rfl)
   (by
    intro back;unfold bzo;simp only;rw[ltF];rfl)
  unfold xzg cz4;simp only[azj];rw[show czL (p,l,(),(l.length:Int),0)=_ from this,e1,aza];simp only[loc,osum,aza];rw[dF0 (by omega),azc,idxG hj,aza,e2,dzT.1 h2]
def kp (c:Cell2):Bool:=c.Has||(!decide (c.V.Kind=0)||!decide (c.XF=0))
def tyS (s:Sheet):Sheet:=⟨s.Rows,s.Cells.filter kp,s.Groups⟩
theorem BzA {B:Type}{f:Cell2->List B}(h:∀c,kp c=false->f c=[]):∀l:List Cell2,(l.filter kp).flatMap f=l.flatMap f
 | []=>rfl
 | a::l=>by
  rw[List.filter_cons];cases k:kp a with
  | true=>simp only[if_true,List.flatMap_cons];rw[BzA h l]
  | false=>simp only[Bool.false_eq_true,if_false,List.flatMap_cons];rw[BzA h l,h a k];rfl
theorem kp_has {c:Cell2}(h:kp c=false):c.Has=false/\c.V.Kind=0:=by
 unfold kp at h;cases hc:c.Has<;>cases hk:decide (c.V.Kind=0)<;>rw[hc,hk]at h<;>simp at h;exact⟨rfl,of_decide_eq_true hk⟩
theorem mem_kp (cs:List Cell2)(a:List Group):mem (cs.filter kp) a=mem cs a:=BzA (fun c h=>by rw[(kp_has h).1];rfl) cs
theorem txS_kp (s:Sheet):txS (tyS s)=txS s:=BzA (fun c h=>by rw[(kp_has h).2];cases c.Has<;>rfl) s.Cells
theorem hasC_kp {e:Expr}{p:Cell}:∀{cs:List Cell2},hasC cs e p=true->hasC (cs.filter kp) e p=true
 | [],h=>h
 | a::l,h=>by
  unfold hasC at h ⊢;rw[List.filter_cons];rw[List.find?_cons]at h;cases ha:atC p a with
  | true =>
   rw[ha]at h;simp only[Bool.and_eq_true]at h;have k:kp a=true:=by unfold kp;rw[h.1];rfl
   rw[k,if_pos rfl,List.find?_cons,ha];simp only;rw[h.1,h.2];rfl
  | false =>
   rw[ha]at h;have ih:=hasC_kp (e:=e) (p:=p) (cs:=l) h;unfold hasC at ih;cases k:kp a with
   | true=>rw[if_pos rfl,List.find?_cons,ha];exact ih
   | false=>simp only[Bool.false_eq_true,if_false];exact ih
theorem ok_kp {cs:List Cell2}(h:okCs cs):okCs (cs.filter kp):=by
 refine⟨fun x hx=>h.1 x (List.mem_filter.1 hx).1,fun i hi h0=>?_⟩;have:=(pzC h).filter kp;exact List.pairwise_iff_getElem.1 this (i-1) i (by omega) hi (by omega)
theorem few_ty {s:Sheet}(h:fewS s):fewS (tyS s):=⟨h.rows,Nat.le_trans (List.length_filter_le _ _) h.cells,h.groups,fun x hx=>h.cellE x (List.mem_filter.1 hx).1,h.groupE⟩
theorem KzV {s:Sheet}(h:grD s=true):(∀g∈s.Groups.filter (·.Array),cgD g=0/\fitA s.Cells g=true)/\ordP (s.Groups.filter (·.Array))=true/\apart (s.Groups.filter (·.Array))=true/\s.Groups.filter (·.Array)++plD (mem s.Cells (s.Groups.filter (·.Array)))=s.Groups:=by
 unfold grD at h;by_cases c:csD (s.Groups.filter (·.Array))=0
 .rw[dT0 c,cond_true]at h;obtain⟨c1,c2⟩:=cs0 c;cases k:(List.range (s.Groups.filter (·.Array)).length).all (gOk s.Cells (s.Groups.filter (·.Array)))with
  | false=>rw[k]at h;cases h
  | true =>
   rw[k,cond_true]at h;rw[<-Azo c1 c2,Bool.and_eq_true,Bool.not_eq_true',List.any_eq_false]at k;exact⟨fun g hg=>⟨c1 g hg,by simpa using k.2 g hg⟩,k.1,c2,dzT.1 h⟩
 .rw[dF0 c]at h;cases h
theorem gr_ty {s:Sheet}(h:grD s=true):grD (tyS s)=true:=by
 obtain⟨g1,g2,g3,g4⟩:=KzV h;unfold grD
 show(bif decide (csD (s.Groups.filter (·.Array))=0)then(bif (List.range (s.Groups.filter (·.Array)).length).all (gOk (s.Cells.filter kp) (s.Groups.filter (·.Array)))then eqX (s.Groups.filter (·.Array)++plD (mem (s.Cells.filter kp) (s.Groups.filter (·.Array)))) s.Groups else false)else false)=true
 have z:csD (s.Groups.filter (·.Array))=0:=by
  unfold csD;rw[if_pos (izj.2 fun g hg=>(g1 g hg).1),g3];rfl
 rw[mem_kp,g4,jzr,<-Azo (fun g hg=>(g1 g hg).1) g3,g2,dT0 z,show(s.Groups.filter (·.Array)).any (fun g=>!fitA (s.Cells.filter kp) g)=false from List.any_eq_false.2 fun g hg=>by
  have f:=(g1 g hg).2;have:fitA (s.Cells.filter kp) g=true:=List.all_eq_true.2 fun x hx=>hasC_kp (List.all_eq_true.1 f x hx)
  rw[this];simp]
 rfl
theorem first_at {g:Group}{cs:List Cell2}(h:ltC g=true)(f:fitA cs g=true):hasC cs g.E g.A=true:=by
 obtain⟨a1,a2,a3,a4,-,-⟩:=tzl h;have hm:(⟨⟨g.A.Row+((0:Nat):Int),g.A.Col+((0:Nat):Int)⟩,g.E⟩:Member)∈exD g:=by
  unfold exD;refine List.mem_flatMap.2 ⟨0,List.mem_range.2 (by omega),List.mem_map.2 ⟨0,List.mem_range.2 (by omega),rfl⟩⟩
 have:=List.all_eq_true.1 f _ hm;simp only at this;rw[show(⟨g.A.Row+((0:Nat):Int),g.A.Col+((0:Nat):Int)⟩:Cell)=g.A by cases h:g.A;simp]at this;exact this
theorem tidied_is {s:Sheet}(h:fewS s)(hc:okCs s.Cells)(hg:grD s=true):pzv s=some (tyS s):=by
 obtain⟨g1,g2,g3,g4⟩:=KzV hg;have h1:=h.rows;have h2:=h.cells;have h3:=h.groups;have al:(s.Groups.filter (·.Array)).length<=20:=Nat.le_trans (List.length_filter_le _ _) h3;have e1:pzx ([],Sheet.mk s.Rows [] [],s.Cells,(s.Cells.length:Int),0)=some (s.Cells.filter kp,Sheet.mk s.Rows (s.Cells.filter kp) []):=by
  have:=ezz (F:=jz7) (fun l i=>(l,Sheet.mk s.Rows l [],s.Cells,(s.Cells.length:Int),(i:Int))) (fun l=>(l,Sheet.mk s.Rows l [])) s.Cells (fun c=>bif kp c then [c]else []) 1 [] (by omega) (fun a _=>by cases kp a<;>simp)
   (by
    intro back l i hi hl;unfold jz7;simp only[azj,iz5,List.length_nil]at hl ⊢;have ap:app 240 l [s.Cells[i]]=some (l++[s.Cells[i]]):=appN (by simp;omega);rw[ltT hi,azd,idxG hi,aza,wr1 (by omega),ap];simp only[aza];unfold kp;cases s.Cells[i].Has
    .cases decide (s.Cells[i].V.Kind=0)
     .rfl
     .cases decide (s.Cells[i].XF=0)
      .rfl
      .simp
    .rfl)
   (by
    intro back l hl;unfold jz7;simp only;rw[ltF];rfl)
  rw[mzD]at this;exact this
 have e2:pzy (s,[],s.Groups,(s.Groups.length:Int),0)=some (s.Groups.filter (·.Array)):=by
  have:=ezz (F:=jz8) (fun l i=>(s,l,s.Groups,(s.Groups.length:Int),(i:Int))) (fun l=>l) s.Groups (fun c=>bif c.Array then [c]else []) 1 [] (by omega) (fun a _=>by cases a.Array<;>simp)
   (by
    intro back l i hi hl;unfold jz8;simp only[azj,bz4,List.length_nil]at hl ⊢;rw[ltT hi,azd,idxG hi,aza,wr1 (by omega)];cases ha:s.Groups[i].Array with
    | false=>rw[azc];simp
    | true =>
     obtain⟨k1,k2⟩:=g1 _ (List.mem_filter.2 ⟨List.getElem_mem hi,ha⟩);rw[azd,at_is (by omega) (first_at (cg0 k1).1 k2),aza,azd];have ap:app 192 l [Group.mk true s.Groups[i].A s.Groups[i].B s.Groups[i].E]=some (l++[s.Groups[i]]):=by
      rw[<-ha,bz4];exact appN (by simp;omega)
     simp only;rw[ap];rfl)
   (by
    intro back l hl;unfold jz8;simp only;rw[ltF];rfl)
  rw[mzD]at this;exact this
 have pl:(plD (mem s.Cells (s.Groups.filter (·.Array)))).length<=20:=by
  have:=congrArg List.length g4;rw[List.length_append]at this;omega
 unfold pzv fzg;rw[kzJ (by omega),aza,e1,aza,e2,aza,gsort_is al g2,aza];unfold pzw;simp only;rw[Dzm (cs:=s.Cells.filter kp) (a:=s.Groups.filter fun x=>x.Array) (Nat.le_trans (List.length_filter_le _ _) (by omega)) (by omega) (fun g hg=>(List.mem_filter.1 hg).2) (ok_kp hc) (fun c hm=>(h.cellE c (List.mem_filter.1 hm).1).1),aza,mem_kp,appN (xs:=s.Groups.filter fun x=>x.Array) (ys:=plD (mem s.Cells (s.Groups.filter fun x=>x.Array))) (by omega),aza,aza,g4];rfl
theorem cells_all {l:List Cell2}(hl:l.length<=1000)(hc:∀x∈l,fewE x.E/\x.V.S.length<=3000)(h0:bz0 l=some 0):∀x∈l,bzZ x=some 0:=by
 intro x hx;obtain⟨i,hi,rfl⟩:=List.mem_iff_getElem.1 hx;unfold bz0 at h0;obtain⟨z,e1,e2⟩:=cz7 (F:=az0) (fun i=>(l,(i:Int))) l.length (fun i=>∀h:i<l.length,bzZ l[i]=some 0) (fun z=>∃e,z = .inr e/\e≠0) (.inl ()) (by omega)
  (by
   intro back i hi;obtain⟨c1,c2⟩:=hc _ (List.getElem_mem hi);unfold az0;simp only[azj,iz5];rw[ltT hi,azd,idxG hi,aza,mz8 c1 c2,aza,wr1 (by omega)];by_cases a:uzz l[i]=0
   .rw[dT0 a,show(!true)=false from rfl,azc];by_cases b:i=0
    .rw[dF0 (by omega),azc];exact .inl ⟨rfl,fun _=>by rw[mz8 c1 c2,a]⟩
    .rw[dT0 (by omega),azd,uzk (by omega) (by omega),idxG (by omega:i-1<l.length),aza,aza,qzC,aza];cases dzi l[i-1].At l[i].At
     .exact .inr ⟨_,rfl,_,rfl,by decide⟩
     .exact .inl ⟨rfl,fun _=>by rw[mz8 c1 c2,a]⟩
   .rw[dF0 a];exact .inr ⟨_,rfl,_,rfl,a⟩)
  (by
   intro back;unfold az0;simp only;rw[ltF];rfl)
 rw[dF0 (by omega),azc,show dzY (l,0)=_ from e1,aza]at h0;rcases e2 with⟨e,rfl,he⟩|⟨rfl,e2⟩
 .exact absurd (Option.some.inj h0) he
 .exact e2 i hi hi
theorem cells_mk {l:List Cell2}(hl:l.length<=1000)(h:∀x∈l,bzZ x=some 0)(ho:okCs l):bz0 l=some 0:=by
 have this:=HzW (F:=az0) (fun i=>(l,(i:Int))) l.length (.inl ()) (by omega)
  (by
   intro back i hi;unfold az0;simp only[azj,iz5];rw[ltT hi,azd,idxG hi,aza,h _ (List.getElem_mem hi),aza,wr1 (by omega),dT0 rfl,show(!true)=false from rfl,azc];by_cases b:i=0
   .rw[dF0 (by omega),azc]
   .rw[dT0 (by omega),azd,uzk (by omega) (by omega),idxG (by omega:i-1<l.length),aza,aza,qzC,ho.2 i hi (by omega)];rfl)
  (by
   intro back;unfold az0;simp only;rw[ltF];rfl)
 unfold bz0;rw[dF0 (by omega),azc,show dzY (l,0)=_ from this];rfl
theorem sheet0 {s:Sheet}(h:fewS s)(h0:azK s=some 0):azK (tyS s)=some 0/\okCs s.Cells/\grD s=true:=by
 have l1:=h.cells;have l2:=h.rows;obtain⟨r,e1,e2⟩:=LzV h;rw[h0]at e1;obtain⟨o1,o2⟩:=e2 (Option.some.inj e1).symm;refine⟨?_,o1,o2⟩;have cz:bz0 s.Cells=some 0/\fz (rwD s.Rows) (List.range s.Rows.length)=0:=by
  unfold azK at h0;obtain⟨r,e1,e2⟩:=xzj (l:=s.Cells) (by omega) h.cellE;rw[dF0 (by omega),azc,wzN (by omega),aza,e1]at h0;unfold er at h0;by_cases c:fz (rwD s.Rows) (List.range s.Rows.length)=0
  .rw[if_pos c]at h0;simp only[osum,aza]at h0;by_cases c0:r=0
   .rw[e1,c0];exact⟨rfl,c⟩
   .rw[dF0 c0]at h0;exact absurd (Option.some.inj h0) c0
  .rw[if_neg c]at h0;exact absurd (Option.some.inj h0) c
 have l3:(s.Cells.filter kp).length<=120:=Nat.le_trans (List.length_filter_le _ _) l1;have cc:bz0 (tyS s).Cells=some 0:=cells_mk (l:=s.Cells.filter kp) (by omega) (fun x hx=>cells_all (by omega) h.cellE cz.1 x (List.mem_filter.1 hx).1) (ok_kp o1);have rr:=wzN (s:=tyS s) (show s.Rows.length<=1000 by omega);unfold azK;rw[dF0 (show ¬(4096:Int)<((tyS s).Rows.length:Int) from show ¬(4096:Int)<(s.Rows.length:Int) by omega),azc,rr,show fz (rwD (tyS s).Rows) (List.range (tyS s).Rows.length)=0 from cz.2,aza,er0];simp only[osum];rw[cc,aza,zzU (few_ty h),gr_ty o2];rfl
theorem tidy_is {y:Book}{t:Table}(hl:y.Sheets.length<=12)(hy:∀s∈y.Sheets,fewS s/\okCs s.Cells/\grD s=true)(ht:ez9 (y.Sheets.map tyS)=some (t,0))
 (hc:dzK ⟨⟨y.Globals.Sheets,y.Globals.Formats,y.Globals.XFs,y.Globals.Names,t,y.Globals.Chain⟩,y.Sheets.map tyS⟩=some 0) :
 hzj y=some (⟨⟨y.Globals.Sheets,y.Globals.Formats,y.Globals.XFs,y.Globals.Names,t,y.Globals.Chain⟩,y.Sheets.map tyS⟩,0):=by
 have e1:rz0 ([],Book.mk y.Globals [],y.Sheets,(y.Sheets.length:Int),0)=some (y.Sheets.map tyS,Book.mk y.Globals (y.Sheets.map tyS)):=by
  have:=ezz (F:=mze) (fun l i=>(l,Book.mk y.Globals l,y.Sheets,(y.Sheets.length:Int),(i:Int))) (fun l=>(l,Book.mk y.Globals l)) y.Sheets (fun s=>[tyS s]) 1 [] (by omega) (fun a _=>by simp)
   (by
    intro back l i hi hl;obtain⟨h1,h2,h3⟩:=hy _ (List.getElem_mem hi);unfold mze;simp only[List.length_nil]at hl ⊢;rw[ltT hi,azd,idxG hi,aza,tidied_is h1 h2 h3,aza,appN (by simp;omega),aza,wr1 (by omega)])
   (by
    intro back l hl;unfold mze;simp only;rw[ltF];rfl)
  rw[Dz2]at this;exact this
 unfold hzj;rw[e1,aza,ht,aza,dT0 rfl,show(!true)=false from rfl,azc,hc,aza,dT0 rfl];rfl
theorem rune_w (l:List UInt8)(h:65536<=(decodeL l).1):(decodeL l).2=4/\3<l.length:=by
 rw[decodeL_N]at h ⊢;have k0:=(l.getD 0 0).toNat_lt;rcases decodeN_shape l.length (l.getD 0 0).toNat (l.getD 1 0).toNat (l.getD 2 0).toNat (l.getD 3 0).toNat with⟨c,e⟩|⟨c1,c2,c3,cv,e⟩|⟨c1,c2,c3,c4,cv,cs,e⟩|⟨c1,c2,c3,c4,c5,cv,cw,e⟩|e
 all_goals (rw[e]at h ⊢;dsimp only at h ⊢)
 all_goals omega
theorem Hzl:∀(n:Nat) (l:List UInt8),l.length<=n->ulen (rs l)<=l.length
 | _,[],_=>by simp[GzY,ulen]
 | 0,_::_,h=>by simp at h
 | n+1,a::l,h=>by
  rw[tzh (by simp)];have hw:=decodeL_width (a::l);have ih:=Hzl n ((a::l).drop (decodeL (a::l)).2) (by rw[List.length_drop];simp at h ⊢;omega);rw[List.length_drop]at ih;have hp:1<=(a::l).length:=by simp
  simp only[ulen];split
  .omega
  .rename_i hr;obtain⟨w1,w2⟩:=rune_w (a::l) (by omega);omega
def asc:Int->List Int->Int->Prop
 | a,[],z=>a=z
 | a,c::l,z=>a<c/\c-a<=224/\asc c l z
theorem vzU:∀{l:List Int} {a z:Int},asc a l z->a<=z
 | [],_,_,h=>by cases h;omega
 | _::_,_,_,⟨h1,_,h3⟩=>by have:=vzU h3;omega
theorem DzM:∀{l:List Int} {a z c:Int},asc a l z->z<c->c-z<=224->asc a (l++[c]) c
 | [],_,_,_,h,h1,h2=>by cases h;exact⟨h1,h2,rfl⟩
 | _::_,_,_,_,⟨h1,h2,h3⟩,k1,k2=>⟨h1,h2,DzM h3 k1 k2⟩
theorem asc_c1 {L:Int}:∀{l:List Int} {a z:Int},asc a l z->(l=[]\/z<L)->fzR (c1 L) (fun _=>.inl ()) a l=(.inl ():Unit⊕Int)
 | [],_,_,_,_=>rfl
 | c::l,a,z,⟨h1,h2,h3⟩,hz=>by
  have hz:z<L:=by rcases hz with h|h;cases h;exact h
  have:=vzU h3;unfold fzR c1;rw[if_neg (by omega),if_neg (by omega)];exact asc_c1 h3 (.inr hz)
theorem asc_c2:∀{l:List Int} {a z:Int},asc a l z->0<=a->z<=1000000->fzR c2 some a l=some z
 | [],_,_,h,_,_=>by cases h;rfl
 | c::l,a,z,⟨h1,h2,h3⟩,h0,hz=>by
  have:=vzU h3;unfold fzR c2;rw[azG (by omega) (by omega),if_neg (by omega)];exact asc_c2 h3 (by omega) hz
structure gdL (k:Nat) (s:Ly):Prop where
 b:s.1.length<=k
 c:asc 0 s.2.1 s.2.2
 l:s.2.1=[]\/s.2.2<(s.1.length:Int)
 p:(s.1.length:Int)-s.2.2<=224
theorem gd_ly1 {n:Bool}{s:Ly}{u:Int}{k:Nat}(h:gdL k s):gdL (k+3) (ly1 n s u):=by
 obtain⟨h1,h2,h3,h4⟩:=h;have ht:=tub_len n u;have hn:wN n=1\/wN n=2:=by cases n<;>simp[wN]
 have h0:=vzU h2;unfold ly1;by_cases c:224<(s.1.length:Int)-s.2.2+wN n
 .rw[dT0 c,cond_true];exact⟨by simp;omega,DzM h2 (by omega) (by omega),.inr (by simp;omega),by simp;omega⟩
 .rw[dF0 c,cond_false];exact⟨by simp;omega,h2,by rcases h3 with h3|h3;exact .inl h3;exact .inr (by simp;omega),by simp;omega⟩
theorem gd_ly {n:Bool}:∀(us:List Int) {s:Ly} {k:Nat},gdL k s->gdL (k+3*us.length) (us.foldl (ly1 n) s)
 | [],_,_,h=>h
 | u::us,s,k,h=>by
  have:=gd_ly (n:=n) us (gd_ly1 (n:=n) (u:=u) h);rw[List.foldl_cons,List.length_cons,show k+3*(us.length+1)=k+3+3*us.length by omega];exact this
theorem gd_lyT {s:Ly}{k:Nat}{x:List UInt8}(h:gdL k s):gdL (k+(4+3*x.length)) (lyT s x):=by
 obtain⟨h1,h2,h3,h4⟩:=h;have h0:=vzU h2;have hu:(us (rs x)).length<=x.length:=by rw[ozE];exact Hzl _ x (Nat.le_refl _)
 unfold lyT;have f:gdL (k+3) ((ly0 s).1++(lw 2 ((us (rs x)).length:Int)++[fl (nar x)]),(ly0 s).2):=by
  have e:(lw 2 ((us (rs x)).length:Int)++[fl (nar x)]).length=3:=by simp[czk]
  generalize lw 2 ((us (rs x)).length:Int)++[fl (nar x)]=z at e;unfold ly0;by_cases c:224<(s.1.length:Int)-s.2.2+3
  .rw[dT0 c,cond_true];exact⟨by simp;omega,DzM h2 (by omega) (by omega),.inr (by simp;omega),by simp;omega⟩
  .rw[dF0 c,cond_false];exact⟨by simp;omega,h2,by rcases h3 with h3|h3;exact .inl h3;exact .inr (by simp;omega),by simp;omega⟩
 have g:=gd_ly (n:=nar x) (us (rs x)) f;exact⟨Nat.le_trans g.b (by omega),g.c,g.l,g.p⟩
theorem gd_all:∀(l:List (List UInt8)) {s:Ly×List Int} {k:Nat},gdL k s.1->gdL (k+(4*l.length+3*totB l)) (l.foldl lyA s).1
 | [],_,_,h=>⟨Nat.le_trans h.b (by omega),h.c,h.l,h.p⟩
 | x::l,s,k,h=>by
  have:=gd_all l (s:=lyA s x) (gd_lyT (x:=x) h);rw[List.foldl_cons];have e:totB (x::l)=x.length+totB l:=by simp[totB]
  exact⟨Nat.le_trans this.b (by rw[e,List.length_cons];omega),this.c,this.l,this.p⟩
theorem enc_ok {t:Table}(h:tbD t=0)(hl:t.Texts.length<=100)(hb:totB t.Texts<=21000):encE t=0:=by
 unfold encE;rw[if_pos h];have g:=gd_all t.Texts (s:=(([]++lw 4 (u64.wrap t.Uses)++lw 4 (u64.wrap (t.Texts.length:Int)),[],0),[])) (k:=8) ⟨by simp[czk],rfl,.inl rfl,by simp[czk]⟩;have e:(t.Texts.foldl lyA (([]++lw 4 (u64.wrap t.Uses)++lw 4 (u64.wrap (t.Texts.length:Int)),[],0),[]))=lyO t:=rfl;rw[e]at g;obtain⟨g1,g2,g3,g4⟩:=g;have ok:=lyO_ok (t:=t) (by omega) (Hzj h).1;have hc:=ok.1.c;generalize (lyO t).1=s at *;obtain⟨b,c,p⟩:=s;simp only at *;have gp:=vzU g2;have gq:p<=(b.length:Int):=by rcases g3 with g3|g3;subst g3;cases g2;omega;omega
 unfold recE ezR;rw[recD_l1 (x:=⟨252,b,c,0⟩) (by show c.length<=_;omega),recD_l2 (x:=⟨252,b,c,0⟩) (by show c.length<=_;omega)];simp only;rw[asc_c1 g2 g3,asc_c2 g2 (by omega) (by omega),dF0 (by omega),dF0 (by omega),dF0 (by omega)];simp only[azc,aza,osum];rw[dF0 (by omega)];simp only[azc,aza,osum];rw[azG (by omega) (by omega),dF0 (by omega)];rfl
theorem fewTot {g:Globals}(h1:fitL g.Sheets)(h2:fitL g.Formats)(h3:fitL g.Texts.Texts)(hF:lzV g=some true):totB g.Texts.Texts<20000:=by
 unfold lzV at hF;by_cases c1:20<(g.Sheets.length:Int)
 .rw[dT0 c1]at hF;cases hF
 by_cases c2:100<(g.Formats.length:Int)
 .rw[dF0 c1,dT0 c2]at hF;cases hF
 by_cases c3:400<(g.XFs.length:Int)
 .rw[dF0 c1,dF0 c2,dT0 c3]at hF;cases hF
 by_cases c4:30<(g.Names.length:Int)
 .rw[dF0 c1,dF0 c2,dF0 c3,dT0 c4]at hF;cases hF
 by_cases c5:60<(g.Texts.Texts.length:Int)
 .rw[dF0 c1,dF0 c2,dF0 c3,dF0 c4,dT0 c5]at hF;cases hF
 by_cases c6:200<(g.Chain.length:Int)
 .rw[dF0 c1,dF0 c2,dF0 c3,dF0 c4,dF0 c5,dT0 c6]at hF;cases hF
 rw[dF0 c1,dF0 c2,dF0 c3,dF0 c4,dF0 c5,dF0 c6]at hF;simp only[azc]at hF;have b1:=rzf h1;have b2:=rzf h2;have b3:=rzf h3;have e1:=rze (F:=gzn) (g:=g) (n:=0) (l:=g.Sheets) (by omega) h1 (by omega)
  (fun back m i hi=>by unfold gzn;simp only;rw[ltT hi,azd,idxG hi,aza]) (fun back m=>by unfold gzn;simp only;rw[ltF];rfl)
 have e2:=rze (F:=gzo) (g:=g) (n:=0+totB g.Sheets) (l:=g.Formats) (by omega) h2 (by omega)
  (fun back m i hi=>by unfold gzo;simp only;rw[ltT hi,azd,idxG hi,aza]) (fun back m=>by unfold gzo;simp only;rw[ltF];rfl)
 have e3:=rze (F:=gzp) (g:=g) (n:=0+totB g.Sheets+totB g.Formats) (l:=g.Texts.Texts) (by omega) h3 (by omega)
  (fun back m i hi=>by unfold gzp;simp only;rw[ltT hi,azd,idxG hi,aza]) (fun back m=>by unfold gzp;simp only;rw[ltF];rfl)
 have e1:ozL (g,0,0)=some ((0+totB g.Sheets:Nat):Int):=e1;rw[e1,aza,show ozM (g,((0+totB g.Sheets:Nat):Int),0)=_ from e2,aza,show ozN (g,((0+totB g.Sheets+totB g.Formats:Nat):Int),0)=_ from e3,aza]at hF;obtain⟨z,f1,f2⟩:=cz7 (F:=gzq) (fun i=>(g,(i:Int))) g.Names.length (fun i=>∃h:i<g.Names.length,fewE g.Names[i]) (fun z=>z = .inr false) (.inl ()) (by omega)
  (fun back i hi=>by
   obtain⟨b,hb,hb2⟩:=few100 (e:=g.Names[i]);unfold gzq;simp only[azj];rw[ltT hi,azd,idxG hi,aza,hb,aza,wr1 (by omega)];cases b with
   | false=>exact .inr ⟨_,rfl,rfl⟩
   | true=>exact .inl ⟨rfl,hi,hb2 rfl⟩)
  (fun back=>by unfold gzq;simp only;rw[ltF];rfl)
 rw[show ozO (g,0)=_ from f1,aza]at hF;rcases f2 with rfl|⟨rfl,f2⟩
 .cases hF
 .have:=of_decide_eq_true (Option.some.inj hF);omega
theorem globT {x:Globals}{t:Table}(h:fewG x)(s1:dzg x.Sheets)(s2:dzg x.Formats)(s3:dzg x.Texts.Texts)(h':t.Texts.length<=100)(st:dzg t.Texts)(h0:fza x=some 0)(ne:1<=t.Texts.length)(e0:encE t=0):
 fza ⟨x.Sheets,x.Formats,x.XFs,x.Names,t,x.Chain⟩=some 0:=by
 obtain⟨h1,h2,h3,h4,h5,h6,h7⟩:=h;obtain⟨r1,x1,e1⟩:=Bzu (t:=x.Texts) (by omega) s3;obtain⟨r2,x2,e2⟩:=Bzu (t:=t) (by omega) st;obtain⟨r3,e3⟩:=chP_is (l:=x.Chain) (by omega);have xf:=Hzo (x:=⟨x.Sheets,x.Formats,x.XFs,x.Names,t,x.Chain⟩) (by simp only;omega);unfold fza at h0 ⊢;simp only at h0 xf ⊢;rw[sz6 (by omega) s1,xzt (by omega) s2,Hzo (by omega),uzV (by omega) h7,e1,e3]at h0;rw[sz6 (by omega) s1,xzt (by omega) s2,xf,uzV (by omega) h7,e2,e3,e0];have hb:gzV ⟨x.Sheets,x.Formats,x.XFs,x.Names,t,x.Chain⟩=gzV x:=rfl;rw[hb];cases hq:gzV x with
 | none=>rw[hq]at h0;cases h0
 | some b =>
  rw[hq,aza]at h0;rw[aza];cases b
  .rw[azc]at h0 ⊢;simp only[aza]at h0 ⊢;by_cases c1:fz (shD x.Sheets) (List.range x.Sheets.length)=0
   .rw[dT0 c1,show(!true)=false from rfl,azc]at h0 ⊢;unfold er at h0 ⊢;by_cases c2:fz (fun s=>(azW s).2) x.Formats=0
    .rw[if_pos c2]at h0 ⊢;simp only[osum]at h0 ⊢;by_cases c3:fz (xfD x.Formats.length) x.XFs=0
     .rw[if_pos c3]at h0 ⊢;simp only[osum]at h0 ⊢;by_cases c4:fz nmD x.Names=0
      .rw[if_pos c4]at h0 ⊢;simp only[osum]at h0 ⊢;have ch:chE x.Chain=0:=by
        have key:∀z:Option Int,z=some 0->z=some 0:=fun _ h=>h
        by_cases c5:encE x.Texts=0
        .rw[dT0 c5]at h0;simp only[Bool.not_true,azc]at h0;by_cases c6:(x.Texts.Texts.length:Int)=0
         .rw[dT0 c6,azd]at h0;by_cases c7:x.Texts.Uses=0
          .rw[dT0 c7]at h0;exact Option.some.inj h0
          .rw[dF0 c7]at h0;cases h0
         .rw[dF0 c6,azc]at h0;exact Option.some.inj h0
        .rw[dF0 c5]at h0;simp only[Bool.not_false,azd]at h0;by_cases c6:(x.Texts.Texts.length:Int)=0
         .rw[dT0 c6,azd]at h0;by_cases c7:x.Texts.Uses=0
          .rw[dT0 c7]at h0;exact absurd (Option.some.inj h0) c5
          .rw[dF0 c7]at h0;cases h0
         .rw[dF0 c6,azc]at h0;exact absurd (Option.some.inj h0) c5
       rw[dF0 (show ¬(t.Texts.length:Int)=0 by omega),azc,ch];rfl
      .rw[if_neg c4]at h0;exact absurd (Option.some.inj h0) c4
     .rw[if_neg c3]at h0;exact absurd (Option.some.inj h0) c3
    .rw[if_neg c2]at h0;exact absurd (Option.some.inj h0) c2
   .rw[dF0 c1]at h0;exact absurd (Option.some.inj h0) c1
  .cases h0
end Go.Proofs.YtkafbjodbjkieaaGreatDoor
/- KC -/
namespace Go.Proofs.YtkafbjodbjkieaaGreatDoor
open Go Go.Ev
open Go.IntKind (i64 u64 u8 i32 u32 i16 u16)
set_option maxRecDepth 100000
noncomputable section
abbrev Eze:List (Nat×Fq):=[(6,zz9),(7,Fz2),(10,AzH),(8,Jzm),(21,xzf),(9,rzj),(22,Fz5),(11,xze),(1099511627809,mutS),(1099511627812,mutS)]
theorem gzx:azk Tryz.prog tb (Eze):=(.cons Czc (.cons Fz3 (.cons Czy (.cons Hz7 (.cons uzy (.cons ozZ (.cons Fz6 (.cons uzx (.consK hzV (.consK hzV .nil))))))))))
def gzy (back:List (List UInt8)×List (List UInt8)×List Int×List Expr×List (List UInt8)×Int×List Place×List (Sheet)×Unit×Int->Option ((List (List UInt8)×List (List UInt8)×List Int×List Expr×List (List UInt8)×Int×List Place×List Sheet)×Unit))(x:List (List UInt8)×List (List UInt8)×List Int×List Expr×List (List UInt8)×Int×List Place×List (Sheet)×Unit×Int):Option ((List (List UInt8)×List (List UInt8)×List Int×List Expr×List (List UInt8)×Int×List Place×List Sheet)×Unit):=brn (decide (x.2.2.2.2.2.2.2.2.2<((x.2.2.2.2.2.2.2.1).length:Int))) (obnd (inb (x.2.2.2.2.2.2.2.1).length x.2.2.2.2.2.2.2.2.2) fun k=>obnd (nth x.2.2.2.2.2.2.2.1 (0+k)) fun y=>obnd (app 240 [] y.Cells) fun zs=>obnd (inb (x.2.2.2.2.2.2.2.1).length x.2.2.2.2.2.2.2.2.2) fun k1=>obnd (nth x.2.2.2.2.2.2.2.1 (0+k1)) fun _=>back (x.1,x.2.1,x.2.2.1,x.2.2.2.1,x.2.2.2.2.1,x.2.2.2.2.2.1,x.2.2.2.2.2.2.1,(x.2.2.2.2.2.2.2.1).set (0+k1) (Sheet.mk y.Rows zs y.Groups),x.2.2.2.2.2.2.2.2.1,i64.wrap (x.2.2.2.2.2.2.2.2.2+1))) (some ((x.1,x.2.1,x.2.2.1,x.2.2.2.1,x.2.2.2.2.1,x.2.2.2.2.2.1,x.2.2.2.2.2.2.1,x.2.2.2.2.2.2.2.1),()))
def mzO:=iter gzy big
def yzW:Cq:=⟨196,[(4294967304,.val 22),(8589934600,.val 22),(12884901896,.val 23),(17179869192,.val 35),(21474836488,.val 22),(25769803784,.val 2),(30064771080,.val 37),(34359738376,.wr 101),(8,.box 8),(9,.val 3)],[(.exit 1,[(4294967304,.val 22),(8589934600,.val 22),(12884901896,.val 23),(17179869192,.val 35),(21474836488,.val 22),(25769803784,.val 2),(30064771080,.val 37),(34359738376,.val 40)])],rg 81 22 [9,10],mzO,none⟩
theorem vzp:A3 Tryz.f4 196 yzW:=A4 gzx .nil gzy
def mzM (x:List (List UInt8)×List (List UInt8)×List Int×List Expr×List (List UInt8)×Int×List Place×List Sheet×Unit):Option ((List (List UInt8)×List (List UInt8)×List Int×List Expr×List (List UInt8)×Int×List Place×List Sheet)×Unit):=some ((x.1,x.2.1,x.2.2.1,x.2.2.2.1,x.2.2.2.2.1,i64.wrap (x.2.2.2.2.2.1+1),x.2.2.2.2.2.2.1,x.2.2.2.2.2.2.2.1),())
def yzR:Cq:=⟨112,[(4294967304,.val 22),(8589934600,.val 22),(12884901896,.val 23),(17179869192,.val 35),(21474836488,.val 22),(25769803784,.val 2),(30064771080,.val 37),(34359738376,.wr 101),(8,.box 8)],[(.normal,[(4294967304,.val 22),(8589934600,.val 22),(12884901896,.val 23),(17179869192,.val 35),(21474836488,.val 22),(25769803784,.val 2),(30064771080,.val 37),(34359738376,.val 40)])],rg 42 8 [],mzM,none⟩
theorem vzm:A5 Tryz.f4 112 yzR:=A6 gzx .nil
def mzN (x:List (List UInt8)×List (List UInt8)×List Int×List Expr×List (List UInt8)×Int×List Place×List Sheet×Book×Unit):Option ((List (List UInt8)×List (List UInt8)×List Int×List Expr×List (List UInt8)×Int×List Place×List Sheet)×Unit):=obnd (app 16 [] x.2.2.2.2.2.2.2.2.1.Globals.Texts.Texts) fun zs=>obnd (app 16 zs [[110,111,119,104,101,114,101,32,101,108,115,101]]) fun zs1=>some ((x.1,x.2.1,x.2.2.1,x.2.2.2.1,zs1,x.2.2.2.2.2.1,x.2.2.2.2.2.2.1,x.2.2.2.2.2.2.2.1),())
def yzS:Cq:=⟨144,[(4294967304,.val 22),(8589934600,.val 22),(12884901896,.val 23),(17179869192,.val 35),(21474836488,.val 22),(25769803784,.val 2),(30064771080,.val 37),(34359738376,.wr 101),(5,.ro 42),(8,.box 8)],[(.normal,[(4294967304,.val 22),(8589934600,.val 22),(12884901896,.val 23),(17179869192,.val 35),(21474836488,.val 22),(25769803784,.val 2),(30064771080,.val 37),(34359738376,.val 40)])],rg 55 11 [],mzN,none⟩
theorem vzn:A5 Tryz.f4 144 yzS:=A6 gzx .nil
def mzL (x:List (List UInt8)×List (List UInt8)×List Int×List Expr×List (List UInt8)×Int×List Place×List (Sheet)×Book×Unit×UInt8):Option (((List (List UInt8)×List (List UInt8)×List Int×List Expr×List (List UInt8)×Int×List Place×List Sheet)×Unit)⊕((List (List UInt8)×List (List UInt8)×List Int×List Expr×List (List UInt8)×Int×List Place×List Sheet×Bool)×Unit)):=brn (decide ((x.2.2.2.2.2.2.2.2.2.2.toNat:Int)=0)) (obnd (mzM (x.1,x.2.1,x.2.2.1,x.2.2.2.1,x.2.2.2.2.1,x.2.2.2.2.2.1,x.2.2.2.2.2.2.1,x.2.2.2.2.2.2.2.1,x.2.2.2.2.2.2.2.2.2.1)) fun y=>obnd (dzK (Book.mk (Globals.mk y.1.1 y.1.2.1 y.1.2.2.1 y.1.2.2.2.1 (Table.mk y.1.2.2.2.2.1 y.1.2.2.2.2.2.1) y.1.2.2.2.2.2.2.1) y.1.2.2.2.2.2.2.2)) fun z=>brn (decide (z=0)) (some (.inr ((y.1.1,y.1.2.1,y.1.2.2.1,y.1.2.2.2.1,y.1.2.2.2.2.1,y.1.2.2.2.2.2.1,y.1.2.2.2.2.2.2.1,y.1.2.2.2.2.2.2.2,false),()))) (some (.inl ((y.1.1,y.1.2.1,y.1.2.2.1,y.1.2.2.2.1,y.1.2.2.2.2.1,y.1.2.2.2.2.2.1,y.1.2.2.2.2.2.2.1,y.1.2.2.2.2.2.2.2),())))) (brn (decide ((x.2.2.2.2.2.2.2.2.2.2.toNat:Int)=1)) (obnd (mzN (x.1,x.2.1,x.2.2.1,x.2.2.2.1,x.2.2.2.2.1,x.2.2.2.2.2.1,x.2.2.2.2.2.2.1,x.2.2.2.2.2.2.2.1,x.2.2.2.2.2.2.2.2.1,x.2.2.2.2.2.2.2.2.2.1)) fun y=>obnd (dzK (Book.mk (Globals.mk y.1.1 y.1.2.1 y.1.2.2.1 y.1.2.2.2.1 (Table.mk y.1.2.2.2.2.1 (i64.wrap (y.1.2.2.2.2.2.1+1))) y.1.2.2.2.2.2.2.1) y.1.2.2.2.2.2.2.2)) fun z=>brn (!decide (z=3)) (obnd (szU (x.2.2.2.2.2.2.2.2.1,[110,111,119,104,101,114,101,32,101,108,115,101])) fun z=>some (.inr ((y.1.1,y.1.2.1,y.1.2.2.1,y.1.2.2.2.1,y.1.2.2.2.2.1,(i64.wrap (y.1.2.2.2.2.2.1+1)),y.1.2.2.2.2.2.2.1,y.1.2.2.2.2.2.2.2,z),()))) (some (.inl ((y.1.1,y.1.2.1,y.1.2.2.1,y.1.2.2.2.1,y.1.2.2.2.2.1,(i64.wrap (y.1.2.2.2.2.2.1+1)),y.1.2.2.2.2.2.2.1,y.1.2.2.2.2.2.2.2),())))) (brn (decide ((x.2.2.2.2.2.2.2.2.2.2.toNat:Int)=2)) (obnd (mzO (x.1,x.2.1,x.2.2.1,x.2.2.2.1,x.2.2.2.2.1,x.2.2.2.2.2.1,x.2.2.2.2.2.2.1,x.2.2.2.2.2.2.2.1,x.2.2.2.2.2.2.2.2.2.1,0)) fun y=>some (.inl y)) (some (.inl ((x.1,x.2.1,x.2.2.1,x.2.2.2.1,x.2.2.2.2.1,x.2.2.2.2.2.1,x.2.2.2.2.2.2.1,x.2.2.2.2.2.2.2.1),())))))
def yzQ:Cq:=⟨107,[(4294967304,.val 22),(8589934600,.val 22),(12884901896,.val 23),(17179869192,.val 35),(21474836488,.val 22),(25769803784,.val 2),(30064771080,.val 37),(34359738376,.wr 101),(5,.ro 42),(8,.box 8),(39,.val 5)],[(.normal,[(4294967304,.val 22),(8589934600,.val 22),(12884901896,.val 23),(17179869192,.val 35),(21474836488,.val 22),(25769803784,.val 2),(30064771080,.val 37),(34359738376,.val 40)]),(.ret,[(4294967304,.val 22),(8589934600,.val 22),(12884901896,.val 23),(17179869192,.val 35),(21474836488,.val 22),(25769803784,.val 2),(30064771080,.val 37),(34359738376,.val 40),(4,.val 4)])],rg 40 63 [4,9,10],(mzL),none⟩
theorem vzl:A5 Tryz.f4 107 yzQ:=A6 gzx (.cons vzm (.cons vzn (.cons vzp .nil)))
def oz2 (x:Book×UInt8):Option (Bool):=obnd (tzE ()) fun y=>brn (!y) (some false) (obnd (pzR x.1) fun y=>brn (!y) (some true) (obnd (nzk x.1) fun y=>brn (!decide (y=0)) (some true) (obnd (uzQ x.1) fun y=>obnd (hzj y) fun y_1=>brn (!decide (y_1.2=0)) (some false) (obnd (app 72 [] y.Sheets) fun zs=>obnd (mzL (y.Globals.Sheets,y.Globals.Formats,y.Globals.XFs,y.Globals.Names,y.Globals.Texts.Texts,y.Globals.Texts.Uses,y.Globals.Chain,zs,y,(),UInt8.ofNat ((↑x.2.toNat:Int).tmod 3).toNat)) fun y=>osum y (fun y=>obnd (hzj (Book.mk (Globals.mk y.1.1 y.1.2.1 y.1.2.2.1 y.1.2.2.2.1 (Table.mk y.1.2.2.2.2.1 y.1.2.2.2.2.2.1) y.1.2.2.2.2.2.2.1) y.1.2.2.2.2.2.2.2)) fun y=>brn (decide (y.2=0)) (obnd (jz6 (y.1,y_1.1)) fun y=>some y) (some false)) fun y=>some y.1.2.2.2.2.2.2.2.2))))
def tzC:Fq:=⟨[(0,.val 32),(1,.val 5)],[(0,.val 4)],oz2⟩
theorem wzk:A0 4 tzC:=A2 Tryz.func4 gzx (.cons vzl .nil)
end
set_option maxRecDepth 100000
theorem Nzp:tzE ()=some true:=by kernel_rfl
end Go.Proofs.YtkafbjodbjkieaaGreatDoor
/- SG -/
namespace Go.Proofs.YtkafbjodbjkieaaGreatDoor
open Go Go.Ev Go.Lib
open Go.IntKind (i64 u64 u8 i32 u32 i16 u16)
theorem glob_enc {x:Globals}(h:fewG x)(s1:dzg x.Sheets)(s2:dzg x.Formats)(s3:dzg x.Texts.Texts)(h0:fza x=some 0):tbD x.Texts=0:=by
 obtain⟨h1,h2,h3,h4,h5,h6,h7⟩:=h;obtain⟨r1,x1,e1⟩:=Bzu (t:=x.Texts) (by omega) s3;obtain⟨r3,e3⟩:=chP_is (l:=x.Chain) (by omega);have ee:encE x.Texts=0:=by
  apply Decidable.byContradiction;intro c5;unfold fza at h0;rw[sz6 (by omega) s1,xzt (by omega) s2,Hzo (by omega),uzV (by omega) h7,e1,e3]at h0;simp only[aza]at h0;rw[dF0 c5]at h0;cases hq:gzV x with
  | none=>rw[hq]at h0;cases h0
  | some b =>
   rw[hq,aza]at h0;cases b
   .rw[azc]at h0;unfold er at h0;by_cases c1:fz (shD x.Sheets) (List.range x.Sheets.length)=0
    .rw[dT0 c1,show(!true)=false from rfl,azc]at h0;by_cases c2:fz (fun s=>(azW s).2) x.Formats=0
     .rw[if_pos c2]at h0;simp only[osum]at h0;by_cases c3:fz (xfD x.Formats.length) x.XFs=0
      .rw[if_pos c3]at h0;simp only[osum]at h0;by_cases c4:fz nmD x.Names=0
       .rw[if_pos c4]at h0;simp only[osum,Bool.not_false,azd]at h0;by_cases c6:(x.Texts.Texts.length:Int)=0
        .rw[dT0 c6,azd]at h0;by_cases c7:x.Texts.Uses=0
         .rw[dT0 c7]at h0;exact absurd (Option.some.inj h0) c5
         .rw[dF0 c7]at h0;cases h0
        .rw[dF0 c6,azc]at h0;exact absurd (Option.some.inj h0) c5
       .rw[if_neg c4]at h0;exact absurd (Option.some.inj h0) c4
      .rw[if_neg c3]at h0;exact absurd (Option.some.inj h0) c3
     .rw[if_neg c2]at h0;exact absurd (Option.some.inj h0) c2
    .rw[dF0 c1]at h0;exact absurd (Option.some.inj h0) c1
   .cases h0
 unfold encE at ee;by_cases c:tbD x.Texts=0
 .exact c
 .rw[if_neg c]at ee;exact ee
theorem ndT_snoc {l:List (List UInt8)}{n:List UInt8}(h:ndT l=true)(hn:¬n∈l):ndT (l++[n])=true:=by
 unfold ndT at h ⊢;rw[List.all_eq_true]at h ⊢;intro i hi;have hi:=List.mem_range.1 hi;rw[List.length_append,List.length_singleton]at hi;by_cases c:i<l.length
 .have:=h i (List.mem_range.2 c);rw[List.getElem?_append_left c,List.take_append_of_le_length (by omega)];exact this
 .have:i=l.length:=by omega
  subst this;rw[List.getElem?_append_right (by omega),Nat.sub_self];simp only[List.getElem?_cons_zero,List.take_left];rw[List.all_eq_true];intro b hb;rw[dF0 (fun e:b=n=>hn (by rw[<-e];exact hb))];rfl
theorem tbD_snoc {t:Table}{n:List UInt8}{u:Int}(h:tbD t=0)(hl:t.Texts.length<=1000)(hn:¬n∈t.Texts)(hu:(azW n).2=0)(h1:u=t.Uses+1)(h2:t.Uses<=1000000):tbD ⟨t.Texts++[n],u⟩=0:=by
 obtain⟨k1,k2,k3⟩:=Hzj h;have nd:ndT t.Texts=true/\¬t.Uses<t.Texts.length:=by
  unfold tbD at h;rw[if_neg (by omega),if_pos (izj.2 k1)]at h;cases c:ndT t.Texts
  .rw[c]at h;cases h
  .rw[c,cond_true]at h;refine⟨rfl,fun d=>?_⟩;rw[if_pos d]at h;cases h
 unfold tbD;simp only;rw[if_neg (by rw[List.length_append,List.length_singleton];omega),if_pos (izj.2 fun a ha=>by
  rcases List.mem_append.1 ha with ha|ha
  .exact k1 a ha
  .rw[List.mem_singleton.1 ha];exact hu),ndT_snoc nd.1 hn,cond_true,if_neg (by rw[List.length_append,List.length_singleton];omega),if_neg (by omega)]
theorem val0 {g s t:Int}{p:Prop}[Decidable p](h:(if g=0 then(if p then(if s=0 then t else s)else 1)else g)=0):g=0/\p/\s=0/\t=0:=by
 by_cases a:g=0
 .rw[if_pos a]at h;by_cases b:p
  .rw[if_pos b]at h;by_cases c:s=0
   .rw[if_pos c]at h;exact⟨a,b,c,h⟩
   .rw[if_neg c]at h;exact absurd h c
  .rw[if_neg b]at h;cases h
 .rw[if_neg a]at h;exact absurd h a
theorem tail0 {b:Book}(h:hzQ b=0):xfE b=0/\okBd (b.Sheets.flatMap txS)/\b.Globals.Texts=⟨dd (b.Sheets.flatMap txS),((b.Sheets.flatMap txS).length:Int)⟩:=by
 unfold hzQ at h;by_cases c:xfE b=0
 .rw[if_pos c]at h;by_cases d:okBd (b.Sheets.flatMap txS)/\b.Globals.Texts=⟨dd (b.Sheets.flatMap txS),((b.Sheets.flatMap txS).length:Int)⟩
  .exact⟨c,d⟩
  .rw[@dF0 _ (Classical.propDecidable _) d]at h;cases h
 .rw[if_neg c]at h;exact absurd h c
theorem had_is {b:Book}{n:List UInt8}(hl:b.Globals.Texts.Texts.length<=1000)(hn:n∈b.Globals.Texts.Texts):szU (b,n)=some true:=by
 have:=mz7 (F:=mzo) (fun i=>(n,b,(i:Int))) b.Globals.Texts.Texts (fun y=>!decide (y=n)) (.inr true) (.inl ()) (by omega)
  (by
   intro back i hi;unfold mzo;simp only;rw[ltT hi,azd,idxG hi,aza,wr1 (by omega)];cases decide (b.Globals.Texts.Texts[i]=n)<;>rfl)
  (by
   intro back;unfold mzo;simp only;rw[ltF];rfl)
 unfold szU;rw[show rz8 (n,b,0)=_ from this,show b.Globals.Texts.Texts.all (fun y=>!decide (y=n))=false from List.all_eq_false.2 ⟨n,hn,by simp⟩];rfl
theorem parts_l2 {a b:List (List UInt8)}{c:List Int}{d:List Expr}{e:List (List UInt8)}{f:Int}{g:List Place}{sh:List Sheet}(hl:sh.length<=1000)(hc:∀s∈sh,s.Cells.length<=1000):
 mzO (a,b,c,d,e,f,g,sh,(),0)=some ((a,b,c,d,e,f,g,sh),()):=by
 refine HzW (F:=gzy) (fun i=>(a,b,c,d,e,f,g,sh,(),(i:Int))) sh.length _ (by omega) ?_ ?_
 .intro back i hi;unfold gzy;simp only;have ap:app 240 [] sh[i].Cells=some sh[i].Cells:=kzJ (by have:=hc _ (List.getElem_mem hi);omega);rw[ltT hi,azd,inbG hi,aza,nthG hi,aza,ap,aza,aza,nthG hi,aza,wr1 (by omega),show(0+i)=i by omega,show Sheet.mk sh[i].Rows sh[i].Cells sh[i].Groups=sh[i] from rfl,List.set_getElem_self]
 .intro back;unfold gzy;simp only;rw[ltF];rfl
def nwh:List UInt8:=[110,111,119,104,101,114,101,32,101,108,115,101]
theorem nwh_u:(azW nwh).2=0:=by kernel_rfl
def wT (b:Book)(t:Table):Book:=⟨⟨b.Globals.Sheets,b.Globals.Formats,b.Globals.XFs,b.Globals.Names,t,b.Globals.Chain⟩,b.Sheets⟩
theorem few_wT {b:Book}{t:Table}(h:fewB b)(ht:t.Texts.length<=100):fewB (wT b t):=⟨⟨h.glob.sheets,h.glob.formats,h.glob.xfs,h.glob.names,ht,h.glob.chain,h.glob.nameE⟩,h.sheets,h.sheet⟩
theorem NzE {b:Book}(h:fewB b)(hs:Gz8 b)(h0:dzK b=some 0):
 (∃nb,fewB nb/\∀t,hzj (wT b t)=some (nb,0))/\shsE b=0/\xfE b=0/\b.Sheets.length=b.Globals.Sheets.length/\fza b.Globals=some 0/\b.Globals.Texts=⟨dd (b.Sheets.flatMap txS),((b.Sheets.flatMap txS).length:Int)⟩/\(b.Sheets.flatMap txS).length<=1440:=by
 obtain⟨g,g1,g2,gv⟩:=zzD h hs;rw[h0]at gv;obtain⟨v1,v2,v3,v4⟩:=val0 (Option.some.inj gv).symm;obtain⟨t1,t2,t3⟩:=tail0 v4;have hl:=h.sheets;have cl:∀s∈b.Sheets,s.Cells.length<=120:=fun s hs=>(h.sheet s hs).cells
 have tlen:=izu (f:=txS) (K:=120) b.Sheets fun s hs=>by have:=rzg s;have:=cl s hs;omega
 have sh0:∀s∈b.Sheets,azK s=some 0:=fun s hm=>by
  rw[Gz6 (h.sheet s hm),show(azK s).getD 0=0 from izj.1 v3 s hm]
 have tx:(b.Sheets.map tyS).flatMap txS=b.Sheets.flatMap txS:=by
  rw[List.flatMap_map];exact congrArg (fun f=>List.flatMap f b.Sheets) (funext txS_kp)
 have fn:fewB ⟨b.Globals,b.Sheets.map tyS⟩:=⟨h.glob,by simp only[List.length_map];exact hl,fun s hm=>by
  obtain⟨s0,h0',rfl⟩:=List.mem_map.1 hm;exact few_ty (h.sheet s0 h0')⟩
 have cn:dzK ⟨b.Globals,b.Sheets.map tyS⟩=some 0:=by
  obtain⟨g',k1,k2,kv⟩:=zzD fn hs;rw[kv];have e:g'=0:=by
   have k1:dzx b.Globals=some g':=k1;rw[g1]at k1;rw[<-Option.some.inj k1];exact v1
  have e1:shsE ⟨b.Globals,b.Sheets.map tyS⟩=0:=izj.2 fun s hm=>by
   obtain⟨s0,h0',rfl⟩:=List.mem_map.1 hm;rw[(sheet0 (h.sheet s0 h0') (sh0 s0 h0')).1];rfl
  have e2:xfE ⟨b.Globals,b.Sheets.map tyS⟩=0:=izj.2 fun s hm=>by
   obtain⟨s0,h0',rfl⟩:=List.mem_map.1 hm;exact izj.2 fun c hc=>izj.1 (izj.1 t1 s0 h0') c (List.mem_filter.1 hc).1
  have e3:hzQ ⟨b.Globals,b.Sheets.map tyS⟩=0:=by
   unfold hzQ;rw[if_pos e2,@dT0 _ (Classical.propDecidable _) (show okBd ((b.Sheets.map tyS).flatMap txS)/\b.Globals.Texts=⟨dd ((b.Sheets.map tyS).flatMap txS),(((b.Sheets.map tyS).flatMap txS).length:Int)⟩ by rw[tx];exact⟨t2,t3⟩)];rfl
  rw[if_pos e,if_pos (show(b.Sheets.map tyS).length=b.Globals.Sheets.length by rw[List.length_map];exact v2),if_pos e1,e3]
 have tsm:∀x∈b.Sheets.flatMap txS,x.length<=4000000:=by
  intro x hx;obtain⟨s,hs,hx⟩:=List.mem_flatMap.1 hx;unfold txS at hx;obtain⟨c,hc,hx⟩:=List.mem_flatMap.1 hx;have:=((h.sheet s hs).cellE c hc).2;cases hd:!c.Has&&decide (c.V.Kind=2)
  .rw[hd]at hx;cases hx
  .rw[hd]at hx;simp at hx;rw[hx];omega
 have ht:ez9 (b.Sheets.map tyS)=some (b.Globals.Texts,0):=by
  obtain⟨q,a,e,p1,p2,p3⟩:=Iz3 (x:=b.Sheets.flatMap txS) (by omega) tsm;have e0:=p2.2 t2;unfold ez9;rw[allP_is (by rw[List.length_map];omega) (fun s hm=>by have:=(fn.sheet s hm).cells;omega),aza,tx,p1,aza,e0,p3 e0,t3]
 refine⟨⟨_,fn,fun t=>?_⟩,v3,t1,v2,?_,t3,by omega⟩
 .exact tidy_is (y:=wT b t) (t:=b.Globals.Texts) hl (fun s hm=>⟨h.sheet s hm,(sheet0 (h.sheet s hm) (sh0 s hm)).2⟩) ht cn
 .rw[HzU h.glob hs.1 hs.2.1 hs.2.2,g1,v1]
theorem Hzp (b:Book)(k:UInt8)(hq:fitB b):oz2 (b,k)=some true:=by
 unfold oz2;rw[Nzp,aza];obtain⟨r,r1,r2⟩:=fewBook b hq;simp only;rw[r1,aza];cases r
 .rfl
 obtain⟨f1,f2,f3,f4,f5,f6,f7,f8,sa,f9⟩:=r2 rfl;have fb:fewB b:=⟨⟨f3,f4,f5,f6,Nat.le_trans f7 (by decide),f8,f9⟩,f1,f2⟩;have tot:totB b.Globals.Texts.Texts<20000:=by
  unfold pzR at r1;cases hg:lzV b.Globals with
  | none=>rw[hg]at r1;cases r1
  | some v =>
   rw[hg,aza]at r1;cases v
   .cases r1
   .exact fewTot hq.1 hq.2.1 hq.2.2 hg
 obtain⟨g,g1,g2,gv⟩:=zzD fb sa;rw[<-book_eq fb sa,gv,toBook fb];simp only[aza,Bool.not_true,azc];generalize hV:(if g=0 then(if b.Sheets.length=b.Globals.Sheets.length then(if shsE b=0 then hzQ b else shsE b)else 1)else g)=V at gv;by_cases hv:¬V=0
 .rw[dF0 hv];rfl
 have hv:V=0:=Decidable.not_not.1 hv;subst hv;obtain⟨⟨nb,fnb,td⟩,q1,q2,q3,q4,q5,q6⟩:=NzE fb sa gv;have tb:hzj b=some (nb,0):=td b.Globals.Texts;have hl:=fb.sheets;have al:app 72 [] b.Sheets=some b.Sheets:=kzJ (by omega);have at_:app 16 [] b.Globals.Texts.Texts=some b.Globals.Texts.Texts:=kzJ (by omega);rw[dT0 rfl,show(!true)=false from rfl,azc,tb];simp only[aza,decide_true,Bool.not_true,azc];rw[al,aza];have same:jz6 (nb,nb)=some true:=by rw[Lz5 fnb fnb,jzr]
 have fin:∀t:Table,(obnd (some (Sum.inl ((b.Globals.Sheets,b.Globals.Formats,b.Globals.XFs,b.Globals.Names,t.Texts,t.Uses,b.Globals.Chain,b.Sheets),())):Option (((List (List UInt8)×List (List UInt8)×List Int×List Expr×List (List UInt8)×Int×List Place×List Sheet)×Unit)⊕((List (List UInt8)×List (List UInt8)×List Int×List Expr×List (List UInt8)×Int×List Place×List Sheet×Bool)×Unit))) fun y =>
  osum y (fun y=>obnd (hzj (Book.mk (Globals.mk y.1.1 y.1.2.1 y.1.2.2.1 y.1.2.2.2.1 (Table.mk y.1.2.2.2.2.1 y.1.2.2.2.2.2.1) y.1.2.2.2.2.2.2.1) y.1.2.2.2.2.2.2.2)) fun y=>brn (decide (y.2=0)) (obnd (jz6 (y.1,nb)) fun y=>some y) (some false)) fun y=>some y.1.2.2.2.2.2.2.2.2)=some true:=fun t=>by
  rw[aza];simp only[osum];rw[show hzj (Book.mk (Globals.mk b.Globals.Sheets b.Globals.Formats b.Globals.XFs b.Globals.Names (Table.mk t.Texts t.Uses) b.Globals.Chain) b.Sheets)=_ from td t,aza];simp only;rw[same];rfl
 unfold mzL;simp only;generalize UInt8.ofNat ((k.toNat:Int).tmod 3).toNat=q;have uu:b.Globals.Texts.Uses=((b.Sheets.flatMap txS).length:Int):=congrArg Table.Uses q5;have wu:i64.wrap (b.Globals.Texts.Uses+1)=b.Globals.Texts.Uses+1:=azG (by omega) (by omega);by_cases k0:(q.toNat:Int)=0
 .rw[dT0 k0,azd];unfold mzM;simp only[aza];obtain⟨g',k1,k2,kv⟩:=zzD (b:=wT b ⟨b.Globals.Texts.Texts,i64.wrap (b.Globals.Texts.Uses+1)⟩) (few_wT fb (by simp only;omega)) sa;have ne:¬(if g'=0 then(if(wT b ⟨b.Globals.Texts.Texts,i64.wrap (b.Globals.Texts.Uses+1)⟩).Sheets.length=(wT b ⟨b.Globals.Texts.Texts,i64.wrap (b.Globals.Texts.Uses+1)⟩).Globals.Sheets.length then(if shsE (wT b ⟨b.Globals.Texts.Texts,i64.wrap (b.Globals.Texts.Uses+1)⟩)=0 then hzQ (wT b ⟨b.Globals.Texts.Texts,i64.wrap (b.Globals.Texts.Uses+1)⟩)else shsE (wT b ⟨b.Globals.Texts.Texts,i64.wrap (b.Globals.Texts.Uses+1)⟩))else 1)else g')=0:=by
   intro hw;obtain⟨-,-,-,v4⟩:=val0 hw;have:=congrArg Table.Uses (tail0 v4).2.2;have this:i64.wrap (b.Globals.Texts.Uses+1)=((b.Sheets.flatMap txS).length:Int):=this;omega
  rw[show dzK (Book.mk (Globals.mk b.Globals.Sheets b.Globals.Formats b.Globals.XFs b.Globals.Names (Table.mk b.Globals.Texts.Texts (i64.wrap (b.Globals.Texts.Uses+1))) b.Globals.Chain) b.Sheets)=_ from kv,aza,dF0 ne,azc];exact fin ⟨b.Globals.Texts.Texts,i64.wrap (b.Globals.Texts.Uses+1)⟩
 rw[dF0 k0,azc];by_cases k1:(q.toNat:Int)=1
 .rw[dT0 k1,azd];unfold mzN;simp only;have an:app 16 b.Globals.Texts.Texts [nwh]=some (b.Globals.Texts.Texts++[nwh]):=appN (by simp;omega);unfold nwh at an;rw[at_,aza,an,aza,aza];simp only;have l1:(b.Globals.Texts.Texts++[nwh]).length=b.Globals.Texts.Texts.length+1:=by simp
  have fw:fewB (wT b ⟨b.Globals.Texts.Texts++[nwh],i64.wrap (b.Globals.Texts.Uses+1)⟩):=few_wT fb (by simp only;omega);have ss:dzg (b.Globals.Texts.Texts++[nwh]):=fun x hx=>by
   rcases List.mem_append.1 hx with hx|hx
   .exact sa.2.2 x hx
   .rw[List.mem_singleton.1 hx];decide
  obtain⟨g',m1,m2,kv⟩:=zzD (b:=wT b ⟨b.Globals.Texts.Texts++[nwh],i64.wrap (b.Globals.Texts.Uses+1)⟩) fw ⟨sa.1,sa.2.1,ss⟩;generalize hW:(if g'=0 then(if(wT b ⟨b.Globals.Texts.Texts++[nwh],i64.wrap (b.Globals.Texts.Uses+1)⟩).Sheets.length=(wT b ⟨b.Globals.Texts.Texts++[nwh],i64.wrap (b.Globals.Texts.Uses+1)⟩).Globals.Sheets.length then(if shsE (wT b ⟨b.Globals.Texts.Texts++[nwh],i64.wrap (b.Globals.Texts.Uses+1)⟩)=0 then hzQ (wT b ⟨b.Globals.Texts.Texts++[nwh],i64.wrap (b.Globals.Texts.Uses+1)⟩)else shsE (wT b ⟨b.Globals.Texts.Texts++[nwh],i64.wrap (b.Globals.Texts.Uses+1)⟩))else 1)else g')=W at kv;have ck:=kv;unfold wT nwh at ck;rw[ck,aza];by_cases w3:W=3
  .rw[dT0 w3,show(!true)=false from rfl,azc];exact fin ⟨b.Globals.Texts.Texts++[nwh],i64.wrap (b.Globals.Texts.Uses+1)⟩
  .rw[dF0 w3,show(!false)=true from rfl,azd];by_cases hN:nwh∈b.Globals.Texts.Texts
   .have hd:=had_is (b:=b) (by omega) hN;unfold nwh at hd;rw[hd];rfl
   .exfalso;apply w3;have tz:tbD b.Globals.Texts=0:=glob_enc fb.glob sa.1 sa.2.1 sa.2.2 q4;have t2:tbD ⟨b.Globals.Texts.Texts++[nwh],i64.wrap (b.Globals.Texts.Uses+1)⟩=0:=tbD_snoc tz (by omega) hN nwh_u wu (by omega);have tt:totB (b.Globals.Texts.Texts++[nwh])=totB b.Globals.Texts.Texts+12:=by
     unfold totB;rw[List.map_append,List.sum_append];rfl
    have gz:=globT (t:=⟨b.Globals.Texts.Texts++[nwh],i64.wrap (b.Globals.Texts.Uses+1)⟩) fb.glob sa.1 sa.2.1 sa.2.2 (by simp only;omega) ss q4 (by simp only;omega) (enc_ok t2 (by simp only;omega) (by simp only;omega));have ge:=HzU fw.glob sa.1 sa.2.1 ss;have gz:fza (wT b ⟨b.Globals.Texts.Texts++[nwh],i64.wrap (b.Globals.Texts.Uses+1)⟩).Globals=some 0:=gz;rw[ge,m1]at gz;have g0:g'=0:=Option.some.inj gz;rw[<-hW,if_pos g0];refine(if_pos q3).trans ((if_pos q1).trans ?_);unfold hzQ;refine(if_pos q2).trans ?_;rw[@dF0 _ (Classical.propDecidable _) (fun h=>by
     have h2:b.Globals.Texts.Texts++[nwh]=dd (b.Sheets.flatMap txS):=congrArg Table.Texts h.2;have h3:b.Globals.Texts.Texts=dd (b.Sheets.flatMap txS):=congrArg Table.Texts q5;have:=congrArg List.length h2;rw[l1,<-h3]at this;omega)]
    rfl
 rw[dF0 k1,azc];by_cases k2:(q.toNat:Int)=2
 .rw[dT0 k2,azd,parts_l2 (by omega) (fun s hm=>by have:=(fb.sheet s hm).cells;omega)];exact fin b.Globals.Texts
 .rw[dF0 k2,azc];exact fin b.Globals.Texts
end Go.Proofs.YtkafbjodbjkieaaGreatDoor
/- RW -/
namespace Go.Proofs.YtkafbjodbjkieaaGreatDoor
open Go Go.Ev
open Go.IntKind (i64 u64 u8 i32 u32 i16 u16)
theorem own:ownKnob Tryz.prog.godebug=none:=by kernel_rfl
theorem laidOut:laidOutB Tryz.prog=true:=by kernel_rfl
theorem and2 {a b:Bool}(h:a=true)(k:b=true):(a&&b)=true:=by rw[h,k];rfl
theorem main_is:Tryz.pinned.checked.prog.mainIs=some (true, "020e668ef3ba47a8d131159ae894effd8d56bef963cd7bc3292c53b116590e53".toList):=by kernel_rfl
theorem looks_is:false=Tryz.pinned.checked.prog.looks []:=by kernel_rfl
theorem NzA:mapsRowed Tryz.prog=true:=by kernel_rfl
theorem NzG:(Rows.bookNodesRow.plainKeys == Tryz.prog.plainKeys)=true:=by kernel_rfl
theorem MzT:Tryz.prog.stopsHeard=true:=by kernel_rfl
theorem may_enter:Tryz.prog.mayEnter=true:=by kernel_rfl
theorem lifts_is:(Rows.bookNodesRow.lifted == Tryz.prog.liftsFinal)=true:=by kernel_rfl
theorem make_is:(Tryz.prog.make == some Rows.bookNodesRow.make)=true:=by kernel_rfl
abbrev laidL:List (String×DataW Unit):=[("unicode/utf8.acceptRanges",Rows.laid_unicode_utf8_acceptRanges),("unicode/utf8.first",Rows.laid_unicode_utf8_first)]
theorem extra:Go.Proofs.U8Extra Tryz.prog Tryz.lays196_ren:=⟨by kernel_rfl,by kernel_rfl,by kernel_rfl,by kernel_rfl,by kernel_rfl,by kernel_rfl,by kernel_rfl⟩
theorem first_is:(Rows.laid_unicode_utf8_first:DataW Unit)=Lib.firstData:=by kernel_rfl
theorem accept_is:(Rows.laid_unicode_utf8_acceptRanges:DataW Unit)=Lib.acceptData:=by kernel_rfl
theorem inv_of {W:World}(h:laidMetH Tryz.prog laidL W):tb.inv (fun _=>.con) W:=by
 rw[MakeChecks.laidMetH_plain _ _ _ (by kernel_rfl)]at h;have h3:=Lib.laidMet.reads h (n := "unicode/utf8.first") (d:=Rows.laid_unicode_utf8_first) (by simp);have h4:=Lib.laidMet.reads h (n := "unicode/utf8.acceptRanges") (d:=Rows.laid_unicode_utf8_acceptRanges) (by simp);rw[first_is]at h3;rw[accept_is]at h4;exact⟨rfl,rfl,Go.Proofs.utf8Tabs_of_readsT (.of196 Tryz.lays196) extra h3 h4⟩
theorem true_out {P:Program}:∀g w us cs v,bzd P tb g w [(0,.val 4)] true us cs->RetV [(0,.val 4)] us v->bzw P 4=false->v = .bool true:=by
 intro g w us cs v h hr ha;cases us with
 | nil=>cases cs<;>exact h.elim
 | cons u us =>
  cases us with
  | cons _ _=>cases cs<;>exact h.elim
  | nil =>
   cases cs with
   | nil=>exact h.elim
   | cons c cs =>
    cases cs with
    | cons _ _=>exact h.elim
    | nil =>
     have hr:v=u:=hr;subst hr;obtain⟨h1,_⟩:=h;unfold czf at h1;simp only[ha,Bool.false_eq_true,if_false]at h1;obtain⟨c,hc,hrep⟩:=h1;have hc:[CV.bool true]=[c]:=hc;simp only[List.cons.injEq,and_true]at hc;subst hc;cases hrep;rfl
def rd2:RdTab Tryz.prog tb:=⟨[32,5,9,3,76,66,120,173,131,145],20,fun t ht=>by
 simp only[List.mem_cons,List.not_mem_nil,or_false]at ht;rcases ht with rfl|rfl|rfl|rfl|rfl|rfl|rfl|rfl|rfl|rfl
 .exact mzG (ks:=[.sl 9,.sl 9,.sl 3,.sl 76,.sl 9,.int .i64,.sl 66,.sl 120]) (by kernel_rfl) (by kernel_rfl) (fun _ _ _ _ _ _ _ _=>rfl)
 .exact mzG (ks:=[.int .u8]) (by kernel_rfl) (by kernel_rfl) (fun _=>rfl)
 .exact mzG (ks:=[.str]) (by kernel_rfl) (by kernel_rfl) (fun _=>rfl)
 .exact mzG (ks:=[.int .i64]) (by kernel_rfl) (by kernel_rfl) (fun _=>rfl)
 .exact mzG (ks:=[.int .i64,.int .i64,.int .i64,.int .i64,.str,.bool,.int .i64,.int .i64,.int .i64,.bool,.bool,.int .i64,.int .i64,.bool,.bool,.int .i64,.int .i64,.sl 76]) (by kernel_rfl) (by kernel_rfl) (fun _ _ _ _ _ _ _ _ _ _ _ _ _ _ _ _ _ _=>rfl)
 .exact mzG (ks:=[.int .i64,.int .i64,.int .i64]) (by kernel_rfl) (by kernel_rfl) (fun _ _ _=>rfl)
 .exact mzG (ks:=[.sl 173,.sl 131,.sl 145]) (by kernel_rfl) (by kernel_rfl) (fun _ _ _=>rfl)
 .exact mzG (ks:=[.int .i64,.int .i64,.bool]) (by kernel_rfl) (by kernel_rfl) (fun _ _ _=>rfl)
 .exact mzG (ks:=[.int .i64,.int .i64,.int .i64,.int .i64,.int .i64,.int .i64,.str,.bool,.int .i64,.bool,.int .i64,.int .i64,.int .i64,.int .i64,.str,.bool,.int .i64,.int .i64,.int .i64,.bool,.bool,.int .i64,.int .i64,.bool,.bool,.int .i64,.int .i64,.sl 76]) (by kernel_rfl) (by kernel_rfl) (fun _ _ _ _ _ _ _ _ _ _ _ _ _ _ _ _ _ _ _ _ _ _ _ _ _ _ _ _=>rfl)
 .exact mzG (ks:=[.bool,.int .i64,.int .i64,.int .i64,.int .i64,.int .i64,.int .i64,.int .i64,.int .i64,.str,.bool,.int .i64,.int .i64,.int .i64,.bool,.bool,.int .i64,.int .i64,.bool,.bool,.int .i64,.int .i64,.sl 76]) (by kernel_rfl) (by kernel_rfl) (fun _ _ _ _ _ _ _ _ _ _ _ _ _ _ _ _ _ _ _ _ _ _ _=>rfl)⟩
theorem readable2:∀t∈[32,5],Tryz.prog.readableRec t=true/\t<Tryz.prog.types.size:=by
 intro t ht;simp only[List.mem_cons,List.not_mem_nil,or_false]at ht;rcases ht with rfl|rfl<;>exact⟨by kernel_rfl,of_decide_eq_true (by kernel_rfl)⟩
theorem Ez6 {l:List (List UInt8)}(h:Wf Tryz.prog tb (.sl 9 l)):fitL l:=by
 cases h with
 | sl e xs _ hx =>
  intro x hm;have h1:=hx x hm;rw[Bzt]at h1;cases h1 (.str x) (by simp)with
  | str s hs=>exact hs
theorem fit_of {b:Book}(h:∀c∈tb.enc 32 b,Wf Tryz.prog tb c):fitB b:=by
 rw[enc32_eq]at h;exact⟨Ez6 (h _ (by simp)),Ez6 (h (.sl 9 b.Globals.Formats) (by simp)),Ez6 (h (.sl 9 b.Globals.Texts.Texts) (by simp))⟩
end Go.Proofs.YtkafbjodbjkieaaGreatDoor
/- DC -/
namespace Go.Proofs.YtkafbjodbjkieaaGreatDoor
open Go Go.Ev Go.ChangeShapes Go.WideShapes Go.RowKit
open Go.IntKind (i64 u64 u8 i32 u32 i16 u16)
theorem xzC:IzU Tryz.prog tb tzC:=fun x hx=>by
 obtain⟨b,k⟩:=x;exact⟨true,Hzp b k (fit_of hx.1),fun g w us cs v h hr=>true_out g w us cs v h hr notAgg4⟩
set_option maxRecDepth 100000 in
theorem vzq (os:Os)(started:os.Started)(H:Type)(enc:TypeId×Value->H):
 ReturnsInHanded {} Tryz.checked os 4 .any (fun w args=>(Rows.bookPartsSpec.pre enc Tryz.prog Tryz.f4 [] false w args/\laidMetH Tryz.prog laidL w)/\sizedMet enc Tryz.prog Tryz.f4 (OpenSpec.ofChange Rows.bookPartsSpec) false w args)
  (Rows.bookPartsSpec.post enc Tryz.prog Tryz.f4 false true false false):=by
 refine returnsInHanded_of_change_and (C:=Tryz.checked) (X:=fun w _=>laidMetH Tryz.prog laidL w) (fun _ _ _ hh h=>h.of_heap hh) own started (by kernel_rfl) Tryz.func4
  (ChangeSpec.witness_shaped (enc:=enc) (C:=Tryz.checked) (os:=os) (X:=fun w _=>laidMetH Tryz.prog laidL w) false (World.laidAll Tryz.prog os laidL) #[.agg #[.slice none 0 0,.slice none 0 0,.slice none 0 0,.slice none 0 0,.slice none 0 0,.int .i64 0,.slice none 0 0,.slice none 0 0],.int .u8 0] 8 (World.laidAll_os _ _ _) (World.shaped_of_ZipB (by kernel_rfl) (by kernel_rfl)) (by kernel_rfl) (by kernel_rfl) (by kernel_rfl) (by rw[MakeChecks.laidMetH_plain _ _ _ (by kernel_rfl)];exact laidMet_laidAll _ (by kernel_rfl) (by kernel_rfl))) ?_
 intro W base args ds gs before hval hW _ hz hL _;exact law_calls (P:=Tryz.prog) (tb:=tb) rd2 (ts:=[32,5]) (rb:=4) wzk xzC (by rw[Tryz.params4]) rfl (fun t ht=>by revert t;decide) rfl Tryz.underlying4 rfl (fun ds h=>by
  match ds,h with
  | [d0,d1],_=>rfl) laidOut (fun t ht=>readable2 t (by revert t;decide)) hval hW hz (inv_of hL)
theorem zz7:(Rows.bookPartsRow.inPlace == Tryz.prog.inPlace 4)=true:=by kernel_rfl
theorem yzT:(Rows.bookPartsRow.unfollowed == Tryz.prog.unfollowed 4)=true:=by kernel_rfl
theorem yzU:(Rows.bookPartsRow.recurses == Tryz.prog.recurses 4)=true:=by kernel_rfl
theorem yzV:(Rows.bookPartsRow.named == Tryz.prog.varsNamed 4)=true:=by kernel_rfl
theorem vzo:joinedFacts Tryz.pinned.checked.prog 4 Tryz.f4 Rows.bookPartsSpec Rows.bookPartsRow=true :=
 and2 (and2 (and2 (and2 (and2 (and2 (and2 (and2 (and2 (and2 (and2 (and2 (and2 (and2 (and2 (and2 (and2 (and2 (and2 (and2 (and2 (and2 (and2 (and2 (and2 (and2 (and2 (and2 (and2 (and2 (and2 (by kernel_rfl) laidOut) NzA) (by kernel_rfl)) (by kernel_rfl)) (by kernel_rfl)) (by kernel_rfl)) (by kernel_rfl)) (by kernel_rfl)) zz7) yzT) yzU) yzV) (by kernel_rfl)) (by kernel_rfl)) (by kernel_rfl)) (by kernel_rfl)) (by kernel_rfl)) (by kernel_rfl)) (by kernel_rfl)) (by kernel_rfl)) (by kernel_rfl)) NzG) (by kernel_rfl)) MzT) may_enter) lifts_is) make_is) (by kernel_rfl)) (by kernel_rfl)) (by kernel_rfl)) (by kernel_rfl)
theorem law22_BookParts_holds:Rows.BookPartsSaid :=
 OpenClaim.holds_of_wide 4 Tryz.f4 rfl rfl rfl rfl rfl rfl rfl ⟨rfl,rfl,rfl,rfl,rfl⟩ rfl rfl rfl rfl rfl (by kernel_rfl) Tryz.func4 vzo
  (of_decide_eq_true (by kernel_rfl)) (by unfold Func.isWrapper;first|(rw[if_pos (by decide +kernel)];kernel_rfl)|(rw[if_neg (by decide +kernel)];exact⟨rfl,rfl⟩))
  (fun os started H enc _=>vzq os started H enc)
theorem xzB:false=Rows.bookPartsRow.goesBy Tryz.pinned.checked.prog:=by kernel_rfl
theorem law22_BookParts_card:Rows.BookPartsCardSaid :=
 Claim7.holds_tied_plain_at .later [] [.data,.pinned] true (true, "020e668ef3ba47a8d131159ae894effd8d56bef963cd7bc3292c53b116590e53") false
  law22_BookParts_holds (fun _ h=>by cases h) (by kernel_rfl) (fun _ h=>by cases h) bookParts_row_tie rfl ⟨rfl,rfl⟩ main_is rfl
  (fun f fn hf hfn=>by
   obtain rfl:f=4:=Option.some.inj ((show Tryz.prog.funcNamed "cashbook/cashbooklaw22.BookParts" = some 4 by kernel_rfl).symm.trans hf) |>.symm;obtain rfl:fn=Tryz.f4:=(Option.some.inj (Tryz.func4.symm.trans hfn)).symm;exact⟨looks_is,fun j t ht=>by
    rw[Tryz.params4]at ht;have hm:t∈[32,5]:=by simpa using Array.mem_of_getElem? ht
    have hall:([32,5].all fun u=>!Tryz.prog.wantsStandIn u)=true:=by kernel_rfl
    exact(show Tryz.prog.wantsStandIn t=false by simpa using List.all_eq_true.1 hall t hm)⟩)
  xzB
end Go.Proofs.YtkafbjodbjkieaaGreatDoor