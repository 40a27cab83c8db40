import Derived.Test.YtdgpkbnnljblmaaGreatDoorY5
import Derived.Test.YtdgpkbnnljblmaaGreatDoorX5
import Derived.Test.YtdgpkbnnljblmaaGreatDoorU3
import Derived.Test.YtdgpkbnnljblmaaGreatDoorTie
import Derived.Stop.Joined
import Derived.Lib.LaidU8T
import Derived.Lay
import Derived.Test.YtdgpkbnnljblmaaGreatDoorCards
/- Y6 -/
namespace Go.Proofs.YtdgpkbnnljblmaaGreatDoor
open Go Go.Ev Go.Lib
def fnT:List Function:=(pzf ()).getD []
theorem allT_is:pzf ()=some fnT:=rfl
theorem FzM:fnT.length=30:=by decide +kernel
def core (k:Int) (l:List Arg):Option Val :=
 obnd (gzx (k,l,v0,k)) fun y =>
  osum y
   (fun y =>
    obnd (hze l) fun y_2 =>
     brn (!y_2) (some (vE 15))
      (obnd (lzC ([],l,(l.length:Int),0)) fun y_3 =>
       obnd (dzF (k,y.2,y_3,k)) fun y=>osum y (fun _=>obnd (czn (k,y_3)) fun y=>some y) fun y=>some y.2))
   fun y=>some y.2
def arLo (k:Nat):Int:=((fnT[k]?).map (·.lo)).getD 0
def arHi (k:Nat):Int:=((fnT[k]?).map (·.hi)).getD 0
theorem Jzr {k:Nat} (hk:k < 30) (l:List Arg):czv ((k:Int),l) =
 brn (decide ((l.length:Int) < arLo k)) (some (vE 15)) (brn (decide (arHi k < (l.length:Int))) (some (vE 15)) (core k l)):=by
 have h1:k < fnT.length:=by rw [FzM];exact hk
 unfold czv arLo arHi;rw [allT_is,aza,decide_eq_false (show ¬ (k:Int) < 0 by omega),azb,decide_eq_false (show ¬ (fnT.length:Int)≤(k:Int) by rw [FzM];omega),azb,idxG h1,List.getElem?_eq_getElem h1];simp only [gzv,aza];rfl
theorem Jzs {k:Nat} (hk:k < 30) {l:List Arg} (h1:arLo k≤l.length) (h2:(l.length:Int)≤arHi k):czv ((k:Int),l)=core k l:=by
 rw [Jzr hk,decide_eq_false (by omega),azb,decide_eq_false (by omega),azb]
theorem apply_bad {k:Nat} (hk:k < 30) {l:List Arg} (h:(l.length:Int) < arLo k∨arHi k < l.length):czv ((k:Int),l)=some (vE 15):=by
 rw [Jzr hk];by_cases h1:(l.length:Int) < arLo k
 ·rw [decide_eq_true h1,azc]
 ·rw [decide_eq_false h1,azb,decide_eq_true (by omega),azc]
theorem apply_out {op:Int} {l:List Arg} (h:op < 0∨30≤op):czv (op,l)=some (vE 15):=by
 unfold czv;rw [allT_is,aza];simp only [gzv,aza];rcases h with h | h
 ·rw [decide_eq_true h];rfl
 ·rw [decide_eq_false (show ¬ op < 0 by omega),azb,decide_eq_true (show (fnT.length:Int)≤op by rw [FzM];omega)];rfl
theorem core_many {k:Int} {l:List Arg} (h:k=0∨k=1∨k=2∨k=3∨k=4∨k=11∨k=12∨k=18):core k l=bzF (k,l):=by
 unfold core gzx bz5;rcases h with rfl | rfl | rfl | rfl | rfl | rfl | rfl | rfl
 ·cases bzF (0,l)<;>simp [osum]
 ·cases bzF (1,l)<;>simp [osum]
 ·cases bzF (2,l)<;>simp [osum]
 ·cases bzF (3,l)<;>simp [osum]
 ·cases bzF (4,l)<;>simp [osum]
 ·cases bzF (11,l)<;>simp [osum]
 ·cases bzF (12,l)<;>simp [osum]
 ·cases bzF (18,l)<;>simp [osum]
theorem pzX {k:Int} {l:List Arg} (h:k=10∨k=23∨k=24∨k=25):core k l=bzI (k,l):=by
 unfold core gzx bz5;rcases h with rfl | rfl | rfl | rfl
 ·cases bzI (10,l)<;>simp [osum]
 ·cases bzI (23,l)<;>simp [osum]
 ·cases bzI (24,l)<;>simp [osum]
 ·cases bzI (25,l)<;>simp [osum]
theorem core_na {l:List Arg}:core 28 l=some (vE 42):=by
 unfold core gzx bz5;simp [gzv,osum]
def fst1 (a:Arg):Val:=a.L.headD v0
def lzM (k:Int) (vs:List Val):Option Val:=obnd (dzF (k,v0,vs,k)) fun y=>osum y (fun _=>czn (k,vs)) fun y=>some y.2
theorem firsts_is {l:List Arg} (hl:l.length≤1000) (hb:l.any badB=false):lzC ([],l,(l.length:Int),0)=some (l.map fst1):=by
 have this:lzC ([],l,(l.length:Int),0)=some (id _):=bzb (F:=izS) (fun (s:List Val) (i:Nat)=>(s,l,(l.length:Int),(i:Int))) id l (fun s a=>.inl (s++[fst1 a])) id (fun s i=>s.length=i) (by omega)
  (fun back s i hi hs=>by
   have hb':badB l[i]=false:=by
    rw [List.any_eq_false] at hb;simpa using hb _ (List.getElem_mem hi)
   unfold badB at hb';simp only [Bool.or_eq_false_iff,Bool.not_eq_false',decide_eq_true_eq] at hb';have e:idx (l[i]).L 0=some (fst1 l[i]):=by
    unfold fst1;obtain ⟨_,h1⟩:=hb'
    match h:(l[i]).L,h1 with
    | [v],_=>rfl
   unfold izS;simp only;rw [ltT hi,azc,idxG hi,aza,e,aza,appN (by simp only [List.length_singleton];omega),aza,wr1 (by omega)];rfl)
  (fun s i hi s' hs h=>by cases h;simp [hs])
  (fun back s hs=>by
   unfold izS;simp only;rw [ltF,azb];rfl) [] rfl
 rw [this,ezQ];have:∀ (l:List Arg) (s:List Val),l.foldl (fun s a=>s++[fst1 a]) s=s++l.map fst1:=by
  intro l;induction l with
  | nil=>intro s;simp
  | cons a l ih=>intro s;simp only [List.foldl_cons,List.map_cons];rw [ih];simp
 rw [id,id,this];rfl
theorem wzs {k:Int} {l:List Arg} (hl:l.length≤1000) (h:k≠0∧k≠1∧k≠2∧k≠3∧k≠4∧k≠11∧k≠12∧k≠18∧k≠10∧k≠23∧k≠24∧k≠25∧k≠28):core k l=if l.any badB then some (vE 15) else lzM k (l.map fst1):=by
 unfold core gzx bz5;obtain ⟨h0,h1,h2,h3,h4,h5,h6,h7,h8,h9,h10,h11,h12⟩:=h;simp only [h0,h1,h2,h3,h4,h5,h6,h7,h8,h9,h10,h11,h12,decide_false,azb,osum,aza];rw [HzP hl,aza];cases hb:l.any badB with
 | true=>rfl
 | false =>
  simp only [Bool.not_false,Bool.not_true,azb,Bool.false_eq_true,if_false];rw [firsts_is hl hb,aza];unfold lzM;cases dzF (k,v0,l.map fst1,k) with
  | none=>rfl
  | some y =>
   cases y with
   | inl _=>simp only [aza];cases czn (k,l.map fst1)<;>rfl
   | inr _=>rfl
theorem Lze (v:Val) (vs:List Val):lzM 21 (v :: vs)=some (vT (decide (v.Kind=0))):=rfl
theorem Ozj (v:Val) (vs:List Val):lzM 22 (v :: vs)=some (vT (decide (v.Kind=4))):=rfl
def typeN (k:Int):Int:=if k=2 then 2 else if k=3 then 4 else if k=4 then 16 else 1
theorem MzN {v:Val} (vs:List Val) (h:v.Kind=0∨v.Kind=1∨v.Kind=2∨v.Kind=3∨v.Kind=4):lzM 29 (v :: vs)=some (vN ⟨typeN v.Kind,0⟩):=by
 unfold lzM dzF;simp only [idxZ,aza,decide_true,azc];rcases h with h | h | h | h | h<;>(rw [h];kernel_rfl)
theorem Ozk {v:Val} (vs:List Val) (h:okW v):lzM 13 (v :: vs)=some (bif (truR v).2.2 then vT (!(truR v).1) else (truR v).2.1):=by
 unfold lzM dzF;simp only [idxZ,aza];rw [(tzw h).1];rcases truR v with ⟨t,f,b⟩;cases b<;>rfl
theorem MzM {k:Int} (vs:List Val) (h:k=5∨k=6∨k=7∨k=8∨k=9):lzM k vs=bzN (k,vs):=by
 unfold lzM dzF;rcases h with rfl | rfl | rfl | rfl | rfl
 ·cases bzN (5,vs)<;>simp [osum]
 ·cases bzN (6,vs)<;>simp [osum]
 ·cases bzN (7,vs)<;>simp [osum]
 ·cases bzN (8,vs)<;>simp [osum]
 ·cases bzN (9,vs)<;>simp [osum]
theorem MzO {k:Int} (vs:List Val) (h:k≠21∧k≠22∧k≠29∧k≠13∧k≠5∧k≠6∧k≠7∧k≠8∧k≠9):lzM k vs=czn (k,vs):=by
 unfold lzM dzF;obtain ⟨h0,h1,h2,h3,h4,h5,h6,h7,h8⟩:=h;simp only [h0,h1,h2,h3,h4,h5,h6,h7,h8,decide_false,azb,osum,aza]
theorem Kzn {v:Val} (h:okW v):v.Kind=0∨v.Kind=1∨v.Kind=2∨v.Kind=3∨v.Kind=4:=by
 rcases h.1 with rfl | ⟨d,rfl,_⟩ | ⟨s,rfl,_⟩ | ⟨t,rfl⟩ | ⟨e,rfl⟩<;>simp [vB,vN,vS,vT,vE]
end Go.Proofs.YtdgpkbnnljblmaaGreatDoor

/- Y7 -/
namespace Go.Proofs.YtdgpkbnnljblmaaGreatDoor
open Go Go.Ev Go.Lib
def up (d:Dec) (p:Nat):Int:=d.M*10 ^ (p - d.S.toNat)
theorem pow_big {M:Int} (k:Nat) (h:¬ I64 (M*10)):¬ I64 (M*10*10 ^ k):=by
 intro hh;refine h ?_;have h1:(1:Int)≤10 ^ k:=by
  have:0 < (10:Int) ^ k:=Int.pow_pos (by decide);omega
 unfold I64 at *;generalize (10:Int) ^ k=e at *;generalize M*10=z at *;rcases Int.le_total 0 z with hz | hz
 ·have:z*1≤z*e:=Int.mul_le_mul_of_nonneg_left h1 hz;omega
 ·have:(-z)*1≤(-z)*e:=Int.mul_le_mul_of_nonneg_left h1 (by omega);rw [Int.neg_mul,Int.neg_mul] at this;omega
theorem check10 {M:Int} (h:I64 M):decide (IntKind.i64.wrap ((IntKind.i64.wrap (M*10)).tdiv 10)=M)=decide (I64 (M*10)):=by
 by_cases hb:I64 (M*10)
 ·rw [decide_eq_true hb,azp (n:=M*10) hb.1 hb.2,Int.mul_tdiv_cancel _ (by decide),azp h.1 h.2,decide_eq_true rfl]
 ·rw [decide_eq_false hb];refine decide_eq_false fun e=>hb ?_
  have hr:-9223372036854775808≤IntKind.i64.wrap (M*10)∧IntKind.i64.wrap (M*10)≤9223372036854775807:=by rw [i64];omega
  generalize IntKind.i64.wrap (M*10)=w at *;have ht:-922337203685477580≤w.tdiv 10∧w.tdiv 10≤922337203685477580:=by
   rcases Int.le_total 0 w with hw | hw
   ·rw [Int.tdiv_eq_ediv_of_nonneg hw];omega
   ·rw [show w.tdiv 10 = -((-w).tdiv 10) by rw [Int.neg_tdiv,Int.neg_neg],Int.tdiv_eq_ediv_of_nonneg (by omega)];omega
  rw [azp (by omega) (by omega)] at e;unfold I64;omega
theorem up_step {M:Int} {k:Nat}:M*10 ^ (k+1)=M*10*10 ^ k:=by rw [Int.pow_succ,Int.mul_comm (10 ^ k) 10,Int.mul_assoc]
theorem HzN:∀ (k n:Nat) (M S:Int),k < n→I64 M→0≤S→S+k≤9→∃ y,iter hzw n (S+k,⟨M,S⟩)=some y ∧
 (I64 (M*10 ^ k)→y = .inl ((),⟨M*10 ^ k,S+k⟩))∧(¬ I64 (M*10 ^ k)→∃ d,y = .inr ((0,false),d))
 | 0,n+1,M,S,_,hM,h0,h9=>by
  rw [bzS];unfold hzw;simp only;rw [decide_eq_false (show ¬ S < S+((0:Nat):Int) by omega),azb];refine ⟨_,rfl,fun _=>?_,fun h=>?_⟩
  ·simp
  ·exact absurd (by simpa using hM) h
 | k+1,n+1,M,S,hn,hM,h0,h9=>by
  rw [bzS];unfold hzw;simp only;rw [decide_eq_true (show S < S+((k+1:Nat):Int) by omega),azc,check10 hM,up_step];by_cases hb:I64 (M*10)
  ·rw [decide_eq_true hb,Bool.not_true,azb,azp (n:=M*10) hb.1 hb.2,azp (n:=S+1) (by omega) (by omega)];obtain ⟨y,h1,h2,h3⟩:=HzN k n (M*10) (S+1) (by omega) hb (by omega) (by omega);rw [show S+((k+1:Nat):Int)=S+1+(k:Int) by omega];exact ⟨y,h1,h2,h3⟩
  ·rw [decide_eq_false hb,Bool.not_false,azc];exact ⟨_,rfl,fun h=>absurd h (pow_big k hb),fun _=>⟨_,rfl⟩⟩
theorem Fzb {d:Dec} {p:Nat} (hd:okd d) (hp:d.S≤(p:Int)) (h9:p≤9):nzj (d,(p:Int))=some (if I64 (up d p) then (up d p,true) else (0,false)):=by
 have h0:=hd.1.1;obtain ⟨y,h1,h2,h3⟩:=HzN (p - d.S.toNat) big d.M d.S (by rw [mzJ];omega) hd.2 h0 (by omega);unfold nzj up;simp only;have e:pzg ((p:Int),d)=some y:=by
  rw [← h1,show d.S+((p - d.S.toNat:Nat):Int)=(p:Int) by omega];rfl
 rw [e,aza];by_cases hb:I64 (d.M*10 ^ (p - d.S.toNat))
 ·rw [h2 hb,if_pos hb];rfl
 ·obtain ⟨d',h⟩:=h3 hb;rw [h,if_neg hb];rfl
theorem more_l1:∀ (k n:Nat) (M S:Int),k < n→I64 M→0≤S→S+k≤9→iter hzJ n (S+k,M,S)=some (if I64 (M*10 ^ k) then .inl (M*10 ^ k) else .inr (0,8))
 | 0,n+1,M,S,_,hM,h0,h9=>by
  rw [bzS];unfold hzJ;simp only;rw [decide_eq_false (show ¬ S < S+((0:Nat):Int) by omega),azb,if_pos (by simpa using hM)];simp
 | k+1,n+1,M,S,hn,hM,h0,h9=>by
  rw [bzS];unfold hzJ;simp only;rw [decide_eq_true (show S < S+((k+1:Nat):Int) by omega),azc,up_step];by_cases hb:I64 (M*10)
  ·have hb':=hb;unfold I64 at hb';rw [decide_eq_false (show ¬ 922337203685477580 < M by omega),decide_eq_false (show ¬ M < -922337203685477580 by omega),azb,azb,Int.mul_comm 10 M,azp (n:=M*10) hb.1 hb.2,azp (n:=S+1) (by omega) (by omega)];have:=more_l1 k n (M*10) (S+1) (by omega) hb (by omega) (by omega);rw [show S+((k+1:Nat):Int)=S+1+(k:Int) by omega];exact this
  ·rw [if_neg (pow_big k hb)];by_cases h1:922337203685477580 < M
   ·rw [decide_eq_true h1];rfl
   ·rw [decide_eq_false h1,azb,decide_eq_true (show M < -922337203685477580 by unfold I64 at hb;omega)];rfl
theorem Kzv {d:Dec} {p:Nat} (hd:okd d) (hp:d.S≤(p:Int)) (h9:p≤9):nzm (d,(p:Int))=some (if I64 (up d p) then (up d p,0) else (0,8)):=by
 have h0:=hd.1.1;have h1:=more_l1 (p - d.S.toNat) big d.M d.S (by rw [mzJ];omega) hd.2 h0 (by omega);unfold nzm up;simp only;rw [show d.S+((p - d.S.toNat:Nat):Int)=(p:Int) by omega] at h1;rw [show pzA ((p:Int),d.M,d.S)=_ from h1,aza];by_cases hb:I64 (d.M*10 ^ (p - d.S.toNat))
 ·rw [if_pos hb,if_pos hb];rfl
 ·rw [if_neg hb,if_neg hb];rfl
def fm (X Y:Int):Int:=let r:=X.tmod Y;if ¬ r=0∧¬ (decide (r < 0)=decide (Y < 0)) then r+Y else r
theorem fm_ok (X:Int) {Y:Int} (h:Y≠0):(fm X Y).natAbs < Y.natAbs∧(fm X Y≠0→(fm X Y < 0↔Y < 0))∧∃ k,X - fm X Y=k*Y:=by
 have hr:(X.tmod Y).natAbs < Y.natAbs:=by
  rw [Int.natAbs_tmod];exact Nat.mod_lt _ (by omega)
 have hq:=Int.mul_tdiv_add_tmod X Y;unfold fm;simp only;generalize X.tmod Y=r at *;generalize hk:X.tdiv Y=k at *;by_cases h0:r=0
 ·subst h0;rw [if_neg (by simp)];exact ⟨by omega,fun h=>absurd rfl h,k,by rw [Int.mul_comm k Y];omega⟩
 ·by_cases h1:decide (r < 0)=decide (Y < 0)
  ·rw [if_neg (fun c=>c.2 h1)];refine ⟨hr,fun _=>?_,k,by rw [Int.mul_comm k Y];omega⟩;simpa using h1
  ·rw [if_pos ⟨h0,h1⟩];have h2:¬ (r < 0↔Y < 0):=by simpa using h1
   refine ⟨by omega,fun _=>by omega,k - 1,?_⟩;rw [Int.sub_mul,Int.one_mul,Int.mul_comm k Y];omega
def modV (a b:Dec):Dec×Int :=
 if b.M=0 then (⟨0,0⟩,9) else
  let p:=max a.S.toNat b.S.toNat
  if I64 (up a p)∧I64 (up b p) then (⟨(azt (fm (up a p) (up b p)) p).1,((azt (fm (up a p) (up b p)) p).2:Int)⟩,0) else (⟨0,0⟩,8)
theorem up_zero {d:Dec} {p:Nat} (h:d.M≠0):up d p≠0:=by
 unfold up;intro e;have:(10:Int) ^ (p - d.S.toNat)≠0:=by
  have:0 < (10:Int) ^ (p - d.S.toNat):=Int.pow_pos (by decide);omega
 rcases Int.mul_eq_zero.1 e with h1 | h1
 ·exact h h1
 ·exact this h1
theorem fm_I64 {X Y:Int} (hY:I64 Y) (h:Y≠0):I64 (fm X Y):=by
 have:=(fm_ok X h).1;unfold I64 at *;omega
theorem cond_max {a b:Dec} (ha:0≤a.S) (hb:0≤b.S):(bif decide (a.S < b.S) then b.S else a.S)=((max a.S.toNat b.S.toNat:Nat):Int):=by
 by_cases h:a.S < b.S
 ·rw [decide_eq_true h,cond_true];omega
 ·rw [decide_eq_false h,cond_false];omega
theorem JzV {α:Type} (X Y:Int) (f:Int→α) (g:Int→α) (hg:∀ r,I64 (r+Y)→g (r+Y)=f (r+Y)) (hi:I64 (fm X Y)) :
 brn (!decide (X.tmod Y=0)) (brn (!decide (decide (X.tmod Y < 0)=decide (Y < 0))) (some (g (X.tmod Y+Y))) (some (f (X.tmod Y)))) (some (f (X.tmod Y)))=some (f (fm X Y)):=by
 unfold fm at hi ⊢;simp only at hi ⊢;by_cases h0:X.tmod Y=0
 ·rw [decide_eq_true h0,if_neg (fun c=>c.1 h0)];rfl
 ·by_cases h1:decide (X.tmod Y < 0)=decide (Y < 0)
  ·rw [decide_eq_false h0,decide_eq_true h1,if_neg (fun c=>c.2 h1)];rfl
  ·rw [if_pos ⟨h0,h1⟩] at hi;rw [decide_eq_false h0,decide_eq_false h1,if_pos ⟨h0,h1⟩,← hg _ hi];rfl
theorem rest_is4 {a b:Dec} (ha:okd a) (hb:okd b):szq (a,b)=some (numV (modV a b)):=by
 unfold szq modV;simp only [gzv,aza];by_cases h0:b.M=0
 ·rw [decide_eq_true h0,if_pos h0];rfl
 rw [decide_eq_false h0,if_neg h0,azb,cond_max ha.1.1 hb.1.1];have p9:max a.S.toNat b.S.toNat≤9:=by have:=ha.1.2.1;have:=hb.1.2.1;omega
 have pa:a.S≤((max a.S.toNat b.S.toNat:Nat):Int):=by omega
 have pb:b.S≤((max a.S.toNat b.S.toNat:Nat):Int):=by omega
 generalize max a.S.toNat b.S.toNat=p at *;rw [Fzb ha pa p9,Fzb hb pb p9];simp only [aza];by_cases c1:I64 (up a p)
 ·rw [if_pos c1];by_cases c2:I64 (up b p)
  ·have hz:=up_zero (p:=p) h0;rw [if_pos c2,if_pos ⟨c1,c2⟩];simp only [Bool.not_true,azb];rw [decide_eq_false hz,azb];have hi:=fm_I64 (X:=up a p) c2 hz;have n1:∀ m:Int,I64 m→(obnd (kzQ ⟨m,(p:Int)⟩) fun y=>obnd (bzc (y,0)) fun y=>some y)=some (numV (⟨(azt m p).1,((azt m p).2:Int)⟩,0)):=fun m hm=>by
    rw [Norm_is hm p9,aza,kzy,aza]
   have t1:I64 ((up a p).tmod (up b p)):=by
    have h1:=Int.natAbs_tmod (up a p) (up b p);have h2:=Nat.mod_le (up a p).natAbs (up b p).natAbs;have h3:(up a p).tmod (up b p)≤(up a p).natAbs:=by omega
    unfold I64 at c1 c2 ⊢;have h4:((up a p).tmod (up b p)).natAbs < (up b p).natAbs:=by rw [h1];exact Nat.mod_lt _ (by omega)
    omega
   rw [n1 _ t1];have hw:∀ (x:Option Val),(obnd (kzQ ⟨IntKind.i64.wrap ((up a p).tmod (up b p)+up b p),(p:Int)⟩) fun y=>obnd (bzc (y,0)) fun y=>some y)=some (numV (⟨(azt (IntKind.i64.wrap ((up a p).tmod (up b p)+up b p)) p).1,((azt (IntKind.i64.wrap ((up a p).tmod (up b p)+up b p)) p).2:Int)⟩,0)):=fun _=>n1 _ (by unfold I64;rw [i64];omega)
   rw [hw none];exact JzV (up a p) (up b p) (fun r=>numV (⟨(azt r p).1,((azt r p).2:Int)⟩,0)) (fun r=>numV (⟨(azt (IntKind.i64.wrap r) p).1,((azt (IntKind.i64.wrap r) p).2:Int)⟩,0)) (fun r hr=>by rw [azp hr.1 hr.2]) hi
  ·rw [if_neg c2,if_neg (show ¬ (I64 (up a p)∧I64 (up b p)) from fun c=>c2 c.2)];rfl
 ·rw [if_neg c1,if_neg (show ¬ (I64 (up a p)∧I64 (up b p)) from fun c=>c1 c.1)];rfl
end Go.Proofs.YtdgpkbnnljblmaaGreatDoor

/- Y8 -/
namespace Go.Proofs.YtdgpkbnnljblmaaGreatDoor
open Go Go.Ev Go.Lib
def one (v:Val):Arg:=⟨false,[v]⟩
def redS (s:List Dec) (v:Val):List Dec⊕(List Dec⊕Val):=bif (numR v).2.2 then .inl (s++[(numR v).1]) else .inr (.inr (numR v).2.1)
def redG:List Dec⊕Val→(List Dec×Val)⊕(Unit×Val)
 | .inl ds=>.inl (ds,v0)
 | .inr f=>.inr ((),f)
theorem reck_l1 {vs:List Val} (hv:∀ v∈vs,okW v) (hl:vs.length≤1000):nzF (v0,[],vs,(vs.length:Int),0)=some (redG (azL redS .inl [] vs)) :=
 bzb (F:=ez8) (fun (s:List Dec) (i:Nat)=>(v0,s,vs,(vs.length:Int),(i:Int))) redG vs redS .inl (fun s i=>s.length=i) (by omega)
  (fun back s i hi hs=>by
   unfold ez8 redS;simp only;rw [ltT hi,azc,idxG hi,aza,(kzx (hv _ (List.getElem_mem hi))).1,aza,appN (by simp only [List.length_singleton];omega),aza,wr1 (by omega)];cases (numR vs[i]).2.2<;>rfl)
  (fun s i hi s' hs h=>by
   unfold redS at h;revert h;cases (numR vs[i]).2.2<;>intro h<;>cases h;simp [hs])
  (fun back s hs=>by
   unfold ez8;simp only;rw [ltF,azb];rfl) [] rfl
end Go.Proofs.YtdgpkbnnljblmaaGreatDoor

/- Y9 -/
namespace Go.Proofs.YtdgpkbnnljblmaaGreatDoor
open Go Go.Ev Go.Lib
def divR (a b:Dec):Dec×Int:=(gzr (a,b)).getD (⟨0,0⟩,0)
theorem divR_eq {a b:Dec} (ha:okd a) (hb:okd b):gzr (a,b)=some (divR a b)∧fz4 (a,b)=some (divR a b):=by
 obtain ⟨r,h1,h2,_⟩:=div_eq ha hb;unfold divR;rw [h1];exact ⟨rfl,h2⟩
def qz5 (op:Int) (l:List Dec):Val :=
 if op=1 then (match l with | []=>vN ⟨0,0⟩ | x :: xs=>vN (xs.foldl minD x))
 else if op=2 then (match l with | []=>vN ⟨0,0⟩ | x :: xs=>vN (xs.foldl maxD x))
 else if (sumD ⟨0,0⟩ l).2=0 then (if op=0 then vN (sumD ⟨0,0⟩ l).1 else numV (divR (sumD ⟨0,0⟩ l).1 ⟨l.length,0⟩)) else numV (sumD ⟨0,0⟩ l)
theorem Bzy {op:Int} {l:List Arg} (hl:l.length≤1000) (hb:l.any badA=true):bzF (op,l)=some (vE 15):=by
 unfold bzF;simp only;rw [lzy hl,hb];rfl
theorem NzU {l:List Arg} (h:okA l) (hb:l.any badA=false):bzF (3,l)=some (vN ⟨(cntA 0 l:Nat),0⟩):=by
 unfold bzF ezg;simp only;rw [lzy (by have:=h.1;omega),hb,aza,azb,Mz6 h];simp only [decide_true,azc,aza];rw [int_is];rfl
theorem b4_one {x:List Dec} (hx:∀ d∈x,okd d) (hl:x.length≤100000):fzV (1,v0,x)=some (.inr ((),qz5 1 x)):=by
 unfold fzV qz5;simp only [decide_true,azc,if_true];cases x with
 | nil=>rfl
 | cons d xs =>
  rw [decide_eq_true (show 0 < ((d :: xs).length:Int) by simp only [List.length_cons];omega),azc,min_is (hx d (by simp)) (by simp only [List.length_cons] at hl;omega) (fun e he=>hx e (by simp [he])),aza,kzy];rfl
theorem b4_two {x:List Dec} (hx:∀ d∈x,okd d) (hl:x.length≤100000):fzV (2,v0,x)=some (.inr ((),qz5 2 x)):=by
 unfold fzV qz5;simp only;rw [show decide ((2:Int)=1)=false from rfl,azb,if_neg (by decide)];simp only [decide_true,azc,if_true];cases x with
 | nil=>rfl
 | cons d xs =>
  rw [decide_eq_true (show 0 < ((d :: xs).length:Int) by simp only [List.length_cons];omega),azc,max_is (hx d (by simp)) (by simp only [List.length_cons] at hl;omega) (fun e he=>hx e (by simp [he])),aza,kzy];rfl
theorem many_num {op:Int} {l:List Arg} (hop:op=0∨op=1∨op=2∨op=4) (h:okA l) (hb:l.any badA=false) :
 bzF (op,l)=some (match numA [] l with | .inl x=>qz5 op x | .inr v=>v):=by
 have hb1:ezg (op,l,v0,op)=some (.inl ((),v0)):=by
  unfold ezg;rcases hop with rfl | rfl | rfl | rfl<;>rfl
 unfold bzF;simp only;rw [lzy (by have:=h.1;omega),hb,aza,azb,show (⟨0,⟨0,0⟩,[],false,0⟩:Val)=v0 from rfl,hb1,NzY h];simp only [aza,osum];cases hn:numA [] l with
 | inr v=>rfl
 | inl x =>
  have hx:=Gzw (fun a ha=>(h.2 a ha).2) (by simp) hn;have hl:=Bzz (fun a ha=>(h.2 a ha).1) hn;have h40:=h.1;simp only [List.length_nil] at hl;simp only [Bool.not_true,azb];rcases (show op=1∨op=2∨(op=0∨op=4) by omega) with rfl | rfl | ho
  ·rw [b4_one hx (by omega)];rfl
  ·rw [b4_two hx (by omega)];rfl
  ·have hb4:fzV (op,v0,x)=some (.inl ((),v0)):=by
    unfold fzV;rcases ho with rfl | rfl<;>rfl
   rw [hb4,show czu 0=some ⟨0,0⟩ from rfl];simp only [aza];rw [many_l5 (by omega) hx,aza];unfold Fzj qz5;rw [if_neg (show ¬ op=1 by omega),if_neg (show ¬ op=2 by omega)];by_cases hs:(sumD ⟨0,0⟩ x).2=0
   ·rw [if_pos hs,if_pos hs];simp only;by_cases h0:op=0
    ·rw [decide_eq_true h0,azc,if_pos h0,kzy];rfl
    ·have so:=(yzu (l:=x) okd0).1 hs;rw [decide_eq_false h0,azb,if_neg h0,show czu (x.length:Int)=some ⟨x.length,0⟩ from rfl,aza,(divR_eq so (okdI (by unfold I64;omega))).1,aza,kzy,aza]
   ·rw [if_neg hs,if_neg hs]
theorem tzJ {k:Nat} {l:List Arg} (hl:l.length≤1000) (h:k=0∨k=1∨k=2∨k=3∨k=4∨k=11∨k=12∨k=18):czv ((k:Int),l)=bzF ((k:Int),l):=by
 have ha:arLo k=0∧arHi k=9223372036854775807:=by
  rcases h with rfl | rfl | rfl | rfl | rfl | rfl | rfl | rfl<;>decide +kernel
 rw [Jzs (by omega) (by rw [ha.1];omega) (by rw [ha.2];omega),core_many (by omega)]
end Go.Proofs.YtdgpkbnnljblmaaGreatDoor

/- YE -/
namespace Go.Proofs.YtdgpkbnnljblmaaGreatDoor
open Go Go.Ev Go.Lib
theorem tru_bad {v:Val} (h:okW v) (e:(truR v).2.2=false):(truR v).2.1.Kind=4:=by
 rcases h.1 with rfl | ⟨d,rfl,hd⟩ | ⟨s,rfl,hs⟩ | ⟨t,rfl⟩ | ⟨c,rfl⟩
 ·cases e
 ·cases e
 ·revert e;unfold truR czO vS;simp [gzv];generalize decide (s=[84,82,85,69])=p;generalize decide (s=U8s [70,65,76,83,69])=q;cases p<;>cases q<;>simp [vE]
 ·cases t<;>cases e
 ·rfl
def yzt (area:Bool) (v:Val):Bool:=area&&(!decide (v.Kind=1)&&(!decide (v.Kind=3)&&!decide (v.Kind=4)))
def truS (area:Bool) (acc:List Bool) (v:Val):List Bool⊕(List Bool⊕Val):=bif yzt area v then .inl acc else bif (truR v).2.2 then .inl (acc++[(truR v).1]) else .inr (.inr (truR v).2.1)
def truL (area:Bool) (acc:List Bool) (l:List Val):List Bool⊕Val:=azL (truS area) .inl acc l
def truG:List Bool⊕Val→((List Bool)×Val)⊕((List Bool×Bool)×Val)
 | .inl acc=>.inl (acc,v0)
 | .inr v=>.inr (([],false),v)
theorem Czw {area:Bool} {acc acc':List Bool} {v:Val} (h:truS area acc v = .inl acc'):acc'.length≤acc.length+1:=by
 unfold truS at h;revert h;cases yzt area v<;>cases (truR v).2.2<;>intro h<;>cases h<;>simp
theorem uzP {area:Bool}:∀ {l:List Val} {acc acc':List Bool},truL area acc l = .inl acc'→acc'.length≤acc.length+l.length
 | [],acc,acc',h=>by simp only [truL,azL] at h;cases h;simp
 | v :: l,acc,acc',h=>by
  simp only [truL,azL] at h;cases hs:truS area acc v with
  | inl x =>
   rw [hs] at h;have h1:=Czw hs;have h2:=uzP (l:=l) h;simp only [List.length_cons];omega
  | inr y =>
   rw [hs] at h;unfold truS at hs;revert hs;cases yzt area v<;>cases (truR v).2.2<;>intro hs<;>cases hs;cases h
theorem truths_l2 {a:Arg} {acc:List Bool} (hL:a.L.length≤40) (hv:∀ v∈a.L,okW v) (ha:acc.length≤100000) :
 pzj (v0,acc,a,a.L,(a.L.length:Int),0)=some (truG (truL a.Area acc a.L)):=by
 refine bzb (F:=hzA) (fun s i=>(v0,s,a,a.L,(a.L.length:Int),(i:Int))) truG a.L (truS a.Area) .inl (fun s i=>s.length≤acc.length+i) (by omega) ?_ ?_ ?_ acc (by simp)
 ·intro back s i hi hs;unfold hzA;simp only;have hn:=(tzw (hv a.L[i] (List.getElem_mem hi))).1;rw [ltT hi,azc,idxG hi,aza,wr1 (by omega)];unfold truS yzt;have e:obnd (czO a.L[i]) (fun y=>brn (!y.2.snd) (some (Sum.inr (([],false),y.2.fst))) (obnd (app 1 s [y.fst]) fun zs=>back (v0,zs,a,a.L,(a.L.length:Int),((i+1:Nat):Int)))) =
   ozg (fun s'=>back (v0,s',a,a.L,(a.L.length:Int),((i+1:Nat):Int))) truG (bif (truR a.L[i]).2.2 then (.inl (s++[(truR a.L[i]).1]):List Bool⊕(List Bool⊕Val)) else .inr (.inr (truR a.L[i]).2.1)):=by
   rw [hn,aza,appN (by simp;omega)];cases (truR a.L[i]).2.2<;>rfl
  cases a.Area with
  | false=>simp only [azb,Bool.false_and,cond_false];exact e
  | true =>
   simp only [azc,Bool.true_and];by_cases h1:(a.L[i]).Kind=1
   ·rw [decide_eq_true h1];simp only [Bool.not_true,azb,Bool.false_and,cond_false];exact e
   ·rw [decide_eq_false h1];simp only [Bool.not_false,azc,Bool.true_and];by_cases h3:(a.L[i]).Kind=3
    ·rw [decide_eq_true h3];simp only [Bool.not_true,azb,Bool.false_and,cond_false];exact e
    ·rw [decide_eq_false h3];simp only [Bool.not_false,azc,Bool.true_and];by_cases h4:(a.L[i]).Kind=4
     ·rw [decide_eq_true h4];simp only [Bool.not_true,azb,cond_false];exact e
     ·rw [decide_eq_false h4];rfl
 ·intro s i hi s' hs hst;have:=Czw hst;omega
 ·intro back s hs;unfold hzA;simp only;rw [ltF,azb];rfl
def truA (acc:List Bool) (l:List Arg):List Bool⊕Val:=azL (fun acc a=>match truL a.Area acc a.L with | .inl x=>.inl x | .inr v=>.inr (.inr v)) .inl acc l
theorem truths_is {l:List Arg} (h:okA l):lzT l=some (match truA [] l with | .inl x=>(x,v0,decide (0 < (x.length:Int))) | .inr v=>([],v,false)):=by
 unfold lzT;have:=bzb (F:=hzy) (fun s i=>(v0,s,l,(l.length:Int),(i:Int))) truG l (fun acc a=>match truL a.Area acc a.L with | .inl x=>.inl x | .inr v=>.inr (.inr v)) .inl (fun s i=>s.length≤40*i) (by have:=h.1;omega)
  (fun back s i hi hs=>by
   have hai:=h.2 l[i] (List.getElem_mem hi);have hl:=h.1;unfold hzy;simp only;rw [ltT hi,azc,idxG hi,aza,wr1 (by omega),truths_l2 hai.1 hai.2 (by omega),aza];cases truL (l[i]).Area s (l[i]).L<;>rfl)
  (fun s i hi s' hs hst=>by
   have hai:=h.2 l[i] (List.getElem_mem hi);cases hn:truL (l[i]).Area s (l[i]).L with
   | inl x =>
    rw [hn] at hst;simp only at hst;injection hst with hst;subst hst;have:=uzP hn;omega
   | inr v=>rw [hn] at hst;cases hst)
  (fun back s hs=>by
   unfold hzy;simp only;rw [ltF,azb];rfl) [] (by simp)
 have this:mzR (v0,[],l,(l.length:Int),0)=some (truG (truA [] l)):=this
 show (obnd (mzR (v0,[],l,(l.length:Int),0)) _)=_
 rw [this,aza];cases truA [] l<;>rfl
theorem Lzm {area:Bool}:∀ {l:List Val} {acc:List Bool} {f:Val},(∀ v∈l,okW v)→truL area acc l = .inr f→f.Kind=4
 | [],acc,f,_,h=>by simp only [truL,azL] at h;cases h
 | v :: l,acc,f,hv,h=>by
  simp only [truL,azL] at h;cases hs:truS area acc v with
  | inl x=>rw [hs] at h;exact Lzm (l:=l) (fun w hw=>hv w (by simp [hw])) h
  | inr y =>
   rw [hs] at h;unfold truS at hs;cases hk:yzt area v with
   | true=>rw [hk] at hs;cases hs
   | false =>
    rw [hk,cond_false] at hs;cases hb:(truR v).2.2 with
    | true=>rw [hb] at hs;cases hs
    | false =>
     rw [hb] at hs;cases hs;cases h;exact tru_bad (hv v (by simp)) hb
theorem Lzk:∀ {l:List Arg} {acc:List Bool} {f:Val},(∀ a∈l,∀ v∈a.L,okW v)→truA acc l = .inr f→f.Kind=4
 | [],acc,f,_,h=>by simp only [truA,azL] at h;cases h
 | a :: l,acc,f,hv,h=>by
  simp only [truA,azL] at h;cases hs:truL a.Area acc a.L with
  | inl x=>rw [hs] at h;exact Lzk (l:=l) (fun b hb=>hv b (by simp [hb])) h
  | inr y=>rw [hs] at h;cases h;exact Lzm (hv a (by simp)) hs
theorem Lzl:∀ {l:List Arg} {acc acc':List Bool},(∀ a∈l,a.L.length≤40)→truA acc l = .inl acc'→acc'.length≤acc.length+40*l.length
 | [],acc,acc',_,h=>by simp only [truA,azL] at h;cases h;simp
 | a :: l,acc,acc',hv,h=>by
  simp only [truA,azL] at h;cases hs:truL a.Area acc a.L with
  | inl x =>
   rw [hs] at h;have h1:=uzP hs;have h2:=Lzl (l:=l) (fun b hb=>hv b (by simp [hb])) h;have:=hv a (by simp);simp only [List.length_cons];omega
  | inr y=>rw [hs] at h;cases h
theorem has_is {l:List Bool} {t:Bool} (hl:l.length≤100000):az8 (l,t)=some (l.any (fun b=>decide (t=b))):=by
 unfold az8 izN;have this:gzR (l,t,(l.length:Int),0)=some ((fun (r:Option Nat)=>match r with | some i=>.inr (i:Int) | none=>.inl ()) _):=mzg (F:=bz7) (fun i=>(l,t,(l.length:Int),(i:Int))) (fun r=>match r with | some i=>.inr (i:Int) | none=>.inl ()) l (fun b=>decide (t=b)) (by omega)
  (fun back i hi=>by
   unfold bz7;simp only;rw [ltT hi,azc,idxG hi,aza,wr1 (by omega)];cases decide (t=l[i])<;>rfl)
  (fun back=>by
   unfold bz7;simp only;rw [ltF,azb])
 simp only;rw [this,aza,← lzO];cases l.findIdx? (fun b=>decide (t=b)) with
 | none=>rfl
 | some i =>
  simp only [osum,aza,Option.isSome_some];rw [decide_eq_true (show (0:Int)≤(i:Int) by omega)]
def outT (op:Int) (s:List Bool):Bool:=if op=11 then s.all id else s.any id
def truV (op:Int) (l:List Arg):Val:=match truA [] l with
 | .inl s=>if s=[] then vE 15 else vT (outT op s)
 | .inr f=>f
theorem many_tru {op:Int} {l:List Arg} (hop:op=11∨op=12) (h:okA l) (hb:l.any badA=false):bzF (op,l)=some (truV op l):=by
 have hl:=h.1;have hm:(obnd (lzT l) fun y =>
  brn (!y.2.snd)
   (brn (!decide (y.2.fst.Kind=4)) (obnd (azq 15) fun y=>some (Sum.inr ((),y)))
    (brn (!y.2.snd) (some (Sum.inr ((),y.2.fst)))
     (obnd (az8 (y.fst,decide (op=12))) fun y=>obnd (czw (decide (y=decide (op=12)))) fun y=>some (Sum.inr ((),y)))))
   (brn (!y.2.snd) (some (Sum.inr ((),y.2.fst)))
    (obnd (az8 (y.fst,decide (op=12))) fun y=>obnd (czw (decide (y=decide (op=12)))) fun y=>some (Sum.inr ((),y)))))=(some (Sum.inr ((),truV op l)):Option ((Unit×Val)⊕(Unit×Val))):=by
  rw [truths_is h,aza];unfold truV;cases ht:truA [] l with
  | inr f =>
   have:=Lzk (fun a ha=>(h.2 a ha).2) ht;simp only [Bool.not_false,azc];rw [decide_eq_true this];rfl
  | inl s =>
   have hsl:=Lzl (fun a ha=>(h.2 a ha).1) ht;simp only [List.length_nil] at hsl;simp only;by_cases h0:s=[]
   ·subst h0;rfl
   ·have hp:0 < s.length:=List.length_pos_iff.2 h0;rw [decide_eq_true (show 0 < (s.length:Int) by omega)];simp only [Bool.not_true,azb];rw [if_neg h0,has_is (by omega),aza];have:decide (s.any (fun b=>decide (decide (op=12)=b))=decide (op=12))=outT op s:=by
     unfold outT;rcases hop with rfl | rfl
     ·rw [if_pos rfl,show decide ((11:Int)=12)=false from rfl];clear hsl ht h0 hp;induction s with
      | nil=>rfl
      | cons b s ih=>cases b<;>simp_all
     ·rw [if_neg (by decide),show decide ((12:Int)=12)=true from rfl];clear hsl ht h0 hp;induction s with
      | nil=>rfl
      | cons b s ih=>cases b<;>simp_all
    rw [this];rfl
 have hb1:ezg (op,l,v0,op)=some (.inr ((),truV op l)):=by
  unfold ezg;rcases hop with rfl | rfl
  ·exact hm
  ·exact hm
 unfold bzF;simp only;rw [lzy (by omega),hb,aza,azb,show (⟨0,⟨0,0⟩,[],false,0⟩:Val)=v0 from rfl,hb1];rfl
end Go.Proofs.YtdgpkbnnljblmaaGreatDoor

/- YA -/
namespace Go.Proofs.YtdgpkbnnljblmaaGreatDoor
open Go Go.Ev Go.Lib
def jz1 {S:Type} (step:S→Nat→Int→S):S→Nat→List Int→S
 | st,_,[]=>st
 | st,i,r :: l=>jz1 step (step st i r) (i+1) l
theorem HzK {S X Z:Type} {F:(X→Option Z)→X→Option Z} (mk:S→Nat→Nat→X) (g:S→Nat→Z) (s:List UInt8) (step:S→Nat→Int→S) (Pre:S→Nat→Prop) (hl:s.length≤100000000)
 (h:∀ back st i p,p < s.length→i≤p→Pre st i→czc ((rune s p).1:Int)→F back (mk st i p)=back (mk (step st i ((rune s p).1:Int)) (i+1) (p+(rune s p).2)))
 (hp:∀ st i r,czc r→Pre st i→Pre (step st i r) (i+1))
 (hend:∀ back st i p,s.length≤p→Pre st i→F back (mk st i p)=some (g st p)) (st:S) (h0:Pre st 0):∃ p,iter F big (mk st 0 0)=some (g (jz1 step st 0 (rs s)) p):=by
 have key:∀ k n p i st,s.length - p≤k→k < n→i≤p→Pre st i→∃ q,iter F n (mk st i p)=some (g (jz1 step st i (rs (s.drop p))) q):=by
  intro k;induction k with
  | zero =>
   intro n p i st hk hn hi hpre;obtain ⟨m,rfl⟩:∃ m,n=m+1:=⟨n - 1,by omega⟩;refine ⟨p,?_⟩;rw [bzS,hend _ _ _ _ (by omega) hpre,List.drop_eq_nil_of_le (by omega)];rfl
  | succ k ih =>
   intro n p i st hk hn hi hpre;obtain ⟨m,rfl⟩:∃ m,n=m+1:=⟨n - 1,by omega⟩;by_cases hlt:p < s.length
   ·obtain ⟨e,hw⟩:=rs_at hlt;have hr:czc ((rune s p).1:Int):=by rw [qzl];exact zz4 _
    rw [bzS,h _ _ _ _ hlt hi hpre hr,e];exact ih m (p+(rune s p).2) (i+1) _ (by omega) (by omega) (by omega) (hp _ _ _ hr hpre)
   ·refine ⟨p,?_⟩;rw [bzS,hend _ _ _ _ (by omega) hpre,List.drop_eq_nil_of_le (by omega)];rfl
 have:=key s.length big 0 0 st (by omega) (by rw [mzJ];omega) (by omega) h0;simpa using this
theorem tzc {r:Int} (h:czc r):(Lib.encodeRune r).length≤4:=by
 obtain ⟨n,rfl⟩:=Int.eq_ofNat_of_zero_le h.1;rw [encZ n h];split
 ·simp
 ·split
  ·simp
  ·split<;>simp
theorem pzx (n:Nat):UInt8.ofNat (IntKind.u8.wrap (n:Int)).toNat=UInt8.ofNat n:=by
 rw [u8w];apply UInt8.toNat_inj.1;simp [UInt8.toNat_ofNat'];omega
theorem HzY {out:List UInt8} {r:Int} (h:czc r) (hl:out.length≤100000000):lzu (out,r)=some (out++Lib.encodeRune r):=by
 have hu:=u32in h;obtain ⟨n,rfl⟩:=Int.eq_ofNat_of_zero_le h.1;have h':=h;unfold czc at h';rw [encZ n h];have ha:∀ ys:List UInt8,ys.length≤4→app 1 out ys=some (out++ys):=fun ys hy=>appN (by omega)
 unfold lzu;simp only;rw [hu];by_cases c1:n < 128
 ·rw [decide_eq_true (show (n:Int)≤127 by omega),azc,if_pos c1,pzx,ha _ (by simp),aza]
 rw [decide_eq_false (show ¬ (n:Int)≤127 by omega),azb,if_neg c1];unfold izy fz7;simp only;rw [hu];have d6:=yzm n 64;have d12:=yzm n 4096;have d18:=yzm n 262144;simp only [Int.cast_ofNat_Int] at d6 d12 d18;rw [d6,d12,d18,lo6,lo6,lo6];simp only [Int.toNat_natCast];by_cases c2:n < 2048
 ·rw [decide_eq_true (show (n:Int)≤2047 by omega),azc,if_pos c2,hi5 (by omega),Int.toNat_natCast,ha _ (by simp),aza,aza]
 rw [decide_eq_false (show ¬ (n:Int)≤2047 by omega),azb,if_neg c2];by_cases c3:n < 65536
 ·rw [if_pos c3,hi4 (by omega),Int.toNat_natCast];by_cases c4:(n:Int) < 55296
  ·rw [decide_eq_true c4,azc,aza,azc,ha _ (by simp),aza,aza]
  ·rw [decide_eq_false c4,azb,decide_eq_true (show 57343 < (n:Int) by omega),azc,decide_eq_true (show (n:Int)≤65535 by omega),aza,azc,ha _ (by simp),aza,aza]
 ·rw [if_neg c3,hi3 (by omega),Int.toNat_natCast,decide_eq_false (show ¬ (n:Int) < 55296 by omega),azb,decide_eq_true (show 57343 < (n:Int) by omega),azc,decide_eq_false (show ¬ (n:Int)≤65535 by omega),aza,azb,
   decide_eq_true (show 65535 < (n:Int) by omega),azc,decide_eq_true (show (n:Int)≤1114111 by omega),azc,ha _ (by simp),aza,aza]
theorem szg {out:List UInt8} {r:Int} (h:czc r) (hl:out.length≤100000000):∃ k,azx (out,(),r)=some ((out++Lib.encodeRune r,k,()),()):=by
 unfold azx;simp only;rw [show kzd (out,())=some (out,()) from rfl,aza,HzY h hl,aza];exact ⟨_,rfl⟩
def selS (f n:Int) (out:List UInt8) (i:Nat) (r:Int):List UInt8:=if f≤(i:Int)∧(i:Int) - f < n then out++Lib.encodeRune r else out
theorem part_is {s:List UInt8} {f n:Int} (hl:s.length≤2000000) (hf:0≤f) (hf2:f≤9223372036854775807):mzm (s,f,n)=some (jz1 (selS f n) [] 0 (rs s)):=by
 obtain ⟨p,e⟩:=HzK (F:=kzr) (fun (out:List UInt8) (i p:Nat)=>(out,f,n,(),(i:Int),s,p)) (fun (out:List UInt8) p=>(out,(),s,p)) s (selS f n) (fun out i=>out.length≤4*i) (by omega)
  (fun back out i p hp hi hpre hr=>by
   obtain ⟨k,hk⟩:=szg (out:=out) hr (by omega);unfold kzr selS;simp only;rw [decide_eq_true hp,azc,hk,aza,wr1 (by omega)];by_cases c1:f≤(i:Int)
   ·rw [decide_eq_true c1,azc,azp (by omega) (by omega)];by_cases c2:(i:Int) - f < n
    ·rw [decide_eq_true c2,if_pos ⟨c1,c2⟩];rfl
    ·rw [decide_eq_false c2,if_neg (fun c=>c2 c.2)];rfl
   ·rw [decide_eq_false c1,if_neg (fun c=>c1 c.1)];rfl)
  (fun out i r hr hpre=>by
   have:=tzc hr;unfold selS;split
   ·rw [List.length_append];omega
   ·omega)
  (fun back out i p hp hpre=>by
   unfold kzr;simp only;rw [decide_eq_false (by omega),azb]) [] (by simp)
 unfold mzm;simp only;rw [show rzM ([],f,n,(),0,s,0)=_ from e,aza];rfl
theorem Lzb {f n:Int}:∀ (l:List Int) (i:Nat) (out:List UInt8),f+n≤(i:Int)→jz1 (selS f n) out i l=out
 | [],_,_,_=>rfl
 | r :: l,i,out,h=>by
  simp only [jz1];have e:selS f n out i r=out:=by unfold selS;rw [if_neg (by omega)]
  rw [e];exact Lzb l (i+1) out (by omega)
theorem Lzc {f:Nat} {n:Int}:∀ (l:List Int) (i:Nat) (out:List UInt8),f≤i→jz1 (selS (f:Int) n) out i l=out++encs (l.take ((f:Int)+n - i).toNat)
 | [],_,_,_=>by simp [jz1,encs]
 | r :: l,i,out,h=>by
  simp only [jz1];by_cases c:(i:Int) - f < n
  ·have e:selS (f:Int) n out i r=out++Lib.encodeRune r:=by unfold selS;rw [if_pos ⟨by omega,c⟩]
   rw [e,Lzc l (i+1) _ (by omega)];have e2:((f:Int)+n - (i:Nat)).toNat=((f:Int)+n - ((i+1:Nat):Int)).toNat+1:=by omega
   rw [e2,List.take_succ_cons];unfold encs;rw [List.flatMap_cons,List.append_assoc]
  ·have e:=Lzb (f:=(f:Int)) (n:=n) (r :: l) i out (by omega);simp only [jz1] at e;rw [e,show ((f:Int)+n - (i:Nat)).toNat=0 by omega];simp [encs]
theorem sel_is {f:Nat} {n:Int}:∀ (l:List Int) (i:Nat) (out:List UInt8),i≤f→jz1 (selS (f:Int) n) out i l=out++encs ((l.drop (f - i)).take n.toNat)
 | [],_,_,_=>by simp [jz1,encs]
 | r :: l,i,out,h=>by
  by_cases c:i=f
  ·subst c;rw [Lzc (r :: l) i out (Nat.le_refl _),Nat.sub_self,List.drop_zero,show ((i:Int)+n - (i:Nat)).toNat=n.toNat by omega]
  ·simp only [jz1];have e:selS (f:Int) n out i r=out:=by unfold selS;rw [if_neg (by omega)]
   rw [e,sel_is l (i+1) out (by omega),show f - i=(f - (i+1))+1 by omega,List.drop_succ_cons]
theorem wzS {s:List UInt8} {f:Nat} {n:Int} (hl:s.length≤2000000) (hf2:f≤9223372036854775807):mzm (s,(f:Int),n)=some (encs (((rs s).drop f).take n.toNat)):=by
 rw [part_is hl (by omega) (by omega),sel_is _ _ _ (by omega)];rfl
def dz2 (up:Bool) (r:Int):Int:=if up then (if 97≤r∧r≤122 then r - 32 else r) else (if 65≤r∧r≤90 then r+32 else r)
theorem tzM {up:Bool} {r:Int} (h:czc r):czc (dz2 up r):=by
 unfold czc at h ⊢;unfold dz2;split<;>split<;>omega
theorem Jzy {s:List UInt8} {up:Bool} (hl:s.length≤2000000):ozl (s,up)=some (encs ((rs s).map (dz2 up))):=by
 obtain ⟨p,e⟩:=HzK (F:=izU) (fun (out:List UInt8) (_ p:Nat)=>(out,up,(),s,p)) (fun (out:List UInt8) p=>(out,(),s,p)) s (fun out _ r=>out++Lib.encodeRune (dz2 up r)) (fun out i=>out.length≤4*i) (by omega)
  (fun back out i p hp hi hpre hr=>by
   have hc:=tzM (up:=up) hr;obtain ⟨k,hk⟩:=szg (out:=out) hc (by omega);obtain ⟨k',hk'⟩:=szg (out:=out) hr (by omega);unfold izU;simp only;rw [decide_eq_true hp,azc];generalize ((rune s p).1:Int)=r at *;have hr':=hr;unfold czc at hr';rw [i32_in (n:=r+-32) (by omega) (by omega),i32_in (n:=r+32) (by omega) (by omega)];unfold dz2 at hk hc;cases up with
   | true =>
    simp only [if_true,Bool.not_true,azc,azb] at hk ⊢;by_cases c1:97≤r
    ·rw [decide_eq_true c1,azc];by_cases c2:r≤122
     ·rw [if_pos ⟨c1,c2⟩] at hk;rw [decide_eq_true c2,azc,show r+-32=r - 32 by omega,hk,aza];simp only [dz2,if_true];rw [if_pos ⟨c1,c2⟩]
     ·rw [decide_eq_false c2,azb,hk',aza];simp only [dz2,if_true];rw [if_neg (fun c=>c2 c.2)]
    ·rw [decide_eq_false c1,azb,hk',aza];simp only [dz2,if_true];rw [if_neg (fun c=>c1 c.1)]
   | false =>
    simp only [Bool.false_eq_true,if_false,Bool.not_false,azc,azb] at hk ⊢;by_cases c1:65≤r
    ·rw [decide_eq_true c1,azc];by_cases c2:r≤90
     ·rw [if_pos ⟨c1,c2⟩] at hk;rw [decide_eq_true c2,azc,hk,aza];simp only [dz2,Bool.false_eq_true,if_false];rw [if_pos ⟨c1,c2⟩]
     ·rw [decide_eq_false c2,azb,hk',aza];simp only [dz2,Bool.false_eq_true,if_false];rw [if_neg (fun c=>c2 c.2)]
    ·rw [decide_eq_false c1,azb,hk',aza];simp only [dz2,Bool.false_eq_true,if_false];rw [if_neg (fun c=>c1 c.1)])
  (fun out i r hr hpre=>by
   have:=tzc (tzM (up:=up) hr);rw [List.length_append];omega)
  (fun back out i p hp hpre=>by
   unfold izU;simp only;rw [decide_eq_false (by omega),azb]) [] (by simp)
 unfold ozl;simp only;rw [show qzx ([],up,(),s,0)=_ from e,aza];have:∀ (l:List Int) (i:Nat) (out:List UInt8),jz1 (fun out _ r=>out++Lib.encodeRune (dz2 up r)) out i l=out++encs (l.map (dz2 up)):=by
  intro l;induction l with
  | nil=>intro i out;simp [jz1,encs]
  | cons r l ih =>
   intro i out;simp only [jz1];rw [ih];unfold encs;rw [List.map_cons,List.flatMap_cons,List.append_assoc]
 rw [this];rfl
end Go.Proofs.YtdgpkbnnljblmaaGreatDoor

/- YB -/
namespace Go.Proofs.YtdgpkbnnljblmaaGreatDoor
open Go Go.Ev Go.Lib
theorem bifI2 {α:Type} (p:Prop) [Decidable p] (x y:α):(bif decide p then x else y)=if p then x else y:=by by_cases h:p<;>simp [h]
theorem subG {A:Type} {D:List A} {i k:Nat} (h:i≤k) (h2:k≤D.length):sub D (i:Int) (k:Int)=some ((D.take k).drop i):=by
 have hd:(decide ((0:Int)≤(i:Int))&&decide ((i:Int)≤(k:Int))&&decide ((k:Int)≤(D.length:Int)))=true:=by
  simp;omega
 simp only [sub,hd,cond_true,Int.toNat_natCast]
 try rfl
def amt (v:Val) (lo:Int):Int⊕Val:=if (numR v).2.2=true then (if (numR v).1.S=0∧lo≤(numR v).1.M then .inl (numR v).1.M else .inr (vE 15)) else .inr (numR v).2.1
theorem amount_is {v:Val} {lo:Int} (h:okW v):lzS (v,lo)=some (match amt v lo with | .inl m=>(m,v0,true) | .inr f=>(0,f,false)):=by
 unfold lzS amt;simp only [gzv,aza];rw [(kzx h).1,aza];rcases numR v with ⟨⟨M,S⟩,f,b⟩;cases b with
 | false=>rfl
 | true =>
  simp only [Bool.not_true,azb,if_true];by_cases c1:S=0
  ·rw [decide_eq_true c1];by_cases c2:M < lo
   ·rw [decide_eq_true c2,if_neg (by omega)];rfl
   ·rw [decide_eq_false c2,if_pos ⟨c1,by omega⟩];rfl
  ·rw [decide_eq_false c1,if_neg (fun c=>c1 c.1)];rfl
def gzi (k:Int) (i:Nat):Int:=if k=17∧i=0 then 1 else 0
def amtS (k:Int) (x:List Int×Nat) (v:Val):(List Int×Nat)⊕(List Int⊕Val):=match amt v (gzi k x.2) with
 | .inl m=>.inl (x.1.set x.2 m,x.2+1)
 | .inr f=>.inr (.inr f)
def gzS (k:Int) (vs:List Val):List Int⊕Val:=azL (amtS k) (fun x=>.inl x.1) ([1,1],0) vs
def amtG:List Int⊕Val→(List Int×Val)⊕(Unit×Val)
 | .inl ns=>.inl (ns,v0)
 | .inr f=>.inr ((),f)
theorem inb_is {n i:Nat} (h:i < n):inb n (i:Int)=some i:=by
 simp [inb,h]
theorem DzX {A:Type} {l:List A} {i:Nat} (h:i < l.length):nth l i=some l[i]:=by
 simp [nth,h]
theorem HzW {k:Int} {vs:List Val} (hv:∀ v∈vs,okW v) (hl:vs.length≤2):pzl (k,v0,[1,1],vs,(vs.length:Int),0)=some (amtG (gzS k vs)) :=
 bzb (F:=hzC) (fun (x:List Int×Nat) (i:Nat)=>(k,v0,x.1,vs,(vs.length:Int),(i:Int))) amtG vs (amtS k) (fun x=>.inl x.1) (fun x i=>x.2=i∧x.1.length=2) (by omega)
  (fun back x i hi hp=>by
   obtain ⟨ns,j⟩:=x;simp only at hp;obtain ⟨rfl,h2⟩:=hp;unfold hzC amtS;simp only;have ha:=fun lo=>amount_is (lo:=lo) (hv _ (List.getElem_mem hi))
   have hb:=inb_is (show j < ns.length by omega);have hn:=DzX (show j < ns.length by omega);rw [ltT hi,azc,idxG hi,aza,wr1 (by omega)];simp only [ha,hb,hn,aza];by_cases c1:k=17
   ·rw [decide_eq_true c1,azc];by_cases c2:(j:Int)=0
    ·rw [decide_eq_true c2,azc,show gzi k j=1 from if_pos ⟨c1,by omega⟩];cases amt vs[j] 1<;>rfl
    ·rw [decide_eq_false c2,azb,show gzi k j=0 from if_neg (by omega)];cases amt vs[j] 0<;>rfl
   ·rw [decide_eq_false c1,azb,show gzi k j=0 from if_neg (fun c=>c1 c.1)];cases amt vs[j] 0<;>rfl)
  (fun x i hi x' hp h=>by
   obtain ⟨ns,j⟩:=x;simp only at hp;obtain ⟨rfl,h2⟩:=hp;unfold amtS at h;simp only at h;revert h;cases amt vs[j] (gzi k j)<;>intro h<;>cases h;simp [h2])
  (fun back x hp=>by
   unfold hzC;simp only;rw [ltF,azb];rfl) ([1,1],0) ⟨rfl,rfl⟩
def nzl (k:Int) (s:List UInt8) (ns:List Int):Val :=
 let l:=rs s
 if k=15 then dzK (encs (l.take (ns.getD 0 0).toNat))
 else if k=16 then dzK (encs ((l.drop (l.length - (ns.getD 0 0).toNat)).take (ns.getD 0 0).toNat))
 else dzK (encs ((l.drop (ns.getD 0 0 - 1).toNat).take (ns.getD 1 0).toNat))
theorem HzC (s:List UInt8) (a b:Int):nzl 15 s [a,b]=dzK (encs (((rs s).drop 0).take a.toNat)):=by simp [nzl]
theorem wzT (s:List UInt8) (a b:Int):nzl 16 s [a,b]=dzK (encs (((rs s).drop ((rs s).length - a.toNat)).take a.toNat)):=by simp [nzl]
theorem HzD (s:List UInt8) (a b:Int):nzl 17 s [a,b]=dzK (encs (((rs s).drop (a - 1).toNat).take b.toNat)):=by simp [nzl]
theorem czS {v:Val} (h:okW v):(v.Kind=4→worR v=([],v,false))∧(v.Kind≠4→worR v=(texR v,v0,true)):=by
 unfold worR ezB;rw [(tex_eq h).1];constructor
 ·intro h4;rw [decide_eq_true h4];rfl
 ·intro h4;rw [decide_eq_false h4];rfl
theorem amt_ok {v:Val} {lo m:Int} (h:okW v) (e:amt v lo = .inl m):lo≤m∧m≤9223372036854775807:=by
 have:=(ozD h).2;unfold I64 at this;unfold amt at e;split at e
 ·split at e
  ·rename_i hc;cases e;exact ⟨hc.2,this.2⟩
  ·cases e
 ·cases e
theorem qzv {s:List UInt8} (hv:validD s=true) {i k:Nat}:(encs (((rs s).drop i).take k)).length≤s.length:=by
 by_cases h:i≤(rs s).length
 ·have:=(slice_rs hv (i:=i) (k:=min k ((rs s).length - i)) (by omega)).2.2;rw [show ((rs s).drop i).take k=((rs s).drop i).take (min k ((rs s).length - i)) from by
   rw [List.take_eq_take_iff,List.length_drop];omega]
  exact this
 ·rw [List.drop_eq_nil_of_le (by omega)];simp [encs]
theorem Fzr {k:Int}:∀ {vs:List Val} {ns:List Int},vs.length≤2→(∀ v∈vs,okW v)→gzS k vs = .inl ns→∃ a b:Int,ns=[a,b]∧0≤a∧a≤9223372036854775807∧0≤b∧b≤9223372036854775807∧(k=17→1≤a)
 | [],ns,_,_,e=>by
  cases e;exact ⟨1,1,rfl,by omega,by omega,by omega,by omega,fun _=>by omega⟩
 | [v],ns,_,hv,e=>by
  unfold gzS at e;simp only [azL,amtS] at e;cases h:amt v (gzi k 0) with
  | inr f=>rw [h] at e;cases e
  | inl m =>
   rw [h] at e;cases e;have:=amt_ok (hv v (by simp)) h;unfold gzi at this;refine ⟨m,1,rfl,?_,this.2,by omega,by omega,fun hk=>?_⟩
   ·have:=this.1;split at this<;>omega
   ·rw [if_pos ⟨hk,rfl⟩] at this;exact this.1
 | [v,w],ns,_,hv,e=>by
  unfold gzS at e;simp only [azL,amtS] at e;cases h:amt v (gzi k 0) with
  | inr f=>rw [h] at e;cases e
  | inl m =>
   rw [h] at e;simp only at e;have h1:=amt_ok (hv v (by simp)) h;unfold gzi at h1;cases h':amt w (gzi k (0+1)) with
   | inr f=>rw [h'] at e;cases e
   | inl m' =>
    rw [h'] at e;cases e;have h2:=amt_ok (hv w (by simp)) h';unfold gzi at h2;rw [if_neg (by omega)] at h2;refine ⟨m,m',rfl,?_,h1.2,h2.1,h2.2,fun hk=>?_⟩
    ·have:=h1.1;split at this<;>omega
    ·rw [if_pos ⟨hk,rfl⟩] at h1;exact h1.1
 | _ :: _ :: _ :: _,_,h,_,_=>by simp only [List.length_cons] at h;omega
theorem rzx {v:Val} (h:okW v):ezB v=some (worR v):=(tzC h).1
theorem LzB {k:Int} (hk:k=15∨k=16∨k=17) {v:Val} {vs:List Val} (h:okW v) (hv:∀ w∈vs,okW w) (hl:vs.length≤2) :
 czn (k,v :: vs)=some (if v.Kind=4 then v else match gzS k vs with | .inl ns=>nzl k (texR v) ns | .inr f=>f):=by
 unfold czn;simp only;rw [idxZ,aza,rzx h,aza];by_cases h4:v.Kind=4
 ·rw [(czS h).1 h4,if_pos h4];rfl
 rw [(czS h).2 h4,if_neg h4];simp only [Bool.not_true,azb];have hb:cz7 (k,v :: vs,v0,texR v,k)=some (.inl ((),v0)):=by
  unfold cz7;rcases hk with rfl | rfl | rfl<;>rfl
 rw [show (⟨0,⟨0,0⟩,[],false,0⟩:Val)=v0 from rfl,hb];simp only [aza,osum];have hs:sub (v :: vs) 1 (((v :: vs).length:Nat):Int)=some vs:=by
  have:=subG (D:=v :: vs) (i:=1) (k:=(v :: vs).length) (by simp) (by simp);rw [List.take_length] at this;simpa using this
 rw [hs,aza,HzW hv hl,aza];cases e:gzS k vs with
 | inr f=>rfl
 | inl ns =>
  obtain ⟨a,b,rfl,a0,a1,b0,b1,ha⟩:=Fzr hl hv e;obtain ⟨tl,tv⟩:=szd h h4;rw [show amtG (.inl [a,b]) = .inl ([a,b],v0) from rfl];simp only;have i1:idx [a,b] 1=some b:=rfl;have hrl:=szE (texR v);have ht:∀ x:List UInt8,x.length≤3000→(obnd (dzt x) fun y=>some y)=some (dzK x):=fun x hx=>by rw [rzw (by omega),aza]
  rcases hk with rfl | rfl | rfl
  ·have hp:=wzS (s:=texR v) (f:=0) (n:=a) (by omega) (by omega);rw [show decide ((15:Int)=15)=true from rfl,azc,idxZ,aza,show (0:Int)=((0:Nat):Int) from rfl,hp,aza,ht _ (by have:=qzv tv (i:=0) (k:=a.toNat);omega),HzC]
  ·rw [show decide ((16:Int)=15)=false from rfl,azb,show decide ((16:Int)=16)=true from rfl,azc];rw [idxZ];have hr:=runes_is (s:=texR v) (by omega);unfold rzj at hr;rw [hr,aza,aza,aza,azp (by omega) (by omega),bifI2,show (if ((rs (texR v)).length:Int) - a < 0 then 0 else ((rs (texR v)).length:Int) - a)=(((rs (texR v)).length - a.toNat:Nat):Int) from by split<;>omega];rw [wzS (by omega) (by omega),aza,ht _ (by have:=qzv tv (i:=(rs (texR v)).length - a.toNat) (k:=a.toNat);omega),wzT]
  ·rw [show decide ((17:Int)=15)=false from rfl,azb,show decide ((17:Int)=16)=false from rfl,azb,show decide ((17:Int)=17)=true from rfl,azc];have:=ha rfl;rw [idxZ,aza,i1,aza,azp (by omega) (by omega),show a - 1=(((a - 1).toNat:Nat):Int) by omega,wzS (by omega) (by omega),aza,ht _ (by have:=qzv tv (i:=(a - 1).toNat) (k:=b.toNat);omega),HzD]
end Go.Proofs.YtdgpkbnnljblmaaGreatDoor

/- YD -/
namespace Go.Proofs.YtdgpkbnnljblmaaGreatDoor
open Go Go.Ev Go.Lib
theorem Hzj {out w:List UInt8} (h:out.length+w.length≤100000000):∃ k,dza (out,(),w)=some ((out++w,k,()),()):=by
 unfold dza;simp only;rw [show kzd (out,())=some (out,()) from rfl,aza];simp only;rw [appN (by omega),aza];exact ⟨_,rfl⟩
theorem uzS {v:Val} (h:okW v):(worR v).1.length≤3000∧validD (worR v).1=true:=by
 by_cases h4:v.Kind=4
 ·rw [(czS h).1 h4];exact ⟨by simp,rfl⟩
 ·rw [(czS h).2 h4];exact szd h h4
def conS (s:List UInt8) (v:Val):List UInt8⊕(List UInt8⊕(List UInt8×Val)):=bif (worR v).2.2 then .inl (s++(worR v).1) else .inr (.inr (s,(worR v).2.1))
def conL (s:List UInt8) (l:List Val):List UInt8⊕(List UInt8×Val):=azL conS .inl s l
def conG:List UInt8⊕(List UInt8×Val)→(List UInt8×(Val×Unit))⊕(List UInt8×(Val×Unit))
 | .inl s=>.inl (s,v0,())
 | .inr (s,f)=>.inr (s,f,())
theorem JzB {s s':List UInt8} {v:Val} (h:okW v) (e:conS s v = .inl s'):s'.length≤s.length+3000:=by
 have:=(uzS h).1;unfold conS at e;revert e;cases (worR v).2.2<;>intro e<;>cases e;rw [List.length_append];omega
theorem AzF:∀ {l:List Val} {s s':List UInt8},(∀ v∈l,okW v)→conL s l = .inl s'→s'.length≤s.length+3000*l.length
 | [],s,s',_,e=>by simp only [conL,azL] at e;cases e;simp
 | v :: l,s,s',h,e=>by
  simp only [conL,azL] at e;cases hs:conS s v with
  | inr y =>
   rw [hs] at e;unfold conS at hs;revert hs;cases (worR v).2.2<;>intro hs<;>cases hs;cases e
  | inl s1 =>
   rw [hs] at e;have h1:=JzB (h v (by simp)) hs;have h2:=AzF (l:=l) (fun w hw=>h w (by simp [hw])) e;simp only [List.length_cons];omega
theorem step3 {x y z i:Nat} (h1:y≤z+3000*i) (h2:x≤y+3000):x≤z+3000*(i+1):=by
 rw [Nat.mul_add,Nat.mul_one,← Nat.add_assoc];exact Nat.le_trans h2 (Nat.add_le_add_right h1 _)
theorem many_l3 {l:List Val} {s:List UInt8} (hl:l.length≤40) (h:∀ v∈l,okW v) (hs:s.length≤10000000):rzK (s,v0,(),l,(l.length:Int),0)=some (conG (conL s l)) :=
 bzb (F:=kzn) (fun (s:List UInt8) (i:Nat)=>(s,v0,(),l,(l.length:Int),(i:Int))) conG l conS .inl (fun s' i=>s'.length≤s.length+3000*i) (by omega)
  (fun back s' i hi hp=>by
   have ho:=h _ (List.getElem_mem hi);have hw:=(uzS ho).1;obtain ⟨k,hk⟩:=Hzj (out:=s') (w:=(worR l[i]).1) (by omega);unfold kzn conS;simp only;rw [ltT hi,azc,idxG hi,aza,rzx ho,aza,hk,aza,wr1 (by omega)];cases (worR l[i]).2.2<;>rfl)
  (fun s' i hi s'' hp e=>by
   exact step3 hp (JzB (h _ (List.getElem_mem hi)) e))
  (fun back s' hp=>by
   unfold kzn;simp only;rw [ltF,azb];rfl) s (by simp)
def conA (s:List UInt8) (l:List Arg):List UInt8⊕(List UInt8×Val):=azL (fun s a=>match conL s a.L with | .inl x=>.inl x | .inr y=>.inr (.inr y)) .inl s l
theorem many_l2 {l:List Arg} (h:okA l):ozs ([],v0,(),l,(l.length:Int),0)=some (conG (conA [] l)) :=
 bzb (F:=kzl) (fun (s:List UInt8) (i:Nat)=>(s,v0,(),l,(l.length:Int),(i:Int))) conG l (fun s a=>match conL s a.L with | .inl x=>.inl x | .inr y=>.inr (.inr y)) .inl (fun s i=>s.length≤120000*i) (by have:=h.1;omega)
  (fun back s i hi hp=>by
   have h40:=h.1;obtain ⟨h1,h2⟩:=h.2 _ (List.getElem_mem hi);unfold kzl;simp only;rw [ltT hi,azc,idxG hi,aza,many_l3 h1 h2 (by omega),aza,wr1 (by omega)];cases conL s (l[i]).L with
   | inl x=>rfl
   | inr y=>rfl)
  (fun s i hi s' hp e=>by
   obtain ⟨h1,h2⟩:=h.2 _ (List.getElem_mem hi);cases hc:conL s (l[i]).L with
   | inl x =>
    rw [hc] at e;cases e;have:=AzF h2 hc;omega
   | inr y=>rw [hc] at e;cases e)
  (fun back s hp=>by
   unfold kzl;simp only;rw [ltF,azb];rfl) [] (by simp)
theorem JzA:∀ {l:List Arg} {s s':List UInt8},(∀ a∈l,a.L.length≤40∧∀ v∈a.L,okW v)→conA s l = .inl s'→s'.length≤s.length+120000*l.length
 | [],s,s',_,e=>by simp only [conA,azL] at e;cases e;simp
 | a :: l,s,s',h,e=>by
  simp only [conA,azL] at e;cases hc:conL s a.L with
  | inr y=>rw [hc] at e;cases e
  | inl s1 =>
   rw [hc] at e;obtain ⟨h1,h2⟩:=h a (by simp);have h3:=AzF h2 hc;have h4:=JzA (l:=l) (fun b hb=>h b (by simp [hb])) e;simp only [List.length_cons];omega
theorem Mzn {l:List Arg} (h:okA l) (hb:l.any badA=false):bzF (18,l)=some (match conA [] l with | .inl s=>dzK s | .inr y=>y.2):=by
 have hl:=h.1;have hb1:ezg (18,l,v0,18)=some (.inr ((),match conA [] l with | .inl s=>dzK s | .inr y=>y.2)):=by
  unfold ezg;simp only;rw [show decide ((18:Int)=3)=false from rfl,show decide ((18:Int)=11)=false from rfl,show decide ((18:Int)=12)=false from rfl,azb,azb,azb];simp only [decide_true,azc];rw [many_l2 h,aza];cases hc:conA [] l with
  | inr y=>rfl
  | inl s =>
   have:=JzA h.2 hc;rw [show conG (.inl s) = .inl (s,v0,()) from rfl];simp only [osum];rw [show lzQ (s,())=some (s,()) from rfl,aza];simp only;rw [rzw (by simp only [List.length_nil] at this;omega),aza]
 unfold bzF;simp only;rw [lzy (by omega),hb,aza,azb,show (⟨0,⟨0,0⟩,[],false,0⟩:Val)=v0 from rfl,hb1];rfl
end Go.Proofs.YtdgpkbnnljblmaaGreatDoor

/- YH -/
namespace Go.Proofs.YtdgpkbnnljblmaaGreatDoor
open Go Go.Ev Go.Lib
def foldA (op:Int) (l:List Arg):Val:=if op=3 then vN ⟨(cntA 0 l:Nat),0⟩ else match numA [] l with | .inl x=>qz5 op x | .inr v=>v
theorem best_V {op:Int} (hop:op=1∨op=2) (x:List Dec):vN ((x.foldl (best op) none).getD ⟨0,0⟩)=qz5 op x:=by
 cases x with
 | nil=>rcases hop with rfl | rfl<;>rfl
 | cons d xs =>
  rw [List.foldl_cons,show best op none d=some d from rfl,Hzo];rcases hop with rfl | rfl<;>rfl
theorem Kz4 {op:Int} {l:List Arg} (hop:op=0∨op=1∨op=2∨op=3∨op=4) (h:okA l):lzE (op,l)=some (if l.any badA=true then vE 15 else foldA op l):=by
 have hl:=h.1;unfold lzE;simp only [bzw,aza];rw [rz6 (by omega),aza];cases hb:l.any badA with
 | true=>rfl
 | false =>
  simp only [Bool.not_false,Bool.not_true,azb,Bool.false_eq_true,if_false];rw [Jzh h,aza];unfold foldA;by_cases h3:op=3
  ·subst h3;obtain ⟨xs,e,hx⟩:=Ez6 l [];rw [show decide ((3:Int)=3)=true from rfl,e];simp only [Bool.not_true,azb,azc,if_true];rw [uzd,aza,hx];rfl
  ·rw [if_neg h3,decide_eq_false h3,refA_num];cases hn:numA [] l with
   | inr v=>rfl
   | inl x =>
    have hx:=Gzw (fun a ha=>(h.2 a ha).2) (by simp) hn;have hxl:=Bzz (fun a ha=>(h.2 a ha).1) hn;simp only [List.length_nil] at hxl;simp only [Bool.not_true,azb];rcases (show op=1∨op=2∨(op=0∨op=4) by omega) with rfl | rfl | ho
    ·simp only [decide_true,azc];rw [best_is (.inl rfl) (by omega) hx,aza,uzd,aza,best_V (.inl rfl)]
    ·rw [show decide ((2:Int)=1)=false from rfl,azb];simp only [decide_true,azc];rw [best_is (.inr rfl) (by omega) hx,aza,uzd,aza,best_V (.inr rfl)]
    ·rw [decide_eq_false (show ¬ op=1 by omega),azb,decide_eq_false (show ¬ op=2 by omega),azb,refSum_is (by omega) hx,aza];unfold qz5;rw [if_neg (show ¬ op=1 by omega),if_neg (show ¬ op=2 by omega)];by_cases hs:(sumD ⟨0,0⟩ x).2=0
     ·have so:=(yzu (l:=x) okd0).1 hs;rw [decide_eq_true hs,azc,if_pos hs];by_cases h0:op=0
      ·rw [decide_eq_false (show ¬ op=4 by omega),azb,if_pos h0,lzc,aza];unfold numV;rw [if_pos hs]
      ·rw [decide_eq_true (show op=4 by omega),azc,if_neg h0,(divR_eq so (okdI (by unfold I64;omega))).2,aza,lzc,aza]
     ·rw [decide_eq_false hs,azb,if_neg hs,lzc,aza]
def rtG (op:Int):List Bool⊕Val→((Int×Bool)×Val)⊕(Unit×Val)
 | .inl s=>.inl (((s.length:Int),outT op s),v0)
 | .inr f=>.inr ((),f)
theorem outT_push {op:Int} (s:List Bool) (t:Bool):outT op (s++[t])=if op=11 then (outT op s&&t) else (outT op s||t):=by
 unfold outT;by_cases h:op=11<;>simp [h]
theorem Kz8 {op:Int} {a:Arg} {acc:List Bool} (hL:a.L.length≤40) (hv:∀ v∈a.L,okW v) (ha:acc.length≤100000) :
 nzU (op,v0,(acc.length:Int),outT op acc,a,0)=some (rtG op (truL a.Area acc a.L)):=by
 refine bzb (F:=fzv) (fun (s:List Bool) i=>(op,v0,(s.length:Int),outT op s,a,(i:Int))) (rtG op) a.L (truS a.Area) .inl (fun s i=>s.length≤acc.length+i) (by omega) ?_ ?_ ?_ acc (by simp)
 ·intro back s i hi hs;unfold fzv;simp only;have hn:=(tzw (hv a.L[i] (List.getElem_mem hi))).2;rw [ltT hi,azc,idxG hi,aza,wr1 (by omega)];unfold truS yzt;have e:(obnd (czX a.L[i]) fun y =>
   brn (!y.2.snd) (some (Sum.inr ((),y.2.fst)))
    (brn (decide (op=11))
     (brn (outT op s) (back (op,v0,IntKind.i64.wrap ((s.length:Int)+1),y.fst,a,((i+1:Nat):Int)))
      (back (op,v0,IntKind.i64.wrap ((s.length:Int)+1),false,a,((i+1:Nat):Int))))
     (brn (outT op s) (back (op,v0,IntKind.i64.wrap ((s.length:Int)+1),true,a,((i+1:Nat):Int)))
      (back (op,v0,IntKind.i64.wrap ((s.length:Int)+1),y.fst,a,((i+1:Nat):Int)))))) =
   ozg (fun s'=>back (op,v0,(s'.length:Int),outT op s',a,((i+1:Nat):Int))) (rtG op) (bif (truR a.L[i]).2.2 then (.inl (s++[(truR a.L[i]).1]):List Bool⊕(List Bool⊕Val)) else .inr (.inr (truR a.L[i]).2.1)):=by
   rw [hn,aza,wr1 (by omega)];cases (truR a.L[i]).2.2 with
   | false=>rfl
   | true =>
    simp only [Bool.not_true,azb,cond_true,ozg];rw [outT_push,List.length_append,List.length_singleton];by_cases ho:op=11
    ·rw [decide_eq_true ho,azc,if_pos ho];cases outT op s<;>cases (truR a.L[i]).1<;>rfl
    ·rw [decide_eq_false ho,azb,if_neg ho];cases outT op s<;>cases (truR a.L[i]).1<;>rfl
  cases a.Area with
  | false=>simp only [azb,Bool.false_and,cond_false];exact e
  | true =>
   simp only [azc,Bool.true_and];by_cases h1:(a.L[i]).Kind=1
   ·rw [decide_eq_true h1];simp only [Bool.not_true,azb,Bool.false_and,cond_false];exact e
   ·rw [decide_eq_false h1];simp only [Bool.not_false,azc,Bool.true_and];by_cases h3:(a.L[i]).Kind=3
    ·rw [decide_eq_true h3];simp only [Bool.not_true,azb,Bool.false_and,cond_false];exact e
    ·rw [decide_eq_false h3];simp only [Bool.not_false,azc,Bool.true_and];by_cases h4:(a.L[i]).Kind=4
     ·rw [decide_eq_true h4];simp only [Bool.not_true,azb,cond_false];exact e
     ·rw [decide_eq_false h4];rfl
 ·intro s i hi s' hs hst;have:=Czw hst;omega
 ·intro back s hs;unfold fzv;simp only;rw [ltF,azb];rfl
theorem Kz7 {op:Int} {l:List Arg} (hop:op=11∨op=12) (h:okA l):lzF (op,l)=some (if l.any badA=true then vE 15 else truV op l):=by
 have hl:=h.1;have h0:decide (op=11)=outT op []:=by rcases hop with rfl | rfl<;>rfl
 unfold lzF;simp only [bzw,aza];rw [rz6 (by omega),aza];cases hb:l.any badA with
 | true=>rfl
 | false =>
  simp only [Bool.not_false,Bool.not_true,azb,Bool.false_eq_true,if_false];have:=bzb (F:=fzt) (fun (s:List Bool) i=>(op,l,v0,(s.length:Int),outT op s,(i:Int))) (rtG op) l (fun acc a=>match truL a.Area acc a.L with | .inl x=>.inl x | .inr v=>.inr (.inr v)) .inl (fun s i=>s.length≤40*i) (by omega)
   (fun back s i hi hs=>by
    have hai:=h.2 l[i] (List.getElem_mem hi);unfold fzt;simp only;rw [ltT hi,azc,idxG hi,aza,wr1 (by omega),Kz8 hai.1 hai.2 (by omega),aza];cases truL (l[i]).Area s (l[i]).L<;>rfl)
   (fun s i hi s' hs hst=>by
    have hai:=h.2 l[i] (List.getElem_mem hi);cases hn:truL (l[i]).Area s (l[i]).L with
    | inl x =>
     rw [hn] at hst;simp only at hst;injection hst with hst;subst hst;have:=uzP hn;omega
    | inr v=>rw [hn] at hst;cases hst)
   (fun back s hs=>by
    unfold fzt;simp only;rw [ltF,azb];rfl) [] (by simp)
  have this:nzT (op,l,v0,0,outT op [],0)=some (rtG op (truA [] l)):=this;rw [h0,show (⟨0,⟨0,0⟩,[],false,0⟩:Val)=v0 from rfl,this,aza];unfold truV;cases truA [] l with
  | inr f=>rfl
  | inl s =>
   simp only [rtG,osum];by_cases hs:s=[]
   ·subst hs;rfl
   ·have:0 < s.length:=List.length_pos_iff.2 hs;rw [decide_eq_false (show ¬ (s.length:Int)=0 by omega),azb,if_neg hs];rfl
end Go.Proofs.YtdgpkbnnljblmaaGreatDoor

/- YI -/
namespace Go.Proofs.YtdgpkbnnljblmaaGreatDoor
open Go Go.Ev Go.Lib
theorem szS {s:List UInt8} (hv:validD s=true):s.length≤3*ulen (rs s):=by
 have h1:=yzg s.length s (Nat.le_refl _) hv;have h2:=uzD s.length s (Nat.le_refl _);have key:∀ l:List Int,(∀ r∈l,czc r)→(encs l).length≤3*ulen l:=by
  intro l;induction l with
  | nil=>intro _;simp [encs]
  | cons r l ih =>
   intro h;have hr:=h r (by simp);have ih:=ih (fun x hx=>h x (by simp [hx]));have:(Lib.encodeRune r).length≤3*(if r < 65536 then 1 else 2):=by
    obtain ⟨n,rfl⟩:=Int.eq_ofNat_of_zero_le hr.1;rw [encZ n hr];by_cases c:n < 65536
    ·rw [if_pos (show (n:Int) < 65536 by omega)];split
     ·simp
     ·split
      ·simp
      ·simp
    ·rw [if_neg (show ¬ (n:Int) < 65536 by omega),if_neg (show ¬ n < 128 by omega),if_neg (show ¬ n < 2048 by omega),if_neg c];simp
   unfold encs at ih ⊢;rw [List.flatMap_cons,List.length_append,ulen];omega
 have:=key _ h2;rw [h1] at this;exact this
theorem mzE {s:List UInt8} (hv:validD s=true):(bzu s).2=0↔ulen (rs s)≤1000:=by
 unfold bzu;rw [if_pos hv];by_cases h:1000 < ulen (rs s)
 ·rw [if_pos h];simp;omega
 ·rw [if_neg h];simp;omega
theorem units_app {s w:List UInt8} (hv:validD s=true) (hw:validD w=true) (h:¬ (bzu s).2=0):¬ (bzu (s++w)).2=0:=by
 rw [mzE hv] at h;rw [mzE (by rw [szO hv];exact hw),rs_app hv,Czx];omega
structure CS where
 T:List UInt8
 s:List UInt8
 b:Bool
def CS.ok (x:CS):Prop:=validD x.T=true∧x.s.length≤6000∧(x.b=false→x.s=x.T∧(bzu x.T).2=0)∧(x.b=true→¬ (bzu x.T).2=0)
def csS (x:CS) (v:Val):CS⊕(CS⊕Val) :=
 bif (worR v).2.2 then (let s':=if x.b then x.s else x.s++(worR v).1;.inl ⟨x.T++(worR v).1,s',if x.b then true else !decide ((bzu s').2=0)⟩) else .inr (.inr (worR v).2.1)
theorem csS_ok {x x':CS} {v:Val} (hx:x.ok) (hv:okW v) (e:csS x v = .inl x'):x'.ok:=by
 obtain ⟨h1,h2,h3,h4⟩:=hx;obtain ⟨w1,w2⟩:=uzS hv;unfold csS at e;cases hb:(worR v).2.2 with
 | false=>rw [hb] at e;cases e
 | true =>
  rw [hb,cond_true] at e;simp only at e;cases e;have hvT:validD (x.T++(worR v).1)=true:=by rw [szO h1];exact w2
  refine ⟨hvT,?_,?_,?_⟩
  ·cases hxb:x.b with
   | true=>simp only [if_true];exact h2
   | false =>
    obtain ⟨e1,e2⟩:=h3 hxb;have:=szS h1;rw [mzE h1] at e2;simp only [Bool.false_eq_true,if_false];rw [List.length_append,e1];omega
  ·intro hb';cases hxb:x.b with
   | true=>rw [hxb] at hb';simp at hb'
   | false =>
    rw [hxb] at hb';simp only [Bool.false_eq_true,if_false] at hb' ⊢;obtain ⟨e1,_⟩:=h3 hxb;rw [e1] at hb' ⊢;exact ⟨rfl,by simpa using hb'⟩
  ·intro hb';cases hxb:x.b with
   | true=>exact units_app h1 w2 (h4 hxb)
   | false =>
    rw [hxb] at hb';simp only [Bool.false_eq_true,if_false] at hb';obtain ⟨e1,_⟩:=h3 hxb;rw [e1] at hb';simpa using hb'
def csL (x:CS) (l:List Val):CS⊕Val:=azL csS .inl x l
def csA (x:CS) (l:List Arg):CS⊕Val:=azL (fun x a=>match csL x a.L with | .inl y=>.inl y | .inr f=>.inr (.inr f)) .inl x l
theorem csL_ok:∀ {l:List Val} {x x':CS},x.ok→(∀ v∈l,okW v)→csL x l = .inl x'→x'.ok
 | [],x,x',hx,_,e=>by simp only [csL,azL] at e;cases e;exact hx
 | v :: l,x,x',hx,hv,e=>by
  simp only [csL,azL] at e;cases hs:csS x v with
  | inl y=>rw [hs] at e;exact csL_ok (l:=l) (csS_ok hx (hv v (by simp)) hs) (fun w hw=>hv w (by simp [hw])) e
  | inr y =>
   rw [hs] at e;unfold csS at hs;revert hs;cases (worR v).2.2<;>intro hs<;>cases hs;cases e
theorem csL_con:∀ {l:List Val} {x:CS},(match csL x l with | .inl y=>conL x.T l = .inl y.T | .inr f=>∃ s,conL x.T l = .inr (s,f))
 | [],x=>by simp [csL,conL,azL]
 | v :: l,x=>by
  unfold csL conL;simp only [azL];unfold csS conS;cases (worR v).2.2 with
  | false=>exact ⟨_,rfl⟩
  | true=>exact csL_con (l:=l) (x:=⟨x.T++(worR v).1,_,_⟩)
theorem csA_con:∀ {l:List Arg} {x:CS},(match csA x l with | .inl y=>conA x.T l = .inl y.T | .inr f=>∃ s,conA x.T l = .inr (s,f))
 | [],x=>by simp [csA,conA,azL]
 | a :: l,x=>by
  have h:=csL_con (l:=a.L) (x:=x);unfold csA conA;simp only [azL];cases hc:csL x a.L with
  | inr f =>
   rw [hc] at h;obtain ⟨s,h⟩:=h;rw [h];exact ⟨s,rfl⟩
  | inl y =>
   rw [hc] at h;simp only at h ⊢;rw [h];exact csA_con (l:=l) (x:=y)
theorem csA_ok:∀ {l:List Arg} {x x':CS},x.ok→(∀ a∈l,∀ v∈a.L,okW v)→csA x l = .inl x'→x'.ok
 | [],x,x',hx,_,e=>by simp only [csA,azL] at e;cases e;exact hx
 | a :: l,x,x',hx,hv,e=>by
  simp only [csA,azL] at e;cases hs:csL x a.L with
  | inl y=>rw [hs] at e;exact csA_ok (l:=l) (csL_ok hx (hv a (by simp)) hs) (fun b hb=>hv b (by simp [hb])) e
  | inr y=>rw [hs] at e;cases e
def csG:CS⊕Val→((List UInt8×Bool)×Val)⊕(Unit×Val)
 | .inl x=>.inl ((x.s,x.b),v0)
 | .inr f=>.inr ((),f)
theorem Kz3 {l:List Arg} {i:Nat} {x:CS} (h:okA l) (hi:i < l.length) (hx:x.ok):nzP (l,v0,x.s,x.b,(i:Int),0)=some (csG (csL x (l[i]).L)):=by
 have hai:=h.2 l[i] (List.getElem_mem hi);have h40:=hai.1;exact bzb (F:=fze) (fun (x:CS) (k:Nat)=>(l,v0,x.s,x.b,(i:Int),(k:Int))) csG (l[i]).L csS .inl (fun x _=>x.ok) (by omega)
  (fun back x k hk hx=>by
   have hv:=hai.2 _ (List.getElem_mem hk);have hw:=(uzS hv).1;have hsl:=hx.2.1;unfold fze csS;simp only;rw [idxG hi,aza,ltT hk,azc,aza,idxG hk,aza,(tzC hv).2,aza,wr1 (by omega)];cases (worR (l[i]).L[k]).2.2 with
   | false=>rfl
   | true =>
    simp only [Bool.not_true,azb,cond_true];cases hxb:x.b with
    | true =>
     simp only [Bool.not_true,azb,azc,if_true];rw [nzo (by omega),aza];rfl
    | false =>
     simp only [Bool.not_false,azc,azb,Bool.false_eq_true,if_false];have h3000:x.s.length≤3000:=by
      obtain ⟨e1,e2⟩:=hx.2.2.1 hxb;rw [mzE hx.1] at e2;have:=szS hx.1;rw [e1];omega
     rw [catS (by omega),aza,nzo (by rw [List.length_append];omega),aza];rfl)
  (fun x k hk x' hx e=>csS_ok hx (hai.2 _ (List.getElem_mem hk)) e)
  (fun back x _=>by
   unfold fze;simp only;rw [idxG hi,aza,ltF,azb];rfl) x hx
theorem concat_eq {l:List Arg} (h:okA l):ezU l=some (if l.any badA=true then vE 15 else (match conA [] l with | .inl s=>dzK s | .inr y=>y.2)):=by
 have hl:=h.1;unfold ezU;simp only [bzw,aza];rw [rz6 (by omega),aza];cases hb:l.any badA with
 | true=>rfl
 | false =>
  simp only [Bool.not_false,Bool.not_true,azb,Bool.false_eq_true,if_false];have o0:(⟨[],[],false⟩:CS).ok:=⟨rfl,by simp,fun _=>⟨rfl,rfl⟩,fun e=>by cases e⟩;have:=bzb (F:=fzc) (fun (x:CS) (i:Nat)=>(l,v0,x.s,x.b,(i:Int))) csG l (fun x a=>match csL x a.L with | .inl y=>.inl y | .inr f=>.inr (.inr f)) .inl (fun x _=>x.ok) (by omega)
   (fun back x i hi hx=>by
    unfold fzc;simp only;rw [ltT hi,azc,Kz3 h hi hx,aza,wr1 (by omega)];cases csL x (l[i]).L<;>rfl)
   (fun x i hi x' hx e=>by
    cases hc:csL x (l[i]).L with
    | inl y=>rw [hc] at e;cases e;exact csL_ok hx (h.2 _ (List.getElem_mem hi)).2 hc
    | inr f=>rw [hc] at e;cases e)
   (fun back x _=>by
    unfold fzc;simp only;rw [ltF,azb];rfl) ⟨[],[],false⟩ o0
  have this:nzO (l,v0,[],false,0)=some (csG (csA ⟨[],[],false⟩ l)):=this;rw [show (⟨0,⟨0,0⟩,[],false,0⟩:Val)=v0 from rfl,this,aza];have hcon:=csA_con (l:=l) (x:=⟨[],[],false⟩);cases hc:csA ⟨[],[],false⟩ l with
  | inr f =>
   rw [hc] at hcon;obtain ⟨s,e⟩:=hcon;simp only at e;rw [e];rfl
  | inl y =>
   rw [hc] at hcon;simp only at hcon;have oy:=csA_ok o0 (fun a ha=>(h.2 a ha).2) hc;rw [hcon];simp only [csG,osum];cases hyb:y.b with
   | true =>
    have:=oy.2.2.2 hyb;rw [azc];unfold dzK;rw [if_neg this]
   | false =>
    have:=(oy.2.2.1 hyb).1;have hsl:=oy.2.1;rw [azb,pzy (by omega),aza,this]
end Go.Proofs.YtdgpkbnnljblmaaGreatDoor

/- YJ -/
namespace Go.Proofs.YtdgpkbnnljblmaaGreatDoor
open Go Go.Ev Go.Lib
def sing (a:Arg):Val:=if badB a=true then vE 15 else fst1 a
theorem dzz {a:Arg} (h:badB a=false):idx a.L 0=some (fst1 a):=by
 unfold badB at h;simp only [Bool.or_eq_false_iff,Bool.not_eq_false',decide_eq_true_eq] at h;unfold fst1;obtain ⟨_,h1⟩:=h
 match h:a.L,h1 with
 | [v],_=>rfl
theorem sing_is (a:Arg):bzU a=some (sing a):=by
 unfold bzU sing;simp only [gzv,aza];cases hb:badB a with
 | false =>
  rw [dzz hb];unfold badB at hb;simp only [Bool.or_eq_false_iff,Bool.not_eq_false',decide_eq_true_eq] at hb;rw [hb.1,decide_eq_true (show ((a.L.length:Nat):Int)=1 by omega)];rfl
 | true =>
  unfold badB at hb;cases ha:a.Area with
  | true=>rfl
  | false =>
   rw [ha] at hb;have:¬ (a.L.length:Int)=1:=by
    intro e;have:a.L.length=1:=by omega
    simp [this] at hb
   rw [decide_eq_false this];rfl
theorem shaped1 (a:Arg):hze [a]=some (!badB a):=by rw [HzP (by simp)];simp
theorem Hzb (a:Arg):az3 ([a],1,1)=some (!badB a):=by rw [rz7 (by simp)];simp
theorem sub0 (a:Arg) (l:List Arg):sub (a :: l) 0 1=some [a]:=by
 have:=subG (D:=a :: l) (i:=0) (k:=1) (by omega) (by simp);simpa using this
theorem subK {l:List Arg} {k:Nat} (h:k < l.length) (hl:l.length≤1000):sub l (k:Int) (IntKind.i64.wrap ((k:Int)+1))=some [l[k]]:=by
 rw [azp (by omega) (by omega),show (k:Int)+1=((k+1:Nat):Int) by omega,subG (by omega) (by omega),List.take_succ_eq_append_getElem h,List.drop_append_of_le_length (by rw [List.length_take];omega),List.drop_of_length_le (by rw [List.length_take];omega)];rfl
theorem ref_pick {l:List Arg} {k:Nat} (h:k < l.length) (hl:l.length≤1000):(obnd (sub l (k:Int) (IntKind.i64.wrap ((k:Int)+1))) fun z =>
 obnd (az3 (z,1,1)) fun y_4=>brn (!y_4) (some (vE 15)) (obnd (idx l (k:Int)) fun y=>obnd (idx y.L 0) fun y=>some y))=some (sing l[k]):=by
 rw [subK h hl,aza,Hzb,aza,idxG h,aza];unfold sing;cases hb:badB l[k] with
 | true=>rfl
 | false=>rw [dzz hb];rfl
def DzI (a b:Arg):Val :=
 if a.Area=true then (if badB b=true then vE 15 else if (numR (fst1 b)).2.2=true then
  (if (numR (fst1 b)).1.S=0 then (if 1≤(numR (fst1 b)).1.M∧(numR (fst1 b)).1.M≤a.L.length then a.L.getD ((numR (fst1 b)).1.M - 1).toNat v0 else vE 23) else vE 15) else (numR (fst1 b)).2.1) else vE 15
theorem sub12 (a b:Arg):sub [a,b] 1 (([a,b]:List Arg).length:Int)=some [b]:=subG (D:=[a,b]) (i:=1) (k:=2) (by omega) (by simp)
theorem idx1 (a b:Arg) (l:List Arg):idx (a :: b :: l) 1=some b:=idxG (l:=a :: b :: l) (i:=1) (by simp)
theorem index_is {a b:Arg} (hb:∀ v∈b.L,okW v):ozr [a,b]=some (DzI a b):=by
 unfold ozr DzI;simp only [gzv,aza];rw [idxZ,aza];cases ha:a.Area with
 | false=>rfl
 | true =>
  rw [sub12,aza,shaped1,aza,idx1,aza];simp only [Bool.not_true,azb,if_true];cases hbb:badB b with
  | true=>rfl
  | false =>
   have hm:fst1 b∈b.L:=by
    have:=dzz hbb;unfold fst1
    match h:b.L with
    | []=>rw [h] at this;cases this
    | v :: _=>simp
   rw [dzz hbb,aza,(kzx (hb _ hm)).1,aza];simp only [Bool.not_false,Bool.not_true,azb,Bool.false_eq_true,if_false];have ho:=(ozD (hb _ hm)).2;generalize numR (fst1 b)=r at *;obtain ⟨⟨M,S⟩,f,ok⟩:=r;cases ok with
   | false=>rfl
   | true =>
    simp only [Bool.not_true,azb,if_true];by_cases c1:S=0
    ·rw [decide_eq_true c1,if_pos c1];simp only [Bool.not_true,azb];by_cases c2:M < 1
     ·rw [decide_eq_true c2,if_neg (by omega)];rfl
     ·rw [decide_eq_false c2,azb,aza];by_cases c3:(a.L.length:Int) < M
      ·rw [decide_eq_true c3,if_neg (by omega)];rfl
      ·rw [decide_eq_false c3,azb,if_pos ⟨by omega,by omega⟩,aza];have hk:(M - 1).toNat < a.L.length:=by omega
       unfold I64 at ho;simp only at ho;rw [azp (by omega) (by omega),show M - 1=(((M - 1).toNat:Nat):Int) by omega,idxG hk,aza,Int.toNat_natCast,List.getD_eq_getElem?_getD,List.getElem?_eq_getElem hk];rfl
    ·rw [decide_eq_false c1,if_neg c1];rfl
theorem MzF {a b:Arg} (hb:∀ v∈b.L,okW v):bzd (24,[a,b])=some (DzI a b):=by
 unfold bzd ize DzI;simp only [bzw,aza];rw [decide_eq_false (show ¬ (([a,b]:List Arg).length:Int)=0 by simp),azb,show decide ((([a,b]:List Arg).length:Int)=2)=true from rfl,idxZ,aza];simp only [decide_true,azc,Bool.not_true,azb];cases ha:a.Area with
 | false=>rfl
 | true =>
  rw [sub12,aza,Hzb,aza,idx1,aza];simp only [Bool.not_true,azb,if_true];cases hbb:badB b with
  | true=>rfl
  | false =>
   have hm:fst1 b∈b.L:=by
    have:=dzz hbb;unfold fst1
    match h:b.L with
    | []=>rw [h] at this;cases this
    | v :: _=>simp
   rw [dzz hbb,aza,(kzx (hb _ hm)).2,aza];simp only [Bool.not_false,Bool.not_true,azb,Bool.false_eq_true,if_false];have ho:=(ozD (hb _ hm)).2;generalize numR (fst1 b)=r at *;obtain ⟨⟨M,S⟩,f,ok⟩:=r;cases ok with
   | false=>rfl
   | true =>
    simp only [Bool.not_true,azb,if_true];by_cases c1:S=0
    ·rw [decide_eq_true c1,if_pos c1];simp only [Bool.not_true,azb];by_cases c2:M < 1
     ·rw [decide_eq_true c2,if_neg (by omega)];rfl
     ·rw [decide_eq_false c2,azb,aza];by_cases c3:(a.L.length:Int) < M
      ·rw [decide_eq_true c3,if_neg (by omega)];rfl
      ·rw [decide_eq_false c3,azb,if_pos ⟨by omega,by omega⟩,aza];have hk:(M - 1).toNat < a.L.length:=by omega
       unfold I64 at ho;simp only at ho;rw [azp (by omega) (by omega),show M - 1=(((M - 1).toNat:Nat):Int) by omega,idxG hk,aza,Int.toNat_natCast,List.getD_eq_getElem?_getD,List.getElem?_eq_getElem hk];rfl
    ·rw [decide_eq_false c1,if_neg c1];rfl
end Go.Proofs.YtdgpkbnnljblmaaGreatDoor

/- YK -/
namespace Go.Proofs.YtdgpkbnnljblmaaGreatDoor
open Go Go.Ev Go.Lib
theorem gzj {a:Arg} (h:badB a=false):fst1 a∈a.L:=by
 have:=dzz h;unfold fst1
 match h:a.L with
 | []=>rw [h] at this;cases this
 | v :: _=>simp
theorem pzW {op:Int} {a:Arg} {l:List Arg} (hop:¬ op=24):bzI (op,a :: l)=if badB a=true then some (vE 15) else
 (brn (decide (op=23)) (brn (decide ((fst1 a).Kind=4)) (obnd (idx (a :: l) 1) fun y=>obnd (bzU y) fun y=>some y) (some (fst1 a)))
  (brn (decide (op=10))
   (obnd (czO (fst1 a)) fun y =>
    brn (!y.2.snd) (some y.2.fst)
     (brn y.fst (obnd (idx (a :: l) 1) fun y=>obnd (bzU y) fun y=>some y)
      (brn (decide (((a :: l).length:Int)=2)) (obnd (czw false) fun y=>some y) (obnd (idx (a :: l) 2) fun y=>obnd (bzU y) fun y=>some y))))
   (obnd (bzo (fst1 a)) fun y =>
    brn (!y.2.snd) (some y.2.fst)
     (brn (!decide (y.fst.S=0)) (obnd (azq 15) fun y=>some y)
      (brn (decide (y.fst.M < 1)) (obnd (azq 15) fun y=>some y)
       (brn (decide (((a :: l).length:Int)≤y.fst.M)) (obnd (azq 15) fun y=>some y)
        (obnd (idx (a :: l) y.fst.M) fun y=>obnd (bzU y) fun y=>some y))))))):=by
 unfold bzI;simp only;rw [decide_eq_false hop,azb,sub0,aza,shaped1,aza];cases hb:badB a with
 | true=>rfl
 | false=>rw [idxZ,aza,dzz hb,aza];rfl
theorem pickP {l:List Arg} {k:Nat} (h:k < l.length):(obnd (idx l (k:Int)) fun y=>obnd (bzU y) fun y=>some y)=some (sing l[k]):=by
 rw [idxG h,aza,sing_is,aza]
def mz2 (l:List Arg) (y:(Int×Val)⊕(Unit×Val)):Option Val:=osum y
 (fun y=>obnd (sub l y.1 (IntKind.i64.wrap (y.1+1))) fun z=>obnd (az3 (z,1,1)) fun y_4=>brn (!y_4) (some (vE 15)) (obnd (idx l y.1) fun y=>obnd (idx y.L 0) fun y=>some y))
 fun y=>some y.2
theorem lzX {l:List Arg} {k:Nat} {v:Val} (h:k < l.length) (hl:l.length≤1000):mz2 l (.inl ((k:Int),v))=some (sing l[k]):=ref_pick h hl
theorem kzM {op:Int} {a:Arg} {l:List Arg} (hop:¬ op=24) (h25:op=25→1≤l.length):bzd (op,a :: l)=if badB a=true then some (vE 15) else
 (obnd (az4 (a :: l,v0,fst1 a,0,op)) fun y=>mz2 (a :: l) y):=by
 unfold bzd ize;simp only [bzw,aza];rw [decide_eq_false (show ¬ ((a :: l).length:Int)=0 by simp only [List.length_cons];omega),azb,decide_eq_false hop,azb,aza];simp only [osum];have tail:(obnd (sub (a :: l) 0 1) fun z =>
  obnd (az3 (z,1,1)) fun y_1 =>
   brn (!y_1) (some (vE 15))
    (obnd (idx (a :: l) 0) fun y_2 =>
     obnd (idx y_2.L 0) fun y_3 =>
      obnd (az4 (a :: l,v0,y_3,0,op)) fun y=>mz2 (a :: l) y))=if badB a=true then some (vE 15) else
  (obnd (az4 (a :: l,v0,fst1 a,0,op)) fun y=>mz2 (a :: l) y):=by
  rw [sub0,aza,Hzb,aza];cases hb:badB a with
  | true=>rfl
  | false=>rw [idxZ,aza,dzz hb,aza];rfl
 by_cases c:op=25
 ·rw [decide_eq_true c,azc,decide_eq_false (show ¬ ((a :: l).length:Int) < 2 by have:=h25 c;simp only [List.length_cons];omega),azb];exact tail
 ·rw [decide_eq_false c,azb];exact tail
def iferrV (a b:Arg):Val:=if badB a=true then vE 15 else if (fst1 a).Kind=4 then sing b else fst1 a
theorem sing_ok {a:Arg} (h:badB a=false):sing a=fst1 a:=by unfold sing;rw [h];rfl
theorem iferr_is (a b:Arg):bzI (23,[a,b])=some (iferrV a b)∧bzd (23,[a,b])=some (iferrV a b):=by
 rw [pzW (by decide),kzM (by decide) (fun e=>absurd e (by decide))];unfold iferrV;cases hb:badB a with
 | true=>exact ⟨rfl,rfl⟩
 | false =>
  simp only [Bool.false_eq_true,if_false];have p1:(obnd (idx [a,b] 1) fun y=>obnd (bzU y) fun y=>some y)=some (sing b):=pickP (l:=[a,b]) (k:=1) (by simp);have r1:mz2 [a,b] (.inl (1,v0))=some (sing b):=lzX (l:=[a,b]) (k:=1) (by simp) (by simp);have r0:mz2 [a,b] (.inl (0,v0))=some (sing a):=lzX (l:=[a,b]) (k:=0) (by simp) (by simp);rw [sing_ok hb] at r0;have hb2:az4 ([a,b],v0,fst1 a,0,23)=some (if (fst1 a).Kind=4 then .inl (1,v0) else .inl (0,v0)):=by
   unfold az4;simp only;rw [show decide ((23:Int)=10)=false from rfl,azb,show decide ((([a,b]:List Arg).length:Int)=2)=true from rfl];simp only [decide_true,azc,Bool.not_true,azb];by_cases h:(fst1 a).Kind=4
   ·rw [decide_eq_true h,azc,if_pos h]
   ·rw [decide_eq_false h,azb,if_neg h]
  rw [hb2,aza,decide_true,azc,p1];by_cases h:(fst1 a).Kind=4
  ·rw [decide_eq_true h,azc,if_pos h,if_pos h,r1];exact ⟨rfl,rfl⟩
  ·rw [decide_eq_false h,azb,if_neg h,if_neg h,r0];exact ⟨rfl,rfl⟩
def ifV (a b:Arg) (c:Val):Val:=if badB a=true then vE 15 else if (truR (fst1 a)).2.2=true then (if (truR (fst1 a)).1=true then sing b else c) else (truR (fst1 a)).2.1
theorem if2_is {a b:Arg} (ha:∀ v∈a.L,okW v):bzI (10,[a,b])=some (ifV a b (vT false))∧bzd (10,[a,b])=some (ifV a b (vT false)):=by
 rw [pzW (by decide),kzM (by decide) (fun e=>absurd e (by decide))];unfold ifV;cases hb:badB a with
 | true=>exact ⟨rfl,rfl⟩
 | false =>
  simp only [Bool.false_eq_true,if_false];obtain ⟨t1,t2⟩:=tzw (ha _ (gzj hb));have p1:(obnd (idx [a,b] 1) fun y=>obnd (bzU y) fun y=>some y)=some (sing b):=pickP (l:=[a,b]) (k:=1) (by simp);have r1:mz2 [a,b] (.inl (1,v0))=some (sing b):=lzX (l:=[a,b]) (k:=1) (by simp) (by simp);have hb2:az4 ([a,b],v0,fst1 a,0,10)=some (if (truR (fst1 a)).2.2=true then (if (truR (fst1 a)).1=true then .inl (1,v0) else .inr ((),vT false)) else .inr ((),(truR (fst1 a)).2.1)):=by
   unfold az4;simp only [bzw,aza];rw [show decide ((([a,b]:List Arg).length:Int) < 2)=false from rfl,azb,show decide ((3:Int) < (([a,b]:List Arg).length:Int))=false from rfl,azb,t2,aza];simp only [decide_true,azc];rw [show decide ((([a,b]:List Arg).length:Int)≤2)=true from rfl,show decide ((([a,b]:List Arg).length:Int)≤1)=false from rfl];rcases truR (fst1 a) with ⟨t,f,ok⟩;cases ok<;>cases t<;>rfl
  rw [hb2,aza,show decide ((10:Int)=23)=false from rfl,azb,decide_true,azc,t1,aza,p1];rcases truR (fst1 a) with ⟨t,f,ok⟩;cases ok with
  | false=>exact ⟨rfl,rfl⟩
  | true =>
   cases t with
   | false=>exact ⟨rfl,rfl⟩
   | true=>simp only [if_true];rw [r1];exact ⟨rfl,rfl⟩
theorem if3_is {a b c:Arg} (ha:∀ v∈a.L,okW v):bzI (10,[a,b,c])=some (ifV a b (sing c))∧bzd (10,[a,b,c])=some (ifV a b (sing c)):=by
 rw [pzW (by decide),kzM (by decide) (fun e=>absurd e (by decide))];unfold ifV;cases hb:badB a with
 | true=>exact ⟨rfl,rfl⟩
 | false =>
  simp only [Bool.false_eq_true,if_false];obtain ⟨t1,t2⟩:=tzw (ha _ (gzj hb));have p1:(obnd (idx [a,b,c] 1) fun y=>obnd (bzU y) fun y=>some y)=some (sing b):=pickP (l:=[a,b,c]) (k:=1) (by simp);have p2:(obnd (idx [a,b,c] 2) fun y=>obnd (bzU y) fun y=>some y)=some (sing c):=pickP (l:=[a,b,c]) (k:=2) (by simp);have r1:mz2 [a,b,c] (.inl (1,v0))=some (sing b):=lzX (l:=[a,b,c]) (k:=1) (by simp) (by simp);have r2:mz2 [a,b,c] (.inl (2,v0))=some (sing c):=lzX (l:=[a,b,c]) (k:=2) (by simp) (by simp);have hb2:az4 ([a,b,c],v0,fst1 a,0,10)=some (if (truR (fst1 a)).2.2=true then (if (truR (fst1 a)).1=true then .inl (1,v0) else .inl (2,v0)) else .inr ((),(truR (fst1 a)).2.1)):=by
   unfold az4;simp only [bzw,aza];rw [show decide ((([a,b,c]:List Arg).length:Int) < 2)=false from rfl,azb,show decide ((3:Int) < (([a,b,c]:List Arg).length:Int))=false from rfl,azb,t2,aza];simp only [decide_true,azc];rw [show decide ((([a,b,c]:List Arg).length:Int)≤2)=false from rfl,show decide ((([a,b,c]:List Arg).length:Int)≤1)=false from rfl];rcases truR (fst1 a) with ⟨t,f,ok⟩;cases ok<;>cases t<;>rfl
  rw [hb2,aza,show decide ((10:Int)=23)=false from rfl,azb,decide_true,azc,t1,aza,p1,p2,show decide ((([a,b,c]:List Arg).length:Int)=2)=false from rfl,azb];rcases truR (fst1 a) with ⟨t,f,ok⟩;cases ok with
  | false=>exact ⟨rfl,rfl⟩
  | true =>
   cases t with
   | false=>simp only [if_true,Bool.false_eq_true,if_false];rw [r2];exact ⟨rfl,rfl⟩
   | true=>simp only [if_true];rw [r1];exact ⟨rfl,rfl⟩
def noA:Arg:=⟨false,[]⟩
def Fzv (a:Arg) (l:List Arg):Val:=if badB a=true then vE 15 else if (numR (fst1 a)).2.2=true then
 (if (numR (fst1 a)).1.S=0∧1≤(numR (fst1 a)).1.M∧(numR (fst1 a)).1.M < l.length then sing (l.getD (numR (fst1 a)).1.M.toNat noA) else vE 15) else (numR (fst1 a)).2.1
theorem choose_is {a:Arg} {l:List Arg} (ha:∀ v∈a.L,okW v) (hl:(a :: l).length≤1000) (h1:1≤l.length):bzI (25,a :: l)=some (Fzv a (a :: l))∧bzd (25,a :: l)=some (Fzv a (a :: l)):=by
 rw [pzW (by decide),kzM (by decide) (fun _=>h1)];unfold Fzv;by_cases hb':badB a=true
 ·simp [hb']
 ·have hb:badB a=false:=by simpa using hb'
  simp only [hb,Bool.false_eq_true,if_false];obtain ⟨t1,t2⟩:=kzx (ha _ (gzj hb));unfold az4;simp only [bzw,gzv,aza];rw [show decide ((25:Int)=23)=false from rfl,show decide ((25:Int)=10)=false from rfl,decide_true];simp only [azb,azc];rw [t1,t2,aza,aza];generalize numR (fst1 a)=r;obtain ⟨⟨M,S⟩,f,ok⟩:=r;cases ok with
  | false=>exact ⟨rfl,rfl⟩
  | true =>
   simp only [Bool.not_true,azb,if_true];by_cases c1:S=0
   ·rw [decide_eq_true c1];simp only [Bool.not_true,azb];by_cases c2:M < 1
    ·rw [decide_eq_true c2,if_neg (by omega)];exact ⟨rfl,rfl⟩
    ·rw [decide_eq_false c2,azb,azb];by_cases c3:((a :: l).length:Int)≤M
     ·rw [decide_eq_true c3,if_neg (by omega)];exact ⟨rfl,rfl⟩
     ·rw [decide_eq_false c3,azb,azb,if_pos ⟨c1,by omega,by omega⟩,aza];obtain ⟨k,rfl⟩:=Int.eq_ofNat_of_zero_le (show 0≤M by omega);have hk:k < (a :: l).length:=by omega
      have e:(a :: l).getD k noA=(a :: l)[k]:=by rw [List.getD_eq_getElem?_getD,List.getElem?_eq_getElem hk];rfl
      rw [pickP hk,lzX hk hl,Int.toNat_natCast,e];exact ⟨rfl,rfl⟩
   ·rw [decide_eq_false c1,if_neg (fun c=>c1 c.1)];exact ⟨rfl,rfl⟩
end Go.Proofs.YtdgpkbnnljblmaaGreatDoor

/- YL -/
namespace Go.Proofs.YtdgpkbnnljblmaaGreatDoor
open Go Go.Ev Go.Lib
theorem refMod_is {a b:Dec} (ha:okd a) (hb:okd b):rze (a,b)=some (modV a b):=by
 unfold rze modV;simp only;by_cases h0:b.M=0
 ·rw [decide_eq_true h0,if_pos h0];rfl
 rw [decide_eq_false h0,if_neg h0,azb];have hp:nzu (b,a.S,decide (a.S < b.S))=some ((max a.S.toNat b.S.toNat:Nat):Int):=by
  have:=ha.1.1;have:=hb.1.1;unfold nzu;by_cases h:a.S < b.S
  ·rw [decide_eq_true h]
   show some b.S=_
   congr 1;omega
  ·rw [decide_eq_false h]
   show some a.S=_
   congr 1;omega
 rw [hp,aza];have p9:max a.S.toNat b.S.toNat≤9:=by have:=ha.1.2.1;have:=hb.1.2.1;omega
 have pa:a.S≤((max a.S.toNat b.S.toNat:Nat):Int):=by omega
 have pb:b.S≤((max a.S.toNat b.S.toNat:Nat):Int):=by omega
 generalize max a.S.toNat b.S.toNat=p at *;rw [Kzv ha pa p9,Kzv hb pb p9];simp only [aza];by_cases c1:I64 (up a p)
 ·rw [if_pos c1];by_cases c2:I64 (up b p)
  ·have hz:=up_zero (p:=p) h0;rw [if_pos c2,if_pos ⟨c1,c2⟩];simp only [decide_true,Bool.not_true,azb];have hi:=fm_I64 (X:=up a p) c2 hz;have n1:∀ m:Int,I64 m→(obnd (jzp ⟨m,(p:Int)⟩) fun y=>(some (y,0):Option (Dec×Int)))=some (⟨(azt m p).1,((azt m p).2:Int)⟩,0):=fun m hm=>by
    rw [Ozb hm p9,aza]
   by_cases hm1:up b p = -1
   ·rw [decide_eq_true hm1];simp only [Bool.not_true,azb];rw [n1 0 I0];have e:fm (up a p) (up b p)=0:=by
     have:=(fm_ok (up a p) hz).1;rw [hm1] at this ⊢;omega
    rw [e]
   rw [decide_eq_false hm1,Bool.not_false,azc,decide_eq_false hz,azb];have t1:I64 ((up a p).tmod (up b p)):=by
    have h1:=Int.natAbs_tmod (up a p) (up b p);unfold I64 at c1 c2 ⊢;have h4:((up a p).tmod (up b p)).natAbs < (up b p).natAbs:=by rw [h1];exact Nat.mod_lt _ (by omega)
    omega
   rw [n1 _ t1,n1 _ (show I64 (IntKind.i64.wrap ((up a p).tmod (up b p)+up b p)) by unfold I64;rw [i64];omega)];exact JzV (up a p) (up b p) (fun r=>((⟨(azt r p).1,((azt r p).2:Int)⟩,0):Dec×Int)) (fun r=>((⟨(azt (IntKind.i64.wrap r) p).1,((azt (IntKind.i64.wrap r) p).2:Int)⟩,0):Dec×Int)) (fun r hr=>by rw [azp hr.1 hr.2]) hi
  ·rw [if_neg c2,if_neg (show ¬ (I64 (up a p)∧I64 (up b p)) from fun c=>c2 c.2)];rfl
 ·rw [if_neg c1,if_neg (show ¬ (I64 (up a p)∧I64 (up b p)) from fun c=>c1 c.1)];rfl
def subR (a b:Dec):Dec×Int:=decV (V a - V b) 9
theorem subR_eq {a b:Dec} (ha:okd a) (hb:okd b):kzY (a,b)=some (subR a b)∧kzG (a,b)=some (subR a b):=by
 obtain ⟨r,h1,h2,_,e⟩:=sub_eq ha hb;subst e;exact ⟨h1,h2⟩
def floR (a:Dec):Dec×Int:=(kzU a).getD (⟨0,0⟩,0)
theorem floR_eq {a:Dec} (ha:okd a):kzU a=some (floR a)∧hzL a=some (floR a):=by
 obtain ⟨r,h1,h2,_⟩:=floor_eq ha;unfold floR;rw [h1];exact ⟨rfl,h2⟩
def recV (k:Int) (x y:Dec):Val :=
 if k=5 then (if V x < 0 then numV (subR ⟨0,0⟩ x) else vN x)
 else if k=6 then vN ⟨cmpV (V x) 0,0⟩
 else if k=7 then numV (floR x)
 else if k=8 then numV (modV x y)
 else if y.S=0 then numV (pzI x y.M) else vE 36
def recL (k:Int) (vs:List Val):Val:=match azL redS .inl [] vs with
 | .inl [x]=>recV k x ⟨0,0⟩
 | .inl (x :: y :: _)=>recV k x y
 | .inl []=>v0
 | .inr f=>f
theorem redS_ok:∀ {vs:List Val} {s ds:List Dec},(∀ v∈vs,okW v)→(∀ d∈s,okd d)→azL redS (.inl:List Dec→List Dec⊕Val) s vs = .inl ds→(∀ d∈ds,okd d)∧ds.length=s.length+vs.length
 | [],s,ds,_,hs,e=>by simp only [azL] at e;cases e;exact ⟨hs,rfl⟩
 | v :: vs,s,ds,hv,hs,e=>by
  simp only [azL] at e;cases hr:redS s v with
  | inr y =>
   rw [hr] at e;unfold redS at hr;revert hr;cases (numR v).2.2<;>intro hr<;>cases hr;cases e
  | inl s' =>
   rw [hr] at e;have e2:s' = s++[(numR v).1]:=by
    unfold redS at hr;revert hr;cases (numR v).2.2<;>intro hr<;>cases hr;rfl
   subst e2;obtain ⟨h1,h2⟩:=redS_ok (vs:=vs) (fun w hw=>hv w (by simp [hw])) (fun d hd=>by
    rcases List.mem_append.1 hd with hd | hd
    ·exact hs d hd
    ·simp only [List.mem_singleton] at hd;subst hd;exact ozD (hv v (by simp))) e
   refine ⟨h1,?_⟩;simp only [List.length_append,List.length_cons,List.length_nil] at h2 ⊢;omega
theorem V00:V ⟨0,0⟩=0:=by unfold V;simp
theorem cmp_lt (x:Int):decide (cmpV x 0 < 0)=decide (x < 0):=AzC x 0
theorem reck_is {k:Int} {vs:List Val} (hk:k=5∨k=6∨k=7∨k=8∨k=9) (hv:∀ v∈vs,okW v) (hl:if k≤7 then vs.length=1 else vs.length=2):bzN (k,vs)=some (recL k vs):=by
 have hl2:vs.length≤2:=by split at hl<;>omega
 unfold bzN recL;simp only [gzv,aza];rw [show (⟨0,⟨0,0⟩,[],false,0⟩:Val)=v0 from rfl,reck_l1 hv (by omega),aza];cases e:azL redS .inl [] vs with
 | inr f=>rfl
 | inl ds =>
  obtain ⟨ho,hd⟩:=redS_ok hv (by simp) e;rw [List.length_nil,Nat.zero_add] at hd;simp only [redG,osum]
  match ds,ho,hd with
  | [],_,hd=>simp only [List.length_nil] at hd;split at hl<;>omega
  | [x],ho,hd =>
   have ox:=ho x (by simp);simp only [List.length_singleton] at hd;have hk7:k≤7:=by
    by_cases h:k≤7
    ·exact h
    ·rw [if_neg h] at hl;omega
   rw [idxZ,aza,show czu 0=some ⟨0,0⟩ from rfl,aza,(sz9 ox okd0).1,aza,V00];simp only [aza];unfold recV;rcases (show k=5∨k=6∨k=7 by omega) with rfl | rfl | rfl
   ·rw [show decide ((5:Int)=5)=true from rfl,azc,if_pos rfl,cmp_lt];by_cases hm:V x < 0
    ·rw [decide_eq_true hm,azc,(subR_eq okd0 ox).1,aza,kzy,aza,if_pos hm]
    ·rw [decide_eq_false hm,azb,kzy,aza,if_neg hm];rfl
   ·rw [show decide ((6:Int)=5)=false from rfl,azb,show decide ((6:Int)=6)=true from rfl,azc,if_neg (by decide),if_pos rfl,int_is,aza]
   ·rw [show decide ((7:Int)=5)=false from rfl,azb,show decide ((7:Int)=6)=false from rfl,azb,show decide ((7:Int)=7)=true from rfl,azc,if_neg (by decide),if_neg (by decide),if_pos rfl,(floR_eq ox).1,aza,kzy,aza]
  | x :: y :: r,ho,hd =>
   have ox:=ho x (by simp);have oy:=ho y (by simp);simp only [List.length_cons] at hd;have hk8:¬ k≤7:=by
    intro h;rw [if_pos h] at hl;omega
   have i1:idx (x :: y :: r) 1=some y:=idxG (l:=x :: y :: r) (i:=1) (by simp);rw [idxZ,aza,show czu 0=some ⟨0,0⟩ from rfl,aza,(sz9 ox okd0).1,aza,i1]
   show _=some (recV k x y)
   unfold recV;rcases (show k=8∨k=9 by omega) with rfl | rfl
   ·rw [show decide ((8:Int)=5)=false from rfl,azb,show decide ((8:Int)=6)=false from rfl,azb,show decide ((8:Int)=7)=false from rfl,azb,show decide ((8:Int)=8)=true from rfl,azc,if_neg (by decide),if_neg (by decide),if_neg (by decide),if_pos rfl,aza,aza,rest_is4 ox oy,aza]
   ·rw [show decide ((9:Int)=5)=false from rfl,azb,show decide ((9:Int)=6)=false from rfl,azb,show decide ((9:Int)=7)=false from rfl,azb,show decide ((9:Int)=8)=false from rfl,azb,if_neg (by decide),if_neg (by decide),if_neg (by decide),if_neg (by decide),aza];by_cases hs:y.S=0
    ·rw [decide_eq_true hs,Bool.not_true,azb,if_pos hs,aza,aza,LzJ ox.2 ox.1,aza,kzy,aza]
    ·rw [decide_eq_false hs,if_neg hs];rfl
end Go.Proofs.YtdgpkbnnljblmaaGreatDoor

/- YO -/
namespace Go.Proofs.YtdgpkbnnljblmaaGreatDoor
open Go Go.Ev Go.Lib
theorem nz8 {l:List Arg} {p:Nat} (hl:l.length≤1000):az3 (l,(p:Int),(p:Int))=some (decide (l.length=p)&&!l.any badB):=by
 rw [rz7 hl];by_cases h:l.length=p
 ·rw [decide_eq_true h,decide_eq_true (show (p:Int)≤l.length by omega),decide_eq_true (show (l.length:Int)≤p by omega)];rfl
 ·rw [decide_eq_false h];by_cases h2:(p:Int)≤l.length
  ·rw [decide_eq_false (show ¬ (l.length:Int)≤p by omega),Bool.false_and,Bool.and_false]
  ·rw [decide_eq_false h2];rfl
def arN (k:Int):Nat:=if k≤7 then 1 else 2
theorem b1_is {k:Int} {x y:Dec} (hk:k=5∨k=6∨k=7∨k=8∨k=9) (hx:okd x) (hy:okd y) :
 (obnd (gzV (v0,x,y,⟨0,0⟩,0,k)) fun y=>osum y (fun y=>obnd (czA (y.2.snd,y.1)) fun y=>some y) fun y=>some y.2.fst)=some (recV k x y):=by
 unfold gzV recV;simp only [bzw,aza];rcases hk with rfl | rfl | rfl | rfl | rfl
 ·rw [show decide ((5:Int)=5)=true from rfl,azc,if_pos rfl];have hV:=V_neg x;by_cases hm:x.M < 0
  ·rw [decide_eq_true hm] at hV;have hv:V x < 0:=by simpa using hV
   rw [decide_eq_true hm,azc,(subR_eq okd0 hx).2,aza,aza,if_pos hv];simp only [osum];rw [lzc,aza]
  ·rw [decide_eq_false hm] at hV;have hv:¬ V x < 0:=by simpa using hV
   rw [decide_eq_false hm,azb,aza,if_neg hv];simp only [osum];rw [lzc,aza];rfl
 ·rw [show decide ((6:Int)=5)=false from rfl,azb,show decide ((6:Int)=6)=true from rfl,azc,if_neg (by decide),if_pos rfl,(sz9 hx okd0).2,aza,aza,V00];simp only [osum];rw [lzc,aza];rfl
 ·rw [show decide ((7:Int)=5)=false from rfl,azb,show decide ((7:Int)=6)=false from rfl,azb,show decide ((7:Int)=7)=true from rfl,azc,if_neg (by decide),if_neg (by decide),if_pos rfl,(floR_eq hx).2,aza,aza];simp only [osum];rw [lzc,aza]
 ·rw [show decide ((8:Int)=5)=false from rfl,azb,show decide ((8:Int)=6)=false from rfl,azb,show decide ((8:Int)=7)=false from rfl,azb,show decide ((8:Int)=8)=true from rfl,azc,if_neg (by decide),if_neg (by decide),if_neg (by decide),if_pos rfl,refMod_is hx hy,aza,aza];simp only [osum];rw [lzc,aza]
 ·rw [show decide ((9:Int)=5)=false from rfl,azb,show decide ((9:Int)=6)=false from rfl,azb,show decide ((9:Int)=7)=false from rfl,azb,show decide ((9:Int)=8)=false from rfl,azb,show decide ((9:Int)=9)=true from rfl,azc,if_neg (by decide),if_neg (by decide),if_neg (by decide),if_neg (by decide)];unfold rz1;simp only;by_cases hs:y.S=0
  ·rw [decide_eq_true hs,azc,if_pos hs];by_cases h1:-18≤y.M
   ·rw [decide_eq_true h1,azc,aza];by_cases h2:y.M≤9
    ·simp only [decide_eq_true h2,Bool.not_true,azb];rw [MzH hx.2 hx.1,aza,aza];simp only [osum];rw [lzc,aza]
    ·simp only [decide_eq_false h2,Bool.not_false,azc,aza,osum];unfold pzI;rw [if_pos (by omega)];rfl
   ·rw [decide_eq_false h1,azb,aza];simp only [Bool.not_false,azc,aza,osum];unfold pzI;rw [if_pos (by omega)];rfl
  ·rw [decide_eq_false hs,azb,if_neg hs,aza];simp only [Bool.not_false,azc,aza,osum]
theorem Nz0 {k:Int} {l:List Arg} (hk:k=5∨k=6∨k=7∨k=8∨k=9) (hl:l.length≤1000) (hv:∀ a∈l,∀ v∈a.L,okW v) :
 kzD (k,l)=some (if l.length=arN k∧l.any badB=false then recL k (l.map fst1) else vE 15):=by
 unfold kzD;simp only [bzw,aza];by_cases h8:8≤k
 ·have ha:arN k=2:=if_neg (by omega);have hs:=nz8 (l:=l) (p:=2) hl;rw [show (((2:Nat)):Int)=2 from rfl] at hs;rw [decide_eq_true h8,azc,hs,aza,ha];by_cases c:l.length=2∧l.any badB=false
  ·rw [if_pos c,decide_eq_true c.1,c.2];obtain ⟨a,b,rfl⟩:∃ a b,l=[a,b]:=by
    match l,c.1 with
    | [a,b],_=>exact ⟨a,b,rfl⟩
   have c2:=c.2;simp only [List.any_cons,List.any_nil,Bool.or_false,Bool.or_eq_false_iff] at c2;have oa:=hv a (by simp) _ (gzj c2.1);have ob:=hv b (by simp) _ (gzj c2.2);simp only [Bool.not_false,Bool.and_self,Bool.not_true,azb];rw [idxZ,aza,dzz c2.1,aza,(kzx oa).2,aza,idx1,aza,dzz c2.2,aza,(kzx ob).2,aza];unfold recL;simp only [List.map_cons,List.map_nil,azL,redS];have na:=ozD oa;have nb:=ozD ob;generalize numR (fst1 a)=ra at *;generalize numR (fst1 b)=rb at *;obtain ⟨x,f,ok⟩:=ra;obtain ⟨y,f',ok'⟩:=rb;cases ok with
   | false=>rfl
   | true =>
    cases ok' with
    | false=>rfl
    | true =>
     simp only [Bool.not_true,azb,cond_true,List.nil_append,List.cons_append];exact b1_is hk na nb
  ·rw [if_neg c];have:(decide (l.length=2)&&!l.any badB)=false:=by
    by_cases h2:l.length=2
    ·have:l.any badB=true:=by
      cases hb:l.any badB with
      | true=>rfl
      | false=>exact absurd ⟨h2,hb⟩ c
     rw [this];simp
    ·simp [h2]
   rw [this];rfl
 ·have ha:arN k=1:=if_pos (by omega);have hs:=nz8 (l:=l) (p:=1) hl;rw [show (((1:Nat)):Int)=1 from rfl] at hs;rw [decide_eq_false h8,azb,hs,aza,ha];by_cases c:l.length=1∧l.any badB=false
  ·rw [if_pos c,decide_eq_true c.1,c.2];obtain ⟨a,rfl⟩:∃ a,l=[a]:=by
    match l,c.1 with
    | [a],_=>exact ⟨a,rfl⟩
   have c2:=c.2;simp only [List.any_cons,List.any_nil,Bool.or_false] at c2;have oa:=hv a (by simp) _ (gzj c2);simp only [Bool.not_false,Bool.and_self,Bool.not_true,azb];rw [idxZ,aza,dzz c2,aza,(kzx oa).2,aza];unfold recL;simp only [List.map_cons,List.map_nil,azL,redS];have na:=ozD oa;generalize numR (fst1 a)=ra at *;obtain ⟨x,f,ok⟩:=ra;cases ok with
   | false=>rfl
   | true =>
    simp only [Bool.not_true,azb,cond_true,List.nil_append];exact b1_is hk na okd0
  ·rw [if_neg c];have:(decide (l.length=1)&&!l.any badB)=false:=by
    by_cases h2:l.length=1
    ·have:l.any badB=true:=by
      cases hb:l.any badB with
      | true=>rfl
      | false=>exact absurd ⟨h2,hb⟩ c
     rw [this];simp
    ·simp [h2]
   rw [this];rfl
def askV (k:Int) (v:Val):Val:=if k=13 then (if (truR v).2.2=true then vT (!(truR v).1) else (truR v).2.1) else if k=21 then vT (decide (v.Kind=0)) else if k=22 then vT (decide (v.Kind=4)) else vN ⟨typeN v.Kind,0⟩
theorem asked_is {k:Int} {l:List Arg} (hk:k=13∨k=21∨k=22∨k=29) (hl:l.length≤1000) (hv:∀ a∈l,∀ v∈a.L,okW v) :
 mzw (k,l)=some (if l.length=1∧l.any badB=false then askV k ((l.map fst1).headD v0) else vE 15):=by
 unfold mzw;simp only [bzw,aza];have hs:=nz8 (l:=l) (p:=1) hl;rw [show (((1:Nat)):Int)=1 from rfl] at hs;rw [hs,aza];by_cases c:l.length=1∧l.any badB=false
 ·rw [if_pos c,decide_eq_true c.1,c.2];obtain ⟨a,rfl⟩:∃ a,l=[a]:=by
   match l,c.1 with
   | [a],_=>exact ⟨a,rfl⟩
  have c2:=c.2;simp only [List.any_cons,List.any_nil,Bool.or_false] at c2;have oa:=hv a (by simp) _ (gzj c2);have hkd:=Kzn oa;simp only [Bool.not_false,Bool.and_self,Bool.not_true,azb,List.map_cons,List.headD_cons];rw [idxZ,aza,dzz c2,aza,(tzw oa).2];unfold askV;rcases hk with rfl | rfl | rfl | rfl
  ·rcases truR (fst1 a) with ⟨t,f,ok⟩;cases ok<;>rfl
  ·rfl
  ·rfl
  ·rcases hkd with h | h | h | h | h<;>(rw [h];rfl)
 ·rw [if_neg c];have:(decide (l.length=1)&&!l.any badB)=false:=by
   by_cases h2:l.length=1
   ·have:l.any badB=true:=by
     cases hb:l.any badB with
     | true=>rfl
     | false=>exact absurd ⟨h2,hb⟩ c
    rw [this];simp
   ·simp [h2]
  rw [this];rfl
end Go.Proofs.YtdgpkbnnljblmaaGreatDoor

/- YQ -/
namespace Go.Proofs.YtdgpkbnnljblmaaGreatDoor
open Go Go.Ev Go.Lib
def jzf (up:Bool) (c:UInt8):UInt8:=if up then (if 97≤c.toNat∧c.toNat≤122 then UInt8.ofNat (c.toNat - 32) else c) else (if 65≤c.toNat∧c.toNat≤90 then UInt8.ofNat (c.toNat+32) else c)
theorem u8i (n:Nat):IntKind.u8.wrap (n:Int)=((n % 256:Nat):Int):=u8w n
theorem NzR {k:Int} {l:List UInt8} {i:Nat} (hk:k=19∨k=20) (hi:i < l.length):jz6 (k,l,(i:Int))=some (l.set i (jzf (decide (k=19)) l[i])):=by
 have hb:=inb_is hi;have hn:=DzX hi;have hlt:=(l[i]).toNat_lt;have hset:l.set i l[i]=l:=by simp
 unfold jz6 mz9 jzf;simp only;rw [hb,aza,hn,aza];simp only [aza];rw [hn];simp only [aza];rcases hk with rfl | rfl
 ·rw [show decide ((19:Int)=19)=true from rfl,show decide ((19:Int)=20)=false from rfl];simp only [azc,azb,if_true];by_cases c1:97≤(l[i]).toNat
  ·rw [decide_eq_true (show (97:Int)≤((l[i]).toNat:Int) by omega),azc,aza];simp only;by_cases c2:(l[i]).toNat≤122
   ·rw [decide_eq_true (show ((l[i]).toNat:Int)≤122 by omega),azc,hb,aza,hn,aza,aza,hn,aza,if_pos ⟨c1,c2⟩,show ((l[i]).toNat:Int) - 32=(((l[i]).toNat - 32:Nat):Int) by omega,u8i,Int.toNat_natCast,Nat.mod_eq_of_lt (by omega)]
   ·rw [decide_eq_false (show ¬ ((l[i]).toNat:Int)≤122 by omega),azb,if_neg (fun c=>c2 c.2),hset]
  ·rw [decide_eq_false (show ¬ (97:Int)≤((l[i]).toNat:Int) by omega),azb,aza,if_neg (fun c=>c1 c.1),hset];rfl
 ·rw [show decide ((20:Int)=19)=false from rfl];simp only [decide_true,azc,azb,Bool.false_eq_true,if_false,aza];rw [hb,aza,hn,aza];by_cases c1:65≤(l[i]).toNat
  ·rw [decide_eq_true (show (65:Int)≤((l[i]).toNat:Int) by omega),azc,aza,hn,aza];by_cases c2:(l[i]).toNat≤90
   ·rw [decide_eq_true (show ((l[i]).toNat:Int)≤90 by omega),azc,aza,hn,aza,aza,hn,aza,if_pos ⟨c1,c2⟩,show ((l[i]).toNat:Int)+32=(((l[i]).toNat+32:Nat):Int) by omega,u8i,Int.toNat_natCast,Nat.mod_eq_of_lt (by omega)]
   ·rw [decide_eq_false (show ¬ ((l[i]).toNat:Int)≤90 by omega),azb,if_neg (fun c=>c2 c.2),hset]
  ·rw [decide_eq_false (show ¬ (65:Int)≤((l[i]).toNat:Int) by omega),azb,if_neg (fun c=>c1 c.1),hset]
theorem letters_F {k:Int} (hk:k=19∨k=20) {s:List UInt8} {i:Nat} (hlt:i < s.length) (hsl:s.length≤100000) (back:Int×List UInt8×Int→Option (List UInt8)):dzi back (k,s,(i:Int))=back (k,s.set i (jzf (decide (k=19)) s[i]),((i+1:Nat):Int)):=by
 unfold dzi;simp only;rw [ltT hlt,azc,NzR hk hlt,aza,wr1 (by omega)]
theorem Azb {k:Int} {l:List UInt8} (hk:k=19∨k=20) (hl:l.length≤100000):kzA (k,l)=some (l.map (jzf (decide (k=19)))):=by
 have key:∀ (m n:Nat) (s:List UInt8) (i:Nat),i+m=s.length→m < n→s.length≤100000→iter dzi n (k,s,(i:Int))=some (s.take i++(s.drop i).map (jzf (decide (k=19)))):=by
  intro m;induction m with
  | zero =>
   intro n s i hi hn hsl;obtain ⟨p,rfl⟩:∃ p,n=p+1:=⟨n - 1,by omega⟩;have:i=s.length:=by omega
   subst this;rw [bzS];unfold dzi;simp only;rw [ltF,azb];simp
  | succ m ih =>
   intro n s i hi hn hsl;obtain ⟨p,rfl⟩:∃ p,n=p+1:=⟨n - 1,by omega⟩;have hlt:i < s.length:=by omega
   rw [bzS,letters_F hk hlt hsl,ih p _ (i+1) (by rw [List.length_set];omega) (by omega) (by rw [List.length_set];exact hsl)];congr 1;rw [List.drop_set_of_lt (by omega),List.drop_eq_getElem_cons hlt,List.map_cons];have:(s.set i (jzf (decide (k=19)) s[i])).take (i+1)=s.take i++[jzf (decide (k=19)) s[i]]:=by
    rw [List.take_succ_eq_append_getElem (by rw [List.length_set];exact hlt),List.take_set_of_le (Nat.le_refl i),List.getElem_set_self]
   rw [this,List.append_assoc];rfl
 have:=key l.length big l 0 (by omega) (by rw [mzJ];omega) hl;unfold kzA;simp only;rw [show nza (k,l,0)=_ from this,aza];simp
end Go.Proofs.YtdgpkbnnljblmaaGreatDoor

/- YR -/
namespace Go.Proofs.YtdgpkbnnljblmaaGreatDoor
open Go Go.Ev Go.Lib
theorem enc_case {r:Int} {up:Bool} (h:czc r):(Lib.encodeRune r).map (jzf up)=Lib.encodeRune (dz2 up r):=by
 have hc:=tzM (up:=up) h;obtain ⟨n,rfl⟩:=Int.eq_ofNat_of_zero_le h.1;have big:∀ m:Nat,128≤m % 256→jzf up (UInt8.ofNat m)=UInt8.ofNat m:=fun m hm=>by
  have e:(UInt8.ofNat m).toNat=m % 256:=rfl;unfold jzf;rw [e];split
  ·rw [if_neg (by omega)]
  ·rw [if_neg (by omega)]
 by_cases h1:n < 128
 ·have e:(UInt8.ofNat n).toNat=n:=by
   show n % 256=n
   omega
  rw [encZ n h,if_pos h1];unfold dz2 at hc ⊢;cases up with
  | true =>
   simp only [if_true] at hc ⊢;by_cases c:97≤n∧n≤122
   ·rw [if_pos (show 97≤(n:Int)∧(n:Int)≤122 by omega)] at hc ⊢;rw [show (n:Int) - 32=((n - 32:Nat):Int) by omega] at hc ⊢;rw [encZ _ hc,if_pos (by omega)];simp only [List.map_cons,List.map_nil,jzf,if_true];rw [e,if_pos c]
   ·rw [if_neg (show ¬ (97≤(n:Int)∧(n:Int)≤122) by omega)] at hc ⊢;rw [encZ _ hc,if_pos h1];simp only [List.map_cons,List.map_nil,jzf,if_true];rw [e,if_neg c]
  | false =>
   simp only [Bool.false_eq_true,if_false] at hc ⊢;by_cases c:65≤n∧n≤90
   ·rw [if_pos (show 65≤(n:Int)∧(n:Int)≤90 by omega)] at hc ⊢;rw [show (n:Int)+32=((n+32:Nat):Int) by omega] at hc ⊢;rw [encZ _ hc,if_pos (by omega)];simp only [List.map_cons,List.map_nil,jzf,Bool.false_eq_true,if_false];rw [e,if_pos c]
   ·rw [if_neg (show ¬ (65≤(n:Int)∧(n:Int)≤90) by omega)] at hc ⊢;rw [encZ _ hc,if_pos h1];simp only [List.map_cons,List.map_nil,jzf,Bool.false_eq_true,if_false];rw [e,if_neg c]
 ·have hcr:dz2 up (n:Int)=(n:Int):=by
   unfold dz2;split
   ·rw [if_neg (by omega)]
   ·rw [if_neg (by omega)]
  have h':=h;unfold czc at h';rw [hcr,encZ n h,if_neg h1];split
  ·simp only [List.map_cons,List.map_nil];rw [big _ (by omega),big _ (by omega)]
  ·split
   ·simp only [List.map_cons,List.map_nil];rw [big _ (by omega),big _ (by omega),big _ (by omega)]
   ·simp only [List.map_cons,List.map_nil];rw [big _ (by omega),big _ (by omega),big _ (by omega),big _ (by omega)]
theorem CzM {s:List UInt8} {up:Bool} (hv:validD s=true):s.map (jzf up)=encs ((rs s).map (dz2 up)):=by
 have h1:=yzg s.length s (Nat.le_refl _) hv;have h2:=uzD s.length s (Nat.le_refl _);have key:∀ l:List Int,(∀ r∈l,czc r)→(encs l).map (jzf up)=encs (l.map (dz2 up)):=by
  intro l;induction l with
  | nil=>intro _;rfl
  | cons r l ih =>
   intro h;have ih:=ih (fun x hx=>h x (by simp [hx]));unfold encs at ih ⊢;rw [List.map_cons,List.flatMap_cons,List.flatMap_cons,List.map_append,enc_case (h r (by simp)),ih]
 have:=key _ h2;rw [h1] at this;exact this
def okU (v:Val):Prop:=okW v∧(v.Kind≠4→(bzu (texR v)).2=0)
theorem LzF {l:List UInt8} (h:∀ c∈l,c.toNat < 128) (hl:l.length≤400):(bzu l).2=0:=by
 rw [mzE (Azt h)];have h1:=ulen_le (rs l);have h2:=szE l;omega
theorem okU_of {v:Val} (hl:v.S.length≤3000) (hm:I64 v.N.M) (h:ozU v=some 0):okU v:=by
 have hw:=okW_of hl hm h;refine ⟨hw,fun h4=>?_⟩;rcases hw.1 with rfl | ⟨d,rfl,hd⟩ | ⟨s,rfl,hs⟩ | ⟨t,rfl⟩ | ⟨e,rfl⟩
 ·rfl
 ·obtain ⟨M,S⟩:=d;have hm':I64 M:=hm;obtain ⟨s,rfl⟩:=Int.eq_ofNat_of_zero_le hd.1;have hs:s≤9:=by have:=hd.2.1;simp only at this;omega
  have e:texR (vN ⟨M,(s:Int)⟩)=jzD M s:=by
   unfold texR fz8 vN;simp [tzU hm' hs]
  have:=zz3 hm' hs;rw [e];exact LzF this.2 (by omega)
 ·have hl':s.length≤3000:=hl;have hun:=rzy (x:=s) (by omega);unfold ozU nz0 vS at h;simp [hun] at h;exact h
 ·cases t<;>decide +kernel
 ·exact absurd rfl h4
end Go.Proofs.YtdgpkbnnljblmaaGreatDoor

/- YU -/
namespace Go.Proofs.YtdgpkbnnljblmaaGreatDoor
open Go Go.Ev Go.Lib
def yzr (s:List UInt8) (n:Int):Val:=if (bzu s).1=0 then dzK [] else if Int.tdiv 1000 (bzu s).1 < n then vE 15 else dzK (Lib.repeatL s n.toNat)
def ezZ (k:Int) (v:Val) (vs:List Val):Val :=
 if v.Kind=4 then v else
  if k=14 then vN ⟨(bzu (texR v)).1,0⟩
  else if k=19∨k=20 then dzK (encs ((rs (texR v)).map (dz2 (decide (k=19)))))
  else if k=26 then (if (vs.headD v0).Kind=4 then vs.headD v0 else vT (decide (texR v=texR (vs.headD v0))))
  else if k=27 then (match gzS k vs with | .inl ns=>yzr (texR v) (ns.headD 0) | .inr f=>f)
  else (match gzS k vs with | .inl ns=>nzl k (texR v) ns | .inr f=>f)
theorem nz9 {k:Int} {v:Val} {vs:List Val} (h:v.Kind=4):ezZ k v vs=v:=if_pos h
theorem Lzv {v:Val} {vs:List Val} (h:¬ v.Kind=4):ezZ 14 v vs=vN ⟨(bzu (texR v)).1,0⟩:=by simp [ezZ,h]
theorem Lzw {v:Val} {vs:List Val} (h:¬ v.Kind=4):ezZ 19 v vs=dzK (encs ((rs (texR v)).map (dz2 true))):=by simp [ezZ,h]
theorem Lzx {v:Val} {vs:List Val} (h:¬ v.Kind=4):ezZ 20 v vs=dzK (encs ((rs (texR v)).map (dz2 false))):=by simp [ezZ,h]
theorem Lzy {v w:Val} (h:¬ v.Kind=4):ezZ 26 v [w]=if w.Kind=4 then w else vT (decide (texR v=texR w)):=by simp [ezZ,h]
theorem Lzz {v:Val} {vs:List Val} (h:¬ v.Kind=4):ezZ 27 v vs=match gzS 27 vs with | .inl ns=>yzr (texR v) (ns.headD 0) | .inr f=>f:=by simp [ezZ,h]
theorem wordV_p {k:Int} {v:Val} {vs:List Val} (hk:k=15∨k=16∨k=17):ezZ k v vs=if v.Kind=4 then v else match gzS k vs with | .inl ns=>nzl k (texR v) ns | .inr f=>f:=by
 unfold ezZ;rcases hk with rfl | rfl | rfl<;>simp
theorem Lzn (s:List UInt8):0≤(bzu s).1∧(bzu s).1≤1000:=by
 unfold bzu;split
 ·split
  ·simp
  ·simp only;omega
 ·simp
theorem tzN {s:List UInt8} {up:Bool} (hv:validD s=true):(encs ((rs s).map (dz2 up))).length=s.length:=by rw [← CzM hv,List.length_map]
theorem subTail (v:Val) (vs:List Val):sub (v :: vs) 1 (((v :: vs).length:Nat):Int)=some vs:=by
 have:=subG (D:=v :: vs) (i:=1) (k:=(v :: vs).length) (by simp) (by simp);rw [List.take_length] at this;simpa using this
theorem Kz9 {s:List UInt8} (hl:s.length≤3000) {n:Int} (h0:0≤n) (h:n≤1000):(Lib.repeatL s n.toNat).length≤3000000:=by
 rw [Lib.repeatL_length];have:n.toNat*s.length≤1000*3000:=Nat.mul_le_mul (by omega) hl;omega
theorem Ozp {k:Int} (hk:k=14∨k=19∨k=20) {v:Val} (h:okW v):czn (k,[v])=some (ezZ k v []):=by
 unfold czn;simp only;rw [idxZ,aza,rzx h,aza];by_cases h4:v.Kind=4
 ·rw [(czS h).1 h4,nz9 h4];rfl
 rw [(czS h).2 h4];simp only [Bool.not_true,azb];obtain ⟨tl,tv⟩:=szd h h4;have hb:cz7 (k,[v],v0,texR v,k)=some (.inr ((),ezZ k v [])):=by
  unfold cz7;simp only;rcases hk with rfl | rfl | rfl
  ·rw [Lzv h4];simp only [decide_true,azc];rw [rzy (by omega),aza,int_is,aza]
  ·rw [Lzw h4,show decide ((19:Int)=14)=false from rfl,azb];simp only [decide_true,azc];rw [Jzy (by omega),aza,rzw (by rw [tzN tv];omega),aza]
  ·rw [Lzx h4,show decide ((20:Int)=14)=false from rfl,show decide ((20:Int)=19)=false from rfl,azb,azb];simp only [decide_true,azc];rw [Jzy (by omega),aza,rzw (by rw [tzN tv];omega),aza]
 rw [show (⟨0,⟨0,0⟩,[],false,0⟩:Val)=v0 from rfl,hb,aza];rfl
theorem Ozq {v w:Val} (h:okW v) (hw:okW w):czn (26,[v,w])=some (ezZ 26 v [w]):=by
 unfold czn;simp only;rw [idxZ,aza,rzx h,aza];by_cases h4:v.Kind=4
 ·rw [(czS h).1 h4,nz9 h4];rfl
 rw [(czS h).2 h4];simp only [Bool.not_true,azb];have hb:cz7 (26,[v,w],v0,texR v,26)=some (.inr ((),ezZ 26 v [w])):=by
  unfold cz7;simp only;rw [Lzy h4,show decide ((26:Int)=14)=false from rfl,show decide ((26:Int)=19)=false from rfl,show decide ((26:Int)=20)=false from rfl,azb,azb,azb];simp only [decide_true,azc];rw [show idx [v,w] 1=some w from rfl,aza,rzx hw,aza];by_cases w4:w.Kind=4
  ·rw [(czS hw).1 w4,if_pos w4];rfl
  ·rw [(czS hw).2 w4,if_neg w4];rfl
 rw [show (⟨0,⟨0,0⟩,[],false,0⟩:Val)=v0 from rfl,hb,aza];rfl
theorem Mz2 {v w:Val} (h:okW v) (hw:okW w):czn (27,[v,w])=some (ezZ 27 v [w]):=by
 unfold czn;simp only;rw [idxZ,aza,rzx h,aza];by_cases h4:v.Kind=4
 ·rw [(czS h).1 h4,nz9 h4];rfl
 rw [(czS h).2 h4,Lzz h4];simp only [Bool.not_true,azb];obtain ⟨tl,tv⟩:=szd h h4;have hb:cz7 (27,[v,w],v0,texR v,27)=some (.inl ((),v0)):=rfl;rw [show (⟨0,⟨0,0⟩,[],false,0⟩:Val)=v0 from rfl,hb,aza];simp only [osum];rw [subTail,aza,HzW (by intro x hx;simp only [List.mem_singleton] at hx;subst hx;exact hw) (by simp),aza];cases e:gzS 27 [w] with
 | inr f=>rfl
 | inl ns =>
  obtain ⟨a,b,rfl,a0,a1,_,_,_⟩:=Fzr (by simp) (by intro x hx;simp only [List.mem_singleton] at hx;subst hx;exact hw) e;rw [show amtG (.inl [a,b]) = .inl ([a,b],v0) from rfl];simp only [List.headD_cons];rw [show decide ((27:Int)=15)=false from rfl,show decide ((27:Int)=16)=false from rfl,show decide ((27:Int)=17)=false from rfl,azb,azb,azb,rzy (by omega),aza];obtain ⟨u0,u1⟩:=Lzn (texR v);unfold yzr;by_cases hz:(bzu (texR v)).1=0
  ·rw [decide_eq_true hz,azc,if_pos hz,rzw (by simp),aza]
  ·rw [decide_eq_false hz,azb,if_neg hz,idxZ,aza,azb];have hq:0≤Int.tdiv 1000 (bzu (texR v)).1∧Int.tdiv 1000 (bzu (texR v)).1≤1000:=by
    rw [Int.tdiv_eq_ediv_of_nonneg (by omega)];exact ⟨Int.ediv_nonneg (by omega) u0,Int.ediv_le_self _ (by omega)⟩
   rw [azp (by omega) (by omega)];by_cases hc:Int.tdiv 1000 (bzu (texR v)).1 < a
   ·rw [decide_eq_true hc,azc,if_pos hc,gzv,aza]
   ·rw [decide_eq_false hc,azb,if_neg hc,aza];have hr:czN (texR v,a)=some (Lib.repeatL (texR v) a.toNat):=by
     have hm:((texR v).length:Int)*a≤3000*1000:=Int.mul_le_mul (by omega) (by omega) a0 (by omega);unfold czN;rw [decide_eq_true (show (0:Int)≤(texR v,a).2 from a0),decide_eq_true (show (((texR v,a).1.length:Int))*(texR v,a).2≤140737488355328 by simp only;omega)];rfl
    have:=Kz9 tl a0 (show a≤1000 by omega);rw [hr,aza,rzw (by omega),aza]
theorem catN {x y:List UInt8} (h:x.length+y.length≤100000000):cat x y=some (x++y):=by
 have:fits (x.length+y.length)=true:=by unfold fits;exact Nat.ble_eq_true_of_le (by unfold bze;omega)
 unfold cat
 rw [this];rfl
theorem rep_loop {s:List UInt8} {m:Nat} {S:Int} (hl:s.length≤3000) (hm:m≤1000):fzy (s,⟨(m:Int),S⟩,[],0)=some (Lib.repeatL s m):=by
 have this:fzy (s,⟨(m:Int),S⟩,[],0)=some (id _):=bzb (F:=fzx) (fun (z:List UInt8) (i:Nat)=>(s,(⟨(m:Int),S⟩:Dec),z,(i:Int))) id (List.replicate m ()) (fun z _=>.inl (z++s)) id (fun z i=>z.length≤3000*i) (by rw [List.length_replicate];omega)
  (fun back z i hi hz=>by
   rw [List.length_replicate] at hi;unfold fzx;simp only;rw [ltT hi,azc,catN (by omega),aza,wr1 (by omega)];rfl)
  (fun z i hi z' hz h=>by
   cases h;rw [List.length_append,Nat.mul_add,Nat.mul_one];exact Nat.add_le_add hz hl)
  (fun back z _=>by
   rw [List.length_replicate];unfold fzx;simp only;rw [ltF,azb];rfl) [] (by simp)
 rw [this,ezQ,id,id];have:∀ (m:Nat) (z:List UInt8),(List.replicate m ()).foldl (fun z _=>z++s) z=z++Lib.repeatL s m:=by
  intro m;induction m with
  | zero=>intro z;simp [Lib.repeatL]
  | succ m ih=>intro z;simp only [List.replicate_succ,List.foldl_cons,Lib.repeatL];rw [ih,List.append_assoc]
 rw [this];rfl
theorem units_nil {s:List UInt8} (hv:validD s=true) (hu:(bzu s).2=0):(bzu s).1=(ulen (rs s):Int)∧((bzu s).1=0↔s=[]):=by
 have h1:=(mzE hv).1 hu;have e:(bzu s).1=(ulen (rs s):Int):=by
  unfold bzu;rw [if_pos hv,if_neg (by omega)]
 refine ⟨e,?_⟩;rw [e];constructor
 ·intro h;have:=szS hv;exact List.eq_nil_of_length_eq_zero (by omega)
 ·intro h;subst h;rfl
theorem HzH {s:List UInt8} (hv:validD s=true):∀ n:Nat,validD (Lib.repeatL s n)=true∧ulen (rs (Lib.repeatL s n))=n*ulen (rs s)
 | 0=>⟨rfl,by simp [Lib.repeatL,Ez9,ulen]⟩
 | n+1=>by
  obtain ⟨h1,h2⟩:=HzH hv n;refine ⟨?_,?_⟩
  ·rw [Lib.repeatL,szO hv];exact h1
  ·rw [Lib.repeatL,rs_app hv,Czx,h2,Nat.succ_mul];omega
theorem rept_eq {s:List UInt8} {n:Int} (hv:validD s=true) (hu:(bzu s).2=0) (hn:0≤n):(if s=[] then dzK [] else if 1000 < n then vE 15 else dzK (Lib.repeatL s n.toNat))=yzr s n:=by
 obtain ⟨e,hz⟩:=units_nil hv hu;unfold yzr;by_cases h:s=[]
 ·rw [if_pos h,if_pos (hz.2 h)]
 ·have h0:¬ (bzu s).1=0:=fun c=>h (hz.1 c)
  rw [if_neg h,if_neg h0];rw [e] at h0 ⊢;have hu1:=(mzE hv).1 hu;generalize hU:ulen (rs s)=u at *;have u1:1≤u:=by omega
  have hq:Int.tdiv 1000 (u:Int)=((1000 / u:Nat):Int):=by rw [Int.tdiv_eq_ediv_of_nonneg (by omega)];rfl
  rw [hq];by_cases hc:((1000 / u:Nat):Int) < n
  ·rw [if_pos hc];by_cases hb:1000 < n
   ·rw [if_pos hb]
   ·rw [if_neg hb];obtain ⟨v1,v2⟩:=HzH hv n.toNat
    rw [hU] at v2;have:1000 < n.toNat*u:=by
     have:=(Nat.div_lt_iff_lt_mul (show 0 < u by omega)).1 (show 1000 / u < n.toNat by omega);exact this
    unfold dzK;rw [if_neg (by rw [mzE v1,v2];omega)]
  ·rw [if_neg hc];have:1000 / u≤1000:=Nat.div_le_self _ _;rw [if_neg (by omega)]
end Go.Proofs.YtdgpkbnnljblmaaGreatDoor

/- YV -/
namespace Go.Proofs.YtdgpkbnnljblmaaGreatDoor
open Go Go.Ev Go.Lib
theorem ori:(∀ x:Fin 32,azn .or .i64 192 (x.val:Int)=192+x.val)∧(∀ x:Fin 16,azn .or .i64 224 (x.val:Int)=224+x.val)∧(∀ x:Fin 8,azn .or .i64 240 (x.val:Int)=240+x.val) ∧
 (∀ x:Fin 64,azn .or .i64 128 (x.val:Int)=128+x.val):=by decide +kernel
theorem and63 {n:Nat} (h:n < 9223372036854775808):azn .and .i64 (n:Int) 63=((n % 64:Nat):Int):=by
 have:=rzr (x:=n) (y:=63) h (by omega);rw [show ((63:Nat):Int)=63 from rfl] at this;rw [this,show (63:Nat)=2 ^ 6 - 1 from rfl,Nat.and_two_pow_sub_one_eq_mod]
theorem lo6i {n:Nat} (h:n < 9223372036854775808):UInt8.ofNat (IntKind.u8.wrap (azn .or .i64 128 (azn .and .i64 (n:Int) 63))).toNat=UInt8.ofNat (128+n % 64):=by
 rw [and63 h];have:=ori.2.2.2 ⟨n % 64,by omega⟩;simp only at this;rw [this,show (128:Int)+((n % 64:Nat):Int)=((128+n % 64:Nat):Int) by omega,pzx]
theorem hi5i {n:Nat} (h:n < 32):UInt8.ofNat (IntKind.u8.wrap (azn .or .i64 192 (n:Int))).toNat=UInt8.ofNat (192+n):=by
 have:=ori.1 ⟨n,h⟩;simp only at this;rw [this,show (192:Int)+(n:Int)=((192+n:Nat):Int) by omega,pzx]
theorem hi4i {n:Nat} (h:n < 16):UInt8.ofNat (IntKind.u8.wrap (azn .or .i64 224 (n:Int))).toNat=UInt8.ofNat (224+n):=by
 have:=ori.2.1 ⟨n,h⟩;simp only at this;rw [this,show (224:Int)+(n:Int)=((224+n:Nat):Int) by omega,pzx]
theorem hi3i {n:Nat} (h:n < 8):UInt8.ofNat (IntKind.u8.wrap (azn .or .i64 240 (n:Int))).toNat=UInt8.ofNat (240+n):=by
 have:=ori.2.2.1 ⟨n,h⟩;simp only at this;rw [this,show (240:Int)+(n:Int)=((240+n:Nat):Int) by omega,pzx]
theorem Ozc {r:Int} (h:czc r):rzf r=some (Lib.encodeRune r):=by
 obtain ⟨n,rfl⟩:=Int.eq_ofNat_of_zero_le h.1;have h':=h;unfold czc at h';rw [encZ n h];unfold rzf;have d6:=yzm n 64;have d12:=yzm n 4096;have d18:=yzm n 262144;simp only [Int.cast_ofNat_Int] at d6 d12 d18;rw [d6,d12,d18,lo6i (by omega),lo6i (by omega),lo6i (by omega)];by_cases c1:n < 128
 ·rw [decide_eq_true (show (n:Int) < 128 by omega),azc,if_pos c1,pzx]
 rw [decide_eq_false (show ¬ (n:Int) < 128 by omega),azb,if_neg c1];by_cases c2:n < 2048
 ·rw [decide_eq_true (show (n:Int) < 2048 by omega),azc,if_pos c2,hi5i (by omega)]
 rw [decide_eq_false (show ¬ (n:Int) < 2048 by omega),azb,if_neg c2];by_cases c3:n < 65536
 ·rw [decide_eq_true (show (n:Int) < 65536 by omega),azc,if_pos c3,hi4i (by omega)]
 ·rw [decide_eq_false (show ¬ (n:Int) < 65536 by omega),azb,if_neg c3,hi3i (by omega)]
theorem JzM:∀ {l:List Int},(∀ r∈l,czc r)→(encs l).length≤4*l.length
 | [],_=>by simp [encs]
 | r :: l,h=>by
  have h1:=tzc (h r (by simp));have h2:=JzM (l:=l) (fun x hx=>h x (by simp [hx]));unfold encs at h2 ⊢;rw [List.flatMap_cons,List.length_append,List.length_cons];omega
theorem runesF_is {l:List Int} (h:∀ r∈l,czc r) (hl:l.length≤1000000):azZ l=some (encs l):=by
 have this:ozG (l,[],0)=some (id _):=bzb (F:=gzo) (fun (s:List UInt8) (i:Nat)=>(l,s,(i:Int))) id l (fun s r=>.inl (s++Lib.encodeRune r)) id (fun s i=>s.length≤4*i) (by omega)
  (fun back s i hi hs=>by
   have hr:=h _ (List.getElem_mem hi);have:=tzc hr;unfold gzo;simp only;rw [ltT hi,azc,idxG hi,aza,Ozc hr,aza,appN (by omega),aza,wr1 (by omega)];rfl)
  (fun s i hi s' hs e=>by
   cases e;have:=tzc (h _ (List.getElem_mem hi));rw [List.length_append,Nat.mul_add];exact Nat.add_le_add hs this)
  (fun back s _=>by
   unfold gzo;simp only;rw [ltF,azb];rfl) [] (by simp)
 unfold azZ;rw [this,ezQ];have:∀ (l:List Int) (s:List UInt8),l.foldl (fun s r=>s++Lib.encodeRune r) s=s++encs l:=by
  intro l;induction l with
  | nil=>intro s;simp [encs]
  | cons r l ih=>intro s;rw [List.foldl_cons,ih];unfold encs;rw [List.flatMap_cons,List.append_assoc]
 rw [id,id,this,aza];rfl
end Go.Proofs.YtdgpkbnnljblmaaGreatDoor

/- YW -/
namespace Go.Proofs.YtdgpkbnnljblmaaGreatDoor
open Go Go.Ev Go.Lib
def cl (m:Int):Int:=if 10000 < m then 10000 else m
def amtR (k:Int) (x:List Int×Nat) (v:Val):(List Int×Nat)⊕(List Int⊕Val):=match amt v (gzi k x.2) with
 | .inl m=>.inl (x.1.set x.2 (cl m),x.2+1)
 | .inr f=>.inr (.inr f)
theorem amtR_is {k:Int}:∀ (vs:List Val) (ns:List Int) (j:Nat),azL (amtR k) (fun x=>(.inl x.1:List Int⊕Val)) (ns.map cl,j) vs=match azL (amtS k) (fun x=>(.inl x.1:List Int⊕Val)) (ns,j) vs with | .inl ns=>.inl (ns.map cl) | .inr f=>.inr f
 | [],ns,j=>rfl
 | v :: vs,ns,j=>by
  simp only [azL,amtR,amtS];cases amt v (gzi k j) with
  | inr f=>rfl
  | inl m =>
   simp only;rw [← List.map_set];exact amtR_is vs (ns.set j m) (j+1)
theorem b3_amt {d:Dec} {lo:Int}:dzR (d,lo)=some (!decide (d.S=0∧lo≤d.M)):=by
 unfold dzR;simp only;by_cases h:d.S=0
 ·rw [decide_eq_true h,Bool.not_true,azb];by_cases h2:d.M < lo
  ·rw [decide_eq_true h2,decide_eq_false (fun c=>by omega)];rfl
  ·rw [decide_eq_false h2,decide_eq_true ⟨h,by omega⟩];rfl
 ·rw [decide_eq_false h,Bool.not_false,azc,decide_eq_false (fun c=>h c.1)];rfl
def rpG:List Int⊕Val→(List Int×Val)⊕(Unit×Val)
 | .inl ns=>.inl (ns,v0)
 | .inr f=>.inr ((),f)
theorem pieces_b2 {k:Int} {a:Arg} {l:List Arg} {ns:List Int} {j:Nat} (hj:j < l.length) (hb:badB l[j]=false) (hv:okW (fst1 l[j])) (hn:j < ns.length) (hl:l.length≤1000) :
 lzj (k,a :: l,v0,ns,((j+1:Nat):Int))=some (match amt (fst1 l[j]) (gzi k j) with | .inl m=>.inl (ns.set j (cl m),v0) | .inr f=>.inr ((),f)):=by
 have hi:idx (a :: l) ((j+1:Nat):Int)=some l[j]:=by rw [idxG (by simp;omega)];simp
 have hw:IntKind.i64.wrap (((j+1:Nat):Int) - 1)=(j:Int):=by rw [azp (by omega) (by omega)];omega
 have e:∀ lo:Int,∀ (d:Dec),(obnd (dzR (d,lo)) fun y_1 =>
  brn y_1 (obnd (azo 15) fun y=>some (Sum.inr ((),y)))
   (brn (decide (10000 < d.M))
    (obnd (inb ns.length (IntKind.i64.wrap (((j+1:Nat):Int) - 1))) fun k =>
     obnd (nth ns k) fun y=>some (Sum.inl (ns.set k 10000,v0)))
    (obnd (inb ns.length (IntKind.i64.wrap (((j+1:Nat):Int) - 1))) fun k =>
     obnd (nth ns k) fun y_2=>some (Sum.inl (ns.set k d.M,v0)))))=(some (if d.S=0∧lo≤d.M then .inl (ns.set j (cl d.M),v0) else .inr ((),vE 15)):Option ((List Int×Val)⊕(Unit×Val))):=by
  intro lo d;rw [b3_amt,aza,hw,inb_is hn,aza,DzX hn,aza,aza,DzX hn,aza];by_cases h:d.S=0∧lo≤d.M
  ·rw [decide_eq_true h,Bool.not_true,azb,if_pos h];unfold cl;by_cases hc:10000 < d.M
   ·rw [decide_eq_true hc,azc,if_pos hc]
   ·rw [decide_eq_false hc,azb,if_neg hc]
  ·rw [decide_eq_false h,Bool.not_false,azc,if_neg h];rfl
 unfold lzj;simp only;rw [hi,aza,dzz hb,aza,(kzx hv).2,aza];unfold amt;generalize numR (fst1 l[j])=r;obtain ⟨d,f,ok⟩:=r;cases ok with
 | false=>rfl
 | true =>
  simp only [Bool.not_true,azb,if_true];rw [e 1 d,e 0 d];by_cases c1:k=17
  ·rw [decide_eq_true c1,azc];by_cases c2:((j+1:Nat):Int)=1
   ·rw [decide_eq_true c2,azc,show gzi k j=1 from if_pos ⟨c1,by omega⟩];by_cases h:d.S=0∧1≤d.M
    ·rw [if_pos h,if_pos h]
    ·rw [if_neg h,if_neg h]
   ·rw [decide_eq_false c2,azb,show gzi k j=0 from if_neg (by omega)];by_cases h:d.S=0∧0≤d.M
    ·rw [if_pos h,if_pos h]
    ·rw [if_neg h,if_neg h]
  ·rw [decide_eq_false c1,azb,show gzi k j=0 from if_neg (fun c=>c1 c.1)];by_cases h:d.S=0∧0≤d.M
   ·rw [if_pos h,if_pos h]
   ·rw [if_neg h,if_neg h]
theorem pieces_l1 {k:Int} {a:Arg} {l:List Arg} (hb:l.any badB=false) (hv:∀ a∈l,∀ v∈a.L,okW v) (hl:l.length≤2) :
 fzn (k,a :: l,v0,[1,1],1)=some (rpG (match gzS k (l.map fst1) with | .inl ns=>.inl (ns.map cl) | .inr f=>.inr f)):=by
 have hbad:∀ j (hj:j < l.length),badB l[j]=false:=fun j hj=>by
  rw [List.any_eq_false] at hb;simpa using hb _ (List.getElem_mem hj)
 have:=bzb (F:=fzm) (fun (x:List Int×Nat) (i:Nat)=>(k,a :: l,v0,x.1,((i+1:Nat):Int))) rpG l (fun x a=>amtR k x (fst1 a)) (fun x=>.inl x.1) (fun x i=>x.2=i∧x.1.length=2) (by omega)
  (fun back x i hi hp=>by
   obtain ⟨ns,j⟩:=x;simp only at hp;obtain ⟨rfl,h2⟩:=hp;unfold fzm amtR;simp only;rw [decide_eq_true (show ((j+1:Nat):Int) < (((a :: l).length:Nat):Int) by simp only [List.length_cons];omega),azc,pieces_b2 hi (hbad j hi) (hv _ (List.getElem_mem hi) _ (gzj (hbad j hi))) (by omega) (by omega),aza,wr1 (by omega)];cases amt (fst1 l[j]) (gzi k j)<;>rfl)
  (fun x i hi x' hp h=>by
   obtain ⟨ns,j⟩:=x;simp only at hp;obtain ⟨rfl,h2⟩:=hp;unfold amtR at h;simp only at h;revert h;cases amt (fst1 l[j]) (gzi k j)<;>intro h<;>cases h;simp [h2])
  (fun back x hp=>by
   unfold fzm;simp only;rw [decide_eq_false (show ¬ ((l.length+1:Nat):Int) < (((a :: l).length:Nat):Int) by simp only [List.length_cons];omega),azb];rfl) ([1,1],0) ⟨rfl,rfl⟩
 have this:fzn (k,a :: l,v0,[1,1],1)=some (rpG (azL (fun x a=>amtR k x (fst1 a)) (fun x=>.inl x.1) ([1,1],0) l)):=this;rw [this];have hm:∀ (l:List Arg) (x:List Int×Nat),azL (fun x a=>amtR k x (fst1 a)) (fun x=>(.inl x.1:List Int⊕Val)) x l=azL (amtR k) (fun x=>(.inl x.1:List Int⊕Val)) x (l.map fst1):=by
  intro l;induction l with
  | nil=>intro x;rfl
  | cons b l ih =>
   intro x;simp only [List.map_cons,azL];cases amtR k x (fst1 b) with
   | inl y=>exact ih y
   | inr y=>rfl
 rw [hm,show ([1,1]:List Int)=[1,1].map cl from rfl,amtR_is];rfl
theorem slice_min (l:List Int) (f n:Nat):(l.drop f).take n=(l.drop (min f l.length)).take (min n (l.length - min f l.length)):=by
 by_cases h:f≤l.length
 ·rw [Nat.min_eq_left h,List.take_eq_take_iff,List.length_drop];omega
 ·rw [List.drop_eq_nil_of_le (by omega),List.drop_eq_nil_of_le (by omega)];simp
theorem pieceT {l:List Int} {f n:Int} (hr:∀ r∈l,czc r) (hl:l.length≤5000) (hf:0≤f) (hf2:f≤20000) (hn:0≤n) (hn2:n≤20000) :
 (brn (decide ((l.length:Int) < f))
  (brn (decide (IntKind.i64.wrap ((l.length:Int) - (l.length:Int)) < n))
   (obnd (sub l (l.length:Int) (IntKind.i64.wrap ((l.length:Int)+IntKind.i64.wrap ((l.length:Int) - (l.length:Int)))))
    fun z=>obnd (azZ z) fun y=>obnd (azE y) fun y=>some y)
   (obnd (sub l (l.length:Int) (IntKind.i64.wrap ((l.length:Int)+n))) fun z =>
    obnd (azZ z) fun y=>obnd (azE y) fun y=>some y))
  (brn (decide (IntKind.i64.wrap ((l.length:Int) - f) < n))
   (obnd (sub l f (IntKind.i64.wrap (f+IntKind.i64.wrap ((l.length:Int) - f)))) fun z =>
    obnd (azZ z) fun y=>obnd (azE y) fun y=>some y)
   (obnd (sub l f (IntKind.i64.wrap (f+n))) fun z=>obnd (azZ z) fun y=>obnd (azE y) fun y=>some y))) =
  some (dzK (encs ((l.drop f.toNat).take n.toNat))):=by
 have fin:∀ i j:Nat,i≤j→j≤l.length→(obnd (sub l (i:Int) (j:Int)) fun z=>obnd (azZ z) fun y=>obnd (azE y) fun y=>some y)=some (dzK (encs ((l.drop i).take (j - i)))):=fun i j h1 h2=>by
  have hz:∀ r∈(l.take j).drop i,czc r:=fun r h=>hr r (List.mem_of_mem_take (List.mem_of_mem_drop h))
  have hzl:((l.take j).drop i).length≤5000:=by rw [List.length_drop,List.length_take];omega
  have he:=JzM hz;rw [subG h1 h2,aza,runesF_is hz (by omega),aza,pzy (by omega),aza,List.drop_take]
 rw [slice_min l f.toNat n.toNat];have w0:IntKind.i64.wrap ((l.length:Int) - (l.length:Int))=0:=by rw [azp (by omega) (by omega)];omega
 rw [w0];by_cases c1:(l.length:Int) < f
 ·rw [decide_eq_true c1,azc,show min f.toNat l.length=l.length by omega,Nat.sub_self,Nat.min_zero];have f0:=fin l.length l.length (Nat.le_refl _) (Nat.le_refl _);rw [Nat.sub_self] at f0;by_cases c2:0 < n
  ·rw [decide_eq_true c2,azc,azp (by omega) (by omega),Int.add_zero];exact f0
  ·rw [decide_eq_false c2,azb,azp (by omega) (by omega),show (l.length:Int)+n=(l.length:Int) by omega];exact f0
 ·rw [decide_eq_false c1,azb,show min f.toNat l.length=f.toNat by omega,azp (n:=(l.length:Int) - f) (by omega) (by omega)];by_cases c2:(l.length:Int) - f < n
  ·have:=fin f.toNat l.length (by omega) (Nat.le_refl _);rw [decide_eq_true c2,azc,azp (by omega) (by omega),show f+((l.length:Int) - f)=(l.length:Int) by omega,show min n.toNat (l.length - f.toNat)=l.length - f.toNat by omega];rw [show ((f.toNat:Nat):Int)=f by omega] at this;exact this
  ·have:=fin f.toNat (f.toNat+n.toNat) (by omega) (by omega);rw [decide_eq_false c2,azb,azp (by omega) (by omega),show min n.toNat (l.length - f.toNat)=f.toNat+n.toNat - f.toNat by omega];rw [show ((f.toNat:Nat):Int)=f by omega,show ((f.toNat+n.toNat:Nat):Int)=f+n by omega] at this;exact this
end Go.Proofs.YtdgpkbnnljblmaaGreatDoor

/- YX -/
namespace Go.Proofs.YtdgpkbnnljblmaaGreatDoor
open Go Go.Ev Go.Lib
def arOk (k:Int) (l:List Arg):Bool:=if k=17 then decide (l.length=3) else if k=15∨k=16 then (decide (1≤l.length)&&decide (l.length≤2)) else if 26≤k then decide (l.length=2) else decide (l.length=1)
def lzx (k:Int) (l:List Arg):Val:=if (arOk k l&&!l.any badB)=true then ezZ k ((l.map fst1).headD v0) (l.map fst1).tail else vE 15
theorem cl_ok {x:Int} (h:0≤x):0≤cl x∧cl x≤10000∧(x≤10000→cl x=x)∧(10000 < x→cl x=10000):=by
 unfold cl;split<;>omega
theorem piece_cl {k:Int} (hk:k=15∨k=16∨k=17) {s:List UInt8} {x y:Int} (hl:s.length≤3000) (hx:0≤x) (hy:0≤y) (h1:k=17→1≤x) :
 (obnd (fzk ([cl x,cl y],rs s,0,cl x,k)) fun y_4 =>
  brn (decide (((rs s).length:Int) < y_4.fst))
   (brn (decide (IntKind.i64.wrap (((rs s).length:Int) - ((rs s).length:Int)) < y_4.snd))
    (obnd (sub (rs s) ((rs s).length:Int) (IntKind.i64.wrap (((rs s).length:Int)+IntKind.i64.wrap (((rs s).length:Int) - ((rs s).length:Int)))))
     fun z=>obnd (azZ z) fun y=>obnd (azE y) fun y=>some y)
    (obnd (sub (rs s) ((rs s).length:Int) (IntKind.i64.wrap (((rs s).length:Int)+y_4.snd))) fun z =>
     obnd (azZ z) fun y=>obnd (azE y) fun y=>some y))
   (brn (decide (IntKind.i64.wrap (((rs s).length:Int) - y_4.fst) < y_4.snd))
    (obnd (sub (rs s) y_4.fst (IntKind.i64.wrap (y_4.fst+IntKind.i64.wrap (((rs s).length:Int) - y_4.fst)))) fun z =>
     obnd (azZ z) fun y=>obnd (azE y) fun y=>some y)
    (obnd (sub (rs s) y_4.fst (IntKind.i64.wrap (y_4.fst+y_4.snd))) fun z=>obnd (azZ z) fun y=>obnd (azE y) fun y=>some y)))=some (nzl k s [x,y]):=by
 have hr:=uzD s.length s (Nat.le_refl _);have hrl:=szE s;obtain ⟨cx0,cx1,cx2,cx3⟩:=cl_ok hx;obtain ⟨cy0,cy1,cy2,cy3⟩:=cl_ok hy;have P:=fun (f n:Int) (a:0≤f) (b:f≤20000) (c:0≤n) (d:n≤20000)=>pieceT hr (show (rs s).length≤5000 by omega) a b c d
 unfold fzk;simp only;rcases hk with rfl | rfl | rfl
 ·rw [show decide ((15:Int)=16)=false from rfl,show decide ((15:Int)=17)=false from rfl,azb,azb,aza];simp only;rw [P 0 (cl x) (by omega) (by omega) cx0 (by omega),HzC];congr 3;rw [show Int.toNat 0=0 from rfl,List.drop_zero,List.take_eq_take_iff];omega
 ·rw [show decide ((16:Int)=16)=true from rfl,azc,azp (by omega) (by omega)];by_cases c:((rs s).length:Int) - cl x < 0
  ·rw [decide_eq_true c,azc,aza];simp only;rw [P 0 (cl x) (by omega) (by omega) cx0 (by omega),wzT];congr 3;rw [show Int.toNat 0=0 from rfl,show (rs s).length - x.toNat=0 by omega,List.drop_zero,List.take_eq_take_iff];omega
  ·rw [decide_eq_false c,azb,aza];simp only;rw [P _ (cl x) (by omega) (by omega) cx0 (by omega),wzT];congr 3;rw [show (((rs s).length:Int) - cl x).toNat=(rs s).length - x.toNat by omega,List.take_eq_take_iff,List.length_drop];omega
 ·have:=h1 rfl;rw [show decide ((17:Int)=16)=false from rfl,azb,show decide ((17:Int)=17)=true from rfl,azc,idxZ,aza,show idx [cl x,cl y] 1=some (cl y) from rfl,aza,aza];simp only;rw [azp (n:=cl x - 1) (by omega) (by omega),P (cl x - 1) (cl y) (by omega) (by omega) cy0 (by omega),HzD];congr 3;by_cases c:x≤10000
  ·rw [cx2 c,List.take_eq_take_iff,List.length_drop];omega
  ·rw [List.drop_eq_nil_of_le (by omega),List.drop_eq_nil_of_le (by omega)];simp
theorem pieces_is {k:Int} {l:List Arg} (hk:k=15∨k=16∨k=17) (hl:l.length≤1000) (hv:∀ a∈l,∀ v∈a.L,okW v):ezV (k,l)=some (lzx k l):=by
 have main:(arOk k l&&!l.any badB)=true→(obnd (idx l 0) fun y =>
  obnd (idx y.L 0) fun y =>
   obnd (czC y) fun y =>
    brn (!y.2.snd) (some y.2.fst)
     (obnd (fzn (k,l,v0,[1,1],1)) fun y_1 =>
      osum y_1
       (fun y_2 =>
        obnd (jzS y.fst) fun y =>
         obnd (idx y_2.1 0) fun y_3 =>
          obnd (fzk (y_2.1,y.fst,0,y_3,k)) fun y_4 =>
           brn (decide ((y.fst.length:Int) < y_4.fst))
            (brn (decide (IntKind.i64.wrap ((y.fst.length:Int) - (y.fst.length:Int)) < y_4.snd))
             (obnd
              (sub y.fst (y.fst.length:Int)
               (IntKind.i64.wrap ((y.fst.length:Int)+IntKind.i64.wrap ((y.fst.length:Int) - (y.fst.length:Int)))))
              fun z=>obnd (azZ z) fun y=>obnd (azE y) fun y=>some y)
             (obnd (sub y.fst (y.fst.length:Int) (IntKind.i64.wrap ((y.fst.length:Int)+y_4.snd))) fun z =>
              obnd (azZ z) fun y=>obnd (azE y) fun y=>some y))
            (brn (decide (IntKind.i64.wrap ((y.fst.length:Int) - y_4.fst) < y_4.snd))
             (obnd (sub y.fst y_4.fst (IntKind.i64.wrap (y_4.fst+IntKind.i64.wrap ((y.fst.length:Int) - y_4.fst)))) fun z =>
              obnd (azZ z) fun y=>obnd (azE y) fun y=>some y)
             (obnd (sub y.fst y_4.fst (IntKind.i64.wrap (y_4.fst+y_4.snd))) fun z=>obnd (azZ z) fun y=>obnd (azE y) fun y=>some y)))
       fun y=>some y.2))=some (lzx k l):=by
  intro hok;unfold lzx;rw [if_pos hok];simp only [Bool.and_eq_true,Bool.not_eq_true'] at hok;obtain ⟨har,hb⟩:=hok;have hlen:1≤l.length∧l.length≤3:=by
   unfold arOk at har;rcases hk with rfl | rfl | rfl<;>simp at har<;>omega
  obtain ⟨a,bs,rfl⟩:∃ a bs,l=a :: bs:=by
   cases l with
   | nil=>simp at hlen
   | cons a bs=>exact ⟨a,bs,rfl⟩
  simp only [List.length_cons] at hlen;simp only [List.any_cons,Bool.or_eq_false_iff] at hb;have ow:=hv a (by simp) _ (gzj hb.1);have hvs:∀ b∈bs,∀ v∈b.L,okW v:=fun b h=>hv b (by simp [h])
  have hvf:∀ v∈bs.map fst1,okW v:=by
   intro v h;obtain ⟨b,hbm,rfl⟩:=List.mem_map.1 h;have:badB b=false:=by
    have:=hb.2;rw [List.any_eq_false] at this;simpa using this b hbm
   exact hvs b hbm _ (gzj this)
  rw [idxZ,aza,dzz hb.1,aza,(tzC ow).2,aza,show ((a :: bs).map fst1).headD v0=fst1 a from rfl,show ((a :: bs).map fst1).tail=bs.map fst1 from rfl];by_cases h4:(fst1 a).Kind=4
  ·rw [(czS ow).1 h4,nz9 h4];rfl
  ·rw [(czS ow).2 h4,wordV_p hk,if_neg h4];simp only [Bool.not_true,azb];obtain ⟨tl,tv⟩:=szd ow h4;rw [pieces_l1 hb.2 hvs (by omega),aza,Azl (by omega),if_pos tv];cases e:gzS k (bs.map fst1) with
   | inr f=>rfl
   | inl ns =>
    obtain ⟨x,y,rfl,x0,_,y0,_,h1⟩:=Fzr (by rw [List.length_map];omega) hvf e;rw [show rpG (.inl ([x,y].map cl)) = .inl ([cl x,cl y],v0) from rfl];simp only [osum];rw [aza,idxZ,aza];exact piece_cl hk tl x0 y0 h1
 have bad:(arOk k l&&!l.any badB)=false→lzx k l=vE 15:=fun h=>by unfold lzx;rw [h];rfl
 unfold ezV;simp only [bzw,aza];by_cases h17:k=17
 ·have hs:=nz8 (l:=l) (p:=3) hl;have ha:arOk k l=decide (l.length=3):=by unfold arOk;rw [if_pos h17]
  rw [show (((3:Nat)):Int)=3 from rfl,← ha] at hs;rw [decide_eq_true h17,azc,hs,aza];cases hok:(arOk k l&&!l.any badB) with
  | true=>simp only [Bool.not_true,azb];exact main hok
  | false=>simp only [Bool.not_false,azc];rw [bad hok]
 ·have hs:=rz7 (l:=l) (p:=1) (q:=2) hl;have ha:(decide ((1:Int)≤l.length)&&(decide ((l.length:Int)≤2)&&!l.any badB))=(arOk k l&&!l.any badB):=by
   unfold arOk;rw [if_neg h17,if_pos (by omega)];have e1:decide ((1:Int)≤l.length)=decide (1≤l.length):=by
    by_cases h:1≤l.length
    ·rw [decide_eq_true h,decide_eq_true (show (1:Int)≤l.length by omega)]
    ·rw [decide_eq_false h,decide_eq_false (show ¬ (1:Int)≤l.length by omega)]
   have e2:decide ((l.length:Int)≤2)=decide (l.length≤2):=by
    by_cases h:l.length≤2
    ·rw [decide_eq_true h,decide_eq_true (show (l.length:Int)≤2 by omega)]
    ·rw [decide_eq_false h,decide_eq_false (show ¬ (l.length:Int)≤2 by omega)]
   rw [e1,e2,Bool.and_assoc]
  rw [ha] at hs;rw [decide_eq_false h17,azb,hs,aza];cases hok:(arOk k l&&!l.any badB) with
  | true=>simp only [Bool.not_true,azb];exact main hok
  | false=>simp only [Bool.not_false,azc];rw [bad hok]
end Go.Proofs.YtdgpkbnnljblmaaGreatDoor

/- YY -/
namespace Go.Proofs.YtdgpkbnnljblmaaGreatDoor
open Go Go.Ev Go.Lib
theorem wb1_one {k:Int} (hk:k=14∨k=19∨k=20) {l:List Arg} {v:Val} (h:okW v) (h4:¬ v.Kind=4):czY (k,l,v0,texR v,k)=some (.inr ((),ezZ k v [])):=by
 obtain ⟨tl,tv⟩:=szd h h4;have hL:∀ up:Bool,(texR v).map (jzf up)=encs ((rs (texR v)).map (dz2 up)):=fun up=>CzM tv
 unfold czY;simp only;rcases hk with rfl | rfl | rfl
 ·rw [Lzv h4];simp only [decide_true,azc];rw [nzo (by omega),aza,uzd,aza]
 ·rw [Lzw h4,show decide ((19:Int)=14)=false from rfl,azb];simp only [decide_true,azc];rw [Azb (.inl rfl) (by omega),aza,show decide ((19:Int)=19)=true from rfl,hL,pzy (by rw [tzN tv];omega),aza]
 ·rw [Lzx h4,show decide ((20:Int)=14)=false from rfl,show decide ((20:Int)=19)=false from rfl,azb,azb];simp only [decide_true,azc];rw [Azb (.inr rfl) (by omega),aza,show decide ((20:Int)=19)=false from rfl,hL,pzy (by rw [tzN tv];omega),aza]
theorem wb1_two {a b:Arg} {v w:Val} (hw:okW w) (hb:idx b.L 0=some w) (h4:¬ v.Kind=4):czY (26,[a,b],v0,texR v,26)=some (.inr ((),ezZ 26 v [w])):=by
 unfold czY;simp only;rw [Lzy h4,show decide ((26:Int)=14)=false from rfl,show decide ((26:Int)=19)=false from rfl,show decide ((26:Int)=20)=false from rfl,azb,azb,azb];simp only [decide_true,azc];rw [idx1,aza,hb,aza,(tzC hw).2,aza];by_cases w4:w.Kind=4
 ·rw [(czS hw).1 w4,if_pos w4];rfl
 ·rw [(czS hw).2 w4,if_neg w4];rfl
theorem rep_tail {s:List UInt8} {w:Val} (hw:okW w) (hl:s.length≤3000) (hv:validD s=true) (hu:(bzu s).2=0) :
 (obnd (bzm w) fun y_5 =>
  brn (!y_5.2.snd) (some y_5.2.fst)
   (brn (!decide (y_5.fst.S=0)) (some (vE 15))
    (brn (decide (y_5.fst.M < 0)) (some (vE 15))
     (brn (decide (s=[])) (obnd (azE []) fun y=>some y)
      (brn (decide (1000 < y_5.fst.M)) (some (vE 15))
       (obnd (fzy (s,y_5.fst,[],0)) fun y=>obnd (azE y) fun y=>some y)))))) =
  some (match gzS 27 [w] with | .inl ns=>yzr s (ns.headD 0) | .inr f=>f):=by
 rw [(kzx hw).2,aza];have e:gzS 27 [w]=match amt w 0 with | .inl m=>.inl [m,1] | .inr f=>.inr f:=by
  unfold gzS;simp only [azL,amtS];rw [show gzi 27 0=0 from rfl];cases amt w 0<;>rfl
 rw [e];unfold amt;have hm:=(ozD hw).2;generalize numR w=r at *;obtain ⟨⟨M,S⟩,f,ok⟩:=r;cases ok with
 | false=>rfl
 | true =>
  simp only [Bool.not_true,azb,if_true];by_cases c1:S=0
  ·rw [decide_eq_true c1,Bool.not_true,azb];by_cases c2:M < 0
   ·rw [decide_eq_true c2,azc,if_neg (by omega)]
   ·rw [decide_eq_false c2,azb,if_pos ⟨c1,by omega⟩];simp only [List.headD_cons];rw [← rept_eq hv hu (show 0≤M by omega)];by_cases c3:s=[]
    ·rw [decide_eq_true c3,azc,if_pos c3,pzy (by simp),aza]
    ·rw [decide_eq_false c3,azb,if_neg c3];by_cases c4:1000 < M
     ·rw [decide_eq_true c4,azc,if_pos c4]
     ·obtain ⟨m,rfl⟩:=Int.eq_ofNat_of_zero_le (show 0≤M by omega);have:=Kz9 hl (n:=(m:Int)) (by omega) (by omega);rw [Int.toNat_natCast] at this ⊢;rw [decide_eq_false c4,azb,if_neg c4,rep_loop hl (by omega),aza,pzy (by omega),aza]
  ·rw [decide_eq_false c1,if_neg (fun c=>c1 c.1)];rfl
theorem LzA {k:Int} {l:List Arg} (hk:k=14∨k=19∨k=20∨k=26∨k=27) (hl:l.length≤1000) (hv:∀ a∈l,∀ v∈a.L,okU v):lzG (k,l)=some (lzx k l):=by
 have bad:(arOk k l&&!l.any badB)=false→lzx k l=vE 15:=fun h=>by unfold lzx;rw [h];rfl
 have good:(arOk k l&&!l.any badB)=true→lzx k l=ezZ k ((l.map fst1).headD v0) (l.map fst1).tail:=fun h=>by unfold lzx;rw [if_pos h]
 unfold lzG;simp only [bzw,aza];by_cases h26:26≤k
 ·have hs:=nz8 (l:=l) (p:=2) hl;have ha:arOk k l=decide (l.length=2):=by unfold arOk;rw [if_neg (by omega),if_neg (by omega),if_pos h26]
  rw [show (((2:Nat)):Int)=2 from rfl,← ha] at hs;rw [decide_eq_true h26,azc,hs,aza];cases hok:(arOk k l&&!l.any badB) with
  | false=>simp only [Bool.not_false,azc];rw [bad hok]
  | true =>
   rw [good hok];rw [ha] at hok;simp only [Bool.and_eq_true,decide_eq_true_eq,Bool.not_eq_true'] at hok;obtain ⟨h2,hb⟩:=hok;obtain ⟨a,b,rfl⟩:∃ a b,l=[a,b]:=by
    match l,h2 with
    | [a,b],_=>exact ⟨a,b,rfl⟩
   simp only [List.any_cons,List.any_nil,Bool.or_false,Bool.or_eq_false_iff] at hb;have ua:=hv a (by simp) _ (gzj hb.1);have ub:=hv b (by simp) _ (gzj hb.2);have vb:=dzz hb.2;simp only [Bool.not_true,azb];rw [idxZ,aza,dzz hb.1,aza,(tzC ua.1).2,aza,show ([a,b].map fst1).headD v0=fst1 a from rfl,show ([a,b].map fst1).tail=[fst1 b] from rfl];by_cases h4:(fst1 a).Kind=4
   ·rw [(czS ua.1).1 h4,nz9 h4];rfl
   ·rw [(czS ua.1).2 h4];simp only [Bool.not_true,azb];rcases (show k=26∨k=27 by omega) with rfl | rfl
    ·rw [show (⟨0,⟨0,0⟩,[],false,0⟩:Val)=v0 from rfl,wb1_two ub.1 vb h4,aza];rfl
    ·obtain ⟨tl,tv⟩:=szd ua.1 h4;have hb1:czY (27,[a,b],v0,texR (fst1 a),27)=some (.inl ((),v0)):=rfl;rw [show (⟨0,⟨0,0⟩,[],false,0⟩:Val)=v0 from rfl,hb1,aza,Lzz h4];simp only [osum];rw [idx1,aza,vb,aza];exact rep_tail ub.1 tl tv (ua.2 h4)
 ·have hs:=nz8 (l:=l) (p:=1) hl;have ha:arOk k l=decide (l.length=1):=by unfold arOk;rw [if_neg (by omega),if_neg (by omega),if_neg h26]
  rw [show (((1:Nat)):Int)=1 from rfl,← ha] at hs;rw [decide_eq_false h26,azb,hs,aza];cases hok:(arOk k l&&!l.any badB) with
  | false=>simp only [Bool.not_false,azc];rw [bad hok]
  | true =>
   rw [good hok];rw [ha] at hok;simp only [Bool.and_eq_true,decide_eq_true_eq,Bool.not_eq_true'] at hok;obtain ⟨h2,hb⟩:=hok;obtain ⟨a,rfl⟩:∃ a,l=[a]:=by
    match l,h2 with
    | [a],_=>exact ⟨a,rfl⟩
   simp only [List.any_cons,List.any_nil,Bool.or_false] at hb;have ua:=hv a (by simp) _ (gzj hb);simp only [Bool.not_true,azb];rw [idxZ,aza,dzz hb,aza,(tzC ua.1).2,aza,show ([a].map fst1).headD v0=fst1 a from rfl,show ([a].map fst1).tail=[] from rfl];by_cases h4:(fst1 a).Kind=4
   ·rw [(czS ua.1).1 h4,nz9 h4];rfl
   ·rw [(czS ua.1).2 h4];simp only [Bool.not_true,azb];rw [show (⟨0,⟨0,0⟩,[],false,0⟩:Val)=v0 from rfl,wb1_one (by omega) ua.1 h4,aza];rfl
end Go.Proofs.YtdgpkbnnljblmaaGreatDoor

/- YZ -/
namespace Go.Proofs.YtdgpkbnnljblmaaGreatDoor
open Go Go.Ev Go.Lib
abbrev UV:=(Unit×Val)⊕(Unit×Val)
theorem tzD (m:Option UV):(obnd m fun y=>osum y (fun y=>(some (.inl ((),y.2)):Option UV)) fun y=>some (.inr ((),y.2)))=m:=by
 cases m with
 | none=>rfl
 | some y=>cases y<;>rfl
variable (op:Int) (l:List Arg) (v:Val) (k:Int)
theorem r1:lz1 (op,l,v,k)=czK (op,l,v,k,decide (k=0∨k=1∨k=2∨k=3∨k=4)):=by
 unfold lz1;simp only [tzD];by_cases h0:k=0
 ·rw [decide_eq_true h0,azc,decide_eq_true (.inl h0)]
 rw [decide_eq_false h0,azb];by_cases h1:k=1
 ·rw [decide_eq_true h1,azc,decide_eq_true (by omega)]
 rw [decide_eq_false h1,azb];by_cases h2:k=2
 ·rw [decide_eq_true h2,azc,decide_eq_true (by omega)]
 rw [decide_eq_false h2,azb];by_cases h3:k=3
 ·rw [decide_eq_true h3,azc,decide_eq_true (by omega)]
 rw [decide_eq_false h3,azb];by_cases h4:k=4
 ·rw [decide_eq_true h4,decide_eq_true (by omega)]
 ·rw [decide_eq_false h4,decide_eq_false (by omega)]
theorem r2:czK (op,l,v,k,false)=czL (op,l,v,k,decide (k=5∨k=6∨k=7∨k=8∨k=9)):=by
 unfold czK;simp only [tzD,azb];by_cases h0:k=5
 ·rw [decide_eq_true h0,azc,decide_eq_true (.inl h0)]
 rw [decide_eq_false h0,azb];by_cases h1:k=6
 ·rw [decide_eq_true h1,azc,decide_eq_true (by omega)]
 rw [decide_eq_false h1,azb];by_cases h2:k=7
 ·rw [decide_eq_true h2,azc,decide_eq_true (by omega)]
 rw [decide_eq_false h2,azb];by_cases h3:k=8
 ·rw [decide_eq_true h3,azc,decide_eq_true (by omega)]
 rw [decide_eq_false h3,azb];by_cases h4:k=9
 ·rw [decide_eq_true h4,decide_eq_true (by omega)]
 ·rw [decide_eq_false h4,decide_eq_false (by omega)]
theorem r3:czL (op,l,v,k,false)=dzv (op,l,v,k,decide (k=10∨k=23∨k=24∨k=25)):=by
 unfold czL;simp only [tzD,azb];by_cases h0:k=10
 ·rw [decide_eq_true h0,azc,decide_eq_true (.inl h0)]
 rw [decide_eq_false h0,azb];by_cases h1:k=23
 ·rw [decide_eq_true h1,azc,decide_eq_true (by omega)]
 rw [decide_eq_false h1,azb];by_cases h2:k=24
 ·rw [decide_eq_true h2,azc,decide_eq_true (by omega)]
 rw [decide_eq_false h2,azb];by_cases h4:k=25
 ·rw [decide_eq_true h4,decide_eq_true (by omega)]
 ·rw [decide_eq_false h4,decide_eq_false (by omega)]
theorem r4:dzv (op,l,v,k,false)=gzl (op,l,v,k,decide (k=11∨k=12)):=by
 unfold dzv;simp only [tzD,azb];by_cases h0:k=11
 ·rw [decide_eq_true h0,azc,decide_eq_true (.inl h0)]
 rw [decide_eq_false h0,azb];by_cases h4:k=12
 ·rw [decide_eq_true h4,decide_eq_true (by omega)]
 ·rw [decide_eq_false h4,decide_eq_false (by omega)]
theorem r5:gzl (op,l,v,k,false)=dzw (op,l,v,k,decide (k=13∨k=21∨k=22∨k=29)):=by
 unfold gzl;simp only [tzD,azb];by_cases h0:k=13
 ·rw [decide_eq_true h0,azc,decide_eq_true (.inl h0)]
 rw [decide_eq_false h0,azb];by_cases h1:k=21
 ·rw [decide_eq_true h1,azc,decide_eq_true (by omega)]
 rw [decide_eq_false h1,azb];by_cases h2:k=22
 ·rw [decide_eq_true h2,azc,decide_eq_true (by omega)]
 rw [decide_eq_false h2,azb];by_cases h4:k=29
 ·rw [decide_eq_true h4,decide_eq_true (by omega)]
 ·rw [decide_eq_false h4,decide_eq_false (by omega)]
theorem r6:dzw (op,l,v,k,false)=czM (op,l,v,k,decide (k=14∨k=19∨k=20∨k=26∨k=27)):=by
 unfold dzw;simp only [tzD,azb];by_cases h0:k=14
 ·rw [decide_eq_true h0,azc,decide_eq_true (.inl h0)]
 rw [decide_eq_false h0,azb];by_cases h1:k=19
 ·rw [decide_eq_true h1,azc,decide_eq_true (by omega)]
 rw [decide_eq_false h1,azb];by_cases h2:k=20
 ·rw [decide_eq_true h2,azc,decide_eq_true (by omega)]
 rw [decide_eq_false h2,azb];by_cases h3:k=26
 ·rw [decide_eq_true h3,azc,decide_eq_true (by omega)]
 rw [decide_eq_false h3,azb];by_cases h4:k=27
 ·rw [decide_eq_true h4,decide_eq_true (by omega)]
 ·rw [decide_eq_false h4,decide_eq_false (by omega)]
def putR (m:Option Val):Option UV:=obnd m fun y=>some (.inr ((),y))
theorem r7:czM (op,l,v,k,false)=if k=15∨k=16∨k=17 then putR (ezV (op,l)) else if k=18 then putR (ezU l) else if k=28∧l.length=0 then some (.inr ((),vE 42)) else some (.inl ((),v)):=by
 unfold czM putR;simp only [bzw,aza,azb];by_cases h0:k=15
 ·rw [decide_eq_true h0,azc,azc,if_pos (.inl h0)]
 rw [decide_eq_false h0,azb];by_cases h1:k=16
 ·rw [decide_eq_true h1,azc,azc,if_pos (by omega)]
 rw [decide_eq_false h1,azb];by_cases h2:k=17
 ·rw [decide_eq_true h2,azc,if_pos (by omega)]
 rw [decide_eq_false h2,azb,if_neg (by omega)];by_cases h3:k=18
 ·rw [decide_eq_true h3,azc,if_pos h3]
 rw [decide_eq_false h3,azb,if_neg h3];by_cases h4:k=28
 ·rw [decide_eq_true h4,azc];by_cases h5:(l.length:Int)=0
  ·rw [decide_eq_true h5,azc,if_pos ⟨h4,by omega⟩]
  ·rw [decide_eq_false h5,azb,if_neg (by omega)]
 ·rw [decide_eq_false h4,azb,if_neg (fun c=>h4 c.1)]
theorem MzD:mzv (op,l)=obnd
 (if op=0∨op=1∨op=2∨op=3∨op=4 then putR (lzE (op,l))
 else if op=5∨op=6∨op=7∨op=8∨op=9 then putR (kzD (op,l))
 else if op=10∨op=23∨op=24∨op=25 then putR (bzd (op,l))
 else if op=11∨op=12 then putR (lzF (op,l))
 else if op=13∨op=21∨op=22∨op=29 then putR (mzw (op,l))
 else if op=14∨op=19∨op=20∨op=26∨op=27 then putR (lzG (op,l))
 else if op=15∨op=16∨op=17 then putR (ezV (op,l)) else if op=18 then putR (ezU l) else if op=28∧l.length=0 then some (.inr ((),vE 42)) else some (.inl ((),v0)))
 fun y=>osum y (fun _=>some (vE 15)) fun y=>some y.2:=by
 unfold mzv;simp only [bzw,aza];congr 1;rw [show (⟨0,⟨0,0⟩,[],false,0⟩:Val)=v0 from rfl,r1];by_cases h1:op=0∨op=1∨op=2∨op=3∨op=4
 ·rw [decide_eq_true h1,if_pos h1];rfl
 rw [decide_eq_false h1,if_neg h1,r2];by_cases h2:op=5∨op=6∨op=7∨op=8∨op=9
 ·rw [decide_eq_true h2,if_pos h2];rfl
 rw [decide_eq_false h2,if_neg h2,r3];by_cases h3:op=10∨op=23∨op=24∨op=25
 ·rw [decide_eq_true h3,if_pos h3];rfl
 rw [decide_eq_false h3,if_neg h3,r4];by_cases h4:op=11∨op=12
 ·rw [decide_eq_true h4,if_pos h4];rfl
 rw [decide_eq_false h4,if_neg h4,r5];by_cases h5:op=13∨op=21∨op=22∨op=29
 ·rw [decide_eq_true h5,if_pos h5];rfl
 rw [decide_eq_false h5,if_neg h5,r6];by_cases h6:op=14∨op=19∨op=20∨op=26∨op=27
 ·rw [decide_eq_true h6,if_pos h6];rfl
 rw [decide_eq_false h6,if_neg h6,r7]
end Go.Proofs.YtdgpkbnnljblmaaGreatDoor

/- V2 -/
namespace Go.Proofs.YtdgpkbnnljblmaaGreatDoor
open Go Go.Ev
def rzX (_:Unit):Option Bool:=some true
def hz9:FSpec tb:=⟨[],[(0,.val 4)],rzX⟩
def Kzp:List (Nat×FSpec tb):=[(26,nz4),(29,pzu),(24,mzh),(23,mzi),(25,mzj),(19,jzj),(32,bzi),(56,lza),(30,jzH),(40,kz5)]
set_option maxRecDepth 100000 in
theorem Gzr:∀ x,evFn Tryz.prog tb Kzp [] Tryz.f16 hz9.ins hz9.outs x=hz9.f x:=fun _=>by kernel_rfl
theorem IzG:fnK Tryz.f16 hz9.ins hz9.outs=true:=by kernel_rfl
theorem yzZ:aze Tryz.prog tb 16 hz9:=azu mixed Tryz.func16 IzG (.cons wzN (.cons Kzu (.cons FzR (.cons FzS (.cons uz0 (.cons szp (.cons az5 (.cons DzP (.cons AzY (.cons Dzj .nil)))))))))) rfl Gzr
end Go.Proofs.YtdgpkbnnljblmaaGreatDoor

/- KH -/
namespace Go.Proofs.YtdgpkbnnljblmaaGreatDoor
open Go Go.Ev
set_option linter.unusedVariables false
def mz5 (x:Int×List Arg):Option (Bool) :=
 obnd (rzX ()) fun y =>
  brn (!y) (some false)
   (obnd (pz5 x.snd) fun y =>
    brn (!y) (some true)
     (obnd (szv x.snd) fun y =>
      obnd (czv (x.fst,y)) fun y =>
       obnd (Bzv y) fun y =>
        obnd (mzv x) fun y_1 =>
         some
          (match decide (y.Kind=y_1.Kind) with
          | false=>false
          | true=>decide (y.N.M=y_1.N.M)&&(decide (y.N.S=y_1.N.S)&&(decide (y.S=y_1.S)&&(decide (y.B=y_1.B)&&decide (y.E=y_1.E)))))))
def dzf:FSpec tb:=⟨[(0,.val 3),(1,.val 22)],[(0,.val 4)],mz5⟩
theorem vzp:∀ x,evFn Tryz.prog tb [(16,hz9),(17,jzQ),(20,mzp),(19,jzj),(18,nzJ),(21,izb)] [] Tryz.f3 dzf.ins dzf.outs x=dzf.f x:=fun x=>by kernel_rfl
theorem wzM:fnK Tryz.f3 dzf.ins dzf.outs=true:=by kernel_rfl
theorem szY:aze Tryz.prog tb 3 dzf:=azu mixed Tryz.func3 wzM (.cons yzZ (.cons Bzt (.cons Gzq (.cons szp (.cons IzJ (.cons zze .nil)))))) rfl vzp
end Go.Proofs.YtdgpkbnnljblmaaGreatDoor

/- Z1 -/
namespace Go.Proofs.YtdgpkbnnljblmaaGreatDoor
open Go Go.Ev Go.Lib
theorem kzR (v:Val):(obnd (putR (some v)) fun y=>osum y (fun _=>some (vE 15)) fun y=>some y.2)=some v:=rfl
theorem gate {k:Nat} (hk:k < 30) (l:List Arg):czv ((k:Int),l)=if arLo k≤l.length∧(l.length:Int)≤arHi k then core k l else some (vE 15):=by
 by_cases h:arLo k≤l.length∧(l.length:Int)≤arHi k
 ·rw [if_pos h,Jzs hk h.1 h.2]
 ·rw [if_neg h,apply_bad hk (by omega)]
theorem ar_tab:arLo 5=1∧arHi 5=1∧arLo 6=1∧arHi 6=1∧arLo 7=1∧arHi 7=1∧arLo 8=2∧arHi 8=2∧arLo 9=2∧arHi 9=2∧arLo 13=1∧arHi 13=1∧arLo 21=1∧arHi 21=1∧arLo 22=1∧arHi 22=1∧arLo 29=1∧arHi 29=1:=by decide +kernel
theorem ar_tab2:arLo 14=1∧arHi 14=1∧arLo 15=1∧arHi 15=2∧arLo 16=1∧arHi 16=2∧arLo 17=3∧arHi 17=3∧arLo 19=1∧arHi 19=1∧arLo 20=1∧arHi 20=1∧arLo 26=2∧arHi 26=2∧arLo 27=2∧arHi 27=2:=by decide +kernel
theorem ar_tab3:arLo 10=2∧arHi 10=3∧arLo 23=2∧arHi 23=2∧arLo 24=2∧arHi 24=2∧arLo 25=2∧arHi 25=9223372036854775807∧arLo 28=0∧arHi 28=0:=by decide +kernel
theorem wzz {l:List Arg} (hb:l.any badB=false) (hv:∀ a∈l,∀ v∈a.L,okW v):∀ v∈l.map fst1,okW v:=by
 intro v h;obtain ⟨b,hbm,rfl⟩:=List.mem_map.1 h;have:badB b=false:=by
  rw [List.any_eq_false] at hb;simpa using hb b hbm
 exact hv b hbm _ (gzj this)
theorem app_num {k:Nat} {l:List Arg} (hk:k=5∨k=6∨k=7∨k=8∨k=9) (hl:l.length≤1000) (hv:∀ a∈l,∀ v∈a.L,okW v) :
 czv ((k:Int),l)=some (if l.length=arN k∧l.any badB=false then recL k (l.map fst1) else vE 15):=by
 have hg:(arLo k≤l.length∧(l.length:Int)≤arHi k)↔l.length=arN k:=by
  obtain ⟨a1,a2,a3,a4,a5,a6,a7,a8,a9,a10,_⟩:=ar_tab;unfold arN;rcases hk with rfl | rfl | rfl | rfl | rfl
  ·rw [a1,a2,if_pos (by omega)];omega
  ·rw [a3,a4,if_pos (by omega)];omega
  ·rw [a5,a6,if_pos (by omega)];omega
  ·rw [a7,a8,if_neg (by omega)];omega
  ·rw [a9,a10,if_neg (by omega)];omega
 rw [gate (by omega)];by_cases h:l.length=arN k
 ·rw [if_pos (hg.2 h),wzs hl (by omega)];cases hb:l.any badB with
  | true=>rw [if_pos rfl,if_neg (by simp)]
  | false =>
   rw [if_neg (by simp),if_pos ⟨h,rfl⟩,MzM _ (by omega),reck_is (by omega) (wzz hb hv)];rw [List.length_map];unfold arN at h;by_cases h7:(k:Int)≤7
   ·rw [if_pos h7] at h ⊢;exact h
   ·rw [if_neg h7] at h ⊢;exact h
 ·rw [if_neg (fun c=>h (hg.1 c)),if_neg (fun c=>h c.1)]
theorem app_ask {k:Nat} {l:List Arg} (hk:k=13∨k=21∨k=22∨k=29) (hl:l.length≤1000) (hv:∀ a∈l,∀ v∈a.L,okW v) :
 czv ((k:Int),l)=some (if l.length=1∧l.any badB=false then askV k ((l.map fst1).headD v0) else vE 15):=by
 have hg:(arLo k≤l.length∧(l.length:Int)≤arHi k)↔l.length=1:=by
  obtain ⟨_,_,_,_,_,_,_,_,_,_,a1,a2,a3,a4,a5,a6,a7,a8⟩:=ar_tab;rcases hk with rfl | rfl | rfl | rfl
  ·rw [a1,a2];omega
  ·rw [a3,a4];omega
  ·rw [a5,a6];omega
  ·rw [a7,a8];omega
 rw [gate (by omega)];by_cases h:l.length=1
 ·rw [if_pos (hg.2 h),wzs hl (by omega)];cases hb:l.any badB with
  | true=>rw [if_pos rfl,if_neg (by simp)]
  | false =>
   rw [if_neg (by simp),if_pos ⟨h,rfl⟩];obtain ⟨a,rfl⟩:∃ a,l=[a]:=by
    match l,h with
    | [a],_=>exact ⟨a,rfl⟩
   have oa:=wzz hb hv (fst1 a) (by simp);rw [show ([a].map fst1).headD v0=fst1 a from rfl,show [a].map fst1=[fst1 a] from rfl];unfold askV;rcases hk with rfl | rfl | rfl | rfl
   ·rw [show (((13:Nat)):Int)=13 from rfl,Ozk [] oa,if_pos rfl];cases (truR (fst1 a)).2.2<;>rfl
   ·rw [show (((21:Nat)):Int)=21 from rfl,Lze];rfl
   ·rw [show (((22:Nat)):Int)=22 from rfl,Ozj];rfl
   ·rw [show (((29:Nat)):Int)=29 from rfl,MzN [] (Kzn oa)];rfl
 ·rw [if_neg (fun c=>h (hg.1 c)),if_neg (fun c=>h c.1)]
theorem Jzq {k:Nat} {l:List Arg} (hk:k=14∨k=15∨k=16∨k=17∨k=19∨k=20∨k=26∨k=27) (hl:l.length≤1000) (hv:∀ a∈l,∀ v∈a.L,okW v):czv ((k:Int),l)=some (lzx k l):=by
 have hg:(arLo k≤l.length∧(l.length:Int)≤arHi k)↔arOk k l=true:=by
  obtain ⟨a1,a2,a3,a4,a5,a6,a7,a8,a9,a10,a11,a12,a13,a14,a15,a16⟩:=ar_tab2;unfold arOk;rcases hk with rfl | rfl | rfl | rfl | rfl | rfl | rfl | rfl
  ·rw [a1,a2];simp;omega
  ·rw [a3,a4];simp;omega
  ·rw [a5,a6];simp;omega
  ·rw [a7,a8];simp;omega
  ·rw [a9,a10];simp;omega
  ·rw [a11,a12];simp;omega
  ·rw [a13,a14];simp;omega
  ·rw [a15,a16];simp;omega
 rw [gate (by omega)];unfold lzx;by_cases h:arOk k l=true
 ·rw [if_pos (hg.2 h),wzs hl (by omega),h];cases hb:l.any badB with
  | true=>rfl
  | false =>
   rw [if_neg (by simp),if_pos (show (true&&!false)=true from rfl),MzO _ (by omega)];have hf:=wzz hb hv;have hne:l≠[]:=by
    intro e;subst e;unfold arOk at h;rcases hk with rfl | rfl | rfl | rfl | rfl | rfl | rfl | rfl<;>simp at h
   obtain ⟨a,t,rfl⟩:∃ a t,l=a :: t:=by
    cases l with
    | nil=>exact absurd rfl hne
    | cons a t=>exact ⟨a,t,rfl⟩
   rw [show ((a :: t).map fst1).headD v0=fst1 a from rfl,show ((a :: t).map fst1).tail=t.map fst1 from rfl,List.map_cons];have oa:=hf (fst1 a) (by simp);have ot:∀ w∈t.map fst1,okW w:=fun w hw=>hf w (by rw [List.map_cons];exact List.mem_cons_of_mem _ hw)
   have hlen:=h;unfold arOk at hlen;rcases (show (k=15∨k=16∨k=17)∨(k=14∨k=19∨k=20)∨k=26∨k=27 by omega) with hp | ho | rfl | rfl
   ·rw [LzB (by omega) oa ot (by
     rw [List.length_map];rcases hp with rfl | rfl | rfl<;>simp at hlen<;>omega),wordV_p (by omega)]<;>rfl
   ·have ht:t=[]:=by
     rcases ho with rfl | rfl | rfl<;>simp at hlen<;>exact hlen
    subst ht;exact Ozp (by omega) oa
   ·obtain ⟨b,rfl⟩:∃ b,t=[b]:=by
     simp at hlen
     match t,hlen with
     | [b],_=>exact ⟨b,rfl⟩
    exact Ozq oa (ot _ (by simp))
   ·obtain ⟨b,rfl⟩:∃ b,t=[b]:=by
     simp at hlen
     match t,hlen with
     | [b],_=>exact ⟨b,rfl⟩
    exact Mz2 oa (ot _ (by simp))
 ·have h':arOk k l=false:=by simpa using h
  rw [if_neg (fun c=>h (hg.1 c)),h'];rfl
theorem refBad_24 {l:List Arg} (h:¬ l.length=2):bzd (24,l)=some (vE 15):=by
 unfold bzd ize;simp only [bzw,aza];by_cases h0:(l.length:Int)=0
 ·rw [decide_eq_true h0,azc]
 ·rw [decide_eq_false h0,azb];simp only [decide_true,azc];rw [decide_eq_false (show ¬ (l.length:Int)=2 by omega)];rfl
theorem Azk {op:Int} {a:Arg} {l:List Arg} (hop:¬ op=24) (h25:op=25→1≤l.length) (hb:∀ v,az4 (a :: l,v0,v,0,op)=some (.inr ((),vE 15))):bzd (op,a :: l)=some (vE 15):=by
 rw [kzM hop h25,hb,aza];cases badB a<;>rfl
theorem refBad_10 {l:List Arg} (h:l.length < 2∨3 < l.length):bzd (10,l)=some (vE 15):=by
 cases l with
 | nil=>rfl
 | cons a t =>
  refine Azk (by decide) (fun e=>absurd e (by decide)) fun v=>?_
  unfold az4;simp only [bzw,aza,decide_true,azc];by_cases h2:(((a :: t).length:Nat):Int) < 2
  ·rw [decide_eq_true h2,azc]
  ·rw [decide_eq_false h2,azb,decide_eq_true (show (3:Int) < (((a :: t).length:Nat):Int) by omega),azc]
theorem refBad_23 {l:List Arg} (h:¬ l.length=2):bzd (23,l)=some (vE 15):=by
 cases l with
 | nil=>rfl
 | cons a t =>
  refine Azk (by decide) (fun e=>absurd e (by decide)) fun v=>?_
  unfold az4;simp only [bzw,aza];rw [show decide ((23:Int)=10)=false from rfl,azb];simp only [decide_true,azc];rw [decide_eq_false (show ¬ (((a :: t).length:Nat):Int)=2 by omega)];rfl
theorem refBad_25 {l:List Arg} (h:l.length < 2):bzd (25,l)=some (vE 15):=by
 match l,h with
 | [],_=>rfl
 | [a],_=>rfl
theorem Mz5 {k:Nat} {l:List Arg} (hk:k=10∨k=23∨k=24∨k=25) (hl:l.length≤1000) (hv:∀ a∈l,∀ v∈a.L,okW v) :
 ∃ v,czv ((k:Int),l)=some v∧bzd ((k:Int),l)=some v:=by
 obtain ⟨a1,a2,a3,a4,a5,a6,a7,a8,_,_⟩:=ar_tab3;rw [gate (by omega)];rcases hk with rfl | rfl | rfl | rfl
 ·rw [a1,a2,show (((10:Nat)):Int)=10 from rfl];by_cases h:(2:Int)≤l.length∧(l.length:Int)≤3
  ·rw [if_pos h,pzX (by omega)];rcases (show l.length=2∨l.length=3 by omega) with h2 | h3
   ·match l,h2 with
    | [a,b],_ =>
     obtain ⟨e1,e2⟩:=if2_is (a:=a) (b:=b) (hv a (by simp));exact ⟨_,e1,e2⟩
   ·match l,h3 with
    | [a,b,c],_ =>
     obtain ⟨e1,e2⟩:=if3_is (a:=a) (b:=b) (c:=c) (hv a (by simp));exact ⟨_,e1,e2⟩
  ·rw [if_neg h];exact ⟨_,rfl,refBad_10 (by omega)⟩
 ·rw [a3,a4,show (((23:Nat)):Int)=23 from rfl];by_cases h:(2:Int)≤l.length∧(l.length:Int)≤2
  ·rw [if_pos h,pzX (by omega)]
   match l,(show l.length=2 by omega) with
   | [a,b],_ =>
    obtain ⟨e1,e2⟩:=iferr_is a b;exact ⟨_,e1,e2⟩
  ·rw [if_neg h];exact ⟨_,rfl,refBad_23 (by omega)⟩
 ·rw [a5,a6,show (((24:Nat)):Int)=24 from rfl];by_cases h:(2:Int)≤l.length∧(l.length:Int)≤2
  ·rw [if_pos h,pzX (by omega)]
   match l,(show l.length=2 by omega) with
   | [a,b],_ =>
    have e1:=index_is (a:=a) (b:=b) (hv b (by simp));have e2:=MzF (a:=a) (b:=b) (hv b (by simp));refine ⟨_,?_,e2⟩;unfold bzI;simp only [decide_true,azc];rw [e1];rfl
  ·rw [if_neg h];exact ⟨_,rfl,refBad_24 (by omega)⟩
 ·rw [a7,a8,show (((25:Nat)):Int)=25 from rfl];by_cases h:(2:Int)≤l.length∧(l.length:Int)≤9223372036854775807
  ·rw [if_pos h,pzX (by omega)];obtain ⟨a,t,rfl⟩:∃ a t,l=a :: t:=by
    cases l with
    | nil=>simp at h
    | cons a t=>exact ⟨a,t,rfl⟩
   obtain ⟨e1,e2⟩:=choose_is (a:=a) (l:=t) (hv a (by simp)) hl (by simp only [List.length_cons] at h;omega);exact ⟨_,e1,e2⟩
  ·rw [if_neg h];exact ⟨_,rfl,refBad_25 (by omega)⟩
theorem apply_eq {op:Int} {l:List Arg} (h:okA l) (hu:∀ a∈l,∀ v∈a.L,okU v):∃ v,czv (op,l)=some v∧mzv (op,l)=some v:=by
 have hl:=h.1;have hv:∀ a∈l,∀ v∈a.L,okW v:=fun a ha v hm=>(hu a ha v hm).1
 rw [MzD];by_cases ho:op < 0∨30≤op
 ·rw [apply_out ho,if_neg (by omega),if_neg (by omega),if_neg (by omega),if_neg (by omega),if_neg (by omega),if_neg (by omega),if_neg (by omega),if_neg (by omega),if_neg (by omega)];exact ⟨_,rfl,rfl⟩
 obtain ⟨k,rfl⟩:=Int.eq_ofNat_of_zero_le (show 0≤op by omega);by_cases h1:(k:Int)=0∨(k:Int)=1∨(k:Int)=2∨(k:Int)=3∨(k:Int)=4
 ·rw [if_pos h1,Kz4 h1 h,kzR,tzJ (by omega) (by omega)];refine ⟨_,?_,rfl⟩;cases hb:l.any badA with
  | true=>rw [Bzy (by omega) hb];rfl
  | false =>
   simp only [Bool.false_eq_true,if_false];unfold foldA;by_cases h3:(k:Int)=3
   ·rw [if_pos h3,h3,NzU h hb]
   ·rw [if_neg h3,many_num (by omega) h hb]<;>rfl
 rw [if_neg h1];by_cases h2:(k:Int)=5∨(k:Int)=6∨(k:Int)=7∨(k:Int)=8∨(k:Int)=9
 ·rw [if_pos h2,Nz0 h2 (by omega) hv,kzR,app_num (by omega) (by omega) hv];exact ⟨_,rfl,rfl⟩
 rw [if_neg h2];by_cases h3:(k:Int)=10∨(k:Int)=23∨(k:Int)=24∨(k:Int)=25
 ·obtain ⟨v,e1,e2⟩:=Mz5 (k:=k) (l:=l) (by omega) (by omega) hv;rw [if_pos h3,e1,e2,kzR];exact ⟨_,rfl,rfl⟩
 rw [if_neg h3];by_cases h4:(k:Int)=11∨(k:Int)=12
 ·rw [if_pos h4,Kz7 h4 h,kzR,tzJ (by omega) (by omega)];refine ⟨_,?_,rfl⟩;cases hb:l.any badA with
  | true=>rw [Bzy (by omega) hb];rfl
  | false=>rw [many_tru h4 h hb];rfl
 rw [if_neg h4];by_cases h5:(k:Int)=13∨(k:Int)=21∨(k:Int)=22∨(k:Int)=29
 ·rw [if_pos h5,asked_is h5 (by omega) hv,kzR,app_ask (by omega) (by omega) hv];exact ⟨_,rfl,rfl⟩
 rw [if_neg h5];by_cases h6:(k:Int)=14∨(k:Int)=19∨(k:Int)=20∨(k:Int)=26∨(k:Int)=27
 ·rw [if_pos h6,LzA h6 (by omega) hu,kzR,Jzq (by omega) (by omega) hv];exact ⟨_,rfl,rfl⟩
 rw [if_neg h6];by_cases h7:(k:Int)=15∨(k:Int)=16∨(k:Int)=17
 ·rw [if_pos h7,pieces_is h7 (by omega) hv,kzR,Jzq (by omega) (by omega) hv];exact ⟨_,rfl,rfl⟩
 rw [if_neg h7];by_cases h8:(k:Int)=18
 ·rw [if_pos h8,concat_eq h,kzR,tzJ (by omega) (by omega),h8];refine ⟨_,?_,rfl⟩;cases hb:l.any badA with
  | true=>rw [Bzy (by omega) hb];rfl
  | false=>rw [Mzn h hb];rfl
 rw [if_neg h8];have hk:k=28:=by omega
 subst hk;obtain ⟨_,_,_,_,_,_,_,_,a1,a2⟩:=ar_tab3;rw [gate (by omega),a1,a2,show (((28:Nat)):Int)=28 from rfl];by_cases hn:l.length=0
 ·rw [if_pos (by omega),if_pos ⟨rfl,hn⟩,core_na];exact ⟨_,rfl,rfl⟩
 ·rw [if_neg (by omega),if_neg (by omega)];exact ⟨_,rfl,rfl⟩
end Go.Proofs.YtdgpkbnnljblmaaGreatDoor

/- Z2 -/
namespace Go.Proofs.YtdgpkbnnljblmaaGreatDoor
open Go Go.Ev Go.Lib
def yzo (v:Val):Bool:=decide (v.S.length≤3000)&&decide ((gzm v).getD 1=0)
theorem good_l2 {l:List Arg} {i:Nat} (hi:i < l.length) (hL:(l[i]).L.length≤30):pzt (l,(i:Int),0)=some ((fun (r:Option Nat)=>match r with | some _=>.inr false | none=>.inl ()) ((l[i]).L.findIdx? fun v=>!yzo v)) :=
 mzg (F:=hzG) (fun k=>(l,(i:Int),(k:Int))) (fun r=>match r with | some _=>.inr false | none=>.inl ()) (l[i]).L (fun v=>!yzo v) (by omega)
  (fun back k hk=>by
   unfold hzG yzo;simp only;rw [idxG hi,aza,ltT hk,azc,aza,idxG hk,aza,wr1 (by omega)];by_cases h1:3000 < (((l[i]).L[k]).S.length:Int)
   ·rw [decide_eq_true h1,azc,decide_eq_false (show ¬ ((l[i]).L[k]).S.length≤3000 by omega)];rfl
   ·rw [decide_eq_false h1,azb,decide_eq_true (show ((l[i]).L[k]).S.length≤3000 by omega),aza,idxG hk,aza];obtain ⟨e,_,he,_⟩:=tzO (x:=(l[i]).L[k]) (by omega);rw [he,aza,Option.getD_some];cases decide (e=0)<;>rfl)
  (fun back=>by
   unfold hzG;simp only;rw [idxG hi,aza,ltF,azb])
def CzI (a:Arg):Bool:=decide (30 < a.L.length)||a.L.any fun v=>!yzo v
theorem good_is {l:List Arg}:∃ b,pz5 l=some b∧(b=true→l.length≤30∧∀ a∈l,a.L.length≤30∧∀ v∈a.L,v.S.length≤3000∧gzm v=some 0):=by
 unfold pz5;by_cases h30:30 < (l.length:Int)
 ·rw [decide_eq_true h30,azc];exact ⟨false,rfl,fun e=>by cases e⟩
 rw [decide_eq_false h30,azb];have this:pzs (l,0)=some ((fun (r:Option Nat)=>match r with | some _=>.inr false | none=>.inl ()) _):=mzg (F:=hzE) (fun i=>(l,(i:Int))) (fun r=>match r with | some _=>.inr false | none=>.inl ()) l CzI (by omega)
  (fun back i hi=>by
   unfold hzE CzI;simp only;rw [ltT hi,azc,idxG hi,aza,wr1 (by omega)];by_cases h1:30 < ((l[i]).L.length:Int)
   ·rw [decide_eq_true h1,azc,decide_eq_true (show 30 < (l[i]).L.length by omega)];rfl
   ·rw [decide_eq_false h1,azb,decide_eq_false (show ¬ 30 < (l[i]).L.length by omega),good_l2 hi (by omega),aza,← lzO];cases (l[i]).L.findIdx? (fun v=>!yzo v)<;>rfl)
  (fun back=>by
   unfold hzE;simp only;rw [ltF,azb])
 rw [this,aza];cases h:l.findIdx? CzI with
 | some i=>exact ⟨false,rfl,fun e=>by cases e⟩
 | none =>
  refine ⟨true,rfl,fun _=>⟨by omega,fun a ha=>?_⟩⟩;rw [List.findIdx?_eq_none_iff] at h;have h:=h a ha;unfold CzI at h;simp only [Bool.or_eq_false_iff,decide_eq_false_iff_not,List.any_eq_false] at h;refine ⟨by omega,fun v hv=>?_⟩;have h2:=h.2 v hv;unfold yzo at h2;simp only [Bool.not_eq_true',Bool.and_eq_false_iff,decide_eq_false_iff_not,not_or,Decidable.not_not] at h2;refine ⟨h2.1,?_⟩;obtain ⟨e,_,he,_⟩:=tzO (x:=v) h2.1;have:=h2.2;rw [he,Option.getD_some] at this;rw [he,this]
theorem to_l2 {l:List Arg} {i:Nat} {b:Bool} (hi:i < l.length) (hL:(l[i]).L.length≤30):ozy ([],l,(i:Int),⟨b,[]⟩,0)=some ((l[i]).L,⟨b,(l[i]).L⟩):=by
 have this:ozy ([],l,(i:Int),⟨b,[]⟩,0)=some ((fun (s:List Val)=>(s,(⟨b,s⟩:Arg))) _):=bzb (F:=kzw) (fun (s:List Val) (k:Nat)=>(s,l,(i:Int),(⟨b,s⟩:Arg),(k:Int))) (fun (s:List Val)=>(s,(⟨b,s⟩:Arg))) (l[i]).L (fun s v=>.inl (s++[v])) id (fun s k=>s.length=k) (by omega)
  (fun back s k hk hs=>by
   unfold kzw;simp only;rw [idxG hi,aza,ltT hk,azc,aza,idxG hk,aza,show Bzw (l[i]).L[k]=some (l[i]).L[k] from rfl,aza,appN (by simp only [List.length_singleton];omega),aza,wr1 (by omega)];rfl)
  (fun s k hk s' hs e=>by cases e;simp [hs])
  (fun back s hs=>by
   unfold kzw;simp only;rw [idxG hi,aza,ltF,azb];rfl) [] rfl
 rw [this,ezQ];have:∀ (m s:List Val),m.foldl (fun s v=>s++[v]) s=s++m:=by
  intro m;induction m with
  | nil=>intro s;simp
  | cons v m ih=>intro s;rw [List.foldl_cons,ih];simp
 rw [id,this];rfl
theorem to_is {l:List Arg} (hl:l.length≤30) (h:∀ a∈l,a.L.length≤30):szv l=some l:=by
 have this:rzW (l,[],0)=some (id _):=bzb (F:=kzu) (fun (s:List Arg) (i:Nat)=>(l,s,(i:Int))) id l (fun s a=>.inl (s++[a])) id (fun s i=>s.length=i) (by omega)
  (fun back s i hi hs=>by
   unfold kzu;simp only;rw [ltT hi,azc,idxG hi,aza,to_l2 hi (h _ (List.getElem_mem hi)),aza,appN (by simp only [List.length_singleton];omega),aza,wr1 (by omega)];rfl)
  (fun s i hi s' hs e=>by cases e;simp [hs])
  (fun back s hs=>by
   unfold kzu;simp only;rw [ltF,azb];rfl) [] rfl
 have hf:∀ (m s:List Arg),m.foldl (fun s v=>s++[v]) s=s++m:=by
  intro m;induction m with
  | nil=>intro s;simp
  | cons v m ih=>intro s;rw [List.foldl_cons,ih];simp
 unfold szv;rw [this,ezQ,id,id,hf,aza];rfl
theorem CzE {op:Int} {l:List Arg} (hm:∀ a∈l,∀ v∈a.L,I64 v.N.M):mz5 (op,l)=some true:=by
 unfold mz5;rw [show rzX ()=some true from rfl,aza];simp only [Bool.not_true,azb];obtain ⟨b,hg,hb⟩:=good_is (l:=l);rw [hg,aza];cases b with
 | false=>rfl
 | true =>
  obtain ⟨h1,h2⟩:=hb rfl;have hu:∀ a∈l,∀ v∈a.L,okU v:=fun a ha v hv=>by
   obtain ⟨h3,h4⟩:=(h2 a ha).2 v hv;obtain ⟨e,c1,c2,_⟩:=tzO h3;rw [h4] at c2;refine okU_of h3 (hm a ha v hv) ?_;rw [c1,← c2]
  have hA:okA l:=⟨by omega,fun a ha=>⟨by have:=(h2 a ha).1;omega,fun v hv=>(hu a ha v hv).1⟩⟩;obtain ⟨v,e1,e2⟩:=apply_eq (op:=op) hA hu;simp only [Bool.not_true,azb];rw [to_is h1 (fun a ha=>(h2 a ha).1),aza,e1,aza,of_is2,aza,e2,aza];simp
end Go.Proofs.YtdgpkbnnljblmaaGreatDoor

/- RW -/
namespace Go.Proofs.YtdgpkbnnljblmaaGreatDoor
open Go Go.Ev
theorem own:ownKnob Tryz.prog.godebug=none:=by kernel_rfl
theorem laidOut:laidOutB Tryz.prog=true:=by kernel_rfl
theorem and2 {a b:Bool} (h:a=true) (k:b=true):(a&&b)=true:=by rw [h,k];rfl
theorem main_is:Tryz.pinned.checked.prog.mainIs=some (true, "77b88d5647d88579fe249790164f29ba538a169e38f55a49c9c0a729a43cbb40".toList):=by kernel_rfl
theorem looks_is:false=Tryz.pinned.checked.prog.looks []:=by kernel_rfl
theorem NzV:mapsRowed Tryz.prog=true:=by kernel_rfl
theorem Nz4:(Rows.funNamesRow.plainKeys == Tryz.prog.plainKeys)=true:=by kernel_rfl
theorem MzS:Tryz.prog.stopsHeard=true:=by kernel_rfl
theorem may_enter:Tryz.prog.mayEnter=true:=by kernel_rfl
theorem lifts_is:(Rows.funNamesRow.lifted == Tryz.prog.liftsFinal)=true:=by kernel_rfl
theorem make_is:(Tryz.prog.make == some Rows.funNamesRow.make)=true:=by kernel_rfl
def rd:RdTab Tryz.prog tb:=⟨[3,9,5,21,32,28,45,46,124,22],20,fun t ht=>by
 simp only [List.mem_cons,List.not_mem_nil,or_false] at ht;rcases ht with rfl | rfl | rfl | rfl | rfl | rfl | rfl | rfl | rfl | rfl
 ·exact lzU (ks:=[.int .i64]) (by kernel_rfl) rfl (fun _=>rfl)
 ·exact lzU (ks:=[.str]) (by kernel_rfl) rfl (fun _=>rfl)
 ·exact lzU (ks:=[.int .u8]) (by kernel_rfl) rfl (fun _=>rfl)
 ·exact lzU (ks:=[.int .i32]) (by kernel_rfl) rfl (fun _=>rfl)
 ·exact lzU (ks:=[.int .i64,.int .i64,.int .i64,.str,.bool,.int .i64]) (by kernel_rfl) rfl (fun _ _ _ _ _ _=>rfl)
 ·exact lzU (ks:=[.int .i64,.int .i64,.int .i64,.str,.bool,.int .i64]) (by kernel_rfl) rfl (fun _ _ _ _ _ _=>rfl)
 ·exact lzU (ks:=[.sl 21]) (by kernel_rfl) (by kernel_rfl) (fun _=>rfl)
 ·exact lzU (ks:=[.sl 32]) (by kernel_rfl) (by kernel_rfl) (fun _=>rfl)
 ·exact lzU (ks:=[.bool,.sl 28]) (by kernel_rfl) (by kernel_rfl) (fun _ _=>rfl)
 ·exact lzU (ks:=[.sl 124]) (by kernel_rfl) (by kernel_rfl) (fun _=>rfl)⟩
theorem readable:∀ t∈[3,9,5,21,32,45,46,22],Tryz.prog.readableRec t=true∧t < Tryz.prog.types.size:=by
 intro t ht;simp only [List.mem_cons,List.not_mem_nil,or_false] at ht;rcases ht with rfl | rfl | rfl | rfl | rfl | rfl | rfl | rfl<;>exact ⟨by kernel_rfl,of_decide_eq_true (by kernel_rfl)⟩
abbrev laidL:List (String×DataW Unit):=[("math/bits.deBruijn32tab",Rows.laid_math_bits_deBruijn32tab),("math/bits.deBruijn64tab",Rows.laid_math_bits_deBruijn64tab),("internal/strconv.uint64pow10",Rows.laid_internal_strconv_uint64pow10),("unicode/utf8.acceptRanges",Rows.laid_unicode_utf8_acceptRanges),("unicode/utf8.first",Rows.laid_unicode_utf8_first)]
theorem extra:Go.Proofs.U8Extra Tryz.prog Tryz.lays196_ren:=⟨by kernel_rfl,by kernel_rfl,by kernel_rfl,by kernel_rfl,by kernel_rfl,by kernel_rfl,by kernel_rfl⟩
theorem first_is:(Rows.laid_unicode_utf8_first:DataW Unit)=Lib.firstData:=by kernel_rfl
theorem accept_is:(Rows.laid_unicode_utf8_acceptRanges:DataW Unit)=Lib.acceptData:=by kernel_rfl
theorem inv_of {W:World} (h:laidMetH Tryz.prog laidL W):tb.inv (fun _=>.con) W:=by
 rw [MakeChecks.laidMetH_plain _ _ _ (by kernel_rfl)] at h;have h3:=Lib.laidMet.reads h (n := "unicode/utf8.first") (d:=Rows.laid_unicode_utf8_first) (by simp);have h4:=Lib.laidMet.reads h (n := "unicode/utf8.acceptRanges") (d:=Rows.laid_unicode_utf8_acceptRanges) (by simp);rw [first_is] at h3;rw [accept_is] at h4;obtain ⟨g2,t2,cs2,f2,p2,hg2,ht2,hv2,hd2⟩:=Lib.laidMet.reads h (n := "internal/strconv.uint64pow10") (d:=Rows.laid_internal_strconv_uint64pow10) (by simp);obtain rfl:=Option.some.inj ((show Tryz.prog.globalNamed "internal/strconv.uint64pow10" = some 5 by kernel_rfl).symm.trans hg2);obtain rfl:=Option.some.inj ((show (Tryz.prog.globals[5]?).map (·.type)=some 362 by kernel_rfl).symm.trans ht2);refine ⟨rfl,rfl,Go.Proofs.utf8Tabs_of_readsT (.of196 Tryz.lays196) extra h3 h4,5,by kernel_rfl,rfl,?_⟩;have:=Lib.cells_of_tab (k:=.u64) (zs:=Lib.pow10Tab) (n:=20) Tryz.underlying362 Tryz.underlying152 (by kernel_rfl) (by kernel_rfl) (show DataW.trod _ _ _ _ _ _ _ _ _=some (Lib.tabData .u64 Lib.pow10Tab,_) from hd2);unfold Lib.TabIs;rw [hv2,← this]
theorem true_out {P:Program}:∀ g w us cs v,az6 P tb g w [(0,.val 4)] true us cs→RetV [(0,.val 4)] us v→azS P 4=false→v = .bool true:=by
 intro g w us cs v h hr ha;cases us with
 | nil=>cases cs<;>exact h.elim
 | cons u us =>
  cases us with
  | cons _ _=>cases cs<;>exact h.elim
  | nil =>
   cases cs with
   | nil=>exact h.elim
   | cons c cs =>
    cases cs with
    | cons _ _=>exact h.elim
    | nil =>
     have hr:v=u:=hr;subst hr;obtain ⟨h1,_⟩:=h;unfold az7 at h1;simp only [ha,Bool.false_eq_true,if_false] at h1;obtain ⟨c,hc,hrep⟩:=h1;have hc:[CV.bool true]=[c]:=hc;simp only [List.cons.injEq,and_true] at hc;subst hc;cases hrep;rfl
theorem wf_int {k:IntKind} {n:Int} (h:Wf Tryz.prog tb (.int k n)):inR k n:=by cases h;assumption
theorem wf_args {l:List Arg} (h:∀ c∈tb.enc 22 l,Wf Tryz.prog tb c):∀ a∈l,∀ v∈a.L,-9223372036854775808≤v.N.M∧v.N.M≤9223372036854775807:=by
 rw [enc22_eq] at h;have hw:=h (.sl 124 l) (by simp);cases hw with
 | sl e xs h hx =>
  intro a ha v hv;have h1:=hx a ha;rw [enc124_eq] at h1;have h2:=h1 (.sl 28 a.L) (by simp);cases h2 with
  | sl e xs h hx =>
   have h3:=hx v hv;rw [enc28_eq] at h3;have:=wf_int (h3 (.int .i64 v.N.M) (by simp));simp only [Ev.inR,lo,hi] at this;exact this
end Go.Proofs.YtdgpkbnnljblmaaGreatDoor

/- DA -/
namespace Go.Proofs.YtdgpkbnnljblmaaGreatDoor
open Go Go.Ev Go.ChangeShapes Go.WideShapes Go.RowKit
theorem tzm:Hzm Tryz.prog tb dzf:=fun x hx=>by
 obtain ⟨op,l⟩:=x;exact ⟨true,CzE (wf_args hx.2),fun g w us cs v h hr=>true_out g w us cs v h hr notAgg4⟩
set_option maxRecDepth 100000 in
theorem szj (os:Os) (started:os.Started) (H:Type) (enc:TypeId×Value→H) :
 ReturnsInHanded {} Tryz.checked os 3 .any (fun w args=>(Rows.funAppliesSpec.pre enc Tryz.prog Tryz.f3 [] false w args∧laidMetH Tryz.prog laidL w)∧sizedMet enc Tryz.prog Tryz.f3 (OpenSpec.ofChange Rows.funAppliesSpec) false w args)
  (Rows.funAppliesSpec.post enc Tryz.prog Tryz.f3 false true false false):=by
 refine returnsInHanded_of_change_and (C:=Tryz.checked) (X:=fun w _=>laidMetH Tryz.prog laidL w) (fun _ _ _ hh h=>h.of_heap hh) own started (by kernel_rfl) Tryz.func3
  (ChangeSpec.witness_shaped (enc:=enc) (C:=Tryz.checked) (os:=os) (X:=fun w _=>laidMetH Tryz.prog laidL w) false (World.laidAll Tryz.prog os laidL) #[.int .i64 0,.slice none 0 0] 8 (World.laidAll_os _ _ _) (World.shaped_of_ZipB (by kernel_rfl) (by kernel_rfl)) (by kernel_rfl) (by kernel_rfl) (by kernel_rfl) (by rw [MakeChecks.laidMetH_plain _ _ _ (by kernel_rfl)];exact laidMet_laidAll _ (by kernel_rfl) (by kernel_rfl))) ?_
 intro W base args ds gs before hval hW _ hz hL _;exact law_calls (P:=Tryz.prog) (tb:=tb) rd (ts:=[3,22]) (rb:=4) szY tzm (by rw [Tryz.params3]) rfl (fun t ht=>by revert t;decide) rfl Tryz.underlying4 rfl (fun ds h=>by
  match ds,h with
  | [d0,d1],_=>rfl) laidOut (fun t ht=>readable t (by revert t;decide)) hval hW hz (inv_of hL)
theorem vzq:(Rows.funAppliesRow.inPlace == Tryz.prog.inPlace 3)=true:=by kernel_rfl
theorem tz5:(Rows.funAppliesRow.unfollowed == Tryz.prog.unfollowed 3)=true:=by kernel_rfl
theorem tz6:(Rows.funAppliesRow.recurses == Tryz.prog.recurses 3)=true:=by kernel_rfl
theorem tz7:(Rows.funAppliesRow.named == Tryz.prog.varsNamed 3)=true:=by kernel_rfl
theorem szi:joinedFacts Tryz.pinned.checked.prog 3 Tryz.f3 Rows.funAppliesSpec Rows.funAppliesRow=true :=
 and2 (and2 (and2 (and2 (and2 (and2 (and2 (and2 (and2 (and2 (and2 (and2 (and2 (and2 (and2 (and2 (and2 (and2 (and2 (and2 (and2 (and2 (and2 (and2 (and2 (and2 (and2 (and2 (and2 (and2 (and2 (by kernel_rfl) laidOut) NzV) (by kernel_rfl)) (by kernel_rfl)) (by kernel_rfl)) (by kernel_rfl)) (by kernel_rfl)) (by kernel_rfl)) vzq) tz5) tz6) tz7) (by kernel_rfl)) (by kernel_rfl)) (by kernel_rfl)) (by kernel_rfl)) (by kernel_rfl)) (by kernel_rfl)) (by kernel_rfl)) (by kernel_rfl)) (by kernel_rfl)) Nz4) (by kernel_rfl)) MzS) may_enter) lifts_is) make_is) (by kernel_rfl)) (by kernel_rfl)) (by kernel_rfl)) (by kernel_rfl)
theorem law11_FunApplies_holds:Rows.FunAppliesSaid :=
 OpenClaim.holds_of_wide 3 Tryz.f3 rfl rfl rfl rfl rfl rfl rfl ⟨rfl,rfl,rfl,rfl,rfl⟩ rfl rfl rfl rfl rfl (by kernel_rfl) Tryz.func3 szi
  (of_decide_eq_true (by kernel_rfl)) (by unfold Func.isWrapper;first | (rw [if_pos (by decide +kernel)];kernel_rfl) | (rw [if_neg (by decide +kernel)];exact ⟨rfl,rfl⟩))
  (fun os started H enc _=>szj os started H enc)
theorem tzl:false=Rows.funAppliesRow.goesBy Tryz.pinned.checked.prog:=by kernel_rfl
theorem law11_FunApplies_card:Rows.FunAppliesCardSaid :=
 Claim7.holds_tied_plain_at .later [] [.data,.data,.data,.data,.pinned] true (true, "77b88d5647d88579fe249790164f29ba538a169e38f55a49c9c0a729a43cbb40") false
  law11_FunApplies_holds (fun _ h=>by cases h) (by kernel_rfl) (fun _ h=>by cases h) funApplies_row_tie rfl ⟨rfl,rfl⟩ main_is rfl
  (fun f fn hf hfn=>by
   obtain rfl:f=3:=Option.some.inj ((show Tryz.prog.funcNamed "cashbook/cashbooklaw11.FunApplies" = some 3 by kernel_rfl).symm.trans hf) |>.symm;obtain rfl:fn=Tryz.f3:=(Option.some.inj (Tryz.func3.symm.trans hfn)).symm;exact ⟨looks_is,fun j t ht=>by
    rw [Tryz.params3] at ht;have hm:t∈[3,22]:=by simpa using Array.mem_of_getElem? ht
    have hall:([3,22].all fun u=>!Tryz.prog.wantsStandIn u)=true:=by kernel_rfl
    exact (show Tryz.prog.wantsStandIn t=false by simpa using List.all_eq_true.1 hall t hm)⟩)
  tzl
end Go.Proofs.YtdgpkbnnljblmaaGreatDoor
