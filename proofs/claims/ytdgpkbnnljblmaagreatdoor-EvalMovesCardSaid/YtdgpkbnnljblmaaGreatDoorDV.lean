import Derived.Test.YtdgpkbnnljblmaaGreatDoorQG
import Derived.Test.YtdgpkbnnljblmaaGreatDoorY1
import Derived.Test.YtdgpkbnnljblmaaGreatDoorU3
import Derived.Test.YtdgpkbnnljblmaaGreatDoorTie
import Derived.Stop.Joined
import Derived.Lib.LaidU8T
import Derived.Lay
import Derived.Test.YtdgpkbnnljblmaaGreatDoorCards
/- E0 -/
namespace Go.Proofs.YtdgpkbnnljblmaaGreatDoor
open Go Go.Ev
set_option linter.unusedVariables false
noncomputable section
def jzk (x:Unit):Option (Bool) :=
  obnd (izj ()) fun y =>
    obnd (pzO (0,0,5)) fun y_1 =>
      obnd (nz8 (0,2,0)) fun y_2 =>
        obnd (tz0 (0,[azC y_2])) fun y_3 =>
          obnd (nz8 (0,2,0)) fun y_4 =>
            obnd (wzV 10) fun y_5 =>
              obnd (wzS (3,azC y_4,azC y_5)) fun y_6 =>
                obnd (kzH (azC y_6,y,y_1,3,1)) fun y_7 =>
                  obnd (kzH (azC y_3,y,y_1,2,1)) fun y_8 =>
                    brn (!decide ((↑(List.length y_7):Int)=3)) (some false)
                      (brn (!decide ((↑(List.length y_8):Int)=2)) (some false)
                        (obnd (dzh (azC y_3,y,y_1)) fun y_9 =>
                          obnd (hzK 6) fun y_10 =>
                            brn
                              (bif false then
                                !(decide (y_9.Kind = y_10.Kind) &&
                                    (decide (y_9.N.M=y_10.N.M) &&
                                      (decide (y_9.N.S=y_10.N.S)&&(decide (y_9.S=y_10.S)&&(decide (y_9.B=y_10.B)&&decide (y_9.E=y_10.E))))))
                              else
                                decide (y_9.Kind=y_10.Kind) &&
                                  (decide (y_9.N.M=y_10.N.M)&&(decide (y_9.N.S=y_10.N.S)&&(decide (y_9.S=y_10.S)&&(decide (y_9.B=y_10.B)&&decide (y_9.E=y_10.E))))))
                              (obnd (dzh (azC y_6,y,y_1)) fun y_11 =>
                                obnd (azn 15) fun y_12 =>
                                  brn
                                    (bif false then
                                      !(decide (y_11.Kind = y_12.Kind) &&
                                          (decide (y_11.N.M=y_12.N.M) &&
                                            (decide (y_11.N.S=y_12.N.S)&&(decide (y_11.S=y_12.S)&&(decide (y_11.B=y_12.B)&&decide (y_11.E=y_12.E))))))
                                    else
                                      decide (y_11.Kind=y_12.Kind) &&
                                        (decide (y_11.N.M=y_12.N.M) &&
                                          (decide (y_11.N.S=y_12.N.S)&&(decide (y_11.S=y_12.S)&&(decide (y_11.B=y_12.B)&&decide (y_11.E=y_12.E))))))
                                    (obnd (zzh (7,7)) fun y_13 =>
                                      obnd (dzh (azC y_13,y,y_1)) fun y_14 =>
                                        obnd (hzK 0) fun y_15 =>
                                          brn
                                            (bif false then
                                              !(decide (y_14.Kind = y_15.Kind) &&
                                                  (decide (y_14.N.M=y_15.N.M) &&
                                                    (decide (y_14.N.S=y_15.N.S)&&(decide (y_14.S=y_15.S)&&(decide (y_14.B=y_15.B)&&decide (y_14.E=y_15.E))))))
                                            else
                                              decide (y_14.Kind=y_15.Kind) &&
                                                (decide (y_14.N.M=y_15.N.M) &&
                                                  (decide (y_14.N.S=y_15.N.S)&&(decide (y_14.S=y_15.S)&&(decide (y_14.B=y_15.B)&&decide (y_14.E=y_15.E))))))
                                            (obnd
                                              (dzh
                                                ({ Kind := 6, V := { Kind := 0, N := { M := 0, S := 0 }, S := [], B := false, E := 0 },
                                                    A :=
                                                      { A := { Row := 0, Col := 0, RelRow := false, RelCol := false },
                                                        B := { Row := 0, Col := 0, RelRow := false, RelCol := false } },
                                                    Sheet := 0, Op := 0, Kids := [] },
                                                  y,y_1))
                                              fun y_16 =>
                                              obnd (azn 29) fun y_17 =>
                                                brn
                                                  (bif false then
                                                    !(decide (y_16.Kind = y_17.Kind) &&
                                                        (decide (y_16.N.M=y_17.N.M) &&
                                                          (decide (y_16.N.S=y_17.N.S)&&(decide (y_16.S=y_17.S)&&(decide (y_16.B=y_17.B)&&decide (y_16.E=y_17.E))))))
                                                  else
                                                    decide (y_16.Kind=y_17.Kind) &&
                                                      (decide (y_16.N.M=y_17.N.M) &&
                                                        (decide (y_16.N.S=y_17.N.S)&&(decide (y_16.S=y_17.S)&&(decide (y_16.B=y_17.B)&&decide (y_16.E=y_17.E))))))
                                                  (obnd (idx y_7 2) fun y_18 =>
                                                    obnd (hzK 30) fun y_19 =>
                                                      brn
                                                        (bif false then
                                                          !(decide (y_18.Kind = y_19.Kind) &&
                                                              (decide (y_18.N.M=y_19.N.M) &&
                                                                (decide (y_18.N.S=y_19.N.S) &&
                                                                  (decide (y_18.S=y_19.S)&&(decide (y_18.B=y_19.B)&&decide (y_18.E=y_19.E))))))
                                                        else
                                                          decide (y_18.Kind=y_19.Kind) &&
                                                            (decide (y_18.N.M=y_19.N.M) &&
                                                              (decide (y_18.N.S=y_19.N.S)&&(decide (y_18.S=y_19.S)&&(decide (y_18.B=y_19.B)&&decide (y_18.E=y_19.E))))))
                                                        (obnd (idx y_8 0) fun y_20 =>
                                                          obnd (hzK 6) fun y_21 =>
                                                            brn
                                                              (bif false then
                                                                !(decide (y_20.Kind = y_21.Kind) &&
                                                                    (decide (y_20.N.M=y_21.N.M) &&
                                                                      (decide (y_20.N.S=y_21.N.S) &&
                                                                        (decide (y_20.S=y_21.S)&&(decide (y_20.B=y_21.B)&&decide (y_20.E=y_21.E))))))
                                                              else
                                                                decide (y_20.Kind=y_21.Kind) &&
                                                                  (decide (y_20.N.M=y_21.N.M) &&
                                                                    (decide (y_20.N.S=y_21.N.S) &&
                                                                      (decide (y_20.S=y_21.S)&&(decide (y_20.B=y_21.B)&&decide (y_20.E=y_21.E))))))
                                                              (obnd (idx y_8 1) fun y_22 =>
                                                                obnd (hzK 6) fun y_23 =>
                                                                  brn
                                                                    (bif false then
                                                                      !(decide (y_22.Kind = y_23.Kind) &&
                                                                          (decide (y_22.N.M=y_23.N.M) &&
                                                                            (decide (y_22.N.S=y_23.N.S) &&
                                                                              (decide (y_22.S=y_23.S)&&(decide (y_22.B=y_23.B)&&decide (y_22.E=y_23.E))))))
                                                                    else
                                                                      decide (y_22.Kind=y_23.Kind) &&
                                                                        (decide (y_22.N.M=y_23.N.M) &&
                                                                          (decide (y_22.N.S=y_23.N.S) &&
                                                                            (decide (y_22.S=y_23.S)&&(decide (y_22.B=y_23.B)&&decide (y_22.E=y_23.E))))))
                                                                    (obnd (kzH (azC y_6,y,y_1,0,1)) fun y_24 =>
                                                                      brn (decide ((↑(List.length y_24):Int)=0))
                                                                        (obnd
                                                                          (dzh
                                                                            ({ Kind := 4, V := { Kind := 0, N := { M := 0, S := 0 }, S := [], B := false, E := 0 },
                                                                                A :=
                                                                                  { A := { Row := 0, Col := 0, RelRow := false, RelCol := false },
                                                                                    B := { Row := 0, Col := 0, RelRow := false, RelCol := false } },
                                                                                Sheet := 2, Op := 0, Kids := [] },
                                                                              y,y_1))
                                                                          fun y =>
                                                                          obnd (azn 23) fun y_25 =>
                                                                            some
                                                                              (match decide (y.Kind=y_25.Kind)with
                                                                              | false=>false
                                                                              | true =>
                                                                                decide (y.N.M=y_25.N.M) &&
                                                                                  (decide (y.N.S=y_25.N.S) &&
                                                                                    (decide (y.S=y_25.S)&&(decide (y.B=y_25.B)&&decide (y.E=y_25.E))))))
                                                                        (some false))
                                                                    (some false))
                                                              (some false))
                                                        (some false))
                                                  (some false))
                                            (some false))
                                    (some false))
                              (some false)))
def rzU:FSpec tb:=⟨[],[(0,.val 4)],jzk⟩
theorem tza:azd Tryz.prog tb 42 rzU:=azo mixed Tryz.func42 (by kernel_rfl) (.cons rzT (.cons qzF (.cons uz9 (.cons uz8 (.cons wzW (.cons wzT (.cons uzG (.cons nzd (.cons mzw (.cons azJ (.cons yzw .nil))))))))))) rfl (fun x=>by kernel_rfl)
end
set_option linter.unusedVariables false
noncomputable section
end
set_option linter.unusedVariables false
noncomputable section
end
end Go.Proofs.YtdgpkbnnljblmaaGreatDoor
/- PD -/
namespace Go.Proofs.YtdgpkbnnljblmaaGreatDoor
open Go Go.Ev Go.Lib
def colE:Env:=⟨2,[⟨⟨0,⟨0,0⟩⟩,vN ⟨1,0⟩⟩,⟨⟨0,⟨1,0⟩⟩,vN ⟨2,0⟩⟩,⟨⟨0,⟨2,0⟩⟩,vN ⟨3,0⟩⟩],[]⟩
theorem column_is:izj ()=some colE:=by
 have this:izB (⟨2,[],[]⟩,((0:Nat):Int))=some ((fun e:Env=>((),e)) _):=azR (F:=ezj) (fun(e:Env) (i:Nat)=>(e,(i:Int))) (fun e=>((),e)) [0,1,2] (fun(e:Env) (i:Nat)=>.inl {e with Slots:=e.Slots++[⟨⟨0,⟨(i:Int),0⟩⟩,vN ⟨(i:Int)+1,0⟩⟩]}) id
  (fun e i=>e.Slots.length≤i∧∀s∈e.Slots,s.P.Sheet=0∧s.P.At.Row<(i:Int)) (by simp)
  (fun back e i hi hp=>by
   have hi':i<3:=by simpa using hi
   have hg:([0,1,2]:List Nat)[i]=i:=by
    match i,hi' with
    | 0,_=>rfl
    | 1,_=>rfl
    | 2,_=>rfl
   unfold ezj;simp only;rw[dT0 (by omega),azc,show pzO (0,(i:Int),0)=some ⟨0,⟨(i:Int),0⟩⟩ from rfl,aza,wr1 (by omega),show hzK ((i+1:Nat):Int)=some (vN ⟨((i+1:Nat):Int),0⟩) from rfl,aza,
    put_end (by omega) (fun s hs=>by
     obtain⟨h1,h2⟩:=hp.2 s hs;unfold ltP;simp[h1,h2]) (show(1:Int)≠0 by decide),aza,hg]
   simp[kzD])
  (fun e i hi e' hp h=>by
   have hi':i<3:=by simpa using hi
   have hg:([0,1,2]:List Nat)[i]=i:=by
    match i,hi' with
    | 0,_=>rfl
    | 1,_=>rfl
    | 2,_=>rfl
   rw[hg]at h;cases h;refine⟨by simp only[List.length_append,List.length_singleton];omega,fun s hs=>?_⟩;rcases List.mem_append.1 hs with hs|hs
   ·obtain⟨h1,h2⟩:=hp.2 s hs;exact⟨h1,by omega⟩
   ·rw[List.mem_singleton]at hs;subst hs;exact⟨rfl,by simp only;omega⟩)
  (fun back e _=>by
   unfold ezj;simp only;rw[dF0 (by simp),azb];rfl) ⟨2,[],[]⟩ ⟨by simp,by simp⟩
 unfold izj;rw[show(0:Int)=((0:Nat):Int) from rfl,this];rfl
theorem Dzx:jzk ()=some true:=by
 unfold jzk;rw[column_is,aza];kernel_rfl
theorem to_tot:∀(d N:Nat) (e:Expr),d<N→sz d e≤1000→tr d e→iter izM N e=some e
 | _,0,_,h,_,_=>absurd h (by omega)
 | 0,_,_,_,_,h=>h.elim
 | d+1,N+1,e,hN,hs,ht=>by
  have hl:=lenK hs;have hk:∀k∈e.Kids,iter izM N k=some k:=fun k hk=>to_tot d N k (by omega) (szK hs hk) (pzg ht hk)
  rw[azH];generalize iter izM N=S at hk;have this:=azR (F:=hzf S) (fun(s:List Expr) (i:Nat)=>(s,e,(⟨e.Kind,e.V,e.A,e.Sheet,e.Op,s⟩:Expr),(i:Int))) (fun s:List Expr=>(s,(⟨e.Kind,e.V,e.A,e.Sheet,e.Op,s⟩:Expr))) e.Kids (fun(s:List Expr) k=>(.inl (s++[k]):List Expr⊕List Expr)) id (fun s i=>s.length=i) (by omega)
   (fun back s i hi hp=>by
    unfold hzf;simp only[az8];rw[ltT hi,azc,idxG hi,aza,hk _ (List.getElem_mem hi),aza,appN (by simp only[List.length_singleton];omega),aza,wr1 (by omega)];rfl)
   (fun s i hi s' hp h=>by cases h;simp[hp])
   (fun back s _=>by
    unfold hzf;simp only;rw[ltF,azb];rfl) [] rfl
  rw[czd]at this;have hf:∀(m s:List Expr),m.foldl (fun s c=>s++[c]) s=s++m:=by
   intro m;induction m with
   | nil=>intro s;simp
   | cons v m ih=>intro s;rw[List.foldl_cons,ih];simp
  rw[id,hf,List.nil_append]at this;unfold izM;simp only[az8];rw[show mzx e.V=some e.V from rfl,show mzv e.A=some e.A from rfl,aza,aza,show mzq S ([],e,⟨e.Kind,e.V,e.A,e.Sheet,e.Op,[]⟩,0)=_ from this,aza];cases e;rfl
theorem toE {e:Expr}(hs:sz 40 e≤1000)(ht:tr 40 e):nzs e=some e:=to_tot 40 big e (by rw[bz7];omega) hs ht
theorem toAll {l:List Expr}(hl:l.length≤1000)(h:∀i (h:i<l.length),sz 40 l[i]≤200∧tr 40 l[i]):jzi l=some l:=by
 have this:=azR (F:=ez1) (fun(s:List Expr) (i:Nat)=>(l,s,(i:Int))) id l (fun(s:List Expr) k=>(.inl (s++[k]):List Expr⊕List Expr)) id (fun s i=>s.length=i) (by omega)
  (fun back s i hi hp=>by
   obtain⟨a1,a2⟩:=h i hi;unfold ez1;simp only[az8];rw[ltT hi,azc,idxG hi,aza,toE (by omega) a2,aza,appN (by simp only[List.length_singleton];omega),aza,wr1 (by omega)];rfl)
  (fun s i hi s' hp h=>by cases h;simp[hp])
  (fun back s _=>by
   unfold ez1;simp only;rw[ltF,azb];rfl) [] rfl
 rw[czd]at this;have hf:∀(m s:List Expr),m.foldl (fun s c=>s++[c]) s=s++m:=by
  intro m;induction m with
  | nil=>intro s;simp
  | cons v m ih=>intro s;rw[List.foldl_cons,ih];simp
 rw[id,id,hf,List.nil_append]at this;unfold jzi;rw[show jzj (l,[],0)=_ from this];rfl
theorem toV {v:Env}(hl:v.Slots.length≤1000)(hn:v.Names.length≤1000)(h:∀i (h:i<v.Names.length),sz 40 v.Names[i]≤200∧tr 40 v.Names[i]):kz2 v=some v:=by
 have this:=azR (F:=hzg) (fun(s:List Slot) (i:Nat)=>(s,v,(⟨v.Sheets,s,v.Names⟩:Env),(i:Int))) (fun s:List Slot=>(s,(⟨v.Sheets,s,v.Names⟩:Env))) v.Slots (fun(s:List Slot) k=>(.inl (s++[k]):List Slot⊕List Slot)) id (fun s i=>s.length=i) (by omega)
  (fun back s i hi hp=>by
   unfold hzg;simp only;rw[ltT hi,azc,idxG hi,aza,show kzf v.Slots[i].P=some v.Slots[i].P from rfl,aza,aza,show mzx v.Slots[i].V=some v.Slots[i].V from rfl,aza,appN (by simp only[List.length_singleton];omega),aza,wr1 (by omega)];rfl)
  (fun s i hi s' hp h=>by cases h;simp[hp])
  (fun back s _=>by
   unfold hzg;simp only;rw[ltF,azb];rfl) [] rfl
 rw[czd]at this;have hf:∀(m s:List Slot),m.foldl (fun s c=>s++[c]) s=s++m:=by
  intro m;induction m with
  | nil=>intro s;simp
  | cons v m ih=>intro s;rw[List.foldl_cons,ih];simp
 rw[id,hf,List.nil_append]at this;unfold kz2;rw[toAll hn h,aza,show mzr ([],v,⟨v.Sheets,[],v.Names⟩,0)=_ from this];rfl
theorem lv_mono {P Q:Expr→Prop}(h:∀e,2≤e.Kind→e.Kind≤6→P e→Q e):∀(d:Nat) (e:Expr),lv P d e→lv Q d e
 | 0,_,h=>h.elim
 | d+1,e,hp=>by
  unfold lv at hp ⊢;by_cases c:2≤e.Kind∧e.Kind≤6
  ·rw[if_pos c]at hp ⊢;exact h e c.1 c.2 hp
  ·rw[if_neg c]at hp ⊢;exact fun k hk=>lv_mono h d k (hp k hk)
theorem Az3 {W:Expr→Prop}(hw:∀e,W e→I64 e.V.N.M∧∀k∈e.Kids,W k):∀(d:Nat) (e:Expr),tr d e→W e→i64T d e
 | 0,_,h,_=>h.elim
 | d+1,e,h,he=>⟨(hw e he).1,fun k hk=>Az3 hw d k (h.2 k hk) ((hw e he).2 k hk)⟩
theorem slots_ok {v:Env}(h:okEnv v)(hm:∀s∈v.Slots,I64 s.V.N.M):∀s∈v.Slots,okU s.V:=by
 intro s hs;obtain⟨i,hi,rfl⟩:=List.mem_iff_getElem.1 hs;obtain⟨_,_,hc,_⟩:=h.slo i hi;obtain⟨c,c1,c2,_⟩:=lz7 (h.txt i hi);rw[hc]at c2;exact okU_of (h.txt i hi) (hm _ hs) (by rw[c1,←c2])
end Go.Proofs.YtdgpkbnnljblmaaGreatDoor
/- KE -/
namespace Go.Proofs.YtdgpkbnnljblmaaGreatDoor
open Go Go.Ev
set_option linter.unusedVariables false
noncomputable section
abbrev vzd:List (Nat×FSpec tb):=[(42,rzU),(43,wz6),(49,kzM),(45,rzM),(46,zzi),(44,wzo)]
theorem gzO:azv Tryz.prog tb (vzd):=(.cons tza (.cons wz7 (.cons izF (.cons ozP (.cons yzC (.cons nzd .nil))))))
def dzb (back:List Expr×Int→Option ((Unit)⊕(Bool)))(x:List Expr×Int):Option ((Unit)⊕(Bool)) :=
 brn (decide (x.snd<(↑x.fst.length:Int)))
  (obnd (idx x.fst x.snd) fun y =>
   obnd (idx x.fst x.snd) fun y_1 =>
    brn (decide (y_1.Kind=6)) (some (Sum.inr true))
     (brn (!y.A.A.RelRow) (some (Sum.inr true))
      (obnd (idx x.fst x.snd) fun y_2 =>
       brn (decide (y_2.Kind=3))
        (brn (!y.A.B.RelRow) (some (Sum.inr true))
         (brn (decide (100<y.A.A.Row)) (some (Sum.inr true)) (brn (decide (100<y.A.B.Row)) (some (Sum.inr true)) (back (x.fst,IntKind.i64.wrap (x.snd+1))))))
        (obnd (idx x.fst x.snd) fun y_3 =>
         brn (decide (y_3.Kind=5))
          (brn (!y.A.B.RelRow) (some (Sum.inr true))
           (brn (decide (100<y.A.A.Row)) (some (Sum.inr true)) (brn (decide (100<y.A.B.Row)) (some (Sum.inr true)) (back (x.fst,IntKind.i64.wrap (x.snd+1))))))
          (brn (decide (100<y.A.A.Row)) (some (Sum.inr true)) (brn (decide (100<y.A.B.Row)) (some (Sum.inr true)) (back (x.fst,IntKind.i64.wrap (x.snd+1)))))))))
  (some (Sum.inl PUnit.unit))
def gzP:List Expr×Int→Option ((Unit)⊕(Bool)):=iter dzb big
def jzU:CutSpec tb:=⟨68,[(7,.val 79),(8,.val 3)],[((.exit 0),[]),(.ret,[(6,.val 4)])],[41,42,43,44,47,48,49,50,51,9,52,53,54,55,56,57,58,59,60,61,62,63,64,65,66,67,68,69,70,71,72,73,74,75,76,77,78,79,80,81,82,83,84,85,86,87,88,89,90,91,92,93,94,95,96,97,6,45,46,8],gzP⟩
theorem ozR:azi ([]:List (CutSpec tb)) (azf 68 Tryz.f12)=[]:=by kernel_rfl
theorem oza:azm Tryz.prog tb Tryz.f12.ntmps (.loop (azf 68 Tryz.f12)) (jzU):=azz mixed (by kernel_rfl) gzO rfl ozR .nil dzb (fun back x=>by kernel_rfl) rfl
def dzc (back:List (Slot)×Env×Env×Int→Option (((List (Slot))×Env)⊕((List (Slot)×Bool)×Env)))(x:List (Slot)×Env×Env×Int):Option (((List (Slot))×Env)⊕((List (Slot)×Bool)×Env)) :=
 brn (decide (x.2.2.snd<(↑x.2.fst.Slots.length:Int)))
  (obnd (idx x.2.fst.Slots x.2.2.snd) fun y =>
   brn (decide (65536≤IntKind.i64.wrap (y.P.At.Row+1))) (some (Sum.inr ((x.fst,true),{Sheets:=x.2.2.fst.Sheets,Slots:=x.fst,Names:=x.2.2.fst.Names})))
    (obnd (app 80 x.fst [{P:={Sheet:=y.P.Sheet,At:={Row:=IntKind.i64.wrap (y.P.At.Row+1),Col:=y.P.At.Col}},V:=y.V}]) fun zs =>
     back (zs,x.2.fst,{Sheets:=x.2.2.fst.Sheets,Slots:=zs,Names:=x.2.2.fst.Names},IntKind.i64.wrap (x.2.2.snd+1))))
  (some (Sum.inl (x.fst,{Sheets:=x.2.2.fst.Sheets,Slots:=x.fst,Names:=x.2.2.fst.Names})))
def gzQ:List (Slot)×Env×Env×Int→Option (((List (Slot))×Env)⊕((List (Slot)×Bool)×Env)):=iter dzc big
def jzV:CutSpec tb:=⟨124,[(8589934602,.own 110),(4,.ro 84),(10,.ref 84),(11,.val 3)],[((.exit 2),[(8589934602,.own 110)]),(.ret,[(8589934602,.own 110),(6,.val 4)])],[101,102,103,104,105,108,109,110,111,112,12,113,114,115,116,117,118,119,120,121,122,123,124,125,6,126,127,128,129,130,131,106,107,11],gzQ⟩
theorem ozS:azi ([]:List (CutSpec tb)) (azf 124 Tryz.f12)=[]:=by kernel_rfl
theorem ozb:azm Tryz.prog tb Tryz.f12.ntmps (.loop (azf 124 Tryz.f12)) (jzV):=azz mixed (by kernel_rfl) gzO rfl ozS .nil dzc (fun back x=>by kernel_rfl) rfl
def izA (x:Expr×Env×Place):Option (Bool) :=
 obnd (jzk ()) fun y =>
  brn (!y) (some false)
   (obnd (lzQ (azC x.fst,x.2.fst)) fun y =>
    brn (!y) (some true)
     (brn (decide (0<(↑x.2.fst.Names.length:Int))) (some true)
      (brn (decide (x.2.snd.At.Row<0)) (some true)
       (brn (decide (100<x.2.snd.At.Row)) (some true)
        (obnd (hz6 (azC x.fst)) fun y =>
         obnd (gzP (y,0)) fun y =>
          osum y
           (fun y =>
            obnd (gzQ ([],x.2.fst,{Sheets:=x.2.fst.Sheets,Slots:=[],Names:=[]},0)) fun y =>
             osum y
              (fun y =>
               obnd (nzs (azC x.fst)) fun y_1 =>
                obnd (kz2 x.2.fst) fun y_2 =>
                 obnd (dzh (azC y_1,y_2,x.2.snd)) fun y_3 =>
                  obnd (kz2 {Sheets:=y.2.Sheets,Slots:=y.1,Names:=y.2.Names}) fun y =>
                   obnd (dzh (azC y_1,y,{Sheet:=x.2.snd.Sheet,At:={Row:=IntKind.i64.wrap (x.2.snd.At.Row+1),Col:=x.2.snd.At.Col}}))
                    fun y =>
                    some
                     (match decide (y_3.Kind=y.Kind)with
                     | false=>false
                     | true =>
                      decide (y_3.N.M=y.N.M)&&(decide (y_3.N.S=y.N.S)&&(decide (y_3.S=y.S)&&(decide (y_3.B=y.B)&&decide (y_3.E=y.E))))))
              fun y=>some y.1.2)
           fun y=>some y)))))
def mzs:FSpec tb:=⟨[(0,.val 81),(1,.val 84),(2,.val 88)],[(0,.val 4)],izA⟩
theorem rzQ:azi ([jzU,jzV]:List (CutSpec tb)) (azA Tryz.f12)=[(68,.loop (azf 68 Tryz.f12)),(124,.loop (azf 124 Tryz.f12))]:=by kernel_rfl
theorem ozT:azd Tryz.prog tb 12 mzs:=azL mixed Tryz.func12 (by kernel_rfl) gzO rfl rzQ (.cons rfl oza rfl (.cons rfl ozb rfl .nil)) (fun x=>by kernel_rfl)
end
end Go.Proofs.YtdgpkbnnljblmaaGreatDoor
/- QI -/
namespace Go.Proofs.YtdgpkbnnljblmaaGreatDoor
open Go Go.Ev Go.Lib
def mv1 (c:Cell):Cell:=⟨c.Row+1,c.Col⟩
def mvS (s:Slot):Slot:=⟨⟨s.P.Sheet,⟨IntKind.i64.wrap (s.P.At.Row+1),s.P.At.Col⟩⟩,s.V⟩
def deep (s:Slot):Prop:=65536≤IntKind.i64.wrap (s.P.At.Row+1)
instance (s:Slot):Decidable (deep s):=inferInstanceAs (Decidable (_≤_))
theorem yz8:∀{l:List Slot} {acc r:List Slot},azy (fun(s:List Slot) a=>if deep a then(.inr (.inr s):List Slot⊕(List Slot⊕List Slot))else .inl (s++[mvS a])) .inl acc l = .inl r→r=acc++l.map mvS∧∀a∈l,¬deep a
 | [],acc,r,h=>by simp only[azy]at h;cases h;simp
 | a::l,acc,r,h=>by
  simp only[azy]at h;by_cases c:deep a
  ·rw[if_pos c]at h;cases h
  ·rw[if_neg c]at h;obtain⟨h1,h2⟩:=yz8 h;refine⟨by rw[h1];simp,fun b hb=>?_⟩;rcases List.mem_cons.1 hb with rfl|hb
   ·exact c
   ·exact h2 b hb
theorem down_l2 {v:Env}(hl:v.Slots.length≤1000):gzQ ([],v,⟨v.Sheets,[],[]⟩,0) =
 some ((fun(r:List Slot⊕List Slot)=>match r with | .inl s=>.inl (s,(⟨v.Sheets,s,[]⟩:Env)) | .inr s=>.inr ((s,true),(⟨v.Sheets,s,[]⟩:Env))) (azy (fun(s:List Slot) a=>if deep a then(.inr (.inr s):List Slot⊕(List Slot⊕List Slot))else .inl (s++[mvS a])) .inl [] v.Slots)) :=
 azR (F:=dzc) (fun(s:List Slot) (i:Nat)=>(s,v,(⟨v.Sheets,s,[]⟩:Env),(i:Int))) (fun(r:List Slot⊕List Slot)=>match r with | .inl s=>.inl (s,(⟨v.Sheets,s,[]⟩:Env)) | .inr s=>.inr ((s,true),(⟨v.Sheets,s,[]⟩:Env))) v.Slots (fun(s:List Slot) a=>if deep a then(.inr (.inr s):List Slot⊕(List Slot⊕List Slot))else .inl (s++[mvS a])) .inl (fun s i=>s.length=i) (by omega)
  (fun back s i hi hp=>by
   unfold dzc;simp only;rw[ltT hi,azc,idxG hi,aza,wr1 (by omega)];by_cases c:65536≤IntKind.i64.wrap (v.Slots[i].P.At.Row+1)
   ·rw[dT0 c,if_pos (show deep v.Slots[i] from c)];rfl
   ·rw[dF0 c,if_neg (show ¬deep v.Slots[i] from c),azb,appN (by simp only[List.length_singleton];omega),aza];rfl)
  (fun s i hi s' hp h=>by
   by_cases c:deep v.Slots[i]
   ·rw[if_pos c]at h;cases h
   ·rw[if_neg c]at h;cases h;simp[hp])
  (fun back s _=>by
   unfold dzc;simp only;rw[ltF,azb]) [] rfl
theorem good_in {r c:Int}(h:dzi ⟨r,c⟩=some true):0≤r∧r<65536:=by
 unfold dzi at h;simp only at h;by_cases h1:0≤r
 ·by_cases h2:r<65536
  ·exact⟨h1,h2⟩
  ·rw[dT0 h1,dF0 h2,azc,azb]at h;cases h
 ·rw[dF0 h1,azb]at h;cases h
theorem ref_in {r:Ref}(h:cz0 r=some 0):0≤r.Row∧r.Row<65536:=by
 unfold cz0 at h;obtain⟨g,hg,h⟩:=azs.1 h;cases g with
 | false=>cases h
 | true=>exact good_in hg
theorem area_in {a:Area}(h:bzT a=some 0):0≤a.A.Row∧0≤a.B.Row:=by
 unfold bzT at h;obtain⟨g,hg,h⟩:=azs.1 h;by_cases c:g=0
 ·subst c;rw[dT0 rfl]at h;simp only[Bool.not_true,azb]at h;obtain⟨k,hk,h⟩:=azs.1 h;cases h;exact⟨(ref_in hg).1,(ref_in hk).1⟩
 ·rw[dF0 c]at h;cases h
theorem place_in {p:Place}{n:Int}(h:czD (p,n)=some true):0≤p.At.Row∧p.At.Row<65536:=by
 unfold czD at h;simp only at h;by_cases h1:0≤p.Sheet
 ·by_cases h2:p.Sheet<n
  ·rw[dT0 h1,dT0 h2,azc,azc]at h;obtain⟨g,hg,h⟩:=azs.1 h;cases h;exact good_in hg
  ·rw[dT0 h1,dF0 h2,azc,azb]at h;cases h
 ·rw[dF0 h1,azb]at h;cases h
theorem lv_and {P:Expr→Prop}:∀(d:Nat) (e:Expr),okN d e→lv P d e→lv (fun x=>P x∧okK x) d e
 | 0,_,_,h=>h.elim
 | d+1,e,ho,hp=>by
  unfold lv at hp ⊢;by_cases c:2≤e.Kind∧e.Kind≤6
  ·rw[if_pos c]at hp ⊢;exact⟨hp,ho.1⟩
  ·rw[if_neg c]at hp ⊢;exact fun k hk=>lv_and d k (ho.2 k hk) (hp k hk)
theorem at_mv {r:Ref}{b:Cell}(hr:r.RelRow=true)(h0:0≤r.Row)(h1:r.Row≤100)(b0:0≤b.Row)(b1:b.Row≤100):atV r (mv1 b)=mv1 (atV r b)∧(atV r b).Row=r.Row+b.Row:=by
 have e:(atV r b).Row=r.Row+b.Row:=by
  show mov r.RelRow r.Row b.Row 65536=_
  unfold mov;rw[if_pos hr];omega
 refine⟨?_,e⟩;have e':(atV r (mv1 b)).Row=r.Row+b.Row+1:=by
  show mov r.RelRow r.Row (b.Row+1) 65536=_
  unfold mov;rw[if_pos hr];omega
 have e2:(atV r (mv1 b)).Col=(atV r b).Col:=rfl;rw[show atV r (mv1 b)=⟨(atV r (mv1 b)).Row,(atV r (mv1 b)).Col⟩ from rfl,e',e2]
 show _=(⟨(atV r b).Row+1,(atV r b).Col⟩:Cell)
 rw[e]
theorem lo_mv (x y:Cell):loC (mv1 x) (mv1 y)=mv1 (loC x y):=by
 show(⟨if y.Row+1<x.Row+1 then y.Row+1 else x.Row+1,_⟩:Cell)=⟨(if y.Row<x.Row then y.Row else x.Row)+1,_⟩
 congr 1;split<;>split<;>omega
theorem hi_mv (x y:Cell):hiC (mv1 x) (mv1 y)=mv1 (hiC x y):=by
 show(⟨if x.Row+1<y.Row+1 then y.Row+1 else x.Row+1,_⟩:Cell)=⟨(if x.Row<y.Row then y.Row else x.Row)+1,_⟩
 congr 1;split<;>split<;>omega
theorem cells_mv (x y:Cell):cellsOf (mv1 x) (mv1 y)=(cellsOf x y).map mv1:=by
 unfold cellsOf;rw[List.map_flatMap,show(mv1 y).Row-(mv1 x).Row+1=y.Row-x.Row+1 by show y.Row+1-(x.Row+1)+1=_;omega];congr 1;funext i;unfold ezl;rw[List.map_map];refine List.map_congr_left fun j _=>?_
 show(⟨x.Row+1+(i:Int),_⟩:Cell)=⟨x.Row+(i:Int)+1,_⟩
 congr 1;omega
theorem mem_cells {x y c:Cell}(h:c∈cellsOf x y):x.Row≤c.Row∧c.Row≤y.Row:=by
 unfold cellsOf at h;obtain⟨i,hi,h⟩:=List.mem_flatMap.1 h;unfold ezl at h;obtain⟨j,_,rfl⟩:=List.mem_map.1 h;have:=List.mem_range.1 hi;simp only;omega
def goes (e:Expr):Prop:=e.Kind≠6∧e.A.A.RelRow=true∧(e.Kind=3∨e.Kind=5→e.A.B.RelRow=true)∧e.A.A.Row≤100∧e.A.B.Row≤100
def inC (c:Cell):Prop:=0≤c.Row∧c.Row≤65534
theorem leaf_mv {w w':Worker}{e:Expr}(hp:w'.at_.At=mv1 w.at_.At)(b0:0≤w.at_.At.Row)(b1:w.at_.At.Row≤100)(h2:2≤e.Kind)(h6:e.Kind≤6)(h:goes e)(hk:okK e):leafP w w' mv1 inC e:=by
 obtain⟨g6,g1,g2,g3,g4⟩:=h;have ha:=area_in (hk.2.2.2.2.2.2.2 h2 (by omega));obtain⟨m1,m2⟩:=at_mv g1 ha.1 g3 b0 b1;refine⟨g6,fun _=>⟨atV e.A.A w.at_.At,at_is _ _,by rw[at_is,hp,m1],by unfold inC;omega⟩,fun k=>?_⟩;obtain⟨n1,n2⟩:=at_mv (g2 k) ha.2 g4 b0 b1;obtain⟨cs,c1,c2⟩:=cells_ex e.A w.at_.At;refine⟨cs,c1,?_,c2,?_⟩
 ·rw[qz8]at c1 ⊢;cases c1;rw[hp,m1,n1,lo_mv,hi_mv,cells_mv];rw[show ∀x y,izQ (mv1 x) (mv1 y)=izQ x y from fun x y=>by unfold izQ mv1;simp only;congr 1;omega];split<;>rfl
 ·rw[qz8]at c1;cases c1;intro c hc;split at hc
  ·cases hc
  ·have:=mem_cells hc;simp only[loC,hiC]at this;unfold inC;have i1:=szo e.A.A w.at_.At;have i2:=szo e.A.B w.at_.At;split at this<;>split at this<;>omega
theorem good_mv {v v':Env}{sh:Int}{c:Cell}(hs:v'.Sheets=v.Sheets)(h:inC c):ezU (v',⟨sh,mv1 c⟩)=ezU (v,⟨sh,c⟩):=by
 have:hzt (mv1 c)=hzt c:=by
  unfold hzt mv1 inC at *;simp only;rw[dT0 (show 0≤c.Row+1 by omega),dT0 (show c.Row+1<65536 by omega),dT0 h.1,dT0 (show c.Row<65536 by omega)]
 unfold ezU;simp only;rw[hs,this]
theorem wrap_row {r:Int}(h:0≤r∧r<65536):IntKind.i64.wrap (r+1)=r+1:=azG (by omega) (by omega)
theorem xz5 {a b:Prop}[Decidable a][Decidable b](h:a↔b):decide a=decide b:=by
 by_cases c:a
 ·rw[dT0 c,dT0 (h.1 c)]
 ·rw[dF0 c,dF0 (fun x=>c (h.2 x))]
theorem xzQ {e:Expr}{v:Env}{p:Place}{W:Expr→Prop}(hW:W e)(hw:∀e,W e→I64 e.V.N.M∧∀k∈e.Kids,W k)(hm:∀s∈v.Slots,I64 s.V.N.M):izA (e,v,p)=some true:=by
 unfold izA;simp only[az8];rw[Dzx,aza];simp only[Bool.not_true,azb];obtain⟨b,hb,hb'⟩:=few_all e v;rw[hb,aza];cases b with
 | false=>rfl
 | true =>
  obtain⟨hs,ht,ho,hv,_⟩:=hb' rfl;simp only[Bool.not_true,azb];by_cases hn:0<(v.Names.length:Int)
  ·rw[dT0 hn];rfl
  by_cases p0:p.At.Row<0
  ·rw[dF0 hn,dT0 p0];rfl
  by_cases p1:100<p.At.Row
  ·rw[dF0 hn,dF0 p0,dT0 p1];rfl
  rw[dF0 hn,dF0 p0,dF0 p1,azb,azb,azb];obtain⟨l,h1,h2,h3⟩:=refsF (e:=e) (by omega) ht;rw[h1,aza];obtain⟨z,e1,e2⟩:=izr (F:=dzb) (fun i=>(l,(i:Int))) l.length (fun i=>∃h:i<l.length,goes l[i]) (fun z=>z = .inr true) (.inl ()) (by omega)
   (fun back i hi=>by
    unfold dzb;simp only;rw[ltT hi,azc,idxG hi,aza,wr1 (by omega)];simp only[aza];obtain⟨x,hx⟩:∃x,x=l[i]:=⟨_,rfl⟩;rw[←hx];by_cases k6:x.Kind=6
    ·rw[dT0 k6];exact .inr ⟨_,rfl,rfl⟩
    rw[dF0 k6,azb];cases ra:x.A.A.RelRow with
    | false=>exact .inr ⟨_,rfl,rfl⟩
    | true =>
     simp only[Bool.not_true,azb];by_cases r1:100<x.A.A.Row
     ·rw[dT0 r1];simp only[azc];cases decide (x.Kind=3)<;>cases decide (x.Kind=5)<;>cases x.A.B.RelRow<;>exact .inr ⟨_,rfl,rfl⟩
     by_cases r2:100<x.A.B.Row
     ·rw[dF0 r1,dT0 r2];simp only[azc,azb];cases decide (x.Kind=3)<;>cases decide (x.Kind=5)<;>cases x.A.B.RelRow<;>exact .inr ⟨_,rfl,rfl⟩
     rw[dF0 r1,dF0 r2];simp only[azb];cases rb:x.A.B.RelRow with
     | true =>
      refine .inl ⟨?_,hi,by rw[←hx];exact⟨k6,ra,fun _=>rb,by omega,by omega⟩⟩;cases decide (x.Kind=3)<;>cases decide (x.Kind=5)<;>rfl
     | false =>
      by_cases k3:x.Kind=3
      ·rw[dT0 k3];exact .inr ⟨_,rfl,rfl⟩
      by_cases k5:x.Kind=5
      ·rw[dF0 k3,dT0 k5];exact .inr ⟨_,rfl,rfl⟩
      rw[dF0 k3,dF0 k5];exact .inl ⟨rfl,hi,by rw[←hx];exact⟨k6,ra,fun k=>absurd k (by omega),by omega,by omega⟩⟩)
   (fun back=>by
    unfold dzb;simp only;rw[ltF,azb])
  rw[show gzP (l,0)=_ from e1,aza];rcases e2 with rfl|⟨rfl,e2⟩
  ·rfl
  have hg:lv goes 40 e:=h3 goes fun x hx=>by
   obtain⟨i,hi,rfl⟩:=List.mem_iff_getElem.1 hx;obtain⟨_,h⟩:=e2 i hi;exact h
  simp only[osum];have hN:=toE (e:=e) (by omega) ht;have h60:=hv.len;rw[down_l2 (by omega),aza];cases hd:azy (fun(s:List Slot) a=>if deep a then(.inr (.inr s):List Slot⊕(List Slot⊕List Slot))else .inl (s++[mvS a])) .inl [] v.Slots with
  | inr s=>rfl
  | inl r =>
   obtain⟨hr,hd⟩:=yz8 hd;rw[List.nil_append]at hr;subst hr;simp only;rw[hN,aza,toV (v:=v) (by omega) (by omega) (fun i h=>absurd h (by omega)),aza,toV (v:=⟨v.Sheets,v.Slots.map mvS,[]⟩) (by rw[List.length_map];omega) (by simp) (fun i h=>absurd h (by simp))];rw[azG (n:=p.At.Row+1) (by omega) (by omega)];have two:Two ⟨v,p,0,0,0⟩ ⟨⟨v.Sheets,v.Slots.map mvS,[]⟩,⟨p.Sheet,⟨p.At.Row+1,p.At.Col⟩⟩,0,0,0⟩ mv1 inC:=⟨rfl,rfl,rfl,rfl,fun sh c hc=>get_two (v:=v) (v':=⟨v.Sheets,v.Slots.map mvS,[]⟩) (p:=⟨sh,c⟩) (p':=⟨sh,mv1 c⟩) (by omega) (by rw[List.length_map]) (fun i h h'=>by
    obtain⟨_,hgp,_,_⟩:=hv.slo i h;have hw:=wrap_row (place_in hgp);have hm:(v.Slots.map mvS)[i]=mvS v.Slots[i]:=List.getElem_map mvS;refine⟨?_,?_,?_⟩
    ·rw[hm];unfold ltP mvS mv1;simp only;rw[hw,xz5 (show v.Slots[i].P.At.Row+1<c.Row+1↔v.Slots[i].P.At.Row<c.Row by omega),xz5 (show v.Slots[i].P.At.Row+1=c.Row+1↔v.Slots[i].P.At.Row=c.Row by omega)]
    ·rw[hm];unfold eqP mvS mv1;simp only;rw[hw,xz5 (show v.Slots[i].P.At.Row+1=c.Row+1↔v.Slots[i].P.At.Row=c.Row by omega)]
    ·rw[hm];rfl) (slots_ok hv hm) (good_mv rfl hc)⟩
   obtain⟨a,a1,a2,a3⟩:=arg_two two 40 big big e false (by rw[bz7];omega) (by rw[bz7];omega) (by omega) ht ho (Az3 hw 40 e ht hW)
    (lv_mono (fun x k2 k6 hx=>leaf_mv rfl (show 0≤p.At.Row by omega) (show p.At.Row≤100 by omega) k2 k6 hx.1 hx.2) 40 e (lv_and 40 e ho hg))
   rw[eval_is a1 a3,aza,aza,eval_is a2 a3,aza];simp
end Go.Proofs.YtdgpkbnnljblmaaGreatDoor
/- RW -/
namespace Go.Proofs.YtdgpkbnnljblmaaGreatDoor
open Go Go.Ev
theorem own:ownKnob Tryz.prog.godebug=none:=by kernel_rfl
theorem laidOut:laidOutB Tryz.prog=true:=by kernel_rfl
theorem and2 {a b:Bool}(h:a=true)(k:b=true):(a&&b)=true:=by rw[h,k];rfl
theorem main_is:Tryz.pinned.checked.prog.mainIs=some (true, "77b88d5647d88579fe249790164f29ba538a169e38f55a49c9c0a729a43cbb40".toList):=by kernel_rfl
theorem looks_is:false=Tryz.pinned.checked.prog.looks []:=by kernel_rfl
theorem DzG:mapsRowed Tryz.prog=true:=by kernel_rfl
theorem DzO:(Rows.evalFaultsRow.plainKeys == Tryz.prog.plainKeys)=true:=by kernel_rfl
theorem CzS:Tryz.prog.stopsHeard=true:=by kernel_rfl
theorem may_enter:Tryz.prog.mayEnter=true:=by kernel_rfl
theorem lifts_is:(Rows.evalFaultsRow.lifted == Tryz.prog.liftsFinal)=true:=by kernel_rfl
theorem make_is:(Tryz.prog.make == some Rows.evalFaultsRow.make)=true:=by kernel_rfl
abbrev laidL:List (String×DataW Unit):=[("math/bits.deBruijn32tab",Rows.laid_math_bits_deBruijn32tab),("math/bits.deBruijn64tab",Rows.laid_math_bits_deBruijn64tab),("internal/strconv.uint64pow10",Rows.laid_internal_strconv_uint64pow10),("unicode/utf8.acceptRanges",Rows.laid_unicode_utf8_acceptRanges),("unicode/utf8.first",Rows.laid_unicode_utf8_first)]
theorem extra:Go.Proofs.U8Extra Tryz.prog Tryz.lays196_ren:=⟨by kernel_rfl,by kernel_rfl,by kernel_rfl,by kernel_rfl,by kernel_rfl,by kernel_rfl,by kernel_rfl⟩
theorem first_is:(Rows.laid_unicode_utf8_first:DataW Unit)=Lib.firstData:=by kernel_rfl
theorem accept_is:(Rows.laid_unicode_utf8_acceptRanges:DataW Unit)=Lib.acceptData:=by kernel_rfl
theorem inv_of {W:World}(h:laidMetH Tryz.prog laidL W):tb.inv (fun _=>.con) W:=by
 rw[MakeChecks.laidMetH_plain _ _ _ (by kernel_rfl)]at h;have h3:=Lib.laidMet.reads h (n := "unicode/utf8.first") (d:=Rows.laid_unicode_utf8_first) (by simp);have h4:=Lib.laidMet.reads h (n := "unicode/utf8.acceptRanges") (d:=Rows.laid_unicode_utf8_acceptRanges) (by simp);rw[first_is]at h3;rw[accept_is]at h4;obtain⟨g2,t2,cs2,f2,p2,hg2,ht2,hv2,hd2⟩:=Lib.laidMet.reads h (n := "internal/strconv.uint64pow10") (d:=Rows.laid_internal_strconv_uint64pow10) (by simp);obtain rfl:=Option.some.inj ((show Tryz.prog.globalNamed "internal/strconv.uint64pow10" = some 5 by kernel_rfl).symm.trans hg2);obtain rfl:=Option.some.inj ((show(Tryz.prog.globals[5]?).map (·.type)=some 362 by kernel_rfl).symm.trans ht2);refine⟨rfl,rfl,Go.Proofs.utf8Tabs_of_readsT (.of196 Tryz.lays196) extra h3 h4,5,by kernel_rfl,rfl,?_⟩;have:=Lib.cells_of_tab (k:=.u64) (zs:=Lib.pow10Tab) (n:=20) Tryz.underlying362 Tryz.underlying152 (by kernel_rfl) (by kernel_rfl) (show DataW.trod _ _ _ _ _ _ _ _ _=some (Lib.tabData .u64 Lib.pow10Tab,_) from hd2);unfold Lib.TabIs;rw[hv2,←this]
theorem true_out {P:Program}:∀g w us cs v,azX P tb g w [(0,.val 4)] true us cs→RetV [(0,.val 4)] us v→azK P 4=false→v = .bool true:=by
 intro g w us cs v h hr ha;cases us with
 | nil=>cases cs<;>exact h.elim
 | cons u us =>
  cases us with
  | cons _ _=>cases cs<;>exact h.elim
  | nil =>
   cases cs with
   | nil=>exact h.elim
   | cons c cs =>
    cases cs with
    | cons _ _=>exact h.elim
    | nil =>
     have hr:v=u:=hr;subst hr;obtain⟨h1,_⟩:=h;unfold azS at h1;simp only[ha,Bool.false_eq_true,if_false]at h1;obtain⟨c,hc,hrep⟩:=h1;have hc:[CV.bool true]=[c]:=hc;simp only[List.cons.injEq,and_true]at hc;subst hc;cases hrep;rfl
theorem wf_int {k:IntKind}{n:Int}(h:Wf Tryz.prog tb (.int k n)):inR k n:=by cases h;assumption
def rd2:RdTab Tryz.prog tb:=⟨[81,110,84,88],20,fun t ht=>by
 simp only[List.mem_cons,List.not_mem_nil,or_false]at ht;rcases ht with rfl|rfl|rfl|rfl
 ·exact szH (ks:=[.int .i64,.int .i64,.int .i64,.int .i64,.str,.bool,.int .i64,.int .i64,.int .i64,.bool,.bool,.int .i64,.int .i64,.bool,.bool,.int .i64,.int .i64,.sl 81]) (by kernel_rfl) (by kernel_rfl) (fun _ _ _ _ _ _ _ _ _ _ _ _ _ _ _ _ _ _=>rfl)
 ·exact szH (ks:=[.int .i64,.int .i64,.int .i64,.int .i64,.int .i64,.int .i64,.str,.bool,.int .i64]) (by kernel_rfl) rfl (fun _ _ _ _ _ _ _ _ _=>rfl)
 ·exact szH (ks:=[.int .i64,.sl 110,.sl 81]) (by kernel_rfl) (by kernel_rfl) (fun _ _ _=>rfl)
 ·exact szH (ks:=[.int .i64,.int .i64,.int .i64]) (by kernel_rfl) rfl (fun _ _ _=>rfl)⟩
theorem readable2:∀t∈[81,84,88],Tryz.prog.readableRec t=true∧t<Tryz.prog.types.size:=by
 intro t ht;simp only[List.mem_cons,List.not_mem_nil,or_false]at ht;rcases ht with rfl|rfl|rfl<;>exact⟨by kernel_rfl,of_decide_eq_true (by kernel_rfl)⟩
def wfE (e:Expr):Prop:=∀c∈tb.enc 81 e,Wf Tryz.prog tb c
theorem wfE_step:∀e,wfE e→I64 e.V.N.M∧∀k∈e.Kids,wfE k:=fun e h=>by
 unfold wfE at h;rw[enc81_eq]at h;have h1:=wf_int (h (.int .i64 e.V.N.M) (by simp));have h2:=h (.sl 81 e.Kids) (by simp);refine⟨by simpa[Ev.inR,lo,hi,I64]using h1,fun k hk=>?_⟩;cases h2 with
 | sl e xs _ hx=>exact hx k hk
theorem wf_slots {v:Env}(h:∀c∈tb.enc 84 v,Wf Tryz.prog tb c):∀s∈v.Slots,I64 s.V.N.M:=by
 rw[enc84_eq]at h;have h2:=h (.sl 110 v.Slots) (by simp);cases h2 with
 | sl e xs _ hx =>
  intro s hs;have h3:=hx s hs;rw[enc110_eq]at h3;have:=wf_int (h3 (.int .i64 s.V.N.M) (by simp));simpa[Ev.inR,lo,hi,I64]using this
end Go.Proofs.YtdgpkbnnljblmaaGreatDoor
/- DV -/
namespace Go.Proofs.YtdgpkbnnljblmaaGreatDoor
open Go Go.Ev Go.ChangeShapes Go.WideShapes Go.RowKit
theorem pzQ:yzY Tryz.prog tb mzs:=fun x hx=>by
 obtain⟨e,v,p⟩:=x;exact⟨true,xzQ (W:=wfE) hx.1 wfE_step (wf_slots hx.2.1),fun g w us cs v h hr=>true_out g w us cs v h hr notAgg4⟩
set_option maxRecDepth 100000 in
theorem ozc (os:Os)(started:os.Started)(H:Type)(enc:TypeId×Value→H):
 ReturnsInHanded {} Tryz.checked os 12 .any (fun w args=>(Rows.evalMovesSpec.pre enc Tryz.prog Tryz.f12 [] false w args∧laidMetH Tryz.prog laidL w)∧sizedMet enc Tryz.prog Tryz.f12 (OpenSpec.ofChange Rows.evalMovesSpec) false w args)
  (Rows.evalMovesSpec.post enc Tryz.prog Tryz.f12 false true false false):=by
 refine returnsInHanded_of_change_and (C:=Tryz.checked) (X:=fun w _=>laidMetH Tryz.prog laidL w) (fun _ _ _ hh h=>h.of_heap hh) own started (by kernel_rfl) Tryz.func12
  (ChangeSpec.witness_shaped (enc:=enc) (C:=Tryz.checked) (os:=os) (X:=fun w _=>laidMetH Tryz.prog laidL w) false (World.laidAll Tryz.prog os laidL) #[.agg #[.int .i64 0,.int .i64 0,.int .i64 0,.int .i64 0,.string ByteArray.empty,.bool false,.int .i64 0,.int .i64 0,.int .i64 0,.bool false,.bool false,.int .i64 0,.int .i64 0,.bool false,.bool false,.int .i64 0,.int .i64 0,.slice none 0 0],.agg #[.int .i64 0,.slice none 0 0,.slice none 0 0],.agg #[.int .i64 0,.int .i64 0,.int .i64 0]] 8 (World.laidAll_os _ _ _) (World.shaped_of_ZipB (by kernel_rfl) (by kernel_rfl)) (by kernel_rfl) (by kernel_rfl) (by kernel_rfl) (by rw[MakeChecks.laidMetH_plain _ _ _ (by kernel_rfl)];exact laidMet_laidAll _ (by kernel_rfl) (by kernel_rfl))) ?_
 intro W base args ds gs before hval hW _ hz hL _;exact law_calls (P:=Tryz.prog) (tb:=tb) rd2 (ts:=[81,84,88]) (rb:=4) ozT pzQ (by rw[Tryz.params12]) rfl (fun t ht=>by revert t;decide) rfl Tryz.underlying4 rfl (fun ds h=>by
  match ds,h with
  | [d0,d1,d2],_=>rfl) laidOut (fun t ht=>readable2 t (by revert t;decide)) hval hW hz (inv_of hL)
theorem rzR:(Rows.evalMovesRow.inPlace == Tryz.prog.inPlace 12)=true:=by kernel_rfl
theorem qzW:(Rows.evalMovesRow.unfollowed == Tryz.prog.unfollowed 12)=true:=by kernel_rfl
theorem qzX:(Rows.evalMovesRow.recurses == Tryz.prog.recurses 12)=true:=by kernel_rfl
theorem qzY:(Rows.evalMovesRow.named == Tryz.prog.varsNamed 12)=true:=by kernel_rfl
theorem nz9:joinedFacts Tryz.pinned.checked.prog 12 Tryz.f12 Rows.evalMovesSpec Rows.evalMovesRow=true :=
 and2 (and2 (and2 (and2 (and2 (and2 (and2 (and2 (and2 (and2 (and2 (and2 (and2 (and2 (and2 (and2 (and2 (and2 (and2 (and2 (and2 (and2 (and2 (and2 (and2 (and2 (and2 (and2 (and2 (and2 (and2 (by kernel_rfl) laidOut) DzG) (by kernel_rfl)) (by kernel_rfl)) (by kernel_rfl)) (by kernel_rfl)) (by kernel_rfl)) (by kernel_rfl)) rzR) qzW) qzX) qzY) (by kernel_rfl)) (by kernel_rfl)) (by kernel_rfl)) (by kernel_rfl)) (by kernel_rfl)) (by kernel_rfl)) (by kernel_rfl)) (by kernel_rfl)) (by kernel_rfl)) DzO) (by kernel_rfl)) CzS) may_enter) lifts_is) make_is) (by kernel_rfl)) (by kernel_rfl)) (by kernel_rfl)) (by kernel_rfl)
theorem law15_EvalMoves_holds:Rows.EvalMovesSaid :=
 OpenClaim.holds_of_wide 12 Tryz.f12 rfl rfl rfl rfl rfl rfl rfl ⟨rfl,rfl,rfl,rfl,rfl⟩ rfl rfl rfl rfl rfl (by kernel_rfl) Tryz.func12 nz9
  (of_decide_eq_true (by kernel_rfl)) (by unfold Func.isWrapper;first|(rw[if_pos (by decide +kernel)];kernel_rfl)|(rw[if_neg (by decide +kernel)];exact⟨rfl,rfl⟩))
  (fun os started H enc _=>ozc os started H enc)
theorem pzP:false=Rows.evalMovesRow.goesBy Tryz.pinned.checked.prog:=by kernel_rfl
theorem law15_EvalMoves_card:Rows.EvalMovesCardSaid :=
 Claim7.holds_tied_plain_at .later [] [.data,.data,.data,.data,.pinned] true (true, "77b88d5647d88579fe249790164f29ba538a169e38f55a49c9c0a729a43cbb40") false
  law15_EvalMoves_holds (fun _ h=>by cases h) (by kernel_rfl) (fun _ h=>by cases h) evalMoves_row_tie rfl ⟨rfl,rfl⟩ main_is rfl
  (fun f fn hf hfn=>by
   obtain rfl:f=12:=Option.some.inj ((show Tryz.prog.funcNamed "cashbook/cashbooklaw15.EvalMoves" = some 12 by kernel_rfl).symm.trans hf) |>.symm;obtain rfl:fn=Tryz.f12:=(Option.some.inj (Tryz.func12.symm.trans hfn)).symm;exact⟨looks_is,fun j t ht=>by
    rw[Tryz.params12]at ht;have hm:t∈[81,84,88]:=by simpa using Array.mem_of_getElem? ht
    have hall:([81,84,88].all fun u=>!Tryz.prog.wantsStandIn u)=true:=by kernel_rfl
    exact(show Tryz.prog.wantsStandIn t=false by simpa using List.all_eq_true.1 hall t hm)⟩)
  pzP
end Go.Proofs.YtdgpkbnnljblmaaGreatDoor