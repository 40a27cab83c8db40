import Derived.Test.YtdgpkbnnljblmaaGreatDoorQG
import Derived.Test.YtdgpkbnnljblmaaGreatDoorY1
import Derived.Test.YtdgpkbnnljblmaaGreatDoorU3
import Derived.Test.YtdgpkbnnljblmaaGreatDoorTie
import Derived.Stop.Joined
import Derived.Lib.LaidU8T
import Derived.Lay
import Derived.Test.YtdgpkbnnljblmaaGreatDoorCards
/- E0 -/
namespace Go.Proofs.YtdgpkbnnljblmaaGreatDoor
open Go Go.Ev
set_option linter.unusedVariables false
noncomputable section
def jzg (x:Unit):Option (Bool) :=
  obnd (izf ()) fun y =>
    obnd (pzM (0,0,5)) fun y_1 =>
      obnd (nz7 (0,2,0)) fun y_2 =>
        obnd (tzX (0,[azy y_2])) fun y_3 =>
          obnd (nz7 (0,2,0)) fun y_4 =>
            obnd (hzG 10) fun y_5 =>
              obnd (wzR (3,azy y_4,azy y_5)) fun y_6 =>
                obnd (kzD (azy y_6,y,y_1,3,1)) fun y_7 =>
                  obnd (kzD (azy y_3,y,y_1,2,1)) fun y_8 =>
                    brn (!decide ((↑(List.length y_7):Int)=3)) (some false)
                      (brn (!decide ((↑(List.length y_8):Int)=2)) (some false)
                        (obnd (bzR (azy y_3,y,y_1)) fun y_9 =>
                          obnd (hzH 6) fun y_10 =>
                            brn
                              (bif false then
                                !(decide (y_9.Kind = y_10.Kind) &&
                                    (decide (y_9.N.M=y_10.N.M) &&
                                      (decide (y_9.N.S=y_10.N.S)&&(decide (y_9.S=y_10.S)&&(decide (y_9.B=y_10.B)&&decide (y_9.E=y_10.E))))))
                              else
                                decide (y_9.Kind=y_10.Kind) &&
                                  (decide (y_9.N.M=y_10.N.M)&&(decide (y_9.N.S=y_10.N.S)&&(decide (y_9.S=y_10.S)&&(decide (y_9.B=y_10.B)&&decide (y_9.E=y_10.E))))))
                              (obnd (bzR (azy y_6,y,y_1)) fun y_11 =>
                                obnd (azn 15) fun y_12 =>
                                  brn
                                    (bif false then
                                      !(decide (y_11.Kind = y_12.Kind) &&
                                          (decide (y_11.N.M=y_12.N.M) &&
                                            (decide (y_11.N.S=y_12.N.S)&&(decide (y_11.S=y_12.S)&&(decide (y_11.B=y_12.B)&&decide (y_11.E=y_12.E))))))
                                    else
                                      decide (y_11.Kind=y_12.Kind) &&
                                        (decide (y_11.N.M=y_12.N.M) &&
                                          (decide (y_11.N.S=y_12.N.S)&&(decide (y_11.S=y_12.S)&&(decide (y_11.B=y_12.B)&&decide (y_11.E=y_12.E))))))
                                    (obnd (zze (7,7)) fun y_13 =>
                                      obnd (bzR (azy y_13,y,y_1)) fun y_14 =>
                                        obnd (hzH 0) fun y_15 =>
                                          brn
                                            (bif false then
                                              !(decide (y_14.Kind = y_15.Kind) &&
                                                  (decide (y_14.N.M=y_15.N.M) &&
                                                    (decide (y_14.N.S=y_15.N.S)&&(decide (y_14.S=y_15.S)&&(decide (y_14.B=y_15.B)&&decide (y_14.E=y_15.E))))))
                                            else
                                              decide (y_14.Kind=y_15.Kind) &&
                                                (decide (y_14.N.M=y_15.N.M) &&
                                                  (decide (y_14.N.S=y_15.N.S)&&(decide (y_14.S=y_15.S)&&(decide (y_14.B=y_15.B)&&decide (y_14.E=y_15.E))))))
                                            (obnd
                                              (bzR
                                                ({ Kind := 6, V := { Kind := 0, N := { M := 0, S := 0 }, S := [], B := false, E := 0 },
                                                    A :=
                                                      { A := { Row := 0, Col := 0, RelRow := false, RelCol := false },
                                                        B := { Row := 0, Col := 0, RelRow := false, RelCol := false } },
                                                    Sheet := 0, Op := 0, Kids := [] },
                                                  y,y_1))
                                              fun y_16 =>
                                              obnd (azn 29) fun y_17 =>
                                                brn
                                                  (bif false then
                                                    !(decide (y_16.Kind = y_17.Kind) &&
                                                        (decide (y_16.N.M=y_17.N.M) &&
                                                          (decide (y_16.N.S=y_17.N.S)&&(decide (y_16.S=y_17.S)&&(decide (y_16.B=y_17.B)&&decide (y_16.E=y_17.E))))))
                                                  else
                                                    decide (y_16.Kind=y_17.Kind) &&
                                                      (decide (y_16.N.M=y_17.N.M) &&
                                                        (decide (y_16.N.S=y_17.N.S)&&(decide (y_16.S=y_17.S)&&(decide (y_16.B=y_17.B)&&decide (y_16.E=y_17.E))))))
                                                  (obnd (idx y_7 2) fun y_18 =>
                                                    obnd (hzH 30) fun y_19 =>
                                                      brn
                                                        (bif false then
                                                          !(decide (y_18.Kind = y_19.Kind) &&
                                                              (decide (y_18.N.M=y_19.N.M) &&
                                                                (decide (y_18.N.S=y_19.N.S) &&
                                                                  (decide (y_18.S=y_19.S)&&(decide (y_18.B=y_19.B)&&decide (y_18.E=y_19.E))))))
                                                        else
                                                          decide (y_18.Kind=y_19.Kind) &&
                                                            (decide (y_18.N.M=y_19.N.M) &&
                                                              (decide (y_18.N.S=y_19.N.S)&&(decide (y_18.S=y_19.S)&&(decide (y_18.B=y_19.B)&&decide (y_18.E=y_19.E))))))
                                                        (obnd (idx y_8 0) fun y_20 =>
                                                          obnd (hzH 6) fun y_21 =>
                                                            brn
                                                              (bif false then
                                                                !(decide (y_20.Kind = y_21.Kind) &&
                                                                    (decide (y_20.N.M=y_21.N.M) &&
                                                                      (decide (y_20.N.S=y_21.N.S) &&
                                                                        (decide (y_20.S=y_21.S)&&(decide (y_20.B=y_21.B)&&decide (y_20.E=y_21.E))))))
                                                              else
                                                                decide (y_20.Kind=y_21.Kind) &&
                                                                  (decide (y_20.N.M=y_21.N.M) &&
                                                                    (decide (y_20.N.S=y_21.N.S) &&
                                                                      (decide (y_20.S=y_21.S)&&(decide (y_20.B=y_21.B)&&decide (y_20.E=y_21.E))))))
                                                              (obnd (idx y_8 1) fun y_22 =>
                                                                obnd (hzH 6) fun y_23 =>
                                                                  brn
                                                                    (bif false then
                                                                      !(decide (y_22.Kind = y_23.Kind) &&
                                                                          (decide (y_22.N.M=y_23.N.M) &&
                                                                            (decide (y_22.N.S=y_23.N.S) &&
                                                                              (decide (y_22.S=y_23.S)&&(decide (y_22.B=y_23.B)&&decide (y_22.E=y_23.E))))))
                                                                    else
                                                                      decide (y_22.Kind=y_23.Kind) &&
                                                                        (decide (y_22.N.M=y_23.N.M) &&
                                                                          (decide (y_22.N.S=y_23.N.S) &&
                                                                            (decide (y_22.S=y_23.S)&&(decide (y_22.B=y_23.B)&&decide (y_22.E=y_23.E))))))
                                                                    (obnd (kzD (azy y_6,y,y_1,0,1)) fun y_24 =>
                                                                      brn (decide ((↑(List.length y_24):Int)=0))
                                                                        (obnd
                                                                          (bzR
                                                                            ({ Kind := 4, V := { Kind := 0, N := { M := 0, S := 0 }, S := [], B := false, E := 0 },
                                                                                A :=
                                                                                  { A := { Row := 0, Col := 0, RelRow := false, RelCol := false },
                                                                                    B := { Row := 0, Col := 0, RelRow := false, RelCol := false } },
                                                                                Sheet := 2, Op := 0, Kids := [] },
                                                                              y,y_1))
                                                                          fun y =>
                                                                          obnd (azn 23) fun y_25 =>
                                                                            some
                                                                              (match decide (y.Kind=y_25.Kind)with
                                                                              | false=>false
                                                                              | true =>
                                                                                decide (y.N.M=y_25.N.M) &&
                                                                                  (decide (y.N.S=y_25.N.S) &&
                                                                                    (decide (y.S=y_25.S)&&(decide (y.B=y_25.B)&&decide (y.E=y_25.E))))))
                                                                        (some false))
                                                                    (some false))
                                                              (some false))
                                                        (some false))
                                                  (some false))
                                            (some false))
                                    (some false))
                              (some false)))
def rzR:FSpec tb:=⟨[],[(0,.val 4)],jzg⟩
theorem sz7:azd Tryz.prog tb 42 rzR:=azo mixed Tryz.func42 (by kernel_rfl) (.cons rzQ (.cons qzD (.cons uz8 (.cons uz7 (.cons nzm (.cons wzS (.cons uzE (.cons mz9 (.cons mzs (.cons azH (.cons yzu .nil))))))))))) rfl (fun x=>by kernel_rfl)
end
set_option linter.unusedVariables false
noncomputable section
abbrev vzc:List (Nat×FSpec tb):=[(42,rzR),(43,wz4),(49,kzI),(46,zzf),(45,rzJ),(44,wzn),(55,wzU),(32,dzf)]
theorem jzQ:azu Tryz.prog tb (vzc):=(.cons sz7 (.cons wz5 (.cons izB (.cons yzA (.cons ozN (.cons mz9 (.cons nzm (.cons azH .nil))))))))
def dza (back:List Expr×Int→Option ((Unit)⊕(Bool)))(x:List Expr×Int):Option ((Unit)⊕(Bool)) :=
 brn (decide (x.snd<(↑x.fst.length:Int))) (obnd (idx x.fst x.snd) fun y=>brn (decide (y.Kind=6)) (some (Sum.inr true)) (back (x.fst,IntKind.i64.wrap (x.snd+1))))
  (some (Sum.inl PUnit.unit))
def gzM:List Expr×Int→Option ((Unit)⊕(Bool)):=iter dza big
def jzR:CutSpec tb:=⟨76,[(7,.val 79),(8,.val 3)],[((.exit 0),[]),(.ret,[(6,.val 4)])],[23,24,25,26,29,30,31,32,33,34,6,27,28,8],gzM⟩
theorem ozP:azi ([]:List (CutSpec tb)) (azf 76 Tryz.f14)=[]:=by kernel_rfl
theorem nz9:azm Tryz.prog tb Tryz.f14.ntmps (.loop (azf 76 Tryz.f14)) (jzR):=azz mixed (by kernel_rfl) jzQ rfl ozP .nil dza (fun back x=>by kernel_rfl) rfl
def izw (x:Expr×Env×Place):Option (Bool) :=
  obnd (jzg ()) fun y =>
    brn (!y) (some false)
      (obnd (lzM (azy x.fst,{Sheets:=x.2.fst.Sheets,Slots:=x.2.fst.Slots,Names:=[]})) fun y =>
        brn (!y) (some true)
          (obnd (hz0 (azy x.fst)) fun y =>
            obnd (gzM (y,0)) fun y =>
              osum y
                (fun y =>
                  obnd (nzp {Sheets:=x.2.fst.Sheets,Slots:=x.2.fst.Slots,Names:=[]}) fun y =>
                    obnd (kzY (azy x.fst)) fun y_1 =>
                      obnd (bzR (azy y_1,y,x.2.snd)) fun y_2 =>
                        obnd (hzG 3) fun y_3 =>
                          obnd (kzY (azy x.fst)) fun y_4 =>
                            obnd
                              (bzR
                                ({ Kind := 6, V := { Kind := 0, N := { M := 0, S := 0 }, S := [], B := false, E := 0 },
                                    A:={A:={Row:=0,Col:=0,RelRow:=false,RelCol:=false},B:={Row:=0,Col:=0,RelRow:=false,RelCol:=false}},Sheet:=0,
                                    Op := 1, Kids := [] },
                                  {Sheets:=y.Sheets,Slots:=y.Slots,Names:=[azy y_3,azy y_4]},x.2.snd))
                              fun y_5 =>
                              brn
                                (bif false then
                                  !(decide (y_5.Kind = y_2.Kind) &&
                                      (decide (y_5.N.M=y_2.N.M)&&(decide (y_5.N.S=y_2.N.S)&&(decide (y_5.S=y_2.S)&&(decide (y_5.B=y_2.B)&&decide (y_5.E=y_2.E))))))
                                else
                                  decide (y_5.Kind=y_2.Kind) &&
                                    (decide (y_5.N.M=y_2.N.M)&&(decide (y_5.N.S=y_2.N.S)&&(decide (y_5.S=y_2.S)&&(decide (y_5.B=y_2.B)&&decide (y_5.E=y_2.E))))))
                                (obnd
                                  (bzR
                                    ({ Kind := 10, V := { Kind := 0, N := { M := 0, S := 0 }, S := [], B := false, E := 0 },
                                        A:={A:={Row:=0,Col:=0,RelRow:=false,RelCol:=false},B:={Row:=0,Col:=0,RelRow:=false,RelCol:=false}},
                                        Sheet:=0,Op:=0,
                                        Kids :=
                                          [{ Kind := 6, V := { Kind := 0, N := { M := 0, S := 0 }, S := [], B := false, E := 0 },
                                              A:={A:={Row:=0,Col:=0,RelRow:=false,RelCol:=false},B:={Row:=0,Col:=0,RelRow:=false,RelCol:=false}},
                                              Sheet := 0, Op := 1, Kids := [] }] },
                                      {Sheets:=y.Sheets,Slots:=y.Slots,Names:=[azy y_3,azy y_4]},x.2.snd))
                                  fun y_6 =>
                                  brn
                                    (bif false then
                                      !(decide (y_6.Kind = y_2.Kind) &&
                                          (decide (y_6.N.M=y_2.N.M) &&
                                            (decide (y_6.N.S=y_2.N.S)&&(decide (y_6.S=y_2.S)&&(decide (y_6.B=y_2.B)&&decide (y_6.E=y_2.E))))))
                                    else
                                      decide (y_6.Kind=y_2.Kind) &&
                                        (decide (y_6.N.M=y_2.N.M) &&
                                          (decide (y_6.N.S=y_2.N.S)&&(decide (y_6.S=y_2.S)&&(decide (y_6.B=y_2.B)&&decide (y_6.E=y_2.E))))))
                                    (obnd
                                      (bzR
                                        ({ Kind := 6, V := { Kind := 0, N := { M := 0, S := 0 }, S := [], B := false, E := 0 },
                                            A:={A:={Row:=0,Col:=0,RelRow:=false,RelCol:=false},B:={Row:=0,Col:=0,RelRow:=false,RelCol:=false}},
                                            Sheet := 0, Op := 2, Kids := [] },
                                          {Sheets:=y.Sheets,Slots:=y.Slots,Names:=[azy y_3,azy y_4]},x.2.snd))
                                      fun y =>
                                      obnd (azn 29) fun y_7 =>
                                        some
                                          (match decide (y.Kind=y_7.Kind)with
                                          | false=>false
                                          | true =>
                                            decide (y.N.M=y_7.N.M)&&(decide (y.N.S=y_7.N.S)&&(decide (y.S=y_7.S)&&(decide (y.B=y_7.B)&&decide (y.E=y_7.E))))))
                                    (some false))
                                (some false))
                fun y=>some y))
def mzo:FSpec tb:=⟨[(0,.val 81),(1,.val 84),(2,.val 88)],[(0,.val 4)],izw⟩
theorem rzN:azi ([jzR]:List (CutSpec tb)) (azA Tryz.f14)=[(76,.loop (azf 76 Tryz.f14))]:=by kernel_rfl
theorem ozQ:azd Tryz.prog tb 14 mzo:=azM mixed Tryz.func14 (by kernel_rfl) jzQ rfl rzN (.cons rfl nz9 rfl .nil) (fun x=>by kernel_rfl)
end
set_option linter.unusedVariables false
noncomputable section
end
end Go.Proofs.YtdgpkbnnljblmaaGreatDoor
/- PD -/
namespace Go.Proofs.YtdgpkbnnljblmaaGreatDoor
open Go Go.Ev Go.Lib
def colE:Env:=⟨2,[⟨⟨0,⟨0,0⟩⟩,vN ⟨1,0⟩⟩,⟨⟨0,⟨1,0⟩⟩,vN ⟨2,0⟩⟩,⟨⟨0,⟨2,0⟩⟩,vN ⟨3,0⟩⟩],[]⟩
theorem column_is:izf ()=some colE:=by
 have this:izx (⟨2,[],[]⟩,((0:Nat):Int))=some ((fun e:Env=>((),e)) _):=azW (F:=ezf) (fun(e:Env) (i:Nat)=>(e,(i:Int))) (fun e=>((),e)) [0,1,2] (fun(e:Env) (i:Nat)=>.inl {e with Slots:=e.Slots++[⟨⟨0,⟨(i:Int),0⟩⟩,vN ⟨(i:Int)+1,0⟩⟩]}) id
  (fun e i=>e.Slots.length≤i∧∀s∈e.Slots,s.P.Sheet=0∧s.P.At.Row<(i:Int)) (by simp)
  (fun back e i hi hp=>by
   have hi':i<3:=by simpa using hi
   have hg:([0,1,2]:List Nat)[i]=i:=by
    match i,hi' with
    | 0,_=>rfl
    | 1,_=>rfl
    | 2,_=>rfl
   unfold ezf;simp only;rw[dT0 (by omega),azc,show pzM (0,(i:Int),0)=some ⟨0,⟨(i:Int),0⟩⟩ from rfl,aza,wr1 (by omega),show hzH ((i+1:Nat):Int)=some (vN ⟨((i+1:Nat):Int),0⟩) from rfl,aza,
    put_end (by omega) (fun s hs=>by
     obtain⟨h1,h2⟩:=hp.2 s hs;unfold ltP;simp[h1,h2]) (show(1:Int)≠0 by decide),aza,hg]
   simp[kzz])
  (fun e i hi e' hp h=>by
   have hi':i<3:=by simpa using hi
   have hg:([0,1,2]:List Nat)[i]=i:=by
    match i,hi' with
    | 0,_=>rfl
    | 1,_=>rfl
    | 2,_=>rfl
   rw[hg]at h;cases h;refine⟨by simp only[List.length_append,List.length_singleton];omega,fun s hs=>?_⟩;rcases List.mem_append.1 hs with hs|hs
   ·obtain⟨h1,h2⟩:=hp.2 s hs;exact⟨h1,by omega⟩
   ·rw[List.mem_singleton]at hs;subst hs;exact⟨rfl,by simp only;omega⟩)
  (fun back e _=>by
   unfold ezf;simp only;rw[dF0 (by simp),azb];rfl) ⟨2,[],[]⟩ ⟨by simp,by simp⟩
 unfold izf;rw[show(0:Int)=((0:Nat):Int) from rfl,this];rfl
theorem Dzt:jzg ()=some true:=by
 unfold jzg;rw[column_is,aza];kernel_rfl
theorem to_tot:∀(d N:Nat) (e:Expr),d<N→sz d e≤1000→tr d e→iter izJ N e=some e
 | _,0,_,h,_,_=>absurd h (by omega)
 | 0,_,_,_,_,h=>h.elim
 | d+1,N+1,e,hN,hs,ht=>by
  have hl:=lenK hs;have hk:∀k∈e.Kids,iter izJ N k=some k:=fun k hk=>to_tot d N k (by omega) (szK hs hk) (pze ht hk)
  rw[azG];generalize iter izJ N=S at hk;have this:=azW (F:=hza S) (fun(s:List Expr) (i:Nat)=>(s,e,(⟨e.Kind,e.V,e.A,e.Sheet,e.Op,s⟩:Expr),(i:Int))) (fun s:List Expr=>(s,(⟨e.Kind,e.V,e.A,e.Sheet,e.Op,s⟩:Expr))) e.Kids (fun(s:List Expr) k=>(.inl (s++[k]):List Expr⊕List Expr)) id (fun s i=>s.length=i) (by omega)
   (fun back s i hi hp=>by
    unfold hza;simp only[az1];rw[ltT hi,azc,idxG hi,aza,hk _ (List.getElem_mem hi),aza,appN (by simp only[List.length_singleton];omega),aza,wr1 (by omega)];rfl)
   (fun s i hi s' hp h=>by cases h;simp[hp])
   (fun back s _=>by
    unfold hza;simp only;rw[ltF,azb];rfl) [] rfl
  rw[czd]at this;have hf:∀(m s:List Expr),m.foldl (fun s c=>s++[c]) s=s++m:=by
   intro m;induction m with
   | nil=>intro s;simp
   | cons v m ih=>intro s;rw[List.foldl_cons,ih];simp
  rw[id,hf,List.nil_append]at this;unfold izJ;simp only[az1];rw[show mzt e.V=some e.V from rfl,show mzr e.A=some e.A from rfl,aza,aza,show mzm S ([],e,⟨e.Kind,e.V,e.A,e.Sheet,e.Op,[]⟩,0)=_ from this,aza];cases e;rfl
theorem toE {e:Expr}(hs:sz 40 e≤1000)(ht:tr 40 e):kzY e=some e:=to_tot 40 big e (by rw[bz0];omega) hs ht
theorem toAll {l:List Expr}(hl:l.length≤1000)(h:∀i (h:i<l.length),sz 40 l[i]≤200∧tr 40 l[i]):jze l=some l:=by
 have this:=azW (F:=ezW) (fun(s:List Expr) (i:Nat)=>(l,s,(i:Int))) id l (fun(s:List Expr) k=>(.inl (s++[k]):List Expr⊕List Expr)) id (fun s i=>s.length=i) (by omega)
  (fun back s i hi hp=>by
   obtain⟨a1,a2⟩:=h i hi;unfold ezW;simp only[az1];rw[ltT hi,azc,idxG hi,aza,toE (by omega) a2,aza,appN (by simp only[List.length_singleton];omega),aza,wr1 (by omega)];rfl)
  (fun s i hi s' hp h=>by cases h;simp[hp])
  (fun back s _=>by
   unfold ezW;simp only;rw[ltF,azb];rfl) [] rfl
 rw[czd]at this;have hf:∀(m s:List Expr),m.foldl (fun s c=>s++[c]) s=s++m:=by
  intro m;induction m with
  | nil=>intro s;simp
  | cons v m ih=>intro s;rw[List.foldl_cons,ih];simp
 rw[id,id,hf,List.nil_append]at this;unfold jze;rw[show jzf (l,[],0)=_ from this];rfl
theorem toV {v:Env}(hl:v.Slots.length≤1000)(hn:v.Names.length≤1000)(h:∀i (h:i<v.Names.length),sz 40 v.Names[i]≤200∧tr 40 v.Names[i]):nzp v=some v:=by
 have this:=azW (F:=hzb) (fun(s:List Slot) (i:Nat)=>(s,v,(⟨v.Sheets,s,v.Names⟩:Env),(i:Int))) (fun s:List Slot=>(s,(⟨v.Sheets,s,v.Names⟩:Env))) v.Slots (fun(s:List Slot) k=>(.inl (s++[k]):List Slot⊕List Slot)) id (fun s i=>s.length=i) (by omega)
  (fun back s i hi hp=>by
   unfold hzb;simp only;rw[ltT hi,azc,idxG hi,aza,show kzb v.Slots[i].P=some v.Slots[i].P from rfl,aza,aza,show mzt v.Slots[i].V=some v.Slots[i].V from rfl,aza,appN (by simp only[List.length_singleton];omega),aza,wr1 (by omega)];rfl)
  (fun s i hi s' hp h=>by cases h;simp[hp])
  (fun back s _=>by
   unfold hzb;simp only;rw[ltF,azb];rfl) [] rfl
 rw[czd]at this;have hf:∀(m s:List Slot),m.foldl (fun s c=>s++[c]) s=s++m:=by
  intro m;induction m with
  | nil=>intro s;simp
  | cons v m ih=>intro s;rw[List.foldl_cons,ih];simp
 rw[id,hf,List.nil_append]at this;unfold nzp;rw[toAll hn h,aza,show mzn ([],v,⟨v.Sheets,[],v.Names⟩,0)=_ from this];rfl
theorem lv_mono {P Q:Expr→Prop}(h:∀e,2≤e.Kind→e.Kind≤6→P e→Q e):∀(d:Nat) (e:Expr),lv P d e→lv Q d e
 | 0,_,h=>h.elim
 | d+1,e,hp=>by
  unfold lv at hp ⊢;by_cases c:2≤e.Kind∧e.Kind≤6
  ·rw[if_pos c]at hp ⊢;exact h e c.1 c.2 hp
  ·rw[if_neg c]at hp ⊢;exact fun k hk=>lv_mono h d k (hp k hk)
theorem uzg {X Y:Type}(F:(X→Option Y)→X→Option Y)(x:X):iter F big x=F (iter F 9223372036854775807) x:=by rw[bz0];exact azG F 9223372036854775807 x
theorem big_step2 {X Y:Type}(F:(X→Option Y)→X→Option Y)(x:X):iter F 9223372036854775807 x=F (iter F 9223372036854775806) x:=by
 rw[show(9223372036854775807:Nat)=9223372036854775806+1 from rfl];exact azG F 9223372036854775806 x
def nmE (k:Int):Expr:=⟨6,v0,⟨⟨0,0,false,false⟩,⟨0,0,false,false⟩⟩,0,k,[]⟩
theorem name_in {S:Worker×Expr×Bool→Option Arg}{w:Worker}{wh:Bool}{k:Nat}(h:k<w.v.Names.length){a:Arg}(ha:S (w,w.v.Names[k],wh)=some a):azL S (w,nmE (k:Int),wh)=some a:=by
 unfold azL;simp only[az1];rw[show(nmE (k:Int)).Kind=6 from rfl,show(nmE (k:Int)).Op=(k:Int) from rfl];rw[show decide ((6:Int)=1)=false from rfl,show decide ((6:Int)=2)=false from rfl,show decide ((6:Int)=4)=false from rfl,show decide ((6:Int)=3)=false from rfl,show decide ((6:Int)=5)=false from rfl,show decide ((6:Int)=6)=true from rfl];simp only[azb,azc];rw[dF0 (by omega),azb,dF0 (by omega),azb,idxG h,aza,ha];rfl
theorem name_out {S:Worker×Expr×Bool→Option Arg}{w:Worker}{wh:Bool}{k:Nat}(h:w.v.Names.length≤k):azL S (w,nmE (k:Int),wh)=some ⟨false,[vE 29]⟩:=by
 unfold azL;simp only[az1];rw[show(nmE (k:Int)).Kind=6 from rfl,show(nmE (k:Int)).Op=(k:Int) from rfl];rw[show decide ((6:Int)=1)=false from rfl,show decide ((6:Int)=2)=false from rfl,show decide ((6:Int)=4)=false from rfl,show decide ((6:Int)=3)=false from rfl,show decide ((6:Int)=5)=false from rfl,show decide ((6:Int)=6)=true from rfl];simp only[azb,azc];rw[dF0 (by omega),azb,dT0 (by omega)];rfl
theorem paren_is {S:Worker×Expr×Bool→Option Arg}{w:Worker}{wh:Bool}{e x:Expr}{l:List Expr}(hk:e.Kind=10)(he:e.Kids=x::l){a:Arg}(ha:S (w,x,wh)=some a):azL S (w,e,wh)=some a:=by
 unfold azL;simp only[az1];rw[hk,he];rw[show decide ((10:Int)=1)=false from rfl,show decide ((10:Int)=2)=false from rfl,show decide ((10:Int)=4)=false from rfl,show decide ((10:Int)=3)=false from rfl,show decide ((10:Int)=5)=false from rfl,show decide ((10:Int)=6)=false from rfl,show decide ((10:Int)=10)=true from rfl];simp only[azb,azc];rw[idxZ,aza,ha];rfl
theorem uz3 {W:Expr→Prop}(hw:∀e,W e→I64 e.V.N.M∧∀k∈e.Kids,W k):∀(d:Nat) (e:Expr),tr d e→W e→i64T d e
 | 0,_,h,_=>h.elim
 | d+1,e,h,he=>⟨(hw e he).1,fun k hk=>uz3 hw d k (h.2 k hk) ((hw e he).2 k hk)⟩
theorem slots_ok {v:Env}(h:okEnv v)(hm:∀s∈v.Slots,I64 s.V.N.M):∀s∈v.Slots,okU s.V:=by
 intro s hs;obtain⟨i,hi,rfl⟩:=List.mem_iff_getElem.1 hs;obtain⟨_,_,hc,_⟩:=h.slo i hi;obtain⟨c,c1,c2,_⟩:=lz3 (h.txt i hi);rw[hc]at c2;exact okU_of (h.txt i hi) (hm _ hs) (by rw[c1,←c2])
theorem xzO {e:Expr}{v:Env}{p:Place}{W:Expr→Prop}(hW:W e)(hw:∀e,W e→I64 e.V.N.M∧∀k∈e.Kids,W k)(hm:∀s∈v.Slots,I64 s.V.N.M):izw (e,v,p)=some true:=by
 unfold izw;simp only[az1];rw[Dzt,aza];simp only[Bool.not_true,azb];obtain⟨b,hb,hb'⟩:=few_all e ⟨v.Sheets,v.Slots,[]⟩;rw[hb,aza];cases b with
 | false=>rfl
 | true =>
  obtain⟨hs,ht,ho,hv,_⟩:=hb' rfl;simp only[Bool.not_true,azb];obtain⟨l,h1,h2,h3⟩:=refsF (e:=e) (by omega) ht;rw[h1,aza];obtain⟨z,e1,e2⟩:=izn (F:=dza) (fun i=>(l,(i:Int))) l.length (fun i=>∃h:i<l.length,nzt l[i]) (fun z=>z = .inr true) (.inl ()) (by omega)
   (fun back i hi=>by
    unfold dza;simp only;rw[ltT hi,azc,idxG hi,aza,wr1 (by omega)];by_cases c:l[i].Kind=6
    ·rw[dT0 c];exact .inr ⟨_,rfl,rfl⟩
    ·rw[dF0 c];exact .inl ⟨rfl,hi,c⟩)
   (fun back=>by
    unfold dza;simp only;rw[ltF,azb])
  rw[show gzM (l,0)=_ from e1,aza];rcases e2 with rfl|⟨rfl,e2⟩
  ·rfl
  have hn:lv nzt 40 e:=h3 nzt fun x hx=>by
   obtain⟨i,hi,rfl⟩:=List.mem_iff_getElem.1 hx;obtain⟨_,h⟩:=e2 i hi;exact h
  simp only[osum];have hN:=toE (e:=e) (by omega) ht;rw[toV (v:=⟨v.Sheets,v.Slots,[]⟩) (by have:=hv.len;omega) (by simp) (fun i h=>absurd h (by simp)),aza,hN,aza,show hzG 3=some ((hzG 3).getD (nmE 0)) from rfl];simp only[aza];generalize (hzG 3).getD (nmE 0)=n3;have two:Two ⟨⟨v.Sheets,v.Slots,[]⟩,p,0,0,0⟩ ⟨⟨v.Sheets,v.Slots,[n3,e]⟩,p,0,0,0⟩ id (fun _=>True):=⟨rfl,rfl,rfl,rfl,fun sh c _=>get_two (v:=⟨v.Sheets,v.Slots,[]⟩) (v':=⟨v.Sheets,v.Slots,[n3,e]⟩) (p:=⟨sh,c⟩) (p':=⟨sh,c⟩) (by have:=hv.len;simp only at this ⊢;omega) rfl (fun i h h'=>⟨rfl,rfl,rfl⟩) (slots_ok hv hm) rfl⟩;have hlv:lv (leafP ⟨⟨v.Sheets,v.Slots,[]⟩,p,0,0,0⟩ ⟨⟨v.Sheets,v.Slots,[n3,e]⟩,p,0,0,0⟩ id (fun _=>True)) 40 e :=
   lv_mono (fun x _ _ hx=>⟨hx,fun _=>⟨_,at_is _ _,at_is _ _,trivial⟩,fun _=>by
    obtain⟨cs,c1,c2⟩:=cells_ex x.A p.At;exact⟨cs,c1,by rw[List.map_id];exact c1,c2,fun _ _=>trivial⟩⟩) 40 e hn
  obtain⟨a,a1,a2,a3⟩:=xzR two 40 big 9223372036854775807 e false (by rw[bz0];omega) (by omega) (by omega) ht ho (uz3 hw 40 e ht hW) hlv;obtain⟨a',a4,a5,_⟩:=xzR two 40 big 9223372036854775806 e false (by rw[bz0];omega) (by omega) (by omega) ht ho (uz3 hw 40 e ht hW) hlv;obtain rfl:a=a':=Option.some.inj (a1.symm.trans a4);have n1:bzR (nmE 1,⟨v.Sheets,v.Slots,[n3,e]⟩,p)=some (valOf a):=szw (by rw[uzg];exact name_in (k:=1) (by simp) a2) a3;have n2:bzR (⟨10,v0,⟨⟨0,0,false,false⟩,⟨0,0,false,false⟩⟩,0,0,[nmE 1]⟩,⟨v.Sheets,v.Slots,[n3,e]⟩,p)=some (valOf a) :=
   szw (by rw[uzg];exact paren_is (x:=nmE 1) (l:=[]) rfl rfl (by rw[big_step2];exact name_in (k:=1) (by simp) a5)) a3
  have n3':bzR (nmE 2,⟨v.Sheets,v.Slots,[n3,e]⟩,p)=some (vE 29):=szw (a:=⟨false,[vE 29]⟩) (by rw[uzg];exact name_out (k:=2) (by simp)) (gzQ (az7 29));rw[szw a1 a3,aza];unfold nmE v0 at n1 n2 n3';rw[n1,aza];simp only[decide_true,Bool.and_self,cond_false,azc];rw[n2,aza];simp only[decide_true,Bool.and_self,azc];rw[n3',aza];rfl
end Go.Proofs.YtdgpkbnnljblmaaGreatDoor
/- RW -/
namespace Go.Proofs.YtdgpkbnnljblmaaGreatDoor
open Go Go.Ev
theorem own:ownKnob Tryz.prog.godebug=none:=by kernel_rfl
theorem laidOut:laidOutB Tryz.prog=true:=by kernel_rfl
theorem and2 {a b:Bool}(h:a=true)(k:b=true):(a&&b)=true:=by rw[h,k];rfl
theorem main_is:Tryz.pinned.checked.prog.mainIs=some (true, "77b88d5647d88579fe249790164f29ba538a169e38f55a49c9c0a729a43cbb40".toList):=by kernel_rfl
theorem looks_is:false=Tryz.pinned.checked.prog.looks []:=by kernel_rfl
theorem DzB:mapsRowed Tryz.prog=true:=by kernel_rfl
theorem DzJ:(Rows.evalFaultsRow.plainKeys == Tryz.prog.plainKeys)=true:=by kernel_rfl
theorem CzO:Tryz.prog.stopsHeard=true:=by kernel_rfl
theorem may_enter:Tryz.prog.mayEnter=true:=by kernel_rfl
theorem lifts_is:(Rows.evalFaultsRow.lifted == Tryz.prog.liftsFinal)=true:=by kernel_rfl
theorem make_is:(Tryz.prog.make == some Rows.evalFaultsRow.make)=true:=by kernel_rfl
abbrev laidL:List (String×DataW Unit):=[("math/bits.deBruijn32tab",Rows.laid_math_bits_deBruijn32tab),("math/bits.deBruijn64tab",Rows.laid_math_bits_deBruijn64tab),("internal/strconv.uint64pow10",Rows.laid_internal_strconv_uint64pow10),("unicode/utf8.acceptRanges",Rows.laid_unicode_utf8_acceptRanges),("unicode/utf8.first",Rows.laid_unicode_utf8_first)]
theorem extra:Go.Proofs.U8Extra Tryz.prog Tryz.lays196_ren:=⟨by kernel_rfl,by kernel_rfl,by kernel_rfl,by kernel_rfl,by kernel_rfl,by kernel_rfl,by kernel_rfl⟩
theorem first_is:(Rows.laid_unicode_utf8_first:DataW Unit)=Lib.firstData:=by kernel_rfl
theorem accept_is:(Rows.laid_unicode_utf8_acceptRanges:DataW Unit)=Lib.acceptData:=by kernel_rfl
theorem inv_of {W:World}(h:laidMetH Tryz.prog laidL W):tb.inv (fun _=>.con) W:=by
 rw[MakeChecks.laidMetH_plain _ _ _ (by kernel_rfl)]at h;have h3:=Lib.laidMet.reads h (n := "unicode/utf8.first") (d:=Rows.laid_unicode_utf8_first) (by simp);have h4:=Lib.laidMet.reads h (n := "unicode/utf8.acceptRanges") (d:=Rows.laid_unicode_utf8_acceptRanges) (by simp);rw[first_is]at h3;rw[accept_is]at h4;obtain⟨g2,t2,cs2,f2,p2,hg2,ht2,hv2,hd2⟩:=Lib.laidMet.reads h (n := "internal/strconv.uint64pow10") (d:=Rows.laid_internal_strconv_uint64pow10) (by simp);obtain rfl:=Option.some.inj ((show Tryz.prog.globalNamed "internal/strconv.uint64pow10" = some 5 by kernel_rfl).symm.trans hg2);obtain rfl:=Option.some.inj ((show(Tryz.prog.globals[5]?).map (·.type)=some 362 by kernel_rfl).symm.trans ht2);refine⟨rfl,rfl,Go.Proofs.utf8Tabs_of_readsT (.of196 Tryz.lays196) extra h3 h4,5,by kernel_rfl,rfl,?_⟩;have:=Lib.cells_of_tab (k:=.u64) (zs:=Lib.pow10Tab) (n:=20) Tryz.underlying362 Tryz.underlying152 (by kernel_rfl) (by kernel_rfl) (show DataW.trod _ _ _ _ _ _ _ _ _=some (Lib.tabData .u64 Lib.pow10Tab,_) from hd2);unfold Lib.TabIs;rw[hv2,←this]
theorem true_out {P:Program}:∀g w us cs v,azY P tb g w [(0,.val 4)] true us cs→RetV [(0,.val 4)] us v→azK P 4=false→v = .bool true:=by
 intro g w us cs v h hr ha;cases us with
 | nil=>cases cs<;>exact h.elim
 | cons u us =>
  cases us with
  | cons _ _=>cases cs<;>exact h.elim
  | nil =>
   cases cs with
   | nil=>exact h.elim
   | cons c cs =>
    cases cs with
    | cons _ _=>exact h.elim
    | nil =>
     have hr:v=u:=hr;subst hr;obtain⟨h1,_⟩:=h;unfold azS at h1;simp only[ha,Bool.false_eq_true,if_false]at h1;obtain⟨c,hc,hrep⟩:=h1;have hc:[CV.bool true]=[c]:=hc;simp only[List.cons.injEq,and_true]at hc;subst hc;cases hrep;rfl
theorem wf_int {k:IntKind}{n:Int}(h:Wf Tryz.prog tb (.int k n)):inR k n:=by cases h;assumption
def rd2:RdTab Tryz.prog tb:=⟨[81,110,84,88],20,fun t ht=>by
 simp only[List.mem_cons,List.not_mem_nil,or_false]at ht;rcases ht with rfl|rfl|rfl|rfl
 ·exact szE (ks:=[.int .i64,.int .i64,.int .i64,.int .i64,.str,.bool,.int .i64,.int .i64,.int .i64,.bool,.bool,.int .i64,.int .i64,.bool,.bool,.int .i64,.int .i64,.sl 81]) (by kernel_rfl) (by kernel_rfl) (fun _ _ _ _ _ _ _ _ _ _ _ _ _ _ _ _ _ _=>rfl)
 ·exact szE (ks:=[.int .i64,.int .i64,.int .i64,.int .i64,.int .i64,.int .i64,.str,.bool,.int .i64]) (by kernel_rfl) rfl (fun _ _ _ _ _ _ _ _ _=>rfl)
 ·exact szE (ks:=[.int .i64,.sl 110,.sl 81]) (by kernel_rfl) (by kernel_rfl) (fun _ _ _=>rfl)
 ·exact szE (ks:=[.int .i64,.int .i64,.int .i64]) (by kernel_rfl) rfl (fun _ _ _=>rfl)⟩
theorem readable2:∀t∈[81,84,88],Tryz.prog.readableRec t=true∧t<Tryz.prog.types.size:=by
 intro t ht;simp only[List.mem_cons,List.not_mem_nil,or_false]at ht;rcases ht with rfl|rfl|rfl<;>exact⟨by kernel_rfl,of_decide_eq_true (by kernel_rfl)⟩
def wfE (e:Expr):Prop:=∀c∈tb.enc 81 e,Wf Tryz.prog tb c
theorem wfE_step:∀e,wfE e→I64 e.V.N.M∧∀k∈e.Kids,wfE k:=fun e h=>by
 unfold wfE at h;rw[enc81_eq]at h;have h1:=wf_int (h (.int .i64 e.V.N.M) (by simp));have h2:=h (.sl 81 e.Kids) (by simp);refine⟨by simpa[Ev.inR,lo,hi,I64]using h1,fun k hk=>?_⟩;cases h2 with
 | sl e xs _ hx=>exact hx k hk
theorem wf_slots {v:Env}(h:∀c∈tb.enc 84 v,Wf Tryz.prog tb c):∀s∈v.Slots,I64 s.V.N.M:=by
 rw[enc84_eq]at h;have h2:=h (.sl 110 v.Slots) (by simp);cases h2 with
 | sl e xs _ hx =>
  intro s hs;have h3:=hx s hs;rw[enc110_eq]at h3;have:=wf_int (h3 (.int .i64 s.V.N.M) (by simp));simpa[Ev.inR,lo,hi,I64]using this
end Go.Proofs.YtdgpkbnnljblmaaGreatDoor
/- DC -/
namespace Go.Proofs.YtdgpkbnnljblmaaGreatDoor
open Go Go.Ev Go.ChangeShapes Go.WideShapes Go.RowKit
theorem pzO:yzW Tryz.prog tb mzo:=fun x hx=>by
 obtain⟨e,v,p⟩:=x;exact⟨true,xzO (W:=wfE) hx.1 wfE_step (wf_slots hx.2.1),fun g w us cs v h hr=>true_out g w us cs v h hr notAgg4⟩
set_option maxRecDepth 100000 in
theorem oza (os:Os)(started:os.Started)(H:Type)(enc:TypeId×Value→H):
 ReturnsInHanded {} Tryz.checked os 14 .any (fun w args=>(Rows.evalNamesSpec.pre enc Tryz.prog Tryz.f14 [] false w args∧laidMetH Tryz.prog laidL w)∧sizedMet enc Tryz.prog Tryz.f14 (OpenSpec.ofChange Rows.evalNamesSpec) false w args)
  (Rows.evalNamesSpec.post enc Tryz.prog Tryz.f14 false true false false):=by
 refine returnsInHanded_of_change_and (C:=Tryz.checked) (X:=fun w _=>laidMetH Tryz.prog laidL w) (fun _ _ _ hh h=>h.of_heap hh) own started (by kernel_rfl) Tryz.func14
  (ChangeSpec.witness_shaped (enc:=enc) (C:=Tryz.checked) (os:=os) (X:=fun w _=>laidMetH Tryz.prog laidL w) false (World.laidAll Tryz.prog os laidL) #[.agg #[.int .i64 0,.int .i64 0,.int .i64 0,.int .i64 0,.string ByteArray.empty,.bool false,.int .i64 0,.int .i64 0,.int .i64 0,.bool false,.bool false,.int .i64 0,.int .i64 0,.bool false,.bool false,.int .i64 0,.int .i64 0,.slice none 0 0],.agg #[.int .i64 0,.slice none 0 0,.slice none 0 0],.agg #[.int .i64 0,.int .i64 0,.int .i64 0]] 8 (World.laidAll_os _ _ _) (World.shaped_of_ZipB (by kernel_rfl) (by kernel_rfl)) (by kernel_rfl) (by kernel_rfl) (by kernel_rfl) (by rw[MakeChecks.laidMetH_plain _ _ _ (by kernel_rfl)];exact laidMet_laidAll _ (by kernel_rfl) (by kernel_rfl))) ?_
 intro W base args ds gs before hval hW _ hz hL _;exact law_calls (P:=Tryz.prog) (tb:=tb) rd2 (ts:=[81,84,88]) (rb:=4) ozQ pzO (by rw[Tryz.params14]) rfl (fun t ht=>by revert t;decide) rfl Tryz.underlying4 rfl (fun ds h=>by
  match ds,h with
  | [d0,d1,d2],_=>rfl) laidOut (fun t ht=>readable2 t (by revert t;decide)) hval hW hz (inv_of hL)
theorem rzO:(Rows.evalNamesRow.inPlace == Tryz.prog.inPlace 14)=true:=by kernel_rfl
theorem qzU:(Rows.evalNamesRow.unfollowed == Tryz.prog.unfollowed 14)=true:=by kernel_rfl
theorem qzV:(Rows.evalNamesRow.recurses == Tryz.prog.recurses 14)=true:=by kernel_rfl
theorem qzW:(Rows.evalNamesRow.named == Tryz.prog.varsNamed 14)=true:=by kernel_rfl
theorem nz8:joinedFacts Tryz.pinned.checked.prog 14 Tryz.f14 Rows.evalNamesSpec Rows.evalNamesRow=true :=
 and2 (and2 (and2 (and2 (and2 (and2 (and2 (and2 (and2 (and2 (and2 (and2 (and2 (and2 (and2 (and2 (and2 (and2 (and2 (and2 (and2 (and2 (and2 (and2 (and2 (and2 (and2 (and2 (and2 (and2 (and2 (by kernel_rfl) laidOut) DzB) (by kernel_rfl)) (by kernel_rfl)) (by kernel_rfl)) (by kernel_rfl)) (by kernel_rfl)) (by kernel_rfl)) rzO) qzU) qzV) qzW) (by kernel_rfl)) (by kernel_rfl)) (by kernel_rfl)) (by kernel_rfl)) (by kernel_rfl)) (by kernel_rfl)) (by kernel_rfl)) (by kernel_rfl)) (by kernel_rfl)) DzJ) (by kernel_rfl)) CzO) may_enter) lifts_is) make_is) (by kernel_rfl)) (by kernel_rfl)) (by kernel_rfl)) (by kernel_rfl)
theorem law15_EvalNames_holds:Rows.EvalNamesSaid :=
 OpenClaim.holds_of_wide 14 Tryz.f14 rfl rfl rfl rfl rfl rfl rfl ⟨rfl,rfl,rfl,rfl,rfl⟩ rfl rfl rfl rfl rfl (by kernel_rfl) Tryz.func14 nz8
  (of_decide_eq_true (by kernel_rfl)) (by unfold Func.isWrapper;first|(rw[if_pos (by decide +kernel)];kernel_rfl)|(rw[if_neg (by decide +kernel)];exact⟨rfl,rfl⟩))
  (fun os started H enc _=>oza os started H enc)
theorem pzN:false=Rows.evalNamesRow.goesBy Tryz.pinned.checked.prog:=by kernel_rfl
theorem law15_EvalNames_card:Rows.EvalNamesCardSaid :=
 Claim7.holds_tied_plain_at .later [] [.data,.data,.data,.data,.pinned] true (true, "77b88d5647d88579fe249790164f29ba538a169e38f55a49c9c0a729a43cbb40") false
  law15_EvalNames_holds (fun _ h=>by cases h) (by kernel_rfl) (fun _ h=>by cases h) evalNames_row_tie rfl ⟨rfl,rfl⟩ main_is rfl
  (fun f fn hf hfn=>by
   obtain rfl:f=14:=Option.some.inj ((show Tryz.prog.funcNamed "cashbook/cashbooklaw15.EvalNames" = some 14 by kernel_rfl).symm.trans hf) |>.symm;obtain rfl:fn=Tryz.f14:=(Option.some.inj (Tryz.func14.symm.trans hfn)).symm;exact⟨looks_is,fun j t ht=>by
    rw[Tryz.params14]at ht;have hm:t∈[81,84,88]:=by simpa using Array.mem_of_getElem? ht
    have hall:([81,84,88].all fun u=>!Tryz.prog.wantsStandIn u)=true:=by kernel_rfl
    exact(show Tryz.prog.wantsStandIn t=false by simpa using List.all_eq_true.1 hall t hm)⟩)
  pzN
end Go.Proofs.YtdgpkbnnljblmaaGreatDoor