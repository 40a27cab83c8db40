import Derived.Test.YtmkmofdnmllioaaGreatDoorU3
import Derived.Shelf.Unicode.ValidAny
import Derived.Lib.ItoaNum
import Derived.Lib.ValidLaws
import Derived.Lib.IndexLaws
import Derived.Lib.TrimAscii
set_option maxRecDepth 400000
/- F1 -/
namespace Go.Proofs.YtmkmofdnmllioaaGreatDoor
open Go Go.Ev
open Go.IntKind (i64 u64 u8 i32 u32 i16 u16)
set_option linter.unusedVariables false
theorem mixed:Tryz.prog.follows .mixedOrders=true:=by kernel_rfl
inductive AllD (N:Nat):List (CutSpec tb)->List (Nat×Code)->Prop where
 | nil:AllD N [] []
 | cons {c:Code} {d:CutSpec tb} {Δ:List (CutSpec tb)} {L:List (Nat×Code)} (h:czE Tryz.prog tb N c d) (k:AllD N Δ L):AllD N (d::Δ) ((d.key,c)::L)
theorem AllD.get {N:Nat}{Δ:List (CutSpec tb)}{L:List (Nat×Code)}(h:AllD N Δ L):∀q∈L,∃d∈Δ,q.1=d.key/\czE Tryz.prog tb N q.2 d:=by
 induction h with
 | nil=>intro q hq;cases hq
 | cons h k ih =>
  intro q hq;rcases List.mem_cons.1 hq with rfl|hq
  .exact⟨_,List.mem_cons_self,rfl,h⟩
  .obtain⟨d,h1,h2⟩:=ih q hq;exact⟨d,List.mem_cons_of_mem _ h1,h2⟩
theorem Cz7 {d cut:CutSpec tb}:∀{Δ:List (CutSpec tb)},(Δ.map (·.key)).Nodup->d∈Δ->gzl Δ d.key=some cut->cut=d
 | [],_,h,_=>by cases h
 | c::Δ,hn,h,hc=>by
  rw[List.map_cons,List.nodup_cons]at hn;simp only[gzl]at hc;cases hb:Nat.beq c.key d.key with
  | true =>
   rw[hb]at hc;rcases List.mem_cons.1 h with rfl|h
   .exact(Option.some.inj hc).symm
   .exact absurd (List.mem_map.2 ⟨d,h,(Nat.eq_of_beq_eq_true hb).symm⟩) hn.1
  | false =>
   rw[hb]at hc;rcases List.mem_cons.1 h with rfl|h
   .rw[Nat.beq_refl]at hb;cases hb
   .exact Cz7 hn.2 h hc
theorem AllD.cuts {N:Nat}{Δ:List (CutSpec tb)}{L:List (Nat×Code)}{ok:Nat->Bool}(h:AllD N Δ L)(hk:(bzz (Δ.map (·.key))&&Δ.all fun d=>d.W.all ok)=true):fzp Tryz.prog tb N ok Δ L:=fun q hq cut hc=>by
 rw[Bool.and_eq_true]at hk;obtain⟨d,h1,h2,h3⟩:=h.get q hq;rw[h2]at hc;rw[Cz7 (gzK.1 hk.1) h1 hc];exact⟨h3,List.all_eq_true.1 hk.2 d h1⟩
abbrev A0 (f:Nat)(sp:FSpec tb):Prop:=azz Tryz.prog tb f sp
abbrev A3 (fn:Func)(k:Nat)(cut:CutSpec tb):Prop:=czE Tryz.prog tb fn.ntmps (.loop (bzX k fn)) cut
abbrev A5 (fn:Func)(k:Nat)(cut:CutSpec tb):Prop:=czE Tryz.prog tb fn.ntmps (iz1 k fn) cut
theorem A1 {Γ:List (Nat×FSpec tb)}{f:Nat}{fn:Func}{sp:FSpec tb}(hf:Tryz.prog.funcs[f]?=some fn)(hΓ:azl Tryz.prog tb Γ)(hk:fnK fn sp.ins sp.outs=true:=by kernel_rfl)(hs:ezh Γ=true:=by rfl)
 (hJ:∀x,evFn Tryz.prog tb Γ [] fn sp.ins sp.outs x=sp.f x:=by intro x;kernel_rfl):A0 f sp:=fn_ev mixed hf hk hΓ hs hJ
theorem A2 {Γ:List (Nat×FSpec tb)}{Δ:List (CutSpec tb)}{L:List (Nat×Code)}{f:Nat}{fn:Func}{sp:FSpec tb}(hf:Tryz.prog.funcs[f]?=some fn)(hΓ:azl Tryz.prog tb Γ)(hL:AllD fn.ntmps Δ L)(hk:fnK fn sp.ins sp.outs=true:=by kernel_rfl)(hs:ezh Γ=true:=by rfl)
 (hd:(bzz (Δ.map (·.key))&&Δ.all fun d=>d.W.all fun t=>!memB t (kzQ sp.ins))=true:=by kernel_rfl) (hc:cza Δ (gzx fn)=L:=by kernel_rfl) (hJ:∀x,evFn Tryz.prog tb Γ Δ fn sp.ins sp.outs x=sp.f x:=by intro x;kernel_rfl):A0 f sp:=fn_cut mixed hf hk hΓ hs hc (hL.cuts hd) hJ
theorem A4 {Γ:List (Nat×FSpec tb)}{Δ:List (CutSpec tb)}{L:List (Nat×Code)}{fn:Func}{K:Nat}{cut:CutSpec tb}(hΓ:azl Tryz.prog tb Γ)(hL:AllD fn.ntmps Δ L)(F:(XS tb cut.ins->Option (Outs tb (azk cut.ins) cut.outs))->XS tb cut.ins->Option (Outs tb (azk cut.ins) cut.outs))
 (hb:cutB fn.ntmps cut (bzX K fn)=true:=by kernel_rfl) (hs:ezh Γ=true:=by rfl) (hd:(bzz (Δ.map (·.key))&&Δ.all fun d=>d.W.all fun t=>memB t cut.W)=true:=by kernel_rfl) (hc:cza Δ (bzX K fn)=L:=by kernel_rfl)
 (hF:∀back x,bzI Tryz.prog tb Γ Δ (bzX K fn) cut.ins cut.outs back x=F back x:=by intro b x;kernel_rfl) (hJ:cut.J=iter F big:=by rfl):A3 fn K cut:=loop_it mixed hb hΓ hs hc (hL.cuts hd) F hF hJ
theorem A6 {Γ:List (Nat×FSpec tb)}{Δ:List (CutSpec tb)}{L:List (Nat×Code)}{fn:Func}{K:Nat}{cut:CutSpec tb}(hΓ:azl Tryz.prog tb Γ)(hL:AllD fn.ntmps Δ L)
 (hb:cutB fn.ntmps cut (iz1 K fn)=true:=by kernel_rfl) (hs:ezh Γ=true:=by rfl) (hd:(bzz (Δ.map (·.key))&&Δ.all fun d=>d.W.all fun t=>memB t cut.W)=true:=by kernel_rfl) (hc:cza Δ (iz1 K fn)=L:=by kernel_rfl)
 (hJ:∀x,lzO Tryz.prog tb Γ Δ (iz1 K fn) cut.ins cut.outs x=cut.J x:=by intro x;kernel_rfl):A5 fn K cut:=blk_ev mixed hb hΓ hs hc (hL.cuts hd) hJ
def bzH (x:Int):Option (Dec):=some {M:=x,S:=0}
def uzs:FSpec tb:=⟨[(0,.val 2)],[(0,.val 43)],bzH⟩
theorem dz0:A0 38 uzs:=A1 Tryz.func38 .nil
def kzM (x:Int):Option (Bool):=some (bif decide (x=x)then false else true)
def Fza:FSpec tb:=⟨[(0,.val 3)],[(0,.val 4)],kzM⟩
theorem vz5:A0 232 Fza:=A1 Tryz.func232 .nil
def azZ (x:Int×Int):Option (Int):=obnd (kzM x.1) fun y=>obnd (kzM x.2) fun y_1=>brn y (brn y_1 (some 0) (some (-1))) (brn y_1 (some 1) (brn (decide (x.1<x.2)) (some (-1)) (brn (decide (x.2<x.1)) (some 1) (some 0))))
def mzb:FSpec tb:=⟨[(0,.val 3),(1,.val 3)],[(0,.val 3)],azZ⟩
theorem ezD:A0 199 mzb:=A1 Tryz.func199 (.cons vz5 .nil)
def gzc (x:List UInt8×List UInt8):Option (Bool):=brn (decide ((↑x.2.length:Int)<=(↑x.1.length:Int))) (obnd (sub x.1 0 (↑x.2.length:Int)) fun z=>some (decide (z=x.2))) (some false)
def rzX:FSpec tb:=⟨[(0,.val 9),(1,.val 9)],[(0,.val 4)],gzc⟩
theorem ozs:A0 239 rzX:=A1 Tryz.func239 .nil
def gzb (x:List UInt8×List UInt8):Option (List UInt8×Bool):=obnd (gzc x) fun y=>brn (!y) (some (x.1,false)) (obnd (sub x.1 (↑x.2.length:Int) (↑x.1.length:Int)) fun z=>some (z,true))
def rzW:FSpec tb:=⟨[(0,.val 9),(1,.val 9)],[(0,.val 9),(1,.val 4)],gzb⟩
theorem ozr:A0 241 rzW:=A1 Tryz.func241 (.cons ozs .nil)
def gzX (x:List UInt8×List UInt8):Option (List UInt8×Bool):=obnd (gzb x) fun y=>some y
def pzB:FSpec tb:=⟨[(0,.val 9),(1,.val 9)],[(0,.val 9),(1,.val 4)],gzX⟩
theorem rz2:A0 224 pzB:=A1 Tryz.func224 (.cons ozr .nil)
def gze (x:List UInt8×UInt8):Option (Int):=obnd (fzE (x.1,UInt8.ofNat (↑x.2.toNat:Int).toNat)) fun y=>some y
def rzZ:FSpec tb:=⟨[(0,.val 9),(1,.val 5)],[(0,.val 3)],gze⟩
theorem ozu:A0 255 rzZ:=A1 Tryz.func255 (.consK nz2 .nil)
def fz7 (x:List UInt8×List UInt8):Option (Int):=brn (decide ((↑x.2.length:Int)=0)) (some 0) (brn (decide (x.2=x.1)) (some 0) (brn (decide ((↑x.2.length:Int)=1)) (obnd (idx x.2 0) fun y=>obnd (gze (x.1,UInt8.ofNat (↑y.toNat:Int).toNat)) fun y=>some y) (brn (decide ((↑x.1.length:Int)<=(↑x.2.length:Int))) (some (-1)) none)))
def vz9:FSpec tb:=⟨[(0,.val 9),(1,.val 9)],[(0,.val 3)],fz7⟩
theorem rzb:A0 249 vz9:=A1 Tryz.func249 (.cons ozu .nil)
def lzl (x:List UInt8×List UInt8):Option (List UInt8×List UInt8×Bool):=obnd (fz7 x) fun y=>brn (decide (0<=y)) (obnd (sub x.1 0 y) fun z=>obnd (sub x.1 (i64.wrap (y+(↑x.2.length:Int))) (↑x.1.length:Int)) fun z_1=>some (z,z_1,true)) (some (x.1,[],false))
def yz7:FSpec tb:=⟨[(0,.val 9),(1,.val 9)],[(0,.val 9),(1,.val 9),(2,.val 4)],lzl⟩
theorem sz6:A0 242 yz7:=A1 Tryz.func242 (.cons rzb .nil)
def nzT (x:List UInt8×List UInt8):Option (List UInt8×List UInt8×Bool):=obnd (lzl x) fun y=>some (y.1,y.2)
def yzi:FSpec tb:=⟨[(0,.val 9),(1,.val 9)],[(0,.val 9),(1,.val 9),(2,.val 4)],nzT⟩
theorem zzS:A0 225 yzi:=A1 Tryz.func225 (.cons sz6 .nil)
def gzd (x:List UInt8×List UInt8):Option (Bool):=brn (decide ((↑x.2.length:Int)<=(↑x.1.length:Int))) (obnd (sub x.1 (i64.wrap ((↑x.1.length:Int)-(↑x.2.length:Int))) (↑x.1.length:Int)) fun z=>some (decide (z=x.2))) (some false)
def rzY:FSpec tb:=⟨[(0,.val 9),(1,.val 9)],[(0,.val 4)],gzd⟩
theorem ozt:A0 243 rzY:=A1 Tryz.func243 .nil
def ezB (x:List UInt8×List UInt8):Option (Bool):=obnd (gzd x) fun y=>some y
def pzC:FSpec tb:=⟨[(0,.val 9),(1,.val 9)],[(0,.val 4)],ezB⟩
theorem rz3:A0 226 pzC:=A1 Tryz.func226 (.cons ozt .nil)
abbrev LzA:List (Nat×FSpec tb):=[(224,pzB),(225,yzi),(226,pzC)]
theorem pzG:azl Tryz.prog tb (LzA):=(.cons rz2 (.cons zzS (.cons rz3 .nil)))
def lzM (back:Wide×Bool×Bool×((List UInt8×Nat))->Option ((Bool×Bool)×(Wide×((List UInt8×Nat)))))(x:Wide×Bool×Bool×((List UInt8×Nat))):Option ((Bool×Bool)×(Wide×((List UInt8×Nat)))):=brn (decide (x.2.2.2.2<x.2.2.2.1.length)) (brn (decide ((↑(rune x.2.2.2.1 x.2.2.2.2).1:Int)<48)) (back (x.1,true,x.2.2.1,x.2.2.2.1,x.2.2.2.2+(rune x.2.2.2.1 x.2.2.2.2).2)) (brn (decide (57<(↑(rune x.2.2.2.1 x.2.2.2.2).1:Int))) (back (x.1,true,x.2.2.1,x.2.2.2.1,x.2.2.2.2+(rune x.2.2.2.1 x.2.2.2.2).2)) (brn x.2.2.1 (back (x.1,x.2.1,true,x.2.2.2.1,x.2.2.2.2+(rune x.2.2.2.1 x.2.2.2.2).2)) (brn (!decide (1844674407370955160<x.1.lo)) (back ({hi:=x.1.hi,lo:=u64.wrap (u64.wrap (x.1.lo*10)+u64.wrap (i32.wrap ((↑(rune x.2.2.2.1 x.2.2.2.2).1:Int)-48))),minus:=x.1.minus},x.2.1,decide (1844674407370955160<x.1.lo),x.2.2.2.1,x.2.2.2.2+(rune x.2.2.2.1 x.2.2.2.2).2)) (back (x.1,x.2.1,decide (1844674407370955160<x.1.lo),x.2.2.2.1,x.2.2.2.2+(rune x.2.2.2.1 x.2.2.2.2).2)))))) (some ((x.2.1,x.2.2.1),x.1,x.2.2.2))
def bz3:Wide×Bool×Bool×((List UInt8×Nat))->Option ((Bool×Bool)×(Wide×((List UInt8×Nat)))):=iter lzM big
def Hzh:CutSpec tb:=⟨68,[(9,.ref 277),(10,.val 4),(11,.val 4),(53,.iter)],[((.exit 0),[(10,.val 4),(11,.val 4)])],[54,55,56,13,57,58,59,60,61,62,10,63,64,65,66,67,68,11,69,70,71,72,73,74,75,76,77,78],bz3⟩
theorem AzS:A3 Tryz.f189 68 Hzh:=A4 pzG .nil lzM
def czm (x:Dec×Bool×List UInt8×Wide×Bool×Bool):Option (((Unit)×Dec)⊕((Int)×Dec)):=brn x.2.2.2.2.1 (some (Sum.inr (2,{M:=0,S:=0}))) (brn x.2.2.2.2.2 (some (Sum.inr (8,{M:=0,S:=0}))) (brn (decide (9223372036854775808<x.2.2.2.1.lo)) (some (Sum.inr (8,{M:=0,S:=0}))) (brn (decide (x.2.2.2.1.lo=9223372036854775808)) (brn (!x.2.1) (some (Sum.inr (8,{M:=0,S:=0}))) (brn (decide (9<(↑x.2.2.1.length:Int))) (some (Sum.inr (1,{M:=0,S:=0}))) (obnd (ezB (x.2.2.1,[48])) fun y=>brn y (some (Sum.inr (1,{M:=0,S:=0}))) (brn x.2.1 (some (Sum.inr (0,{M:=i64.wrap (u64.wrap (0-x.2.2.2.1.lo)),S:=(↑x.2.2.1.length:Int)}))) (some (Sum.inl ((),x.1))))))) (brn (decide (9<(↑x.2.2.1.length:Int))) (some (Sum.inr (1,{M:=0,S:=0}))) (obnd (ezB (x.2.2.1,[48])) fun y=>brn y (some (Sum.inr (1,{M:=0,S:=0}))) (brn x.2.1 (some (Sum.inr (0,{M:=i64.wrap (u64.wrap (0-x.2.2.2.1.lo)),S:=(↑x.2.2.1.length:Int)}))) (some (Sum.inl ((),x.1)))))))))
def Hzg:CutSpec tb:=⟨123,[(2,.ref 43),(5,.val 4),(7,.val 9),(9,.ro 277),(10,.val 4),(11,.val 4)],[(.normal,[]),(.ret,[(3,.val 194)])],[80,79,81,3,83,84,85,86,87,88,89,90,91,92,93,94,95,96,97,82,98,100,101,102,103,104,105,106,99,107,109,108,110,111,112,113,114,115,116],(czm)⟩
theorem AzR:A5 Tryz.f189 123 Hzg:=A6 pzG .nil
def qzm (x:List UInt8):Option (Dec×Int):=obnd (gzX (x,[45])) fun y=>obnd (nzT (y.1,[46])) fun y_1=>brn (decide (y_1.1=[])) (obnd (cat y_1.1 y_1.2.1) fun z=>obnd (bz3 ({hi:=0,lo:=0,minus:=y.2},true,false,z,0)) fun y_2=>obnd (czm ({M:=0,S:=0},y.2,y_1.2.1,y_2.2.1,y_2.1)) fun y=>osum y (fun y=>some ({M:=i64.wrap y_2.2.1.lo,S:=(↑(List.length y_1.2.1):Int)},0)) fun y=>some (y.2,y.1)) (brn y_1.2.2 (brn (decide (y_1.2.1=[])) (obnd (cat y_1.1 y_1.2.1) fun z=>obnd (bz3 ({hi:=0,lo:=0,minus:=y.2},true,false,z,0)) fun y_2=>obnd (czm ({M:=0,S:=0},y.2,y_1.2.1,y_2.2.1,y_2.1)) fun y=>osum y (fun y=>some ({M:=i64.wrap y_2.2.1.lo,S:=(↑(List.length y_1.2.1):Int)},0)) fun y=>some (y.2,y.1)) (brn (decide (1<(↑(List.length y_1.1):Int))) (obnd (idx y_1.1 0) fun y_2=>brn (decide ((↑y_2.toNat:Int)=48)) (obnd (cat y_1.1 y_1.2.1) fun z=>obnd (bz3 ({hi:=0,lo:=0,minus:=y.2},true,false,z,0)) fun y_3=>obnd (czm ({M:=0,S:=0},y.2,y_1.2.1,y_3.2.1,y_3.1)) fun y=>osum y (fun y=>some ({M:=i64.wrap y_3.2.1.lo,S:=(↑(List.length y_1.2.1):Int)},0)) fun y=>some (y.2,y.1)) (obnd (cat y_1.1 y_1.2.1) fun z=>obnd (bz3 ({hi:=0,lo:=0,minus:=y.2},decide (x=[45,48]),false,z,0)) fun y_3=>obnd (czm ({M:=0,S:=0},y.2,y_1.2.1,y_3.2.1,y_3.1)) fun y=>osum y (fun y=>some ({M:=i64.wrap y_3.2.1.lo,S:=(↑(List.length y_1.2.1):Int)},0)) fun y=>some (y.2,y.1))) (obnd (cat y_1.1 y_1.2.1) fun z=>obnd (bz3 ({hi:=0,lo:=0,minus:=y.2},decide (x=[45,48]),false,z,0)) fun y_2=>obnd (czm ({M:=0,S:=0},y.2,y_1.2.1,y_2.2.1,y_2.1)) fun y=>osum y (fun y=>some ({M:=i64.wrap y_2.2.1.lo,S:=(↑(List.length y_1.2.1):Int)},0)) fun y=>some (y.2,y.1)))) (brn (decide (1<(↑(List.length y_1.1):Int))) (obnd (idx y_1.1 0) fun y_2=>brn (decide ((↑y_2.toNat:Int)=48)) (obnd (cat y_1.1 y_1.2.1) fun z=>obnd (bz3 ({hi:=0,lo:=0,minus:=y.2},true,false,z,0)) fun y_3=>obnd (czm ({M:=0,S:=0},y.2,y_1.2.1,y_3.2.1,y_3.1)) fun y=>osum y (fun y=>some ({M:=i64.wrap y_3.2.1.lo,S:=(↑(List.length y_1.2.1):Int)},0)) fun y=>some (y.2,y.1)) (obnd (cat y_1.1 y_1.2.1) fun z=>obnd (bz3 ({hi:=0,lo:=0,minus:=y.2},decide (x=[45,48]),false,z,0)) fun y_3=>obnd (czm ({M:=0,S:=0},y.2,y_1.2.1,y_3.2.1,y_3.1)) fun y=>osum y (fun y=>some ({M:=i64.wrap y_3.2.1.lo,S:=(↑(List.length y_1.2.1):Int)},0)) fun y=>some (y.2,y.1))) (obnd (cat y_1.1 y_1.2.1) fun z=>obnd (bz3 ({hi:=0,lo:=0,minus:=y.2},decide (x=[45,48]),false,z,0)) fun y_2=>obnd (czm ({M:=0,S:=0},y.2,y_1.2.1,y_2.2.1,y_2.1)) fun y=>osum y (fun y=>some ({M:=i64.wrap y_2.2.1.lo,S:=(↑(List.length y_1.2.1):Int)},0)) fun y=>some (y.2,y.1))))
def LzB:FSpec tb:=⟨[(0,.val 9)],[(0,.val 43),(1,.val 194)],qzm⟩
theorem CzY:A0 189 LzB:=A2 Tryz.func189 pzG (.cons AzS (.cons AzR .nil))
def kzO (x:Int):Option (Wide):=brn (decide (x<0)) (some {hi:=0,lo:=u64.wrap (0-u64.wrap x),minus:=true}) (some {hi:=0,lo:=u64.wrap x,minus:=false})
def dec_ofS:FSpec tb:=⟨[(0,.val 2)],[(0,.val 277)],kzO⟩
theorem jz0:A0 193 dec_ofS:=A1 Tryz.func193 .nil
def fz8 (x:Int×Int):Option (List UInt8):=obnd (dzL x) fun y=>some y
def wzL:FSpec tb:=⟨[(0,.val 275),(1,.val 3)],[(0,.val 9)],fz8⟩
theorem rzO:A0 231 wzL:=A1 Tryz.func231 (.cons qzs .nil)
def rz8 (x:Dec):Option (List UInt8):=obnd (kzO x.M) fun y=>obnd (fz8 (y.lo,10)) fun y_1=>brn (decide (0<x.S)) (obnd (czy ([48],bif decide (i64.wrap (i64.wrap (x.S+1)-(↑(List.length y_1):Int))<0)then 0 else i64.wrap (i64.wrap (x.S+1)-(↑(List.length y_1):Int)))) fun y_2=>obnd (cat y_2 y_1) fun z=>obnd (sub z 0 (i64.wrap ((↑z.length:Int)-x.S))) fun z_1=>obnd (cat z_1 [46]) fun z_2=>obnd (sub z (i64.wrap ((↑z.length:Int)-x.S)) (↑z.length:Int)) fun z=>obnd (cat z_2 z) fun z=>brn y.minus (obnd (cat [45] z) fun z=>some z) (some z)) (brn y.minus (obnd (cat [45] y_1) fun z=>some z) (some y_1))
def dec_TextS:FSpec tb:=⟨[(0,.val 43)],[(0,.val 9)],rz8⟩
theorem Fzg:A0 197 dec_TextS:=A1 Tryz.func197 (.cons jz0 (.cons rzO (.cons nzU .nil)))
def lzN (back:Int×Int×Int->Option (Int))(x:Int×Int×Int):Option (Int):=brn (decide (x.2.2<x.2.1)) (back (u64.wrap (x.1*10),x.2.1,i64.wrap (x.2.2+1))) (some x.1)
def pzI:Int×Int×Int->Option (Int):=iter lzN big
def Hzi:CutSpec tb:=⟨36,[(3,.val 275),(4,.val 3),(5,.val 3)],[((.exit 0),[(3,.val 275)])],[6,7,8,3,9,5],pzI⟩
theorem AzU:A3 Tryz.f195 36 Hzi:=A4 .nil .nil lzN
def ezj (x:Int):Option (Int):=obnd (pzI (1,x,0)) fun y=>some y
def LzC:FSpec tb:=⟨[(0,.val 3)],[(0,.val 275)],ezj⟩
theorem gzz:A0 195 LzC:=A2 Tryz.func195 .nil (.cons AzU .nil)
def lzy (x:Int×Int):Option (Int×Int):=some (u64.wrap (u64.wrap (u64.wrap (x.1.fdiv 4294967296*x.2.fdiv 4294967296)+(u64.wrap (u64.wrap (x.1.fdiv 4294967296*azn BinOp.and u64 x.2 4294967295)+(u64.wrap (azn BinOp.and u64 x.1 4294967295*azn BinOp.and u64 x.2 4294967295)).fdiv 4294967296)).fdiv 4294967296)+(u64.wrap (azn BinOp.and u64 (u64.wrap (u64.wrap (x.1.fdiv 4294967296*azn BinOp.and u64 x.2 4294967295)+(u64.wrap (azn BinOp.and u64 x.1 4294967295*azn BinOp.and u64 x.2 4294967295)).fdiv 4294967296)) 4294967295+u64.wrap (azn BinOp.and u64 x.1 4294967295*x.2.fdiv 4294967296))).fdiv 4294967296),u64.wrap (x.1*x.2))
def Kzs:FSpec tb:=⟨[(0,.val 275),(1,.val 275)],[(0,.val 275),(1,.val 275)],lzy⟩
theorem qzU:A0 202 Kzs:=A1 Tryz.func202 .nil
def ezE (x:Wide×Int):Option (Wide):=obnd (lzy (x.1.lo,x.2)) fun y=>some {hi:=u64.wrap (u64.wrap (x.1.hi*x.2)+y.1),lo:=y.2,minus:=x.1.minus}
def Cz2:FSpec tb:=⟨[(0,.val 277),(1,.val 275)],[(0,.val 277)],ezE⟩
theorem izK:A0 194 Cz2:=A1 Tryz.func194 (.cons qzU .nil)
def dzA (x:Dec):Option (Wide):=obnd (kzO x.M) fun y=>obnd (ezj (i64.wrap (9-x.S))) fun y_1=>obnd (ezE (y,y_1)) fun y=>some y
def Kzy:FSpec tb:=⟨[(0,.val 43)],[(0,.val 277)],dzA⟩
theorem izI:A0 190 Kzy:=A1 Tryz.func190 (.cons jz0 (.cons gzz (.cons izK .nil)))
def izE (x:Int):Option (Bool):=some (bif decide (x=x)then false else true)
def AzM:FSpec tb:=⟨[(0,.val 2)],[(0,.val 4)],izE⟩
theorem tzp:A0 235 AzM:=A1 Tryz.func235 .nil
def ezn (x:Int×Int):Option (Int):=obnd (izE x.1) fun y=>obnd (izE x.2) fun y_1=>brn y (brn y_1 (some 0) (some (-1))) (brn y_1 (some 1) (brn (decide (x.1<x.2)) (some (-1)) (brn (decide (x.2<x.1)) (some 1) (some 0))))
def wzQ:FSpec tb:=⟨[(0,.val 2),(1,.val 2)],[(0,.val 3)],ezn⟩
theorem rzT:A0 213 wzQ:=A1 Tryz.func213 (.cons tzp .nil)
def dzp (x:Wide×Wide):Option (Bool):=brn (decide (x.1.hi<x.2.hi)) (some true) (brn (decide (x.1.hi=x.2.hi)) (some (decide (x.1.lo<x.2.lo))) (some false))
def Fzh:FSpec tb:=⟨[(0,.val 277),(1,.val 277)],[(0,.val 4)],dzp⟩
theorem nz6:A0 214 Fzh:=A1 Tryz.func214 .nil
def dzF (x:Dec×Dec):Option (Int):=obnd (dzA x.1) fun y=>obnd (dzA x.2) fun y_1=>brn (!decide (y.minus=y_1.minus)) (obnd (ezn (x.1.M,0)) fun y=>obnd (ezn (x.2.M,0)) fun y_2=>obnd (azZ (y,y_2)) fun y=>some y) (brn y.minus (obnd (dzp (y,y_1)) fun y_2=>brn y_2 (some 1) (obnd (dzp (y_1,y)) fun y=>brn y (some (-1)) (some 0))) (obnd (dzp (y,y_1)) fun y_2=>brn y_2 (some (-1)) (obnd (dzp (y_1,y)) fun y=>brn y (some 1) (some 0))))
def jzZ:FSpec tb:=⟨[(0,.val 43),(1,.val 43)],[(0,.val 3)],dzF⟩
theorem hzn:A0 176 jzZ:=A1 Tryz.func176 (.cons izI (.cons rzT (.cons ezD (.cons nz6 .nil))))
def fzr (x:Wide×Wide):Option (Wide):=brn (decide (x.1.minus=x.2.minus)) (obnd (gz0 (x.1.lo,x.2.lo,0)) fun y=>some {hi:=u64.wrap (u64.wrap (x.1.hi+x.2.hi)+y.2),lo:=y.1,minus:=x.1.minus}) (obnd (dzp x) fun y=>brn y (obnd (jzz (x.2.lo,x.1.lo,0)) fun y=>some {hi:=u64.wrap (u64.wrap (x.2.hi-x.1.hi)-y.2),lo:=y.1,minus:=x.2.minus}) (obnd (jzz (x.1.lo,x.2.lo,0)) fun y=>some {hi:=u64.wrap (u64.wrap (x.1.hi-x.2.hi)-y.2),lo:=y.1,minus:=x.1.minus}))
def Fzi:FSpec tb:=⟨[(0,.val 277),(1,.val 277)],[(0,.val 277)],fzr⟩
theorem nz7:A0 191 Fzi:=A1 Tryz.func191 (.consK qzT (.cons nz6 (.consK AzH .nil)))
abbrev Kzq:List (Nat×FSpec tb):=[(250,mzX)]
theorem ozd:azl Tryz.prog tb (Kzq):=(.cons qzj .nil)
def hzH (back:Int×Int×Int×Int×Int->Option (Int))(x:Int×Int×Int×Int×Int):Option (Int):=brn (decide (4294967296<=x.2.2.2.1)) (brn (decide (4294967296<=u64.wrap (x.2.2.2.2+x.1))) (some (u64.wrap (x.2.2.2.1-1))) (back (x.1,x.2.1,x.2.2.1,u64.wrap (x.2.2.2.1-1),u64.wrap (x.2.2.2.2+x.1)))) (brn (decide (u64.wrap (u64.wrap (4294967296*x.2.2.2.2)+x.2.2.1)<u64.wrap (x.2.2.2.1*x.2.1))) (brn (decide (4294967296<=u64.wrap (x.2.2.2.2+x.1))) (some (u64.wrap (x.2.2.2.1-1))) (back (x.1,x.2.1,x.2.2.1,u64.wrap (x.2.2.2.1-1),u64.wrap (x.2.2.2.2+x.1)))) (some x.2.2.2.1))
def kzK:Int×Int×Int×Int×Int->Option (Int):=iter hzH big
def Ez4:CutSpec tb:=⟨148,[(9,.val 275),(10,.val 275),(13,.val 275),(15,.val 275),(16,.val 275)],[((.exit 0),[(15,.val 275)])],[67,68,69,70,71,72,73,74,75,76,77,78,79,80,15,81,82,83,16,84,85],kzK⟩
theorem yzQ:A3 Tryz.f244 148 Ez4:=A4 ozd .nil hzH
def hzI (back:Int×Int×Int×Int×Int->Option (Int))(x:Int×Int×Int×Int×Int):Option (Int):=brn (decide (4294967296<=x.2.2.2.2)) (brn (decide (4294967296<=u64.wrap (x.2.2.2.1+x.1))) (some (u64.wrap (x.2.2.2.2-1))) (back (x.1,x.2.1,x.2.2.1,u64.wrap (x.2.2.2.1+x.1),u64.wrap (x.2.2.2.2-1)))) (brn (decide (u64.wrap (u64.wrap (4294967296*x.2.2.2.1)+x.2.2.1)<u64.wrap (x.2.2.2.2*x.2.1))) (brn (decide (4294967296<=u64.wrap (x.2.2.2.1+x.1))) (some (u64.wrap (x.2.2.2.2-1))) (back (x.1,x.2.1,x.2.2.1,u64.wrap (x.2.2.2.1+x.1),u64.wrap (x.2.2.2.2-1)))) (some x.2.2.2.2))
def kzL:Int×Int×Int×Int×Int->Option (Int):=iter hzI big
def Ez5:CutSpec tb:=⟨204,[(9,.val 275),(10,.val 275),(14,.val 275),(16,.val 275),(18,.val 275)],[((.exit 2),[(18,.val 275)])],[102,103,104,105,106,107,108,109,110,111,112,113,114,115,18,116,117,118,16,119,120],kzL⟩
theorem yzR:A3 Tryz.f244 204 Ez5:=A4 ozd .nil hzI
def lzx (x:Int×Int×Int):Option (Int×Int):=brn (decide (x.2.2=0)) none (brn (decide (x.2.2<=x.1)) none (brn (decide (x.1=0)) (brn (decide (x.2.2=0)) none (brn (decide (x.2.2=0)) none (some (u64.wrap (x.2.1.tdiv x.2.2),x.2.1.tmod x.2.2)))) (obnd (fza x.2.2) fun y=>brn (decide (u64.wrap y<0)) none (brn (decide (u64.wrap y<0)) none (brn (decide (u64.wrap (64-u64.wrap y)<0)) none (brn (decide (u64.wrap y<0)) none (brn (decide ((u64.wrap (x.2.2*2^min (u64.wrap y).toNat 64)).fdiv 4294967296=0)) none (obnd (kzK ((u64.wrap (x.2.2*2^min (u64.wrap y).toNat 64)).fdiv 4294967296,azn BinOp.and u64 (u64.wrap (x.2.2*2^min (u64.wrap y).toNat 64)) 4294967295,(u64.wrap (x.2.1*2^min (u64.wrap y).toNat 64)).fdiv 4294967296,u64.wrap ((azn BinOp.or u64 (u64.wrap (x.1*2^min (u64.wrap y).toNat 64)) (x.2.1.fdiv (2^min (u64.wrap (64-u64.wrap y)).toNat 64))).tdiv ((u64.wrap (x.2.2*2^min (u64.wrap y).toNat 64)).fdiv 4294967296)),u64.wrap (azn BinOp.or u64 (u64.wrap (x.1*2^min (u64.wrap y).toNat 64)) (x.2.1.fdiv (2^min (u64.wrap (64-u64.wrap y)).toNat 64))-u64.wrap (u64.wrap ((azn BinOp.or u64 (u64.wrap (x.1*2^min (u64.wrap y).toNat 64)) (x.2.1.fdiv (2^min (u64.wrap (64-u64.wrap y)).toNat 64))).tdiv ((u64.wrap (x.2.2*2^min (u64.wrap y).toNat 64)).fdiv 4294967296))*(u64.wrap (x.2.2*2^min (u64.wrap y).toNat 64)).fdiv 4294967296)))) fun y_1=>brn (decide ((u64.wrap (x.2.2*2^min (u64.wrap y).toNat 64)).fdiv 4294967296=0)) none (obnd (kzL ((u64.wrap (x.2.2*2^min (u64.wrap y).toNat 64)).fdiv 4294967296,azn BinOp.and u64 (u64.wrap (x.2.2*2^min (u64.wrap y).toNat 64)) 4294967295,azn BinOp.and u64 (u64.wrap (x.2.1*2^min (u64.wrap y).toNat 64)) 4294967295,u64.wrap (u64.wrap (u64.wrap (u64.wrap (azn BinOp.or u64 (u64.wrap (x.1*2^min (u64.wrap y).toNat 64)) (x.2.1.fdiv (2^min (u64.wrap (64-u64.wrap y)).toNat 64))*4294967296)+(u64.wrap (x.2.1*2^min (u64.wrap y).toNat 64)).fdiv 4294967296)-u64.wrap (y_1*u64.wrap (x.2.2*2^min (u64.wrap y).toNat 64)))-u64.wrap (u64.wrap ((u64.wrap (u64.wrap (u64.wrap (azn BinOp.or u64 (u64.wrap (x.1*2^min (u64.wrap y).toNat 64)) (x.2.1.fdiv (2^min (u64.wrap (64-u64.wrap y)).toNat 64))*4294967296)+(u64.wrap (x.2.1*2^min (u64.wrap y).toNat 64)).fdiv 4294967296)-u64.wrap (y_1*u64.wrap (x.2.2*2^min (u64.wrap y).toNat 64)))).tdiv ((u64.wrap (x.2.2*2^min (u64.wrap y).toNat 64)).fdiv 4294967296))*(u64.wrap (x.2.2*2^min (u64.wrap y).toNat 64)).fdiv 4294967296)),u64.wrap ((u64.wrap (u64.wrap (u64.wrap (azn BinOp.or u64 (u64.wrap (x.1*2^min (u64.wrap y).toNat 64)) (x.2.1.fdiv (2^min (u64.wrap (64-u64.wrap y)).toNat 64))*4294967296)+(u64.wrap (x.2.1*2^min (u64.wrap y).toNat 64)).fdiv 4294967296)-u64.wrap (y_1*u64.wrap (x.2.2*2^min (u64.wrap y).toNat 64)))).tdiv ((u64.wrap (x.2.2*2^min (u64.wrap y).toNat 64)).fdiv 4294967296)))) fun y_2=>brn (decide (u64.wrap y<0)) none (some (u64.wrap (u64.wrap (y_1*4294967296)+y_2),(u64.wrap (u64.wrap (u64.wrap (u64.wrap (u64.wrap (u64.wrap (azn BinOp.or u64 (u64.wrap (x.1*2^min (u64.wrap y).toNat 64)) (x.2.1.fdiv (2^min (u64.wrap (64-u64.wrap y)).toNat 64))*4294967296)+(u64.wrap (x.2.1*2^min (u64.wrap y).toNat 64)).fdiv 4294967296)-u64.wrap (y_1*u64.wrap (x.2.2*2^min (u64.wrap y).toNat 64)))*4294967296)+azn BinOp.and u64 (u64.wrap (x.2.1*2^min (u64.wrap y).toNat 64)) 4294967295)-u64.wrap (y_2*u64.wrap (x.2.2*2^min (u64.wrap y).toNat 64)))).fdiv (2^min (u64.wrap y).toNat 64))))))))))))
def Kzr:FSpec tb:=⟨[(0,.val 275),(1,.val 275),(2,.val 275)],[(0,.val 275),(1,.val 275)],lzx⟩
theorem AzG:A0 244 Kzr:=A2 Tryz.func244 ozd (.cons yzQ (.cons yzR .nil))
def jz1 (x:Wide×Int):Option (Wide×Int):=brn (decide (x.2=0)) none (brn (decide (x.2=0)) none (obnd (lzx (x.1.hi.tmod x.2,x.1.lo,x.2)) fun y=>some ({hi:=u64.wrap (x.1.hi.tdiv x.2),lo:=y.1,minus:=x.1.minus},y.2)))
def wzT:FSpec tb:=⟨[(0,.val 277),(1,.val 275)],[(0,.val 277),(1,.val 275)],jz1⟩
theorem pz9:A0 229 wzT:=A1 Tryz.func229 (.cons AzG .nil)
abbrev Hzj:List (Nat×FSpec tb):=[(229,wzT)]
theorem qzZ:azl Tryz.prog tb (Hzj):=(.cons pz9 .nil)
def mzc (back:Int×Wide->Option ((Int)×Wide))(x:Int×Wide):Option ((Int)×Wide):=brn (decide (0<x.1)) (obnd (jz1 (x.2,10)) fun y=>brn (!decide (y.2=0)) (some x) (back (i64.wrap (x.1-1),y.1))) (some x)
def mzd:Int×Wide->Option ((Int)×Wide):=iter mzc big
def AzV:CutSpec tb:=⟨20,[(1,.val 3),(2,.ref 277)],[((.exit 0),[(1,.val 3)])],[8,9,11,12,10,13,14,6,7,15,16,17,18,19,1],mzd⟩
theorem vz6:A3 Tryz.f192 20 AzV:=A4 qzZ .nil mzc
def czn (x:Wide×Int):Option (Dec×Int):=obnd (mzd (x.2,x.1)) fun y=>brn (!decide (y.2.hi=0)) (some ({M:=0,S:=0},8)) (brn (decide (9223372036854775808<y.2.lo)) (some ({M:=0,S:=0},8)) (brn (decide (y.2.lo=9223372036854775808)) (brn (!y.2.minus) (some ({M:=0,S:=0},8)) (brn y.2.minus (some ({M:=i64.wrap (u64.wrap (0-y.2.lo)),S:=y.1},0)) (some ({M:=i64.wrap y.2.lo,S:=y.1},0)))) (brn y.2.minus (some ({M:=i64.wrap (u64.wrap (0-y.2.lo)),S:=y.1},0)) (some ({M:=i64.wrap y.2.lo,S:=y.1},0)))))
def Hzk:FSpec tb:=⟨[(0,.val 277),(1,.val 3)],[(0,.val 43),(1,.val 194)],czn⟩
theorem ezp:A0 192 Hzk:=A2 Tryz.func192 qzZ (.cons vz6 .nil)
def ozg (x:Dec×Dec):Option (Dec×Int):=obnd (dzA x.1) fun y=>obnd (dzA x.2) fun y_1=>obnd (fzr (y,y_1)) fun y=>obnd (czn (y,9)) fun y=>some y
def AzP:FSpec tb:=⟨[(0,.val 43),(1,.val 43)],[(0,.val 43),(1,.val 194)],ozg⟩
theorem vzy:A0 133 AzP:=A1 Tryz.func133 (.cons izI (.cons nz7 (.cons ezp .nil)))
def mz1 (x:Wide):Option (Wide):=obnd (gz0 (x.lo,1,0)) fun y=>some {hi:=u64.wrap (x.hi+y.2),lo:=y.1,minus:=x.minus}
def Izz:FSpec tb:=⟨[(0,.val 277)],[(0,.val 277)],mz1⟩
theorem yzT:A0 230 Izz:=A1 Tryz.func230 (.consK qzT .nil)
def cz0 (x:Wide×Int):Option (Wide):=obnd (jz1 x) fun y=>brn (decide (u64.wrap (x.2-y.2)<=y.2)) (obnd (mz1 y.1) fun y=>some y) (some y.1)
def Cz1:FSpec tb:=⟨[(0,.val 277),(1,.val 275)],[(0,.val 277)],cz0⟩
theorem izJ:A0 196 Cz1:=A1 Tryz.func196 (.cons pz9 (.cons yzT .nil))
def ezJ (x:Dec×Dec):Option (Dec×Int):=brn (decide (x.2.M=0)) (some ({M:=0,S:=0},9)) (obnd (kzO x.2.M) fun y=>obnd (dzA x.1) fun y_1=>obnd (ezj x.2.S) fun y_2=>obnd (ezE (y_1,y_2)) fun y_3=>obnd (cz0 ({hi:=y_3.hi,lo:=y_3.lo,minus:=!decide (y_3.minus=y.minus)},y.lo)) fun y=>obnd (czn (y,9)) fun y=>some y)
def uzr:FSpec tb:=⟨[(0,.val 43),(1,.val 43)],[(0,.val 43),(1,.val 194)],ezJ⟩
theorem lzL:A0 129 uzr:=A1 Tryz.func129 (.cons jz0 (.cons izI (.cons gzz (.cons izK (.cons izJ (.cons ezp .nil))))))
def izH (x:Dec×Dec):Option (Dec×Int):=obnd (dzA x.2) fun y=>obnd (dzA x.1) fun y_1=>obnd (fzr (y_1,{hi:=y.hi,lo:=y.lo,minus:=!y.minus})) fun y=>obnd (czn (y,9)) fun y=>some y
def AzT:FSpec tb:=⟨[(0,.val 43),(1,.val 43)],[(0,.val 43),(1,.val 194)],izH⟩
theorem pzH:A0 128 AzT:=A1 Tryz.func128 (.cons izI (.cons nz7 (.cons ezp .nil)))
def izG (x:Dec):Option (Dec×Int):=obnd (ezj x.S) fun y=>brn (decide (i64.wrap y=0)) none (obnd (ezj x.S) fun y_1=>brn (decide (i64.wrap y_1=0)) none (brn (decide (x.M.tmod (i64.wrap y_1)<0)) (some ({M:=i64.wrap (i64.wrap (x.M.tdiv (i64.wrap y))-1),S:=0},0)) (some ({M:=i64.wrap (x.M.tdiv (i64.wrap y)),S:=0},0))))
def CzV:FSpec tb:=⟨[(0,.val 43)],[(0,.val 43),(1,.val 194)],izG⟩
theorem CzW:A0 181 CzV:=A1 Tryz.func181 (.cons gzz .nil)
def mz0 (back:Dec->Option ((Unit)×Dec))(x:Dec):Option ((Unit)×Dec):=brn (decide (0<x.S)) (brn (decide (x.M.tmod 10=0)) (back {M:=i64.wrap (x.M.tdiv 10),S:=i64.wrap (x.S-1)}) (some ((),x))) (some ((),x))
def qzY:Dec->Option ((Unit)×Dec):=iter mz0 big
def Izy:CutSpec tb:=⟨20,[(1,.ref 43)],[((.exit 0),[])],[3,4,5,6,7,8,9,10,11,12,13,14,15,16,17,18],qzY⟩
theorem CzX:A3 Tryz.f216 20 Izy:=A4 .nil .nil mz0
def izA (x:Dec):Option (Dec):=obnd (qzY x) fun y=>some y.2
def dec_NormS:FSpec tb:=⟨[(0,.val 43)],[(0,.val 43)],izA⟩
theorem Fzf:A0 216 dec_NormS:=A2 Tryz.func216 .nil (.cons CzX .nil)
def fzb (x:Dec×Int):Option (Dec×Int):=brn (decide (x.2 < -18)) (some ({M:=0,S:=0},1)) (brn (decide (9<x.2)) (some ({M:=0,S:=0},1)) (brn (decide (x.1.S<=x.2)) (some (x.1,0)) (obnd (kzO x.1.M) fun y=>brn (decide (19<i64.wrap (x.1.S-x.2))) (some ({M:=0,S:=0},0)) (obnd (ezj (i64.wrap (x.1.S-x.2))) fun y_1=>obnd (cz0 (y,y_1)) fun y=>brn (decide (x.2<0)) (obnd (ezj (i64.wrap (0-x.2))) fun y_2=>obnd (ezE (y,y_2)) fun y=>obnd (czn (y,0)) fun y=>some y) (obnd (czn (y,x.2)) fun y=>some y)))))
def CzZ:FSpec tb:=⟨[(0,.val 43),(1,.val 3)],[(0,.val 43),(1,.val 194)],fzb⟩
theorem Cz0:A0 183 CzZ:=A1 Tryz.func183 (.cons jz0 (.cons gzz (.cons izJ (.cons izK (.cons ezp .nil)))))
def jzL (x:Int):Option (Bool):=some (bif decide (x=x)then false else true)
def CzP:FSpec tb:=⟨[(0,.val 21)],[(0,.val 4)],jzL⟩
theorem uzp:A0 246 CzP:=A1 Tryz.func246 .nil
def hzm (x:Int×Int):Option (Int):=obnd (jzL x.1) fun y=>obnd (jzL x.2) fun y_1=>brn y (brn y_1 (some 0) (some (-1))) (brn y_1 (some 1) (brn (decide (x.1<x.2)) (some (-1)) (brn (decide (x.2<x.1)) (some 1) (some 0))))
def pz8:FSpec tb:=⟨[(0,.val 21),(1,.val 21)],[(0,.val 3)],hzm⟩
theorem szZ:A0 233 pz8:=A1 Tryz.func233 (.cons uzp .nil)
def gz1 (x:Dec×Dec):Option (Dec×Int):=obnd (kzO x.1.M) fun y=>obnd (kzO x.2.M) fun y_1=>obnd (lzy (y.lo,y_1.lo)) fun y_2=>brn (decide (9<i64.wrap (x.1.S+x.2.S))) (obnd (ezj (i64.wrap (i64.wrap (x.1.S+x.2.S)-9))) fun y_3=>obnd (cz0 ({hi:=y_2.1,lo:=y_2.2,minus:=!decide (y.minus=y_1.minus)},y_3)) fun y=>obnd (czn (y,9)) fun y=>some y) (obnd (czn ({hi:=y_2.1,lo:=y_2.2,minus:=!decide (y.minus=y_1.minus)},i64.wrap (x.1.S+x.2.S))) fun y=>some y)
def AzQ:FSpec tb:=⟨[(0,.val 43),(1,.val 43)],[(0,.val 43),(1,.val 194)],gz1⟩
theorem vzz:A0 134 AzQ:=A1 Tryz.func134 (.cons jz0 (.cons qzU (.cons gzz (.cons izJ (.cons ezp .nil)))))
end Go.Proofs.YtmkmofdnmllioaaGreatDoor
/- U1 -/
namespace Go.Proofs
open Go.Shelf
open Go.IntKind (i64 u64 u8 i32 u32 i16 u16)
def Tryz.lays196_ren:Go.Shelf.Ren:=⟨fun|196=>217|259=>236|n=>n,fun|9=>9|4=>4|3=>3|5=>5|12=>12|119=>325|0=>0|46=>237|139=>328|138=>327|53=>275|n=>n,fun|3=>0|4=>1|n=>n⟩
theorem Tryz.lays196:Go.Proofs.Lays.n196 Tryz.prog Tryz.lays196_ren where
 mixed:=by kernel_rfl
 f196:=Tryz.func217.trans (congrArg some (by kernel_rfl))
 f259:=Tryz.func236.trans (congrArg some (by kernel_rfl))
 t0:=Tryz.underlying0
 a0:=Tryz.isAgg0
 z0:=Tryz.sizeOf0
 v0:=Tryz.zeroValue0
 t3:=Tryz.underlying3
 a3:=Tryz.isAgg3
 z3:=Tryz.sizeOf3
 v3:=Tryz.zeroValue3
 t4:=Tryz.underlying4
 a4:=Tryz.isAgg4
 z4:=Tryz.sizeOf4
 v4:=Tryz.zeroValue4
 t5:=Tryz.underlying5
 a5:=Tryz.isAgg5
 z5:=Tryz.sizeOf5
 v5:=Tryz.zeroValue5
 t9:=Tryz.underlying9
 a9:=Tryz.isAgg9
 z9:=Tryz.sizeOf9
 v9:=Tryz.zeroValue9
 t12:=Tryz.underlying12
 a12:=Tryz.isAgg12
 z12:=Tryz.sizeOf12
 v12:=Tryz.zeroValue12
 t46:=Tryz.underlying237
 a46:=Tryz.isAgg237
 z46:=Tryz.sizeOf237
 v46:=Tryz.zeroValue237
 t53:=Tryz.underlying275
 a53:=Tryz.isAgg275
 z53:=Tryz.sizeOf275
 v53:=Tryz.zeroValue275
 t119:=Tryz.underlying325
 a119:=Tryz.isAgg325
 z119:=Tryz.sizeOf325
 t138:=Tryz.underlying327
 a138:=Tryz.isAgg327
 z138:=Tryz.sizeOf327
 v138:=Tryz.zeroValue327
 t139:=Tryz.underlying328
 a139:=Tryz.isAgg328
 z139:=Tryz.sizeOf328
 v139:=Tryz.zeroValue328
 g3:=by kernel_rfl
 g4:=by kernel_rfl
end Go.Proofs
namespace Go.Proofs.YtmkmofdnmllioaaGreatDoor
open Go Go.Ev Go.RowKit
open Go.IntKind (i64 u64 u8 i32 u32 i16 u16)
def lzv (x:List UInt8):Option Bool:=some (Lib.validD x)
def zzT:FSpec tb:=⟨[(0,.val 9)],[(0,.val 4)],lzv⟩
theorem tzf:azz Tryz.prog tb 217 zzT:=by
 refine yzD (enters_of (c:=gzx Tryz.f217) Tryz.func217 (by kernel_rfl) (by kernel_rfl)) rfl fun g w (x:List UInt8) vs bs (y:Bool) hy hinv hh=>?_
 obtain⟨v0,vs,b0,bs,rfl,rfl⟩:=azR hh;have h0:=hh;obtain⟨rfl,rfl⟩:vs=[]/\bs=[]:=by
  cases vs<;>cases bs<;>first|exact⟨rfl,rfl⟩|exact h0.elim
 obtain⟨e0,r0⟩:=uzE qzP (qzM _) h0.1;subst e0;have hy:=Option.some.inj (show some (Lib.validD x)=some y from hy);subst hy;refine⟨_,[.bool (Lib.validD x)],rfl,fun g w=>⟨FzF notAgg4 (enc4_eq _),rfl⟩,?_⟩;refine(Any.utf8_ValidString Tryz.lays196 ⟨x.toArray⟩ w (by simp[ByteArray.size];unfold az6 at r0;omega) hinv.2.2.1).mono ?_;rintro e w' ⟨rfl,hb⟩;exact⟨rfl,sz5 hb⟩
end Go.Proofs.YtmkmofdnmllioaaGreatDoor
/- V1 -/
namespace Go.Proofs.YtmkmofdnmllioaaGreatDoor
open Go Go.Ev
open Go.IntKind (i64 u64 u8 i32 u32 i16 u16)
set_option linter.unusedVariables false
def kzT (x:Int):Option (Val):=obnd (bzH x) fun y=>some {Kind:=1,N:=y,S:=[],B:=false,E:=0}
def law9_NS:FSpec tb:=⟨[(0,.val 2)],[(0,.val 45)],kzT⟩
theorem rzh:A0 19 law9_NS:=A1 Tryz.func19 (.cons dz0 .nil)
def azm (x:Int):Option (Val):=some {Kind:=4,N:={M:=0,S:=0},S:=[],B:=false,E:=x}
def fzh:FSpec tb:=⟨[(0,.val 3)],[(0,.val 45)],azm⟩
theorem azH:A0 20 fzh:=A1 Tryz.func20 .nil
def bzd (x:Val):Option (Dec×Val×Bool):=brn (decide (x.Kind=1)) (some (x.N,{Kind:=0,N:={M:=0,S:=0},S:=[],B:=false,E:=0},true)) (brn (decide (x.Kind=2)) (obnd (qzm x.S) fun y=>brn (decide (y.2=0)) (some (y.1,{Kind:=0,N:={M:=0,S:=0},S:=[],B:=false,E:=0},true)) (obnd (azm 15) fun y=>some ({M:=0,S:=0},y,false))) (brn (decide (x.Kind=3)) (brn x.B (obnd (bzH 1) fun y=>some (y,{Kind:=0,N:={M:=0,S:=0},S:=[],B:=false,E:=0},true)) (some ({M:=0,S:=0},{Kind:=0,N:={M:=0,S:=0},S:=[],B:=false,E:=0},true))) (brn (decide (x.Kind=4)) (some ({M:=0,S:=0},x,false)) (some ({M:=0,S:=0},{Kind:=0,N:={M:=0,S:=0},S:=[],B:=false,E:=0},true)))))
def lzK:FSpec tb:=⟨[(0,.val 45)],[(0,.val 43),(1,.val 45),(2,.val 4)],bzd⟩
theorem czN:A0 126 lzK:=A1 Tryz.func126 (.cons CzY (.cons azH (.cons dz0 .nil)))
def czl (x:Val):Option (Bool×Val×Bool):=brn (decide (x.Kind=1)) (some (!decide (x.N.M=0),{Kind:=0,N:={M:=0,S:=0},S:=[],B:=false,E:=0},true)) (brn (decide (x.Kind=2)) (brn (!decide (x.S=[84,82,85,69])) (brn (!decide (x.S=U8s [70,65,76,83,69])) (obnd (azm 15) fun y=>some (false,y,false)) (some (decide (x.S=[84,82,85,69]),{Kind:=0,N:={M:=0,S:=0},S:=[],B:=false,E:=0},true))) (some (decide (x.S=[84,82,85,69]),{Kind:=0,N:={M:=0,S:=0},S:=[],B:=false,E:=0},true))) (brn (decide (x.Kind=3)) (some (x.B,{Kind:=0,N:={M:=0,S:=0},S:=[],B:=false,E:=0},true)) (brn (decide (x.Kind=4)) (some (false,x,false)) (some (false,{Kind:=0,N:={M:=0,S:=0},S:=[],B:=false,E:=0},true)))))
def vzr:FSpec tb:=⟨[(0,.val 45)],[(0,.val 4),(1,.val 45),(2,.val 4)],czl⟩
theorem nz0:A0 123 vzr:=A1 Tryz.func123 (.cons azH .nil)
def szU (x:Int):Option (List UInt8):=brn (decide (x=0)) (some (U8s [35,78,85,76,76,33])) (brn (decide (x=7)) (some (U8s [35,68,73,86,47,48,33])) (brn (decide (x=15)) (some (U8s [35,86,65,76,85,69,33])) (brn (decide (x=23)) (some (U8s [35,82,69,70,33])) (brn (decide (x=29)) (some (U8s [35,78,65,77,69,63])) (brn (decide (x=36)) (some (U8s [35,78,85,77,33])) (brn (decide (x=42)) (some [35,78,47,65]) (some [])))))))
def val_nameS:FSpec tb:=⟨[(0,.val 3)],[(0,.val 9)],szU⟩
theorem Gzh:A0 198 val_nameS:=A1 Tryz.func198 .nil
def dz7 (x:Val):Option (List UInt8):=brn (decide (x.Kind=1)) (obnd (rz8 x.N) fun y=>some y) (brn (decide (x.Kind=2)) (some x.3) (brn (decide (x.Kind=3)) (brn x.B (some [84,82,85,69]) (some (U8s [70,65,76,83,69]))) (brn (decide (x.Kind=4)) (obnd (szU x.E) fun y=>some y) (some []))))
def Gz9:FSpec tb:=⟨[(0,.val 45)],[(0,.val 9)],dz7⟩
theorem tz9:A0 131 Gz9:=A1 Tryz.func131 (.cons Fzg (.cons Gzh .nil))
def dzT (x:Val):Option (List UInt8×Val×Bool):=brn (decide (x.Kind=4)) (some ([],x,false)) (obnd (dz7 x) fun y=>some (y,{Kind:=0,N:={M:=0,S:=0},S:=[],B:=false,E:=0},true))
def vzs:FSpec tb:=⟨[(0,.val 45)],[(0,.val 9),(1,.val 45),(2,.val 4)],dzT⟩
theorem szT:A0 171 vzs:=A1 Tryz.func171 (.cons tz9 .nil)
def jzx (back:List (Int)×((List UInt8×Nat))->Option ((List (Int))×((List UInt8×Nat))))(x:List (Int)×((List UInt8×Nat))):Option ((List (Int))×((List UInt8×Nat))):=brn (decide (x.2.2<x.2.1.length)) (brn (decide ((↑(rune x.2.1 x.2.2).1:Int)<65536)) (obnd (app 8 x.1 [i64.wrap (↑(rune x.2.1 x.2.2).1:Int)]) fun zs=>back (zs,x.2.1,x.2.2+(rune x.2.1 x.2.2).2)) (obnd (app 8 x.1 [i64.wrap (55296+i64.wrap ((i32.wrap ((↑(rune x.2.1 x.2.2).1:Int)-65536)).fdiv 1024)),i64.wrap (56320+i64.wrap (azn BinOp.and i32 (i32.wrap ((↑(rune x.2.1 x.2.2).1:Int)-65536)) 1023))]) fun zs=>back (zs,x.2.1,x.2.2+(rune x.2.1 x.2.2).2))) (some x)
def pz7:List (Int)×((List UInt8×Nat))->Option ((List (Int))×((List UInt8×Nat))):=iter jzx big
def pz6:CutSpec tb:=⟨36,[(3,.own 3),(7,.iter)],[((.exit 0),[(3,.own 3)])],[8,9,10,5,11,12,13,14,15,16,17,3,18,19,20,21,22,23,24,25,26,27,28,29,30],pz7⟩
theorem EzQ:∀back x,bzI Tryz.prog tb [] [] (bzX 36 Tryz.f218) (pz6).ins (pz6).outs back x=jzx back x:=fun back x=>by kernel_rfl
theorem Czy:A3 Tryz.f218 36 pz6:=A4 .nil .nil jzx (hF:=EzQ)
def qzH (x:List UInt8):Option (List (Int)):=obnd (pz7 ([],x,0)) fun y=>some y.1
def MzM:FSpec tb:=⟨[(0,.val 9)],[(0,.own 3)],qzH⟩
theorem EzR:A0 218 MzM:=A2 Tryz.func218 .nil (.cons Czy .nil)
def izZ (x:List UInt8):Option (Int×Int):=obnd (lzv x) fun y=>brn (!y) (some (0,2)) (obnd (qzH x) fun y=>brn (decide (1000<(↑(List.length y):Int))) (some (0,4)) (some ((↑(List.length y):Int),0)))
def EzP:FSpec tb:=⟨[(0,.val 9)],[(0,.val 3),(1,.val 194)],izZ⟩
theorem szQ:A0 184 EzP:=A1 Tryz.func184 (.cons tzf (.cons EzR .nil))
abbrev MzP:List (Nat×FSpec tb):=[(233,pz8),(199,mzb)]
theorem vz4:azl Tryz.prog tb (MzP):=(.cons szZ (.cons ezD .nil))
def lz8 (back:List Int×Int×((List UInt8×Nat))->Option (((Int)×((List UInt8×Nat)))⊕((Int)×((List UInt8×Nat)))))(x:List Int×Int×((List UInt8×Nat))):Option (((Int)×((List UInt8×Nat)))⊕((Int)×((List UInt8×Nat)))):=brn (decide (x.2.2.2<x.2.2.1.length)) (brn (decide (x.2.1=(↑x.1.length:Int))) (some (Sum.inr (1,x.2.2.1,x.2.2.2+(rune x.2.2.1 x.2.2.2).2))) (obnd (idx x.1 x.2.1) fun y=>brn (!decide ((↑(rune x.2.2.1 x.2.2.2).1:Int)=y)) (obnd (idx x.1 x.2.1) fun y=>obnd (hzm ((↑(rune x.2.2.1 x.2.2.2).1:Int),y)) fun y=>some (Sum.inr (y,x.2.2.1,x.2.2.2+(rune x.2.2.1 x.2.2.2).2))) (back (x.1,i64.wrap (x.2.1+1),x.2.2.1,x.2.2.2+(rune x.2.2.1 x.2.2.2).2)))) (some (Sum.inl x.2))
def lz9:List Int×Int×((List UInt8×Nat))->Option (((Int)×((List UInt8×Nat)))⊕((Int)×((List UInt8×Nat)))):=iter lz8 big
def Izc:CutSpec tb:=⟨44,[(5,.val 272),(6,.val 3),(12,.iter)],[((.exit 0),[(6,.val 3)]),(.ret,[(4,.val 3)])],[13,14,15,8,16,17,18,19,4,20,21,22,23,24,25,26,27,28,29,30,31,32,33,6],lz9⟩
theorem CzG:A3 Tryz.f200 44 Izc:=A4 vz4 .nil lz8
def nz1 (x:List UInt8×List UInt8):Option (Int):=obnd (bif x.2.length.ble 70368744177664 then some (ezz x.2 x.2.length 0)else none) fun rs=>obnd (lz9 (rs,0,x.1,0)) fun y=>osum y (fun y=>obnd (azZ (y.1,(↑rs.length:Int))) fun y=>some y) fun y=>some y.1
def EzZ:FSpec tb:=⟨[(0,.val 9),(1,.val 9)],[(0,.val 3)],nz1⟩
theorem Ez0:A0 200 EzZ:=A2 Tryz.func200 vz4 (.cons CzG .nil)
def azP (x:Bool):Option (Int):=brn x (some 1) (some 0)
def AzD:FSpec tb:=⟨[(0,.val 4)],[(0,.val 3)],azP⟩
theorem CzF:A0 201 AzD:=A1 Tryz.func201 .nil
abbrev Kzd:List (Nat×FSpec tb):=[(199,mzb),(176,jzZ),(200,EzZ),(201,AzD)]
theorem nzZ:azl Tryz.prog tb (Kzd):=(.cons ezD (.cons hzn (.cons Ez0 (.cons CzF .nil))))
def azE (x:Val×Val):Option (Bool):=brn (decide (x.1.Kind=0)) (some (bif decide (x.2.Kind=4)then false else true)) (some false)
def EzX:CutSpec tb:=⟨16,[(2,.ro 45),(3,.ro 45)],[(.normal,[(12,.val 4)])],[5,6,7,8,9,10,11,12],(azE)⟩
theorem yzm:A5 Tryz.f132 16 EzX:=A6 nzZ .nil
def azx (x:Val×Val×Int):Option ((Unit)⊕(Int)):=brn (decide (x.2.2=1)) (obnd (dzF (x.1.N,x.2.1.N)) fun y=>some (Sum.inr y)) (brn (decide (x.2.2=2)) (obnd (nz1 (x.1.S,x.2.1.S)) fun y=>some (Sum.inr y)) (brn (decide (x.2.2=3)) (obnd (azP x.1.B) fun y=>obnd (azP x.2.1.B) fun y_1=>obnd (azZ (y,y_1)) fun y=>some (Sum.inr y)) (brn (decide (x.2.2=4)) (obnd (azZ (x.1.E,x.2.1.E)) fun y=>some (Sum.inr y)) (some (Sum.inl PUnit.unit)))))
def EzY:CutSpec tb:=⟨75,[(2,.ro 45),(3,.ro 45),(38,.val 3)],[(.normal,[]),(.ret,[(4,.val 3)])],[40,39,41,42,43,44,45,4,47,46,48,49,50,51,52,54,53,55,56,57,58,59,60,61,63,62,64,65,66,67,68],(azx)⟩
theorem yzn:A5 Tryz.f132 75 EzY:=A6 nzZ .nil
def azK (x:Val×Val):Option (Int):=obnd (azE x) fun y=>brn y (brn (decide (x.2.Kind=0)) (brn (!decide (x.2.Kind=4)) (brn (!decide (x.2.Kind=x.2.Kind)) (obnd (azZ (x.2.Kind,x.2.Kind)) fun y=>some y) (obnd (azx ({Kind:=x.2.Kind,N:={M:=0,S:=0},S:=[],B:=false,E:=0},{Kind:=x.2.Kind,N:={M:=0,S:=0},S:=[],B:=false,E:=0},x.2.Kind)) fun y=>osum y (fun y=>some 0) fun y=>some y)) (brn (!decide (x.2.Kind=x.2.Kind)) (obnd (azZ (x.2.Kind,x.2.Kind)) fun y=>some y) (obnd (azx ({Kind:=x.2.Kind,N:={M:=0,S:=0},S:=[],B:=false,E:=0},x.2,x.2.Kind)) fun y=>osum y (fun y=>some 0) fun y=>some y))) (brn (!decide (x.2.Kind=x.2.Kind)) (obnd (azZ (x.2.Kind,x.2.Kind)) fun y=>some y) (obnd (azx ({Kind:=x.2.Kind,N:={M:=0,S:=0},S:=[],B:=false,E:=0},x.2,x.2.Kind)) fun y=>osum y (fun y=>some 0) fun y=>some y))) (brn (decide (x.2.Kind=0)) (brn (!decide (x.1.Kind=4)) (brn (!decide (x.1.Kind=x.1.Kind)) (obnd (azZ (x.1.Kind,x.1.Kind)) fun y=>some y) (obnd (azx (x.1,{Kind:=x.1.Kind,N:={M:=0,S:=0},S:=[],B:=false,E:=0},x.1.Kind)) fun y=>osum y (fun y=>some 0) fun y=>some y)) (brn (!decide (x.1.Kind=x.2.Kind)) (obnd (azZ (x.1.Kind,x.2.Kind)) fun y=>some y) (obnd (azx (x.1,x.2,x.1.Kind)) fun y=>osum y (fun y=>some 0) fun y=>some y))) (brn (!decide (x.1.Kind=x.2.Kind)) (obnd (azZ (x.1.Kind,x.2.Kind)) fun y=>some y) (obnd (azx (x.1,x.2,x.1.Kind)) fun y=>osum y (fun y=>some 0) fun y=>some y)))
def yzl:FSpec tb:=⟨[(0,.val 45),(1,.val 45)],[(0,.val 3)],azK⟩
theorem zzU:A0 132 yzl:=A2 Tryz.func132 nzZ (.cons yzm (.cons yzn .nil))
def fzu (x:Dec):Option (Int):=brn (decide (x.S<0)) (some 1) (brn (decide (9<x.S)) (some 1) (brn (decide (0<x.S)) (brn (decide (x.M.tmod 10=0)) (some 1) (some 0)) (some 0)))
def izb:FSpec tb:=⟨[(0,.val 23)],[(0,.val 3)],fzu⟩
theorem Bz8:∀x,evFn Tryz.prog tb [] [] Tryz.f68 izb.ins izb.outs x=izb.f x:=fun x=>by kernel_rfl
theorem wzx:A0 68 izb:=A1 Tryz.func68 .nil (hJ:=Bz8)
def kz4 (x:Int×Int×Int):Option ((Int×Int×Int)⊕(List (Int)×Bool)):=brn (decide (x.1<128)) (some (Sum.inl (x.2.1,x.1,x.2.2))) (brn (decide (194<=x.1)) (brn (decide (x.1<224)) (some (Sum.inl (1,azn BinOp.and i64 x.1 31,128))) (brn (decide (224<=x.1)) (brn (decide (x.1<240)) (some (Sum.inl (2,azn BinOp.and i64 x.1 15,2048))) (brn (decide (240<=x.1)) (brn (decide (x.1<245)) (some (Sum.inl (3,azn BinOp.and i64 x.1 7,65536))) (some (Sum.inr ([],false)))) (some (Sum.inr ([],false))))) (brn (decide (240<=x.1)) (brn (decide (x.1<245)) (some (Sum.inl (3,azn BinOp.and i64 x.1 7,65536))) (some (Sum.inr ([],false)))) (some (Sum.inr ([],false)))))) (brn (decide (224<=x.1)) (brn (decide (x.1<240)) (some (Sum.inl (2,azn BinOp.and i64 x.1 15,2048))) (brn (decide (240<=x.1)) (brn (decide (x.1<245)) (some (Sum.inl (3,azn BinOp.and i64 x.1 7,65536))) (some (Sum.inr ([],false)))) (some (Sum.inr ([],false))))) (brn (decide (240<=x.1)) (brn (decide (x.1<245)) (some (Sum.inl (3,azn BinOp.and i64 x.1 7,65536))) (some (Sum.inr ([],false)))) (some (Sum.inr ([],false))))))
def izi:CutSpec tb:=⟨83,[(6,.val 3),(7,.val 3),(9,.val 3)],[(.normal,[(7,.val 3),(8,.val 3),(9,.val 3)]),(.ret,[(2,.own 3),(3,.val 4)])],[21,22,20,23,8,25,26,27,28,29,30,24,7,31,32,9,34,35,36,37,38,39,33,40,41,43,44,45,46,47,48,42,49,50,2,3],(kz4)⟩
theorem Cze:∀x,lzO Tryz.prog tb [] [] (iz1 83 Tryz.f109) (izi).ins (izi).outs x=(izi).J x:=fun x=>by kernel_rfl
theorem zzJ:A5 Tryz.f109 83 izi:=A6 .nil .nil (hJ:=Cze)
def fzw (back:List UInt8×Int×Int×Int×Int->Option ((Int)⊕(List (Int)×Bool)))(x:List UInt8×Int×Int×Int×Int):Option ((Int)⊕(List (Int)×Bool)):=brn (decide (x.2.2.2.2<=x.2.2.1)) (obnd (idx x.1 (i64.wrap (x.2.1+x.2.2.2.2))) fun y=>brn (!decide (azn BinOp.and i64 (i64.wrap (↑y.toNat:Int)) 192=128)) (some (Sum.inr ([],false))) (back (x.1,x.2.1,x.2.2.1,azn BinOp.or i64 (i64.wrap (x.2.2.2.1*64)) (azn BinOp.and i64 (i64.wrap (↑y.toNat:Int)) 63),i64.wrap (x.2.2.2.2+1)))) (some (Sum.inl x.2.2.2.1))
def izk:List UInt8×Int×Int×Int×Int->Option ((Int)⊕(List (Int)×Bool)):=iter fzw big
def kz6:CutSpec tb:=⟨220,[(0,.val 9),(5,.val 3),(7,.val 3),(8,.val 3),(10,.val 3)],[((.exit 3),[(8,.val 3)]),(.ret,[(2,.own 3),(3,.val 4)])],[57,58,59,62,63,64,65,66,67,11,68,69,70,2,3,71,72,73,74,75,8,60,61,10],izk⟩
theorem Czg:∀back x,bzI Tryz.prog tb [] [] (bzX 220 Tryz.f109) (kz6).ins (kz6).outs back x=fzw back x:=fun back x=>by kernel_rfl
theorem zzL:A3 Tryz.f109 220 kz6:=A4 .nil .nil fzw (hF:=Czg)
def kz3 (x:List UInt8×List (Int)×Int):Option ((List (Int)×Int)⊕(List (Int)×Bool)):=obnd (idx x.1 x.2.2) fun y=>obnd (kz4 (i64.wrap (↑y.toNat:Int),0,0)) fun y=>osum y (fun y=>brn (decide (i64.wrap ((↑x.1.length:Int)-x.2.2)<=y.1)) (some (Sum.inr ([],false))) (obnd (izk (x.1,x.2.2,y.1,y.2.1,1)) fun y_1=>osum y_1 (fun y_2=>brn (decide (y_2<y.2.2)) (some (Sum.inr ([],false))) (brn (decide (55296<=y_2)) (brn (decide (y_2<57344)) (some (Sum.inr ([],false))) (brn (decide (1114111<y_2)) (some (Sum.inr ([],false))) (obnd (app 8 x.2.1 [y_2]) fun zs=>some (Sum.inl (zs,i64.wrap (i64.wrap (x.2.2+y.1)+1)))))) (brn (decide (1114111<y_2)) (some (Sum.inr ([],false))) (obnd (app 8 x.2.1 [y_2]) fun zs=>some (Sum.inl (zs,i64.wrap (i64.wrap (x.2.2+y.1)+1))))))) fun y=>some (Sum.inr y))) fun y=>some (Sum.inr y)
def izh:CutSpec tb:=⟨43,[(0,.val 9),(4,.own 3),(5,.val 3)],[(.normal,[(4,.own 3),(5,.val 3)]),(.ret,[(2,.own 3),(3,.val 4)])],[16,17,18,19,6,7,8,9,21,22,20,23,25,26,27,28,29,30,24,31,32,34,35,36,37,38,39,33,40,41,43,44,45,46,47,48,42,49,50,2,3,51,52,53,54,55,56,10,57,58,59,62,63,64,65,66,67,11,68,69,70,71,72,73,74,75,60,61,76,77,78,79,80,81,82,83,84,85,86,87,88,89,90,91,92,93,94,4,95,96,97,98,5],(kz3)⟩
theorem Czd:∀x,lzO Tryz.prog tb [] [izi,kz6] (iz1 43 Tryz.f109) (izh).ins (izh).outs x=(izh).J x:=fun x=>by kernel_rfl
theorem zzI:A5 Tryz.f109 43 izh:=A6 .nil (.cons zzJ (.cons zzL .nil)) (hJ:=Czd)
def izj (back:List UInt8×List (Int)×Int->Option ((List (Int))⊕(List (Int)×Bool)))(x:List UInt8×List (Int)×Int):Option ((List (Int))⊕(List (Int)×Bool)):=brn (decide (x.2.2<(↑x.1.length:Int))) (obnd (kz3 (x.1,x.2)) fun y=>osum y (fun y=>back (x.1,y)) fun y=>some (Sum.inr y)) (some (Sum.inl x.2.1))
def ozI:List UInt8×List (Int)×Int->Option ((List (Int))⊕(List (Int)×Bool)):=iter izj big
def kz5:CutSpec tb:=⟨36,[(0,.val 9),(4,.own 3),(5,.val 3)],[((.exit 0),[(4,.own 3)]),(.ret,[(2,.own 3),(3,.val 4)])],[12,13,14,15,16,17,18,19,6,7,8,9,21,22,20,23,25,26,27,28,29,30,24,31,32,34,35,36,37,38,39,33,40,41,43,44,45,46,47,48,42,49,50,2,3,51,52,53,54,55,56,10,57,58,59,62,63,64,65,66,67,11,68,69,70,71,72,73,74,75,60,61,76,77,78,79,80,81,82,83,84,85,86,87,88,89,90,91,92,93,94,4,95,96,97,98,5],ozI⟩
theorem Czf:∀back x,bzI Tryz.prog tb [] [izh] (bzX 36 Tryz.f109) (kz5).ins (kz5).outs back x=izj back x:=fun back x=>by kernel_rfl
theorem zzK:A3 Tryz.f109 36 kz5:=A4 .nil (.cons zzI .nil) izj (hF:=Czf)
def gz8 (x:List UInt8):Option (List (Int)×Bool):=obnd (ozI (x,[],0)) fun y=>osum y (fun y=>some (y,true)) fun y=>some y
def jzF:FSpec tb:=⟨[(0,.val 9)],[(0,.own 3),(1,.val 4)],gz8⟩
theorem HzU:∀x,evFn Tryz.prog tb [] [kz5] Tryz.f109 jzF.ins jzF.outs x=jzF.f x:=fun x=>by kernel_rfl
theorem rzC:A0 109 jzF:=A2 Tryz.func109 .nil (.cons zzK .nil) (hJ:=HzU)
def izr (back:List Int×List (Int)×Int->Option (List (Int)))(x:List Int×List (Int)×Int):Option (List (Int)):=brn (decide (x.2.2<(↑x.1.length:Int))) (obnd (idx x.1 x.2.2) fun y=>brn (decide (y<65536)) (obnd (idx x.1 x.2.2) fun y=>obnd (app 8 x.2.1 [y]) fun zs=>back (x.1,zs,i64.wrap (x.2.2+1))) (obnd (idx x.1 x.2.2) fun y=>obnd (app 8 x.2.1 [azn BinOp.or i64 55296 ((i64.wrap (y-65536)).fdiv 1024),azn BinOp.or i64 56320 (azn BinOp.and i64 (i64.wrap (y-65536)) 1023)]) fun zs=>back (x.1,zs,i64.wrap (x.2.2+1)))) (some x.2.1)
def ozO:List Int×List (Int)×Int->Option (List (Int)):=iter izr big
def lzg:CutSpec tb:=⟨36,[(0,.val 169),(3,.own 3),(4,.val 3)],[((.exit 0),[(3,.own 3)])],[6,7,8,9,12,13,14,15,16,17,18,19,20,21,22,23,3,24,25,26,27,28,5,29,30,31,32,33,34,35,36,37,10,11,4],ozO⟩
theorem Czt:∀back x,bzI Tryz.prog tb [] [] (bzX 36 Tryz.f110) (lzg).ins (lzg).outs back x=izr back x:=fun back x=>by kernel_rfl
theorem zzR:A3 Tryz.f110 36 lzg:=A4 .nil .nil izr (hF:=Czt)
def pzg (x:List Int):Option (List (Int)):=obnd (ozO (x,[],0)) fun y=>some y
def lzF:FSpec tb:=⟨[(0,.val 169)],[(0,.own 3)],pzg⟩
theorem Hz1:∀x,evFn Tryz.prog tb [] [lzg] Tryz.f110 lzF.ins lzF.outs x=lzF.f x:=fun x=>by kernel_rfl
theorem Czu:A0 110 lzF:=A2 Tryz.func110 .nil (.cons zzR .nil) (hJ:=Hz1)
def fzm (x:List UInt8):Option (Int×Int):=obnd (gz8 x) fun y=>brn (!y.2) (some (0,2)) (obnd (pzg y.1) fun y=>brn (decide (1000<(↑(List.length y):Int))) (some (0,4)) (some ((↑(List.length y):Int),0)))
def gz9:FSpec tb:=⟨[(0,.val 9)],[(0,.val 3),(1,.val 3)],fzm⟩
theorem HzV:∀x,evFn Tryz.prog tb [(109,jzF),(110,lzF)] [] Tryz.f69 gz9.ins gz9.outs x=gz9.f x:=fun x=>by kernel_rfl
theorem izX:A0 69 gz9:=A1 Tryz.func69 (.cons rzC (.cons Czu .nil)) (hJ:=HzV)
def hzY (x:Int):Option (List UInt8):=brn (decide (x=0)) (some (U8s [35,78,85,76,76,33])) (brn (decide (x=7)) (some (U8s [35,68,73,86,47,48,33])) (brn (decide (x=15)) (some (U8s [35,86,65,76,85,69,33])) (brn (decide (x=23)) (some (U8s [35,82,69,70,33])) (brn (decide (x=29)) (some (U8s [35,78,65,77,69,63])) (brn (decide (x=36)) (some (U8s [35,78,85,77,33])) (brn (decide (x=42)) (some [35,78,47,65]) (some [])))))))
def tzS:FSpec tb:=⟨[(0,.val 3)],[(0,.val 9)],hzY⟩
theorem nz9:A0 70 tzS:=A1 Tryz.func70 .nil
abbrev Dz8:List (Nat×FSpec tb):=[(68,izb),(69,gz9),(70,tzS)]
theorem pzu:azl Tryz.prog tb (Dz8):=(.cons wzx (.cons izX (.cons nz9 .nil)))
def czI (x:Val):Option (Bool):=brn (!decide (x.Kind=1)) (brn (bif true then !(decide (x.N.M=0)&&decide (x.N.S=0))else decide (x.N.M=0)&&decide (x.N.S=0)) (some true) (brn (!decide (x.Kind=2)) (brn (!decide (x.S=[])) (some true) (brn (!decide (x.Kind=3)) (brn x.B (some true) (brn (!decide (x.Kind=4)) (some (bif decide (x.E=0)then false else true)) (some false))) (brn (!decide (x.Kind=4)) (some (bif decide (x.E=0)then false else true)) (some false)))) (brn (!decide (x.Kind=3)) (brn x.B (some true) (brn (!decide (x.Kind=4)) (some (bif decide (x.E=0)then false else true)) (some false))) (brn (!decide (x.Kind=4)) (some (bif decide (x.E=0)then false else true)) (some false))))) (brn (!decide (x.Kind=2)) (brn (!decide (x.S=[])) (some true) (brn (!decide (x.Kind=3)) (brn x.B (some true) (brn (!decide (x.Kind=4)) (some (bif decide (x.E=0)then false else true)) (some false))) (brn (!decide (x.Kind=4)) (some (bif decide (x.E=0)then false else true)) (some false)))) (brn (!decide (x.Kind=3)) (brn x.B (some true) (brn (!decide (x.Kind=4)) (some (bif decide (x.E=0)then false else true)) (some false))) (brn (!decide (x.Kind=4)) (some (bif decide (x.E=0)then false else true)) (some false))))
def xzP:CutSpec tb:=⟨32,[(1,.ro 25)],[(.normal,[(50,.val 4)])],[13,14,15,16,17,18,19,20,21,22,23,24,25,26,27,28,29,30,31,32,33,34,35,36,37,38,39,40,41,42,43,44,45,46,47,48,49,50],(czI)⟩
theorem tzR:A5 Tryz.f44 32 xzP:=A6 pzu .nil
def czx (x:Val):Option (Int):=brn (decide (x.Kind<0)) (some 1) (brn (decide (4<x.Kind)) (some 1) (obnd (czI x) fun y=>brn y (some 1) (brn (decide (x.Kind=1)) (obnd (fzu x.N) fun y=>some y) (brn (decide (x.Kind=2)) (obnd (fzm x.S) fun y=>some y.2) (brn (decide (x.Kind=4)) (obnd (hzY x.E) fun y=>brn (decide (y=[])) (some 1) (some 0)) (some 0))))))
def nzx:FSpec tb:=⟨[(0,.val 25)],[(0,.val 3)],czx⟩
theorem nzy:A0 44 nzx:=A2 Tryz.func44 pzu (.cons tzR .nil)
def Jzi (x:Dec):Option (Dec):=some x
def law4_ToS:FSpec tb:=⟨[(0,.val 23)],[(0,.val 43)],Jzi⟩
theorem HzE:A0 49 law4_ToS:=A1 Tryz.func49 .nil
def rzi (x:Val):Option (Val):=obnd (Jzi x.N) fun y=>some {Kind:=x.Kind,N:=y,S:=x.S,B:=x.B,E:=x.E}
def Bzy:FSpec tb:=⟨[(0,.val 25)],[(0,.val 45)],rzi⟩
theorem vzM:A0 30 Bzy:=A1 Tryz.func30 (.cons HzE .nil)
def Jzh (x:Dec):Option (Dec):=some x
def law4_OfS:FSpec tb:=⟨[(0,.val 43)],[(0,.val 23)],Jzh⟩
theorem HzD:A0 28 law4_OfS:=A1 Tryz.func28 .nil
def Bzx (x:Val):Option (Val):=obnd (Jzh x.N) fun y=>some {Kind:=x.Kind,N:=y,S:=x.S,B:=x.B,E:=x.E}
def law9_OfS:FSpec tb:=⟨[(0,.val 45)],[(0,.val 25)],Bzx⟩
theorem HzG:A0 6 law9_OfS:=A1 Tryz.func6 (.cons HzD .nil)
def azg (x:Int):Option (Val):=some {Kind:=4,N:={M:=0,S:=0},S:=[],B:=false,E:=x}
def bzY:FSpec tb:=⟨[(0,.val 3)],[(0,.val 25)],azg⟩
theorem azG:A0 52 bzY:=A1 Tryz.func52 .nil
def jzr (back:Big×Int->Option (Int))(x:Big×Int):Option (Int):=brn (decide (0<x.2)) (obnd (idx x.1.D (i64.wrap (x.2-1))) fun y=>brn (decide (y=0)) (back (x.1,i64.wrap (x.2-1))) (some x.2)) (some x.2)
def pzZ:Big×Int->Option (Int):=iter jzr big
def lz6:CutSpec tb:=⟨28,[(1,.ro 204),(3,.val 3)],[((.exit 0),[(3,.val 3)])],[7,8,9,10,11,12,13,14,15,16,17,18,19,3],pzZ⟩
theorem EzC:∀back x,bzI Tryz.prog tb [] [] (bzX 28 Tryz.f143) (lz6).ins (lz6).outs back x=jzr back x:=fun back x=>by kernel_rfl
theorem Czs:A3 Tryz.f143 28 lz6:=A4 .nil .nil jzr (hF:=EzC)
def bzr (x:Big):Option (Big):=obnd (pzZ (x,(↑x.D.length:Int))) fun y=>obnd (sub x.D 0 y) fun z=>brn (decide (y=0)) (some {Minus:=false,D:=z}) (some {Minus:=x.Minus,D:=z})
def dzQ:FSpec tb:=⟨[(0,.val 204)],[(0,.val 204)],bzr⟩
theorem JzR:∀x,evFn Tryz.prog tb [] [lz6] Tryz.f143 dzQ.ins dzQ.outs x=dzQ.f x:=fun x=>by kernel_rfl
theorem dzR:A0 143 dzQ:=A2 Tryz.func143 .nil (.cons Czs .nil) (hJ:=JzR)
def izn (back:Int×Big->Option ((Int)×Big))(x:Int×Big):Option ((Int)×Big):=brn (decide (0<x.1)) (brn (decide ((↑x.2.D.length:Int)=0)) (brn (decide (0<(↑x.2.D.length:Int))) (obnd (sub x.2.D 1 (↑x.2.D.length:Int)) fun z=>back (i64.wrap (x.1-1),{Minus:=x.2.Minus,D:=z})) (back (i64.wrap (x.1-1),x.2))) (obnd (idx x.2.D 0) fun y=>brn (decide (y=0)) (brn (decide (0<(↑x.2.D.length:Int))) (obnd (sub x.2.D 1 (↑x.2.D.length:Int)) fun z=>back (i64.wrap (x.1-1),{Minus:=x.2.Minus,D:=z})) (back (i64.wrap (x.1-1),x.2))) (some x))) (some x)
def ozK:Int×Big->Option ((Int)×Big):=iter izn big
def lzb:CutSpec tb:=⟨20,[(1,.val 3),(2,.ref 204)],[((.exit 0),[(1,.val 3)])],[8,9,10,11,12,13,14,15,16,17,18,19,20,21,22,23,24,25,26,27,28,29,30,31,32,33,34,1],ozK⟩
theorem Czn:∀back x,bzI Tryz.prog tb [] [] (bzX 20 Tryz.f138) (lzb).ins (lzb).outs back x=izn back x:=fun back x=>by kernel_rfl
theorem zzN:A3 Tryz.f138 20 lzb:=A4 .nil .nil izn (hF:=Czn)
def izo (back:Big×Int×Int->Option (Int))(x:Big×Int×Int):Option (Int):=brn (decide (0<=x.2.2)) (obnd (idx x.1.D x.2.2) fun y=>back (x.1,u64.wrap (u64.wrap (10*x.2.1)+u64.wrap y),i64.wrap (x.2.2-1))) (some x.2.1)
def ozL:Big×Int×Int->Option (Int):=iter izo big
def lzc:CutSpec tb:=⟨84,[(2,.ro 204),(6,.val 275),(7,.val 3)],[((.exit 2),[(6,.val 275)])],[44,45,48,49,50,51,52,53,54,55,56,6,46,47,7],ozL⟩
theorem Czo:∀back x,bzI Tryz.prog tb [] [] (bzX 84 Tryz.f138) (lzc).ins (lzc).outs back x=izo back x:=fun back x=>by kernel_rfl
theorem zzO:A3 Tryz.f138 84 lzc:=A4 .nil .nil izo (hF:=Czo)
def bzi (x:Big×Int):Option (Dec×Int):=obnd (ozK (x.2,x.1)) fun y=>brn (decide (19<(↑y.2.D.length:Int))) (some ({M:=0,S:=0},8)) (obnd (ozL (y.2,0,i64.wrap ((↑y.2.D.length:Int)-1))) fun y_1=>brn y.2.Minus (brn (decide (9223372036854775808<y_1)) (some ({M:=0,S:=0},8)) (some ({M:=i64.wrap (u64.wrap (0-y_1)),S:=y.1},0))) (brn (decide (9223372036854775807<y_1)) (some ({M:=0,S:=0},8)) (some ({M:=i64.wrap y_1,S:=y.1},0))))
def dzd:FSpec tb:=⟨[(0,.val 204),(1,.val 3)],[(0,.val 23),(1,.val 3)],bzi⟩
theorem HzZ:∀x,evFn Tryz.prog tb [] [lzb,lzc] Tryz.f138 dzd.ins dzd.outs x=dzd.f x:=fun x=>by kernel_rfl
theorem dzn:A0 138 dzd:=A2 Tryz.func138 .nil (.cons zzN (.cons zzO .nil)) (hJ:=HzZ)
abbrev dzv:List (Nat×FSpec tb):=[(143,dzQ),(138,dzd)]
theorem czY:azl Tryz.prog tb (dzv):=(.cons dzR (.cons dzn .nil))
def hzD (x:List UInt8):Option (Bool):=brn (decide (0<(↑x.length:Int))) (obnd (idx x 0) fun y=>some (decide ((↑y.toNat:Int)=45))) (some false)
def ez3:CutSpec tb:=⟨32,[(0,.val 9)],[(.normal,[(23,.val 4)])],[16,17,18,19,20,21,22,23],(hzD)⟩
theorem wzC:∀x,lzO Tryz.prog tb dzv [] (iz1 32 Tryz.f136) (ez3).ins (ez3).outs x=(ez3).J x:=fun x=>by kernel_rfl
theorem vzb:A5 Tryz.f136 32 ez3:=A6 czY .nil (hJ:=wzC)
def hzE (x:Big×Int×Bool):Option ((Int)×Big):=brn x.2.2 (some (i64.wrap (x.2.1+1),{Minus:=true,D:=x.1.D})) (some (x.2.1,x.1))
def ez4:CutSpec tb:=⟨42,[(4,.ref 204),(5,.val 3),(23,.val 4)],[(.normal,[(5,.val 3)])],[24,25,26,5],(hzE)⟩
theorem wzD:∀x,lzO Tryz.prog tb dzv [] (iz1 42 Tryz.f136) (ez4).ins (ez4).outs x=(ez4).J x:=fun x=>by kernel_rfl
theorem vzc:A5 Tryz.f136 42 ez4:=A6 czY .nil (hJ:=wzD)
def ez8 (back:List UInt8×Dec×Big×Int×Int×Int->Option (((Int)×(Dec×Big))⊕((Int)×(Dec×Big))))(x:List UInt8×Dec×Big×Int×Int×Int):Option (((Int)×(Dec×Big))⊕((Int)×(Dec×Big))):=brn (decide (x.2.2.2.2.2<(↑x.1.length:Int))) (obnd (idx x.1 x.2.2.2.2.2) fun y=>brn (decide ((↑y.toNat:Int)=46)) (brn (decide (x.2.2.2.2.1<0)) (brn (decide (x.2.2.2.1<x.2.2.2.2.2)) (back (x.1,x.2.1,x.2.2.1,x.2.2.2.1,x.2.2.2.2.2,i64.wrap (x.2.2.2.2.2+1))) (obnd (idx x.1 x.2.2.2.2.2) fun y=>brn (decide (48<=(↑y.toNat:Int))) (obnd (idx x.1 x.2.2.2.2.2) fun y=>brn (decide ((↑y.toNat:Int)<=57)) (obnd (idx x.1 x.2.2.2.2.2) fun y=>obnd (app 8 [i64.wrap (u8.wrap ((↑y.toNat:Int)-48))] x.2.2.1.D) fun zs=>back (x.1,x.2.1,{Minus:=x.2.2.1.Minus,D:=zs},x.2.2.2.1,x.2.2.2.2.1,i64.wrap (x.2.2.2.2.2+1))) (some (Sum.inr (2,{M:=0,S:=0},x.2.2.1)))) (some (Sum.inr (2,{M:=0,S:=0},x.2.2.1))))) (obnd (idx x.1 x.2.2.2.2.2) fun y=>brn (decide (48<=(↑y.toNat:Int))) (obnd (idx x.1 x.2.2.2.2.2) fun y=>brn (decide ((↑y.toNat:Int)<=57)) (obnd (idx x.1 x.2.2.2.2.2) fun y=>obnd (app 8 [i64.wrap (u8.wrap ((↑y.toNat:Int)-48))] x.2.2.1.D) fun zs=>back (x.1,x.2.1,{Minus:=x.2.2.1.Minus,D:=zs},x.2.2.2.1,x.2.2.2.2.1,i64.wrap (x.2.2.2.2.2+1))) (some (Sum.inr (2,{M:=0,S:=0},x.2.2.1)))) (some (Sum.inr (2,{M:=0,S:=0},x.2.2.1))))) (obnd (idx x.1 x.2.2.2.2.2) fun y=>brn (decide (48<=(↑y.toNat:Int))) (obnd (idx x.1 x.2.2.2.2.2) fun y=>brn (decide ((↑y.toNat:Int)<=57)) (obnd (idx x.1 x.2.2.2.2.2) fun y=>obnd (app 8 [i64.wrap (u8.wrap ((↑y.toNat:Int)-48))] x.2.2.1.D) fun zs=>back (x.1,x.2.1,{Minus:=x.2.2.1.Minus,D:=zs},x.2.2.2.1,x.2.2.2.2.1,i64.wrap (x.2.2.2.2.2+1))) (some (Sum.inr (2,{M:=0,S:=0},x.2.2.1)))) (some (Sum.inr (2,{M:=0,S:=0},x.2.2.1))))) (some (Sum.inl (x.2.2.2.2.1,x.2.1,x.2.2.1)))
def lzs:List UInt8×Dec×Big×Int×Int×Int->Option (((Int)×(Dec×Big))⊕((Int)×(Dec×Big))):=iter ez8 big
def hzF:CutSpec tb:=⟨84,[(0,.val 9),(2,.ref 23),(4,.ref 204),(6,.val 3),(7,.val 3),(8,.val 3)],[((.exit 0),[(7,.val 3)]),(.ret,[(3,.val 3)])],[29,30,31,32,37,38,39,40,41,42,43,44,45,46,47,48,49,36,50,7,52,53,54,55,56,57,58,59,60,61,51,62,63,64,65,66,67,68,69,70,71,35,3,33,34,8],lzs⟩
theorem wzH:∀back x,bzI Tryz.prog tb dzv [] (bzX 84 Tryz.f136) (hzF).ins (hzF).outs back x=ez8 back x:=fun back x=>by kernel_rfl
theorem vzg:A3 Tryz.f136 84 hzF:=A4 czY .nil ez8 (hF:=wzH)
def dzY (x:Int×Int×Int×Bool):Option (Int):=brn x.2.2.2 (some (i64.wrap (x.2.1-x.1))) (some x.2.2.1)
def ez5:CutSpec tb:=⟨154,[(6,.val 3),(7,.val 3),(9,.val 3),(77,.val 4)],[(.normal,[(9,.val 3)])],[78,79,80,9],(dzY)⟩
theorem wzE:∀x,lzO Tryz.prog tb dzv [] (iz1 154 Tryz.f136) (ez5).ins (ez5).outs x=(ez5).J x:=fun x=>by kernel_rfl
theorem vzd:A5 Tryz.f136 154 ez5:=A6 czY .nil (hJ:=wzE)
def dzZ (x:List UInt8×Int×Int×Int):Option (Bool):=brn (decide (x.2.2.2=0)) (some true) (brn (decide (x.2.2.1=i64.wrap ((↑x.1.length:Int)-1))) (some true) (obnd (idx x.1 x.2.1) fun y=>brn (decide ((↑y.toNat:Int)=48)) (some (decide (1<x.2.2.2))) (some false)))
def ez6:CutSpec tb:=⟨160,[(0,.val 9),(6,.val 3),(7,.val 3),(9,.val 3)],[(.normal,[(99,.val 4)])],[81,82,83,84,85,86,87,88,89,90,91,92,93,94,95,96,97,98,99],(dzZ)⟩
theorem wzF:∀x,lzO Tryz.prog tb dzv [] (iz1 160 Tryz.f136) (ez6).ins (ez6).outs x=(ez6).J x:=fun x=>by kernel_rfl
theorem vze:A5 Tryz.f136 160 ez6:=A6 czY .nil (hJ:=wzF)
def czZ (x:Int×Bool×Big):Option (Bool):=brn (decide ((↑x.2.2.D.length:Int)=0)) (brn x.2.1 (some (decide (x.1=0))) (some false)) (some false)
def ez7:CutSpec tb:=⟨216,[(10,.val 3),(11,.val 4),(12,.ro 204)],[(.normal,[(122,.val 4)])],[112,113,114,115,116,117,118,119,120,121,122],(czZ)⟩
theorem wzG:∀x,lzO Tryz.prog tb dzv [] (iz1 216 Tryz.f136) (ez7).ins (ez7).outs x=(ez7).J x:=fun x=>by kernel_rfl
theorem vzf:A5 Tryz.f136 216 ez7:=A6 czY .nil (hJ:=wzG)
def kz1 (x:List UInt8):Option (Dec×Int):=obnd (hzD x) fun y=>obnd (hzE ({Minus:=false,D:=[]},0,y)) fun y=>obnd (lzs (x,{M:=0,S:=0},y.2,y.1,-1,y.1)) fun y_1=>osum y_1 (fun y_2=>obnd (dzY (y.1,y_2.1,i64.wrap ((↑x.length:Int)-y.1),decide (0<=y_2.1))) fun y_3=>obnd (dzZ (x,y.1,y_2.1,y_3)) fun y=>brn y (some ({M:=0,S:=0},2)) (brn (decide (0<=y_2.1)) (obnd (bzr y_2.2.2) fun y=>obnd (czZ (i64.wrap (i64.wrap ((↑x.length:Int)-y_2.1)-1),y_2.2.2.Minus,y)) fun y_4=>brn y_4 (some ({M:=0,S:=0},2)) (obnd (bzi (y,0)) fun y=>brn (!decide (y.2=0)) (some ({M:=0,S:=0},y.2)) (brn (decide (9<i64.wrap (i64.wrap ((↑x.length:Int)-y_2.1)-1))) (some ({M:=0,S:=0},1)) (brn (decide (0<i64.wrap (i64.wrap ((↑x.length:Int)-y_2.1)-1))) (obnd (idx x (i64.wrap ((↑x.length:Int)-1))) fun y_5=>brn (decide ((↑y_5.toNat:Int)=48)) (some ({M:=0,S:=0},1)) (some ({M:=y.1.M,S:=i64.wrap (i64.wrap ((↑x.length:Int)-y_2.1)-1)},0))) (some ({M:=y.1.M,S:=i64.wrap (i64.wrap ((↑x.length:Int)-y_2.1)-1)},0)))))) (obnd (bzr y_2.2.2) fun y=>obnd (czZ (0,y_2.2.2.Minus,y)) fun y_4=>brn y_4 (some ({M:=0,S:=0},2)) (obnd (bzi (y,0)) fun y=>brn (!decide (y.2=0)) (some ({M:=0,S:=0},y.2)) (some ({M:=y.1.M,S:=0},0)))))) fun y=>some (y.2.1,y.1)
def kz2:FSpec tb:=⟨[(0,.val 9)],[(0,.val 23),(1,.val 3)],kz1⟩
theorem Czb:∀x,evFn Tryz.prog tb dzv [ez3,ez4,hzF,ez5,ez6,ez7] Tryz.f136 kz2.ins kz2.outs x=kz2.f x:=fun x=>by kernel_rfl
theorem wzI:A0 136 kz2:=A2 Tryz.func136 czY (.cons vzb (.cons vzc (.cons vzg (.cons vzd (.cons vze (.cons vzf .nil)))))) (hJ:=Czb)
def azX (x:Val):Option (Dec×Val×Bool):=brn (decide (x.Kind=1)) (some (x.N,{Kind:=0,N:={M:=0,S:=0},S:=[],B:=false,E:=0},true)) (brn (decide (x.Kind=3)) (brn x.B (some ({M:=1,S:=0},{Kind:=0,N:={M:=0,S:=0},S:=[],B:=false,E:=0},true)) (some ({M:=0,S:=0},{Kind:=0,N:={M:=0,S:=0},S:=[],B:=false,E:=0},true))) (brn (decide (x.Kind=2)) (obnd (kz1 x.S) fun y=>brn (!decide (y.2=0)) (obnd (azg 15) fun y=>some ({M:=0,S:=0},y,false)) (some (y.1,{Kind:=0,N:={M:=0,S:=0},S:=[],B:=false,E:=0},true))) (brn (decide (x.Kind=4)) (some ({M:=0,S:=0},x,false)) (some ({M:=0,S:=0},{Kind:=0,N:={M:=0,S:=0},S:=[],B:=false,E:=0},true)))))
def ezO:FSpec tb:=⟨[(0,.val 25)],[(0,.val 23),(1,.val 25),(2,.val 4)],azX⟩
theorem czJ:A0 85 ezO:=A1 Tryz.func85 (.cons wzI (.cons azG .nil))
def kzB (back:List (Int)×Big×Int->Option ((List (Int))×Big))(x:List (Int)×Big×Int):Option ((List (Int))×Big):=brn (decide (0<x.2.2)) (obnd (app 8 x.1 [i64.wrap (x.2.2.tmod 10)]) fun zs=>back (zs,{Minus:=x.2.1.Minus,D:=zs},u64.wrap (x.2.2.tdiv 10))) (some (x.1,{Minus:=x.2.1.Minus,D:=x.1}))
def nzO:List (Int)×Big×Int->Option ((List (Int))×Big):=iter kzB big
def nzN:CutSpec tb:=⟨52,[(8589934595,.own 3),(3,.ref 204),(4,.val 275)],[((.exit 0),[(8589934595,.own 3)])],[14,15,16,17,18,19,20,21,22,23,24,25,4],nzO⟩
theorem Gza:∀back x,bzI Tryz.prog tb [] [] (bzX 52 Tryz.f149) (nzN).ins (nzN).outs back x=kzB back x:=fun back x=>by kernel_rfl
theorem Ezv:A3 Tryz.f149 52 nzN:=A4 .nil .nil kzB (hF:=Gza)
def pzw (x:Int):Option (List (Int)×Big):=brn (decide (x<0)) (obnd (nzO ([],{Minus:=decide (x<0),D:=[]},u64.wrap (0-u64.wrap x))) fun y=>some (y.1,{Minus:=y.2.Minus,D:=y.1})) (obnd (nzO ([],{Minus:=decide (x<0),D:=[]},u64.wrap x)) fun y=>some (y.1,{Minus:=y.2.Minus,D:=y.1}))
def pzx:FSpec tb:=⟨[(0,.val 2)],[(8589934592,.own 3),(0,.val 204)],pzw⟩
theorem Lza:∀x,evFn Tryz.prog tb [] [nzN] Tryz.f149 pzx.ins pzx.outs x=pzx.f x:=fun x=>by kernel_rfl
theorem tz0:A0 149 pzx:=A2 Tryz.func149 .nil (.cons Ezv .nil) (hJ:=Lza)
def fze (x:Int):Option (Big):=obnd (pzw x) fun y=>some y.2
def nzM:FSpec tb:=⟨[(0,.val 2)],[(0,.val 204)],fze⟩
theorem jzT:azz Tryz.prog tb 149 nzM:=tz0.drop1 rfl fun x y h=>(by obtain⟨z,hz,h⟩:=azu.1 h;injection h with h;subst h;exact⟨z,hz,rfl,rfl⟩)
def lzG (back:List (Int)×Int×Big×Int->Option ((List (Int))×Big))(x:List (Int)×Int×Big×Int):Option ((List (Int))×Big):=brn (decide (x.2.2.2<x.2.1)) (obnd (app 8 x.1 [0]) fun zs=>back (zs,x.2.1,{Minus:=x.2.2.1.Minus,D:=zs},i64.wrap (x.2.2.2+1))) (some (x.1,{Minus:=x.2.2.1.Minus,D:=x.1}))
def tzd:List (Int)×Int×Big×Int->Option ((List (Int))×Big):=iter lzG big
def pzh:CutSpec tb:=⟨52,[(8589934597,.own 3),(1,.val 3),(5,.ref 204),(6,.val 3)],[((.exit 0),[(8589934597,.own 3)])],[15,16,17,20,21,22,23,24,18,19,6],tzd⟩
theorem Hz2:∀back x,bzI Tryz.prog tb [] [] (bzX 52 Tryz.f141) (pzh).ins (pzh).outs back x=lzG back x:=fun back x=>by kernel_rfl
theorem Gzb:A3 Tryz.f141 52 pzh:=A4 .nil .nil lzG (hF:=Hz2)
def mzB (x:Big×Int):Option (Big):=brn (decide ((↑x.1.D.length:Int)=0)) (some x.1) (obnd (tzd ([],x.2,{Minus:=x.1.Minus,D:=[]},0)) fun y=>obnd (app 8 y.1 x.1.D) fun zs=>some {Minus:=y.2.Minus,D:=zs})
def mzC:FSpec tb:=⟨[(0,.val 204),(1,.val 3)],[(0,.val 204)],mzB⟩
theorem MzA:∀x,evFn Tryz.prog tb [] [pzh] Tryz.f141 mzC.ins mzC.outs x=mzC.f x:=fun x=>by kernel_rfl
theorem pz0:A0 141 mzC:=A2 Tryz.func141 .nil (.cons Gzb .nil) (hJ:=MzA)
def hza (x:Dec×Dec):Option (Big×Big×Int):=obnd (fze x.1.M) fun y=>obnd (fze x.2.M) fun y_1=>brn (decide (x.1.S<x.2.S)) (obnd (mzB (y,i64.wrap (x.2.S-x.1.S))) fun y=>some (y,y_1,x.2.S)) (obnd (mzB (y_1,i64.wrap (x.1.S-x.2.S))) fun y_2=>some (y,y_2,x.1.S))
def fzn:FSpec tb:=⟨[(0,.val 23),(1,.val 23)],[(0,.val 204),(1,.val 204),(2,.val 3)],hza⟩
theorem HzW:∀x,evFn Tryz.prog tb [(149,nzM),(141,mzC)] [] Tryz.f137 fzn.ins fzn.outs x=fzn.f x:=fun x=>by kernel_rfl
theorem izY:A0 137 fzn:=A1 Tryz.func137 (.cons jzT (.cons pz0 .nil)) (hJ:=HzW)
def gzq (x:List Int×List Int×List (Int)×Int×Int):Option (List (Int)×Int):=brn (decide (x.2.2.2.2<(↑x.1.length:Int))) (obnd (idx x.1 x.2.2.2.2) fun y=>brn (decide (x.2.2.2.2<(↑x.2.1.length:Int))) (obnd (idx x.2.1 x.2.2.2.2) fun y_1=>obnd (app 8 x.2.2.1 [(i64.wrap (i64.wrap (x.2.2.2.1+y)+y_1)).tmod 10]) fun zs=>some (zs,i64.wrap ((i64.wrap (i64.wrap (x.2.2.2.1+y)+y_1)).tdiv 10))) (obnd (app 8 x.2.2.1 [(i64.wrap (x.2.2.2.1+y)).tmod 10]) fun zs=>some (zs,i64.wrap ((i64.wrap (x.2.2.2.1+y)).tdiv 10)))) (brn (decide (x.2.2.2.2<(↑x.2.1.length:Int))) (obnd (idx x.2.1 x.2.2.2.2) fun y=>obnd (app 8 x.2.2.1 [(i64.wrap (x.2.2.2.1+y)).tmod 10]) fun zs=>some (zs,i64.wrap ((i64.wrap (x.2.2.2.1+y)).tdiv 10))) (obnd (app 8 x.2.2.1 [x.2.2.2.1.tmod 10]) fun zs=>some (zs,i64.wrap (x.2.2.2.1.tdiv 10))))
def jzq:CutSpec tb:=⟨59,[(0,.val 169),(1,.val 169),(5,.own 3),(6,.val 3),(7,.val 3)],[(.normal,[(5,.own 3),(6,.val 3)])],[24,25,26,27,28,29,30,31,32,33,6,34,35,36,37,38,39,40,41,42,43,44,45,46,47,48,5,49,50],(gzq)⟩
theorem EzA:∀x,lzO Tryz.prog tb [] [] (iz1 59 Tryz.f142) (jzq).ins (jzq).outs x=(jzq).J x:=fun x=>by kernel_rfl
theorem Czl:A5 Tryz.f142 59 jzq:=A6 .nil .nil (hJ:=EzA)
def ezP (back:List Int×List Int×List (Int)×Int×Int->Option (List (Int)))(x:List Int×List Int×List (Int)×Int×Int):Option (List (Int)):=brn (decide (x.2.2.2.2<(↑x.1.length:Int))) (obnd (gzq (x.1,x.2.1,x.2.2.1,x.2.2.2)) fun y=>back (x.1,x.2.1,y.1,y.2,i64.wrap (x.2.2.2.2+1))) (brn (decide (x.2.2.2.2<(↑x.2.1.length:Int))) (obnd (gzq (x.1,x.2.1,x.2.2.1,x.2.2.2)) fun y=>back (x.1,x.2.1,y.1,y.2,i64.wrap (x.2.2.2.2+1))) (brn (decide (0<x.2.2.2.1)) (obnd (gzq (x.1,x.2.1,x.2.2.1,x.2.2.2)) fun y=>back (x.1,x.2.1,y.1,y.2,i64.wrap (x.2.2.2.2+1))) (some x.2.2.1)))
def lz5:List Int×List Int×List (Int)×Int×Int->Option (List (Int)):=iter ezP big
def lz4:CutSpec tb:=⟨44,[(0,.val 169),(1,.val 169),(5,.own 3),(6,.val 3),(7,.val 3)],[((.exit 0),[(5,.own 3)])],[8,9,10,11,12,13,14,15,16,17,18,19,20,21,24,25,26,27,28,29,30,31,32,33,6,34,35,36,37,38,39,40,41,42,43,44,45,46,47,48,5,49,50,22,23,7],lz5⟩
theorem EzB:∀back x,bzI Tryz.prog tb [] [jzq] (bzX 44 Tryz.f142) (lz4).ins (lz4).outs back x=ezP back x:=fun back x=>by kernel_rfl
theorem Czm:A3 Tryz.f142 44 lz4:=A4 .nil (.cons Czl .nil) ezP (hF:=EzB)
def fzf (x:List Int×List Int):Option (List (Int)):=obnd (lz5 (x.1,x.2,[],0,0)) fun y=>some y
def gzV:FSpec tb:=⟨[(0,.val 169),(1,.val 169)],[(0,.own 3)],fzf⟩
theorem JzQ:∀x,evFn Tryz.prog tb [] [lz4] Tryz.f142 gzV.ins gzV.outs x=gzV.f x:=fun x=>by kernel_rfl
theorem jzU:A0 142 gzV:=A2 Tryz.func142 .nil (.cons Czm .nil) (hJ:=JzQ)
def jzn (back:List Int×List Int×Int->Option ((Unit)⊕(Bool)))(x:List Int×List Int×Int):Option ((Unit)⊕(Bool)):=brn (decide (0<=x.2.2)) (obnd (idx x.1 x.2.2) fun y=>obnd (idx x.2.1 x.2.2) fun y_1=>brn (!decide (y=y_1)) (obnd (idx x.1 x.2.2) fun y=>obnd (idx x.2.1 x.2.2) fun y_2=>some (Sum.inr (decide (y<y_2)))) (back (x.1,x.2.1,i64.wrap (x.2.2-1)))) (some (Sum.inl PUnit.unit))
def pzV:List Int×List Int×Int->Option ((Unit)⊕(Bool)):=iter jzn big
def lz1:CutSpec tb:=⟨44,[(0,.val 169),(1,.val 169),(5,.val 3)],[((.exit 0),[]),(.ret,[(4,.val 4)])],[19,20,23,24,25,26,27,28,29,30,31,32,33,34,35,36,37,38,39,40,4,21,22,5],pzV⟩
theorem Ezw:∀back x,bzI Tryz.prog tb [] [] (bzX 44 Tryz.f203) (lz1).ins (lz1).outs back x=jzn back x:=fun back x=>by kernel_rfl
theorem Czh:A3 Tryz.f203 44 lz1:=A4 .nil .nil jzn (hF:=Ezw)
def kz8 (x:List Int×List Int):Option (Bool):=brn (!decide ((↑x.1.length:Int)=(↑x.2.length:Int))) (some (decide ((↑x.1.length:Int)<(↑x.2.length:Int)))) (obnd (pzV (x.1,x.2,i64.wrap ((↑x.1.length:Int)-1))) fun y=>osum y (fun y=>some false) fun y=>some y)
def kz9:FSpec tb:=⟨[(0,.val 169),(1,.val 169)],[(0,.val 4)],kz8⟩
theorem JzO:∀x,evFn Tryz.prog tb [] [lz1] Tryz.f203 kz9.ins kz9.outs x=kz9.f x:=fun x=>by kernel_rfl
theorem szG:A0 203 kz9:=A2 Tryz.func203 .nil (.cons Czh .nil) (hJ:=JzO)
def izm (back:List Int×List Int×List (Int)×Int×Int->Option (List (Int)))(x:List Int×List Int×List (Int)×Int×Int):Option (List (Int)):=brn (decide (x.2.2.2.2<(↑x.1.length:Int))) (obnd (idx x.1 x.2.2.2.2) fun y=>brn (decide (x.2.2.2.2<(↑x.2.1.length:Int))) (obnd (idx x.2.1 x.2.2.2.2) fun y_1=>brn (decide (i64.wrap (i64.wrap (y-x.2.2.2.1)-y_1)<0)) (obnd (app 8 x.2.2.1 [i64.wrap (i64.wrap (i64.wrap (y-x.2.2.2.1)-y_1)+10)]) fun zs=>back (x.1,x.2.1,zs,1,i64.wrap (x.2.2.2.2+1))) (obnd (app 8 x.2.2.1 [i64.wrap (i64.wrap (y-x.2.2.2.1)-y_1)]) fun zs=>back (x.1,x.2.1,zs,0,i64.wrap (x.2.2.2.2+1)))) (brn (decide (i64.wrap (y-x.2.2.2.1)<0)) (obnd (app 8 x.2.2.1 [i64.wrap (i64.wrap (y-x.2.2.2.1)+10)]) fun zs=>back (x.1,x.2.1,zs,1,i64.wrap (x.2.2.2.2+1))) (obnd (app 8 x.2.2.1 [i64.wrap (y-x.2.2.2.1)]) fun zs=>back (x.1,x.2.1,zs,0,i64.wrap (x.2.2.2.2+1))))) (some x.2.2.1)
def ozJ:List Int×List Int×List (Int)×Int×Int->Option (List (Int)):=iter izm big
def lza:CutSpec tb:=⟨44,[(0,.val 169),(1,.val 169),(5,.own 3),(6,.val 3),(7,.val 3)],[((.exit 0),[(5,.own 3)])],[9,10,11,12,15,16,17,18,19,20,8,21,22,23,24,25,26,27,28,29,30,6,31,32,33,34,35,36,37,38,5,13,14,7],ozJ⟩
theorem Czi:∀back x,bzI Tryz.prog tb [] [] (bzX 44 Tryz.f204) (lza).ins (lza).outs back x=izm back x:=fun back x=>by kernel_rfl
theorem zzM:A3 Tryz.f204 44 lza:=A4 .nil .nil izm (hF:=Czi)
def hzb (x:List Int×List Int):Option (List (Int)):=obnd (ozJ (x.1,x.2,[],0,0)) fun y=>some y
def jzG:FSpec tb:=⟨[(0,.val 169),(1,.val 169)],[(0,.own 3)],hzb⟩
theorem HzX:∀x,evFn Tryz.prog tb [] [lza] Tryz.f204 jzG.ins jzG.outs x=jzG.f x:=fun x=>by kernel_rfl
theorem rzD:A0 204 jzG:=A2 Tryz.func204 .nil (.cons zzM .nil) (hJ:=HzX)
def czc (x:Big×Big):Option (Big):=brn (decide (x.1.Minus=x.2.Minus)) (obnd (fzf (x.1.D,x.2.D)) fun y=>obnd (bzr {Minus:=x.1.Minus,D:=y}) fun y=>some y) (obnd (kz8 (x.1.D,x.2.D)) fun y=>brn y (obnd (hzb (x.2.D,x.1.D)) fun y=>obnd (bzr {Minus:=x.2.Minus,D:=y}) fun y=>some y) (obnd (hzb (x.1.D,x.2.D)) fun y=>obnd (bzr {Minus:=x.1.Minus,D:=y}) fun y=>some y))
def izD:FSpec tb:=⟨[(0,.val 204),(1,.val 204)],[(0,.val 204)],czc⟩
theorem Kz9:∀x,evFn Tryz.prog tb [(142,gzV),(143,dzQ),(203,kz9),(204,jzG)] [] Tryz.f139 izD.ins izD.outs x=izD.f x:=fun x=>by kernel_rfl
theorem kz7:A0 139 izD:=A1 Tryz.func139 (.cons jzU (.cons dzR (.cons szG (.cons rzD .nil)))) (hJ:=Kz9)
def dzP (x:Dec×Dec):Option (Dec×Int):=obnd (hza x) fun y=>brn (!y.2.1.Minus) (obnd (czc (y.1,{Minus:=decide (0<(↑y.2.1.D.length:Int)),D:=y.2.1.D})) fun y_1=>obnd (bzi (y_1,y.2.2)) fun y=>some y) (obnd (czc (y.1,{Minus:=false,D:=y.2.1.D})) fun y_1=>obnd (bzi (y_1,y.2.2)) fun y=>some y)
def izl:FSpec tb:=⟨[(0,.val 23),(1,.val 23)],[(0,.val 23),(1,.val 3)],dzP⟩
theorem Fz9:∀x,evFn Tryz.prog tb [(137,fzn),(139,izD),(138,dzd)] [] Tryz.f86 izl.ins izl.outs x=izl.f x:=fun x=>by kernel_rfl
theorem lzt:A0 86 izl:=A1 Tryz.func86 (.cons izY (.cons kz7 (.cons dzn .nil))) (hJ:=Fz9)
abbrev qzC:List (Nat×FSpec tb):=[(143,dzQ),(203,kz9),(204,jzG),(142,gzV)]
theorem pzW:azl Tryz.prog tb (qzC):=(.cons dzR (.cons szG (.cons rzD (.cons jzU .nil))))
def jzp (back:List Int×List Int×Int->Option (List Int×Int))(x:List Int×List Int×Int):Option (List Int×Int):=obnd (kz8 (x.2.1,x.1)) fun y=>brn (!y) (obnd (hzb (x.2.1,x.1)) fun y=>obnd (bzr {Minus:=false,D:=y}) fun y=>back (x.1,y.D,i64.wrap (x.2.2+1))) (some x.2)
def pzY:List Int×List Int×Int->Option (List Int×Int):=iter jzp big
def lz3:CutSpec tb:=⟨76,[(1,.val 169),(8,.val 169),(10,.val 3)],[((.exit 2),[(8,.val 169),(10,.val 3)])],[28,29,30,31,32,33,34,35,36,37,8,38,39,10],pzY⟩
theorem Ezy:∀back x,bzI Tryz.prog tb qzC [] (bzX 76 Tryz.f140) (lz3).ins (lz3).outs back x=jzp back x:=fun back x=>by kernel_rfl
theorem Czk:A3 Tryz.f140 76 lz3:=A4 pzW .nil jzp (hF:=Ezy)
def jzo (back:List Int×List Int×List (Int)×List Int×Int->Option (List (Int)×List Int))(x:List Int×List Int×List (Int)×List Int×Int):Option (List (Int)×List Int):=brn (decide (0<=x.2.2.2.2)) (obnd (idx x.1 x.2.2.2.2) fun y=>obnd (app 8 [y] x.2.2.2.1) fun zs=>obnd (bzr {Minus:=false,D:=zs}) fun y=>obnd (pzY (x.2.1,y.D,0)) fun y=>obnd (app 8 [y.2] x.2.2.1) fun zs=>back (x.1,x.2.1,zs,y.1,i64.wrap (x.2.2.2.2-1))) (some (x.2.2.1,x.2.2.2.1))
def pzX:List Int×List Int×List (Int)×List Int×Int->Option (List (Int)×List Int):=iter jzo big
def lz2:CutSpec tb:=⟨44,[(0,.val 169),(1,.val 169),(7,.own 3),(8,.val 169),(9,.val 3)],[((.exit 0),[(7,.own 3),(8,.val 169)])],[14,15,18,19,20,21,22,23,24,25,26,27,8,10,28,29,30,31,32,33,34,35,36,37,38,39,40,41,42,43,7,16,17,9],pzX⟩
theorem Ezx:∀back x,bzI Tryz.prog tb qzC [lz3] (bzX 44 Tryz.f140) (lz2).ins (lz2).outs back x=jzo back x:=fun back x=>by kernel_rfl
theorem Czj:A3 Tryz.f140 44 lz2:=A4 pzW (.cons Czk .nil) jzo (hF:=Ezx)
def qzB (x:List Int×List Int):Option (List Int×Bool×Bool):=obnd (pzX (x.1,x.2,[],[],i64.wrap ((↑x.1.length:Int)-1))) fun y=>obnd (bzr {Minus:=false,D:=y.1}) fun y_1=>obnd (fzf (y.2,y.2)) fun y_2=>obnd (kz8 (y_2,x.2)) fun y_3=>some (y_1.D,!y_3,decide (0<(↑(List.length y.2):Int)))
def nzP:FSpec tb:=⟨[(0,.val 169),(1,.val 169)],[(0,.val 169),(1,.val 4),(2,.val 4)],qzB⟩
theorem JzP:∀x,evFn Tryz.prog tb qzC [lz2] Tryz.f140 nzP.ins nzP.outs x=nzP.f x:=fun x=>by kernel_rfl
theorem Ezz:A0 140 nzP:=A2 Tryz.func140 pzW (.cons Czj .nil) (hJ:=JzP)
def bz6 (x:Dec×Dec):Option (Dec×Int):=brn (decide (x.2.M=0)) (some ({M:=0,S:=0},9)) (obnd (hza x) fun y=>obnd (mzB (y.1,9)) fun y_1=>obnd (qzB (y_1.D,y.2.1.D)) fun y_2=>brn y_2.2.1 (obnd (fzf (y_2.1,[1])) fun y_3=>obnd (bzr {Minus:=!decide (y.1.Minus=y.2.1.Minus),D:=y_3}) fun y=>obnd (bzi (y,9)) fun y=>some y) (obnd (bzr {Minus:=!decide (y.1.Minus=y.2.1.Minus),D:=y_2.1}) fun y=>obnd (bzi (y,9)) fun y=>some y))
def fzX:FSpec tb:=⟨[(0,.val 23),(1,.val 23)],[(0,.val 23),(1,.val 3)],bz6⟩
theorem Fz7:∀x,evFn Tryz.prog tb [(137,fzn),(141,mzC),(140,nzP),(142,gzV),(143,dzQ),(138,dzd)] [] Tryz.f88 fzX.ins fzX.outs x=fzX.f x:=fun x=>by kernel_rfl
theorem hzB:A0 88 fzX:=A1 Tryz.func88 (.cons izY (.cons pz0 (.cons Ezz (.cons jzU (.cons dzR (.cons dzn .nil)))))) (hJ:=Fz7)
def bzg (x:Val×Int):Option (Val):=brn (decide (x.1.Kind=0)) (brn (decide (1<=x.2)) (brn (decide (x.2<=3)) (some {Kind:=x.2,N:={M:=0,S:=0},S:=[],B:=false,E:=0}) (some x.1)) (some x.1)) (some x.1)
def ref13_asS:FSpec tb:=⟨[(0,.val 25),(1,.val 3)],[(0,.val 25)],bzg⟩
theorem FzT:A0 144 ref13_asS:=A1 Tryz.func144 .nil
def czM (x:Dec×Dec):Option (Int):=obnd (hza x) fun y=>brn (!y.2.1.Minus) (obnd (czc (y.1,{Minus:=decide (0<(↑y.2.1.D.length:Int)),D:=y.2.1.D})) fun y=>brn (decide ((↑y.D.length:Int)=0)) (some 0) (brn y.Minus (some (-1)) (some 1))) (obnd (czc (y.1,{Minus:=false,D:=y.2.1.D})) fun y=>brn (decide ((↑y.D.length:Int)=0)) (some 0) (brn y.Minus (some (-1)) (some 1)))
def ezf:FSpec tb:=⟨[(0,.val 23),(1,.val 23)],[(0,.val 3)],czM⟩
theorem yzb:∀x,evFn Tryz.prog tb [(137,fzn),(139,izD)] [] Tryz.f145 ezf.ins ezf.outs x=ezf.f x:=fun x=>by kernel_rfl
theorem izc:A0 145 ezf:=A1 Tryz.func145 (.cons izY (.cons kz7 .nil)) (hJ:=yzb)
def azv (x:Val×Val):Option (Int):=obnd (bzg (x.1,x.2.Kind)) fun y=>obnd (bzg (x.2,x.1.Kind)) fun y_1=>brn (!decide (y.Kind=y_1.Kind)) (brn (decide (y.Kind<y_1.Kind)) (some (-1)) (some 1)) (brn (decide (y.Kind=1)) (obnd (czM (y.N,y_1.N)) fun y=>some y) (brn (decide (y.Kind=2)) (brn (!decide (y.S=y_1.S)) (brn (sLt y.S y_1.S) (some (-1)) (some 1)) (some 0)) (brn (decide (y.Kind=3)) (brn (!decide (y.B=y_1.B)) (brn y_1.B (some (-1)) (some 1)) (some 0)) (brn (decide (y.Kind=4)) (brn (!decide (y.E=y_1.E)) (brn (decide (y.E<y_1.E)) (some (-1)) (some 1)) (some 0)) (some 0)))))
def pzv:FSpec tb:=⟨[(0,.val 25),(1,.val 25)],[(0,.val 3)],azv⟩
theorem rz0:A0 89 pzv:=A1 Tryz.func89 (.cons FzT (.cons izc .nil))
abbrev lzY:List (Nat×FSpec tb):=[(149,pzx)]
theorem mzy:azl Tryz.prog tb (lzY):=(.cons tz0 .nil)
def fzV (back:List (Int)×Dec×Big->Option ((List (Int))×Big))(x:List (Int)×Dec×Big):Option ((List (Int))×Big):=brn (decide ((↑x.1.length:Int)<=x.2.1.S)) (obnd (app 8 x.1 [0]) fun zs=>back (zs,x.2.1,{Minus:=x.2.2.Minus,D:=zs})) (some (x.1,{Minus:=x.2.2.Minus,D:=x.1}))
def mzz:List (Int)×Dec×Big->Option ((List (Int))×Big):=iter fzV big
def izV:CutSpec tb:=⟨28,[(8589934595,.own 3),(1,.ro 23),(3,.ref 204)],[((.exit 0),[(8589934595,.own 3)])],[9,10,11,12,13,14,15,16,17,18,19],mzz⟩
theorem yzc:∀back x,bzI Tryz.prog tb lzY [] (bzX 28 Tryz.f146) (izV).ins (izV).outs back x=fzV back x:=fun back x=>by kernel_rfl
theorem wzy:A3 Tryz.f146 28 izV:=A4 mzy .nil fzV (hF:=yzc)
def fzW (back:Dec×Big×List UInt8×Int->Option (List UInt8))(x:Dec×Big×List UInt8×Int):Option (List UInt8):=brn (decide (x.2.2.2<(↑x.2.1.D.length:Int))) (brn (decide (x.2.2.2=x.1.S)) (brn (decide (0<x.2.2.2)) (obnd (cat [46] x.2.2.1) fun z=>obnd (idx x.2.1.D x.2.2.2) fun y=>obnd (cat [UInt8.ofNat (u8.wrap (i64.wrap (48+y))).toNat] z) fun z=>back (x.1,x.2.1,z,i64.wrap (x.2.2.2+1))) (obnd (idx x.2.1.D x.2.2.2) fun y=>obnd (cat [UInt8.ofNat (u8.wrap (i64.wrap (48+y))).toNat] x.2.2.1) fun z=>back (x.1,x.2.1,z,i64.wrap (x.2.2.2+1)))) (obnd (idx x.2.1.D x.2.2.2) fun y=>obnd (cat [UInt8.ofNat (u8.wrap (i64.wrap (48+y))).toNat] x.2.2.1) fun z=>back (x.1,x.2.1,z,i64.wrap (x.2.2.2+1)))) (some x.2.2.1)
def mzA:Dec×Big×List UInt8×Int->Option (List UInt8):=iter fzW big
def izW:CutSpec tb:=⟨60,[(1,.ro 23),(3,.ro 204),(4,.val 9),(5,.val 3)],[((.exit 2),[(4,.val 9)])],[20,21,22,23,24,27,28,29,30,31,32,33,34,35,36,4,37,38,39,40,41,42,43,44,45,46,47,25,26,5],mzA⟩
theorem yzd:∀back x,bzI Tryz.prog tb lzY [] (bzX 60 Tryz.f146) (izW).ins (izW).outs back x=fzW back x:=fun back x=>by kernel_rfl
theorem wzz:A3 Tryz.f146 60 izW:=A4 mzy .nil fzW (hF:=yzd)
def lzX (x:Dec):Option (List UInt8):=obnd (pzw x.M) fun y=>obnd (mzz (y.1,x,{Minus:=y.2.Minus,D:=y.1})) fun y=>obnd (mzA (x,{Minus:=y.2.Minus,D:=y.1},[],0)) fun y_1=>brn y.2.Minus (obnd (cat [45] y_1) fun z=>some z) (some y_1)
def lzZ:FSpec tb:=⟨[(0,.val 23)],[(0,.val 9)],lzX⟩
theorem Ezr:∀x,evFn Tryz.prog tb lzY [izV,izW] Tryz.f146 lzZ.ins lzZ.outs x=lzZ.f x:=fun x=>by kernel_rfl
theorem yze:A0 146 lzZ:=A2 Tryz.func146 mzy (.cons wzy (.cons wzz .nil)) (hJ:=Ezr)
def dzs (x:Val):Option (List UInt8):=brn (decide (x.Kind=1)) (obnd (lzX x.N) fun y=>some y) (brn (decide (x.Kind=2)) (some x.3) (brn (decide (x.Kind=3)) (brn x.B (some [84,82,85,69]) (some (U8s [70,65,76,83,69]))) (brn (decide (x.Kind=4)) (obnd (hzY x.E) fun y=>some y) (some []))))
def tzU:FSpec tb:=⟨[(0,.val 25)],[(0,.val 9)],dzs⟩
theorem oza:A0 92 tzU:=A1 Tryz.func92 (.cons yze (.cons nz9 .nil))
def hz9 (x:Dec×Dec):Option (Dec×Int):=obnd (hza x) fun y=>obnd (czc (y.1,y.2.1)) fun y_1=>obnd (bzi (y_1,y.2.2)) fun y=>some y
def iza:FSpec tb:=⟨[(0,.val 23),(1,.val 23)],[(0,.val 23),(1,.val 3)],hz9⟩
theorem Fz6:∀x,evFn Tryz.prog tb [(137,fzn),(139,izD),(138,dzd)] [] Tryz.f93 iza.ins iza.outs x=iza.f x:=fun x=>by kernel_rfl
theorem qze:A0 93 iza:=A1 Tryz.func93 (.cons izY (.cons kz7 (.cons dzn .nil))) (hJ:=Fz6)
abbrev pzf:List (Nat×FSpec tb):=[(143,dzQ),(1099511627799,mutS)]
theorem ozM:azl Tryz.prog tb (pzf):=(.cons dzR (.consK szp .nil))
def izq (back:Bool×List (Int)×Big×Big×Unit×Int×Int×Int->Option ((Bool×List (Int))×Unit))(x:Bool×List (Int)×Big×Big×Unit×Int×Int×Int):Option ((Bool×List (Int))×Unit):=brn (decide (x.2.2.2.2.2.2.2<(↑x.2.2.2.1.D.length:Int))) (obnd (inb x.2.1.length (i64.wrap (x.2.2.2.2.2.1+x.2.2.2.2.2.2.2))) fun k=>obnd (nth x.2.1 k) fun y=>brn (decide (x.2.2.2.2.2.2.2<(↑x.2.2.2.1.D.length:Int))) (obnd (idx x.2.2.1.D x.2.2.2.2.2.1) fun y_1=>obnd (idx x.2.2.2.1.D x.2.2.2.2.2.2.2) fun y_2=>obnd (inb x.2.1.length (i64.wrap (x.2.2.2.2.2.1+x.2.2.2.2.2.2.2))) fun k=>obnd (nth x.2.1 k) fun y_3=>back (x.1,x.2.1.set k ((i64.wrap (i64.wrap (x.2.2.2.2.2.2.1+y)+i64.wrap (y_1*y_2))).tmod 10),x.2.2.1,x.2.2.2.1,(),x.2.2.2.2.2.1,i64.wrap ((i64.wrap (i64.wrap (x.2.2.2.2.2.2.1+y)+i64.wrap (y_1*y_2))).tdiv 10),i64.wrap (x.2.2.2.2.2.2.2+1))) (obnd (inb x.2.1.length (i64.wrap (x.2.2.2.2.2.1+x.2.2.2.2.2.2.2))) fun k=>obnd (nth x.2.1 k) fun y_1=>back (x.1,x.2.1.set k ((i64.wrap (x.2.2.2.2.2.2.1+y)).tmod 10),x.2.2.1,x.2.2.2.1,(),x.2.2.2.2.2.1,i64.wrap ((i64.wrap (x.2.2.2.2.2.2.1+y)).tdiv 10),i64.wrap (x.2.2.2.2.2.2.2+1)))) (brn (decide (0<x.2.2.2.2.2.2.1)) (obnd (inb x.2.1.length (i64.wrap (x.2.2.2.2.2.1+x.2.2.2.2.2.2.2))) fun k=>obnd (nth x.2.1 k) fun y=>brn (decide (x.2.2.2.2.2.2.2<(↑x.2.2.2.1.D.length:Int))) (obnd (idx x.2.2.1.D x.2.2.2.2.2.1) fun y_1=>obnd (idx x.2.2.2.1.D x.2.2.2.2.2.2.2) fun y_2=>obnd (inb x.2.1.length (i64.wrap (x.2.2.2.2.2.1+x.2.2.2.2.2.2.2))) fun k=>obnd (nth x.2.1 k) fun y_3=>back (x.1,x.2.1.set k ((i64.wrap (i64.wrap (x.2.2.2.2.2.2.1+y)+i64.wrap (y_1*y_2))).tmod 10),x.2.2.1,x.2.2.2.1,(),x.2.2.2.2.2.1,i64.wrap ((i64.wrap (i64.wrap (x.2.2.2.2.2.2.1+y)+i64.wrap (y_1*y_2))).tdiv 10),i64.wrap (x.2.2.2.2.2.2.2+1))) (obnd (inb x.2.1.length (i64.wrap (x.2.2.2.2.2.1+x.2.2.2.2.2.2.2))) fun k=>obnd (nth x.2.1 k) fun y_1=>back (x.1,x.2.1.set k ((i64.wrap (x.2.2.2.2.2.2.1+y)).tmod 10),x.2.2.1,x.2.2.2.1,(),x.2.2.2.2.2.1,i64.wrap ((i64.wrap (x.2.2.2.2.2.2.1+y)).tdiv 10),i64.wrap (x.2.2.2.2.2.2.2+1)))) (some ((x.1,x.2.1),())))
def lzf:Bool×List (Int)×Big×Big×Unit×Int×Int×Int->Option ((Bool×List (Int))×Unit):=iter izq big
def lze:CutSpec tb:=⟨76,[(4294967301,.val 4),(8589934597,.wr 3),(2,.ro 204),(3,.ro 204),(5,.box 2),(6,.val 3),(7,.val 3),(8,.val 3)],[((.exit 2),[(4294967301,.val 4),(8589934597,.wr 3)])],[32,33,34,35,36,37,38,39,40,43,44,45,46,47,48,49,50,51,7,52,53,54,55,56,57,58,59,60,61,62,63,64,65,66,67,68,69,70,71,72,73,74,75,76,77,78,79,41,42,8],lzf⟩
theorem Czq:∀back x,bzI Tryz.prog tb pzf [] (bzX 76 Tryz.f148) (lze).ins (lze).outs back x=izq back x:=fun back x=>by kernel_rfl
theorem zzQ:A3 Tryz.f148 76 lze:=A4 ozM .nil izq (hF:=Czq)
def izp (back:Bool×List (Int)×Big×Big×Unit×Int->Option ((Bool×List (Int))×Unit))(x:Bool×List (Int)×Big×Big×Unit×Int):Option ((Bool×List (Int))×Unit):=brn (decide (x.2.2.2.2.2<(↑x.2.2.1.D.length:Int))) (obnd (lzf (x.1,x.2.1,x.2.2.1,x.2.2.2.1,(),x.2.2.2.2.2,0,0)) fun y=>back (y.1.1,y.1.2,x.2.2.1,x.2.2.2.1,(),i64.wrap (x.2.2.2.2.2+1))) (some ((x.1,x.2.1),()))
def ozN:Bool×List (Int)×Big×Big×Unit×Int->Option ((Bool×List (Int))×Unit):=iter izp big
def lzd:CutSpec tb:=⟨44,[(4294967301,.val 4),(8589934597,.wr 3),(2,.ro 204),(3,.ro 204),(5,.box 2),(6,.val 3)],[((.exit 0),[(4294967301,.val 4),(8589934597,.own 3)])],[25,26,27,28,29,7,8,32,33,34,35,36,37,38,39,40,43,44,45,46,47,48,49,50,51,52,53,54,55,56,57,58,59,60,61,62,63,64,65,66,67,68,69,70,71,72,73,74,75,76,77,78,79,41,42,30,31,6],ozN⟩
theorem Czp:∀back x,bzI Tryz.prog tb pzf [lze] (bzX 44 Tryz.f148) (lzd).ins (lzd).outs back x=izp back x:=fun back x=>by kernel_rfl
theorem zzP:A3 Tryz.f148 44 lzd:=A4 ozM (.cons zzQ .nil) izp (hF:=Czp)
def pze (x:Big×Big):Option (Big):=obnd (rzj 8 0 (i64.wrap (i64.wrap ((↑x.1.D.length:Int)+(↑x.2.D.length:Int))+1)) (i64.wrap (i64.wrap ((↑x.1.D.length:Int)+(↑x.2.D.length:Int))+1))) fun xs=>obnd (ozN (!decide (x.1.Minus=x.2.Minus),xs,x.1,x.2,(),0)) fun y=>obnd (bzr {Minus:=y.1.1,D:=y.1.2}) fun y=>some y
def lzE:FSpec tb:=⟨[(0,.val 204),(1,.val 204)],[(0,.val 204)],pze⟩
theorem Hz0:∀x,evFn Tryz.prog tb pzf [lzd] Tryz.f148 lzE.ins lzE.outs x=lzE.f x:=fun x=>by kernel_rfl
theorem Czr:A0 148 lzE:=A2 Tryz.func148 ozM (.cons zzP .nil) (hJ:=Hz0)
def ezm (x:Big×Int×Int):Option (Big×Int):=brn (decide (x.2.1<=x.2.2)) (some (x.1,x.2.1)) (brn (decide ((↑x.1.D.length:Int)<i64.wrap (x.2.1-x.2.2))) (some ({Minus:=false,D:=[]},x.2.2)) (obnd (idx x.1.D (i64.wrap (i64.wrap (x.2.1-x.2.2)-1))) fun y=>obnd (sub x.1.D (i64.wrap (x.2.1-x.2.2)) (↑x.1.D.length:Int)) fun z=>obnd (app 8 [] z) fun zs=>obnd (bzr {Minus:=x.1.Minus,D:=zs}) fun y_1=>brn (decide (5<=y)) (obnd (fzf (y_1.D,[1])) fun y=>obnd (bzr {Minus:=x.1.Minus,D:=y}) fun y=>some (y,x.2.2)) (some (y_1,x.2.2))))
def jzH:FSpec tb:=⟨[(0,.val 204),(1,.val 3),(2,.val 3)],[(0,.val 204),(1,.val 3)],ezm⟩
theorem HzY:∀x,evFn Tryz.prog tb [(143,dzQ),(142,gzV)] [] Tryz.f147 jzH.ins jzH.outs x=jzH.f x:=fun x=>by kernel_rfl
theorem rzE:A0 147 jzH:=A1 Tryz.func147 (.cons dzR (.cons jzU .nil)) (hJ:=HzY)
def fzY (x:Dec×Dec):Option (Dec×Int):=obnd (fze x.1.M) fun y=>obnd (fze x.2.M) fun y_1=>obnd (pze (y,y_1)) fun y=>obnd (ezm (y,i64.wrap (x.1.S+x.2.S),9)) fun y=>obnd (bzi y) fun y=>some y
def ize:FSpec tb:=⟨[(0,.val 23),(1,.val 23)],[(0,.val 23),(1,.val 3)],fzY⟩
theorem Fz8:∀x,evFn Tryz.prog tb [(149,nzM),(148,lzE),(147,jzH),(138,dzd)] [] Tryz.f94 ize.ins ize.outs x=ize.f x:=fun x=>by kernel_rfl
theorem qzg:A0 94 ize:=A1 Tryz.func94 (.cons jzT (.cons Czr (.cons rzE (.cons dzn .nil)))) (hJ:=Fz8)
abbrev ozH:List (Nat×FSpec tb):=[(149,nzM),(143,dzQ),(139,izD),(138,dzd)]
theorem qzf:azl Tryz.prog tb (ozH):=(.cons jzT (.cons dzR (.cons kz7 (.cons dzn .nil))))
def ez2 (back:Big×Int×Bool×Int->Option (Bool))(x:Big×Int×Bool×Int):Option (Bool):=brn (decide (x.2.2.2<x.2.1)) (brn x.2.2.1 (back (x.1,x.2.1,true,i64.wrap (x.2.2.2+1))) (obnd (idx x.1.D x.2.2.2) fun y=>back (x.1,x.2.1,!decide (y=0),i64.wrap (x.2.2.2+1)))) (some x.2.2.1)
def lzr:Big×Int×Bool×Int->Option (Bool):=iter ez2 big
def hzC:CutSpec tb:=⟨84,[(4,.ro 204),(5,.val 3),(6,.val 4),(7,.val 3)],[((.exit 0),[(6,.val 4)])],[23,24,25,28,29,30,31,32,33,34,35,36,6,26,27,7],lzr⟩
theorem wzA:∀back x,bzI Tryz.prog tb ozH [] (bzX 84 Tryz.f155) (hzC).ins (hzC).outs back x=ez2 back x:=fun back x=>by kernel_rfl
theorem vza:A3 Tryz.f155 84 hzC:=A4 qzf .nil ez2 (hF:=wzA)
def fzv (x:Dec):Option (Dec×Int):=obnd (fze x.M) fun y=>brn (decide ((↑y.D.length:Int)<=x.S)) (brn y.Minus (some ({M:=-1,S:=0},0)) (some ({M:=0,S:=0},0))) (obnd (lzr (y,x.S,false,0)) fun y_1=>obnd (sub y.D x.S (↑y.D.length:Int)) fun z=>obnd (app 8 [] z) fun zs=>obnd (bzr {Minus:=y.Minus,D:=zs}) fun y_2=>brn y.Minus (brn y_1 (obnd (czc (y_2,{Minus:=true,D:=[1]})) fun y=>obnd (bzi (y,0)) fun y=>some y) (obnd (bzi (y_2,0)) fun y=>some y)) (obnd (bzi (y_2,0)) fun y=>some y))
def izd:FSpec tb:=⟨[(0,.val 23)],[(0,.val 23),(1,.val 3)],fzv⟩
theorem Bz9:∀x,evFn Tryz.prog tb ozH [hzC] Tryz.f155 izd.ins izd.outs x=izd.f x:=fun x=>by kernel_rfl
theorem wzB:A0 155 izd:=A2 Tryz.func155 qzf (.cons vza .nil) (hJ:=Bz9)
def jzm (back:Dec->Option ((Unit)×Dec))(x:Dec):Option ((Unit)×Dec):=brn (decide (0<x.S)) (brn (decide (x.M.tmod 10=0)) (back {M:=i64.wrap (x.M.tdiv 10),S:=i64.wrap (x.S-1)}) (some ((),x))) (some ((),x))
def pzU:Dec->Option ((Unit)×Dec):=iter jzm big
def lz0:CutSpec tb:=⟨20,[(1,.ref 23)],[((.exit 0),[])],[3,4,5,6,7,8,9,10,11,12,13,14,15,16,17,18,19],pzU⟩
theorem Ezs:∀back x,bzI Tryz.prog tb [] [] (bzX 20 Tryz.f206) (lz0).ins (lz0).outs back x=jzm back x:=fun back x=>by kernel_rfl
theorem Cza:A3 Tryz.f206 20 lz0:=A4 .nil .nil jzm (hF:=Ezs)
def gzU (x:Dec):Option (Dec):=obnd (pzU x) fun y=>some y.2
def nzK:FSpec tb:=⟨[(0,.val 23)],[(0,.val 23)],gzU⟩
theorem JzM:∀x,evFn Tryz.prog tb [] [lz0] Tryz.f206 nzK.ins nzK.outs x=nzK.f x:=fun x=>by kernel_rfl
theorem Ezt:A0 206 nzK:=A2 Tryz.func206 .nil (.cons Cza .nil) (hJ:=JzM)
def izf (x:Dec×Int):Option (Dec×Int):=brn (decide (x.2 < -18)) (some ({M:=0,S:=0},1)) (brn (decide (9<x.2)) (some ({M:=0,S:=0},1)) (obnd (fze x.1.M) fun y=>obnd (ezm (y,x.1.S,x.2)) fun y=>brn (decide (y.2<0)) (obnd (mzB (y.1,i64.wrap (0-y.2))) fun y=>obnd (bzi (y,0)) fun y=>some y) (obnd (bzi y) fun y=>some y)))
def izg:FSpec tb:=⟨[(0,.val 23),(1,.val 3)],[(0,.val 23),(1,.val 3)],izf⟩
theorem Czc:∀x,evFn Tryz.prog tb [(149,nzM),(147,jzH),(141,mzC),(138,dzd)] [] Tryz.f157 izg.ins izg.outs x=izg.f x:=fun x=>by kernel_rfl
theorem wzJ:A0 157 izg:=A1 Tryz.func157 (.cons jzT (.cons rzE (.cons pz0 (.cons dzn .nil)))) (hJ:=Czc)
def czK (x:Val):Option (Bool×Val×Bool):=brn (decide (x.Kind=1)) (some (!decide (x.N.M=0),{Kind:=0,N:={M:=0,S:=0},S:=[],B:=false,E:=0},true)) (brn (decide (x.Kind=3)) (some (x.B,{Kind:=0,N:={M:=0,S:=0},S:=[],B:=false,E:=0},true)) (brn (decide (x.Kind=2)) (brn (decide (x.S=[84,82,85,69])) (some (decide (x.S=[84,82,85,69]),{Kind:=0,N:={M:=0,S:=0},S:=[],B:=false,E:=0},true)) (brn (decide (x.S=U8s [70,65,76,83,69])) (some (decide (x.S=[84,82,85,69]),{Kind:=0,N:={M:=0,S:=0},S:=[],B:=false,E:=0},true)) (obnd (azg 15) fun y=>some (false,y,false)))) (brn (decide (x.Kind=4)) (some (false,x,false)) (some (false,{Kind:=0,N:={M:=0,S:=0},S:=[],B:=false,E:=0},true)))))
def rzx:FSpec tb:=⟨[(0,.val 25)],[(0,.val 4),(1,.val 25),(2,.val 4)],czK⟩
theorem lzm:A0 158 rzx:=A1 Tryz.func158 (.cons azG .nil)
def czo (x:Val):Option (List UInt8×Val×Bool):=brn (decide (x.Kind=4)) (some ([],x,false)) (obnd (dzs x) fun y=>some (y,{Kind:=0,N:={M:=0,S:=0},S:=[],B:=false,E:=0},true))
def nzD:FSpec tb:=⟨[(0,.val 25)],[(0,.val 9),(1,.val 25),(2,.val 4)],czo⟩
theorem lzn:A0 159 nzD:=A1 Tryz.func159 (.cons oza .nil)
def qzA (x:Int):Option (List (UInt8)):=brn (decide (x<128)) (some [UInt8.ofNat (u8.wrap x).toNat]) (brn (decide (x<2048)) (some [UInt8.ofNat (u8.wrap (azn BinOp.or i64 192 (x.fdiv 64))).toNat,UInt8.ofNat (u8.wrap (azn BinOp.or i64 128 (azn BinOp.and i64 x 63))).toNat]) (brn (decide (x<65536)) (some [UInt8.ofNat (u8.wrap (azn BinOp.or i64 224 (x.fdiv 4096))).toNat,UInt8.ofNat (u8.wrap (azn BinOp.or i64 128 (azn BinOp.and i64 (x.fdiv 64) 63))).toNat,UInt8.ofNat (u8.wrap (azn BinOp.or i64 128 (azn BinOp.and i64 x 63))).toNat]) (some [UInt8.ofNat (u8.wrap (azn BinOp.or i64 240 (x.fdiv 262144))).toNat,UInt8.ofNat (u8.wrap (azn BinOp.or i64 128 (azn BinOp.and i64 (x.fdiv 4096) 63))).toNat,UInt8.ofNat (u8.wrap (azn BinOp.or i64 128 (azn BinOp.and i64 (x.fdiv 64) 63))).toNat,UInt8.ofNat (u8.wrap (azn BinOp.or i64 128 (azn BinOp.and i64 x 63))).toNat])))
def nzL:FSpec tb:=⟨[(0,.val 3)],[(0,.own 5)],qzA⟩
theorem JzN:∀x,evFn Tryz.prog tb [] [] Tryz.f207 nzL.ins nzL.outs x=nzL.f x:=fun x=>by kernel_rfl
theorem Ezu:A0 207 nzL:=A1 Tryz.func207 .nil (hJ:=JzN)
def azr:Int->Nat->Int×Nat
 | v,0=>(v,0)
 | v,p+1=>if v%10=0 then azr (v/10) p else(v,p+1)
theorem vzm:∀(p:Nat) (v:Int),(azr v p).2<=p
 | 0,_=>Nat.le_refl _
 | p+1,v=>by
  unfold azr;split
  .have:=vzm p (v/10);omega
  .exact Nat.le_refl _
theorem Gz4:∀(p:Nat) (v:Int),(azr v p).1*10^(p-(azr v p).2)=v
 | 0,v=>by simp[azr]
 | p+1,v=>by
  unfold azr;split
  .rename_i h;have h1:=Gz4 p (v/10);have h2:=vzm p (v/10);rw[show p+1-(azr (v/10) p).2=(p-(azr (v/10) p).2)+1 by omega,Int.pow_succ,<-Int.mul_assoc,h1];omega
  .simp
theorem EzS:∀(p:Nat) (v:Int),0<(azr v p).2->¬(azr v p).1%10=0
 | 0,v,h=>by simp[azr]at h
 | p+1,v,h=>by
  unfold azr at h ⊢;split
  .rename_i h0;rw[if_pos h0]at h;exact EzS p (v/10) h
  .assumption
theorem MzN:∀(s:Nat) (m:Int),(0<s->¬m%10=0)->azr m s=(m,s)
 | 0,m,_=>rfl
 | s+1,m,h=>by
  unfold azr;rw[if_neg (h (by omega))]
def okD (d:Dec):Prop:=0<=d.S/\d.S<=9/\(0<d.S->¬d.M%10=0)
def V (d:Dec):Int:=d.M*10^(9-d.S.toNat)
def I64 (n:Int):Prop:=-9223372036854775808<=n/\n<=9223372036854775807
instance (n:Int):Decidable (I64 n):=inferInstanceAs (Decidable (_/\_))
def decV (v:Int)(p:Nat):Dec×Int:=if I64 (azr v p).1 then(⟨(azr v p).1,((azr v p).2:Int)⟩,0)else(⟨0,0⟩,8)
theorem V_strip (v:Int)(p:Nat)(hp:p<=9):V ⟨(azr v p).1,((azr v p).2:Int)⟩=v*10^(9-p):=by
 unfold V;simp only[Int.toNat_natCast];have h1:=vzm p v;have h2:=Gz4 p v;rw[show 9-(azr v p).2=(p-(azr v p).2)+(9-p) by omega,Int.pow_add,<-Int.mul_assoc,h2]
theorem Jzr (v:Int)(p:Nat)(hp:p<=9):okD ⟨(azr v p).1,((azr v p).2:Int)⟩:=by
 have h1:=vzm p v;have h2:=EzS p v;refine⟨by simp,by simp only;omega,fun h=>h2 (by simp only at h;omega)⟩
theorem decV_ok {v:Int}{p:Nat}{d:Dec}(hp:p<=9)(h:decV v p=(d,0)):okD d/\I64 d.M/\V d=v*10^(9-p):=by
 unfold decV at h;split at h
 .rename_i hi;simp only[Prod.mk.injEq,and_true]at h;subst h;exact⟨Jzr v p hp,hi,V_strip v p hp⟩
 .simp at h
theorem yzj:∀(p:Nat) (v:Int),-v.natAbs<=(azr v p).1/\(azr v p).1<=v.natAbs
 | 0,v=>by simp only[azr];omega
 | p+1,v=>by
  unfold azr;split
  .have:=yzj p (v/10);omega
  .omega
def rdiv (v n:Int):Int:=if n<=2*(v%n)then v/n+1 else v/n
def rnd (v n:Int):Int:=if v<0 then -rdiv (-v) n else rdiv v n
def cmpV (x y:Int):Int:=if x<y then -1 else if y<x then 1 else 0
theorem wu64 (n:Int):u64.wrap n=n%18446744073709551616:=by simp[IntKind.wrap,IntKind.bits,IntKind.signed]
theorem wi64 (n:Int):i64.wrap n=(n+9223372036854775808)%18446744073709551616-9223372036854775808:=IntKind.wrap_i64 n
theorem bze {n:Int}(h0:0<=n)(h1:n<18446744073709551616):u64.wrap n=n:=by rw[wu64];omega
theorem azi {n:Int}(h0:-9223372036854775808<=n)(h1:n<=9223372036854775807):i64.wrap n=n:=by rw[wi64];omega
theorem and32 {x:Int}(h0:0<=x)(h1:x<18446744073709551616):azn .and .u64 x 4294967295=x%4294967296:=by
 obtain⟨n,rfl⟩:=Int.eq_ofNat_of_zero_le h0;simp only[azn];rw[BitVec.toNat_and,show(4294967295:Int)=((4294967295:Nat):Int) from rfl,BitVec.ofInt_natCast,BitVec.ofInt_natCast,BitVec.toNat_ofNat,BitVec.toNat_ofNat,wu64];have e1:n%2^u64.bits=n:=Nat.mod_eq_of_lt (by simp only[IntKind.bits];omega);have e2:4294967295%2^u64.bits=2^32-1:=by decide
 rw[e1,e2,Nat.and_two_pow_sub_one_eq_mod];omega
theorem or_low {a b:Int}{s:Nat}(ha:0<=a)(hb:0<=b)(hb2:b<2^s)(h:a*2^s+b<18446744073709551616):azn .or .u64 (a*2^s) b=a*2^s+b:=by
 obtain⟨m,rfl⟩:=Int.eq_ofNat_of_zero_le ha;obtain⟨n,rfl⟩:=Int.eq_ofNat_of_zero_le hb;have c:((2:Int)^s)=((2^s:Nat):Int):=by simp
 rw[c]at *;have hb3:n<2^s:=Int.ofNat_lt.1 hb2;simp only[azn];rw[BitVec.toNat_or,<-Int.natCast_mul,BitVec.ofInt_natCast,BitVec.ofInt_natCast,BitVec.toNat_ofNat,BitVec.toNat_ofNat,wu64];have h':((m*2^s:Nat):Int)+n<18446744073709551616:=by rw[Int.natCast_mul];simpa using h
 generalize hp:m*2^s=p at *;have e1:p%2^u64.bits=p:=Nat.mod_eq_of_lt (by simp only[IntKind.bits];omega);have e2:n%2^u64.bits=n:=Nat.mod_eq_of_lt (by simp only[IntKind.bits];omega);rw[e1,e2,<-hp,<-Nat.shiftLeft_eq,<-Nat.shiftLeft_add_eq_or_of_lt hb3,Nat.shiftLeft_eq,hp];omega
theorem kzk {a b c d:Int}(ha:0<=a)(hb:0<=b)(h1:a<=c)(h2:b<=d):a*b<=c*d :=
 Int.le_trans (Int.mul_le_mul_of_nonneg_right h1 hb) (Int.mul_le_mul_of_nonneg_left h2 (by omega))
theorem gzJ {a b:Int}(ha:0<=a)(hb:0<=b):0<=a*b:=Int.mul_nonneg ha hb
theorem mul_core (p11 p10 p01 p00:Int):
 (p11+(p10+p00/4294967296)/4294967296+((p10+p00/4294967296)%4294967296+p01)/4294967296) =
  (p11*18446744073709551616+(p10+p01)*4294967296+p00)/18446744073709551616:=by omega
theorem AzE {x y:Int}(hx0:0<=x)(hx:x<18446744073709551616)(hy0:0<=y)(hy:y<18446744073709551616):
 lzy (x,y)=some (x*y/18446744073709551616,x*y%18446744073709551616):=by
 unfold lzy;simp only[and32 hx0 hx,and32 hy0 hy];rw[Int.fdiv_eq_ediv_of_nonneg x (by omega),Int.fdiv_eq_ediv_of_nonneg y (by omega)];obtain⟨x1,e1⟩:∃n,x/4294967296=n:=⟨_,rfl⟩;obtain⟨x0,e0⟩:∃n,x%4294967296=n:=⟨_,rfl⟩;obtain⟨y1,f1⟩:∃n,y/4294967296=n:=⟨_,rfl⟩;obtain⟨y0,f0⟩:∃n,y%4294967296=n:=⟨_,rfl⟩;have hxe:x=x1*4294967296+x0:=by omega
 have hye:y=y1*4294967296+y0:=by omega
 have bx1:0<=x1/\x1<=4294967295:=by omega
 have bx0:0<=x0/\x0<=4294967295:=by omega
 have by1:0<=y1/\y1<=4294967295:=by omega
 have by0:0<=y0/\y0<=4294967295:=by omega
 rw[e1,e0,f1,f0];have hxy:x*y=x1*y1*18446744073709551616+(x1*y0+x0*y1)*4294967296+x0*y0:=by
  rw[hxe,hye,Int.add_mul,Int.mul_add,Int.mul_add,Int.add_mul];have a1:x1*4294967296*(y1*4294967296)=x1*y1*18446744073709551616:=by
   rw[Int.mul_assoc,Int.mul_left_comm 4294967296,<-Int.mul_assoc];rfl
  have a2:x1*4294967296*y0=x1*y0*4294967296:=by rw[Int.mul_assoc,Int.mul_comm 4294967296,<-Int.mul_assoc]
  have a3:x0*(y1*4294967296)=x0*y1*4294967296:=by rw[Int.mul_assoc]
  rw[a1,a2,a3];omega
 have k11:x1*y1<=4294967295*4294967295:=kzk bx1.1 by1.1 bx1.2 by1.2;have k10:x1*y0<=4294967295*4294967295:=kzk bx1.1 by0.1 bx1.2 by0.2;have k01:x0*y1<=4294967295*4294967295:=kzk bx0.1 by1.1 bx0.2 by1.2;have k00:x0*y0<=4294967295*4294967295:=kzk bx0.1 by0.1 bx0.2 by0.2;have n11:=gzJ bx1.1 by1.1;have n10:=gzJ bx1.1 by0.1;have n01:=gzJ bx0.1 by1.1;have n00:=gzJ bx0.1 by0.1;rw[hxy];generalize x1*y1=p11 at *;generalize x1*y0=p10 at *;generalize x0*y1=p01 at *;generalize x0*y0=p00 at *;have hc:=mul_core p11 p10 p01 p00;have w00:u64.wrap p00=p00:=bze n00 (by omega);have w10:u64.wrap p10=p10:=bze n10 (by omega);have w01:u64.wrap p01=p01:=bze n01 (by omega);have w11:u64.wrap p11=p11:=bze n11 (by omega);rw[w00,w10,w01,w11,Int.fdiv_eq_ediv_of_nonneg p00 (by omega)];have t0:u64.wrap (p10+p00/4294967296)=p10+p00/4294967296:=bze (by omega) (by omega);rw[t0,and32 (by omega) (by omega),Int.fdiv_eq_ediv_of_nonneg (p10+p00/4294967296) (by omega)];have t1:u64.wrap ((p10+p00/4294967296)%4294967296+p01)=(p10+p00/4294967296)%4294967296+p01:=bze (by omega) (by omega);rw[t1,Int.fdiv_eq_ediv_of_nonneg ((p10+p00/4294967296)%4294967296+p01) (by omega)];have t2:u64.wrap (p11+(p10+p00/4294967296)/4294967296)=p11+(p10+p00/4294967296)/4294967296:=bze (by omega) (by omega);rw[t2,hc,bze (by omega) (by omega),wu64]
theorem Gzu {a n q:Int}(hn:0<n)(h1:q*n<=a)(h2:a<(q+1)*n):a/n=q:=by
 have h3:q<=a/n:=(Int.le_ediv_iff_mul_le hn).2 h1;have h4:a/n<q+1:=(Int.ediv_lt_iff_lt_mul hn).2 h2;omega
theorem Iz3 {F:(Int×Int->Option Int)->Int×Int->Option Int}{u d y1 y0:Int}
 (hu0:0<=u) (hd0:0<=d) (hd:d<4294967296) (hy1:2147483648<=y1) (hy1':y1<4294967296) (hy0:0<=y0) (hy0':y0<4294967296) (hu:u<y1*4294967296+y0)
 (hF:∀back q r,0<=q->q<=4294967297->0<=r->r<4294967296->F back (q,r) =
  if 4294967296<=q\/4294967296*r+d<q*y0 then(if 4294967296<=r+y1 then some (q-1)else back (q-1,r+y1))else some q) :
 iter F big (u/y1,u%y1)=some ((u*4294967296+d)/(y1*4294967296+y0)):=by
 have hyn:0<y1*4294967296+y0:=by omega
 obtain⟨Q,hQ⟩:∃Q,(u*4294967296+d)/(y1*4294967296+y0)=Q:=⟨_,rfl⟩;have hQ1:Q*(y1*4294967296+y0)<=u*4294967296+d:=by rw[<-hQ];exact Int.ediv_mul_le _ (by omega)
 have hQ0:0<=Q:=by rw[<-hQ];exact Int.ediv_nonneg (by omega) (by omega)
 have hQB:Q<4294967296:=by rw[<-hQ];exact(Int.ediv_lt_iff_lt_mul hyn).2 (by omega)
 have hle:∀q:Int,q*(y1*4294967296+y0)<=u*4294967296+d->q<=Q:=fun q h=>by
  rw[<-hQ];exact(Int.le_ediv_iff_mul_le hyn).2 h
 have ex:∀q:Int,q*(y1*4294967296+y0)=q*y1*4294967296+q*y0:=fun q=>by rw[Int.mul_add,Int.mul_assoc]
 rw[hQ];refine ozv (fun x=>x.1.toNat) (fun x=>x.2=u-x.1*y1/\0<=x.2/\x.2<4294967296/\Q<=x.1/\x.1<=4294967297) (fun _=>Q) ?_ _ ?_ ?_
 .intro back x hp hback;obtain⟨q,r⟩:=x;obtain⟨h1,h2,h3,h4,h5⟩:=hp;simp only at h1 h2 h3 h4 h5 hback;rw[hF back q r (by omega) h5 h2 h3];by_cases hc:4294967296<=q\/4294967296*r+d<q*y0
  .have hlt:Q<q:=by
    rcases hc with hc|hc
    .omega
    .by_cases h:Q<q
     .exact h
     .have hqQ:q=Q:=by omega
      subst hqQ;rw[ex]at hQ1;omega
   rw[if_pos hc];have hs:(q-1)*y1=q*y1-y1:=by rw[Int.sub_mul];omega
   by_cases hr:4294967296<=r+y1
   .rw[if_pos hr];have:q-1<=Q:=by
     apply hle;rw[ex,hs];have:(q-1)*y0<=4294967296*4294967296:=kzk (by omega) hy0 (by omega) (by omega);omega
    simp only[sE0];omega
   .rw[if_neg hr];exact hback (q-1,r+y1) ⟨by simp only;omega,by simp only;omega,by simp only;omega,by simp only;omega,by simp only;omega⟩ (by simp only;omega)
  .rw[if_neg hc];have:q<=Q:=by
    apply hle;rw[ex];omega
   simp only[sE0];omega
 .have hm:=Int.emod_nonneg u (show y1≠0 by omega);have hm2:=Int.emod_lt_of_pos u (show 0<y1 by omega);have hdm:=Int.mul_ediv_add_emod u y1;have hc:=Int.mul_comm y1 (u/y1);refine⟨by simp only;omega,hm,by simp only;omega,?_,?_⟩
  .refine(Int.le_ediv_iff_mul_le (by omega)).2 ?_;rw[ex]at hQ1;have:=gzJ hQ0 hy0;omega
  .have:u/y1<4294967298:=(Int.ediv_lt_iff_lt_mul (by omega)).2 (by omega);simp only;omega
 .have:u/y1<4294967298:=(Int.ediv_lt_iff_lt_mul (by omega)).2 (by omega);simp only;omega
theorem l1_is {back:Int×Int×Int×Int×Int->Option Int}{y1 y0 d q r:Int}(hd0:0<=d)(hd:d<4294967296)(_:2147483648<=y1)(hy1':y1<4294967296)(hy0:0<=y0)(hy0':y0<4294967296)
 (hq0:0<=q) (hq:q<=4294967297) (hr0:0<=r) (hr:r<4294967296) :
 hzH back (y1,y0,d,q,r)=if 4294967296<=q\/4294967296*r+d<q*y0 then(if 4294967296<=r+y1 then some (q-1)else back (y1,y0,d,q-1,r+y1))else some q:=by
 unfold hzH;simp only;rw[bze (n:=r+y1) (by omega) (by omega)];by_cases h:4294967296<=q
 .rw[bze (n:=q-1) (by omega) (by omega)];simp only[h,decide_true,azc,true_or,if_true];by_cases h2:4294967296<=r+y1<;>simp[h2]
 .have:q*y0<=4294967295*4294967295:=kzk hq0 hy0 (by omega) (by omega);have n:=gzJ hq0 hy0;simp only[h,decide_false,azb,false_or];rw[bze (n:=4294967296*r) (by omega) (by omega),bze (n:=4294967296*r+d) (by omega) (by omega),bze (n:=q*y0) n (by omega)];by_cases h3:4294967296*r+d<q*y0
  .have:q≠0:=fun h0=>by subst h0;omega
   rw[bze (n:=q-1) (by omega) (by omega)];simp only[h3,decide_true,azc,if_true];by_cases h2:4294967296<=r+y1<;>simp[h2]
  .simp[h3]
theorem l2_is {back:Int×Int×Int×Int×Int->Option Int}{y1 y0 d q r:Int}(hd0:0<=d)(hd:d<4294967296)(_:2147483648<=y1)(hy1':y1<4294967296)(hy0:0<=y0)(hy0':y0<4294967296)
 (hq0:0<=q) (hq:q<=4294967297) (hr0:0<=r) (hr:r<4294967296) :
 hzI back (y1,y0,d,r,q)=if 4294967296<=q\/4294967296*r+d<q*y0 then(if 4294967296<=r+y1 then some (q-1)else back (y1,y0,d,r+y1,q-1))else some q:=by
 unfold hzI;simp only;rw[bze (n:=r+y1) (by omega) (by omega)];by_cases h:4294967296<=q
 .rw[bze (n:=q-1) (by omega) (by omega)];simp only[h,decide_true,azc,true_or,if_true];by_cases h2:4294967296<=r+y1<;>simp[h2]
 .have:q*y0<=4294967295*4294967295:=kzk hq0 hy0 (by omega) (by omega);have n:=gzJ hq0 hy0;simp only[h,decide_false,azb,false_or];rw[bze (n:=4294967296*r) (by omega) (by omega),bze (n:=4294967296*r+d) (by omega) (by omega),bze (n:=q*y0) n (by omega)];by_cases h3:4294967296*r+d<q*y0
  .have:q≠0:=fun h0=>by subst h0;omega
   rw[bze (n:=q-1) (by omega) (by omega)];simp only[h3,decide_true,azc,if_true];by_cases h2:4294967296<=r+y1<;>simp[h2]
  .simp[h3]
theorem Bzm {X Y Z:Type}{F:(X->Option Y)->X->Option Y}{G:(Z->Option Y)->Z->Option Y}(e:Z->X)(ok:Z->Prop)
 (h:∀back back' z,ok z->(∀z',ok z'->back (e z')=back' z')->F back (e z)=G back' z):∀n z,ok z->iter F n (e z)=iter G n z
 | 0,z,_=>by rw[mzK,mzK]
 | n+1,z,hz=>by
  rw[azF,azF];exact h _ _ z hz fun z' hz'=>Bzm e ok h n z' hz'
def guess (y1 y0 d:Int)(back:Int×Int->Option Int)(z:Int×Int):Option Int:=if 0<=z.1/\z.1<=4294967297/\0<=z.2/\z.2<4294967296 then if 4294967296<=z.1\/4294967296*z.2+d<z.1*y0 then(if 4294967296<=z.2+y1 then some (z.1-1)else back (z.1-1,z.2+y1))else some z.1 else none
theorem uzD {y1 y0 d:Int}{back:Int×Int->Option Int}{z:Int×Int}(h:0<=z.1/\z.1<=4294967297/\0<=z.2/\z.2<4294967296):guess y1 y0 d back z =
 if 4294967296<=z.1\/4294967296*z.2+d<z.1*y0 then(if 4294967296<=z.2+y1 then some (z.1-1)else back (z.1-1,z.2+y1))else some z.1:=if_pos h
theorem l1_guess {u d y1 y0:Int}(hu0:0<=u)(hd0:0<=d)(hd:d<4294967296)(hy1:2147483648<=y1)(hy1':y1<4294967296)(hy0:0<=y0)(hy0':y0<4294967296)(hu:u<y1*4294967296+y0):
 kzK (y1,y0,d,u/y1,u%y1)=some ((u*4294967296+d)/(y1*4294967296+y0)):=by
 have h:=Iz3 (F:=guess y1 y0 d) hu0 hd0 hd hy1 hy1' hy0 hy0' hu fun back q r h1 h2 h3 h4=>by
  rw[uzD ⟨h1,h2,h3,h4⟩]
 have hlt:u/y1<4294967298:=(Int.ediv_lt_iff_lt_mul (by omega)).2 (by omega);have hnn:0<=u/y1:=Int.ediv_nonneg hu0 (by omega);have hm:=Int.emod_nonneg u (show y1≠0 by omega);have hm2:=Int.emod_lt_of_pos u (show 0<y1 by omega);rw[<-h];refine Bzm (F:=hzH) (fun z:Int×Int=>(y1,y0,d,z.1,z.2)) (fun z=>0<=z.1/\z.1<=4294967297/\0<=z.2/\z.2<4294967296) ?_ big (u/y1,u%y1) ⟨hnn,by simp only;omega,hm,by simp only;omega⟩;intro back back' z hz hb;obtain⟨h1,h2,h3,h4⟩:=hz;rw[l1_is hd0 hd hy1 hy1' hy0 hy0' h1 h2 h3 h4];rw[uzD ⟨h1,h2,h3,h4⟩];by_cases hc:4294967296<=z.1\/4294967296*z.2+d<z.1*y0
 .rw[if_pos hc,if_pos hc];by_cases hr:4294967296<=z.2+y1
  .rw[if_pos hr,if_pos hr]
  .rw[if_neg hr,if_neg hr];refine hb (z.1-1,z.2+y1) ⟨?_,by simp only;omega,by simp only;omega,by simp only;omega⟩;rcases hc with hc|hc
   .simp only;omega
   .by_cases h0:z.1=0
    .rw[h0]at hc;omega
    .simp only;omega
 .rw[if_neg hc,if_neg hc]
theorem l2_guess {u d y1 y0:Int}(hu0:0<=u)(hd0:0<=d)(hd:d<4294967296)(hy1:2147483648<=y1)(hy1':y1<4294967296)(hy0:0<=y0)(hy0':y0<4294967296)(hu:u<y1*4294967296+y0):
 kzL (y1,y0,d,u%y1,u/y1)=some ((u*4294967296+d)/(y1*4294967296+y0)):=by
 have h:=Iz3 (F:=guess y1 y0 d) hu0 hd0 hd hy1 hy1' hy0 hy0' hu fun back q r h1 h2 h3 h4=>by
  rw[uzD ⟨h1,h2,h3,h4⟩]
 have hlt:u/y1<4294967298:=(Int.ediv_lt_iff_lt_mul (by omega)).2 (by omega);have hnn:0<=u/y1:=Int.ediv_nonneg hu0 (by omega);have hm:=Int.emod_nonneg u (show y1≠0 by omega);have hm2:=Int.emod_lt_of_pos u (show 0<y1 by omega);rw[<-h];refine Bzm (F:=hzI) (fun z:Int×Int=>(y1,y0,d,z.2,z.1)) (fun z=>0<=z.1/\z.1<=4294967297/\0<=z.2/\z.2<4294967296) ?_ big (u/y1,u%y1) ⟨hnn,by simp only;omega,hm,by simp only;omega⟩;intro back back' z hz hb;obtain⟨h1,h2,h3,h4⟩:=hz;rw[l2_is hd0 hd hy1 hy1' hy0 hy0' h1 h2 h3 h4];rw[uzD ⟨h1,h2,h3,h4⟩];by_cases hc:4294967296<=z.1\/4294967296*z.2+d<z.1*y0
 .rw[if_pos hc,if_pos hc];by_cases hr:4294967296<=z.2+y1
  .rw[if_pos hr,if_pos hr]
  .rw[if_neg hr,if_neg hr];refine hb (z.1-1,z.2+y1) ⟨?_,by simp only;omega,by simp only;omega,by simp only;omega⟩;rcases hc with hc|hc
   .simp only;omega
   .by_cases h0:z.1=0
    .rw[h0]at hc;omega
    .simp only;omega
 .rw[if_neg hc,if_neg hc]
def oz4 (yn u t q:Int):Int:=u64.wrap (u64.wrap (u64.wrap (u*4294967296)+t.fdiv 4294967296)-u64.wrap (q*yn))
def Gzv (yn u t:Int)(S:Int):Option (Int×Int):=obnd (kzK (yn.fdiv 4294967296,azn BinOp.and u64 yn 4294967295,t.fdiv 4294967296,u64.wrap (u.tdiv (yn.fdiv 4294967296)),u64.wrap (u-u64.wrap (u64.wrap (u.tdiv (yn.fdiv 4294967296))*yn.fdiv 4294967296)))) fun q1=>(obnd (kzL (yn.fdiv 4294967296,azn BinOp.and u64 yn 4294967295,azn BinOp.and u64 t 4294967295,u64.wrap (oz4 yn u t q1-u64.wrap (u64.wrap ((oz4 yn u t q1).tdiv (yn.fdiv 4294967296))*yn.fdiv 4294967296)),u64.wrap ((oz4 yn u t q1).tdiv (yn.fdiv 4294967296)))) fun q0=>some (u64.wrap (u64.wrap (q1*4294967296)+q0),(u64.wrap (u64.wrap (u64.wrap (oz4 yn u t q1*4294967296)+azn BinOp.and u64 t 4294967295)-u64.wrap (q0*yn))).fdiv S))
theorem Gzf {a b:Int}(ha:0<=a):a.tdiv b=a/b:=Int.tdiv_eq_ediv_of_nonneg ha
theorem rest_is {u d:Int}(hu:0<=u)(hu':u<18446744073709551616)(hd:0<d):u64.wrap (u.tdiv d)=u/d/\u64.wrap (u-u64.wrap (u64.wrap (u.tdiv d)*d))=u%d:=by
 rw[Gzf hu];have h1:0<=u/d:=Int.ediv_nonneg hu (by omega);have h2:u/d<=u:=Int.ediv_le_self _ hu;have h3:=Int.mul_ediv_add_emod u d;have h4:=Int.emod_nonneg u (show d≠0 by omega);have h5:=Int.mul_comm d (u/d);have h6:=gzJ h1 (show 0<=d by omega);rw[bze h1 (by omega),bze h6 (by omega),bze (by omega) (by omega)];exact⟨rfl,by omega⟩
theorem div_v_is {yn u t q:Int}(hq:q=(u*4294967296+t/4294967296)/yn)(hyn:0<yn)(hyn':yn<18446744073709551616):
 oz4 yn u t q=u*4294967296+t/4294967296-q*yn/\0<=oz4 yn u t q/\oz4 yn u t q<yn:=by
 have h3:=Int.mul_ediv_add_emod (u*4294967296+t/4294967296) yn;have h4:=Int.emod_nonneg (u*4294967296+t/4294967296) (show yn≠0 by omega);have h5:=Int.emod_lt_of_pos (u*4294967296+t/4294967296) hyn;rw[<-hq,Int.mul_comm]at h3;have e:oz4 yn u t q=u*4294967296+t/4294967296-q*yn:=by
  unfold oz4;rw[Int.fdiv_eq_ediv_of_nonneg t (by omega)];simp only[wu64];omega
 rw[e];refine⟨rfl,by omega,by omega⟩
theorem IzA {yn u t S:Int}(hyn:9223372036854775808<=yn)(hyn':yn<18446744073709551616)(hu:0<=u)(hu':u<yn)(ht:0<=t)(ht':t<18446744073709551616)(hS:0<S):
 Gzv yn u t S=some ((u*18446744073709551616+t)/yn,(u*18446744073709551616+t)%yn/S):=by
 unfold Gzv;rw[Int.fdiv_eq_ediv_of_nonneg yn (by omega),Int.fdiv_eq_ediv_of_nonneg t (by omega),and32 (x:=yn) (by omega) hyn',and32 (x:=t) ht ht'];obtain⟨r1,r2⟩:=rest_is (u:=u) (d:=yn/4294967296) hu (by omega) (by omega);rw[r2,r1,l1_guess hu (by omega) (by omega) (by omega) (by omega) (by omega) (by omega) (by omega),aza];have hyne:yn/4294967296*4294967296+yn%4294967296=yn:=by omega
 rw[hyne];obtain⟨q1,hq1⟩:∃q,(u*4294967296+t/4294967296)/yn=q:=⟨_,rfl⟩;rw[hq1];obtain⟨v1,v2,v3⟩:=div_v_is hq1.symm (by omega) hyn';obtain⟨v,hv⟩:∃v,oz4 yn u t q1=v:=⟨_,rfl⟩;rw[hv]at v1 v2 v3 ⊢;obtain⟨s1,s2⟩:=rest_is (u:=v) (d:=yn/4294967296) v2 (by omega) (by omega);rw[s2,s1,l2_guess v2 (by omega) (by omega) (by omega) (by omega) (by omega) (by omega) (by omega),aza,hyne];obtain⟨q0,hq0⟩:∃q,(v*4294967296+t%4294967296)/yn=q:=⟨_,rfl⟩;rw[hq0];have h3:=Int.mul_ediv_add_emod (v*4294967296+t%4294967296) yn;have h4:=Int.emod_nonneg (v*4294967296+t%4294967296) (show yn≠0 by omega);have h5:=Int.emod_lt_of_pos (v*4294967296+t%4294967296) (show 0<yn by omega);rw[hq0,Int.mul_comm]at h3;have b1:q1<4294967296:=by rw[<-hq1];exact(Int.ediv_lt_iff_lt_mul (by omega)).2 (by omega)
 have b1':0<=q1:=by rw[<-hq1];exact Int.ediv_nonneg (by omega) (by omega)
 have b0:q0<4294967296:=by rw[<-hq0];exact(Int.ediv_lt_iff_lt_mul (by omega)).2 (by omega)
 have b0':0<=q0:=by rw[<-hq0];exact Int.ediv_nonneg (by omega) (by omega)
 have key:u*18446744073709551616+t=(v*4294967296+t%4294967296)%yn+yn*(q1*4294967296+q0):=by
  have e1:yn*(q1*4294967296+q0)=q1*yn*4294967296+q0*yn:=by
   rw[Int.mul_add,Int.mul_comm yn q0,<-Int.mul_assoc,Int.mul_comm yn q1]
  rw[e1];omega
 have kq:(u*18446744073709551616+t)/yn=q1*4294967296+q0:=by
  rw[key,Int.add_mul_ediv_left _ _ (show yn≠0 by omega),Int.ediv_eq_zero_of_lt h4 h5,Int.zero_add]
 have kr:(u*18446744073709551616+t)%yn=(v*4294967296+t%4294967296)%yn:=by
  rw[key,Int.add_mul_emod_self_left,Int.emod_emod]
 have er:u64.wrap (u64.wrap (u64.wrap (v*4294967296)+t%4294967296)-u64.wrap (q0*yn))=(v*4294967296+t%4294967296)%yn:=by
  simp only[wu64];omega
 rw[kq,kr,er,Int.fdiv_eq_ediv_of_nonneg _ (by omega),bze (n:=q1*4294967296) (by omega) (by omega),bze (by omega) (by omega)]
set_option maxHeartbeats 1000000 in
theorem Div64_is {hi lo y:Int}(h0:0<=hi)(h1:hi<y)(hl0:0<=lo)(hl:lo<18446744073709551616)(hy:y<18446744073709551616):
 lzx (hi,lo,y)=some ((hi*18446744073709551616+lo)/y,(hi*18446744073709551616+lo)%y):=by
 have f1:decide (y=0)=false:=dF0 (by omega);have f2:decide (y<=hi)=false:=dF0 (by omega);by_cases hz:hi=0
 .subst hz;unfold lzx;simp only[f1,f2,azb,decide_true,azc];rw[Gzf hl0,Int.tmod_eq_emod_of_nonneg hl0,Int.zero_mul,Int.zero_add];have:=Int.ediv_le_self y hl0;have:=Int.ediv_nonneg hl0 (show 0<=y by omega);rw[bze this (by omega)]
 have f3:decide (hi=0)=false:=dF0 hz;obtain⟨Y,rfl⟩:=Int.eq_ofNat_of_zero_le (show 0<=y by omega);obtain⟨b1,b2,b3⟩:=Lib.bitLenAux_bounds 64 Y (by omega) (by omega);have b4:Lib.bitLenAux 64 Y<=64:=by
  refine Nat.le_of_not_lt fun h=>?_
  have:=Nat.pow_le_pow_right (show 0<2 by omega) (show 64<=Lib.bitLenAux 64 Y-1 by omega);omega
 obtain⟨b,hb⟩:∃b,Lib.bitLenAux 64 Y=b:=⟨_,rfl⟩;rw[hb]at b1 b2 b3 b4;obtain⟨s,hs⟩:∃s,s+b=64:=⟨64-b,by omega⟩;have hST:(2:Int)^s*2^b=18446744073709551616:=by rw[<-Int.pow_add,hs];rfl
 have hS0:(0:Int)<2^s:=Int.pow_pos (by omega);have hT0:(0:Int)<2^b:=Int.pow_pos (by omega);have hYT:(Y:Int)<2^b:=by
  have:=Int.ofNat_lt.2 b3;simpa using this
 have hYS:(Y:Int)*2^s<18446744073709551616:=by
  rw[<-hST,Int.mul_comm ((2:Int)^s)];exact Int.mul_lt_mul_of_pos_right hYT hS0
 have hYS2:(9223372036854775808:Int)<=Y*2^s:=by
  have h2:((2^(b-1):Nat):Int)<=Y:=Int.ofNat_le.2 b2;have h3:=Int.mul_le_mul_of_nonneg_right h2 (Int.le_of_lt hS0);have h4:((2^(b-1):Nat):Int)*2^s=9223372036854775808:=by
   rw[Int.natCast_pow]
   show(2:Int)^(b-1)*2^s=_
   rw[<-Int.pow_add,show b-1+s=63 by omega];rfl
  omega
 have hlT:lo/2^b<2^s:=(Int.ediv_lt_iff_lt_mul hT0).2 (by rw[hST];exact hl);have hlT0:0<=lo/2^b:=Int.ediv_nonneg hl0 (Int.le_of_lt hT0);have hhi:hi*2^s+2^s<=Y*2^s:=by
  have:=Int.mul_le_mul_of_nonneg_right (show hi+1<=(Y:Int) by omega) (Int.le_of_lt hS0);rw[Int.add_mul]at this;omega
 have hhi0:0<=hi*2^s:=gzJ h0 (Int.le_of_lt hS0);have w1:fza (Y:Int)=some (s:Int):=by
  unfold fza;have e:Lib.bitLen (Y:Int).toNat=b:=hb;rw[e,show(64-(b:Int))=s by omega]
 have w2:u64.wrap (s:Int)=s:=bze (by omega) (by omega);have w3:u64.wrap (64-(s:Int))=b:=by rw[show(64-(s:Int))=b by omega];exact bze (by omega) (by omega)
 have m1:min s 64=s:=by omega
 have m2:min b 64=b:=by omega
 have n1:decide ((s:Int)<0)=false:=dF0 (by omega);have n2:decide ((b:Int)<0)=false:=dF0 (by omega);have wy:u64.wrap ((Y:Int)*2^s)=Y*2^s:=bze (by omega) hYS;have wh:u64.wrap (hi*2^s)=hi*2^s:=bze hhi0 (by omega);have wf:lo.fdiv (2^b)=lo/2^b:=Int.fdiv_eq_ediv_of_nonneg lo (Int.le_of_lt hT0);have wo:azn .or .u64 (hi*2^s) (lo/2^b)=hi*2^s+lo/2^b:=or_low h0 hlT0 hlT (by omega);have nd:decide (((Y:Int)*2^s).fdiv 4294967296=0)=false:=by
  rw[Int.fdiv_eq_ediv_of_nonneg _ (by omega)];exact dF0 (by omega)
 unfold lzx;simp only[f1,f2,f3,azb,w1,aza,w2,w3,n1,n2,Int.toNat_natCast,m1,m2,wy,wh,wf,wo,nd];have hd:=IzA (yn:=(Y:Int)*2^s) (u:=hi*2^s+lo/2^b) (t:=u64.wrap (lo*2^s)) (S:=2^s) hYS2 hYS (by omega) (by omega)
  (by rw[wu64];omega) (by rw[wu64];omega) hS0
 refine Eq.trans hd ?_;have e1:(hi*2^s+lo/2^b)*18446744073709551616+u64.wrap (lo*2^s)=2^s*(hi*18446744073709551616+lo):=by
  have h1:lo*2^s/18446744073709551616=lo/2^b:=by
   rw[<-hST,Int.mul_comm ((2:Int)^s) (2^b)];exact Int.mul_ediv_mul_of_pos_left lo (2^b) hS0
  rw[wu64,<-h1,Int.mul_add,Int.mul_comm ((2:Int)^s) lo,<-Int.mul_assoc,Int.mul_comm ((2:Int)^s) hi];omega
 rw[e1,Int.mul_comm (Y:Int) (2^s),Int.mul_ediv_mul_of_pos _ _ hS0,Int.mul_emod_mul_of_pos _ _ hS0,Int.mul_ediv_cancel_left _ (by omega)]
def W (v:Int)(m:Bool):Wide:=⟨v/18446744073709551616,v%18446744073709551616,m⟩
def sw (v:Int)(m:Bool):Int:=bif m then -v else v
def inW (v:Int):Prop:=0<=v/\v<340282366920938463463374607431768211456
theorem qzy {n:Int}(h:I64 n):kzO n=some (W n.natAbs (decide (n<0))):=by
 unfold I64 at h;unfold kzO W;by_cases h0:n<0
 .simp only[h0,decide_true,azc,wu64,sE0,Wide.mk.injEq,and_true];omega
 .simp only[h0,decide_false,azb,wu64,sE0,Wide.mk.injEq,and_true];omega
theorem pow10:∀n:Fin 20,(1:Int)<=10^n.val/\(10:Int)^n.val<=10000000000000000000:=by decide
theorem gz4 {n:Nat}(h:n<=19):(1:Int)<=10^n/\(10:Int)^n<=10000000000000000000:=pow10 ⟨n,by omega⟩
theorem mzk {n:Nat}(h:n<=19):ezj (n:Int)=some (10^n):=by
 have h2:pzI (1,(n:Int),0)=some (10^n):=by
  refine ozv (F:=lzN) (fun x:Int×Int×Int=>((n:Int)-x.2.2).toNat) (fun x:Int×Int×Int=>0<=x.2.2/\x.2.2<=n/\x.2.1=n/\x.1=10^x.2.2.toNat) (fun _=>10^n) ?_ _ ⟨by simp,by simp,rfl,rfl⟩ (by simp only;omega);intro back x hp hb;obtain⟨a,m,i⟩:=x;obtain⟨h1,h2,h3,h4⟩:=hp;simp only at h1 h2 h3 h4 hb;subst h3 h4;obtain⟨i,rfl⟩:=Int.eq_ofNat_of_zero_le h1;unfold lzN;simp only[Int.toNat_natCast]at *;by_cases hi:i<n
  .have hp1:=(gz4 (show i+1<=19 by omega));rw[dT0 (show(i:Int)<n by omega),azc,<-Int.pow_succ,bze (by omega) (by omega),azi (by omega) (by omega)];exact hb _ ⟨by simp only;omega,by simp only;omega,rfl,by simp only;rw[show((i:Int)+1).toNat=i+1 by omega]⟩ (by simp only;omega)
  .rw[dF0 (show ¬(i:Int)<n by omega),azb,show i=n by omega]
 unfold ezj;rw[h2];rfl
theorem CzA {v n:Int}{m:Bool}(hv:inW v)(hn:0<=n)(hn2:n<18446744073709551616)(h:inW (v*n)):ezE (W v m,n)=some (W (v*n) m):=by
 unfold inW at *;unfold ezE W;simp only;rw[AzE (by omega) (by omega) hn hn2];simp only[aza];have e:v*n=v/18446744073709551616*n*18446744073709551616+v%18446744073709551616*n:=by
  have h1:v=v/18446744073709551616*18446744073709551616+v%18446744073709551616:=by omega
  have h2:v*n=(v/18446744073709551616*18446744073709551616+v%18446744073709551616)*n:=by rw[<-h1]
  rw[h2,Int.add_mul,Int.mul_right_comm]
 have p1:=gzJ (show 0<=v/18446744073709551616 by omega) hn;have p2:=gzJ (show 0<=v%18446744073709551616 by omega) hn;rw[e]at h ⊢;generalize v/18446744073709551616*n=a at *;generalize v%18446744073709551616*n=b at *;simp only[wu64,sE0,Wide.mk.injEq,and_true];omega
theorem FzM {v w:Int}{m m':Bool}(_:inW v)(_:inW w):dzp (W v m,W w m')=some (decide (v<w)):=by
 unfold inW at *;unfold dzp W;simp only;by_cases h1:v/18446744073709551616<w/18446744073709551616
 .rw[dT0 h1,azc,dT0 (show v<w by omega)]
 .rw[dF0 h1,azb];by_cases h2:v/18446744073709551616=w/18446744073709551616
  .rw[dT0 h2,azc];simp only[sE0,decide_eq_decide];omega
  .rw[dF0 h2,azb,dF0 (show ¬v<w by omega)]
theorem plus_is {v w:Int}{m m':Bool}(hv:inW v)(hw:inW w)(h:inW (v+w)):
 ∃z b,fzr (W v m,W w m')=some (W z b)/\inW z/\sw z b=sw v m+sw w m':=by
 have hvw:=FzM (m:=m) (m':=m') hv hw;unfold inW at *;unfold fzr;rw[hvw];by_cases hm:m=m'
 .subst hm;refine⟨v+w,m,?_,h,by cases m<;>simp only[sw,cond_true,cond_false]<;>omega⟩;unfold gz0 W;simp only[decide_true,azc,Bool.true_or,cond_true,aza,wu64,sE0,Wide.mk.injEq,and_true];omega
 .rw[dF0 (show ¬(W v m).minus=(W w m').minus from hm),azb,aza];have hm2:m' = !m:=by cases m<;>cases m'<;>simp at hm ⊢
  subst hm2;unfold jzz W;by_cases hl:v<w
  .refine⟨w-v,!m,?_,by omega,by cases m<;>simp only[sw,cond_true,cond_false,Bool.not_true,Bool.not_false]<;>omega⟩;rw[dT0 hl,azc];simp only[decide_true,Bool.true_or,cond_true,aza,wu64,sE0,Wide.mk.injEq,and_true,Int.add_zero,Int.sub_zero];by_cases hb:w%18446744073709551616<v%18446744073709551616
   .rw[dT0 hb,cond_true];omega
   .rw[dF0 hb,cond_false];omega
  .refine⟨v-w,m,?_,by omega,by cases m<;>simp only[sw,cond_true,cond_false,Bool.not_true,Bool.not_false]<;>omega⟩;rw[dF0 hl,azb];simp only[decide_true,Bool.true_or,cond_true,aza,wu64,sE0,Wide.mk.injEq,and_true,Int.add_zero,Int.sub_zero];by_cases hb:v%18446744073709551616<w%18446744073709551616
   .rw[dT0 hb,cond_true];omega
   .rw[dF0 hb,cond_false];omega
theorem by_is {v n:Int}{m:Bool}(hv:inW v)(hn:0<n)(hn2:n<18446744073709551616):jz1 (W v m,n)=some (W (v/n) m,v%n):=by
 unfold inW at *;unfold jz1 W;simp only;have hh:0<=v/18446744073709551616:=by omega
 rw[dF0 (show ¬n=0 by omega),azb,azb,Int.tmod_eq_emod_of_nonneg hh,Gzf hh];have r0:=Int.emod_nonneg (v/18446744073709551616) (show n≠0 by omega);have r1:=Int.emod_lt_of_pos (v/18446744073709551616) hn;rw[Div64_is r0 r1 (by omega) (by omega) hn2,aza];obtain⟨q,hq⟩:∃q,v/18446744073709551616/n=q:=⟨_,rfl⟩;obtain⟨r,hr⟩:∃r,v/18446744073709551616%n=r:=⟨_,rfl⟩;have hqr:=Int.mul_ediv_add_emod (v/18446744073709551616) n;rw[hq,hr]at hqr;rw[hr]at r0 r1;rw[hr,hq];have hq0:0<=q:=by rw[<-hq];exact Int.ediv_nonneg hh (by omega)
 have hq1:q<18446744073709551616:=by have:=Int.ediv_le_self n hh;omega
 have e:v=r*18446744073709551616+v%18446744073709551616+n*(q*18446744073709551616):=by
  rw[<-Int.mul_assoc];omega
 obtain⟨d,hd⟩:∃d,r*18446744073709551616+v%18446744073709551616=d:=⟨_,rfl⟩;rw[hd]at e ⊢;have d0:0<=d/n:=Int.ediv_nonneg (by omega) (by omega);have d1:d/n<18446744073709551616:=(Int.ediv_lt_iff_lt_mul hn).2 (by omega);have e1:v/n=d/n+q*18446744073709551616:=by
  rw[e,Int.add_mul_ediv_left _ _ (show n≠0 by omega)]
 have e2:v%n=d%n:=by rw[e,Int.add_mul_emod_self_left]
 rw[e1,e2];simp only[wu64,sE0,Prod.mk.injEq,Wide.mk.injEq,and_true];omega
theorem up_is {v:Int}{m:Bool}(hv:inW v)(h:inW (v+1)):mz1 (W v m)=some (W (v+1) m):=by
 unfold inW at *;unfold mz1 gz0 W;simp only[decide_true,Bool.true_or,cond_true,aza,wu64,sE0,Wide.mk.injEq,and_true];omega
theorem rdiv_le {v n:Int}(hv:0<=v)(hn:0<n):0<=rdiv v n/\rdiv v n<=v/n+1/\v/n<=v:=by
 have h1:=Int.ediv_nonneg hv (show 0<=n by omega);have h2:=Int.ediv_le_self n hv;unfold rdiv;split<;>omega
theorem ozR {v n:Int}{m:Bool}(hv:0<=v)(hv2:v<340282366920938463463374607431768211455)(hn:0<n)(hn2:n<18446744073709551616):cz0 (W v m,n)=some (W (rdiv v n) m)/\inW (rdiv v n):=by
 have hw:inW v:=⟨hv,by omega⟩;obtain⟨h1,h2,h3⟩:=rdiv_le hv hn;have r0:=Int.emod_nonneg v (show n≠0 by omega);have r1:=Int.emod_lt_of_pos v hn;have r2:=Int.ediv_nonneg hv (show 0<=n by omega);refine⟨?_,h1,by omega⟩;unfold cz0;rw[by_is hw hn hn2,aza];simp only;rw[bze (by omega) (by omega)];unfold rdiv;by_cases h:n-v%n<=v%n
 .rw[dT0 h,azc,if_pos (by omega),up_is ⟨r2,by omega⟩ ⟨by omega,by omega⟩];rfl
 .rw[dF0 h,azb,if_neg (by omega)]
theorem Czz:∀(p:Nat) {v:Int},0<=v->0<=(azr v p).1
 | 0,_,h=>h
 | p+1,v,h=>by
  unfold azr;split
  .exact Czz p (by omega)
  .exact h
theorem yzk:∀(p:Nat) (v:Int),azr (-v) p=(-(azr v p).1,(azr v p).2)
 | 0,_=>rfl
 | p+1,v=>by
  unfold azr;by_cases h:v%10=0
  .rw[if_pos (by omega),if_pos h,show -v/10 = -(v/10) by omega,yzk p]
  .rw[if_neg (by omega),if_neg h]
theorem dec_l1_is {v:Int}{m:Bool}{p:Nat}(hv:inW v)(hp:p<=18):mzd ((p:Int),W v m)=some (((azr v p).2:Int),W (azr v p).1 m):=by
 refine ozv (fun x=>x.1.toNat) (fun x=>∃(p:Nat) (v:Int),p<=18/\inW v/\x=((p:Int),W v m)/\True)
  (fun x=>(((azr (x.2.hi*18446744073709551616+x.2.lo) x.1.toNat).2:Int),W (azr (x.2.hi*18446744073709551616+x.2.lo) x.1.toNat).1 m)) ?_ _ ⟨p,v,hp,hv,rfl,trivial⟩ (by simp only;omega) |>.trans ?_
 .intro back x hx hb;obtain⟨p,v,hp,hv,rfl,-⟩:=hx;have ev:∀{v:Int},v/18446744073709551616*18446744073709551616+v%18446744073709551616=v:=fun {v}=>by omega
  unfold mzc;simp only[W,Int.toNat_natCast,ev]at hb ⊢;cases p with
  | zero=>simp only[Int.ofNat_zero,Int.lt_irrefl,decide_false,azb,azr]
  | succ p =>
   have hby:=by_is (v:=v) (n:=10) (m:=m) hv (by omega) (by omega);simp only[W]at hby
   rw[dT0 (show(0:Int)<((p+1:Nat):Int) by omega),azc,hby,aza];unfold azr;by_cases h0:v%10=0
   .simp only[h0,decide_true,Bool.not_true,azb,if_true];rw[azi (by omega) (by omega),show(((p+1:Nat):Int)-1)=(p:Int) by omega];have:=hb ((p:Int),⟨v/10/18446744073709551616,v/10%18446744073709551616,m⟩) ⟨p,v/10,by omega,⟨by have:=hv.1;omega,by have:=hv.1;have:=hv.2;omega⟩,rfl,trivial⟩ (by simp only[Int.toNat_natCast];omega);simpa only[ev,Int.toNat_natCast]using this
   .simp only[h0,decide_false,Bool.not_false,azc,if_false]
 .have ev:v/18446744073709551616*18446744073709551616+v%18446744073709551616=v:=by omega
  simp only[W,ev,Int.toNat_natCast]
theorem ozX {v:Int}{m:Bool}{p:Nat}(hv:inW v)(hp:p<=18):czn (W v m,(p:Int))=some (decV (sw v m) p):=by
 unfold czn;simp only;rw[dec_l1_is hv hp,aza];have h0:=Czz p hv.1;have h1:=yzj p v;have hs:azr (sw v m) p=(sw (azr v p).1 m,(azr v p).2):=by
  cases m
  .rfl
  .exact yzk p v
 have hd:decV (sw v m) p=if I64 (sw (azr v p).1 m)then(⟨sw (azr v p).1 m,((azr v p).2:Int)⟩,0)else(⟨0,0⟩,8):=by
  unfold decV;rw[hs]
 rw[hd];have hv1:=hv.1;have hv2:=hv.2;generalize (azr v p).1=u at *;generalize ((azr v p).2)=s at *;unfold W;simp only[wu64,wi64];by_cases c1:u/18446744073709551616=0
 .by_cases c2:9223372036854775808<u%18446744073709551616
  .rw[if_neg (by unfold I64 sw;cases m<;>simp only[cond_true,cond_false]<;>omega)];simp[c1,c2]
  .by_cases c3:u%18446744073709551616=9223372036854775808
   .cases m
    .rw[if_neg (by unfold I64 sw;simp only[cond_false];omega)];simp[c1,c3]
    .rw[if_pos (by unfold I64 sw;simp only[cond_true];omega)];simp only[c1,c3,sw,decide_true,decide_false,Bool.not_true,azc,azb,cond_true,sE0,Prod.mk.injEq,Dec.mk.injEq,and_true,Int.lt_irrefl];omega
   .cases m
    .rw[if_pos (by unfold I64 sw;simp only[cond_false];omega)];simp only[c1,c2,c3,sw,decide_true,decide_false,Bool.not_true,azb,cond_false,sE0,Prod.mk.injEq,Dec.mk.injEq,and_true];omega
    .rw[if_pos (by unfold I64 sw;simp only[cond_true];omega)];simp only[c1,c2,c3,sw,decide_true,decide_false,Bool.not_true,azc,azb,cond_true,sE0,Prod.mk.injEq,Dec.mk.injEq,and_true];omega
 .rw[if_neg (by unfold I64 sw;cases m<;>simp only[cond_true,cond_false]<;>omega)];simp[c1]
theorem mzN (n:Int):sw n.natAbs (decide (n<0))=n:=by
 unfold sw;by_cases h:n<0
 .rw[dT0 h,cond_true];omega
 .rw[dF0 h,cond_false];omega
theorem zzV (n:Int)(k:Nat):(n.natAbs:Int)*10^k=((n*10^k).natAbs:Int):=by
 have h:(1:Int)<=10^k:=by
  have:=Int.pow_pos (n:=(10:Int)) (m:=k) (by omega);omega
 by_cases h0:n<0
 .have e1:(n.natAbs:Int) = -n:=by omega
  have e2:n*10^k<=0:=by
   have:=Int.mul_nonneg (show 0<=-n by omega) (show(0:Int)<=10^k by omega);rw[Int.neg_mul]at this;omega
  rw[e1,Int.neg_mul];omega
 .have e1:(n.natAbs:Int)=n:=by omega
  have:=Int.mul_nonneg (show 0<=n by omega) (show(0:Int)<=10^k by omega);rw[e1];omega
theorem Azh (n:Int)(k:Nat):decide (n*10^k<0)=decide (n<0):=by
 have h:(0:Int)<10^k:=Int.pow_pos (by omega);rw[decide_eq_decide];constructor
 .intro h1;refine Int.not_le.1 fun h2=>?_
  have:=Int.mul_nonneg h2 (Int.le_of_lt h);omega
 .intro h1;have:=Int.mul_pos (show 0 < -n by omega) h;rw[Int.neg_mul]at this;omega
theorem V_le {d:Dec}(hm:I64 d.M):(V d).natAbs<=9223372036854775808000000000:=by
 have h:=zzV d.M (9-d.S.toNat);have h2:=gz4 (show 9-d.S.toNat<=19 by omega);have h3:(10:Int)^(9-d.S.toNat)<=10^9:=by
  have:=Nat.pow_le_pow_right (show 0<10 by omega) (show 9-d.S.toNat<=9 by omega);have h:=Int.ofNat_le.2 this;simpa using h
 unfold I64 at hm;have h4:(d.M.natAbs:Int)*10^(9-d.S.toNat)<=9223372036854775808*10^9:=kzk (by omega) (by omega) (by omega) h3;unfold V;omega
theorem inV {d:Dec}(hm:I64 d.M):inW (V d).natAbs:=by
 have:=V_le hm;unfold inW;omega
theorem kzE {d:Dec}(hm:I64 d.M)(h0:0<=d.S)(h9:d.S<=9):dzA d=some (W (V d).natAbs (decide (V d<0))):=by
 unfold dzA;have e:d.M.natAbs*(10:Int)^(9-d.S.toNat)=((V d).natAbs:Int):=zzV d.M (9-d.S.toNat);have hp:=gz4 (show 9-d.S.toNat<=19 by omega);rw[qzy hm,aza,azi (by omega) (by omega),show(9-d.S:Int)=((9-d.S.toNat:Nat):Int) by omega,mzk (by omega),aza,
  CzA (by unfold I64 at hm;unfold inW;omega) (by omega) (by omega) (by rw[e];exact inV hm),e,aza]
 unfold V;rw[Azh]
theorem Add_is {a b:Dec}(ha:I64 a.M)(hb:I64 b.M)(oa:okD a)(ob:okD b):ozg (a,b)=some (decV (V a+V b) 9):=by
 unfold ozg;simp only;rw[kzE ha oa.1 oa.2.1,kzE hb ob.1 ob.2.1,aza,aza];have h1:=V_le ha;have h2:=V_le hb;obtain⟨z,m,e,hz,es⟩:=plus_is (m:=decide (V a<0)) (m':=decide (V b<0)) (inV ha) (inV hb) (by unfold inW;omega);rw[e,aza,show(9:Int)=((9:Nat):Int) from rfl,ozX hz (by omega),es,mzN,mzN];rfl
theorem sw_not (v:Int)(m:Bool):sw v (!m) = - sw v m:=by cases m<;>simp[sw]
theorem Sub_is {a b:Dec}(ha:I64 a.M)(hb:I64 b.M)(oa:okD a)(ob:okD b):izH (a,b)=some (decV (V a-V b) 9):=by
 unfold izH;simp only;rw[kzE ha oa.1 oa.2.1,kzE hb ob.1 ob.2.1,aza,aza];have h1:=V_le ha;have h2:=V_le hb;obtain⟨z,m,e,hz,es⟩:=plus_is (m:=decide (V a<0)) (m':=!decide (V b<0)) (inV ha) (inV hb) (by unfold inW;omega);have e2:fzr (W (V a).natAbs (decide (V a<0)),⟨(W (V b).natAbs (decide (V b<0))).hi,(W (V b).natAbs (decide (V b<0))).lo,!(W (V b).natAbs (decide (V b<0))).minus⟩)=some (W z m):=e;rw[e2,aza,show(9:Int)=((9:Nat):Int) from rfl,ozX hz (by omega),es,sw_not,mzN,mzN,<-Int.sub_eq_add_neg];rfl
theorem sw_mul (a b:Int):sw ((a.natAbs:Int)*b.natAbs) (!decide (decide (a<0)=decide (b<0)))=a*b:=by
 have e:(a.natAbs:Int)*b.natAbs=((a*b).natAbs:Int):=by rw[Int.natAbs_mul,Int.natCast_mul]
 rw[e];unfold sw;by_cases h1:a<0<;>by_cases h2:b<0
 .have:=Int.mul_nonneg (show 0<=-a by omega) (show 0<=-b by omega);rw[Int.neg_mul_neg]at this;simp only[h1,h2,decide_true,Bool.not_true,cond_false];omega
 .have:=Int.mul_nonneg (show 0<=-a by omega) (show 0<=b by omega);rw[Int.neg_mul]at this;simp only[h1,h2,decide_true,decide_false,Bool.true_eq_false,Bool.not_false,cond_true];omega
 .have:=Int.mul_nonneg (show 0<=a by omega) (show 0<=-b by omega);rw[Int.mul_neg]at this;simp only[h1,h2,decide_true,decide_false,Bool.false_eq_true,Bool.not_false,cond_true];omega
 .have:=Int.mul_nonneg (show 0<=a by omega) (show 0<=b by omega);simp only[h1,h2,decide_true,decide_false,Bool.not_true,cond_false];omega
theorem Mul_is {a b:Dec}(ha:I64 a.M)(hb:I64 b.M)(h0:0<=a.S+b.S)(h9:a.S+b.S<=9):gz1 (a,b)=some (decV (a.M*b.M) (a.S+b.S).toNat):=by
 have hA:=ha;have hB:=hb;unfold I64 at ha hb;unfold gz1;simp only;have p0:=gzJ (show(0:Int)<=a.M.natAbs by omega) (show(0:Int)<=b.M.natAbs by omega);have p1:(a.M.natAbs:Int)*b.M.natAbs<=9223372036854775808*9223372036854775808:=kzk (by omega) (by omega) (by omega) (by omega);have lo:∀(n:Int) (m:Bool),I64 n->(W n.natAbs m).lo=n.natAbs:=fun n m h=>by
  show(n.natAbs:Int)%18446744073709551616=n.natAbs
  unfold I64 at h;omega
 rw[qzy hA,qzy hB,aza,aza,lo _ _ hA,lo _ _ hB,AzE (by omega) (by omega) (by omega) (by omega),aza,azi (by omega) (by omega),dF0 (by omega),azb];have e2:czn ({hi:=(a.M.natAbs:Int)*b.M.natAbs/18446744073709551616,lo:=(a.M.natAbs:Int)*b.M.natAbs%18446744073709551616,minus:=!decide ((W a.M.natAbs (decide (a.M<0))).minus=(W b.M.natAbs (decide (b.M<0))).minus)},((a.S+b.S).toNat:Int)) =
  some (decV (sw ((a.M.natAbs:Int)*b.M.natAbs) (!decide (decide (a.M<0)=decide (b.M<0)))) (a.S+b.S).toNat):=ozX ⟨p0,by omega⟩ (by omega)
 have e3:a.S+b.S=((a.S+b.S).toNat:Int):=by omega
 rw[sw_mul,<-e3]at e2;simp only at e2 ⊢;rw[e2];rfl
theorem Round_is {a:Dec}{p:Nat}(ha:I64 a.M)(h0:0<=a.S)(h9:a.S<=9)(hp:p<=9):fzb (a,(p:Int))=some (if a.S<=p then(a,0)else decV (rnd a.M (10^(a.S.toNat-p))) p):=by
 have hA:=ha;unfold I64 at ha;unfold fzb;simp only;rw[dF0 (by omega),azb,dF0 (by omega),azb];by_cases hs:a.S<=p
 .rw[dT0 hs,azc,if_pos hs]
 .have hw:=gz4 (show a.S.toNat-p<=19 by omega);rw[dF0 hs,azb,if_neg hs,qzy hA,aza,azi (by omega) (by omega),dF0 (by omega),azb,show a.S-p=((a.S.toNat-p:Nat):Int) by omega,mzk (by omega),aza];obtain⟨h1,h2⟩:=ozR (v:=a.M.natAbs) (n:=10^(a.S.toNat-p)) (m:=decide (a.M<0)) (by omega) (by omega) (by omega) (by omega);rw[h1,aza,dF0 (by omega),azb,ozX h2 (by omega),aza];have e:sw (rdiv a.M.natAbs (10^(a.S.toNat-p))) (decide (a.M<0))=rnd a.M (10^(a.S.toNat-p)):=by
   unfold sw rnd;by_cases hn:a.M<0
   .rw[dT0 hn,cond_true,if_pos hn,show(a.M.natAbs:Int) = -a.M by omega]
   .rw[dF0 hn,cond_false,if_neg hn,show(a.M.natAbs:Int)=a.M by omega]
  rw[e]
theorem tmod_neg {a n:Int}(hn:0<n):(if a.tmod n<0 then a.tdiv n-1 else a.tdiv n)=a/n:=by
 have h1:=Int.mul_tdiv_add_tmod a n;by_cases h:0<=a
 .have:=Int.tmod_nonneg n h;rw[if_neg (by omega),Int.tdiv_eq_ediv_of_nonneg h]
 .have h2:=Int.lt_tmod_of_pos a hn;have h3:a.tmod n<=0:=by
   have h4:=Int.tmod_nonneg n (show 0<=-a by omega);rw[Int.neg_tmod]at h4;omega
  split
  .refine(Gzu hn ?_ ?_).symm
   .rw[Int.sub_mul,Int.mul_comm];omega
   .rw[Int.sub_add_cancel,Int.mul_comm];omega
  .refine(Gzu hn ?_ ?_).symm
   .rw[Int.mul_comm];omega
   .rw[Int.add_mul,Int.mul_comm];omega
theorem Floor_is {a:Dec}(ha:I64 a.M)(h0:0<=a.S)(h9:a.S<=9):izG a=some (⟨a.M/10^a.S.toNat,0⟩,0):=by
 unfold I64 at ha;have hp:=gz4 (show a.S.toNat<=19 by omega);have h9':(10:Int)^a.S.toNat<=10^9:=by
  have:=Nat.pow_le_pow_right (show 0<10 by omega) (show a.S.toNat<=9 by omega);have h:=Int.ofNat_le.2 this;simpa using h
 unfold izG;rw[show a.S=((a.S.toNat:Nat):Int) by omega,mzk (by omega),Int.toNat_natCast,aza,aza,azi (by omega) (by omega),dF0 (by omega),azb,azb];have h:=tmod_neg (a:=a.M) (n:=10^a.S.toNat) (by omega);rw[<-h];have b1:(a.M.tdiv (10^a.S.toNat)).natAbs<=a.M.natAbs:=by
  rw[Int.natAbs_tdiv];exact Nat.div_le_self _ _
 have b3:a.M.tdiv (10^a.S.toNat)<=9223372036854775807:=by
  by_cases h0:0<=a.M
  .omega
  .have:=Int.tdiv_nonneg (show 0<=-a.M by omega) (show(0:Int)<=10^a.S.toNat by omega);rw[Int.neg_tdiv]at this;omega
 by_cases hc:a.M.tmod (10^a.S.toNat)<0
 .rw[dT0 hc,azc,if_pos hc];have b2:-9223372036854775808<a.M.tdiv (10^a.S.toNat):=by
   refine Int.not_le.1 fun hle=>?_
   have e1:=Int.mul_tdiv_add_tmod a.M (10^a.S.toNat);have e2:(10^a.S.toNat:Int)*a.M.tdiv (10^a.S.toNat)<=a.M.tdiv (10^a.S.toNat):=by
    have:=Int.mul_le_mul_of_nonneg_right hp.1 (show 0<=-a.M.tdiv (10^a.S.toNat) by omega);rw[Int.one_mul,Int.mul_neg]at this;omega
   omega
  rw[azi (n:=a.M.tdiv _) (by omega) (by omega),azi (by omega) (by omega)]
 .rw[dF0 hc,azb,if_neg hc,azi (by omega) (by omega)]
theorem cmp_is (x y:Int):ezn (x,y)=some (cmpV x y):=by
 unfold ezn izE cmpV;simp only[decide_true,cond_true,aza,azb];by_cases h:x<y
 .simp[h]
 .by_cases h2:y<x<;>simp[h,h2]
theorem bzB (x y:Int):azZ (x,y)=some (cmpV x y):=by
 unfold azZ kzM cmpV;simp only[decide_true,cond_true,aza,azb];by_cases h:x<y
 .simp[h]
 .by_cases h2:y<x<;>simp[h,h2]
theorem V_neg (d:Dec):decide (V d<0)=decide (d.M<0):=Azh d.M _
theorem Lzs {a b:Dec}(ha:I64 a.M)(hb:I64 b.M)(h0:0<=a.S)(h9:a.S<=9)(k0:0<=b.S)(k9:b.S<=9):dzF (a,b)=some (cmpV (V a) (V b)):=by
 unfold dzF;simp only;rw[kzE ha h0 h9,kzE hb k0 k9,aza,aza,FzM (inV ha) (inV hb),FzM (inV hb) (inV ha),cmp_is,cmp_is,aza,aza,bzB]
 show brn (!decide (decide (V a<0)=decide (V b<0))) _ (brn (decide (V a<0)) _ _)=_
 have na:=V_neg a;have nb:=V_neg b;simp only[decide_eq_decide]at na nb;by_cases h1:V a<0<;>by_cases h2:V b<0
 .simp only[h1,h2,decide_true,Bool.not_true,azb,azc,aza];unfold cmpV;by_cases c1:(V a).natAbs<(V b).natAbs
  .rw[dT0 (by omega),azc,if_neg (by omega),if_pos (by omega)]
  .rw[dF0 (by omega),azb];by_cases c2:(V b).natAbs<(V a).natAbs
   .rw[dT0 (by omega),azc,if_pos (by omega)]
   .rw[dF0 (by omega),azb,if_neg (by omega),if_neg (by omega)]
 .have m1:=na.1 h1;have m2:=mt nb.2 h2;simp only[h1,h2,decide_true,decide_false,Bool.true_eq_false,Bool.not_false,azc,aza];unfold cmpV;rw[if_pos (show V a<V b by omega),if_pos m1,if_neg m2];split<;>rfl
 .have m1:=mt na.2 h1;have m2:=nb.1 h2;simp only[h1,h2,decide_true,decide_false,Bool.false_eq_true,Bool.not_false,azc,aza];unfold cmpV;rw[if_neg (show ¬V a<V b by omega),if_pos (show V b<V a by omega),if_neg m1,if_pos m2];split<;>rfl
 .simp only[h1,h2,decide_true,decide_false,Bool.not_true,azb,aza];unfold cmpV;by_cases c1:(V a).natAbs<(V b).natAbs
  .rw[dT0 (by omega),azc,if_pos (by omega)]
  .rw[dF0 (by omega),azb];by_cases c2:(V b).natAbs<(V a).natAbs
   .rw[dT0 (by omega),azc,if_neg (by omega),if_pos (by omega)]
   .rw[dF0 (by omega),azb,if_neg (by omega),if_neg (by omega)]
theorem tmod10 (m:Int):(m.tmod 10=0↔m%10=0)/\(m%10=0->m.tdiv 10=m/10) :=
 ⟨by rw[<-Int.dvd_iff_tmod_eq_zero,<-Int.dvd_iff_emod_eq_zero],fun h=>Int.tdiv_eq_ediv_of_dvd (Int.dvd_of_emod_eq_zero h)⟩
theorem Norm_is {m:Int}{s:Nat}(hm:I64 m)(hs:s<=9):izA ⟨m,(s:Int)⟩=some ⟨(azr m s).1,((azr m s).2:Int)⟩:=by
 have h:qzY ⟨m,(s:Int)⟩=some ((),⟨(azr m s).1,((azr m s).2:Int)⟩):=by
  refine ozv (F:=mz0) (fun d:Dec=>d.S.toNat) (fun d:Dec=>0<=d.S/\d.S<=9/\I64 d.M) (fun d=>((),⟨(azr d.M d.S.toNat).1,((azr d.M d.S.toNat).2:Int)⟩)) ?_ _ ⟨by simp only;omega,by simp only;omega,hm⟩ (by simp only;omega);intro back d hp hb;obtain⟨m,s⟩:=d;obtain⟨h0,h9,hm⟩:=hp;simp only at h0 h9 hm hb;obtain⟨s,rfl⟩:=Int.eq_ofNat_of_zero_le h0;unfold mz0;simp only[Int.toNat_natCast];cases s with
  | zero=>simp only[Int.ofNat_zero,Int.lt_irrefl,decide_false,azb,azr]
  | succ s =>
   rw[dT0 (show(0:Int)<((s+1:Nat):Int) by omega),azc];unfold azr;obtain⟨t1,t2⟩:=tmod10 m;by_cases hz:m%10=0
   .rw[dT0 (t1.2 hz),azc,if_pos hz,t2 hz];unfold I64 at hm;rw[azi (by omega) (by omega),azi (by omega) (by omega),show(((s+1:Nat):Int)-1)=(s:Int) by omega];have:=hb ⟨m/10,(s:Int)⟩ ⟨by simp only;omega,by simp only;omega,by unfold I64;simp only;omega⟩ (by simp only[Int.toNat_natCast];omega);simpa only[Int.toNat_natCast]using this
   .rw[dF0 (fun h=>hz (t1.1 h)),azb,if_neg hz]
 unfold izA;rw[h];rfl
theorem Kzn (d:Dec):fzu d=some 0/\okD d\/∃e,fzu d=some e/\e≠0:=by
 unfold fzu okD;by_cases h1:d.S<0
 .exact .inr ⟨1,by simp[h1],by omega⟩
 .by_cases h2:9<d.S
  .exact .inr ⟨1,by simp[h1,h2],by omega⟩
  .by_cases h3:0<d.S
   .by_cases h4:d.M.tmod 10=0
    .exact .inr ⟨1,by simp[h1,h2,h3,h4],by omega⟩
    .exact .inl ⟨by simp[h1,h2,h3,h4],by omega,by omega,fun _ h=>h4 ((tmod10 d.M).1.2 h)⟩
   .exact .inl ⟨by simp[h1,h2,h3],by omega,by omega,fun h=>absurd h h3⟩
def digs (n:Nat):List Int:=if h:n=0 then []else((n%10:Nat):Int)::digs (n/10)
termination_by n
decreasing_by omega
theorem bzk:digs 0=[]:=by rw[digs];rfl
theorem czt {n:Nat}(h:n≠0):digs n=((n%10:Nat):Int)::digs (n/10):=by
 conv=>lhs;rw[digs]
 rw[dif_neg h]
def vd:List Int->Nat
 | []=>0
 | d::D=>d.toNat+10*vd D
def azW (D:List Int):Prop:=∀d∈D,0<=d/\d<=9
theorem ezk {d:Int}{D:List Int}:azW (d::D)↔(0<=d/\d<=9)/\azW D:=by simp[azW]
theorem dz2:azW []:=by simp[azW]
theorem hzS {D E:List Int}:azW (D++E)↔azW D/\azW E:=by
 simp only[azW,List.mem_append];exact⟨fun h=>⟨fun d hd=>h d (.inl hd),fun d hd=>h d (.inr hd)⟩,fun h d hd=>hd.elim (h.1 d) (h.2 d)⟩
theorem Lz1 {D:List Int}(h:azW D)(n:Nat):azW (D.drop n):=fun d hd=>h d (List.mem_of_mem_drop hd)
theorem Lz2 {D:List Int}(h:azW D)(n:Nat):azW (D.take n):=fun d hd=>h d (List.mem_of_mem_take hd)
theorem pzE:∀(D E:List Int),vd (D++E)=vd D+10^D.length*vd E
 | [],E=>by simp[vd]
 | d::D,E=>by
  simp only[List.cons_append,vd,pzE D E,List.length_cons,Nat.pow_succ];rw[Nat.mul_add,Nat.mul_comm (10^D.length) 10,Nat.mul_assoc];omega
theorem vd_lt:∀{D:List Int},azW D->vd D<10^D.length
 | [],_=>by simp[vd]
 | d::D,h=>by
  obtain⟨h1,h2⟩:=ezk.1 h;have:=vd_lt h2;simp only[vd,List.length_cons,Nat.pow_succ];omega
theorem czF:∀(n:Nat),azW (digs n):=by
 intro n;induction n using Nat.strongRecOn with
 | _ n ih =>
  by_cases h:n=0
  .subst h;rw[bzk];exact dz2
  .rw[czt h];exact ezk.2 ⟨by omega,ih _ (by omega)⟩
theorem cz9:∀(n:Nat),vd (digs n)=n:=by
 intro n;induction n using Nat.strongRecOn with
 | _ n ih =>
  by_cases h:n=0
  .subst h;rw[bzk];rfl
  .rw[czt h];simp only[vd];rw[ih _ (by omega)];omega
theorem bzs:∀(k n:Nat),n<10^k->(digs n).length<=k
 | 0,n,h=>by
  have:n=0:=by simp at h;omega
  subst this;rw[bzk];simp
 | k+1,n,h=>by
  by_cases h0:n=0
  .subst h0;rw[bzk];simp
  .rw[czt h0];have:=bzs k (n/10) (by rw[Nat.pow_succ]at h;omega);simp;omega
theorem bzo {k n:Nat}(h:(digs n).length<=k):n<10^k:=by
 have h1:=vd_lt (czF n);rw[cz9]at h1;exact Nat.lt_of_lt_of_le h1 (Nat.pow_le_pow_right (by omega) h)
theorem mze {n:Nat}:(digs n).length=0↔n=0:=by
 constructor
 .intro h;have:=bzo (n:=n) (k:=0) (by omega);simpa using this
 .intro h;subst h;rw[bzk];rfl
def czT:List Int->List Int
 | []=>[]
 | d::D=>match czT D with
  | []=>if d=0 then []else [d]
  | e::E=>d::e::E
theorem vzh:∀{D:List Int},azW D->czT D=digs (vd D)
 | [],_=>by simp[czT,vd,bzk]
 | d::D,h=>by
  obtain⟨h1,h2⟩:=ezk.1 h;have ih:=vzh h2;simp only[czT,vd];by_cases hv:vd D=0
  .rw[ih,hv,bzk];simp only;by_cases hd:d=0
   .subst hd;simp[bzk]
   .rw[if_neg hd,czt (by omega),show(d.toNat+10*0)/10=0 by omega,bzk];congr 1;omega
  .rw[ih,czt hv];simp only;rw[<-czt hv,czt (n:=d.toNat+10*vd D) (by omega),show(d.toNat+10*vd D)/10=vd D by omega];congr 1;omega
theorem szL:∀(D:List Int),czT (D++[0])=czT D
 | []=>by simp[czT]
 | d::D=>by simp only[List.cons_append,czT,szL D]
theorem vz0 {x:Int}(hx:x≠0):∀(D:List Int),czT (D++[x])=D++[x]
 | []=>by simp[czT,hx]
 | d::D=>by
  simp only[List.cons_append,czT,vz0 hx D];cases D<;>simp
theorem yzg:∀(D:List Int),(czT D).length<=D.length
 | []=>by simp[czT]
 | d::D=>by
  have:=yzg D;simp only[czT];split
  .split<;>simp
  .rename_i e E h;rw[h]at this;simp only[List.length_cons]at *;omega
theorem vzi:∀(D:List Int),czT D=D.take (czT D).length
 | []=>by simp[czT]
 | d::D=>by
  have ih:=vzi D;simp only[czT];split
  .split<;>simp
  .rename_i e E h;rw[h]at ih;simp only[List.length_cons]at ih ⊢;rw[List.take_succ_cons,<-ih]
theorem mzI:∀(k n:Nat),(digs n).drop k=digs (n/10^k)
 | 0,n=>by simp
 | k+1,n=>by
  by_cases h:n=0
  .subst h;rw[bzk];simp[bzk]
  .rw[czt h,List.drop_succ_cons,mzI k,Nat.div_div_eq_div_mul,Nat.pow_succ,Nat.mul_comm]
theorem jz2:∀(k n:Nat),k<(digs n).length->(digs n)[k]?=some ((n/10^k%10:Nat):Int)
 | 0,n,h=>by
  by_cases h0:n=0
  .subst h0;rw[bzk]at h;simp at h
  .rw[czt h0];simp
 | k+1,n,h=>by
  by_cases h0:n=0
  .subst h0;rw[bzk]at h;simp at h
  .rw[czt h0]at h ⊢;simp only[List.length_cons,List.getElem?_cons_succ]at h ⊢;rw[jz2 k _ (by omega),Nat.div_div_eq_div_mul,Nat.pow_succ,Nat.mul_comm]
theorem digs_up:∀(k n:Nat),n≠0->digs (n*10^k)=List.replicate k 0++digs n
 | 0,n,_=>by simp
 | k+1,n,h=>by
  have h1:n*10^(k+1)=n*10^k*10:=by rw[Nat.pow_succ,Nat.mul_assoc]
  have h2:n*10^k≠0:=by
   have:=Nat.pow_pos (a:=10) (n:=k) (by omega);exact Nat.mul_ne_zero h (by omega)
  rw[h1,czt (by omega),show n*10^k*10/10=n*10^k by omega,digs_up k n h,show n*10^k*10%10=0 by omega];rfl
theorem idxI {D:List Int}{k:Nat}{v:Int}(h:D[k]?=some v):idx D (k:Int)=some v:=by
 simp[idx,h]
theorem appS {xs ys:List Int}(h:xs.length+ys.length<=10000):app 8 xs ys=some (xs++ys):=by
 have:Nat.ble ((xs.length+ys.length)*8) 140737488355328=true:=Nat.ble_eq_true_of_le (by omega);simp[app,this]
theorem subS {D:List Int}{k:Nat}(h:k<=D.length):sub D (k:Int) (D.length:Int)=some (D.drop k):=by
 simp[sub,h]
theorem Iz7 {X Y:Type}{F:(X->Option Y)->X->Option Y}(m:X->Nat)(Inv:X->Prop)(Post:Y->Prop)
 (h:∀back x,Inv x->(∀x',Inv x'->m x'<m x->∃y,back x'=some y/\Post y)->∃y,F back x=some y/\Post y):∀n x,Inv x->m x<n->∃y,iter F n x=some y/\Post y
 | 0,_,_,h0=>by omega
 | n+1,x,hp,hn=>by
  rw[azF];exact h _ x hp fun x' hp' hm=>Iz7 m Inv Post h n x' hp' (by omega)
theorem czf {X Y:Type}{F:(X->Option Y)->X->Option Y}(m:X->Nat)(Inv:X->Prop)(Post:Y->Prop)
 (h:∀back x,Inv x->(∀x',Inv x'->m x'<m x->∃y,back x'=some y/\Post y)->∃y,F back x=some y/\Post y) (x:X) (hx:Inv x) (hm:m x<9223372036854775808):∃y,iter F big x=some y/\Post y :=
 Iz7 m Inv Post h _ x hx (by rw[czd];omega)
theorem MzO {D:List Int}{m:Bool}(hl:D.length<10000):pzZ (⟨m,D⟩,(D.length:Int))=some ((czT D).length:Int):=by
 obtain⟨y,h1,h2⟩:=czf (F:=jzr) (fun x=>x.2.toNat) (fun x=>x.1=⟨m,D⟩/\∃k,k<=D.length/\x.2=(k:Int)/\czT (D.take k)=czT D) (fun y=>y=((czT D).length:Int)) (by
  rintro back ⟨b,i⟩ ⟨rfl,k,hk,rfl,hr⟩ hb;unfold jzr;simp only at hb ⊢;cases k with
  | zero =>
   simp only[List.take_zero,czT]at hr;refine⟨0,?_,by rw[<-hr];rfl⟩;simp
  | succ k =>
   have hk':k<D.length:=by omega
   rw[dT0 (show(0:Int)<((k+1:Nat):Int) by omega),azc,azi (by omega) (by omega),show(((k+1:Nat):Int)-1)=(k:Int) by omega,idxI (v:=D[k]) (List.getElem?_eq_getElem hk'),aza];have ht:D.take (k+1)=D.take k++[D[k]]:=by rw[List.take_add_one,List.getElem?_eq_getElem hk'];rfl
   by_cases hz:D[k]=0
   .rw[dT0 hz,azc];refine hb _ ⟨rfl,k,by omega,rfl,?_⟩ (by simp only[Int.toNat_natCast];omega);rw[<-hr,ht,hz,szL]
   .rw[dF0 hz,azb];refine⟨_,rfl,?_⟩;rw[<-hr,ht,vz0 hz];simp;omega) (⟨m,D⟩,(D.length:Int)) ⟨rfl,D.length,Nat.le_refl _,rfl,by rw[List.take_length]⟩ (by simp only[Int.toNat_natCast];omega)
 subst h2;exact h1
theorem izy {D:List Int}{m:Bool}(hd:azW D)(hl:D.length<10000):bzr ⟨m,D⟩=some ⟨m&&!decide (vd D=0),digs (vd D)⟩:=by
 unfold bzr;simp only;rw[MzO hl,aza];have h1:=yzg D;have h2:sub D 0 ((czT D).length:Int)=some (czT D):=by
  simp only[sub];have:(decide ((0:Int)<=0)&&decide ((0:Int)<=((czT D).length:Int))&&decide (((czT D).length:Int)<=(D.length:Int)))=true:=by simp[h1]
  rw[this,cond_true];simp only[Int.toNat_natCast,Int.toNat_zero,List.drop_zero];rw[<-vzi]
 rw[h2,aza];rw[vzh hd];by_cases hz:vd D=0
 .rw[hz,bzk];simp
 .have:=mt mze.1 hz;rw[dF0 (by omega),azb,dF0 hz];simp
theorem big_is {n:Int}(h:I64 n):pzw n=some (digs n.natAbs,⟨decide (n<0),digs n.natAbs⟩):=by
 unfold I64 at h;have key:∀(u:Nat) (m:Bool),u<=9223372036854775808->nzO ([],⟨m,[]⟩,(u:Int))=some (digs u,⟨m,digs u⟩):=fun u m hu=>by
  have hlen:(digs u).length<=19:=bzs 19 u (by omega);obtain⟨y,h1,h2⟩:=czf (F:=kzB) (fun x=>(digs x.2.2.toNat).length) (fun x=>x.2.1.Minus=m/\∃v:Nat,v<=9223372036854775808/\x.2.2=(v:Int)/\x.1++digs v=digs u) (fun y=>y=(digs u,⟨m,digs u⟩)) (by
   rintro back ⟨D,⟨m',E⟩,i⟩ ⟨hm,v,hv,hi,hD⟩ hb;simp only at hm hi hD;subst hm;subst hi;unfold kzB;simp only at hb ⊢;have hl:D.length+(digs v).length=(digs u).length:=by rw[<-hD];simp
   by_cases hz:v=0
   .subst hz;rw[bzk,List.append_nil]at hD;subst hD;exact⟨_,by simp,rfl⟩
   .have e1:((v:Int).tmod 10)=((v%10:Nat):Int):=by rw[Int.tmod_eq_emod_of_nonneg (by omega)];omega
    have e2:((v:Int).tdiv 10)=((v/10:Nat):Int):=by rw[Int.tdiv_eq_ediv_of_nonneg (by omega)];omega
    rw[czt hz,List.length_cons]at hl;rw[dT0 (by omega),azc,e1,e2,azi (by omega) (by omega),bze (by omega) (by omega),appS (by simp;omega),aza];refine hb _ ⟨rfl,v/10,by omega,rfl,?_⟩ ?_
    .rw[<-hD,czt hz,List.append_assoc];rfl
    .simp only[Int.toNat_natCast]
     conv=>rhs;rw[czt hz]
     simp) ([],⟨m,[]⟩,(u:Int)) ⟨rfl,u,hu,rfl,rfl⟩ (by simp only[Int.toNat_natCast];omega)
  subst h2;exact h1
 unfold pzw;by_cases hn:n<0
 .rw[dT0 hn,azc,show u64.wrap (0-u64.wrap n)=(n.natAbs:Int) by rw[wu64,wu64];omega,key _ _ (by omega)];rfl
 .rw[dF0 hn,azb,show u64.wrap n=(n.natAbs:Int) by rw[wu64];omega,key _ _ (by omega)];rfl
theorem qzK {n:Int}(h:I64 n):fze n=some ⟨decide (n<0),digs n.natAbs⟩:=by
 unfold fze;rw[big_is (by assumption)];rfl
theorem szS {n k:Nat}{m:Bool}(hk:k<=100)(hl:(digs n).length<=1000):mzB (⟨m,digs n⟩,(k:Int))=some ⟨m,digs (n*10^k)⟩:=by
 unfold mzB;simp only;by_cases hz:n=0
 .subst hz;rw[bzk,Nat.zero_mul,bzk];simp
 .have:=mt mze.1 hz;rw[dF0 (by omega),azb];have key:tzd ([],(k:Int),⟨m,[]⟩,0)=some (List.replicate k 0,⟨m,List.replicate k 0⟩):=by
   obtain⟨y,h1,h2⟩:=czf (F:=lzG) (fun x=>k-x.2.2.2.toNat) (fun x=>x.2.1=(k:Int)/\x.2.2.1.Minus=m/\∃i:Nat,i<=k/\x.2.2.2=(i:Int)/\x.1=List.replicate i 0) (fun y=>y=(List.replicate k 0,⟨m,List.replicate k 0⟩)) (by
    rintro back ⟨D,kk,⟨m',E⟩,i⟩ ⟨e1,e2,j,hj,e3,e4⟩ hb;simp only at e1 e2 e3 e4;subst e1;subst e2;subst e3;subst e4;unfold lzG;simp only at hb ⊢;by_cases hlt:j<k
    .rw[dT0 (by omega),azc,appS (by simp;omega),aza,azi (by omega) (by omega)];refine hb _ ⟨rfl,rfl,j+1,by omega,by simp only;omega,?_⟩ (by simp only;omega);simp only[<-List.replicate_succ']
    .have:j=k:=by omega
     subst this;exact⟨_,by simp,rfl⟩) ([],(k:Int),⟨m,[]⟩,0) ⟨rfl,rfl,0,by omega,rfl,rfl⟩ (by simp only;omega)
   subst h2;exact h1
  rw[key,aza,appS (by simp;omega),aza,digs_up k n hz]
def at0 (D:List Int)(k:Nat):Int:=D[k]?.getD 0
theorem jzy {D:List Int}(h:azW D)(k:Nat):0<=at0 D k/\at0 D k<=9:=by
 unfold at0;cases hk:D[k]? with
 | none=>simp
 | some v=>exact h v (List.mem_of_getElem? hk)
theorem lzj {D:List Int}(k:Nat):vd (D.drop k)=(at0 D k).toNat+10*vd (D.drop (k+1)):=by
 unfold at0;rcases Nat.lt_or_ge k D.length with h|h
 .rw[List.drop_eq_getElem_cons h,List.getElem?_eq_getElem h];rfl
 .rw[List.drop_eq_nil_of_le h,List.drop_eq_nil_of_le (by omega),List.getElem?_eq_none h];rfl
theorem DzV {D E out:List Int}{c:Int}{k:Nat}(hD:azW D)(hE:azW E)(hc:0<=c/\c<=1)(_hl:D.length<=5000)(_hl2:E.length<=5000)(ho:out.length<=9000)(_hk:k<=9000):
 gzq (D,E,out,c,(k:Int))=some (out++[(c+at0 D k+at0 E k)%10],(c+at0 D k+at0 E k)/10):=by
 have hd:=jzy hD k;have he:=jzy hE k;have tm:∀t:Int,0<=t->t.tmod 10=t%10:=fun t h=>Int.tmod_eq_emod_of_nonneg h
 have td:∀t:Int,0<=t->t.tdiv 10=t/10:=fun t h=>Int.tdiv_eq_ediv_of_nonneg h
 have w1:=azi (n:=c+at0 D k) (by omega) (by omega);have w2:=azi (n:=c+at0 E k) (by omega) (by omega);have w3:=azi (n:=c+at0 D k+at0 E k) (by omega) (by omega);unfold gzq;simp only;rcases Nat.lt_or_ge k D.length with h1|h1
 .have g1:D[k]?=some (at0 D k):=by unfold at0;rw[List.getElem?_eq_getElem h1];rfl
  rw[dT0 (show(k:Int)<(D.length:Int) by omega),azc,idxI g1,aza];rcases Nat.lt_or_ge k E.length with h2|h2
  .have g2:E[k]?=some (at0 E k):=by unfold at0;rw[List.getElem?_eq_getElem h2];rfl
   rw[dT0 (show(k:Int)<(E.length:Int) by omega),azc,idxI g2,aza,w1,w3,tm _ (by omega),td _ (by omega),azi (by omega) (by omega),appS (by simp;omega)];rfl
  .have g2:at0 E k=0:=by unfold at0;rw[List.getElem?_eq_none h2];rfl
   rw[dF0 (show ¬(k:Int)<(E.length:Int) by omega),azb,w1,g2,Int.add_zero,tm _ (by omega),td _ (by omega),azi (by omega) (by omega),appS (by simp;omega)];rfl
 .have g1:at0 D k=0:=by unfold at0;rw[List.getElem?_eq_none h1];rfl
  rw[dF0 (show ¬(k:Int)<(D.length:Int) by omega),azb];rcases Nat.lt_or_ge k E.length with h2|h2
  .have g2:E[k]?=some (at0 E k):=by unfold at0;rw[List.getElem?_eq_getElem h2];rfl
   rw[dT0 (show(k:Int)<(E.length:Int) by omega),azc,idxI g2,aza,w2,g1,Int.add_zero,tm _ (by omega),td _ (by omega),azi (by omega) (by omega),appS (by simp;omega)];rfl
  .have g2:at0 E k=0:=by unfold at0;rw[List.getElem?_eq_none h2];rfl
   rw[dF0 (show ¬(k:Int)<(E.length:Int) by omega),azb,g1,g2,Int.add_zero,Int.add_zero,tm _ (by omega),td _ (by omega),azi (by omega) (by omega),appS (by simp;omega)];rfl
theorem Jzx {D E:List Int}(hD:azW D)(hE:azW E)(hl:D.length<=4000)(hl2:E.length<=4000):∃R,fzf (D,E)=some R/\azW R/\vd R=vd D+vd E/\R.length<=4001:=by
 have key:∃R,lz5 (D,E,[],0,0)=some R/\(azW R/\vd R=vd D+vd E/\R.length<=4001):=by
  refine czf (F:=ezP) (fun x=>4002-x.2.2.2.2.toNat) (fun x=>x.1=D/\x.2.1=E/\∃(c:Int) (k:Nat),x.2.2.2.1=c/\x.2.2.2.2=(k:Int)/\0<=c/\c<=1/\azW x.2.2.1/\x.2.2.1.length=k/\k<=4001/\(4000<k->c=0) /\
   vd x.2.2.1+10^k*(c.toNat+vd (D.drop k)+vd (E.drop k))=vd D+vd E) _ ?_ _ ⟨rfl,rfl,0,0,rfl,rfl,by omega,by omega,dz2,rfl,by omega,by omega,by simp[vd]⟩ (by simp only;omega)
  rintro back ⟨D',E',out,c,i⟩ ⟨e1,e2,c',k,e3,e4,c0,c1,ho,hk,hk2,hk3,hv⟩ hb;simp only at e1 e2 e3 e4 ho hk hv;subst e1;subst e2;subst e3;subst e4;unfold ezP;simp only at hb ⊢;rw[DzV hD hE ⟨c0,c1⟩ (by omega) (by omega) (by omega) (by omega),aza];simp only;rw[azi (n:=(k:Int)+1) (by omega) (by omega)];have hd:=jzy hD k;have he:=jzy hE k;by_cases hgo:k<D'.length\/k<E'.length\/0<c
  .have step:∃y,back (D',E',out++[(c+at0 D' k+at0 E' k)%10],(c+at0 D' k+at0 E' k)/10,(k:Int)+1)=some y/\(azW y/\vd y=vd D'+vd E'/\y.length<=4001):=by
    have hk4:k<=4000:=by
     rcases hgo with h|h|h
     .omega
     .omega
     .apply Classical.byContradiction;intro hn;have:=hk3 (by omega);omega
    refine hb _ ⟨rfl,rfl,(c+at0 D' k+at0 E' k)/10,k+1,rfl,by simp,by omega,by omega,?_,by simp[hk],by omega,fun h4=>?_,?_⟩ (by simp only;omega)
    .exact hzS.2 ⟨ho,ezk.2 ⟨by omega,dz2⟩⟩
    .have h1:at0 D' k=0:=by unfold at0;rw[List.getElem?_eq_none (by omega)];rfl
     have h2:at0 E' k=0:=by unfold at0;rw[List.getElem?_eq_none (by omega)];rfl
     omega
    .rw[<-hv,pzE,hk,lzj (D:=D') k,lzj (D:=E') k,Nat.pow_succ];simp only[vd];generalize vd (D'.drop (k+1))=X;generalize vd (E'.drop (k+1))=Y;generalize 10^k=T;generalize hx:at0 D' k=a at *;generalize hy:at0 E' k=b at *;have q1:((c+a+b)%10).toNat+10*0=(c.toNat+a.toNat+b.toNat)%10:=by omega
     have q2:((c+a+b)/10).toNat=(c.toNat+a.toNat+b.toNat)/10:=by omega
     rw[q1,q2];generalize c.toNat=cc;generalize a.toNat=aa;generalize b.toNat=bb;have q3:cc+(aa+10*X)+(bb+10*Y)=(cc+aa+bb)%10+10*((cc+aa+bb)/10+X+Y):=by omega
     rw[q3,Nat.mul_add T,Nat.mul_assoc T 10];omega
   by_cases g1:k<D'.length
   .rw[dT0 (by omega),azc];exact step
   .rw[dF0 (by omega),azb];by_cases g2:k<E'.length
    .rw[dT0 (by omega),azc];exact step
    .rw[dF0 (by omega),azb,dT0 (by omega),azc];exact step
  .have g1:¬k<D'.length:=fun h=>hgo (.inl h)
   have g2:¬k<E'.length:=fun h=>hgo (.inr (.inl h))
   have g3:¬0<c:=fun h=>hgo (.inr (.inr h))
   rw[dF0 (by omega),azb,dF0 (by omega),azb,dF0 g3,azb];refine⟨_,rfl,ho,?_,by omega⟩;rw[List.drop_eq_nil_of_le (by omega),List.drop_eq_nil_of_le (by omega)]at hv;have:c=0:=by omega
   subst this;simpa[vd]using hv
 obtain⟨R,h1,h2⟩:=key;refine⟨R,?_,h2⟩;unfold fzf;rw[h1];rfl
theorem idx0 {D:List Int}{v:Int}(h:D[0]?=some v):idx D 0=some v:=idxI (k:=0) h
theorem EzT (v p:Nat):azr (v:Int) (p+1)=if v%10=0 then azr ((v/10:Nat):Int) p else((v:Int),p+1):=by
 conv=>lhs;unfold azr
 by_cases h:v%10=0
 .rw[if_pos (by omega),if_pos h];rfl
 .rw[if_neg (by omega),if_neg h]
theorem Lzm {n p:Nat}{m:Bool}(hl:(digs n).length<=5000)(hp:p<=1000):ozK ((p:Int),⟨m,digs n⟩)=some (((azr n p).2:Int),⟨m,digs (azr n p).1.toNat⟩):=by
 obtain⟨y,h1,h2⟩:=czf (F:=izn) (fun x=>x.1.toNat) (fun x=>∃q v:Nat,q<=p/\(digs v).length<=5000/\x=((q:Int),⟨m,digs v⟩)/\azr v q=azr n p) (fun y=>y=(((azr n p).2:Int),⟨m,digs (azr n p).1.toNat⟩)) (by
  rintro back x ⟨q,v,hq,hv,rfl,hs⟩ hb;unfold izn;simp only at hb ⊢;rw[<-hs];cases q with
  | zero=>exact⟨(0,⟨m,digs v⟩),by simp,by simp[azr]⟩
  | succ q =>
   rw[dT0 (by omega),azc,azi (n:=((q+1:Nat):Int)-1) (by omega) (by omega),show(((q+1:Nat):Int)-1)=(q:Int) by omega];rw[EzT];rw[EzT]at hs;by_cases hz:v=0
   .subst hz;rw[if_pos (by omega)]at hs ⊢;have:=hb ((q:Int),⟨m,digs 0⟩) ⟨q,0,by omega,hv,rfl,hs⟩ (by simp only[Int.toNat_natCast];omega);rw[bzk]at this ⊢;rw[hs];simpa using this
   .have hne:=mt mze.1 hz;rw[dF0 (by omega),azb,idx0 (v:=((v%10:Nat):Int)) (by rw[czt hz];rfl),aza];by_cases h0:v%10=0
    .rw[dT0 (by omega),azc,dT0 (by omega),azc];have hsub:sub (digs v) 1 ((digs v).length:Int)=some (digs (v/10)):=by
      have:=subS (D:=digs v) (k:=1) (by omega);rw[mzI]at this;simpa using this
     rw[hsub,aza,if_pos h0];rw[if_pos h0]at hs;have hl2:(digs (v/10)).length<=5000:=by rw[czt hz]at hv;simp at hv;omega
     rw[hs];exact hb ((q:Int),⟨m,digs (v/10)⟩) ⟨q,v/10,by omega,hl2,rfl,hs⟩ (by simp only[Int.toNat_natCast];omega)
    .rw[dF0 (by omega),azb,if_neg h0];exact⟨_,rfl,by simp⟩) ((p:Int),⟨m,digs n⟩) ⟨p,n,Nat.le_refl _,hl,rfl,rfl⟩ (by simp only[Int.toNat_natCast];omega)
 subst h2;exact h1
theorem Lzn {n:Nat}{m:Bool}(hn:(digs n).length<=19):ozL (⟨m,digs n⟩,0,((digs n).length:Int)-1)=some (n:Int):=by
 have hlt:=bzo hn;obtain⟨y,h1,h2⟩:=czf (F:=izo) (fun x=>(x.2.2+1).toNat) (fun x=>x.1=⟨m,digs n⟩/\∃k:Nat,k<=(digs n).length/\x.2.2=(k:Int)-1/\x.2.1=((n/10^k:Nat):Int)) (fun y=>y=(n:Int)) (by
  rintro back ⟨b,u,i⟩ ⟨rfl,k,hk,e1,e2⟩ hb;simp only at e1 e2;subst e1;subst e2;unfold izo;simp only at hb ⊢;cases k with
  | zero=>exact⟨(n:Int),by simp,rfl⟩
  | succ k =>
   have e:n/10^(k+1)=n/10^k/10:=by rw[Nat.pow_succ,Nat.div_div_eq_div_mul]
   have hle:n/10^k<=n:=Nat.div_le_self _ _;rw[dT0 (by omega),azc,show(((k+1:Nat):Int)-1)=(k:Int) by omega,idxI (jz2 k n (by omega)),aza,e];generalize hq:n/10^k=q at *;rw[bze (n:=10*((q/10:Nat):Int)) (by omega) (by omega),bze (n:=((q%10:Nat):Int)) (by omega) (by omega),bze (by omega) (by omega),azi (by omega) (by omega)];refine hb _ ⟨rfl,k,by omega,rfl,?_⟩ (by simp only;omega);simp only[hq];omega) (⟨m,digs n⟩,0,((digs n).length:Int)-1) ⟨rfl,(digs n).length,Nat.le_refl _,rfl,by
    have h1:=vd_lt (czF n);rw[cz9]at h1;simp only;rw[Nat.div_eq_of_lt h1];rfl⟩ (by simp only;omega)
 subst h2;exact h1
theorem hzh {n p:Nat}{m:Bool}(hl:(digs n).length<=5000)(hp:p<=1000):bzi (⟨m,digs n⟩,(p:Int))=some (decV (sw n m) p):=by
 unfold bzi;simp only;rw[Lzm hl hp,aza];have h0:=Czz p (v:=(n:Int)) (by omega);have hs:azr (sw n m) p=(sw (azr n p).1 m,(azr n p).2):=by
  cases m
  .rfl
  .exact yzk p n
 unfold decV;rw[hs];generalize hv:(azr (n:Int) p).1=v at *;generalize (azr (n:Int) p).2=q at *;obtain⟨k,rfl⟩:=Int.eq_ofNat_of_zero_le h0;simp only[Int.toNat_natCast];have hI:I64 (sw (k:Int) m)↔(if m then(k:Int)<=9223372036854775808 else(k:Int)<=9223372036854775807):=by
  unfold I64;cases m<;>simp[sw]<;>omega
 by_cases h19:19<(digs k).length
 .have hge:10^19<=k:=by
   apply Classical.byContradiction;intro hn;have:=bzs 19 k (by omega);omega
  rw[dT0 (by omega),azc,if_neg];rw[hI];cases m<;>simp<;>omega
 .have hlt:=bzo (n:=k) (k:=19) (by omega);rw[dF0 (by omega),azb,azi (n:=((digs k).length:Int)-1) (by omega) (by omega),Lzn (by omega),aza];cases m
  .rw[azb];by_cases hb:(9223372036854775807:Int)<(k:Int)
   .rw[dT0 hb,azc,if_neg (by rw[hI];simp;omega)]
   .rw[dF0 hb,azb,if_pos (by rw[hI];simp;omega),azi (by omega) (by omega)];rfl
  .rw[azc];by_cases hb:(9223372036854775808:Int)<(k:Int)
   .rw[dT0 hb,azc,if_neg (by rw[hI];simp;omega)]
   .rw[dF0 hb,azb,if_pos (by rw[hI];simp;omega)];have:i64.wrap (u64.wrap (0-(k:Int))) = -(k:Int):=by rw[wu64,wi64];omega
    rw[this];rfl
theorem MzB {m:Int}{s:Nat}(hm:I64 m)(hs:s<=9):gzU ⟨m,(s:Int)⟩=some ⟨(azr m s).1,((azr m s).2:Int)⟩:=by
 have h:pzU ⟨m,(s:Int)⟩=some ((),⟨(azr m s).1,((azr m s).2:Int)⟩):=by
  refine ozv (F:=jzm) (fun d:Dec=>d.S.toNat) (fun d:Dec=>0<=d.S/\d.S<=9/\I64 d.M) (fun d=>((),⟨(azr d.M d.S.toNat).1,((azr d.M d.S.toNat).2:Int)⟩)) ?_ _ ⟨by simp only;omega,by simp only;omega,hm⟩ (by simp only;omega);intro back d hp hb;obtain⟨m,s⟩:=d;obtain⟨h0,h9,hm⟩:=hp;simp only at h0 h9 hm hb;obtain⟨s,rfl⟩:=Int.eq_ofNat_of_zero_le h0;unfold jzm;simp only[Int.toNat_natCast];cases s with
  | zero=>simp only[Int.ofNat_zero,Int.lt_irrefl,decide_false,azb,azr]
  | succ s =>
   rw[dT0 (show(0:Int)<((s+1:Nat):Int) by omega),azc];unfold azr;obtain⟨t1,t2⟩:=tmod10 m;by_cases hz:m%10=0
   .rw[dT0 (t1.2 hz),azc,if_pos hz,t2 hz];unfold I64 at hm;rw[azi (by omega) (by omega),azi (by omega) (by omega),show(((s+1:Nat):Int)-1)=(s:Int) by omega];have:=hb ⟨m/10,(s:Int)⟩ ⟨by simp only;omega,by simp only;omega,by unfold I64;simp only;omega⟩ (by simp only[Int.toNat_natCast];omega);simpa only[Int.toNat_natCast]using this
   .rw[dF0 (fun h=>hz (t1.1 h)),azb,if_neg hz]
 unfold gzU;rw[h];rfl
def cz2 (n k:Nat):Nat:=if 10^k<=2*(n%10^k)then n/10^k+1 else n/10^k
theorem gz5 (k:Nat):((10^k:Nat):Int)=(10:Int)^k:=by simp
theorem uzX (n k:Nat):(cz2 n k:Int)=rdiv n (10^k):=by
 unfold cz2 rdiv;rw[<-gz5];generalize 10^k=T;by_cases h:T<=2*(n%T)
 .rw[if_pos h,if_pos (by omega)];rfl
 .rw[if_neg h,if_neg (by omega)];rfl
theorem EzI (M:Int)(k:Nat):sw (cz2 M.natAbs k) (decide (M<0))=rnd M (10^k):=by
 rw[uzX];unfold sw rnd;by_cases hn:M<0
 .rw[dT0 hn,cond_true,if_pos hn,show(M.natAbs:Int) = -M by omega]
 .rw[dF0 hn,cond_false,if_neg hn,show(M.natAbs:Int)=M by omega]
theorem LzZ {n k:Nat}(_h:k<(digs n).length):(5<=n/10^k%10)↔(10^(k+1)<=2*(n%10^(k+1))):=by
 rw[Nat.mod_pow_succ,Nat.pow_succ];have hp:0<10^k:=Nat.pow_pos (by omega);have hr:=Nat.mod_lt n hp;generalize n%10^k=r at *;generalize n/10^k%10=d at *;generalize 10^k=T at *;constructor
 .intro h;have:=Nat.mul_le_mul_left T h;omega
 .intro h;apply Classical.byContradiction;intro hn;have:=Nat.mul_le_mul_left T (show d<=4 by omega);omega
theorem Azx {n s k:Nat}{t:Int}{m:Bool}(hl:(digs n).length<=1000)(_hs:s<=100)(hk:k<=200)(hk1:1<=k)(ht:t=(s:Int)-(k:Int)):ezm (⟨m,digs n⟩,(s:Int),t)=some (⟨m&&!decide (cz2 n k=0),digs (cz2 n k)⟩,t):=by
 unfold ezm;simp only;rw[dF0 (by omega),azb,azi (n:=(s:Int)-t) (by omega) (by omega),show(s:Int)-t=(k:Int) by omega];by_cases hgt:(digs n).length<k
 .rw[dT0 (by omega),azc];have h1:=bzo (n:=n) (k:=k-1) (by omega);have h2:10^k=10^(k-1)*10:=by rw[<-Nat.pow_succ];congr 1;omega
  have h3:cz2 n k=0:=by
   unfold cz2;rw[Nat.mod_eq_of_lt (by omega),Nat.div_eq_of_lt (by omega),if_neg (by omega)]
  rw[h3,bzk];simp
 .rw[dF0 (by omega),azb,azi (n:=(k:Int)-1) (by omega) (by omega),show(k:Int)-1=((k-1:Nat):Int) by omega,idxI (jz2 (k-1) n (by omega)),aza,subS (by omega),aza,mzI];have hl2:(digs (n/10^k)).length<=1000:=by rw[<-mzI];simp;omega
  rw[appS (by simp;omega),aza,List.nil_append,izy (czF _) (by omega),cz9,aza];have hh:=LzZ (n:=n) (k:=k-1) (by omega);rw[show k-1+1=k by omega]at hh;simp only;by_cases h5:5<=n/10^(k-1)%10
  .obtain⟨R,r1,r2,r3,r4⟩:=Jzx (D:=digs (n/10^k)) (E:=[1]) (czF _) (ezk.2 ⟨by omega,dz2⟩) (by omega) (by simp);have hr:cz2 n k=n/10^k+1:=by unfold cz2;rw[if_pos (hh.1 h5)]
   rw[dT0 (by omega),azc,r1,aza,izy r2 (by omega),aza,r3,cz9,hr];rfl
  .have hr:cz2 n k=n/10^k:=by unfold cz2;rw[if_neg (mt hh.2 h5)]
   rw[dF0 (by omega),azb,hr]
def mzQ (a:Dec)(t:Int):Dec×Int:=if t < -18\/9<t then(⟨0,0⟩,1)else if a.S<=t then(a,0)else if 0<=t then decV (rnd a.M (10^(a.S-t).toNat)) t.toNat else decV (rnd a.M (10^(a.S-t).toNat)*10^(-t).toNat) 0
theorem tz3 (n:Nat)(m:Bool):sw (n:Int) (m&&!decide (n=0))=sw (n:Int) m:=by
 by_cases h:n=0
 .subst h;cases m<;>rfl
 .simp[h]
theorem vzo (n p:Int)(m:Bool):sw (n*p) m=sw n m*p:=by
 cases m
 .rfl
 .simp only[sw,cond_true];rw[Int.neg_mul]
theorem Azt {a:Dec}{t:Int}(ha:I64 a.M)(oa:okD a):izf (a,t)=some (mzQ a t):=by
 obtain⟨M,S⟩:=a;obtain⟨h0,h9,hn⟩:=oa;simp only at h0 h9 hn ha;obtain⟨s,rfl⟩:=Int.eq_ofNat_of_zero_le h0;have hI:=ha;unfold I64 at ha;have hlen:(digs M.natAbs).length<=19:=bzs 19 _ (by omega);unfold izf mzQ;simp only;by_cases c1:t < -18
 .rw[dT0 c1,azc,if_pos (.inl c1)]
 .rw[dF0 c1,azb];by_cases c2:9<t
  .rw[dT0 c2,azc,if_pos (.inr c2)]
  .rw[dF0 c2,azb,if_neg (by omega),qzK hI,aza];by_cases c3:(s:Int)<=t
   .rw[if_pos c3];have:ezm (⟨decide (M<0),digs M.natAbs⟩,(s:Int),t)=some (⟨decide (M<0),digs M.natAbs⟩,(s:Int)):=by
     unfold ezm;simp only;rw[dT0 c3,azc]
    rw[this,aza];simp only;rw[dF0 (by omega),azb,hzh (by omega) (by omega),aza,mzN];unfold decV;rw[MzN s M (fun h=>hn (by omega)),if_pos hI]
   .rw[if_neg c3];generalize hk:((s:Int)-t).toNat=k;rw[Azx (k:=k) (by omega) (by omega) (by omega) (by omega) (by omega),aza];simp only;have hrl:cz2 M.natAbs k<10^20:=by
     have:M.natAbs/10^k<=M.natAbs:=Nat.div_le_self _ _;unfold cz2;split<;>omega
    have hrl2:=bzs 20 _ hrl;by_cases c4:0<=t
    .rw[if_pos c4,dF0 (by omega),azb];have:=hzh (n:=cz2 M.natAbs k) (p:=t.toNat) (m:=decide (M<0)&&!decide (cz2 M.natAbs k=0)) (by omega) (by omega);rw[show((t.toNat:Nat):Int)=t by omega]at this;rw[this,aza,tz3,EzI]
    .rw[if_neg c4,dT0 (by omega),azc,azi (by omega) (by omega),show(0-t)=(((-t).toNat:Nat):Int) by omega,szS (by omega) (by omega),aza];have hlen3:(digs (cz2 M.natAbs k*10^(-t).toNat)).length<=5000:=by
      refine Nat.le_trans (bzs 40 _ ?_) (by omega);have h1:10^(-t).toNat<=10^18:=Nat.pow_le_pow_right (by omega) (by omega);exact Nat.lt_of_le_of_lt (Nat.mul_le_mul (Nat.le_of_lt hrl) h1) (by decide)
     have:=hzh (n:=cz2 M.natAbs k*10^(-t).toNat) (p:=0) (m:=decide (M<0)&&!decide (cz2 M.natAbs k=0)) hlen3 (by omega);rw[show(((0:Nat)):Int)=0 by rfl]at this;rw[this,aza];congr 2;rw[show((cz2 M.natAbs k*10^(-t).toNat:Nat):Int)=(cz2 M.natAbs k:Int)*10^(-t).toNat by rw[<-gz5];simp];rw[vzo,tz3,EzI]
theorem sz0 {a:Dec}{t:Int}(ha:I64 a.M)(oa:okD a):fzb (a,t)=some (mzQ a t):=by
 have h0:=oa.1;have h9:=oa.2.1;unfold mzQ;by_cases c1:t < -18
 .unfold fzb;simp only;rw[dT0 c1,azc,if_pos (.inl c1)]
 .by_cases c2:9<t
  .unfold fzb;simp only;rw[dF0 c1,azb,dT0 c2,azc,if_pos (.inr c2)]
  .rw[if_neg (by omega)];by_cases c4:0<=t
   .obtain⟨p,rfl⟩:=Int.eq_ofNat_of_zero_le c4;rw[Round_is ha h0 h9 (by omega),if_pos c4,Int.toNat_natCast];by_cases c3:a.S<=(p:Int)
    .rw[if_pos c3,if_pos c3]
    .rw[if_neg c3,if_neg c3,show(a.S-(p:Int)).toNat=a.S.toNat-p by omega]
   .have hA:=ha;unfold I64 at ha;rw[if_neg (by omega),if_neg c4];unfold fzb;simp only;rw[dF0 c1,azb,dF0 c2,azb,dF0 (by omega),azb,qzy hA,aza,azi (n:=a.S-t) (by omega) (by omega)];generalize hk:(a.S-t).toNat=k;by_cases c5:19<a.S-t
    .rw[dT0 c5,azc];have h1:10^20<=10^k:=Nat.pow_le_pow_right (by omega) (by omega);have h2:rnd a.M (10^k)=0:=by
      rw[<-EzI];have:cz2 a.M.natAbs k=0:=by
       unfold cz2;rw[Nat.mod_eq_of_lt (by omega),Nat.div_eq_of_lt (by omega),if_neg (by omega)]
      rw[this];unfold sw;cases decide (a.M<0)<;>rfl
     rw[h2,Int.zero_mul];rfl
    .have hw:=gz4 (show k<=19 by omega);have hw2:=gz4 (show(-t).toNat<=19 by omega);rw[dF0 c5,azb,show a.S-t=(k:Int) by omega,mzk (by omega),aza];obtain⟨h1,h2⟩:=ozR (v:=a.M.natAbs) (n:=10^k) (m:=decide (a.M<0)) (by omega) (by omega) (by omega) (by omega);have hle:10^(-t).toNat<=10^k:=Nat.pow_le_pow_right (by omega) (by omega);have hb:(rdiv (a.M.natAbs:Int) (10^k))*10^(-t).toNat<=9223372036854775808+10000000000000000000:=by
      rw[<-uzX,<-gz5,<-Int.natCast_mul];have e1:cz2 a.M.natAbs k<=a.M.natAbs/10^k+1:=by unfold cz2;split<;>omega
      have e2:=Nat.mul_le_mul e1 hle;have e3:=Nat.mul_le_mul e1 (Nat.le_refl (10^(-t).toNat));have e4:a.M.natAbs/10^k*10^(-t).toNat<=a.M.natAbs:=Nat.le_trans (Nat.mul_le_mul_left _ hle) (Nat.div_mul_le_self _ _);have e5:10^(-t).toNat<=10^19:=Nat.pow_le_pow_right (by omega) (by omega);rw[Nat.add_mul,Nat.one_mul]at e3;generalize cz2 a.M.natAbs k*10^(-t).toNat=z at *;generalize a.M.natAbs/10^k*10^(-t).toNat=y at *;generalize 10^(-t).toNat=x at *;have:z<=9223372036854775808+10000000000000000000:=by omega
      omega
     have hb0:0<=(rdiv (a.M.natAbs:Int) (10^k))*10^(-t).toNat:=gzJ h2.1 (by omega);have hwd:=ozX (v:=rdiv (a.M.natAbs:Int) (10^k)*10^(-t).toNat) (m:=decide (a.M<0)) (p:=0) ⟨hb0,by omega⟩ (by omega);rw[show((0:Nat):Int)=0 from rfl]at hwd;rw[h1,aza,dT0 (by omega),azc,azi (by omega) (by omega),show(0-t)=(((-t).toNat:Nat):Int) by omega,mzk (by omega),aza,CzA h2 (by omega) (by omega) ⟨hb0,by omega⟩,aza,
      hwd,aza,vzo,<-uzX,EzI]
theorem KzO {N s:Nat}{m:Bool}(hl:(digs N).length<=1000)(hs:s<=(digs N).length):lzr (⟨m,digs N⟩,(s:Int),false,0)=some (decide (N%10^s≠0)):=by
 obtain⟨y,h1,h2⟩:=czf (F:=ez2) (fun x=>s-x.2.2.2.toNat) (fun x=>x.1=⟨m,digs N⟩/\x.2.1=(s:Int)/\∃i:Nat,i<=s/\x.2.2.2=(i:Int)/\x.2.2.1=decide (N%10^i≠0)) (fun y=>y=decide (N%10^s≠0)) (by
  rintro back ⟨b,s',r,i'⟩ ⟨rfl,e1,i,hi,e2,e3⟩ hb;simp only at e1 e2 e3;subst e1;subst e2;subst e3;unfold ez2;simp only at hb ⊢;by_cases hlt:i<s
  .rw[dT0 (by omega),azc,azi (n:=(i:Int)+1) (by omega) (by omega)];have hm:=Nat.mod_pow_succ (x:=N) (b:=10) (k:=i);have hp:0<10^i:=Nat.pow_pos (by omega);by_cases hz:N%10^i=0
   .rw[dF0 (by simpa using hz),azb,idxI (jz2 i N (by omega)),aza];refine hb _ ⟨rfl,rfl,i+1,by omega,rfl,?_⟩ (by simp only;omega);simp only;rw[hm,hz,Nat.zero_add];by_cases hd:N/10^i%10=0
    .simp[hd]
    .have:¬10^i*(N/10^i%10)=0:=Nat.mul_ne_zero (by omega) hd;have hd':¬((N/10^i%10:Nat):Int)=0:=by omega
     rw[dF0 hd',dT0 this];rfl
   .rw[dT0 hz,azc];refine hb _ ⟨rfl,rfl,i+1,by omega,rfl,?_⟩ (by simp only;omega);simp only;rw[dT0 (by omega)]
  .have:i=s:=by omega
   subst this;rw[dF0 (by omega),azb];exact⟨_,rfl,rfl⟩) (⟨m,digs N⟩,(s:Int),false,0) ⟨rfl,rfl,0,by omega,rfl,by simp[Nat.mod_one]⟩ (by simp only;omega)
 subst h2;exact h1
theorem pzn {v:Int}(h:I64 v):decV v 0=(⟨v,0⟩,0):=by
 unfold decV azr;rw[if_pos h];rfl
theorem Lzc {a:Dec}(ha:I64 a.M)(oa:okD a):fzv a=some (⟨a.M/10^a.S.toNat,0⟩,0):=by
 obtain⟨M,S⟩:=a;obtain⟨h0,h9,hn⟩:=oa;simp only at h0 h9 hn ha;obtain⟨s,rfl⟩:=Int.eq_ofNat_of_zero_le h0;have hI:=ha;unfold I64 at ha;have hlen:(digs M.natAbs).length<=19:=bzs 19 _ (by omega);unfold fzv;simp only[Int.toNat_natCast];rw[qzK hI,aza];simp only;rw[<-gz5];by_cases hle:(digs M.natAbs).length<=s
 .have hlt:=bzo hle;rw[dT0 (by omega),azc];generalize 10^s=T at *;by_cases hm:M<0
  .rw[dT0 hm,azc];have:M/(T:Int) = -1:=by
    have h1:M = -(M.natAbs:Int):=by omega
    refine Int.le_antisymm ?_ ?_
    .have:M/(T:Int)<0:=Int.ediv_neg_of_neg_of_pos hm (by omega);omega
    .refine(Int.le_ediv_iff_mul_le (by omega)).2 (by omega)
   rw[this]
  .rw[dF0 hm,azb,Int.ediv_eq_zero_of_lt (by omega) (by omega)]
 .have hT:0<10^s:=Nat.pow_pos (by omega);have hge:10^s<=M.natAbs:=by
   apply Classical.byContradiction;intro hc;exact hle (bzs s _ (by omega))
  have hq0:M.natAbs/10^s≠0:=by
   have:=Nat.div_pos hge hT;omega
  have hql:(digs (M.natAbs/10^s)).length<=19:=by rw[<-mzI];simp;omega
  rw[dF0 (by omega),azb,KzO (by omega) (by omega),aza,subS (by omega),aza,mzI,appS (by simp;omega),aza,List.nil_append,izy (czF _) (by omega),cz9,aza];have hqle:M.natAbs/10^s<=M.natAbs:=Nat.div_le_self _ _;have hdm:=Nat.div_add_mod M.natAbs (10^s);have hml:=Nat.mod_lt M.natAbs hT;have sm:∀(v:Nat) (m:Bool),v<=9223372036854775809->bzi (⟨m,digs v⟩,0)=some (decV (sw v m) 0):=fun v m hv=>by
   have:=hzh (n:=v) (p:=0) (m:=m) (by have:=bzs 20 v (by omega);omega) (by omega);exact this
  by_cases hm:M<0
  .rw[dT0 hm,azc,dF0 hq0,show(true&&!false)=true from rfl];have e1:M = -(M.natAbs:Int):=by omega
   by_cases hr:M.natAbs%10^s=0
   .have hv:M/((10^s:Nat):Int) = -((M.natAbs/10^s:Nat):Int):=by
     have:M = -((M.natAbs/10^s:Nat):Int)*((10^s:Nat):Int):=by
      rw[Int.neg_mul,<-Int.natCast_mul,Nat.mul_comm];omega
     conv=>lhs;rw[this]
     exact Int.mul_ediv_cancel _ (by omega)
    rw[dF0 (by simpa using hr),azb,sm _ _ (by omega),aza,hv];simp only[sw,cond_true];rw[pzn (by unfold I64;generalize M.natAbs/10^s=q at *;omega)]
   .obtain⟨R,r1,r2,r3,r4⟩:=Jzx (D:=digs (M.natAbs/10^s)) (E:=[1]) (czF _) (ezk.2 ⟨by omega,dz2⟩) (by omega) (by simp);have hadd:czc (⟨true,digs (M.natAbs/10^s)⟩,⟨true,[1]⟩)=some ⟨true,digs (M.natAbs/10^s+1)⟩:=by
     unfold czc;simp only[decide_true,azc];rw[r1,aza,izy r2 (by omega),aza,r3,cz9];have:vd [1]=1:=rfl;rw[this,dF0 (Nat.succ_ne_zero _)];rfl
    have hv:M/((10^s:Nat):Int) = -((M.natAbs/10^s+1:Nat):Int):=by
     generalize 10^s=T at *;generalize M.natAbs/T=q at *;generalize M.natAbs%T=r at *;have e2:(M.natAbs:Int)=(T:Int)*(q:Int)+(r:Int):=by rw[<-Int.natCast_mul];omega
     have e3:M=((T:Int)-(r:Int))+(-((q+1:Nat):Int))*(T:Int):=by
      rw[e1,e2,Int.neg_mul,Int.natCast_add,Int.add_mul,Int.mul_comm (q:Int)];simp;omega
     conv=>lhs;rw[e3]
     rw[Int.add_mul_ediv_right _ _ (by omega),Int.ediv_eq_zero_of_lt (by omega) (by omega),Int.zero_add]
    have hlim:M.natAbs/10^s+1<=9223372036854775808:=by
     by_cases hs0:s=0
     .subst hs0;rw[Nat.pow_zero,Nat.mod_one]at hr;exact absurd rfl hr
     .have:10^1<=10^s:=Nat.pow_le_pow_right (by omega) (by omega);have:=Nat.div_le_div_left this (by omega) (a:=M.natAbs);omega
    rw[dT0 hr,azc,hadd,aza,sm _ _ (by omega),aza,hv];simp only[sw,cond_true];rw[pzn (by unfold I64;generalize M.natAbs/10^s=q at *;omega)]
  .have hv:M/((10^s:Nat):Int)=((M.natAbs/10^s:Nat):Int):=by
    have:M=(M.natAbs:Int):=by omega
    conv=>lhs;rw[this]
    rfl
   rw[dF0 hm,azb,Bool.false_and,sm _ _ (by omega),aza,hv];simp only[sw,cond_false];rw[pzn (by unfold I64;generalize M.natAbs/10^s=q at *;omega)]
theorem yzv {n j:Nat}(h:j<(digs n).length):10^j<=n:=by
 apply Classical.byContradiction;intro hn;have:=bzs j n (by omega);omega
theorem digs_of {R:List Int}(hd:azW R)(hl:R.length<=(digs (vd R)).length):R=digs (vd R):=by
 have h1:=vzh hd;have h2:=vzi R;rw[h1]at h2;rw[List.take_of_length_le hl]at h2;exact h2.symm
theorem xzB {n m:Nat}(hl:(digs n).length<=4000)(hl2:(digs m).length<=4000):fzf (digs n,digs m)=some (digs (n+m)):=by
 have hD:=czF n;have hE:=czF m;have key:∃R,lz5 (digs n,digs m,[],0,0)=some R/\(R=digs (n+m)):=by
  refine czf (F:=ezP) (fun x=>4002-x.2.2.2.2.toNat) (fun x=>x.1=digs n/\x.2.1=digs m/\∃(c:Int) (k:Nat),x.2.2.2.1=c/\x.2.2.2.2=(k:Int)/\0<=c/\c<=1/\azW x.2.2.1/\x.2.2.1.length=k/\k<=4001/\(4000<k->c=0)/\(∀j,j<k->10^j<=n+m) /\
   vd x.2.2.1+10^k*(c.toNat+vd ((digs n).drop k)+vd ((digs m).drop k))=n+m) _ ?_ _ ⟨rfl,rfl,0,0,rfl,rfl,by omega,by omega,dz2,rfl,by omega,by omega,by omega,by simp[vd,cz9]⟩ (by simp only;omega)
  rintro back ⟨D',E',out,c,i⟩ ⟨e1,e2,c',k,e3,e4,c0,c1,ho,hk,hk2,hk3,hp,hv⟩ hb;simp only at e1 e2 e3 e4 ho hk hv;subst e1;subst e2;subst e3;subst e4;unfold ezP;simp only at hb ⊢;rw[DzV hD hE ⟨c0,c1⟩ (by omega) (by omega) (by omega) (by omega),aza];simp only;rw[azi (n:=(k:Int)+1) (by omega) (by omega)];have hd:=jzy hD k;have he:=jzy hE k;by_cases hgo:k<(digs n).length\/k<(digs m).length\/0<c
  .have step:∃y,back (digs n,digs m,out++[(c+at0 (digs n) k+at0 (digs m) k)%10],(c+at0 (digs n) k+at0 (digs m) k)/10,(k:Int)+1)=some y/\(y=digs (n+m)):=by
    have hk4:k<=4000:=by
     rcases hgo with h|h|h
     .omega
     .omega
     .apply Classical.byContradiction;intro hn;have:=hk3 (by omega);omega
    refine hb _ ⟨rfl,rfl,(c+at0 (digs n) k+at0 (digs m) k)/10,k+1,rfl,by simp,by omega,by omega,?_,by simp[hk],by omega,fun h4=>?_,fun j hj=>?_,?_⟩ (by simp only;omega)
    .exact hzS.2 ⟨ho,ezk.2 ⟨by omega,dz2⟩⟩
    .have h1:at0 (digs n) k=0:=by unfold at0;rw[List.getElem?_eq_none (by omega)];rfl
     have h2:at0 (digs m) k=0:=by unfold at0;rw[List.getElem?_eq_none (by omega)];rfl
     omega
    .rcases Nat.lt_or_ge j k with h|h
     .exact hp j h
     .have:j=k:=by omega
      subst this;rcases hgo with h|h|h
      .have:=yzv h;omega
      .have:=yzv h;omega
      .have:10^j*1<=10^j*(c.toNat+vd ((digs n).drop j)+vd ((digs m).drop j)):=Nat.mul_le_mul_left _ (by omega);omega
    .rw[<-hv,pzE,hk,lzj (D:=digs n) k,lzj (D:=digs m) k,Nat.pow_succ];simp only[vd];generalize vd ((digs n).drop (k+1))=X;generalize vd ((digs m).drop (k+1))=Y;generalize 10^k=T;generalize hx:at0 (digs n) k=a at *;generalize hy:at0 (digs m) k=b at *;have q1:((c+a+b)%10).toNat+10*0=(c.toNat+a.toNat+b.toNat)%10:=by omega
     have q2:((c+a+b)/10).toNat=(c.toNat+a.toNat+b.toNat)/10:=by omega
     rw[q1,q2];generalize c.toNat=cc;generalize a.toNat=aa;generalize b.toNat=bb;have q3:cc+(aa+10*X)+(bb+10*Y)=(cc+aa+bb)%10+10*((cc+aa+bb)/10+X+Y):=by omega
     rw[q3,Nat.mul_add T,Nat.mul_assoc T 10];omega
   by_cases g1:k<(digs n).length
   .rw[dT0 (by omega),azc];exact step
   .rw[dF0 (by omega),azb];by_cases g2:k<(digs m).length
    .rw[dT0 (by omega),azc];exact step
    .rw[dF0 (by omega),azb,dT0 (by omega),azc];exact step
  .have g1:¬k<(digs n).length:=fun h=>hgo (.inl h)
   have g2:¬k<(digs m).length:=fun h=>hgo (.inr (.inl h))
   have g3:¬0<c:=fun h=>hgo (.inr (.inr h))
   rw[dF0 (by omega),azb,dF0 (by omega),azb,dF0 g3,azb];refine⟨_,rfl,?_⟩;rw[List.drop_eq_nil_of_le (by omega),List.drop_eq_nil_of_le (by omega)]at hv;have:c=0:=by omega
   subst this;have hv2:vd out=n+m:=by simpa[vd]using hv
   rw[<-hv2];refine digs_of ho ?_;rw[hv2];apply Classical.byContradiction;intro hn;have h1:=bzo (n:=n+m) (k:=(digs (n+m)).length) (Nat.le_refl _);have h2:=hp (digs (n+m)).length (by omega);omega
 obtain⟨R,h1,h2⟩:=key;unfold fzf;rw[h1,h2];rfl
theorem Bzz {a b:Nat}(hl:(digs a).length<=5000)(hl2:(digs b).length<=5000):kz8 (digs a,digs b)=some (decide (a<b)):=by
 unfold kz8;simp only;by_cases hlen:(digs a).length=(digs b).length
 .rw[dT0 (by omega),Bool.not_true,azb,azi (by omega) (by omega)];obtain⟨y,h1,h2⟩:=czf (F:=jzn) (fun x=>(x.2.2+1).toNat) (fun x=>x.1=digs a/\x.2.1=digs b/\∃k:Nat,k<=(digs a).length/\x.2.2=(k:Int)-1/\a/10^k=b/10^k) (fun y=>osum y (fun _=>some false) (fun y=>some y)=some (decide (a<b))) (by
   rintro back ⟨D,E,i⟩ ⟨rfl,rfl,k,hk,e1,e2⟩ hb;simp only at e1;subst e1;unfold jzn;simp only at hb ⊢;cases k with
   | zero =>
    simp only[Nat.pow_zero,Nat.div_one]at e2;subst e2;exact⟨Sum.inl PUnit.unit,by simp,by simp[osum]⟩
   | succ k =>
    rw[dT0 (by omega),azc,show(((k+1:Nat):Int)-1)=(k:Int) by omega,idxI (jz2 k a (by omega)),aza,idxI (jz2 k b (by omega)),aza];have ea:a/10^k=a/10^k%10+10*(a/10^(k+1)):=by rw[Nat.pow_succ,<-Nat.div_div_eq_div_mul];omega
    have eb:b/10^k=b/10^k%10+10*(b/10^(k+1)):=by rw[Nat.pow_succ,<-Nat.div_div_eq_div_mul];omega
    by_cases hd:a/10^k%10=b/10^k%10
    .rw[dT0 (by omega),Bool.not_true,azb,azi (by omega) (by omega)];exact hb _ ⟨rfl,rfl,k,by omega,rfl,by omega⟩ (by simp only;omega)
    .rw[dF0 (by omega),Bool.not_false,azc,aza,aza];refine⟨_,rfl,?_⟩;simp only[osum];congr 1;rw[decide_eq_decide];have hab:a/10^k<b/10^k↔a/10^k%10<b/10^k%10:=by omega
     have hne:a/10^k≠b/10^k:=by omega
     constructor
     .intro h;have:=hab.2 (by omega);exact Nat.lt_of_not_le fun hle=>by have:=Nat.div_le_div_right (c:=10^k) hle;omega
     .intro h;have:=Nat.div_le_div_right (c:=10^k) (Nat.le_of_lt h);have:=hab.1 (by omega);omega) (digs a,digs b,((digs a).length:Int)-1) ⟨rfl,rfl,(digs a).length,Nat.le_refl _,rfl,by
       have h1:=bzo (n:=a) (Nat.le_refl _);have h2:=bzo (n:=b) (k:=(digs a).length) (by omega);rw[Nat.div_eq_of_lt h1,Nat.div_eq_of_lt h2]⟩ (by simp only;omega)
  have h3:pzV (digs a,digs b,((digs a).length:Int)-1)=some y:=h1;rw[h3,aza];exact h2
 .rw[dF0 (by omega),Bool.not_false,azc];congr 1;rw[decide_eq_decide];constructor
  .intro h;have h1:=bzo (n:=a) (Nat.le_refl _);have h2:=yzv (n:=b) (j:=(digs a).length) (by omega);omega
  .intro h;apply Classical.byContradiction;intro hn;have h1:=bzo (n:=b) (Nat.le_refl _);have h2:=yzv (n:=a) (j:=(digs b).length) (by omega);omega
theorem minus_is {D E:List Int}(hD:azW D)(hE:azW E)(hl:D.length<=4000)(hl2:E.length<=D.length)(hle:vd E<=vd D):∃R,hzb (D,E)=some R/\azW R/\vd R=vd D-vd E/\R.length<=4000:=by
 have key:∃R,ozJ (D,E,[],0,0)=some R/\(azW R/\vd R=vd D-vd E/\R.length<=4000):=by
  refine czf (F:=izm) (fun x=>4002-x.2.2.2.2.toNat) (fun x=>x.1=D/\x.2.1=E/\∃(c k:Nat),x.2.2.2.1=(c:Int)/\x.2.2.2.2=(k:Int)/\c<=1/\azW x.2.2.1/\x.2.2.1.length=k/\k<=D.length /\
   vd D+10^k*(c+vd (E.drop k))=vd x.2.2.1+vd E+10^k*vd (D.drop k)) _ ?_ _ ⟨rfl,rfl,0,0,rfl,rfl,by omega,dz2,rfl,by omega,by simp[vd];omega⟩ (by simp only;omega)
  rintro back ⟨D',E',out,cc,i⟩ ⟨e1,e2,c,k,e3,e4,c1,ho,hk,hk2,hv⟩ hb;simp only at e1 e2 e3 e4 ho hk hv;subst e1;subst e2;subst e3;subst e4;unfold izm;simp only at hb ⊢;rcases Nat.lt_or_ge k D'.length with hlt|hge
  .have hd:=jzy hD k;have he:=jzy hE k;have g1:D'[k]?=some (at0 D' k):=by unfold at0;rw[List.getElem?_eq_getElem hlt];rfl
   rw[dT0 (by omega),azc,idxI g1,aza];have fin:∀(x:Int) (c':Nat),0<=x->x<=9->c'<=1->at0 D' k-c-at0 E' k+10*c'=x->∃y,back (D',E',out++[x],(c':Int),i64.wrap ((k:Int)+1))=some y/\(azW y/\vd y=vd D'-vd E'/\y.length<=4000):=fun x c' x0 x9 hc' hx=>by
    rw[azi (by omega) (by omega)];refine hb _ ⟨rfl,rfl,c',k+1,rfl,by simp,hc',hzS.2 ⟨ho,ezk.2 ⟨⟨x0,x9⟩,dz2⟩⟩,by simp[hk],by omega,?_⟩ (by simp only;omega);simp only;rw[lzj (D:=D') k,lzj (D:=E') k]at hv;rw[pzE,hk,Nat.pow_succ];simp only[vd];generalize vd (D'.drop (k+1))=X at *;generalize vd (E'.drop (k+1))=Y at *;generalize 10^k=T at *;generalize hp:at0 D' k=a at *;generalize hq:at0 E' k=b at *;have q:x.toNat+c+b.toNat=a.toNat+10*c':=by omega
    rw[Nat.mul_add,Nat.mul_add]at hv;rw[Nat.mul_add];have z1:T*(x.toNat+c+b.toNat)=T*(a.toNat+10*c'):=by rw[q]
    simp only[Nat.mul_add,Nat.mul_assoc]at *;omega
   rcases Nat.lt_or_ge k E'.length with h2|h2
   .have g2:E'[k]?=some (at0 E' k):=by unfold at0;rw[List.getElem?_eq_getElem h2];rfl
    rw[dT0 (by omega),azc,idxI g2,aza,azi (n:=at0 D' k-(c:Int)) (by omega) (by omega),azi (n:=at0 D' k-(c:Int)-at0 E' k) (by omega) (by omega)];by_cases hneg:at0 D' k-(c:Int)-at0 E' k<0
    .rw[dT0 hneg,azc,azi (by omega) (by omega),appS (by simp;omega),aza];exact fin _ 1 (by omega) (by omega) (by omega) (by omega)
    .rw[dF0 hneg,azb,appS (by simp;omega),aza];exact fin _ 0 (by omega) (by omega) (by omega) (by omega)
   .have g2:at0 E' k=0:=by unfold at0;rw[List.getElem?_eq_none h2];rfl
    rw[dF0 (by omega),azb,azi (n:=at0 D' k-(c:Int)) (by omega) (by omega)];by_cases hneg:at0 D' k-(c:Int)<0
    .rw[dT0 hneg,azc,azi (by omega) (by omega),appS (by simp;omega),aza];exact fin _ 1 (by omega) (by omega) (by omega) (by omega)
    .rw[dF0 hneg,azb,appS (by simp;omega),aza];exact fin _ 0 (by omega) (by omega) (by omega) (by omega)
  .rw[dF0 (by omega),azb];refine⟨_,rfl,ho,?_,by omega⟩;rw[List.drop_eq_nil_of_le (by omega),List.drop_eq_nil_of_le (by omega)]at hv;have hlt:=vd_lt ho;rw[hk]at hlt;simp only[vd,Nat.mul_zero,Nat.add_zero]at hv;rcases Nat.lt_or_ge 0 c with h0|h0
   .have:c=1:=by omega
    subst this;rw[Nat.mul_one]at hv;omega
   .have:c=0:=by omega
    subst this;rw[Nat.mul_zero]at hv;omega
 obtain⟨R,h1,h2⟩:=key;refine⟨R,?_,h2⟩;unfold hzb;rw[h1];rfl
theorem ezK {a b:Nat}(h:a<=b):(digs a).length<=(digs b).length:=by
 have:=bzo (n:=b) (Nat.le_refl _);exact bzs _ _ (by omega)
theorem uzO {a b:Nat}{m:Bool}(hl:(digs a).length<=4000)(hle:b<=a):∃R,hzb (digs a,digs b)=some R/\bzr ⟨m,R⟩=some ⟨m&&!decide (a-b=0),digs (a-b)⟩:=by
 obtain⟨R,h1,h2,h3,h4⟩:=minus_is (czF a) (czF b) hl (ezK hle) (by rw[cz9,cz9];exact hle);rw[cz9,cz9]at h3;refine⟨R,h1,?_⟩;rw[izy h2 (by omega),h3]
theorem mz2 {a b k:Nat}(h:(digs a).length<=k)(h2:(digs b).length<=k):(digs (a+b)).length<=k+1:=by
 have h1:=bzo h;have h2:=bzo h2;refine bzs _ _ ?_;rw[Nat.pow_succ];omega
theorem add_is {a b:Nat}{m m':Bool}(hl:(digs a).length<=1000)(hl2:(digs b).length<=1000):
 ∃m'',czc (⟨m,digs a⟩,⟨m',digs b⟩)=some ⟨m'',digs (sw a m+sw b m').natAbs⟩/\sw (sw (a:Int) m+sw b m').natAbs m''=sw a m+sw b m':=by
 unfold czc;simp only;by_cases hm:m=m'
 .subst hm;rw[dT0 rfl,azc,xzB (by omega) (by omega),aza,izy (czF _) (by
   have:=mz2 hl hl2;omega),aza,cz9]
  refine⟨m&&!decide (a+b=0),?_,?_⟩
  .congr 3;cases m<;>simp[sw]<;>omega
  .cases m<;>simp[sw]
   .omega
   .by_cases ha:a=0<;>by_cases hb:b=0<;>simp[ha,hb]<;>omega
 .rw[dF0 hm,azb,Bzz (by omega) (by omega),aza];by_cases hlt:a<b
  .rw[dT0 hlt,azc];obtain⟨R,h1,h2⟩:=uzO (m:=m') (a:=b) (b:=a) (by omega) (by omega);rw[h1,aza,h2,aza];refine⟨m'&&!decide (b-a=0),?_,?_⟩
   .congr 3;cases m<;>cases m'<;>simp[sw]at hm ⊢<;>omega
   .cases m<;>cases m'<;>simp[sw]at hm ⊢
    .rw[dF0 (by omega)];simp;omega
    .omega
  .rw[dF0 hlt,azb];obtain⟨R,h1,h2⟩:=uzO (m:=m) (a:=a) (b:=b) (by omega) (by omega);rw[h1,aza,h2,aza];refine⟨m&&!decide (a-b=0),?_,?_⟩
   .congr 3;cases m<;>cases m'<;>simp[sw]at hm ⊢<;>omega
   .cases m<;>cases m'<;>simp[sw]at hm ⊢
    .omega
    .by_cases h:a-b=0
     .rw[dT0 h];simp;omega
     .rw[dF0 h];simp;omega
theorem vd_set:∀{D:List Int} {j:Nat} {v d:Int},D[j]?=some d->vd (D.set j v)+10^j*d.toNat=vd D+10^j*v.toNat
 | [],_,_,_,h=>by simp at h
 | e::D,0,v,d,h=>by
  simp only[List.getElem?_cons_zero,sE0]at h;subst h;simp only[List.set_cons_zero,vd];omega
 | e::D,j+1,v,d,h=>by
  simp only[List.getElem?_cons_succ]at h;have:=vd_set (v:=v) h;simp only[List.set_cons_succ,vd,Nat.pow_succ,Nat.mul_comm (10^j) 10,Nat.mul_assoc];omega
theorem isDig_set {D:List Int}{j:Nat}{v:Int}(h:azW D)(hv:0<=v/\v<=9):azW (D.set j v):=fun d hd=>by
 rcases List.mem_or_eq_of_mem_set hd with h'|rfl
 .exact h d h'
 .exact hv
theorem inbS {n k:Nat}(h:k<n):inb n (k:Int)=some k:=by
 simp[inb,h]
theorem nthS {D:List Int}{k:Nat}{v:Int}(h:D[k]?=some v):nth D k=some v:=h
theorem mkS {n:Nat}(h:n<=10000):rzj 8 (0:Int) (n:Int) (n:Int)=some (List.replicate n 0):=by
 unfold rzj;rw[dT0 (by omega),dT0 (by omega),dT0 (by omega)];simp
theorem Kze:∀n,vd (List.replicate n 0)=0
 | 0=>rfl
 | n+1=>by rw[List.replicate_succ,vd,Kze n];rfl
theorem KzU (n:Nat):azW (List.replicate n 0):=fun d hd=>by
 rw[List.eq_of_mem_replicate hd];omega
theorem pow_lt_of {a b T:Nat}(h:10^a<=T)(h2:T<10^b):a<b:=by
 apply Classical.byContradiction;intro hn;have:=Nat.pow_le_pow_right (n:=10) (by omega) (show b<=a by omega);omega
theorem Lzp {A B:List Int}{f m1 m2:Bool}{out:List Int}{i:Nat}(hA:azW A)(hB:azW B)(hO:azW out)(hi:i<A.length)(hlA:A.length<=1000)(hlB:B.length<=1000)
 (hL:out.length=A.length+B.length+1) (hT:vd out+10^i*((at0 A i).toNat*vd B)<10^(A.length+B.length)) :
 ∃out',lzf (f,out,⟨m1,A⟩,⟨m2,B⟩,(),(i:Int),0,0)=some ((f,out'),())/\azW out'/\out'.length=out.length/\vd out'=vd out+10^i*((at0 A i).toNat*vd B):=by
 generalize hTT:vd out+10^i*((at0 A i).toNat*vd B)=T at *;have key:∃y,lzf (f,out,⟨m1,A⟩,⟨m2,B⟩,(),(i:Int),0,0)=some y/\(∃out',y=((f,out'),())/\azW out'/\out'.length=out.length/\vd out'=T):=by
  refine czf (F:=izq) (fun x=>5000-x.2.2.2.2.2.2.2.toNat) (fun x=>∃(o:List Int) (c:Int) (k:Nat),x=(f,o,⟨m1,A⟩,⟨m2,B⟩,(),(i:Int),c,(k:Int))/\0<=c/\c<=9/\azW o/\o.length=out.length/\k<=3000 /\
   vd o+10^(i+k)*(c.toNat+(at0 A i).toNat*vd (B.drop k))=T) _ ?_ _ ⟨out,0,0,rfl,by omega,by omega,hO,rfl,by omega,by simpa using hTT⟩ (by simp only;omega)
  rintro back x ⟨o,c,k,rfl,c0,c9,ho,hlo,hk,hv⟩ hb;unfold izq;simp only at hb ⊢;have ha:=jzy hA i;have hbd:=jzy hB k;have gA:A[i]?=some (at0 A i):=by unfold at0;rw[List.getElem?_eq_getElem hi];rfl
  have fin:∀(e s:Int),i+k<out.length->o[i+k]?=some e->s=c+e+at0 A i*at0 B k ->
   ∃y,back (f,o.set (i+k) (s.tmod 10),⟨m1,A⟩,⟨m2,B⟩,(),(i:Int),i64.wrap (s.tdiv 10),i64.wrap ((k:Int)+1))=some y/\(∃out',y=((f,out'),())/\azW out'/\out'.length=out.length/\vd out'=T):=fun e s hik he hs=>by
   have he9:=ho e (List.mem_of_getElem? he);have hab:at0 A i*at0 B k=(((at0 A i).toNat*(at0 B k).toNat:Nat):Int):=by
    rw[Int.natCast_mul,Int.toNat_of_nonneg ha.1,Int.toNat_of_nonneg hbd.1]
   have hp:(at0 A i).toNat*(at0 B k).toNat<=9*9:=Nat.mul_le_mul (by omega) (by omega);rw[hab]at hs;have s0:0<=s:=by omega
   rw[Int.tmod_eq_emod_of_nonneg s0,Int.tdiv_eq_ediv_of_nonneg s0,azi (n:=s/10) (by omega) (by omega),azi (n:=(k:Int)+1) (by omega) (by omega)];refine hb _ ⟨o.set (i+k) (s%10),s/10,k+1,rfl,by omega,by omega,isDig_set ho (by omega),by simp[hlo],by omega,?_⟩ (by simp only;omega);have hset:=vd_set (v:=s%10) he;rw[lzj (D:=B) k]at hv;rw[<-hv,<-Nat.add_assoc i k 1,Nat.pow_succ];generalize vd (B.drop (k+1))=Y at *;generalize 10^(i+k)=P at *;generalize vd (o.set (i+k) (s%10))=Q at *;generalize vd o=R at *;have q1:(s%10).toNat=(c.toNat+e.toNat+(at0 A i).toNat*(at0 B k).toNat)%10:=by omega
   have q2:(s/10).toNat=(c.toNat+e.toNat+(at0 A i).toNat*(at0 B k).toNat)/10:=by omega
   rw[q1]at hset;rw[q2];have e3:(at0 A i).toNat*((at0 B k).toNat+10*Y)=(at0 A i).toNat*(at0 B k).toNat+10*((at0 A i).toNat*Y):=by
    rw[Nat.mul_add,Nat.mul_left_comm]
   rw[e3];generalize (at0 A i).toNat*(at0 B k).toNat=ab at *;generalize (at0 A i).toNat*Y=aY at *;generalize c.toNat=cc at *;generalize e.toNat=ee at *;have q3:cc+(ab+10*aY)+ee=(cc+ee+ab)%10+10*((cc+ee+ab)/10+aY):=by omega
   have q4:P*(cc+(ab+10*aY)+ee)=P*((cc+ee+ab)%10+10*((cc+ee+ab)/10+aY)):=by rw[q3]
   simp only[Nat.mul_add,Nat.mul_assoc]at q4 hset ⊢;omega
  rcases Nat.lt_or_ge k B.length with h1|h1
  .have hik:i+k<out.length:=by omega
   have gB:B[k]?=some (at0 B k):=by unfold at0;rw[List.getElem?_eq_getElem h1];rfl
   have go:o[i+k]?=some (o[i+k]'(by omega)):=List.getElem?_eq_getElem (by omega);generalize o[i+k]'(by omega)=e at go;have he9:=ho e (List.mem_of_getElem? go);have hab:at0 A i*at0 B k=(((at0 A i).toNat*(at0 B k).toNat:Nat):Int):=by
    rw[Int.natCast_mul,Int.toNat_of_nonneg ha.1,Int.toNat_of_nonneg hbd.1]
   have hp:(at0 A i).toNat*(at0 B k).toNat<=9*9:=Nat.mul_le_mul (by omega) (by omega);have fin2:=fin e _ hik go rfl;rw[dT0 (by omega),azc,azi (n:=(i:Int)+(k:Int)) (by omega) (by omega),show(i:Int)+(k:Int)=((i+k:Nat):Int) by omega,inbS (by omega),aza,nthS go,aza,azc,idxI gA,aza,idxI gB,aza,aza,nthS go,aza,
    azi (n:=c+e) (by omega) (by omega),azi (n:=at0 A i*at0 B k) (by omega) (by omega),azi (n:=c+e+at0 A i*at0 B k) (by omega) (by omega)]
   exact fin2
  .have hB0:at0 B k=0:=by unfold at0;rw[List.getElem?_eq_none h1];rfl
   rw[dF0 (by omega),azb];by_cases hc:0<c
   .have hik:i+k<out.length:=by
     have:10^(i+k)*1<=10^(i+k)*(c.toNat+(at0 A i).toNat*vd (B.drop k)):=Nat.mul_le_mul_left _ (by omega);have:=pow_lt_of (a:=i+k) (b:=A.length+B.length) (T:=T) (by omega) hT;omega
    have go:o[i+k]?=some (o[i+k]'(by omega)):=List.getElem?_eq_getElem (by omega);generalize o[i+k]'(by omega)=e at go;have he9:=ho e (List.mem_of_getElem? go);have fin2:=fin e (c+e) hik go (by rw[hB0];omega);rw[dT0 hc,azc,azi (n:=(i:Int)+(k:Int)) (by omega) (by omega),show(i:Int)+(k:Int)=((i+k:Nat):Int) by omega,inbS (by omega),aza,nthS go,aza,azb,aza,nthS go,aza,
     azi (n:=c+e) (by omega) (by omega)]
    exact fin2
   .rw[dF0 hc,azb];refine⟨_,rfl,o,rfl,ho,hlo,?_⟩;have:c=0:=by omega
    subst this;rw[List.drop_eq_nil_of_le (by omega)]at hv;simpa[vd]using hv
 obtain⟨y,h1,out',rfl,h3⟩:=key;exact⟨out',h1,h3⟩
theorem timesD_is {a b:Nat}{m1 m2:Bool}(hla:(digs a).length<=1000)(hlb:(digs b).length<=1000):
 pze (⟨m1,digs a⟩,⟨m2,digs b⟩)=some ⟨(!decide (m1=m2))&&!decide (a*b=0),digs (a*b)⟩:=by
 have hA:=czF a;have hB:=czF b;have hab:a*b<10^((digs a).length+(digs b).length):=by
  rw[Nat.pow_add];exact Nat.mul_lt_mul'' (bzo (Nat.le_refl _)) (bzo (Nat.le_refl _))
 unfold pze;simp only;rw[azi (n:=((digs a).length:Int)+((digs b).length:Int)) (by omega) (by omega),azi (by omega) (by omega),show((digs a).length:Int)+((digs b).length:Int)+1=(((digs a).length+(digs b).length+1:Nat):Int) by omega,mkS (by omega),aza];have key:∃y,ozN (!decide (m1=m2),List.replicate ((digs a).length+(digs b).length+1) 0,⟨m1,digs a⟩,⟨m2,digs b⟩,(),0)=some y/\(∃out,y=((!decide (m1=m2),out),())/\azW out/\out.length=(digs a).length+(digs b).length+1/\vd out=a*b):=by
  refine czf (F:=izp) (fun x=>2000-x.2.2.2.2.2.toNat) (fun x=>∃(o:List Int) (i:Nat),x=(!decide (m1=m2),o,⟨m1,digs a⟩,⟨m2,digs b⟩,(),(i:Int))/\azW o/\o.length=(digs a).length+(digs b).length+1/\i<=(digs a).length /\
   vd o+10^i*(vd ((digs a).drop i)*b)=a*b) _ ?_ _ ⟨_,0,rfl,KzU _,by simp,by omega,by rw[Kze];simp[cz9]⟩ (by simp only;omega)
  rintro back x ⟨o,i,rfl,ho,hlo,hi,hv⟩ hb;unfold izp;simp only at hb ⊢;rcases Nat.lt_or_ge i (digs a).length with hlt|hge
  .rw[lzj (D:=digs a) i,Nat.add_mul,Nat.mul_add]at hv;obtain⟨o',h1,h2,h3,h4⟩:=Lzp (f:=!decide (m1=m2)) (m1:=m1) (m2:=m2) hA hB ho hlt (by omega) (by omega) hlo (by rw[cz9];omega);rw[dT0 (by omega),azc,h1,aza,azi (by omega) (by omega)];refine hb _ ⟨o',i+1,rfl,h2,by omega,by omega,?_⟩ (by simp only;omega);rw[h4,cz9,Nat.pow_succ];generalize 10^i=T at *;rw[Nat.mul_assoc T 10,<-Nat.mul_assoc 10];omega
  .rw[dF0 (by omega),azb];refine⟨_,rfl,o,rfl,ho,hlo,?_⟩;rw[List.drop_eq_nil_of_le hge]at hv;simpa[vd]using hv
 obtain⟨y,h1,out,rfl,h2,h3,h4⟩:=key;rw[h1,aza];simp only;rw[izy h2 (by omega),h4,aza]
theorem Mzn {b r:Nat}(hb0:0<b)(hlb:(digs b).length<=1000)(hlr:(digs r).length<=1001)(hr:r<10*b):pzY (digs b,digs r,0)=some (digs (r%b),((r/b:Nat):Int)):=by
 obtain⟨y,h1,h2⟩:=czf (F:=jzp) (fun x=>20-x.2.2.toNat) (fun x=>∃s n:Nat,x=(digs b,digs s,(n:Int))/\s+n*b=r) (fun y=>y=(digs (r%b),((r/b:Nat):Int))) (by
  rintro back x ⟨s,n,rfl,hs⟩ hb;unfold jzp;simp only at hb ⊢;have hsr:s<=r:=by omega
  have hls:=ezK hsr;have hn:n<=9:=by
   apply Classical.byContradiction;intro hn;have:10*b<=n*b:=Nat.mul_le_mul_right b (by omega);omega
  rw[Bzz (by omega) (by omega),aza];by_cases hlt:s<b
  .rw[dT0 hlt,Bool.not_true,azb];refine⟨_,rfl,?_⟩;have e1:r/b=n:=by
    rw[<-hs,Nat.add_mul_div_right _ _ hb0,Nat.div_eq_of_lt hlt];omega
   have e2:r%b=s:=by
    rw[<-hs,Nat.add_mul_mod_self_right,Nat.mod_eq_of_lt hlt]
   rw[e1,e2]
  .rw[dF0 hlt,Bool.not_false,azc];obtain⟨R,h1,h2⟩:=uzO (m:=false) (a:=s) (b:=b) (by omega) (by omega);have hn9:n<=8:=by
    apply Classical.byContradiction;intro hn;have:9*b<=n*b:=Nat.mul_le_mul_right b (by omega);omega
   rw[h1,aza,h2,aza,azi (by omega) (by omega)];refine hb _ ⟨s-b,n+1,rfl,?_⟩ (by simp only;omega);rw[Nat.add_mul];omega) (digs b,digs r,0) ⟨r,0,rfl,by omega⟩ (by simp only;omega)
 subst h2;exact h1
theorem Hzl {r d k:Nat}(h:(digs r).length<=k)(hd:d<=9):(digs (d+10*r)).length<=k+1:=by
 have h1:=bzo h;refine bzs _ _ ?_;rw[Nat.pow_succ];omega
theorem overD_is {a b:Nat}(hb0:0<b)(hla:(digs a).length<=1000)(hlb:(digs b).length<=1000):qzB (digs a,digs b)=some (digs (a/b),decide (b<=2*(a%b)),decide (a%b≠0)):=by
 have hA:=czF a;unfold qzB;simp only;rw[azi (by omega) (by omega)];have key:∃y,pzX (digs a,digs b,[],[],((digs a).length:Int)-1)=some y/\(∃q,y=(q,digs (a%b))/\azW q/\q.length<=1000/\vd q=a/b):=by
  refine czf (F:=jzo) (fun x=>(x.2.2.2.2+1).toNat) (fun x=>∃(q:List Int) (r k:Nat),x=(digs a,digs b,q,digs r,(k:Int)-1)/\azW q/\k<=(digs a).length/\q.length+k=(digs a).length/\r<b/\vd ((digs a).drop k)=vd q*b+r) _ ?_ _ ⟨[],0,(digs a).length,by rw[bzk],dz2,by omega,by simp,hb0,by simp[vd]⟩ (by simp only;omega);rintro back x ⟨q,r,k,rfl,hq,hk,hlq,hr,hv⟩ hb;unfold jzo;simp only at hb ⊢;cases k with
  | zero =>
   rw[dF0 (by omega),azb];simp only[List.drop_zero,cz9]at hv;refine⟨_,rfl,q,?_,hq,by omega,?_⟩
   .rw[hv,Nat.add_comm,Nat.add_mul_mod_self_right,Nat.mod_eq_of_lt hr]
   .rw[hv,Nat.add_comm,Nat.add_mul_div_right _ _ hb0,Nat.div_eq_of_lt hr];omega
  | succ k =>
   have hrl:(digs r).length<=(digs b).length:=ezK (by omega);rw[dT0 (by omega),azc,show(((k+1:Nat):Int)-1)=(k:Int) by omega,idxI (jz2 k a (by omega)),aza,appS (by simp;omega),aza];have hd:azW ([((a/10^k%10:Nat):Int)]++digs r):=hzS.2 ⟨ezk.2 ⟨by omega,dz2⟩,czF r⟩;have hvd:vd ([((a/10^k%10:Nat):Int)]++digs r)=a/10^k%10+10*r:=by
    simp only[List.singleton_append,vd,cz9,Int.toNat_natCast]
   rw[izy hd (by simp;omega),aza,hvd];simp only;have hlen:(digs (a/10^k%10+10*r)).length<=1001:=Hzl (by omega) (by omega);have hr10:a/10^k%10+10*r<10*b:=by omega
   rw[Mzn hb0 hlb hlen hr10,aza];simp only;have hq9:(a/10^k%10+10*r)/b<=9:=by
    have:=(Nat.div_lt_iff_lt_mul hb0).2 hr10;omega
   rw[appS (by simp;omega),aza,azi (by omega) (by omega)];refine hb _ ⟨_,(a/10^k%10+10*r)%b,k,rfl,hzS.2 ⟨ezk.2 ⟨⟨Int.natCast_nonneg _,by exact_mod_cast hq9⟩,dz2⟩,hq⟩,by omega,by simp;omega,Nat.mod_lt _ hb0,?_⟩ (by simp only;omega);have ea:at0 (digs a) k=((a/10^k%10:Nat):Int):=by unfold at0;rw[jz2 k a (by omega)];rfl
   rw[lzj,ea,hv];simp only[List.singleton_append,vd,Int.toNat_natCast];generalize a/10^k%10=d at *;have hdm:=Nat.div_add_mod (d+10*r) b;rw[Nat.add_mul,Nat.mul_assoc 10,Nat.mul_comm ((d+10*r)/b) b];omega
 obtain⟨y,h1,q,rfl,h2,h3,h4⟩:=key;have hmb:a%b<b:=Nat.mod_lt _ hb0;have hml:(digs (a%b)).length<=1000:=Nat.le_trans (ezK (by omega)) hlb;have hml2:=mz2 hml hml;rw[h1,aza];simp only;rw[izy h2 (by omega),aza,xzB (by omega) (by omega),aza,Bzz (by omega) (by omega),aza,h4];simp only;congr 3
 .rw[<-decide_not,decide_eq_decide];omega
 .rw[decide_eq_decide];have:=mze (n:=a%b);omega
theorem AzC (v:Int)(p:Nat):∀k,azr (v*10^k) (p+k)=azr v p
 | 0=>by simp
 | k+1=>by
  have e:v*10^(k+1)=v*10^k*10:=by rw[Int.pow_succ,Int.mul_assoc]
  rw[e,<-Nat.add_assoc]
  conv=>lhs;unfold azr
  rw[if_pos (Int.mul_emod_left _ _),Int.mul_ediv_cancel _ (by omega)];exact AzC v p k
theorem CzT (v:Int)(p k:Nat):decV (v*10^k) (p+k)=decV v p:=by
 unfold decV;rw[AzC]
theorem Vx {M:Int}{s p:Nat}(hs:s<=p)(hp:p<=9):V ⟨M,(s:Int)⟩=M*10^(p-s)*10^(9-p):=by
 show M*10^(9-(s:Int).toNat)=_
 rw[Int.toNat_natCast,Int.mul_assoc,<-Int.pow_add,show p-s+(9-p)=9-s by omega]
theorem yzP (M:Int)(k:Nat):sw ((M.natAbs*10^k:Nat):Int) (decide (M<0))=M*10^k:=by
 have e:((M.natAbs*10^k:Nat):Int)=(M.natAbs:Int)*10^k:=by rw[Int.natCast_mul,gz5]
 rw[e,vzo,mzN]
theorem qzw {M:Int}(h:I64 M):(digs M.natAbs).length<=19:=bzs 19 _ (by unfold I64 at h;omega)
theorem sz2 {n j:Nat}(k:Nat)(h:(digs n).length<=j):(digs (n*10^k)).length<=j+k:=by
 have h1:=bzo h;refine bzs _ _ ?_;rw[Nat.pow_add];exact Nat.mul_lt_mul_of_pos_right h1 (Nat.pow_pos (by omega))
theorem uzh {M N:Int}{s t:Nat}(hM:I64 M)(hN:I64 N)(hs:s<=9)(ht:t<=9):hza (⟨M,(s:Int)⟩,⟨N,(t:Int)⟩) =
 some (⟨decide (M<0),digs (M.natAbs*10^(max s t-s))⟩,⟨decide (N<0),digs (N.natAbs*10^(max s t-t))⟩,((max s t:Nat):Int)):=by
 have l1:=qzw hM;have l2:=qzw hN;unfold hza;simp only;rw[qzK hM,aza,qzK hN,aza];by_cases h:s<t
 .rw[dT0 (by omega),azc,azi (by omega) (by omega),show(t:Int)-(s:Int)=((t-s:Nat):Int) by omega,szS (by omega) (by omega),aza,show max s t=t by omega,Nat.sub_self,Nat.pow_zero,Nat.mul_one]
 .rw[dF0 (by omega),azb,azi (by omega) (by omega),show(s:Int)-(t:Int)=((s-t:Nat):Int) by omega,szS (by omega) (by omega),aza,show max s t=s by omega,Nat.sub_self,Nat.pow_zero,Nat.mul_one]
theorem diff_is {a b:Nat}{m m':Bool}(hl:(digs a).length<=1000)(hl2:(digs b).length<=1000):
 ∃m'',(brn (!m') (obnd (czc (⟨m,digs a⟩,⟨decide (0<((digs b).length:Int)),digs b⟩)) fun y=>some y) (obnd (czc (⟨m,digs a⟩,⟨false,digs b⟩)) fun y=>some y))=some (⟨m'',digs (sw a m-sw b m').natAbs⟩:Big)/\sw (sw (a:Int) m-sw b m').natAbs m''=sw a m-sw b m':=by
 cases m'
 .obtain⟨m'',h1,h2⟩:=add_is (a:=a) (b:=b) (m:=m) (m':=decide (0<((digs b).length:Int))) hl hl2;have e:sw (b:Int) (decide (0<((digs b).length:Int))) = - sw (b:Int) false:=by
   by_cases hb:b=0
   .subst hb;rw[bzk];rfl
   .have:=mt mze.1 hb;rw[dT0 (by omega)];rfl
  rw[e,<-Int.sub_eq_add_neg]at h1 h2;exact⟨m'',by rw[Bool.not_false,azc,h1];rfl,h2⟩
 .obtain⟨m'',h1,h2⟩:=add_is (a:=a) (b:=b) (m:=m) (m':=false) hl hl2;have e:sw (b:Int) false = - sw (b:Int) true:=by simp[sw]
  rw[e,<-Int.sub_eq_add_neg]at h1 h2;exact⟨m'',by rw[Bool.not_true,azb,h1];rfl,h2⟩
section
variable {M N:Int} {s t:Nat} (hM:I64 M) (hN:I64 N) (hs:s<=9) (ht:t<=9)
include hM hN hs ht
theorem x_len:(digs (M.natAbs*10^(max s t-s))).length<=28/\(digs (N.natAbs*10^(max s t-t))).length<=28:=by
 have h1:=sz2 (max s t-s) (qzw hM);have h2:=sz2 (max s t-t) (qzw hN);omega
theorem sum_len (v:Int)(hv:v=M*10^(max s t-s)+N*10^(max s t-t)\/v=M*10^(max s t-s)-N*10^(max s t-t)):(digs v.natAbs).length<=29:=by
 obtain⟨h1,h2⟩:=x_len hM hN hs ht;have h3:=mz2 h1 h2;refine Nat.le_trans (ezK ?_) h3;have e1:(M*10^(max s t-s)).natAbs=M.natAbs*10^(max s t-s):=by rw[Int.natAbs_mul,Int.natAbs_pow];rfl
 have e2:(N*10^(max s t-t)).natAbs=N.natAbs*10^(max s t-t):=by rw[Int.natAbs_mul,Int.natAbs_pow];rfl
 rw[<-e1,<-e2];omega
theorem refAdd_is:hz9 (⟨M,(s:Int)⟩,⟨N,(t:Int)⟩)=some (decV (V ⟨M,(s:Int)⟩+V ⟨N,(t:Int)⟩) 9):=by
 obtain⟨h1,h2⟩:=x_len hM hN hs ht;unfold hz9;rw[uzh hM hN hs ht,aza];simp only;obtain⟨m'',h3,h4⟩:=add_is (m:=decide (M<0)) (m':=decide (N<0)) (show(digs (M.natAbs*10^(max s t-s))).length<=1000 by omega) (show(digs (N.natAbs*10^(max s t-t))).length<=1000 by omega);rw[yzP,yzP]at h3 h4;have h5:=sum_len hM hN hs ht _ (.inl rfl);rw[h3,aza,hzh (by omega) (by omega),h4,aza,Vx (p:=max s t) (by omega) (by omega),Vx (M:=N) (p:=max s t) (by omega) (by omega),<-Int.add_mul];have:=CzT (M*10^(max s t-s)+N*10^(max s t-t)) (max s t) (9-max s t);rw[show max s t+(9-max s t)=9 by omega]at this;rw[this]
theorem refSub_is:dzP (⟨M,(s:Int)⟩,⟨N,(t:Int)⟩)=some (decV (V ⟨M,(s:Int)⟩-V ⟨N,(t:Int)⟩) 9):=by
 obtain⟨h1,h2⟩:=x_len hM hN hs ht;unfold dzP;rw[uzh hM hN hs ht,aza];simp only;obtain⟨m'',h3,h4⟩:=diff_is (m:=decide (M<0)) (m':=decide (N<0)) (show(digs (M.natAbs*10^(max s t-s))).length<=1000 by omega) (show(digs (N.natAbs*10^(max s t-t))).length<=1000 by omega);rw[yzP,yzP]at h3 h4;have h5:=sum_len hM hN hs ht _ (.inr rfl);have h6:=CzT (M*10^(max s t-s)-N*10^(max s t-t)) (max s t) (9-max s t);rw[show max s t+(9-max s t)=9 by omega]at h6;have fin:(obnd (bzi (⟨m'',digs (M*10^(max s t-s)-N*10^(max s t-t)).natAbs⟩,((max s t:Nat):Int))) fun y=>some y)=some (decV (V ⟨M,(s:Int)⟩-V ⟨N,(t:Int)⟩) 9):=by
  rw[hzh (by omega) (by omega),h4,aza,Vx (p:=max s t) (by omega) (by omega),Vx (M:=N) (p:=max s t) (by omega) (by omega),<-Int.sub_mul,h6]
 by_cases hn:N<0
 .rw[dT0 hn]at h3 ⊢;rw[Bool.not_true,azb]at h3 ⊢;cases hq:czc (⟨decide (M<0),digs (M.natAbs*10^(max s t-s))⟩,⟨false,digs (N.natAbs*10^(max s t-t))⟩)with
  | none=>rw[hq]at h3;simp at h3
  | some z=>rw[hq,aza]at h3;rw[aza];rw[Option.some.inj h3];exact fin
 .rw[dF0 hn]at h3 ⊢;rw[Bool.not_false,azc]at h3 ⊢;cases hq:czc (⟨decide (M<0),digs (M.natAbs*10^(max s t-s))⟩,⟨decide (0<((digs (N.natAbs*10^(max s t-t))).length:Int)),digs (N.natAbs*10^(max s t-t))⟩)with
  | none=>rw[hq]at h3;simp at h3
  | some z=>rw[hq,aza]at h3;rw[aza];rw[Option.some.inj h3];exact fin
theorem Hz3:czM (⟨M,(s:Int)⟩,⟨N,(t:Int)⟩)=some (cmpV (V ⟨M,(s:Int)⟩) (V ⟨N,(t:Int)⟩)):=by
 obtain⟨h1,h2⟩:=x_len hM hN hs ht;unfold czM;rw[uzh hM hN hs ht,aza];simp only;obtain⟨m'',h3,h4⟩:=diff_is (m:=decide (M<0)) (m':=decide (N<0)) (show(digs (M.natAbs*10^(max s t-s))).length<=1000 by omega) (show(digs (N.natAbs*10^(max s t-t))).length<=1000 by omega);rw[yzP,yzP]at h3 h4;have hp:(0:Int)<10^(9-max s t):=Int.pow_pos (by omega);have hV:cmpV (V ⟨M,(s:Int)⟩) (V ⟨N,(t:Int)⟩)=cmpV (M*10^(max s t-s)) (N*10^(max s t-t)):=by
  rw[Vx (p:=max s t) (by omega) (by omega),Vx (M:=N) (p:=max s t) (by omega) (by omega)];unfold cmpV;have e1:=fun(x y:Int)=>(show x*10^(9-max s t)<y*10^(9-max s t)↔x<y from⟨fun h=>Int.lt_of_mul_lt_mul_right h (Int.le_of_lt hp),fun h=>Int.mul_lt_mul_of_pos_right h hp⟩)
  simp only[e1]
 rw[hV];generalize M*10^(max s t-s)=x at *;generalize N*10^(max s t-t)=y at *;have fin:brn (decide (((digs (x-y).natAbs).length:Int)=0)) (some 0) (brn m'' (some (-1)) (some 1))=some (cmpV x y):=by
  unfold cmpV;have hz:=mze (n:=(x-y).natAbs);by_cases h0:x-y=0
  .rw[dT0 (by omega),azc,if_neg (by omega),if_neg (by omega)]
  .rw[dF0 (by omega),azb];cases m''
   .rw[azb];simp only[sw,cond_false]at h4;rw[if_neg (by omega),if_pos (by omega)]
   .rw[azc];simp only[sw,cond_true]at h4;rw[if_pos (by omega)]
 by_cases hn:N<0
 .rw[dT0 hn]at h3 ⊢;rw[Bool.not_true,azb]at h3 ⊢;cases hq:czc (⟨decide (M<0),digs (M.natAbs*10^(max s t-s))⟩,⟨false,digs (N.natAbs*10^(max s t-t))⟩)with
  | none=>rw[hq]at h3;simp at h3
  | some z=>rw[hq,aza]at h3;rw[aza];rw[Option.some.inj h3];exact fin
 .rw[dF0 hn]at h3 ⊢;rw[Bool.not_false,azc]at h3 ⊢;cases hq:czc (⟨decide (M<0),digs (M.natAbs*10^(max s t-s))⟩,⟨decide (0<((digs (N.natAbs*10^(max s t-t))).length:Int)),digs (N.natAbs*10^(max s t-t))⟩)with
  | none=>rw[hq]at h3;simp at h3
  | some z=>rw[hq,aza]at h3;rw[aza];rw[Option.some.inj h3];exact fin
end
def rdN (v n:Nat):Nat:=if n<=2*(v%n)then v/n+1 else v/n
theorem Jzz (v n:Nat):(rdN v n:Int)=rdiv v n:=by
 unfold rdN rdiv;by_cases h:n<=2*(v%n)
 .rw[if_pos h,if_pos (by omega)];simp
 .rw[if_neg h,if_neg (by omega)];simp
theorem rdN_pow (n k:Nat):cz2 n k=rdN n (10^k):=rfl
theorem rdN_scale {v n c:Nat}(hc:0<c):rdN (v*c) (n*c)=rdN v n:=by
 unfold rdN;rw[Nat.mul_div_mul_right _ _ hc,Nat.mul_mod_mul_right,<-Nat.mul_assoc];have:n*c<=2*(v%n)*c↔n<=2*(v%n):=Nat.mul_le_mul_right_iff hc;simp only[this]
theorem rdN_len {v n j:Nat}(h:(digs v).length<=j):(digs (rdN v n)).length<=j+2:=by
 have h1:(digs (v+1)).length<=j+1+1:=mz2 (k:=j+1) (by omega) (by
  have:=bzs 1 1 (by omega);omega)
 refine Nat.le_trans (ezK ?_) h1;have:=Nat.div_le_self v n;unfold rdN;split<;>omega
section
variable {M N:Int} {s t:Nat} (hM:I64 M) (hN:I64 N) (hs:s<=9) (ht:t<=9)
def sgnP (M N:Int):Bool:=!decide (decide (M<0)=decide (N<0))
def prodV (M N:Int)(s t:Nat):Dec×Int:=if s+t<=9 then decV (M*N) (s+t)else decV (sw (rdN (M.natAbs*N.natAbs) (10^(s+t-9))) (sgnP M N)) 9
theorem sw_prod (M N:Int):sw ((M.natAbs*N.natAbs:Nat):Int) (sgnP M N)=M*N:=by
 rw[Int.natCast_mul];exact sw_mul M N
theorem sw_and0 {n:Nat}(r:Nat)(h:n=0->r=0)(m:Bool):sw (r:Int) (m&&!decide (n=0))=sw (r:Int) m:=by
 by_cases hn:n=0
 .rw[h hn];cases m<;>simp[sw]
 .simp[hn]
include hM hN hs ht
theorem refMul_is:fzY (⟨M,(s:Int)⟩,⟨N,(t:Int)⟩)=some (prodV M N s t):=by
 have l1:=qzw hM;have l2:=qzw hN;have l3:(digs (M.natAbs*N.natAbs)).length<=38:=by
  refine bzs _ _ ?_;rw[show(38:Nat)=19+19 from rfl,Nat.pow_add];exact Nat.mul_lt_mul'' (bzo l1) (bzo l2)
 unfold fzY prodV;simp only;rw[qzK hM,aza,qzK hN,aza,timesD_is (by omega) (by omega),aza,azi (by omega) (by omega),show(s:Int)+(t:Int)=((s+t:Nat):Int) by omega];by_cases h9:s+t<=9
 .rw[if_pos h9];have e:ezm (⟨(!decide (decide (M<0)=decide (N<0)))&&!decide (M.natAbs*N.natAbs=0),digs (M.natAbs*N.natAbs)⟩,((s+t:Nat):Int),9)=some (⟨(!decide (decide (M<0)=decide (N<0)))&&!decide (M.natAbs*N.natAbs=0),digs (M.natAbs*N.natAbs)⟩,((s+t:Nat):Int)):=by
   unfold ezm;simp only;rw[dT0 (by omega),azc]
  rw[e,aza,hzh (by omega) (by omega),aza,tz3];rw[show sw ((M.natAbs*N.natAbs:Nat):Int) (!decide (decide (M<0)=decide (N<0)))=M*N from sw_prod M N]
 .rw[if_neg h9,Azx (k:=s+t-9) (by omega) (by omega) (by omega) (by omega) (by omega),aza];have l4:=rdN_len (n:=10^(s+t-9)) l3;rw[show(9:Int)=((9:Nat):Int) from rfl,hzh (by rw[rdN_pow];omega) (by omega),aza,tz3,rdN_pow,sw_and0 _ (fun h=>by rw[h];simp[rdN])];rfl
theorem Mzr:gz1 (⟨M,(s:Int)⟩,⟨N,(t:Int)⟩)=some (prodV M N s t):=by
 unfold prodV;by_cases h9:s+t<=9
 .rw[if_pos h9];have:=Mul_is (a:=⟨M,(s:Int)⟩) (b:=⟨N,(t:Int)⟩) hM hN (by simp only;omega) (by simp only;omega);simp only at this;rw[this,show((s:Int)+(t:Int)).toNat=s+t by omega]
 .rw[if_neg h9];have hA:=hM;have hB:=hN;unfold I64 at hA hB;unfold gz1;simp only;have p0:=gzJ (show(0:Int)<=M.natAbs by omega) (show(0:Int)<=N.natAbs by omega);have p1:(M.natAbs:Int)*N.natAbs<=9223372036854775808*9223372036854775808:=kzk (by omega) (by omega) (by omega) (by omega);have lo:∀(n:Int) (m:Bool),I64 n->(W n.natAbs m).lo=n.natAbs:=fun n m h=>by
   show(n.natAbs:Int)%18446744073709551616=n.natAbs
   unfold I64 at h;omega
  rw[qzy hM,qzy hN,aza,aza,lo _ _ hM,lo _ _ hN,AzE (by omega) (by omega) (by omega) (by omega),aza,azi (n:=(s:Int)+(t:Int)) (by omega) (by omega),dT0 (by omega),azc,azi (by omega) (by omega),show(s:Int)+(t:Int)-9=((s+t-9:Nat):Int) by omega,mzk (by omega),aza];have hp:=gz4 (show s+t-9<=19 by omega);have e1:cz0 ({hi:=(M.natAbs:Int)*N.natAbs/18446744073709551616,lo:=(M.natAbs:Int)*N.natAbs%18446744073709551616,minus:=!decide ((W M.natAbs (decide (M<0))).minus=(W N.natAbs (decide (N<0))).minus)},(10:Int)^(s+t-9)) =
   some (W (rdiv ((M.natAbs:Int)*N.natAbs) (10^(s+t-9))) (sgnP M N)):=(ozR p0 (by omega) (by omega) (by omega)).1
  have hw:=(ozR (v:=(M.natAbs:Int)*N.natAbs) (n:=10^(s+t-9)) (m:=true) p0 (by omega) (by omega) (by omega)).2;simp only at e1 ⊢;rw[e1,aza,show(9:Int)=((9:Nat):Int) from rfl,ozX hw (by omega),aza];have e2:rdiv ((M.natAbs:Int)*N.natAbs) (10^(s+t-9))=(rdN (M.natAbs*N.natAbs) (10^(s+t-9)):Int):=by
   rw[Jzz,gz5,Int.natCast_mul]
  rw[e2]
theorem refDiv_is (hN0:N≠0):bz6 (⟨M,(s:Int)⟩,⟨N,(t:Int)⟩)=some (decV (sw (rdN (M.natAbs*10^(9-s+t)) N.natAbs) (sgnP M N)) 9):=by
 obtain⟨h1,h2⟩:=x_len hM hN hs ht;unfold bz6;simp only;rw[dF0 hN0,azb,uzh hM hN hs ht,aza];simp only;have hc:0<10^(max s t-t):=Nat.pow_pos (by omega);have hY:0<N.natAbs*10^(max s t-t):=Nat.mul_pos (by omega) hc;have l3:=sz2 9 h1;have eX:M.natAbs*10^(max s t-s)*10^9=M.natAbs*10^(9-s+t)*10^(max s t-t):=by
  rw[Nat.mul_assoc,Nat.mul_assoc,<-Nat.pow_add,<-Nat.pow_add];congr 2;omega
 have eR:=rdN_scale (v:=M.natAbs*10^(9-s+t)) (n:=N.natAbs) hc;rw[<-eX]at eR;rw[show(9:Int)=((9:Nat):Int) from rfl,szS (by omega) (by omega),aza];simp only;rw[overD_is hY (by omega) (by omega),aza];simp only;rw[<-eR];generalize M.natAbs*10^(max s t-s)*10^9=X at *;generalize N.natAbs*10^(max s t-t)=Y at *;have l4:=rdN_len (n:=Y) l3;have l5:=ezK (Nat.div_le_self X Y);have d1:([1]:List Int)=digs 1:=by rw[czt (by omega)];simp[bzk]
 have fin:∀q:Nat,q=rdN X Y->(obnd (bzr {Minus:=!decide (decide (M<0)=decide (N<0)),D:=digs q}) fun y=>obnd (bzi (y,((9:Nat):Int))) fun y=>some y)=some (decV (sw (rdN X Y) (sgnP M N)) 9):=fun q hq=>by
  subst hq;rw[izy (czF _) (by omega),aza,cz9,hzh (by omega) (by omega),aza,tz3];rfl
 by_cases hh:Y<=2*(X%Y)
 .rw[dT0 hh,azc,d1,xzB (by omega) (by have:=bzs 1 1 (by omega);omega),aza];exact fin _ (by unfold rdN;rw[if_pos hh])
 .rw[dF0 hh,azb];exact fin _ (by unfold rdN;rw[if_neg hh])
theorem Mzq (hN0:N≠0):ezJ (⟨M,(s:Int)⟩,⟨N,(t:Int)⟩)=some (decV (sw (rdN (M.natAbs*10^(9-s+t)) N.natAbs) (sgnP M N)) 9):=by
 have hA:=hM;have hB:=hN;have hV:=V_le (d:=⟨M,(s:Int)⟩) hM;unfold I64 at hA hB;unfold ezJ;simp only;have lo:(W N.natAbs (decide (N<0))).lo=N.natAbs:=by
  show(N.natAbs:Int)%18446744073709551616=N.natAbs
  omega
 have eV:((V ⟨M,(s:Int)⟩).natAbs:Int)*10^t=((M.natAbs*10^(9-s+t):Nat):Int):=by
  show(((M*10^(9-(s:Int).toNat)).natAbs:Nat):Int)*10^t=_
  rw[Int.natAbs_mul,Int.natAbs_pow,Int.toNat_natCast,Int.natCast_mul,Int.natCast_mul,gz5,Int.pow_add,Int.mul_assoc];rfl
 have hb:((M.natAbs*10^(9-s+t):Nat):Int)<=9223372036854775808*1000000000000000000:=by
  rw[Int.natCast_mul,gz5];have h2:(10:Int)^(9-s+t)<=10^18:=by
   have:=Nat.pow_le_pow_right (n:=10) (by omega) (show 9-s+t<=18 by omega);have h3:=Int.ofNat_le.2 this;rw[gz5,gz5]at h3;exact h3
  exact kzk (by omega) (Int.le_of_lt (Int.pow_pos (by omega))) (by omega) h2
 rw[dF0 hN0,azb,qzy hN,aza,kzE (d:=⟨M,(s:Int)⟩) hM (by simp only;omega) (by simp only;omega),aza,mzk (by omega),aza,
  CzA (inV (d:=⟨M,(s:Int)⟩) hM) (by have:=gz4 (show t<=19 by omega);omega) (by have:=gz4 (show t<=19 by omega);omega) (by rw[eV];exact⟨by omega,by omega⟩),aza,lo,eV]
 have e1:cz0 ({hi:=(W ((M.natAbs*10^(9-s+t):Nat):Int) (decide (V ⟨M,(s:Int)⟩<0))).hi,lo:=(W ((M.natAbs*10^(9-s+t):Nat):Int) (decide (V ⟨M,(s:Int)⟩<0))).lo,minus:=!decide ((W ((M.natAbs*10^(9-s+t):Nat):Int) (decide (V ⟨M,(s:Int)⟩<0))).minus=(W N.natAbs (decide (N<0))).minus)},(N.natAbs:Int)) =
  some (W (rdiv ((M.natAbs*10^(9-s+t):Nat):Int) N.natAbs) (!decide (decide (V ⟨M,(s:Int)⟩<0)=decide (N<0)))):=(ozR (by omega) (by omega) (by omega) (by omega)).1
 have hw:=(ozR (v:=((M.natAbs*10^(9-s+t):Nat):Int)) (n:=N.natAbs) (m:=true) (by omega) (by omega) (by omega) (by omega)).2;rw[e1,aza,show(9:Int)=((9:Nat):Int) from rfl,ozX hw (by omega),aza,<-Jzz,V_neg];rfl
end
theorem okInt (n:Int):okD ⟨n,0⟩:=⟨by simp,by simp,fun h=>by simp at h⟩
end Go.Proofs.YtmkmofdnmllioaaGreatDoor
/- X1 -/
namespace Go.Proofs.YtmkmofdnmllioaaGreatDoor
open Go Go.Ev
open Go.IntKind (i64 u64 u8 i32 u32 i16 u16)
def chr (d:Int):UInt8:=UInt8.ofNat (48+d.toNat)
def azS (D:List Int):List UInt8:=(D.map chr).reverse
theorem tzq:∀(n:Nat),n≠0->Lib.decDigits n=azS (digs n):=by
 intro n;induction n using Nat.strongRecOn with
 | _ n ih =>
  intro h;rw[Lib.decDigits,czt h];unfold azS;simp only[List.map_cons,List.reverse_cons];by_cases h10:n<10
  .rw[dif_pos h10,Nat.div_eq_of_lt h10,bzk,Nat.mod_eq_of_lt h10];simp[chr]
  .rw[dif_neg h10,ih (n/10) (by omega) (by omega)];unfold azS;have e:((n:Int)%10).toNat=n%10:=by omega
   simp[chr,e]
def dza (n s:Nat):List Int:=digs n++List.replicate (s+1-(digs n).length) 0
theorem uzU (n s:Nat):(dza n s).length=max (s+1) (digs n).length:=by
 unfold dza;simp;omega
theorem DzS (n s:Nat):azW (dza n s):=hzS.2 ⟨czF n,fun d hd=>by rw[List.eq_of_mem_replicate hd];omega⟩
theorem Azw:∀c,Lib.repeatL [48] c=List.replicate c 48
 | 0=>rfl
 | c+1=>by rw[Lib.repeatL,Azw c];rfl
theorem Jzu (n s:Nat):List.replicate (s+1-(Lib.decDigits n).length) (48:UInt8)++Lib.decDigits n=azS (dza n s):=by
 unfold dza azS;by_cases h:n=0
 .subst h;rw[bzk,Lib.decDigits_one (by omega)];simp only[List.length_singleton,List.length_nil,List.nil_append,List.map_replicate,List.reverse_replicate];have e:chr 0=48:=rfl;rw[e,show(UInt8.ofNat (48+0))=(48:UInt8) from rfl,show s+1-1=s by omega,show s+1-0=s+1 by omega,List.replicate_succ']
 .rw[tzq n h];unfold azS;simp only[List.map_append,List.map_replicate,List.reverse_append,List.reverse_replicate,List.length_reverse,List.length_map];rfl
def mz3 (D:List Int)(s:Nat):List UInt8:=if s=0 then azS D else azS (D.drop s)++46::azS (D.take s)
def fzF (M:Int)(s:Nat):List UInt8:=(if M<0 then [45]else [])++mz3 (dza M.natAbs s) s
theorem catS {x y:List UInt8}(h:x.length+y.length<=10000):cat x y=some (x++y):=by
 have:fits (x.length+y.length)=true:=by unfold fits;exact Nat.ble_eq_true_of_le (by unfold az6;omega)
 unfold cat
 rw[this];rfl
theorem subU {D:List UInt8}{i k:Nat}(h:i<=k)(h2:k<=D.length):sub D (i:Int) (k:Int)=some ((D.take k).drop i):=by
 have hd:(decide ((0:Int)<=(i:Int))&&decide ((i:Int)<=(k:Int))&&decide ((k:Int)<=(D.length:Int)))=true:=by
  simp;omega
 simp only[sub,hd,cond_true,Int.toNat_natCast]
 try rfl
theorem qzl {M:Int}{s:Nat}(hM:I64 M)(hs:s<=9):rz8 ⟨M,(s:Int)⟩=some (fzF M s):=by
 have l1:=qzw hM;have hp:=uzU M.natAbs s;have hlen:(Lib.decDigits M.natAbs).length<=20:=by
  by_cases h:M.natAbs=0
  .rw[h,Lib.decDigits_one (by omega)];simp
  .rw[tzq _ h];unfold azS;simp;omega
 unfold rz8;rw[qzy hM,aza];have lo:(W M.natAbs (decide (M<0))).lo=M.natAbs:=by
  show(M.natAbs:Int)%18446744073709551616=M.natAbs
  unfold I64 at hM;omega
 have mi:(W (M.natAbs:Int) (decide (M<0))).minus=decide (M<0):=rfl;have fu:fz8 ((M.natAbs:Int),10)=some (Lib.decDigits M.natAbs):=by
  unfold fz8 dzL;simp
 rw[lo,fu,aza,mi];unfold fzF mz3;have hw:=Jzu M.natAbs s;by_cases h0:s=0
 .subst h0;rw[dF0 (by simp),azb,if_pos rfl,<-hw];have e:0+1-(Lib.decDigits M.natAbs).length=0:=by
   have:0<(Lib.decDigits M.natAbs).length:=by
    rw[Lib.decDigits_length];unfold Lib.nDigits;split<;>omega
   omega
  rw[e];by_cases hm:M<0
  .rw[dT0 hm,azc,catS (by simp;omega),aza,if_pos hm];rfl
  .rw[dF0 hm,azb,if_neg hm];rfl
 .have hc:(bif decide (i64.wrap (i64.wrap ((s:Int)+1)-((Lib.decDigits M.natAbs).length:Int))<0)then(0:Int)else i64.wrap (i64.wrap ((s:Int)+1)-((Lib.decDigits M.natAbs).length:Int)))=((s+1-(Lib.decDigits M.natAbs).length:Nat):Int):=by
   rw[azi (n:=(s:Int)+1) (by omega) (by omega),azi (by omega) (by omega)];by_cases h:(s:Int)+1-((Lib.decDigits M.natAbs).length:Int)<0
   .rw[dT0 h,cond_true];omega
   .rw[dF0 h,cond_false];omega
  rw[dT0 (by simp;omega),azc];simp only;rw[hc];have hr:czy ([48],((s+1-(Lib.decDigits M.natAbs).length:Nat):Int))=some (List.replicate (s+1-(Lib.decDigits M.natAbs).length) 48):=by
   unfold czy;simp only[Int.toNat_natCast];rw[dT0 (by omega),dT0 (by simp;omega),Azw];rfl
  have hwl:(azS (dza M.natAbs s)).length=max (s+1) (digs M.natAbs).length:=by unfold azS;simp[hp]
  rw[hr,aza,catS (by simp;omega),aza,hw,if_neg h0,hwl,azi (by omega) (by omega),show((max (s+1) (digs M.natAbs).length:Nat):Int)-(s:Int)=((max (s+1) (digs M.natAbs).length-s:Nat):Int) by omega];have s1:=subU (D:=azS (dza M.natAbs s)) (i:=0) (k:=max (s+1) (digs M.natAbs).length-s) (by omega) (by omega);have s2:=subU (D:=azS (dza M.natAbs s)) (i:=max (s+1) (digs M.natAbs).length-s) (k:=max (s+1) (digs M.natAbs).length) (by omega) (by omega);rw[List.take_of_length_le (by omega)]at s2;have e1:(azS (dza M.natAbs s)).take (max (s+1) (digs M.natAbs).length-s)=azS ((dza M.natAbs s).drop s):=by
   unfold azS;rw[List.take_reverse,List.length_map,hp,List.map_drop];congr 2;omega
  have e2:(azS (dza M.natAbs s)).drop (max (s+1) (digs M.natAbs).length-s)=azS ((dza M.natAbs s).take s):=by
   unfold azS;rw[List.drop_reverse,List.length_map,hp,List.map_take];congr 2;omega
  rw[List.drop_zero,e1]at s1;rw[e2]at s2;have z0:((0:Nat):Int)=0:=rfl;rw[z0]at s1;have la:(azS ((dza M.natAbs s).drop s)).length<=30:=by unfold azS;simp[hp];omega
  have lb:(azS ((dza M.natAbs s).take s)).length<=30:=by unfold azS;simp;omega
  rw[s1,aza,catS (by simp;omega),aza,s2,aza,catS (by simp;omega),aza];by_cases hm:M<0
  .rw[dT0 hm,azc,catS (by simp;omega),aza,if_pos hm];simp
  .rw[dF0 hm,azb,if_neg hm];simp
theorem qzI (D:List Int)(d:Int):azS (D++[d])=chr d::azS D:=by
 unfold azS;simp
theorem pad_is {n s:Nat}{m:Bool}{dec:Dec}(hs:dec.S=(s:Int))(h9:s<=9)(hl:(digs n).length<=20):mzz (digs n,dec,⟨m,digs n⟩)=some (dza n s,⟨m,dza n s⟩):=by
 obtain⟨y,h1,h2⟩:=czf (F:=fzV) (fun x=>100-x.1.length) (fun x=>x.2.1=dec/\x.2.2.Minus=m/\∃k,x.1=digs n++List.replicate k 0/\(digs n).length+k<=max (s+1) (digs n).length) (fun y=>y=(dza n s,⟨m,dza n s⟩)) (by
  rintro back ⟨D,d,⟨m',E⟩⟩ ⟨e1,e2,k,e3,hk⟩ hb;simp only at e1 e2 e3;subst e1;subst e2;subst e3;unfold fzV;simp only at hb ⊢;rw[hs];by_cases h:(digs n).length+k<=s
  .rw[dT0 (by simp;omega),azc,appS (by simp;omega),aza];refine hb _ ⟨rfl,rfl,k+1,by rw[List.replicate_succ',List.append_assoc],by omega⟩ (by simp;omega)
  .rw[dF0 (by simp;omega),azb];refine⟨_,rfl,?_⟩;have:k=s+1-(digs n).length:=by omega
   subst this;rfl) (digs n,dec,⟨m,digs n⟩) ⟨rfl,rfl,0,by simp,by omega⟩ (by simp only;omega)
 subst h2;exact h1
def pre (D:List Int)(s i:Nat):List UInt8:=if s=0\/i<=s then azS (D.take i)else azS ((D.take i).drop s)++46::azS (D.take s)
theorem chr_is {y:Int}(h:0<=y/\y<=9):UInt8.ofNat (u8.wrap (i64.wrap (48+y))).toNat=chr y:=by
 rw[azi (by omega) (by omega)];have:u8.wrap (48+y)=48+y:=by
  unfold IntKind.wrap;simp[IntKind.bits,IntKind.signed];omega
 rw[this];unfold chr;congr 1;omega
theorem take_snoc {D:List Int}{i:Nat}(h:i<D.length):D.take (i+1)=D.take i++[D[i]]:=by
 rw[List.take_add_one,List.getElem?_eq_getElem h];rfl
theorem pre_len (D:List Int)(s i:Nat):(pre D s i).length<=i+i+1+s:=by
 unfold pre;split
 .unfold azS;simp;omega
 .unfold azS;simp;omega
theorem Mzd {D:List Int}{s:Nat}{m:Bool}{dec:Dec}(hS:dec.S=(s:Int))(h9:s<=9)(hD:azW D)(hl:D.length<=30)(hl2:s<D.length):mzA (dec,⟨m,D⟩,[],0)=some (mz3 D s):=by
 obtain⟨y,h1,h2⟩:=czf (F:=fzW) (fun x=>100-x.2.2.2.toNat) (fun x=>∃i:Nat,x=(dec,⟨m,D⟩,pre D s i,(i:Int))/\i<=D.length) (fun y=>y=mz3 D s) (by
  rintro back x ⟨i,rfl,hi⟩ hb;unfold fzW;simp only at hb ⊢;have hpl:=pre_len D s i;rcases Nat.lt_or_ge i D.length with hlt|hge
  .have hd:=hD D[i] (List.getElem_mem hlt);have ht:=take_snoc hlt;rw[dT0 (by omega),azc,idxI (v:=D[i]) (List.getElem?_eq_getElem hlt),hS];simp only[aza,chr_is hd];have fin:∀z,z=pre D s (i+1)->∃y,back (dec,⟨m,D⟩,z,i64.wrap ((i:Int)+1))=some y/\y=mz3 D s:=fun z hz=>by
    subst hz;rw[azi (by omega) (by omega)];exact hb _ ⟨i+1,rfl,by omega⟩ (by simp only;omega)
   by_cases he:i=s
   .rw[dT0 (by omega),azc];by_cases h0:0<i
    .rw[dT0 (by omega),azc,catS (by simp;omega),aza,catS (by simp;omega),aza];refine fin _ ?_;unfold pre;rw[if_pos (by omega),if_neg (by omega),ht,List.drop_append_of_le_length (by simp;omega),List.drop_eq_nil_of_le (by simp;omega),qzI];subst he;simp[azS]
    .rw[dF0 (by omega),azb,catS (by simp;omega),aza];refine fin _ ?_;unfold pre;rw[if_pos (by omega),if_pos (by omega),ht,qzI];rfl
   .rw[dF0 (by omega),azb,catS (by simp;omega),aza];refine fin _ ?_;unfold pre;by_cases hc:s=0\/i<=s
    .rw[if_pos hc,if_pos (by omega),ht,qzI];rfl
    .rw[if_neg hc,if_neg (by omega),ht,List.drop_append_of_le_length (by simp;omega),qzI];rfl
  .rw[dF0 (by omega),azb];refine⟨_,rfl,?_⟩;unfold pre mz3;have:i=D.length:=by omega
   subst this;rw[List.take_of_length_le (Nat.le_refl _)];by_cases h0:s=0
   .rw[if_pos (.inl h0),if_pos h0]
   .rw[if_neg (by omega),if_neg h0]) (dec,⟨m,D⟩,[],0) ⟨0,by simp[pre,azS],by omega⟩ (by simp only;omega)
 subst h2;exact h1
theorem MzD {M:Int}{s:Nat}(hM:I64 M)(hs:s<=9):lzX ⟨M,(s:Int)⟩=some (fzF M s):=by
 have l1:=qzw hM;have hp:=uzU M.natAbs s;unfold lzX;rw[big_is hM,aza];simp only;rw[pad_is (s:=s) rfl hs (by omega),aza];simp only;rw[Mzd (s:=s) rfl hs (DzS _ _) (by omega) (by omega),aza];unfold fzF;have hdl:(mz3 (dza M.natAbs s) s).length<=100:=by
  unfold mz3 azS;split<;>simp<;>omega
 by_cases hm:M<0
 .rw[dT0 hm,azc,catS (by simp;omega),aza,if_pos hm]
 .rw[dF0 hm,azb,if_neg hm];rfl
end Go.Proofs.YtmkmofdnmllioaaGreatDoor
/- XO -/
namespace Go.Proofs.YtmkmofdnmllioaaGreatDoor
open Go Go.Ev Go.Lib
open Go.IntKind (i64 u64 u8 i32 u32 i16 u16)
def rl:Nat->List UInt8->List Int
 | 0,_=>[]
 | n+1,l=>if l=[]then []else((decodeL l).1:Int)::rl n (l.drop (decodeL l).2)
theorem EzH:∀n,rl n []=[]
 | 0=>rfl
 | n+1=>by simp[rl]
theorem rl_fuel:∀(n m:Nat) (l:List UInt8),l.length<=n->l.length<=m->rl n l=rl m l
 | 0,m,l,hn,_=>by
  have:l=[]:=List.eq_nil_of_length_eq_zero (by omega);subst this;rw[EzH,EzH]
 | n+1,0,l,_,hm=>by
  have:l=[]:=List.eq_nil_of_length_eq_zero (by omega);subst this;rw[EzH,EzH]
 | n+1,m+1,l,hn,hm=>by
  unfold rl;by_cases hne:l=[]
  .simp[hne]
  .have hw:=decodeL_width l;have hl:0<l.length:=List.length_pos_iff.2 hne;rw[if_neg hne,if_neg hne,rl_fuel n m (l.drop (decodeL l).2) (by rw[List.length_drop];omega) (by rw[List.length_drop];omega)]
def rs (l:List UInt8):List Int:=rl l.length l
theorem pzz:rs []=[]:=rfl
theorem fzx {l:List UInt8}(h:l≠[]):rs l=((decodeL l).1:Int)::rs (l.drop (decodeL l).2):=by
 have hl:0<l.length:=List.length_pos_iff.2 h;have hw:=decodeL_width l;obtain⟨n,hn⟩:∃n,l.length=n+1:=⟨l.length-1,by omega⟩;unfold rs;rw[hn]
 show(if l=[]then []else _)=_
 rw[if_neg h,rl_fuel n (l.drop (decodeL l).2).length _ (by rw[List.length_drop];omega) (Nat.le_refl _)]
theorem pzA (s:List UInt8)(i:Nat):rune s i=decodeL (s.drop i):=(decodeL_drop ⟨s.toArray⟩ i).symm
theorem GzY (s:List UInt8):∀(n i:Nat),ezz s n i=rl n (s.drop i)
 | 0,_=>rfl
 | n+1,i=>by
  unfold ezz rl;by_cases h:i<s.length
  .have hb:Nat.blt i s.length=true:=Nat.ble_eq_true_of_le h;rw[hb,cond_true,if_neg (fun h0=>by have:=congrArg List.length h0;simp at this;omega),pzA,GzY s n,List.drop_drop]
  .have hb:Nat.blt i s.length=false:=by
    cases hb:Nat.blt i s.length with
    | false=>rfl
    | true=>exact absurd (Nat.le_of_ble_eq_true hb) h
   rw[hb,cond_false,if_pos (List.drop_eq_nil_of_le (by omega))]
theorem Jz1 {s:List UInt8}(h:s.length<=70368744177664):qzE s=some (rs s):=by
 unfold qzE;rw[Nat.ble_eq_true_of_le h,cond_true,GzY,List.drop_zero];rfl
theorem pzy:∀(l:List UInt8),(rs l).length<=l.length:=fun l=>by
 have:∀(n:Nat) (l:List UInt8),(rl n l).length<=n:=by
  intro n;induction n with
  | zero=>intro l;simp[rl]
  | succ n ih =>
   intro l;unfold rl;split
   .simp
   .have:=ih (l.drop (decodeL l).2);simp;omega
 exact this l.length l
def cmpN (x y:Int):Int:=if x<y then -1 else if y<x then 1 else 0
def cmpL:List Int->List Int->Int
 | [],[]=>0
 | [],_::_=>-1
 | _::_,[]=>1
 | r::az,b::bs=>if r=b then cmpL az bs else cmpN r b
structure Ord (α:Type) (c:α->α->Int):Prop where
 vals:∀a b,c a b = -1\/c a b=0\/c a b=1
 swap:∀a b,c b a = - c a b
 same:∀a b,c a b=0↔a=b
 less:∀a b d,c a b = -1->c b d = -1->c a d = -1
def walk:List Int->List Int->Int->Int⊕Int
 | [],_,i=>.inl i
 | _::_,[],_=>.inr 1
 | r::az,b::bs,i=>if r=b then walk az bs (i+1)else .inr (cmpN r b)
theorem walk_is:∀(az bs:List Int) (i:Int),(match walk az bs i with | .inl k=>cmpN k (i+bs.length) | .inr r=>r)=cmpL az bs
 | [],[],i=>by simp[walk,cmpL,cmpN]
 | [],b::bs,i=>by
  unfold walk cmpL cmpN;simp only[List.length_cons];rw[if_pos (by omega)]
 | r::az,[],i=>by simp[walk,cmpL]
 | r::az,b::bs,i=>by
  unfold walk cmpL;by_cases h:r=b
  .rw[if_pos h,if_pos h];have:=walk_is az bs (i+1);rw[<-this];have e:i+1+(bs.length:Int)=i+((b::bs).length:Int):=by simp only[List.length_cons];omega
   rw[e]
  .rw[if_neg h,if_neg h]
end Go.Proofs.YtmkmofdnmllioaaGreatDoor
/- X3 -/
namespace Go.Proofs.YtmkmofdnmllioaaGreatDoor
open Go Go.Ev
open Go.IntKind (i64 u64 u8 i32 u32 i16 u16)
theorem i32_in {n:Int}(h0:-2147483648<=n)(h1:n<=2147483647):i32.wrap n=n:=by
 rw[IntKind.wrap_i32];omega
def isD (c:UInt8):Bool:=decide (48<=c.toNat)&&decide (c.toNat<=57)
def valB:List UInt8->Nat->Nat
 | [],a=>a
 | c::l,a=>valB l (a*10+(c.toNat-48))
theorem valB_ge:∀(l:List UInt8) (a:Nat),a<=valB l a
 | [],a=>Nat.le_refl _
 | c::l,a=>Nat.le_trans (by omega) (valB_ge l _)
theorem tzg:∀(l m:List UInt8) (a:Nat),valB (l++m) a=valB m (valB l a)
 | [],_,_=>rfl
 | _::l,m,_=>tzg l m _
def dv (c:UInt8):Int:=((c.toNat-48:Nat):Int)
def rd9 (l:List UInt8):List Int:=(l.map dv).reverse
theorem Jzy (l:List UInt8)(c:UInt8):rd9 (l++[c])=dv c::rd9 l:=by unfold rd9;simp
theorem vd_rd9:∀(l:List UInt8) (a:Nat),valB l a=vd (rd9 l)+10^l.length*a
 | [],a=>by simp[valB,rd9,vd]
 | c::l,a=>by
  rw[valB,vd_rd9 l];unfold rd9;simp only[List.map_cons,List.reverse_cons,List.length_cons];rw[pzE];simp only[vd,List.length_reverse,List.length_map,dv,Int.toNat_natCast,Nat.pow_succ,Nat.mul_zero,Nat.add_zero];rw[Nat.mul_add,Nat.mul_assoc,Nat.mul_comm a 10];omega
theorem isDig_rd9 {l:List UInt8}(h:l.all isD=true):azW (rd9 l):=fun d hd=>by
 unfold rd9 at hd;simp only[List.mem_reverse,List.mem_map]at hd;obtain⟨c,hc,rfl⟩:=hd;have:=List.all_eq_true.1 h c hc;simp only[isD,Bool.and_eq_true,decide_eq_true_eq]at this;unfold dv;omega
theorem Kzz {l:List UInt8}{c:UInt8}{t:List UInt8}(hl:l=c::t)(h:128<=c.toNat):128<=(Lib.decodeL l).1:=by
 subst hl;rw[Lib.decodeL_N];simp only[List.getD_cons_zero];generalize (c::t).length=n;generalize ((c::t).getD 1 0).toNat=b1;generalize ((c::t).getD 2 0).toNat=b2;generalize ((c::t).getD 3 0).toNat=b3;unfold Lib.decodeN;rw[if_neg (by omega)]
 repeat' split
 all_goals (simp only;omega)
def cutW:List UInt8->List UInt8×List UInt8×Bool
 | []=>([],[],false)
 | c::l=>if c=46 then([],l,true)else(c::(cutW l).1,(cutW l).2.1,(cutW l).2.2)
theorem yzt:∀l:List UInt8,l=(cutW l).1++(if(cutW l).2.2 then 46::(cutW l).2.1 else [])/\((cutW l).2.2=false->(cutW l).2.1=[])/\46 ∉ (cutW l).1
 | []=>by simp[cutW]
 | c::l=>by
  obtain⟨h1,h2,h3⟩:=yzt l;unfold cutW;by_cases h:c=46
  .subst h;simp
  .rw[if_neg h];refine⟨?_,h2,?_⟩
   .simp only[List.cons_append];congr 1
   .simp only[List.mem_cons,not_or];exact⟨fun e=>h e.symm,h3⟩
theorem CzR:∀l:List UInt8,Lib.indexByte l 46=if(cutW l).2.2 then((cutW l).1.length:Int)else -1
 | []=>rfl
 | c::l=>by
  have ih:=CzR l;unfold Lib.indexByte cutW;by_cases h:c=46
  .subst h;simp
  .have hb:(c == 46)=false:=by simp[h]
   rw[hb,if_neg h,ih];simp only[Bool.false_eq_true,if_false];by_cases h2:(cutW l).2.2=true
   .simp only[h2,if_true];have:((((cutW l).1.length:Nat):Int) == -1)=false:=by simp
    rw[this];simp
   .simp only[h2];simp
theorem cut_is {l:List UInt8}(hl:l.length<=10000):nzT (l,[46])=some (cutW l):=by
 obtain⟨h1,h2,h3⟩:=yzt l;have hi:=CzR l;have hx:fz7 (l,[46])=some (Lib.indexByte l 46):=by
  unfold fz7 gze fzE;simp only[List.length_singleton];rw[dF0 (by omega),azb];by_cases he:[46]=l
  .rw[dT0 he,azc,<-he];rfl
  .rw[dF0 he,azb,dT0 (by rfl),azc,show idx ([46]:List UInt8) 0=some 46 from rfl,aza];rfl
 unfold nzT lzl;rw[hx,aza,hi];generalize hw:(cutW l).1=w at *;generalize hb:(cutW l).2.1=b at *;generalize hp:(cutW l).2.2=p at *;have e:cutW l=(w,b,p):=by rw[<-hw,<-hb,<-hp]
 rw[e];cases p with
 | true =>
  simp only[if_true]at h1 ⊢;have hlen:l.length=w.length+1+b.length:=by rw[h1];simp;omega
  have s1:=subU (D:=l) (i:=0) (k:=w.length) (by omega) (by omega);have s2:=subU (D:=l) (i:=w.length+1) (k:=l.length) (by omega) (by omega);rw[List.take_of_length_le (Nat.le_refl _)]at s2;have z0:((0:Nat):Int)=0:=rfl;rw[List.drop_zero,z0]at s1;rw[dT0 (by omega),azc,s1,aza,List.length_singleton,azi (by omega) (by omega),show(w.length:Int)+((1:Nat):Int)=((w.length+1:Nat):Int) by omega,s2,aza,aza];have t1:l.take w.length=w:=by rw[h1];simp
  have t2:l.drop (w.length+1)=b:=by rw[h1];simp
  rw[t1,t2]
 | false =>
  simp only[Bool.false_eq_true,if_false,List.append_nil]at h1 ⊢;rw[dF0 (by omega),azb,aza,h2 rfl,<-h1]
theorem Mzo {m w0:Bool}{z:List UInt8}(hl:z.length<=10000):∃wr lg lo pos,bz3 (⟨0,0,m⟩,w0,false,z,0)=some ((wr,lg),⟨0,lo,m⟩,z,pos)/\wr=(w0||!z.all isD) /\
 (wr=false->lg=true/\9223372036854775808<valB z 0\/lg=false/\lo=(valB z 0:Int)/\valB z 0<18446744073709551616):=by
 have key:∃y,bz3 (⟨0,0,m⟩,w0,false,z,0)=some y/\(∃wr lg lo pos,y=((wr,lg),⟨0,lo,m⟩,z,pos)/\wr=(w0||!z.all isD) /\
  (wr=false->lg=true/\9223372036854775808<valB z 0\/lg=false/\lo=(valB z 0:Int)/\valB z 0<18446744073709551616)):=by
  refine czf (F:=lzM) (fun x=>z.length-x.2.2.2.2) (fun x=>∃(lo:Int) (wr lg:Bool) (i:Nat),x=(⟨0,lo,m⟩,wr,lg,z,i) /\
   (wr=true/\(w0||!z.all isD)=true\/wr=w0/\i<=z.length/\(z.take i).all isD=true/\(lg=true/\18446744073709551600<valB (z.take i) 0\/lg=false/\lo=(valB (z.take i) 0:Int)/\valB (z.take i) 0<18446744073709551616))) _ ?_ _ ⟨0,w0,false,0,rfl,.inr ⟨rfl,by omega,by simp,.inr ⟨rfl,by simp[valB],by simp[valB]⟩⟩⟩ (by simp only;omega)
  rintro back x ⟨lo,wr,lg,i,rfl,hst⟩ hb;unfold lzM;simp only at hb ⊢;rcases Nat.lt_or_ge i z.length with hlt|hge
  .rw[dT0 hlt,azc];have hr:=pzA z i;have hw:=Lib.decodeL_width (z.drop i);have hdr:z.drop i=z[i]::z.drop (i+1):=List.drop_eq_getElem_cons hlt;have bad:∀lg':Bool,∀lo':Int,(w0||!z.all isD)=true->∃y,back (⟨0,lo',m⟩,true,lg',z,i+(rune z i).2)=some y/\_:=fun lg' lo' h=>hb _ ⟨lo',true,lg',_,rfl,.inl ⟨rfl,h⟩⟩ (by simp only;rw[hr];omega)
   have good:∀lg':Bool,∀lo':Int,wr=true->∃y,back (⟨0,lo',m⟩,wr,lg',z,i+(rune z i).2)=some y/\_:=fun lg' lo' h=>hb _ ⟨lo',wr,lg',_,rfl,.inl ⟨h,by rcases hst with⟨_,h2⟩|⟨h1,_⟩;exact h2;rw[<-h1,h];rfl⟩⟩ (by simp only;rw[hr];omega)
   have nd:isD z[i]=false->(w0||!z.all isD)=true:=fun h=>by
    have:z.all isD=false:=by
     rw[List.all_eq_false];exact⟨z[i],List.getElem_mem hlt,by simp[h]⟩
    rw[this];simp
   by_cases h128:128<=z[i].toNat
   .have hh:=Kzz hdr h128;rw[<-hr]at hh;rw[dF0 (by omega),azb,dT0 (by omega),azc];exact bad _ _ (nd (by unfold isD;simp;omega))
   .have hd:=Lib.decodeL_ascii z[i] (z.drop (i+1)) (by omega);rw[<-hdr,<-hr]at hd;rw[hd]at bad good ⊢;simp only at bad good ⊢;by_cases c1:((z[i].toNat:Nat):Int)<48
    .rw[dT0 c1,azc];exact bad _ _ (nd (by unfold isD;simp;omega))
    .rw[dF0 c1,azb];by_cases c2:(57:Int)<((z[i].toNat:Nat):Int)
     .rw[dT0 c2,azc];exact bad _ _ (nd (by unfold isD;simp;omega))
     .rw[dF0 c2,azb];have wi32:i32.wrap (((z[i].toNat:Nat):Int)-48)=((z[i].toNat-48:Nat):Int):=by
       rw[i32_in (by omega) (by omega)];omega
      rcases hst with⟨hwr,hbad⟩|⟨hwr,hi,hall,hval⟩
      .subst hwr;cases lg
       .rw[azb];by_cases h3:1844674407370955160<lo
        .rw[dT0 h3,Bool.not_true,azb];exact good _ _ rfl
        .rw[dF0 h3,Bool.not_false,azc];exact good _ _ rfl
       .rw[azc];exact good _ _ rfl
      .have ht:z.take (i+1)=z.take i++[z[i]]:=by rw[List.take_add_one,List.getElem?_eq_getElem hlt];rfl
       have hD:isD z[i]=true:=by unfold isD;simp;omega
       have hall':(z.take (i+1)).all isD=true:=by rw[ht,List.all_append,hall,Bool.true_and,List.all_cons,hD];rfl
       have hv:valB (z.take (i+1)) 0=valB (z.take i) 0*10+(z[i].toNat-48):=by rw[ht,tzg];rfl
       rcases hval with⟨rfl,hbig⟩|⟨rfl,rfl,hsm⟩
       .rw[azc];exact hb _ ⟨lo,wr,true,i+1,rfl,.inr ⟨hwr,by omega,hall',.inl ⟨rfl,by omega⟩⟩⟩ (by simp only;omega)
       .rw[azb];by_cases h3:(1844674407370955160:Int)<(valB (z.take i) 0:Int)
        .rw[dT0 h3,Bool.not_true,azb];exact hb _ ⟨_,wr,true,i+1,rfl,.inr ⟨hwr,by omega,hall',.inl ⟨rfl,by omega⟩⟩⟩ (by simp only;omega)
        .rw[dF0 h3,Bool.not_false,azc,wi32,bze (n:=(valB (z.take i) 0:Int)*10) (by omega) (by omega),bze (n:=((z[i].toNat-48:Nat):Int)) (by omega) (by omega),bze (by omega) (by omega)];exact hb _ ⟨_,wr,false,i+1,rfl,.inr ⟨hwr,by omega,hall',.inr ⟨rfl,by omega,by omega⟩⟩⟩ (by simp only;omega)
  .rw[dF0 (by omega),azb];refine⟨_,rfl,wr,lg,lo,i,rfl,?_⟩;rcases hst with⟨rfl,h2⟩|⟨h1,h2,h3,h4⟩
   .exact⟨h2.symm,fun h=>by cases h⟩
   .have:i=z.length:=by omega
    subst this;rw[List.take_of_length_le (Nat.le_refl _)]at h3 h4;refine⟨by rw[h1,h3];simp,fun _=>?_⟩;rcases h4 with⟨h5,h6⟩|h5
    .exact .inl ⟨h5,by omega⟩
    .exact .inr h5
 obtain⟨y,h1,wr,lg,lo,pos,rfl,h2,h3⟩:=key;exact⟨wr,lg,lo,pos,h1,h2,h3⟩
def lzC (m:Bool)(w b:List UInt8):Dec×Int:=if(if m then 9223372036854775808<valB (w++b) 0 else 9223372036854775808<=valB (w++b) 0)then(⟨0,0⟩,8)else if 9<b.length\/b.getLast?=some 48 then(⟨0,0⟩,1)else(⟨if m then -(valB (w++b) 0:Int)else(valB (w++b) 0:Int),(b.length:Int)⟩,0)
def headW (x w b:List UInt8)(p:Bool):Bool:=decide (w=[])||(p&&decide (b=[]))||(decide (1<w.length)&&decide (w.head?=some 48))||decide (x=[45,48])
def czS (x:List UInt8):Bool:=decide (x.head?=some 45)
def bz7 (x:List UInt8):List UInt8:=if x.head?=some 45 then x.tail else x
def fzl (x:List UInt8):Dec×Int:=if(headW x (cutW (bz7 x)).1 (cutW (bz7 x)).2.1 (cutW (bz7 x)).2.2||!((cutW (bz7 x)).1++(cutW (bz7 x)).2.1).all isD)=true then(⟨0,0⟩,2)else lzC (czS x) (cutW (bz7 x)).1 (cutW (bz7 x)).2.1
theorem prefix_is {x:List UInt8}(hl:x.length<=10000):gzX (x,[45])=some (bz7 x,czS x):=by
 unfold gzX gzb gzc bz7 czS;cases x with
 | nil=>simp
 | cons c t =>
  have s1:=subU (D:=c::t) (i:=0) (k:=1) (by omega) (by simp);have s2:=subU (D:=c::t) (i:=1) (k:=(c::t).length) (by simp) (by omega);rw[List.take_of_length_le (Nat.le_refl _)]at s2;have z0:((0:Nat):Int)=0:=rfl;have z1:((([45]:List UInt8).length:Nat):Int)=((1:Nat):Int):=rfl;rw[z0]at s1;simp only;rw[z1,dT0 (by simp;omega),azc,s1,aza,aza,s2];simp only[List.take_succ_cons,List.take_zero,List.drop_zero,List.head?_cons,List.drop_succ_cons,List.tail_cons];by_cases h:c=45
  .subst h;simp
  .have:¬([c]=[(45:UInt8)]):=fun e=>h (by simpa using e)
   rw[dF0 this];simp[h]
theorem suffix_is {b:List UInt8}(hl:b.length<=10000):ezB (b,[48])=some (decide (b.getLast?=some 48)):=by
 unfold ezB gzd;have z1:((([48]:List UInt8).length:Nat):Int)=((1:Nat):Int):=rfl;simp only;rw[z1];rcases List.eq_nil_or_concat b with rfl|⟨l,c,rfl⟩
 .simp
 .simp only[List.concat_eq_append]at hl ⊢;have hlen:(l++[c]).length=l.length+1:=by simp
  have s2:=subU (D:=l++[c]) (i:=l.length) (k:=(l++[c]).length) (by simp) (by omega);rw[List.take_of_length_le (Nat.le_refl _),List.drop_left]at s2;rw[dT0 (by omega),azc,azi (by omega) (by omega),show((l++[c]).length:Int)-((1:Nat):Int)=((l.length:Nat):Int) by omega,s2,aza,aza];simp
theorem tailP_is {m w0:Bool}{w b:List UInt8}(hl:w.length+b.length<=10000):(obnd (cat w b) fun z =>
 obnd (bz3 (⟨0,0,m⟩,w0,false,z,0)) fun y_2 =>
  obnd (czm (⟨0,0⟩,m,b,y_2.2.1,y_2.1)) fun y =>
   osum y (fun _=>some ((⟨i64.wrap y_2.2.1.lo,(b.length:Int)⟩:Dec),(0:Int))) fun y=>some (y.2,y.1))=some (if(w0||!(w++b).all isD)=true then(⟨0,0⟩,2)else lzC m w b):=by
 rw[catS hl,aza];obtain⟨wr,lg,lo,pos,h1,h2,h3⟩:=Mzo (m:=m) (w0:=w0) (z:=w++b) (by simp;omega);rw[h1,aza];unfold czm;simp only;rw[<-h2];cases wr with
 | true=>simp[osum]
 | false =>
  rw[azb,if_neg (by simp)];unfold lzC;rcases h3 rfl with⟨rfl,h4⟩|⟨rfl,rfl,h4⟩
  .rw[azc,aza,if_pos (by cases m<;>simp<;>omega)];rfl
  .rw[azb,suffix_is (by omega)];simp only[aza];generalize valB (w++b) 0=N at *;by_cases g1:(9223372036854775808:Int)<(N:Int)
   .rw[dT0 g1,azc,aza,if_pos (by cases m<;>simp<;>omega)];rfl
   .rw[dF0 g1,azb];have fin:(m=true\/N<9223372036854775808)->(obnd (brn (decide (9<(b.length:Int))) (some (Sum.inr ((1:Int),(⟨0,0⟩:Dec)))) (brn (decide (b.getLast?=some 48)) (some (Sum.inr (1,⟨0,0⟩)))
     (brn m (some (Sum.inr (0,⟨i64.wrap (u64.wrap (0-(N:Int))),(b.length:Int)⟩))) (some (Sum.inl ((),(⟨0,0⟩:Dec))))))) fun y=>osum y (fun _=>some ((⟨i64.wrap (N:Int),(b.length:Int)⟩:Dec),(0:Int))) fun y=>some (y.2,y.1)) =
     some (if(if m=true then 9223372036854775808<N else 9223372036854775808<=N)then(⟨0,0⟩,8)else if 9<b.length\/b.getLast?=some 48 then(⟨0,0⟩,1)else(⟨if m=true then -(N:Int)else(N:Int),(b.length:Int)⟩,0)):=fun hm=>by
     rw[if_neg (by cases m<;>simp at hm ⊢<;>omega)];by_cases g3:9<b.length
     .rw[dT0 (by omega),azc,if_pos (.inl g3)];rfl
     .rw[dF0 (by omega),azb];by_cases g4:b.getLast?=some 48
      .rw[dT0 g4,azc,if_pos (.inr g4)];rfl
      .rw[dF0 g4,azb,if_neg (by simp[g3,g4])];cases m with
       | true =>
        rw[azc,aza];have:i64.wrap (u64.wrap (0-(N:Int))) = -(N:Int):=by rw[wu64,wi64];omega
        simp only[osum,this,if_true]
       | false =>
        simp at hm;rw[azb,aza,azi (by omega) (by omega)];simp[osum]
    by_cases g2:(N:Int)=9223372036854775808
    .rw[dT0 g2,azc];cases m with
     | false=>rw[Bool.not_false,azc,aza,if_pos (by simp;omega)];rfl
     | true=>rw[Bool.not_true,azb];exact fin (.inl rfl)
    .rw[dF0 g2,azb];exact fin (.inr (by omega))
theorem BzC {x:List UInt8}(hl:x.length<=5000):qzm x=some (fzl x):=by
 unfold qzm fzl;rw[prefix_is (by omega),aza];have htl:(bz7 x).length<=5000:=by
  unfold bz7;split
  .simp;omega
  .exact hl
 simp only;rw[cut_is (by omega),aza];obtain⟨h1,h2,h3⟩:=yzt (bz7 x);have hlen:(cutW (bz7 x)).1.length+(cutW (bz7 x)).2.1.length<=5000:=by
  have:=congrArg List.length h1;simp only[List.length_append]at this;cases hp:(cutW (bz7 x)).2.2 with
  | true=>rw[hp]at this;simp at this;omega
  | false=>rw[h2 hp];simp;omega
 generalize (cutW (bz7 x)).1=w at *;generalize (cutW (bz7 x)).2.1=b at *;generalize (cutW (bz7 x)).2.2=p at *;simp only[tailP_is (m:=czS x) (w:=w) (b:=b) (show w.length+b.length<=10000 by omega)];unfold headW;by_cases c1:w=[]
 .simp[c1]
 .rw[dF0 c1,azb];have tail:(brn (decide (1<(w.length:Int))) (obnd (idx w 0) fun y_2=>brn (decide ((y_2.toNat:Int)=48)) (some (if(true||!(w++b).all isD)=true then((⟨0,0⟩:Dec),(2:Int))else lzC (czS x) w b)) (some (if(decide (x=[45,48])||!(w++b).all isD)=true then(⟨0,0⟩,2)else lzC (czS x) w b)))
   (some (if(decide (x=[45,48])||!(w++b).all isD)=true then(⟨0,0⟩,2)else lzC (czS x) w b))) =
   some (if(((decide (1<w.length)&&decide (w.head?=some 48))||decide (x=[45,48]))||!(w++b).all isD)=true then(⟨0,0⟩,2)else lzC (czS x) w b):=by
   cases w with
   | nil=>exact absurd rfl c1
   | cons c t =>
    by_cases c2:1<(c::t).length
    .rw[dT0 (by omega),azc,show idx (c::t) 0=some c from rfl,aza,dT0 c2];by_cases c3:c=48
     .subst c3;simp
     .have:¬((c.toNat:Int)=48):=fun e=>c3 (UInt8.toNat_inj.1 (show c.toNat=(48:UInt8).toNat by simp;omega))
      rw[dF0 this,azb];simp[c3]
    .rw[dF0 (by omega),azb,dF0 c2];simp
  cases p with
  | true =>
   rw[azc];by_cases c4:b=[]
   .rw[dT0 c4,azc];simp
   .rw[dF0 c4,azb,tail];simp
  | false=>rw[azb,tail];simp
theorem u8_in {n:Int}(h0:0<=n)(h1:n<=255):u8.wrap n=n:=by
 unfold IntKind.wrap;simp[IntKind.bits,IntKind.signed];omega
theorem idxB {D:List UInt8}{k:Nat}{v:UInt8}(h:D[k]?=some v):idx D (k:Int)=some v:=by
 simp[idx,h]
theorem CzS:∀{l:List UInt8},46 ∉ l->cutW l=(l,[],false)
 | [],_=>rfl
 | c::l,h=>by
  simp only[List.mem_cons,not_or]at h;unfold cutW;rw[if_neg (fun e=>h.1 e.symm),CzS h.2]
theorem AzO:∀{w b:List UInt8},46 ∉ w->cutW (w++46::b)=(w,b,true)
 | [],b,_=>by simp[cutW]
 | c::w,b,h=>by
  simp only[List.mem_cons,not_or]at h;simp only[List.cons_append];unfold cutW;rw[if_neg (fun e=>h.1 e.symm),AzO h.2]
theorem szh {l:List UInt8}(h:l.all isD=true):46 ∉ l:=fun hm=>by
 have:=List.all_eq_true.1 h 46 hm;revert this;decide
def gzr (t:List UInt8)(g:Nat):Option (Int×List Int):=if((cutW t).1++(cutW t).2.1).all isD=true/\((cutW t).2.2=true->(cutW t).1≠[])then some (if(cutW t).2.2 then(((cutW t).1.length+g:Nat):Int)else -1,rd9 ((cutW t).1++(cutW t).2.1))else none
inductive At' (t:List UInt8) (g:Nat):Nat->Int->List Int->Prop
 | front (j:Nat) (h:j<=t.length) (hd:(t.take j).all isD=true):At' t g j (-1) (rd9 (t.take j))
 | behind (w b:List UInt8) (j:Nat) (ht:t=w++46::b) (hw:w≠[]) (hd:w.all isD=true) (hj:j<=b.length) (hb:(b.take j).all isD=true):At' t g (w.length+1+j) ((w.length+g:Nat):Int) (rd9 (w++b.take j))
theorem scan_is {s t : List UInt8} {g : Nat} {m : Bool} (hs : s.length = t.length + g) (hg : ∀ j, s[j + g]? = t[j]?) (hl : s.length <= 5000) :
    ∃y,lzs (s,⟨0,0⟩,⟨m,[]⟩,(g:Int),-1,(g:Int))=some y /\
      (match gzr t g with|some (dot,D)=>y = .inl (dot,⟨0,0⟩,⟨m,D⟩)|none=>∃B,y = .inr (2,⟨0,0⟩,B)):=by
  refine czf (F:=ez8) (fun x=>10000-x.2.2.2.2.2.toNat) (fun x=>∃(j:Nat) (dot:Int) (D:List Int),x=(s,⟨0,0⟩,⟨m,D⟩,(g:Int),dot,((j+g:Nat):Int))/\At' t g j dot D) _ ?_ _ ⟨0,-1,[],by simp,by have:=At'.front (t:=t) (g:=g) 0 (by omega) (by simp);simpa[rd9]using this⟩ (by simp only;omega)
  rintro back x ⟨j,dot,D,rfl,hat⟩ hb
  unfold ez8
  simp only at hb ⊢
  have hDl:D.length<=j:=by
    cases hat with
    | front j h hd=>unfold rd9;simp;omega
    | behind w b j ht hw hd hj hb=>unfold rd9;simp;omega
  have hjl:j<=t.length:=by
    cases hat with
    | front j h hd=>exact h
    | behind w b j ht hw hd hj hb=>subst ht;simp;omega
  rcases Nat.lt_or_ge j t.length with hlt|hge
  . have hc:t[j]?=some t[j]:=List.getElem?_eq_getElem hlt
    generalize t[j]=c at hc
    have hsc:s[j+g]?=some c:=by rw[hg];exact hc
    rw[dT0 (by omega),azc,idxB hsc]
    simp only[aza]
    have next : ∀ dot' D', At' t g (j + 1) dot' D' -> ∃ y, back (s, ⟨0, 0⟩, ⟨m, D'⟩, (g : Int), dot', i64.wrap (((j + g : Nat) : Int) + 1)) = some y /\
        (match gzr t g with|some (dot,D)=>y = .inl (dot,⟨0,0⟩,⟨m,D⟩)|none=>∃B,y = .inr (2,⟨0,0⟩,B)):=fun dot' D' h=>by
      rw[azi (by omega) (by omega)]
      exact hb _ ⟨j+1,dot',D',by simp;omega,h⟩ (by simp only;omega)
    have digit : (isD c = false -> gzr t g = none) -> (isD c = true -> At' t g (j + 1) dot (dv c :: D)) -> ∃ y, (brn (decide (48 <= (c.toNat : Int)))
          (brn (decide ((c.toNat:Int)<=57))
            (obnd (app 8 [i64.wrap (u8.wrap ((c.toNat:Int)-48))] D) fun zs=>back (s,⟨0,0⟩,⟨m,zs⟩,(g:Int),dot,i64.wrap (((j+g:Nat):Int)+1)))
            (some (Sum.inr (2,⟨0,0⟩,⟨m,D⟩))))
          (some (Sum.inr (2,⟨0,0⟩,⟨m,D⟩))))=some y /\
        (match gzr t g with|some (dot,D)=>y = .inl (dot,⟨0,0⟩,⟨m,D⟩)|none=>∃B,y = .inr (2,⟨0,0⟩,B)):=fun hno hyes=>by
      have hcl:=c.toNat_lt
      by_cases c1:(48:Int)<=(c.toNat:Int)
      . rw[dT0 c1,azc]
        by_cases c2:(c.toNat:Int)<=57
        . have e : i64.wrap (u8.wrap ((c.toNat : Int) - 48)) = dv c := by
            rw[u8_in (by omega) (by omega),azi (by omega) (by omega)];unfold dv;omega
          rw[dT0 c2,azc,e,appS (by simp;omega),aza]
          exact next _ _ (hyes (by unfold isD;simp;omega))
        . rw[dF0 c2,azb,hno (by unfold isD;simp;omega)]
          exact⟨_,rfl,_,rfl⟩
      . rw[dF0 c1,azb,hno (by unfold isD;simp;omega)]
        exact⟨_,rfl,_,rfl⟩
    cases hat with
    | front j h hd =>
      have ht:t.take (j+1)=t.take j++[c]:=by rw[List.take_add_one,hc];rfl
      have htt:t=t.take j++c::t.drop (j+1):=by
        conv=>lhs;rw[<-List.take_append_drop (j+1) t,ht]
        simp
      have hyes:isD c=true->At' t g (j+1) (-1) (dv c::rd9 (t.take j)):=fun h1=>by
        rw[<-Jzy,<-ht]
        exact .front (j+1) (by omega) (by rw[ht,List.all_append,hd,Bool.true_and,List.all_cons,h1];rfl)
      have hno:c≠46->isD c=false->gzr t g=none:=fun h46 h1=>by
        unfold gzr
        rw[if_neg]
        rintro⟨h2,_⟩
        have hm:c∈(cutW t).1:=by
          have:cutW t=(t.take j++c::(cutW (t.drop (j+1))).1,(cutW (t.drop (j+1))).2.1,(cutW (t.drop (j+1))).2.2):=by
            conv=>lhs;rw[htt]
            clear hb next digit
            generalize t.drop (j+1)=r
            have hnd:=szh hd
            generalize t.take j=q at hnd
            induction q with
            | nil => simp only [List.nil_append]; conv => lhs; unfold cutW
                     rw[if_neg h46]
            | cons d q ih =>
              simp only[List.mem_cons,not_or]at hnd
              simp only[List.cons_append]
              conv=>lhs;unfold cutW
              rw[if_neg (fun e=>hnd.1 e.symm),ih hnd.2]
          rw[this];simp
        have:=List.all_eq_true.1 h2 c (List.mem_append_left _ hm)
        rw[h1]at this;cases this
      by_cases h46:c=46
      . subst h46
        rw[dT0 (by rfl),azc,dT0 (by omega),azc]
        by_cases hj0:0<j
        . rw[dT0 (by omega),azc]
          have:=At'.behind (g:=g) (t.take j) (t.drop (j+1)) 0 htt (by
            intro e
            have h9:=congrArg List.length e
            rw[List.length_take,List.length_nil]at h9
            omega) hd (by omega) (by simp)
          rw[List.length_take,Nat.min_eq_left (by omega),List.take_zero,List.append_nil]at this
          exact next _ _ this
        . rw[dF0 (by omega),azb]
          have hj0:j=0:=by omega
          subst hj0
          refine digit (fun _=>?_) (fun h=>absurd h (by decide))
          unfold gzr
          rw[if_neg]
          rintro⟨_,h3⟩
          have:cutW t=([],t.drop 1,true):=by
            conv=>lhs;rw[htt]
            simp[cutW]
          rw[this]at h3
          exact h3 rfl rfl
      . have:¬((c.toNat:Int)=46):=fun e=>h46 (UInt8.toNat_inj.1 (show c.toNat=(46:UInt8).toNat by simp;omega))
        rw[dF0 this,azb]
        exact digit (hno h46) hyes
    | behind w b i ht hw hd hj hbd =>
      have hcb:b[i]?=some c:=by
        rw[ht,show w.length+1+i=w.length+(i+1) by omega,List.getElem?_append_right (by omega)]at hc
        simpa using hc
      have hib:i<b.length:=(List.getElem?_eq_some_iff.1 hcb).1
      have htk:b.take (i+1)=b.take i++[c]:=by rw[List.take_add_one,hcb];rfl
      have hyes:isD c=true->At' t g (w.length+1+i+1) ((w.length+g:Nat):Int) (dv c::rd9 (w++b.take i)):=fun h1=>by
        rw[<-Jzy,List.append_assoc,<-htk]
        exact .behind w b (i+1) ht hw hd (by omega) (by rw[htk,List.all_append,hbd,Bool.true_and,List.all_cons,h1];rfl)
      have hno:isD c=false->gzr t g=none:=fun h1=>by
        unfold gzr
        rw[if_neg]
        rintro⟨h2,_⟩
        rw[ht,AzO (szh hd)]at h2
        have:=List.all_eq_true.1 h2 c (List.mem_append_right _ (List.mem_of_getElem? hcb))
        rw[h1]at this;cases this
      by_cases h46:(c.toNat:Int)=46
      . rw[dT0 h46,azc,dF0 (by omega),azb]
        exact digit hno hyes
      . rw[dF0 h46,azb]
        exact digit hno hyes
  . rw[dF0 (by omega),azb]
    cases hat with
    | front j h hd =>
      have:j=t.length:=by omega
      subst this
      rw[List.take_of_length_le (Nat.le_refl _)]at hd ⊢
      refine⟨_,rfl,?_⟩
      unfold gzr
      rw[CzS (szh hd)]
      simp[hd]
    | behind w b i ht hw hd hj hbd =>
      have:i=b.length:=by rw[ht]at hge;simp at hge;omega
      subst this
      rw[List.take_of_length_le (Nat.le_refl _)]at hbd ⊢
      refine⟨_,rfl,?_⟩
      unfold gzr
      rw[ht,AzO (szh hd)]
      simp only
      rw[if_pos ⟨by rw[List.all_append,hd,hbd];rfl,fun _=>hw⟩]
      simp
theorem Izx {v:Int}(h:¬I64 v):decV v 0=(⟨0,0⟩,8):=by
 unfold decV;rw[show azr v 0=(v,0) from rfl,if_neg h]
theorem valB_vd (l:List UInt8):vd (rd9 l)=valB l 0:=by rw[vd_rd9];simp
theorem Gz8:∀{l:List UInt8},l.all isD=true->valB l 0=0->∀c∈l,c=48
 | [],_,_,c,hc=>by simp at hc
 | d::l,h,h0,c,hc=>by
  rw[List.all_cons,Bool.and_eq_true]at h;rw[valB]at h0;have hge:=valB_ge l (0*10+(d.toNat-48));have hd:d=48:=by
   have:=h.1;unfold isD at this;simp only[Bool.and_eq_true,decide_eq_true_eq]at this;exact UInt8.toNat_inj.1 (show d.toNat=(48:UInt8).toNat by simp;omega)
  rcases List.mem_cons.1 hc with rfl|hc'
  .exact hd
  .subst hd;exact Gz8 h.2 (by simpa using h0) c hc'
theorem numP_is {m:Bool}{D:List Int}{N:Nat}(hD:azW D)(hl:D.length<=5000)(hv:vd D=N):bzr ⟨m,D⟩=some ⟨m&&!decide (N=0),digs N⟩ /\
 bzi (⟨m&&!decide (N=0),digs N⟩,0)=some (if(if m then 9223372036854775808<N else 9223372036854775808<=N)then(⟨0,0⟩,8)else(⟨if m then -(N:Int)else(N:Int),0⟩,0)):=by
 have hln:(digs N).length<=5000:=by rw[<-hv,<-vzh hD];have:=yzg D;omega
 refine⟨by rw[izy hD (by omega),hv],?_⟩;rw[show(0:Int)=((0:Nat):Int) from rfl,hzh hln (by omega),tz3];congr 1;cases m with
 | true =>
  by_cases h:9223372036854775808<N
  .rw[if_pos (by simpa using h),Izx (by unfold I64;simp only[sw,cond_true];omega)];rfl
  .rw[if_neg (by simpa using h),pzn (by unfold I64;simp only[sw,cond_true];omega)];rfl
 | false =>
  by_cases h:9223372036854775808<=N
  .rw[if_pos (by simpa using h),Izx (by unfold I64;simp only[sw,cond_false];omega)];rfl
  .rw[if_neg (by simpa using h),pzn (by unfold I64;simp only[sw,cond_false];omega)];rfl
theorem Lze {x:List UInt8}(hl:x.length<=4000):kz1 x=some (fzl x):=by
 unfold kz1;have b1:hzD x=some (czS x):=by
  unfold hzD czS;cases x with
  | nil=>simp
  | cons c t =>
   rw[dT0 (by simp),azc,show idx (c::t) 0=some c from rfl,aza];by_cases h:c=45
   .subst h;simp
   .have:¬((c.toNat:Int)=45):=fun e=>h (UInt8.toNat_inj.1 (show c.toNat=(45:UInt8).toNat by simp;omega))
    rw[dF0 this];simp[h]
 rw[b1,aza];obtain⟨g,hg,b2⟩:∃g:Nat,(x.length=(bz7 x).length+g/\(∀j,x[j+g]?=(bz7 x)[j]?)/\g<=1/\(czS x=true->x=45::bz7 x)/\(czS x=false->x=bz7 x))/\hzE (⟨false,[]⟩,0,czS x)=some ((g:Int),⟨czS x,[]⟩):=by
  unfold hzE czS bz7;by_cases h:x.head?=some 45
  .cases x with
   | nil=>simp at h
   | cons c t =>
    simp only[List.head?_cons,sE0]at h;subst h;exact⟨1,⟨by simp,fun j=>by simp,by omega,by simp,by simp⟩,by simp[azi]⟩
  .exact⟨0,⟨by rw[if_neg h];rfl,fun j=>by rw[if_neg h];rfl,by omega,by simp[h],by simp[h]⟩,by simp[h]⟩
 obtain⟨hg1,hg2,hg3,hgm,hgn⟩:=hg;rw[b2,aza];simp only;obtain⟨y,h1,h2⟩:=scan_is (m:=czS x) hg1 hg2 (by omega);rw[h1,aza];unfold fzl;generalize htt:bz7 x=t at *;generalize hmm:czS x=m at *;obtain⟨k1,k2,k3⟩:=yzt t;unfold gzr at h2;have hlen:(cutW t).1.length+(cutW t).2.1.length<=4000/\(t.length:Nat)=(cutW t).1.length+(if(cutW t).2.2=true then 1+(cutW t).2.1.length else 0):=by
  have:=congrArg List.length k1;simp only[List.length_append]at this;cases hp:(cutW t).2.2 with
  | true=>rw[hp]at this;simp at this;simp;omega
  | false=>rw[hp]at this;rw[k2 hp];simp at this;simp;omega
 generalize hw:(cutW t).1=w at *;generalize hbb:(cutW t).2.1=b at *;generalize hp:(cutW t).2.2=p at *;by_cases hsc:(w++b).all isD=true/\(p=true->w≠[])
 .rw[if_pos hsc]at h2;simp only at h2;subst h2;obtain⟨hall,hpw⟩:=hsc;simp only[osum];have hN:=numP_is (m:=m) (isDig_rd9 hall) (by unfold rd9;simp;omega) (valB_vd (w++b));obtain⟨hN1,hN2⟩:=hN;have hwx:w≠[]->x[g]?=w.head?:=fun hne=>by
   have:=hg2 0;rw[Nat.zero_add]at this;rw[this,k1];cases w with
   | nil=>exact absurd rfl hne
   | cons c w=>simp
  cases p with
  | true =>
   simp only[if_true]at k1 hlen ⊢;have b4:dzY ((g:Int),((w.length+g:Nat):Int),i64.wrap ((x.length:Int)-(g:Int)),decide ((0:Int)<=((w.length+g:Nat):Int)))=some (w.length:Int):=by
    unfold dzY;simp only;rw[dT0 (by omega),azc,azi (by omega) (by omega)];congr 1;omega
   have hne:=hpw rfl;have hwl:w.length≠0:=fun h=>hne (List.eq_nil_of_length_eq_zero h)
   rw[b4,aza];have b5:dzZ (x,(g:Int),((w.length+g:Nat):Int),(w.length:Int))=some (decide (b=[])||(decide (1<w.length)&&decide (w.head?=some 48))):=by
    unfold dzZ;simp only;rw[dF0 (by omega),azb,azi (by omega) (by omega)];by_cases hb0:b=[]
    .subst hb0;rw[dT0 (by simp at hlen;omega),azc];simp
    .have:b.length≠0:=fun h=>hb0 (List.eq_nil_of_length_eq_zero h)
     rw[dF0 (by omega),azb];cases w with
     | nil=>exact absurd rfl hne
     | cons c w' =>
      have hx:=hwx (by simp);simp only[List.head?_cons]at hx ⊢;rw[idxB hx,aza];by_cases h48:c=48
      .subst h48;rw[dT0 (by rfl),azc];simp[hb0];omega
      .have:¬((c.toNat:Int)=48):=fun e=>h48 (UInt8.toNat_inj.1 (show c.toNat=(48:UInt8).toNat by simp;omega))
       rw[dF0 this,azb];simp[hb0,h48]
   rw[b5,aza];have hx48:decide (x=[45,48])=false:=by
    rw[dF0];intro e;have hm2:czS x=true:=by rw[e];rfl
    rw[hmm]at hm2;have:=hgm hm2;rw[e]at this;simp only[List.cons.injEq,true_and]at this;rw[<-this]at k1;have:(46:UInt8)∈[(48:UInt8)]:=by rw[k1];simp
    revert this;decide
   unfold headW;rw[dF0 hne,hall,hx48];simp only[Bool.false_or,Bool.true_and,Bool.or_false,Bool.not_true];by_cases hbad:(decide (b=[])||(decide (1<w.length)&&decide (w.head?=some 48)))=true
   .rw[hbad,azc,if_pos rfl]
   .rw[Bool.not_eq_true]at hbad;rw[hbad,azb,if_neg (by simp),dT0 (by omega),azc,hN1,aza];have hb0:b≠[]:=fun e=>by rw[e]at hbad;simp at hbad
    have hbl:b.length≠0:=fun h=>hb0 (List.eq_nil_of_length_eq_zero h)
    have hpl:i64.wrap (i64.wrap ((x.length:Int)-((w.length+g:Nat):Int))-1)=(b.length:Int):=by
     rw[azi (n:=(x.length:Int)-((w.length+g:Nat):Int)) (by omega) (by omega),azi (by omega) (by omega)];omega
    have b6:∀B,czZ ((b.length:Int),m,B)=some false:=fun B=>by
     unfold czZ;simp only;cases decide ((B.D.length:Int)=0)<;>cases m<;>simp[hbl]<;>omega
    rw[hpl,b6,aza,azb,hN2,aza];unfold lzC;by_cases hbig:(if m=true then 9223372036854775808<valB (w++b) 0 else 9223372036854775808<=valB (w++b) 0)
    .rw[if_pos hbig,if_pos hbig];simp
    .rw[if_neg hbig,if_neg hbig];simp only[decide_true,Bool.not_true,azb];by_cases h9:9<b.length
     .rw[dT0 (by omega),azc,if_pos (.inl h9)]
     .rw[dF0 (by omega),azb,dT0 (by omega),azc,azi (by omega) (by omega)];have hlast:x[x.length-1]?=b.getLast?:=by
       have e1:x.length-1=(t.length-1)+g:=by omega
       have e2:t.length-1=w.length+(b.length-1+1):=by omega
       rw[e1,hg2,e2,k1,List.getLast?_eq_getElem?,List.getElem?_append_right (by omega),Nat.add_sub_cancel_left,List.getElem?_cons_succ]
      have hbs:b.getLast?=some (b.getLast hb0):=List.getLast?_eq_some_getLast hb0;rw[hbs]at hlast;rw[show(x.length:Int)-1=((x.length-1:Nat):Int) by omega,idxB hlast,aza,hbs];generalize b.getLast hb0=c;by_cases h48:c=48
      .subst h48;rw[dT0 (by rfl),azc,if_pos (.inr rfl)]
      .have:¬((c.toNat:Int)=48):=fun e=>h48 (UInt8.toNat_inj.1 (show c.toNat=(48:UInt8).toNat by simp;omega))
       have hno:¬(9<b.length\/some c=some 48):=by simp[h9,h48]
       rw[dF0 this,azb,if_neg hno]
  | false =>
   simp only[Bool.false_eq_true,if_false,List.append_nil]at k1 hlen ⊢;have hbn:b=[]:=k2 rfl;subst hbn;rw[List.append_nil]at *;have b4:dzY ((g:Int),-1,i64.wrap ((x.length:Int)-(g:Int)),decide ((0:Int)<=-1))=some (w.length:Int):=by
    unfold dzY;simp only;rw[dF0 (by omega),azb,azi (by omega) (by omega)];congr 1;omega
   rw[b4,aza];have b5:dzZ (x,(g:Int),-1,(w.length:Int))=some (decide (w=[])||(decide (1<w.length)&&decide (w.head?=some 48))):=by
    unfold dzZ;simp only;cases w with
    | nil=>simp
    | cons c w' =>
     have hx:=hwx (by simp);simp only[List.length_cons]at hlen;rw[dF0 (by simp;omega),azb,azi (by omega) (by omega),dF0 (by omega),azb];simp only[List.head?_cons]at hx ⊢;rw[idxB hx,aza];by_cases h48:c=48
     .subst h48;rw[dT0 (by rfl),azc];simp;omega
     .have:¬((c.toNat:Int)=48):=fun e=>h48 (UInt8.toNat_inj.1 (show c.toNat=(48:UInt8).toNat by simp;omega))
      rw[dF0 this,azb];simp[h48]
   rw[b5,aza];unfold headW;rw[hall];simp only[Bool.false_and,Bool.or_false,Bool.not_true];by_cases hbad:(decide (w=[])||(decide (1<w.length)&&decide (w.head?=some 48)))=true
   .rw[hbad,azc,if_pos (by simp)]
   .rw[Bool.not_eq_true]at hbad;rw[hbad,azb,dF0 (by omega),azb,hN1,aza,Bool.false_or];have hne:w≠[]:=fun e=>by rw[e]at hbad;simp at hbad
    have hx48:decide (x=[45,48])=(m&&decide (valB w 0=0)):=by
     cases m with
     | true =>
      have hx:=hgm rfl;rw[Bool.true_and,decide_eq_decide,hx,k1];constructor
      .intro e;simp only[List.cons.injEq,true_and]at e;rw[e];rfl
      .intro e;have h8:=Gz8 hall e;cases w with
       | nil=>exact absurd rfl hne
       | cons c w' =>
        have hc:=h8 c (by simp);subst hc;cases w' with
        | nil=>rfl
        | cons d w''=>simp at hbad
     | false =>
      rw[Bool.false_and,dF0];intro e;rw[e]at hmm;exact absurd hmm (by decide)
    have b6:czZ (0,m,⟨m&&!decide (valB w 0=0),digs (valB w 0)⟩)=some (m&&decide (valB w 0=0)):=by
     unfold czZ;simp only;have hz:=mze (n:=valB w 0);by_cases h0:valB w 0=0
     .rw[dT0 (by omega),azc,dT0 h0];cases m<;>simp
     .rw[dF0 (by omega),azb,dF0 h0];simp
    rw[b6,aza,hx48];by_cases hz:(m&&decide (valB w 0=0))=true
    .rw[hz,azc,if_pos rfl]
    .rw[Bool.not_eq_true]at hz;rw[hz,azb,if_neg (by simp),hN2,aza];unfold lzC;rw[List.append_nil];by_cases hbig:(if m=true then 9223372036854775808<valB w 0 else 9223372036854775808<=valB w 0)
     .rw[if_pos hbig,if_pos hbig];simp
     .rw[if_neg hbig,if_neg hbig];simp
 .rw[if_neg hsc]at h2;simp only at h2;obtain⟨B,rfl⟩:=h2;simp only[osum];rw[if_pos];unfold headW;by_cases hall:(w++b).all isD=true
  .have:¬(p=true->w≠[]):=fun h=>hsc ⟨hall,h⟩
   have hw0:w=[]:=by
    apply Classical.byContradiction;intro hn;exact this (fun _=>hn)
   rw[dT0 hw0];simp
  .rw[Bool.not_eq_true]at hall;rw[hall];simp
end Go.Proofs.YtmkmofdnmllioaaGreatDoor
/- X8 -/
namespace Go.Proofs.YtmkmofdnmllioaaGreatDoor
open Go Go.Ev Go.Lib
open Go.IntKind (i64 u64 u8 i32 u32 i16 u16)
theorem appN {A:Type}{B:Nat}{xs ys:List A}(h:(xs.length+ys.length)*B<=140737488355328):app B xs ys=some (xs++ys):=by
 have:Nat.ble ((xs.length+ys.length)*B) 140737488355328=true:=Nat.ble_eq_true_of_le h;simp[app,this]
theorem rzR {n:Nat}(h:n<9223372036854775808):i64.wrap (n:Int)=n:=azi (by omega) (by omega)
theorem qzJ {x y:Nat}(hx:x<9223372036854775808)(hy:y<9223372036854775808):azn .and .i64 (x:Int) (y:Int)=((x &&& y:Nat):Int):=by
 simp only[azn];rw[BitVec.toNat_and,BitVec.ofInt_natCast,BitVec.ofInt_natCast,BitVec.toNat_ofNat,BitVec.toNat_ofNat];simp only[IntKind.bits];rw[Nat.mod_eq_of_lt (by omega),Nat.mod_eq_of_lt (by omega)];exact rzR (Nat.lt_of_le_of_lt Nat.and_le_left hx)
theorem or_nat {x y:Nat}(hx:x<1073741824)(hy:y<64):azn .or .i64 ((x*64:Nat):Int) (y:Int)=((x*64+y:Nat):Int):=by
 simp only[azn];rw[BitVec.toNat_or,BitVec.ofInt_natCast,BitVec.ofInt_natCast,BitVec.toNat_ofNat,BitVec.toNat_ofNat];simp only[IntKind.bits];rw[Nat.mod_eq_of_lt (by omega),Nat.mod_eq_of_lt (by omega)];have:=Nat.two_pow_add_eq_or_of_lt (i:=6) (b:=y) (by omega) x;rw[Nat.mul_comm x 64,show(64:Nat)=2^6 from rfl,<-this];exact rzR (by omega)
theorem byte_and:∀b:Fin 256,(b.val &&& 31=b.val%32)/\(b.val &&& 15=b.val%16)/\(b.val &&& 7=b.val%8)/\(b.val &&& 63=b.val%64)/\((b.val &&& 192=128)↔b.val/64=2):=by decide +kernel
theorem bAnd {b:Nat}(h:b<256):azn .and .i64 (b:Int) 31=((b%32:Nat):Int)/\azn .and .i64 (b:Int) 15=((b%16:Nat):Int)/\azn .and .i64 (b:Int) 7=((b%8:Nat):Int) /\
 azn .and .i64 (b:Int) 63=((b%64:Nat):Int)/\(azn .and .i64 (b:Int) 192=128↔b/64=2):=by
 obtain⟨h1,h2,h3,h4,h5⟩:=byte_and ⟨b,h⟩;simp only at h1 h2 h3 h4 h5;refine⟨?_,?_,?_,?_,?_⟩
 .rw[<-h1];exact qzJ (y:=31) (by omega) (by omega)
 .rw[<-h2];exact qzJ (y:=15) (by omega) (by omega)
 .rw[<-h3];exact qzJ (y:=7) (by omega) (by omega)
 .rw[<-h4];exact qzJ (y:=63) (by omega) (by omega)
 .have e:azn .and .i64 (b:Int) 192=((b &&& 192:Nat):Int):=qzJ (y:=192) (by omega) (by omega);rw[e];constructor
  .intro h;exact h5.1 (by omega)
  .intro h;have:=h5.2 h;omega
def more:List UInt8->Nat->Nat->Option Nat
 | _,0,v=>some v
 | [],_+1,_=>none
 | d::l,n+1,v=>if d.toNat/64=2 then more l n (v*64+d.toNat%64)else none
theorem FzP {x:List UInt8}{i n v:Nat}(hl:x.length<=5000000)(hn:i+n<x.length)(hn3:n<=3)(hv:v<64):izk (x,(i:Int),(n:Int),(v:Int),1)=some (match more (x.drop (i+1)) n v with|some w=>.inl (w:Int)|none=>.inr ([],false)):=by
 obtain⟨y,h1,h2⟩:=czf (F:=fzw) (fun z=>10-z.2.2.2.2.toNat) (fun z=>∃k w:Nat,z=(x,(i:Int),(n:Int),(w:Int),((k+1:Nat):Int))/\k<=n/\w<64*64^k/\more (x.drop (i+1+k)) (n-k) w=more (x.drop (i+1)) n v)
  (fun y=>y=(match more (x.drop (i+1)) n v with|some w=>.inl (w:Int)|none=>.inr ([],false))) (by
  rintro back z ⟨k,w,rfl,hk,hw,hm⟩ hb;unfold fzw;simp only at hb ⊢;rw[<-hm];rcases Nat.lt_or_ge k n with hlt|hge
  .have hx:i+1+k<x.length:=by omega
   have hdl:=(x[i+1+k]'hx).toNat_lt;obtain⟨_,_,_,b63,b192⟩:=bAnd hdl;have hw3:w<64*64^3:=Nat.lt_of_lt_of_le hw (Nat.mul_le_mul_left _ (Nat.pow_le_pow_right (by omega) (by omega)));rw[dT0 (by omega),azc,azi (by omega) (by omega),show(i:Int)+((k+1:Nat):Int)=((i+1+k:Nat):Int) by omega,idxB (List.getElem?_eq_getElem hx),aza,rzR (by omega)];have hd:x.drop (i+1+k)=x[i+1+k]'hx::x.drop (i+1+k+1):=List.drop_eq_getElem_cons hx;rw[hd,show n-k=(n-(k+1))+1 by omega];generalize x[i+1+k]'hx=d at *;by_cases h2:d.toNat/64=2
   .rw[dT0 (b192.2 h2),Bool.not_true,azb,b63,show(w:Int)*64=((w*64:Nat):Int) by omega,rzR (by omega),or_nat (by omega) (by omega),azi (by omega) (by omega)];have e:more (d::x.drop (i+1+k+1)) (n-(k+1)+1) w=more (x.drop (i+1+k+1)) (n-(k+1)) (w*64+d.toNat%64):=by
     show(if _ then _ else _)=_
     rw[if_pos h2]
    rw[e];rw[hd,show n-k=(n-(k+1))+1 by omega,e]at hm;rw[hm];exact hb _ ⟨k+1,w*64+d.toNat%64,by simp,by omega,by rw[Nat.pow_succ];omega,by rw[<-hm];rfl⟩ (by simp only;omega)
   .rw[dF0 (fun h=>h2 (b192.1 h)),Bool.not_false,azc];have e:more (d::x.drop (i+1+k+1)) (n-(k+1)+1) w=none:=by
     show(if _ then _ else _)=_
     rw[if_neg h2]
    rw[e];exact⟨_,rfl,rfl⟩
  .have:k=n:=by omega
   subst this;rw[dF0 (by omega),azb,Nat.sub_self];refine⟨_,rfl,?_⟩;have:∀l,more l 0 w=some w:=fun l=>by cases l<;>rfl
   rw[this]) (x,(i:Int),(n:Int),(v:Int),1) ⟨0,v,by simp,by omega,by omega,by simp⟩ (by simp only;omega)
 subst h2;exact h1
set_option linter.unusedSimpArgs false
theorem more0_is {x:List UInt8}{i v:Nat}:izk (x,(i:Int),0,(v:Int),1)=some (.inl (v:Int)):=by
 unfold izk;rw[czd,azF];unfold fzw;simp
theorem more1 {l:List UInt8}(h:0<l.length)(v:Nat):more l 1 v=if(l.getD 0 0).toNat/64=2 then some (v*64+(l.getD 0 0).toNat%64)else none:=by
 cases l with
 | nil=>simp at h
 | cons a l=>cases l<;>rfl
theorem more2 {l:List UInt8}(h:1<l.length)(v:Nat):more l 2 v=if(l.getD 0 0).toNat/64=2/\(l.getD 1 0).toNat/64=2 then some ((v*64+(l.getD 0 0).toNat%64)*64+(l.getD 1 0).toNat%64)else none:=by
 cases l with
 | nil=>simp at h
 | cons a l =>
  have:=more1 (l:=l) (by simp at h;omega)
  show(if a.toNat/64=2 then more l 1 (v*64+a.toNat%64)else none)=_
  rw[this];simp only[List.getD_cons_zero,List.getD_cons_succ];by_cases h1:a.toNat/64=2
  .rw[if_pos h1];simp[h1]
  .rw[if_neg h1];simp[h1]
theorem more3 {l:List UInt8}(h:2<l.length)(v:Nat):more l 3 v=if(l.getD 0 0).toNat/64=2/\(l.getD 1 0).toNat/64=2/\(l.getD 2 0).toNat/64=2 then some (((v*64+(l.getD 0 0).toNat%64)*64+(l.getD 1 0).toNat%64)*64+(l.getD 2 0).toNat%64)else none:=by
 cases l with
 | nil=>simp at h
 | cons a l =>
  have:=more2 (l:=l) (by simp at h;omega)
  show(if a.toNat/64=2 then more l 2 (v*64+a.toNat%64)else none)=_
  rw[this];simp only[List.getD_cons_zero,List.getD_cons_succ];by_cases h1:a.toNat/64=2
  .rw[if_pos h1];simp[h1]
  .rw[if_neg h1];simp[h1]
def oneR (x:List UInt8)(out:List Int)(i:Nat):(List Int×Int)⊕(List Int×Bool):=if(decodeL (x.drop i)).1=65533/\(decodeL (x.drop i)).2=1 then .inr ([],false)else .inl (out++[((decodeL (x.drop i)).1:Int)],((i+(decodeL (x.drop i)).2:Nat):Int))
theorem uzo {out:List Int}{i n w least:Nat}(ho:out.length<=5000000)(hi:i<=5000000)(hn:n<=3):
 brn (decide ((w:Int)<(least:Int))) (some (Sum.inr (([]:List Int),false)))
  (brn (decide ((55296:Int)<=(w:Int)))
   (brn (decide ((w:Int)<57344)) (some (Sum.inr ([],false)))
    (brn (decide ((1114111:Int)<(w:Int))) (some (Sum.inr ([],false)))
     (obnd (app 8 out [(w:Int)]) fun zs=>some (Sum.inl (zs,i64.wrap (i64.wrap ((i:Int)+(n:Int))+1))))))
   (brn (decide ((1114111:Int)<(w:Int))) (some (Sum.inr ([],false)))
    (obnd (app 8 out [(w:Int)]) fun zs=>some (Sum.inl (zs,i64.wrap (i64.wrap ((i:Int)+(n:Int))+1)))))) =
  some (if w<least\/(55296<=w/\w<57344)\/1114111<w then Sum.inr ([],false)else Sum.inl (out++[(w:Int)],((i+(n+1):Nat):Int))):=by
 rw[appN (by simp only[List.length_singleton];omega),aza,azi (n:=(i:Int)+(n:Int)) (by omega) (by omega),azi (by omega) (by omega),show(i:Int)+(n:Int)+1=((i+(n+1):Nat):Int) by omega];by_cases h1:w<least
 .rw[dT0 (by omega),azc,if_pos (.inl h1)]
 .rw[dF0 (by omega),azb];by_cases h2:55296<=w
  .rw[dT0 (by omega),azc];by_cases h3:w<57344
   .rw[dT0 (by omega),azc,if_pos (.inr (.inl ⟨h2,h3⟩))]
   .rw[dF0 (by omega),azb];by_cases h4:1114111<w
    .rw[dT0 (by omega),azc,if_pos (.inr (.inr h4))]
    .rw[dF0 (by omega),azb,if_neg (by omega)]
  .rw[dF0 (by omega),azb];by_cases h4:1114111<w
   .rw[dT0 (by omega),azc,if_pos (.inr (.inr h4))]
   .rw[dF0 (by omega),azb,if_neg (by omega)]
theorem b3_is {c:Nat}(h:c<256):kz4 ((c:Int),0,0)=some (if c<128 then .inl (0,(c:Int),0)else if 194<=c/\c<224 then .inl (1,((c%32:Nat):Int),128)else if 224<=c/\c<240 then .inl (2,((c%16:Nat):Int),2048)
 else if 240<=c/\c<245 then .inl (3,((c%8:Nat):Int),65536)else .inr ([],false)):=by
 obtain⟨a1,a2,a3,_,_⟩:=bAnd h;unfold kz4;simp only[a1,a2,a3];by_cases h1:c<128
 .rw[dT0 (by omega),azc,if_pos h1]
 .rw[dF0 (by omega),azb,if_neg h1];by_cases h2:194<=c
  .rw[dT0 (by omega),azc];by_cases h3:c<224
   .rw[dT0 (by omega),azc,if_pos ⟨h2,h3⟩]
   .rw[dF0 (by omega),azb,dT0 (by omega),azc,if_neg (by omega)];by_cases h4:c<240
    .rw[dT0 (by omega),azc,if_pos (by omega)]
    .rw[dF0 (by omega),azb,dT0 (by omega),azc,if_neg (by omega)];by_cases h5:c<245
     .rw[dT0 (by omega),azc,if_pos (by omega)]
     .rw[dF0 (by omega),azb,if_neg (by omega)]
  .rw[dF0 (by omega),azb,dF0 (by omega),azb,dF0 (by omega),azb,if_neg (by omega),if_neg (by omega),if_neg (by omega)]
theorem rune_is {x:List UInt8}{out:List Int}{i:Nat}(hl:x.length<=4000000)(ho:out.length<=5000000)(hi:i<x.length):kz3 (x,out,(i:Int))=some (oneR x out i):=by
 unfold kz3 oneR;have hd:x.drop i=x[i]::x.drop (i+1):=List.drop_eq_getElem_cons hi;have hb0:=(x[i]'hi).toNat_lt;have hL:(x.drop i).length=x.length-i:=by simp
 have hL2:(x.drop (i+1)).length=x.length-i-1:=by simp;omega
 have hD:=decodeL_N (x.drop i);rw[hL,hd]at hD;simp only[List.getD_cons_zero,List.getD_cons_succ]at hD;rw[<-hd]at hD;simp only;rw[idxB (List.getElem?_eq_getElem hi),aza,rzR (by omega),b3_is hb0,aza,azi (n:=(x.length:Int)-(i:Int)) (by omega) (by omega),hD];have k0:=((x.drop (i+1)).getD 0 0).toNat_lt;have k1:=((x.drop (i+1)).getD 1 0).toNat_lt;have k2:=((x.drop (i+1)).getD 2 0).toNat_lt;generalize hc:(x[i]'hi).toNat=c at *;have m1:=fun h v=>more1 (l:=x.drop (i+1)) h v
 have m2:=fun h v=>more2 (l:=x.drop (i+1)) h v
 have m3:=fun h v=>more3 (l:=x.drop (i+1)) h v
 have r1:=fun v h h2=>FzP (x:=x) (i:=i) (n:=1) (v:=v) (by omega) h (by omega) h2
 have r2:=fun v h h2=>FzP (x:=x) (i:=i) (n:=2) (v:=v) (by omega) h (by omega) h2
 have r3:=fun v h h2=>FzP (x:=x) (i:=i) (n:=3) (v:=v) (by omega) h (by omega) h2
 generalize ((x.drop (i+1)).getD 0 0).toNat=b1 at *;generalize ((x.drop (i+1)).getD 1 0).toNat=b2 at *;generalize ((x.drop (i+1)).getD 2 0).toNat=b3 at *;by_cases h1:c<128
 .rw[if_pos h1];simp only[osum];have ck:=uzo (out:=out) (i:=i) (n:=0) (w:=c) (least:=0) ho (by omega) (by omega);rw[dF0 (by omega),azb,more0_is,aza];simp only[osum];have z0:((0:Nat):Int)=0:=rfl;rw[z0]at ck;rw[ck,decodeN_ascii _ _ _ _ _ h1,if_neg (by omega),if_neg (by simp;omega)]
 .rw[if_neg h1];by_cases h2:194<=c/\c<224
  .rw[if_pos h2];simp only[osum];by_cases hlen:x.length-i<=1
   .rw[dT0 (by omega),azc];have:decodeN (x.length-i) c b1 b2 b3=(65533,1):=by
     unfold decodeN;rw[if_neg h1,if_neg (by omega),if_neg (by omega),if_neg (by omega)]
    rw[this,if_pos ⟨rfl,rfl⟩]
   .have r:=r1 (c%32) (by omega) (by omega);rw[m1 (by omega)]at r;have ck:=uzo (out:=out) (i:=i) (n:=1) (w:=c%32*64+b1%64) (least:=128) ho (by omega) (by omega);have z1:((1:Nat):Int)=1:=rfl;have z2:((128:Nat):Int)=128:=rfl;rw[z1]at r ck;rw[z2]at ck;rw[dF0 (by omega),azb,r,aza];by_cases hb:b1/64=2
    .rw[if_pos hb];simp only[osum];rw[ck];have:decodeN (x.length-i) c b1 b2 b3=(c%32*64+b1%64,2):=by
      unfold decodeN;rw[if_neg h1,if_pos (by omega),if_pos (by omega)]
     rw[this,if_neg (by omega),if_neg (by simp)]
    .rw[if_neg hb];simp only[osum];have:decodeN (x.length-i) c b1 b2 b3=(65533,1):=by
      unfold decodeN;rw[if_neg h1,if_neg (by omega),if_neg (by omega),if_neg (by omega)]
     rw[this,if_pos ⟨rfl,rfl⟩]
  .rw[if_neg h2];by_cases h3:224<=c/\c<240
   .rw[if_pos h3];simp only[osum];by_cases hlen:x.length-i<=2
    .rw[dT0 (by omega),azc];have:decodeN (x.length-i) c b1 b2 b3=(65533,1):=by
      unfold decodeN;rw[if_neg h1,if_neg (by omega),if_neg (by omega),if_neg (by omega)]
     rw[this,if_pos ⟨rfl,rfl⟩]
    .have r:=r2 (c%16) (by omega) (by omega);rw[m2 (by omega)]at r;have ck:=uzo (out:=out) (i:=i) (n:=2) (w:=(c%16*64+b1%64)*64+b2%64) (least:=2048) ho (by omega) (by omega);have z1:((2:Nat):Int)=2:=rfl;have z2:((2048:Nat):Int)=2048:=rfl;rw[z1]at r ck;rw[z2]at ck;rw[dF0 (by omega),azb,r,aza];by_cases hb:b1/64=2/\b2/64=2
     .rw[if_pos hb];simp only[osum];rw[ck];have e:(c%16*64+b1%64)*64+b2%64=c%16*4096+b1%64*64+b2%64:=by omega
      rw[e];by_cases hv:c%16*4096+b1%64*64+b2%64>=2048/\(c%16*4096+b1%64*64+b2%64<55296\/(57344<=c%16*4096+b1%64*64+b2%64/\c%16*4096+b1%64*64+b2%64<=1114111))
      .have:decodeN (x.length-i) c b1 b2 b3=(c%16*4096+b1%64*64+b2%64,3):=by
        unfold decodeN;rw[if_neg h1,if_neg (by omega),if_pos (by omega),if_pos hv]
       rw[this,if_neg (by omega),if_neg (by simp)]
      .have:decodeN (x.length-i) c b1 b2 b3=(65533,1):=by
        unfold decodeN;rw[if_neg h1,if_neg (by omega),if_pos (by omega),if_neg hv]
       rw[this,if_pos (by omega),if_pos ⟨rfl,rfl⟩]
     .rw[if_neg hb];simp only[osum];have:decodeN (x.length-i) c b1 b2 b3=(65533,1):=by
       unfold decodeN;rw[if_neg h1,if_neg (by omega),if_neg (by omega),if_neg (by omega)]
      rw[this,if_pos ⟨rfl,rfl⟩]
   .rw[if_neg h3];by_cases h4:240<=c/\c<245
    .rw[if_pos h4];simp only[osum];by_cases hlen:x.length-i<=3
     .rw[dT0 (by omega),azc];have:decodeN (x.length-i) c b1 b2 b3=(65533,1):=by
       unfold decodeN;rw[if_neg h1,if_neg (by omega),if_neg (by omega),if_neg (by omega)]
      rw[this,if_pos ⟨rfl,rfl⟩]
     .have r:=r3 (c%8) (by omega) (by omega);rw[m3 (by omega)]at r;have ck:=uzo (out:=out) (i:=i) (n:=3) (w:=((c%8*64+b1%64)*64+b2%64)*64+b3%64) (least:=65536) ho (by omega) (by omega);have z1:((3:Nat):Int)=3:=rfl;have z2:((65536:Nat):Int)=65536:=rfl;rw[z1]at r ck;rw[z2]at ck;rw[dF0 (by omega),azb,r,aza];by_cases hb:b1/64=2/\b2/64=2/\b3/64=2
      .rw[if_pos hb];simp only[osum];rw[ck];have e:((c%8*64+b1%64)*64+b2%64)*64+b3%64=c%8*262144+b1%64*4096+b2%64*64+b3%64:=by omega
       rw[e];by_cases hv:c%8*262144+b1%64*4096+b2%64*64+b3%64>=65536/\(c%8*262144+b1%64*4096+b2%64*64+b3%64<55296\/(57344<=c%8*262144+b1%64*4096+b2%64*64+b3%64/\c%8*262144+b1%64*4096+b2%64*64+b3%64<=1114111))
       .have:decodeN (x.length-i) c b1 b2 b3=(c%8*262144+b1%64*4096+b2%64*64+b3%64,4):=by
         unfold decodeN;rw[if_neg h1,if_neg (by omega),if_neg (by omega),if_pos (by omega),if_pos hv]
        rw[this,if_neg (by omega),if_neg (by simp)]
       .have:decodeN (x.length-i) c b1 b2 b3=(65533,1):=by
         unfold decodeN;rw[if_neg h1,if_neg (by omega),if_neg (by omega),if_pos (by omega),if_neg hv]
        rw[this,if_pos (by omega),if_pos ⟨rfl,rfl⟩]
      .rw[if_neg hb];simp only[osum];have:decodeN (x.length-i) c b1 b2 b3=(65533,1):=by
        unfold decodeN;rw[if_neg h1,if_neg (by omega),if_neg (by omega),if_neg (by omega)]
       rw[this,if_pos ⟨rfl,rfl⟩]
    .rw[if_neg h4];simp only[osum];have:decodeN (x.length-i) c b1 b2 b3=(65533,1):=by
      unfold decodeN;rw[if_neg h1];split
      .rw[if_neg (by omega)]
      .rw[if_neg (by omega)];split
       .rw[if_neg (by omega)]
       .rfl
     rw[this,if_pos ⟨rfl,rfl⟩]
theorem Azu {x:List UInt8}(hl:x.length<=4000000):gz8 x=some (if validD x=true then(rs x,true)else([],false)):=by
 obtain⟨y,h1,h2⟩:=czf (F:=izj) (fun z=>x.length-z.2.2.toNat) (fun z=>∃(i:Nat) (out:List Int),z=(x,out,(i:Int))/\i<=x.length/\out.length<=i/\validD (x.drop i)=validD x/\out++rs (x.drop i)=rs x)
  (fun y=>osum y (fun y=>some (y,true)) (fun y=>some y)=some (if validD x=true then(rs x,true)else([],false))) (by
  rintro back z ⟨i,out,rfl,hi,ho,hv,hr⟩ hb;unfold izj;simp only at hb ⊢;rcases Nat.lt_or_ge i x.length with hlt|hge
  .have hne:x.drop i≠[]:=fun e=>by have:=congrArg List.length e;simp at this;omega
   have hw:=decodeL_width (x.drop i);have hle:=decodeL_le (x.drop i) hne;rw[List.length_drop]at hle;rw[dT0 (by omega),azc,rune_is (by omega) (by omega) hlt,aza];unfold oneR;rw[validD_step _ hne]at hv;by_cases hbad:(decodeL (x.drop i)).1=65533/\(decodeL (x.drop i)).2=1
   .rw[if_pos hbad]at hv ⊢;rw[<-hv];exact⟨_,rfl,rfl⟩
   .rw[if_neg hbad]at hv ⊢;simp only[osum];rw[List.drop_drop]at hv;refine hb _ ⟨i+(decodeL (x.drop i)).2,_,rfl,by omega,by simp;omega,hv,?_⟩ (by simp only;omega);rw[fzx hne,List.drop_drop]at hr;rw[<-hr,List.append_assoc];rfl
  .rw[dF0 (by omega),azb];refine⟨_,rfl,?_⟩;rw[List.drop_eq_nil_of_le hge]at hv hr;rw[<-hv,<-hr];simp[osum,validD_nil,pzz]) (x,[],0) ⟨0,[],rfl,by omega,by simp,by simp,by simp⟩ (by simp only;omega)
 unfold gz8;have h3:ozI (x,[],0)=some y:=h1;rw[h3,aza];exact h2
end Go.Proofs.YtmkmofdnmllioaaGreatDoor