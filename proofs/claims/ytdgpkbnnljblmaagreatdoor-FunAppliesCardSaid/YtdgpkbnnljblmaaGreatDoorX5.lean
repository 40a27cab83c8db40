import Derived.Test.YtdgpkbnnljblmaaGreatDoorU3
import Derived.Shelf.Unicode.ValidAny
import Derived.Lib.ItoaNum
import Derived.Lib.ValidLaws
import Derived.Lib.IndexLaws
import Derived.Lib.TrimAscii
/- F1 -/
namespace Go.Proofs.YtdgpkbnnljblmaaGreatDoor
open Go Go.Ev
set_option linter.unusedVariables false
theorem mixed:Tryz.prog.follows .mixedOrders=true:=by kernel_rfl
def czu (x:Int):Option (Dec) :=
 some { M:=x,S:=0 }
def ez3:FSpec tb:=⟨[(0,.val 2)],[(0,.val 30)],czu⟩
theorem Nzb:∀ x,evFn Tryz.prog tb [] [] Tryz.f33 ez3.ins ez3.outs x=ez3.f x:=fun x=>by kernel_rfl
theorem dec_Int_k:fnK Tryz.f33 ez3.ins ez3.outs=true:=by kernel_rfl
theorem gzs:aze Tryz.prog tb 33 ez3:=azu mixed Tryz.func33 dec_Int_k .nil rfl Nzb
def izI (x:List UInt8×List UInt8):Option (Bool) :=
 brn (decide ((↑x.snd.length:Int)≤(↑x.fst.length:Int))) (obnd (sub x.fst 0 (↑x.snd.length:Int)) fun z=>some (decide (z=x.snd))) (some false)
def bzW:FSpec tb:=⟨[(0,.val 9),(1,.val 9)],[(0,.val 4)],izI⟩
theorem qz9:∀ x,evFn Tryz.prog tb [] [] Tryz.f254 bzW.ins bzW.outs x=bzW.f x:=fun x=>by kernel_rfl
theorem rzQ:fnK Tryz.f254 bzW.ins bzW.outs=true:=by kernel_rfl
theorem pzo:aze Tryz.prog tb 254 bzW:=azu mixed Tryz.func254 rzQ .nil rfl qz9
def izH (x:List UInt8×List UInt8):Option (List UInt8×Bool) :=
 obnd (izI x) fun y=>brn (!y) (some (x.fst,false)) (obnd (sub x.fst (↑x.snd.length:Int) (↑x.fst.length:Int)) fun z=>some (z,true))
def bzV:FSpec tb:=⟨[(0,.val 9),(1,.val 9)],[(0,.val 9),(1,.val 4)],izH⟩
theorem qz8:∀ x,evFn Tryz.prog tb [(254,bzW)] [] Tryz.f257 bzV.ins bzV.outs x=bzV.f x:=fun x=>by kernel_rfl
theorem rzP:fnK Tryz.f257 bzV.ins bzV.outs=true:=by kernel_rfl
theorem pzn:aze Tryz.prog tb 257 bzV:=azu mixed Tryz.func257 rzP (.cons pzo .nil) rfl qz8
def jzy (x:List UInt8×List UInt8):Option (List UInt8×Bool) :=
 obnd (izH x) fun y=>some y
def cz0:FSpec tb:=⟨[(0,.val 9),(1,.val 9)],[(0,.val 9),(1,.val 4)],jzy⟩
theorem uzK:∀ x,evFn Tryz.prog tb [(257,bzV)] [] Tryz.f230 cz0.ins cz0.outs x=cz0.f x:=fun x=>by kernel_rfl
theorem wzk:fnK Tryz.f230 cz0.ins cz0.outs=true:=by kernel_rfl
theorem szk:aze Tryz.prog tb 230 cz0:=azu mixed Tryz.func230 wzk (.cons pzn .nil) rfl uzK
def izK (x:List UInt8×UInt8):Option (Int) :=
 obnd (hz0 (x.fst,UInt8.ofNat (↑x.snd.toNat:Int).toNat)) fun y=>some y
def bzY:FSpec tb:=⟨[(0,.val 9),(1,.val 5)],[(0,.val 3)],izK⟩
theorem rzb:∀ x,evFn Tryz.prog tb [(290,lz6)] [] Tryz.f284 bzY.ins bzY.outs x=bzY.f x:=fun x=>by kernel_rfl
theorem rzS:fnK Tryz.f284 bzY.ins bzY.outs=true:=by kernel_rfl
theorem pzq:aze Tryz.prog tb 284 bzY:=azu mixed Tryz.func284 rzS (.consK ozZ .nil) rfl rzb
def izB (x:List UInt8×List UInt8):Option (Int) :=
 brn (decide ((↑x.snd.length:Int)=0)) (some 0)
  (brn (decide (x.snd=x.fst)) (some 0)
   (brn (decide ((↑x.snd.length:Int)=1)) (obnd (idx x.snd 0) fun y=>obnd (izK (x.fst,UInt8.ofNat (↑y.toNat:Int).toNat)) fun y=>some y)
    (brn (decide ((↑x.fst.length:Int)≤(↑x.snd.length:Int))) (some (-1)) none)))
def czG:FSpec tb:=⟨[(0,.val 9),(1,.val 9)],[(0,.val 3)],izB⟩
theorem tzk:∀ x,evFn Tryz.prog tb [(284,bzY)] [] Tryz.f276 czG.ins czG.outs x=czG.f x:=fun x=>by kernel_rfl
theorem tz4:fnK Tryz.f276 czG.ins czG.outs=true:=by kernel_rfl
theorem rzT:aze Tryz.prog tb 276 czG:=azu mixed Tryz.func276 tz4 (.cons pzq .nil) rfl tzk
def mz4 (x:List UInt8×List UInt8):Option (List UInt8×List UInt8×Bool) :=
 obnd (izB x) fun y =>
  brn (decide (0≤y)) (obnd (sub x.fst 0 y) fun z=>obnd (sub x.fst (IntKind.i64.wrap (y+(↑x.snd.length:Int))) (↑x.fst.length:Int)) fun z_1=>some (z,z_1,true))
   (some (x.fst,[],false))
def dze:FSpec tb:=⟨[(0,.val 9),(1,.val 9)],[(0,.val 9),(1,.val 9),(2,.val 4)],mz4⟩
theorem vzo:∀ x,evFn Tryz.prog tb [(276,czG)] [] Tryz.f258 dze.ins dze.outs x=dze.f x:=fun x=>by kernel_rfl
theorem wzL:fnK Tryz.f258 dze.ins dze.outs=true:=by kernel_rfl
theorem szX:aze Tryz.prog tb 258 dze:=azu mixed Tryz.func258 wzL (.cons rzT .nil) rfl vzo
def ozP (x:List UInt8×List UInt8):Option (List UInt8×List UInt8×Bool) :=
 obnd (mz4 x) fun y=>some (y.fst,y.2)
def izx:FSpec tb:=⟨[(0,.val 9),(1,.val 9)],[(0,.val 9),(1,.val 9),(2,.val 4)],ozP⟩
theorem Hzd:∀ x,evFn Tryz.prog tb [(258,dze)] [] Tryz.f231 izx.ins izx.outs x=izx.f x:=fun x=>by kernel_rfl
theorem Jzk:fnK Tryz.f231 izx.ins izx.outs=true:=by kernel_rfl
theorem zzQ:aze Tryz.prog tb 231 izx:=azu mixed Tryz.func231 Jzk (.cons szX .nil) rfl Hzd
def izJ (x:List UInt8×List UInt8):Option (Bool) :=
 brn (decide ((↑x.snd.length:Int)≤(↑x.fst.length:Int)))
  (obnd (sub x.fst (IntKind.i64.wrap ((↑x.fst.length:Int) - (↑x.snd.length:Int))) (↑x.fst.length:Int)) fun z=>some (decide (z=x.snd))) (some false)
def bzX:FSpec tb:=⟨[(0,.val 9),(1,.val 9)],[(0,.val 4)],izJ⟩
theorem rza:∀ x,evFn Tryz.prog tb [] [] Tryz.f259 bzX.ins bzX.outs x=bzX.f x:=fun x=>by kernel_rfl
theorem rzR:fnK Tryz.f259 bzX.ins bzX.outs=true:=by kernel_rfl
theorem pzp:aze Tryz.prog tb 259 bzX:=azu mixed Tryz.func259 rzR .nil rfl rza
def fz6 (x:List UInt8×List UInt8):Option (Bool) :=
 obnd (izJ x) fun y=>some y
def cz1:FSpec tb:=⟨[(0,.val 9),(1,.val 9)],[(0,.val 4)],fz6⟩
theorem uzL:∀ x,evFn Tryz.prog tb [(259,bzX)] [] Tryz.f232 cz1.ins cz1.outs x=cz1.f x:=fun x=>by kernel_rfl
theorem wzl:fnK Tryz.f232 cz1.ins cz1.outs=true:=by kernel_rfl
theorem szl:aze Tryz.prog tb 232 cz1:=azu mixed Tryz.func232 wzl (.cons pzp .nil) rfl uzL
abbrev qz2:List (Nat×FSpec tb):=[(230,cz0),(231,izx),(232,cz1)]
theorem qzr:azz Tryz.prog tb qz2:=(.cons szk (.cons zzQ (.cons szl .nil)))
def lzz (back:Wide×Bool×Bool×((List UInt8×Nat))→Option ((Bool×Bool)×(Wide×((List UInt8×Nat))))) (x:Wide×Bool×Bool×((List UInt8×Nat))):Option ((Bool×Bool)×(Wide×((List UInt8×Nat)))) :=
  brn (decide (x.2.2.snd.snd < x.2.2.snd.fst.length))
    (brn (decide ((↑(rune x.2.2.snd.fst x.2.2.snd.snd).fst:Int) < 48)) (back (x.fst,true,x.2.2.fst,x.2.2.snd.fst,x.2.2.snd.snd+(rune x.2.2.snd.fst x.2.2.snd.snd).snd))
      (brn (decide (57 < (↑(rune x.2.2.snd.fst x.2.2.snd.snd).fst:Int))) (back (x.fst,true,x.2.2.fst,x.2.2.snd.fst,x.2.2.snd.snd+(rune x.2.2.snd.fst x.2.2.snd.snd).snd))
        (brn x.2.2.fst (back (x.fst,x.2.fst,true,x.2.2.snd.fst,x.2.2.snd.snd+(rune x.2.2.snd.fst x.2.2.snd.snd).snd))
          (brn (!decide (1844674407370955160 < x.fst.lo))
            (back
              ({ hi := x.fst.hi,
                  lo:=IntKind.u64.wrap (IntKind.u64.wrap (x.fst.lo*10)+IntKind.u64.wrap (IntKind.i32.wrap ((↑(rune x.2.2.snd.fst x.2.2.snd.snd).fst:Int) - 48))),
                  minus := x.fst.minus },
                x.2.fst,decide (1844674407370955160 < x.fst.lo),x.2.2.snd.fst,x.2.2.snd.snd+(rune x.2.2.snd.fst x.2.2.snd.snd).snd))
            (back (x.fst,x.2.fst,decide (1844674407370955160 < x.fst.lo),x.2.2.snd.fst,x.2.2.snd.snd+(rune x.2.2.snd.fst x.2.2.snd.snd).snd))))))
    (some ((x.2.fst,x.2.2.fst),x.fst,x.2.2.snd))
def czi:Wide×Bool×Bool×((List UInt8×Nat))→Option ((Bool×Bool)×(Wide×((List UInt8×Nat)))):=iter lzz big
def izP:CutSpec tb:=⟨68,[(9,.ref 154),(10,.val 4),(11,.val 4),(53,.iter)],[((.exit 0),[(10,.val 4),(11,.val 4)])],[54,55,56,13,57,58,59,60,61,62,10,63,64,65,66,67,68,11,69,70,71,72,73,74,75,76,77,78],czi⟩
theorem CzX:∀ back x,azy Tryz.prog tb qz2 [] (azd 68 Tryz.f176) izP.ins izP.outs back x=lzz back x:=fun back x=>by kernel_rfl
theorem FzD:cutB Tryz.f176.ntmps izP (azd 68 Tryz.f176)=true:=by kernel_rfl
theorem CzY:azg ([]:List (CutSpec tb)) (azd 68 Tryz.f176)=[]:=by kernel_rfl
theorem AzJ:azi Tryz.prog tb Tryz.f176.ntmps (.loop (azd 68 Tryz.f176)) izP:=azw mixed FzD qzr rfl CzY .nil lzz CzX rfl
def czx (x:Dec×Bool×List UInt8×Wide×Bool×Bool):Option (((Unit)×Dec)⊕((Int)×Dec)) :=
 brn x.2.2.2.2.fst (some (Sum.inr (2,{ M:=0,S:=0 })))
  (brn x.2.2.2.2.snd (some (Sum.inr (8,{ M:=0,S:=0 })))
   (brn (decide (9223372036854775808 < x.2.2.2.fst.lo)) (some (Sum.inr (8,{ M:=0,S:=0 })))
    (brn (decide (x.2.2.2.fst.lo=9223372036854775808))
     (brn (!x.2.fst) (some (Sum.inr (8,{ M:=0,S:=0 })))
      (brn (decide (9 < (↑x.2.2.fst.length:Int))) (some (Sum.inr (1,{ M:=0,S:=0 })))
       (obnd (fz6 (x.2.2.fst,[48])) fun y =>
        brn y (some (Sum.inr (1,{ M:=0,S:=0 })))
         (brn x.2.fst (some (Sum.inr (0,{ M:=IntKind.i64.wrap (IntKind.u64.wrap (0 - x.2.2.2.fst.lo)),S:=(↑x.2.2.fst.length:Int) })))
          (some (Sum.inl ((),x.fst)))))))
     (brn (decide (9 < (↑x.2.2.fst.length:Int))) (some (Sum.inr (1,{ M:=0,S:=0 })))
      (obnd (fz6 (x.2.2.fst,[48])) fun y =>
       brn y (some (Sum.inr (1,{ M:=0,S:=0 })))
        (brn x.2.fst (some (Sum.inr (0,{ M:=IntKind.i64.wrap (IntKind.u64.wrap (0 - x.2.2.2.fst.lo)),S:=(↑x.2.2.fst.length:Int) })))
         (some (Sum.inl ((),x.fst)))))))))
def gzt:CutSpec tb:=⟨123,[(2,.ref 30),(5,.val 4),(7,.val 9),(9,.ro 154),(10,.val 4),(11,.val 4)],[(.normal,[]),(.ret,[(3,.val 63)])],[80,79,81,3,83,84,85,86,87,88,89,90,91,92,93,94,95,96,97,82,98,100,101,102,103,104,105,106,99,107,109,108,110,111,112,113,114,115,116],czx⟩
theorem CzV:∀ x,bzD Tryz.prog tb qz2 [] (azf 123 Tryz.f176) gzt.ins gzt.outs x=gzt.J x:=fun x=>by kernel_rfl
theorem FzC:cutB Tryz.f176.ntmps gzt (azf 123 Tryz.f176)=true:=by kernel_rfl
theorem CzW:azg ([]:List (CutSpec tb)) (azf 123 Tryz.f176)=[]:=by kernel_rfl
theorem AzI:azi Tryz.prog tb Tryz.f176.ntmps (azf 123 Tryz.f176) gzt:=bzl mixed FzC qzr rfl CzW .nil CzV
def qz1 (x:List UInt8):Option (Dec×Int) :=
 obnd (jzy (x,[45])) fun y =>
  obnd (ozP (y.fst,[46])) fun y_1 =>
   brn (decide (y_1.fst=[]))
    (obnd (cat y_1.fst y_1.2.fst) fun z =>
     obnd (czi ({ hi:=0,lo:=0,minus:=y.snd },true,false,z,0)) fun y_2 =>
      obnd (czx ({ M:=0,S:=0 },y.snd,y_1.2.fst,y_2.2.fst,y_2.1)) fun y =>
       osum y (fun y=>some ({ M:=IntKind.i64.wrap y_2.2.fst.lo,S:=(↑(List.length y_1.2.fst):Int) },0)) fun y=>some (y.2,y.1))
    (brn y_1.2.snd
     (brn (decide (y_1.2.fst=[]))
      (obnd (cat y_1.fst y_1.2.fst) fun z =>
       obnd (czi ({ hi:=0,lo:=0,minus:=y.snd },true,false,z,0)) fun y_2 =>
        obnd (czx ({ M:=0,S:=0 },y.snd,y_1.2.fst,y_2.2.fst,y_2.1)) fun y =>
         osum y (fun y=>some ({ M:=IntKind.i64.wrap y_2.2.fst.lo,S:=(↑(List.length y_1.2.fst):Int) },0)) fun y=>some (y.2,y.1))
      (brn (decide (1 < (↑(List.length y_1.fst):Int)))
       (obnd (idx y_1.fst 0) fun y_2 =>
        brn (decide ((↑y_2.toNat:Int)=48))
         (obnd (cat y_1.fst y_1.2.fst) fun z =>
          obnd (czi ({ hi:=0,lo:=0,minus:=y.snd },true,false,z,0)) fun y_3 =>
           obnd (czx ({ M:=0,S:=0 },y.snd,y_1.2.fst,y_3.2.fst,y_3.1)) fun y =>
            osum y (fun y=>some ({ M:=IntKind.i64.wrap y_3.2.fst.lo,S:=(↑(List.length y_1.2.fst):Int) },0)) fun y=>some (y.2,y.1))
         (obnd (cat y_1.fst y_1.2.fst) fun z =>
          obnd (czi ({ hi:=0,lo:=0,minus:=y.snd },decide (x=[45,48]),false,z,0)) fun y_3 =>
           obnd (czx ({ M:=0,S:=0 },y.snd,y_1.2.fst,y_3.2.fst,y_3.1)) fun y =>
            osum y (fun y=>some ({ M:=IntKind.i64.wrap y_3.2.fst.lo,S:=(↑(List.length y_1.2.fst):Int) },0)) fun y=>some (y.2,y.1)))
       (obnd (cat y_1.fst y_1.2.fst) fun z =>
        obnd (czi ({ hi:=0,lo:=0,minus:=y.snd },decide (x=[45,48]),false,z,0)) fun y_2 =>
         obnd (czx ({ M:=0,S:=0 },y.snd,y_1.2.fst,y_2.2.fst,y_2.1)) fun y =>
          osum y (fun y=>some ({ M:=IntKind.i64.wrap y_2.2.fst.lo,S:=(↑(List.length y_1.2.fst):Int) },0)) fun y=>some (y.2,y.1))))
     (brn (decide (1 < (↑(List.length y_1.fst):Int)))
      (obnd (idx y_1.fst 0) fun y_2 =>
       brn (decide ((↑y_2.toNat:Int)=48))
        (obnd (cat y_1.fst y_1.2.fst) fun z =>
         obnd (czi ({ hi:=0,lo:=0,minus:=y.snd },true,false,z,0)) fun y_3 =>
          obnd (czx ({ M:=0,S:=0 },y.snd,y_1.2.fst,y_3.2.fst,y_3.1)) fun y =>
           osum y (fun y=>some ({ M:=IntKind.i64.wrap y_3.2.fst.lo,S:=(↑(List.length y_1.2.fst):Int) },0)) fun y=>some (y.2,y.1))
        (obnd (cat y_1.fst y_1.2.fst) fun z =>
         obnd (czi ({ hi:=0,lo:=0,minus:=y.snd },decide (x=[45,48]),false,z,0)) fun y_3 =>
          obnd (czx ({ M:=0,S:=0 },y.snd,y_1.2.fst,y_3.2.fst,y_3.1)) fun y =>
           osum y (fun y=>some ({ M:=IntKind.i64.wrap y_3.2.fst.lo,S:=(↑(List.length y_1.2.fst):Int) },0)) fun y=>some (y.2,y.1)))
      (obnd (cat y_1.fst y_1.2.fst) fun z =>
       obnd (czi ({ hi:=0,lo:=0,minus:=y.snd },decide (x=[45,48]),false,z,0)) fun y_2 =>
        obnd (czx ({ M:=0,S:=0 },y.snd,y_1.2.fst,y_2.2.fst,y_2.1)) fun y =>
         osum y (fun y=>some ({ M:=IntKind.i64.wrap y_2.2.fst.lo,S:=(↑(List.length y_1.2.fst):Int) },0)) fun y=>some (y.2,y.1))))
def kzW:FSpec tb:=⟨[(0,.val 9)],[(0,.val 30),(1,.val 63)],qz1⟩
theorem JzF:∀ x,evFn Tryz.prog tb qz2 [izP,gzt] Tryz.f176 kzW.ins kzW.outs x=kzW.f x:=fun x=>by kernel_rfl
theorem LzN:fnK Tryz.f176 kzW.ins kzW.outs=true:=by kernel_rfl
theorem JzG:azg ([izP,gzt]:List (CutSpec tb)) (azA Tryz.f176)=[(68,.loop (azd 68 Tryz.f176)),(123,azf 123 Tryz.f176)]:=by kernel_rfl
theorem CzZ:aze Tryz.prog tb 176 kzW:=azJ mixed Tryz.func176 LzN qzr rfl JzG (.cons rfl AzJ rfl (.cons rfl AzI rfl .nil)) JzF
def mzO (x:Int):Option (Wide) :=
 brn (decide (x < 0)) (some { hi:=0,lo:=IntKind.u64.wrap (0 - IntKind.u64.wrap x),minus:=true }) (some { hi:=0,lo:=IntKind.u64.wrap x,minus:=false })
def kzg:FSpec tb:=⟨[(0,.val 2)],[(0,.val 154)],mzO⟩
theorem dec_of_eq:∀ x,evFn Tryz.prog tb [] [] Tryz.f94 kzg.ins kzg.outs x=kzg.f x:=fun x=>by kernel_rfl
theorem dec_of_k:fnK Tryz.f94 kzg.ins kzg.outs=true:=by kernel_rfl
theorem mzc:aze Tryz.prog tb 94 kzg:=azu mixed Tryz.func94 dec_of_k .nil rfl dec_of_eq
def izC (x:Int×Int):Option (List UInt8) :=
 obnd (ezj x) fun y=>some y
def czH:FSpec tb:=⟨[(0,.val 152),(1,.val 3)],[(0,.val 9)],izC⟩
theorem tzu:∀ x,evFn Tryz.prog tb [(256,ozx)] [] Tryz.f229 czH.ins czH.outs x=czH.f x:=fun x=>by kernel_rfl
theorem uzJ:fnK Tryz.f229 czH.ins czH.outs=true:=by kernel_rfl
theorem szc:aze Tryz.prog tb 229 czH:=azu mixed Tryz.func229 uzJ (.cons qz7 .nil) rfl tzu
def szn (x:Dec):Option (List UInt8) :=
 obnd (mzO x.M) fun y =>
  obnd (izC (y.lo,10)) fun y_1 =>
   brn (decide (0 < x.S))
    (obnd
     (czN
      ([48],
       bif decide (IntKind.i64.wrap (IntKind.i64.wrap (x.S+1) - (↑(List.length y_1):Int)) < 0) then 0
       else IntKind.i64.wrap (IntKind.i64.wrap (x.S+1) - (↑(List.length y_1):Int))))
     fun y_2 =>
     obnd (cat y_2 y_1) fun z =>
      obnd (sub z 0 (IntKind.i64.wrap ((↑z.length:Int) - x.S))) fun z_1 =>
       obnd (cat z_1 [46]) fun z_2 =>
        obnd (sub z (IntKind.i64.wrap ((↑z.length:Int) - x.S)) (↑z.length:Int)) fun z =>
         obnd (cat z_2 z) fun z=>brn y.minus (obnd (cat [45] z) fun z=>some z) (some z))
    (brn y.minus (obnd (cat [45] y_1) fun z=>some z) (some y_1))
def mzb:FSpec tb:=⟨[(0,.val 30)],[(0,.val 9)],szn⟩
theorem LzP:∀ x,evFn Tryz.prog tb [(94,kzg),(229,czH),(157,ozQ)] [] Tryz.f175 mzb.ins mzb.outs x=mzb.f x:=fun x=>by kernel_rfl
theorem Nzf:fnK Tryz.f175 mzb.ins mzb.outs=true:=by kernel_rfl
theorem FzE:aze Tryz.prog tb 175 mzb:=azu mixed Tryz.func175 Nzf (.cons mzc (.cons szc (.cons ozR .nil))) rfl LzP
def lzA (back:Int×Int×Int→Option (Int)) (x:Int×Int×Int):Option (Int) :=
 brn (decide (x.2.snd < x.2.fst)) (back (IntKind.u64.wrap (x.fst*10),x.2.fst,IntKind.i64.wrap (x.2.snd+1))) (some x.1)
def qzt:Int×Int×Int→Option (Int):=iter lzA big
def izQ:CutSpec tb:=⟨36,[(3,.val 152),(4,.val 3),(5,.val 3)],[((.exit 0),[(3,.val 152)])],[6,7,8,3,9,5],qzt⟩
theorem Cz1:∀ back x,azy Tryz.prog tb [] [] (azd 36 Tryz.f96) izQ.ins izQ.outs back x=lzA back x:=fun back x=>by kernel_rfl
theorem FzF:cutB Tryz.f96.ntmps izQ (azd 36 Tryz.f96)=true:=by kernel_rfl
theorem Cz2:azg ([]:List (CutSpec tb)) (azd 36 Tryz.f96)=[]:=by kernel_rfl
theorem AzK:azi Tryz.prog tb Tryz.f96.ntmps (.loop (azd 36 Tryz.f96)) izQ:=azw mixed FzF .nil rfl Cz2 .nil lzA Cz1 rfl
def fzM (x:Int):Option (Int) :=
 obnd (qzt (1,x,0)) fun y=>some y
def eze:FSpec tb:=⟨[(0,.val 3)],[(0,.val 152)],fzM⟩
theorem JzI:∀ x,evFn Tryz.prog tb [] [izQ] Tryz.f96 eze.ins eze.outs x=eze.f x:=fun x=>by kernel_rfl
theorem LzQ:fnK Tryz.f96 eze.ins eze.outs=true:=by kernel_rfl
theorem JzJ:azg ([izQ]:List (CutSpec tb)) (azA Tryz.f96)=[(36,.loop (azd 36 Tryz.f96))]:=by kernel_rfl
theorem jzh:aze Tryz.prog tb 96 eze:=azJ mixed Tryz.func96 LzQ .nil rfl JzJ (.cons rfl AzK rfl .nil) JzI
def nzg (x:Int×Int):Option (Int×Int) :=
 some
  (IntKind.u64.wrap
   (IntKind.u64.wrap
    (IntKind.u64.wrap (x.fst.fdiv 4294967296*x.snd.fdiv 4294967296) +
     (IntKind.u64.wrap
      (IntKind.u64.wrap (x.fst.fdiv 4294967296*azn BinOp.and IntKind.u64 x.snd 4294967295) +
       (IntKind.u64.wrap (azn BinOp.and IntKind.u64 x.fst 4294967295*azn BinOp.and IntKind.u64 x.snd 4294967295)).fdiv 4294967296)).fdiv
      4294967296) +
    (IntKind.u64.wrap
     (azn BinOp.and IntKind.u64
      (IntKind.u64.wrap
       (IntKind.u64.wrap (x.fst.fdiv 4294967296*azn BinOp.and IntKind.u64 x.snd 4294967295) +
        (IntKind.u64.wrap (azn BinOp.and IntKind.u64 x.fst 4294967295*azn BinOp.and IntKind.u64 x.snd 4294967295)).fdiv 4294967296))
      4294967295 +
      IntKind.u64.wrap (azn BinOp.and IntKind.u64 x.fst 4294967295*x.snd.fdiv 4294967296))).fdiv
     4294967296),
   IntKind.u64.wrap (x.fst*x.snd))
def hza:FSpec tb:=⟨[(0,.val 152),(1,.val 152)],[(0,.val 152),(1,.val 152)],nzg⟩
theorem Hz1:∀ x,evFn Tryz.prog tb [] [] Tryz.f98 hza.ins hza.outs x=hza.f x:=fun x=>by kernel_rfl
theorem Jzv:fnK Tryz.f98 hza.ins hza.outs=true:=by kernel_rfl
theorem rzB:aze Tryz.prog tb 98 hza:=azu mixed Tryz.func98 Jzv .nil rfl Hz1
def fz9 (x:Wide×Int):Option (Wide) :=
 obnd (nzg (x.fst.lo,x.snd)) fun y=>some { hi:=IntKind.u64.wrap (IntKind.u64.wrap (x.fst.hi*x.snd)+y.fst),lo:=y.snd,minus:=x.fst.minus }
def czJ:FSpec tb:=⟨[(0,.val 154),(1,.val 152)],[(0,.val 154)],fz9⟩
theorem yzD:∀ x,evFn Tryz.prog tb [(98,hza)] [] Tryz.f95 czJ.ins czJ.outs x=czJ.f x:=fun x=>by kernel_rfl
theorem AzO:fnK Tryz.f95 czJ.ins czJ.outs=true:=by kernel_rfl
theorem kz3:aze Tryz.prog tb 95 czJ:=azu mixed Tryz.func95 AzO (.cons rzB .nil) rfl yzD
def dz5 (x:Dec):Option (Wide) :=
 obnd (mzO x.M) fun y=>obnd (fzM (IntKind.i64.wrap (9 - x.S))) fun y_1=>obnd (fz9 (y,y_1)) fun y=>some y
def dz6:FSpec tb:=⟨[(0,.val 30)],[(0,.val 154)],dz5⟩
theorem Hz6:∀ x,evFn Tryz.prog tb [(94,kzg),(96,eze),(95,czJ)] [] Tryz.f89 dz6.ins dz6.outs x=dz6.f x:=fun x=>by kernel_rfl
theorem JzK:fnK Tryz.f89 dz6.ins dz6.outs=true:=by kernel_rfl
theorem kz0:aze Tryz.prog tb 89 dz6:=azu mixed Tryz.func89 JzK (.cons mzc (.cons jzh (.cons kz3 .nil))) rfl Hz6
def kzT (x:Int):Option (Bool) :=
 some (bif decide (x=x) then false else true)
def dzL:FSpec tb:=⟨[(0,.val 2)],[(0,.val 4)],kzT⟩
theorem wzr:∀ x,evFn Tryz.prog tb [] [] Tryz.f177 dzL.ins dzL.outs x=dzL.f x:=fun x=>by kernel_rfl
theorem yzz:fnK Tryz.f177 dzL.ins dzL.outs=true:=by kernel_rfl
theorem tza:aze Tryz.prog tb 177 dzL:=azu mixed Tryz.func177 yzz .nil rfl wzr
def fzR (x:Int×Int):Option (Int) :=
 obnd (kzT x.fst) fun y =>
  obnd (kzT x.snd) fun y_1 =>
   brn y (brn y_1 (some 0) (some (-1))) (brn y_1 (some 1) (brn (decide (x.fst < x.snd)) (some (-1)) (brn (decide (x.snd < x.fst)) (some 1) (some 0))))
def czU:FSpec tb:=⟨[(0,.val 2),(1,.val 2)],[(0,.val 3)],fzR⟩
theorem tzQ:∀ x,evFn Tryz.prog tb [(177,dzL)] [] Tryz.f90 czU.ins czU.outs x=czU.f x:=fun x=>by kernel_rfl
theorem vzj:fnK Tryz.f90 czU.ins czU.outs=true:=by kernel_rfl
theorem szh:aze Tryz.prog tb 90 czU:=azu mixed Tryz.func90 vzj (.cons tza .nil) rfl tzQ
def mzM (x:Int):Option (Bool) :=
 some (bif decide (x=x) then false else true)
def ez2:FSpec tb:=⟨[(0,.val 3)],[(0,.val 4)],mzM⟩
theorem AzD:∀ x,evFn Tryz.prog tb [] [] Tryz.f173 ez2.ins ez2.outs x=ez2.f x:=fun x=>by kernel_rfl
theorem CzN:fnK Tryz.f173 ez2.ins ez2.outs=true:=by kernel_rfl
theorem vzl:aze Tryz.prog tb 173 ez2:=azu mixed Tryz.func173 CzN .nil rfl AzD
def bzs (x:Int×Int):Option (Int) :=
 obnd (mzM x.fst) fun y =>
  obnd (mzM x.snd) fun y_1 =>
   brn y (brn y_1 (some 0) (some (-1))) (brn y_1 (some 1) (brn (decide (x.fst < x.snd)) (some (-1)) (brn (decide (x.snd < x.fst)) (some 1) (some 0))))
def czt:FSpec tb:=⟨[(0,.val 3),(1,.val 3)],[(0,.val 3)],bzs⟩
theorem wzp:∀ x,evFn Tryz.prog tb [(173,ez2)] [] Tryz.f80 czt.ins czt.outs x=czt.f x:=fun x=>by kernel_rfl
theorem yzy:fnK Tryz.f80 czt.ins czt.outs=true:=by kernel_rfl
theorem kze:aze Tryz.prog tb 80 czt:=azu mixed Tryz.func80 yzy (.cons vzl .nil) rfl wzp
def dzX (x:Wide×Wide):Option (Bool) :=
 brn (decide (x.fst.hi < x.snd.hi)) (some true) (brn (decide (x.fst.hi=x.snd.hi)) (some (decide (x.fst.lo < x.snd.lo))) (some false))
def dzY:FSpec tb:=⟨[(0,.val 154),(1,.val 154)],[(0,.val 4)],dzX⟩
theorem AzL:∀ x,evFn Tryz.prog tb [] [] Tryz.f91 dzY.ins dzY.outs x=dzY.f x:=fun x=>by kernel_rfl
theorem Cz5:fnK Tryz.f91 dzY.ins dzY.outs=true:=by kernel_rfl
theorem oz6:aze Tryz.prog tb 91 dzY:=azu mixed Tryz.func91 Cz5 .nil rfl AzL
def ezd (x:Dec×Dec):Option (Int) :=
 obnd (dz5 x.fst) fun y =>
  obnd (dz5 x.snd) fun y_1 =>
   brn (!decide (y.minus=y_1.minus))
    (obnd (fzR (x.fst.M,0)) fun y=>obnd (fzR (x.snd.M,0)) fun y_2=>obnd (bzs (y,y_2)) fun y=>some y)
    (brn y.minus (obnd (dzX (y,y_1)) fun y_2=>brn y_2 (some 1) (obnd (dzX (y_1,y)) fun y=>brn y (some (-1)) (some 0)))
     (obnd (dzX (y,y_1)) fun y_2=>brn y_2 (some (-1)) (obnd (dzX (y_1,y)) fun y=>brn y (some 1) (some 0))))
def dzA:FSpec tb:=⟨[(0,.val 30),(1,.val 30)],[(0,.val 3)],ezd⟩
theorem Fzy:∀ x,evFn Tryz.prog tb [(89,dz6),(90,czU),(80,czt),(91,dzY)] [] Tryz.f34 dzA.ins dzA.outs x=dzA.f x:=fun x=>by kernel_rfl
theorem Hz4:fnK Tryz.f34 dzA.ins dzA.outs=true:=by kernel_rfl
theorem jz0:aze Tryz.prog tb 34 dzA:=azu mixed Tryz.func34 Hz4 (.cons kz0 (.cons szh (.cons kze (.cons oz6 .nil)))) rfl Fzy
def hzt (x:Wide×Wide):Option (Wide) :=
 brn (decide (x.fst.minus=x.snd.minus))
  (obnd (jzB (x.fst.lo,x.snd.lo,0)) fun y=>some { hi:=IntKind.u64.wrap (IntKind.u64.wrap (x.fst.hi+x.snd.hi)+y.snd),lo:=y.fst,minus:=x.fst.minus })
  (obnd (dzX x) fun y =>
   brn y (obnd (lzP (x.snd.lo,x.fst.lo,0)) fun y=>some { hi:=IntKind.u64.wrap (IntKind.u64.wrap (x.snd.hi - x.fst.hi) - y.snd),lo:=y.fst,minus:=x.snd.minus })
    (obnd (lzP (x.fst.lo,x.snd.lo,0)) fun y=>some { hi:=IntKind.u64.wrap (IntKind.u64.wrap (x.fst.hi - x.snd.hi) - y.snd),lo:=y.fst,minus:=x.fst.minus }))
def dzZ:FSpec tb:=⟨[(0,.val 154),(1,.val 154)],[(0,.val 154)],hzt⟩
theorem AzM:∀ x,evFn Tryz.prog tb [(178,szR),(91,dzY),(179,zzZ)] [] Tryz.f92 dzZ.ins dzZ.outs x=dzZ.f x:=fun x=>by kernel_rfl
theorem Cz6:fnK Tryz.f92 dzZ.ins dzZ.outs=true:=by kernel_rfl
theorem oz7:aze Tryz.prog tb 92 dzZ:=azu mixed Tryz.func92 Cz6 (.consK rzA (.cons oz6 (.consK Azz .nil))) rfl AzM
abbrev pzS:List (Nat×FSpec tb):=[(260,ozc)]
theorem pza:azz Tryz.prog tb pzS:=(.cons qzZ .nil)
def hzo (back:Int×Int×Int×Int×Int→Option (Int)) (x:Int×Int×Int×Int×Int):Option (Int) :=
 brn (decide (4294967296≤x.2.2.2.fst))
  (brn (decide (4294967296≤IntKind.u64.wrap (x.2.2.2.snd+x.fst))) (some (IntKind.u64.wrap (x.2.2.2.fst - 1)))
   (back (x.fst,x.2.fst,x.2.2.fst,IntKind.u64.wrap (x.2.2.2.fst - 1),IntKind.u64.wrap (x.2.2.2.snd+x.fst))))
  (brn (decide (IntKind.u64.wrap (IntKind.u64.wrap (4294967296*x.2.2.2.snd)+x.2.2.fst) < IntKind.u64.wrap (x.2.2.2.fst*x.2.fst)))
   (brn (decide (4294967296≤IntKind.u64.wrap (x.2.2.2.snd+x.fst))) (some (IntKind.u64.wrap (x.2.2.2.fst - 1)))
    (back (x.fst,x.2.fst,x.2.2.fst,IntKind.u64.wrap (x.2.2.2.fst - 1),IntKind.u64.wrap (x.2.2.2.snd+x.fst))))
   (some x.2.2.2.1))
def mzK:Int×Int×Int×Int×Int→Option (Int):=iter hzo big
def hzn:CutSpec tb:=⟨148,[(9,.val 152),(10,.val 152),(13,.val 152),(15,.val 152),(16,.val 152)],[((.exit 0),[(15,.val 152)])],[67,68,69,70,71,72,73,74,75,76,77,78,79,80,15,81,82,83,16,84,85],mzK⟩
theorem Azu:∀ back x,azy Tryz.prog tb pzS [] (azd 148 Tryz.f233) hzn.ins hzn.outs back x=hzo back x:=fun back x=>by kernel_rfl
theorem CzJ:cutB Tryz.f233.ntmps hzn (azd 148 Tryz.f233)=true:=by kernel_rfl
theorem Azv:azg ([]:List (CutSpec tb)) (azd 148 Tryz.f233)=[]:=by kernel_rfl
theorem yzw:azi Tryz.prog tb Tryz.f233.ntmps (.loop (azd 148 Tryz.f233)) hzn:=azw mixed CzJ pza rfl Azv .nil hzo Azu rfl
def hzq (back:Int×Int×Int×Int×Int→Option (Int)) (x:Int×Int×Int×Int×Int):Option (Int) :=
 brn (decide (4294967296≤x.2.2.2.snd))
  (brn (decide (4294967296≤IntKind.u64.wrap (x.2.2.2.fst+x.fst))) (some (IntKind.u64.wrap (x.2.2.2.snd - 1)))
   (back (x.fst,x.2.fst,x.2.2.fst,IntKind.u64.wrap (x.2.2.2.fst+x.fst),IntKind.u64.wrap (x.2.2.2.snd - 1))))
  (brn (decide (IntKind.u64.wrap (IntKind.u64.wrap (4294967296*x.2.2.2.fst)+x.2.2.fst) < IntKind.u64.wrap (x.2.2.2.snd*x.2.fst)))
   (brn (decide (4294967296≤IntKind.u64.wrap (x.2.2.2.fst+x.fst))) (some (IntKind.u64.wrap (x.2.2.2.snd - 1)))
    (back (x.fst,x.2.fst,x.2.2.fst,IntKind.u64.wrap (x.2.2.2.fst+x.fst),IntKind.u64.wrap (x.2.2.2.snd - 1))))
   (some x.2.2.2.2))
def mzL:Int×Int×Int×Int×Int→Option (Int):=iter hzq big
def hzp:CutSpec tb:=⟨204,[(9,.val 152),(10,.val 152),(14,.val 152),(16,.val 152),(18,.val 152)],[((.exit 2),[(18,.val 152)])],[102,103,104,105,106,107,108,109,110,111,112,113,114,115,18,116,117,118,16,119,120],mzL⟩
theorem Azw:∀ back x,azy Tryz.prog tb pzS [] (azd 204 Tryz.f233) hzp.ins hzp.outs back x=hzq back x:=fun back x=>by kernel_rfl
theorem CzK:cutB Tryz.f233.ntmps hzp (azd 204 Tryz.f233)=true:=by kernel_rfl
theorem Azx:azg ([]:List (CutSpec tb)) (azd 204 Tryz.f233)=[]:=by kernel_rfl
theorem yzx:azi Tryz.prog tb Tryz.f233.ntmps (.loop (azd 204 Tryz.f233)) hzp:=azw mixed CzK pza rfl Azx .nil hzq Azw rfl
def nzf (x:Int×Int×Int):Option (Int×Int) :=
 brn (decide (x.2.snd=0)) none
  (brn (decide (x.2.snd≤x.fst)) none
   (brn (decide (x.fst=0)) (brn (decide (x.2.snd=0)) none (brn (decide (x.2.snd=0)) none (some (IntKind.u64.wrap (x.2.fst.tdiv x.2.snd),x.2.fst.tmod x.2.snd))))
    (obnd (gz3 x.2.snd) fun y =>
     brn (decide (IntKind.u64.wrap y < 0)) none
      (brn (decide (IntKind.u64.wrap y < 0)) none
       (brn (decide (IntKind.u64.wrap (64 - IntKind.u64.wrap y) < 0)) none
        (brn (decide (IntKind.u64.wrap y < 0)) none
         (brn (decide ((IntKind.u64.wrap (x.2.snd*2 ^ min (IntKind.u64.wrap y).toNat 64)).fdiv 4294967296=0)) none
          (obnd
           (mzK
            ((IntKind.u64.wrap (x.2.snd*2 ^ min (IntKind.u64.wrap y).toNat 64)).fdiv 4294967296,
             azn BinOp.and IntKind.u64 (IntKind.u64.wrap (x.2.snd*2 ^ min (IntKind.u64.wrap y).toNat 64)) 4294967295,
             (IntKind.u64.wrap (x.2.fst*2 ^ min (IntKind.u64.wrap y).toNat 64)).fdiv 4294967296,
             IntKind.u64.wrap
              ((azn BinOp.or IntKind.u64 (IntKind.u64.wrap (x.fst*2 ^ min (IntKind.u64.wrap y).toNat 64))
               (x.2.fst.fdiv (2 ^ min (IntKind.u64.wrap (64 - IntKind.u64.wrap y)).toNat 64))).tdiv
               ((IntKind.u64.wrap (x.2.snd*2 ^ min (IntKind.u64.wrap y).toNat 64)).fdiv 4294967296)),
             IntKind.u64.wrap
              (azn BinOp.or IntKind.u64 (IntKind.u64.wrap (x.fst*2 ^ min (IntKind.u64.wrap y).toNat 64))
               (x.2.fst.fdiv (2 ^ min (IntKind.u64.wrap (64 - IntKind.u64.wrap y)).toNat 64)) -
               IntKind.u64.wrap
                (IntKind.u64.wrap
                 ((azn BinOp.or IntKind.u64 (IntKind.u64.wrap (x.fst*2 ^ min (IntKind.u64.wrap y).toNat 64))
                  (x.2.fst.fdiv (2 ^ min (IntKind.u64.wrap (64 - IntKind.u64.wrap y)).toNat 64))).tdiv
                  ((IntKind.u64.wrap (x.2.snd*2 ^ min (IntKind.u64.wrap y).toNat 64)).fdiv 4294967296)) *
                 (IntKind.u64.wrap (x.2.snd*2 ^ min (IntKind.u64.wrap y).toNat 64)).fdiv 4294967296))))
           fun y_1 =>
           brn (decide ((IntKind.u64.wrap (x.2.snd*2 ^ min (IntKind.u64.wrap y).toNat 64)).fdiv 4294967296=0)) none
            (obnd
             (mzL
              ((IntKind.u64.wrap (x.2.snd*2 ^ min (IntKind.u64.wrap y).toNat 64)).fdiv 4294967296,
               azn BinOp.and IntKind.u64 (IntKind.u64.wrap (x.2.snd*2 ^ min (IntKind.u64.wrap y).toNat 64)) 4294967295,
               azn BinOp.and IntKind.u64 (IntKind.u64.wrap (x.2.fst*2 ^ min (IntKind.u64.wrap y).toNat 64)) 4294967295,
               IntKind.u64.wrap
                (IntKind.u64.wrap
                 (IntKind.u64.wrap
                  (IntKind.u64.wrap
                   (azn BinOp.or IntKind.u64 (IntKind.u64.wrap (x.fst*2 ^ min (IntKind.u64.wrap y).toNat 64))
                    (x.2.fst.fdiv (2 ^ min (IntKind.u64.wrap (64 - IntKind.u64.wrap y)).toNat 64)) *
                    4294967296) +
                   (IntKind.u64.wrap (x.2.fst*2 ^ min (IntKind.u64.wrap y).toNat 64)).fdiv 4294967296) -
                  IntKind.u64.wrap (y_1*IntKind.u64.wrap (x.2.snd*2 ^ min (IntKind.u64.wrap y).toNat 64))) -
                 IntKind.u64.wrap
                  (IntKind.u64.wrap
                   ((IntKind.u64.wrap
                    (IntKind.u64.wrap
                     (IntKind.u64.wrap
                      (azn BinOp.or IntKind.u64 (IntKind.u64.wrap (x.fst*2 ^ min (IntKind.u64.wrap y).toNat 64))
                       (x.2.fst.fdiv (2 ^ min (IntKind.u64.wrap (64 - IntKind.u64.wrap y)).toNat 64)) *
                       4294967296) +
                      (IntKind.u64.wrap (x.2.fst*2 ^ min (IntKind.u64.wrap y).toNat 64)).fdiv 4294967296) -
                     IntKind.u64.wrap (y_1*IntKind.u64.wrap (x.2.snd*2 ^ min (IntKind.u64.wrap y).toNat 64)))).tdiv
                    ((IntKind.u64.wrap (x.2.snd*2 ^ min (IntKind.u64.wrap y).toNat 64)).fdiv 4294967296)) *
                   (IntKind.u64.wrap (x.2.snd*2 ^ min (IntKind.u64.wrap y).toNat 64)).fdiv 4294967296)),
               IntKind.u64.wrap
                ((IntKind.u64.wrap
                 (IntKind.u64.wrap
                  (IntKind.u64.wrap
                   (azn BinOp.or IntKind.u64 (IntKind.u64.wrap (x.fst*2 ^ min (IntKind.u64.wrap y).toNat 64))
                    (x.2.fst.fdiv (2 ^ min (IntKind.u64.wrap (64 - IntKind.u64.wrap y)).toNat 64)) *
                    4294967296) +
                   (IntKind.u64.wrap (x.2.fst*2 ^ min (IntKind.u64.wrap y).toNat 64)).fdiv 4294967296) -
                  IntKind.u64.wrap (y_1*IntKind.u64.wrap (x.2.snd*2 ^ min (IntKind.u64.wrap y).toNat 64)))).tdiv
                 ((IntKind.u64.wrap (x.2.snd*2 ^ min (IntKind.u64.wrap y).toNat 64)).fdiv 4294967296))))
             fun y_2 =>
             brn (decide (IntKind.u64.wrap y < 0)) none
              (some
               (IntKind.u64.wrap (IntKind.u64.wrap (y_1*4294967296)+y_2),
                (IntKind.u64.wrap
                 (IntKind.u64.wrap
                  (IntKind.u64.wrap
                   (IntKind.u64.wrap
                    (IntKind.u64.wrap
                     (IntKind.u64.wrap
                      (azn BinOp.or IntKind.u64 (IntKind.u64.wrap (x.fst*2 ^ min (IntKind.u64.wrap y).toNat 64))
                       (x.2.fst.fdiv (2 ^ min (IntKind.u64.wrap (64 - IntKind.u64.wrap y)).toNat 64)) *
                       4294967296) +
                      (IntKind.u64.wrap (x.2.fst*2 ^ min (IntKind.u64.wrap y).toNat 64)).fdiv 4294967296) -
                     IntKind.u64.wrap (y_1*IntKind.u64.wrap (x.2.snd*2 ^ min (IntKind.u64.wrap y).toNat 64))) *
                    4294967296) +
                   azn BinOp.and IntKind.u64 (IntKind.u64.wrap (x.2.fst*2 ^ min (IntKind.u64.wrap y).toNat 64)) 4294967295) -
                  IntKind.u64.wrap (y_2*IntKind.u64.wrap (x.2.snd*2 ^ min (IntKind.u64.wrap y).toNat 64)))).fdiv
                 (2 ^ min (IntKind.u64.wrap y).toNat 64))))))))))))
def jzC:FSpec tb:=⟨[(0,.val 152),(1,.val 152),(2,.val 152)],[(0,.val 152),(1,.val 152)],nzf⟩
theorem HzZ:∀ x,evFn Tryz.prog tb pzS [hzn,hzp] Tryz.f233 jzC.ins jzC.outs x=jzC.f x:=fun x=>by kernel_rfl
theorem Jzu:fnK Tryz.f233 jzC.ins jzC.outs=true:=by kernel_rfl
theorem Hz0:azg ([hzn,hzp]:List (CutSpec tb)) (azA Tryz.f233)=[(148,.loop (azd 148 Tryz.f233)),(204,.loop (azd 204 Tryz.f233))]:=by kernel_rfl
theorem Azy:aze Tryz.prog tb 233 jzC:=azJ mixed Tryz.func233 Jzu pza rfl Hz0 (.cons rfl yzw rfl (.cons rfl yzx rfl .nil)) HzZ
def mzd (x:Wide×Int):Option (Wide×Int) :=
 brn (decide (x.snd=0)) none
  (brn (decide (x.snd=0)) none
   (obnd (nzf (x.fst.hi.tmod x.snd,x.fst.lo,x.snd)) fun y=>some ({ hi:=IntKind.u64.wrap (x.fst.hi.tdiv x.snd),lo:=y.fst,minus:=x.fst.minus },y.snd)))
def fzT:FSpec tb:=⟨[(0,.val 154),(1,.val 152)],[(0,.val 154),(1,.val 152)],mzd⟩
theorem FzG:∀ x,evFn Tryz.prog tb [(233,jzC)] [] Tryz.f180 fzT.ins fzT.outs x=fzT.f x:=fun x=>by kernel_rfl
theorem Hz7:fnK Tryz.f180 fzT.ins fzT.outs=true:=by kernel_rfl
theorem qzR:aze Tryz.prog tb 180 fzT:=azu mixed Tryz.func180 Hz7 (.cons Azy .nil) rfl FzG
abbrev qzu:List (Nat×FSpec tb):=[(180,fzT)]
theorem rzE:azz Tryz.prog tb qzu:=(.cons qzR .nil)
def kz1 (back:Int×Wide→Option ((Int)×Wide)) (x:Int×Wide):Option ((Int)×Wide) :=
 brn (decide (0 < x.fst)) (obnd (mzd (x.snd,10)) fun y=>brn (!decide (y.snd=0)) (some x) (back (IntKind.i64.wrap (x.fst - 1),y.fst))) (some x)
def nzD:Int×Wide→Option ((Int)×Wide):=iter kz1 big
def ez4:CutSpec tb:=⟨20,[(1,.val 3),(2,.ref 154)],[((.exit 0),[(1,.val 3)])],[8,9,11,12,10,13,14,6,7,15,16,17,18,19,1],nzD⟩
theorem wzu:∀ back x,azy Tryz.prog tb qzu [] (azd 20 Tryz.f93) ez4.ins ez4.outs back x=kz1 back x:=fun back x=>by kernel_rfl
theorem yzB:cutB Tryz.f93.ntmps ez4 (azd 20 Tryz.f93)=true:=by kernel_rfl
theorem wzv:azg ([]:List (CutSpec tb)) (azd 20 Tryz.f93)=[]:=by kernel_rfl
theorem vzm:azi Tryz.prog tb Tryz.f93.ntmps (.loop (azd 20 Tryz.f93)) ez4:=azw mixed yzB rzE rfl wzv .nil kz1 wzu rfl
def cz3 (x:Wide×Int):Option (Dec×Int) :=
 obnd (nzD (x.snd,x.fst)) fun y =>
  brn (!decide (y.2.hi=0)) (some ({ M:=0,S:=0 },8))
   (brn (decide (9223372036854775808 < y.2.lo)) (some ({ M:=0,S:=0 },8))
    (brn (decide (y.2.lo=9223372036854775808))
     (brn (!y.2.minus) (some ({ M:=0,S:=0 },8))
      (brn y.2.minus (some ({ M:=IntKind.i64.wrap (IntKind.u64.wrap (0 - y.2.lo)),S:=y.1 },0)) (some ({ M:=IntKind.i64.wrap y.2.lo,S:=y.1 },0))))
     (brn y.2.minus (some ({ M:=IntKind.i64.wrap (IntKind.u64.wrap (0 - y.2.lo)),S:=y.1 },0)) (some ({ M:=IntKind.i64.wrap y.2.lo,S:=y.1 },0)))))
def czy:FSpec tb:=⟨[(0,.val 154),(1,.val 3)],[(0,.val 30),(1,.val 63)],cz3⟩
theorem Cz3:∀ x,evFn Tryz.prog tb qzu [ez4] Tryz.f93 czy.ins czy.outs x=czy.f x:=fun x=>by kernel_rfl
theorem FzH:fnK Tryz.f93 czy.ins czy.outs=true:=by kernel_rfl
theorem Cz4:azg ([ez4]:List (CutSpec tb)) (azA Tryz.f93)=[(20,.loop (azd 20 Tryz.f93))]:=by kernel_rfl
theorem fzU:aze Tryz.prog tb 93 czy:=azJ mixed Tryz.func93 FzH rzE rfl Cz4 (.cons rfl vzm rfl .nil) Cz3
def pzd (x:Dec×Dec):Option (Dec×Int) :=
 obnd (dz5 x.fst) fun y=>obnd (dz5 x.snd) fun y_1=>obnd (hzt (y,y_1)) fun y=>obnd (cz3 (y,9)) fun y=>some y
def lz7:FSpec tb:=⟨[(0,.val 30),(1,.val 30)],[(0,.val 30),(1,.val 63)],pzd⟩
theorem Mz9:∀ x,evFn Tryz.prog tb [(89,dz6),(92,dzZ),(93,czy)] [] Tryz.f87 lz7.ins lz7.outs x=lz7.f x:=fun x=>by kernel_rfl
theorem dec_Add_k:fnK Tryz.f87 lz7.ins lz7.outs=true:=by kernel_rfl
theorem uzX:aze Tryz.prog tb 87 lz7:=azu mixed Tryz.func87 dec_Add_k (.cons kz0 (.cons oz7 (.cons fzU .nil))) rfl Mz9
def ozh (x:Wide):Option (Wide) :=
 obnd (jzB (x.lo,1,0)) fun y=>some { hi:=IntKind.u64.wrap (x.hi+y.snd),lo:=y.fst,minus:=x.minus }
def hz3:FSpec tb:=⟨[(0,.val 154)],[(0,.val 154)],ozh⟩
theorem FzI:∀ x,evFn Tryz.prog tb [(178,szR)] [] Tryz.f181 hz3.ins hz3.outs x=hz3.f x:=fun x=>by kernel_rfl
theorem Hz8:fnK Tryz.f181 hz3.ins hz3.outs=true:=by kernel_rfl
theorem yzE:aze Tryz.prog tb 181 hz3:=azu mixed Tryz.func181 Hz8 (.consK rzA .nil) rfl FzI
def ezf (x:Wide×Int):Option (Wide) :=
 obnd (mzd x) fun y=>brn (decide (IntKind.u64.wrap (x.snd - y.snd)≤y.snd)) (obnd (ozh y.fst) fun y=>some y) (some y.fst)
def czI:FSpec tb:=⟨[(0,.val 154),(1,.val 152)],[(0,.val 154)],ezf⟩
theorem yzC:∀ x,evFn Tryz.prog tb [(180,fzT),(181,hz3)] [] Tryz.f97 czI.ins czI.outs x=czI.f x:=fun x=>by kernel_rfl
theorem AzN:fnK Tryz.f97 czI.ins czI.outs=true:=by kernel_rfl
theorem kz2:aze Tryz.prog tb 97 czI:=azu mixed Tryz.func97 AzN (.cons qzR (.cons yzE .nil)) rfl yzC
def gzr (x:Dec×Dec):Option (Dec×Int) :=
 brn (decide (x.snd.M=0)) (some ({ M:=0,S:=0 },9))
  (obnd (mzO x.snd.M) fun y =>
   obnd (dz5 x.fst) fun y_1 =>
    obnd (fzM x.snd.S) fun y_2 =>
     obnd (fz9 (y_1,y_2)) fun y_3 =>
      obnd (ezf ({ hi:=y_3.hi,lo:=y_3.lo,minus:=!decide (y_3.minus=y.minus) },y.lo)) fun y=>obnd (cz3 (y,9)) fun y=>some y)
def jzE:FSpec tb:=⟨[(0,.val 30),(1,.val 30)],[(0,.val 30),(1,.val 63)],gzr⟩
theorem Nza:∀ x,evFn Tryz.prog tb [(94,kzg),(89,dz6),(96,eze),(95,czJ),(97,czI),(93,czy)] [] Tryz.f36 jzE.ins jzE.outs x=jzE.f x:=fun x=>by kernel_rfl
theorem dec_Div_k:fnK Tryz.f36 jzE.ins jzE.outs=true:=by kernel_rfl
theorem nzr:aze Tryz.prog tb 36 jzE:=azu mixed Tryz.func36 dec_Div_k (.cons mzc (.cons kz0 (.cons jzh (.cons kz3 (.cons kz2 (.cons fzU .nil)))))) rfl Nza
def kzY (x:Dec×Dec):Option (Dec×Int) :=
 obnd (dz5 x.snd) fun y =>
  obnd (dz5 x.fst) fun y_1=>obnd (hzt (y_1,{ hi:=y.hi,lo:=y.lo,minus:=!y.minus })) fun y=>obnd (cz3 (y,9)) fun y=>some y
def kzZ:FSpec tb:=⟨[(0,.val 30),(1,.val 30)],[(0,.val 30),(1,.val 63)],kzY⟩
theorem Nze:∀ x,evFn Tryz.prog tb [(89,dz6),(92,dzZ),(93,czy)] [] Tryz.f35 kzZ.ins kzZ.outs x=kzZ.f x:=fun x=>by kernel_rfl
theorem dec_Sub_k:fnK Tryz.f35 kzZ.ins kzZ.outs=true:=by kernel_rfl
theorem qzs:aze Tryz.prog tb 35 kzZ:=azu mixed Tryz.func35 dec_Sub_k (.cons kz0 (.cons oz7 (.cons fzU .nil))) rfl Nze
def kzU (x:Dec):Option (Dec×Int) :=
 obnd (fzM x.S) fun y =>
  brn (decide (IntKind.i64.wrap y=0)) none
   (obnd (fzM x.S) fun y_1 =>
    brn (decide (IntKind.i64.wrap y_1=0)) none
     (brn (decide (x.M.tmod (IntKind.i64.wrap y_1) < 0)) (some ({ M:=IntKind.i64.wrap (IntKind.i64.wrap (x.M.tdiv (IntKind.i64.wrap y)) - 1),S:=0 },0))
      (some ({ M:=IntKind.i64.wrap (x.M.tdiv (IntKind.i64.wrap y)),S:=0 },0))))
def kzV:FSpec tb:=⟨[(0,.val 30)],[(0,.val 30),(1,.val 63)],kzU⟩
theorem JzE:∀ x,evFn Tryz.prog tb [(96,eze)] [] Tryz.f151 kzV.ins kzV.outs x=kzV.f x:=fun x=>by kernel_rfl
theorem LzK:fnK Tryz.f151 kzV.ins kzV.outs=true:=by kernel_rfl
theorem CzT:aze Tryz.prog tb 151 kzV:=azu mixed Tryz.func151 LzK (.cons jzh .nil) rfl JzE
def mza (back:Dec→Option ((Unit)×Dec)) (x:Dec):Option ((Unit)×Dec) :=
 brn (decide (0 < x.S)) (brn (decide (x.M.tmod 10=0)) (back { M:=IntKind.i64.wrap (x.M.tdiv 10),S:=IntKind.i64.wrap (x.S - 1) }) (some ((),x))) (some ((),x))
def rzD:Dec→Option ((Unit)×Dec):=iter mza big
def kzf:CutSpec tb:=⟨20,[(1,.ref 30)],[((.exit 0),[])],[3,4,5,6,7,8,9,10,11,12,13,14,15,16,17,18],rzD⟩
theorem Fzz:∀ back x,azy Tryz.prog tb [] [] (azd 20 Tryz.f31) kzf.ins kzf.outs back x=mza back x:=fun back x=>by kernel_rfl
theorem Hz5:cutB Tryz.f31.ntmps kzf (azd 20 Tryz.f31)=true:=by kernel_rfl
theorem FzA:azg ([]:List (CutSpec tb)) (azd 20 Tryz.f31)=[]:=by kernel_rfl
theorem CzU:azi Tryz.prog tb Tryz.f31.ntmps (.loop (azd 20 Tryz.f31)) kzf:=azw mixed Hz5 .nil rfl FzA .nil mza Fzz rfl
def kzQ (x:Dec):Option (Dec) :=
 obnd (rzD x) fun y=>some y.2
def lz9:FSpec tb:=⟨[(0,.val 30)],[(0,.val 30)],kzQ⟩
theorem LzL:∀ x,evFn Tryz.prog tb [] [kzf] Tryz.f31 lz9.ins lz9.outs x=lz9.f x:=fun x=>by kernel_rfl
theorem Nzd:fnK Tryz.f31 lz9.ins lz9.outs=true:=by kernel_rfl
theorem LzM:azg ([kzf]:List (CutSpec tb)) (azA Tryz.f31)=[(20,.loop (azd 20 Tryz.f31))]:=by kernel_rfl
theorem FzB:aze Tryz.prog tb 31 lz9:=azJ mixed Tryz.func31 Nzd .nil rfl LzM (.cons rfl CzU rfl .nil) LzL
def jzg (x:Dec×Int):Option (Dec×Int) :=
 brn (decide (x.snd < -18)) (some ({ M:=0,S:=0 },1))
  (brn (decide (9 < x.snd)) (some ({ M:=0,S:=0 },1))
   (brn (decide (x.fst.S≤x.snd)) (some (x.fst,0))
    (obnd (mzO x.fst.M) fun y =>
     brn (decide (19 < IntKind.i64.wrap (x.fst.S - x.snd))) (some ({ M:=0,S:=0 },0))
      (obnd (fzM (IntKind.i64.wrap (x.fst.S - x.snd))) fun y_1 =>
       obnd (ezf (y,y_1)) fun y =>
        brn (decide (x.snd < 0))
         (obnd (fzM (IntKind.i64.wrap (0 - x.snd))) fun y_2=>obnd (fz9 (y,y_2)) fun y=>obnd (cz3 (y,0)) fun y=>some y)
         (obnd (cz3 (y,x.snd)) fun y=>some y)))))
def kzX:FSpec tb:=⟨[(0,.val 30),(1,.val 3)],[(0,.val 30),(1,.val 63)],jzg⟩
theorem JzH:∀ x,evFn Tryz.prog tb [(94,kzg),(96,eze),(97,czI),(95,czJ),(93,czy)] [] Tryz.f153 kzX.ins kzX.outs x=kzX.f x:=fun x=>by kernel_rfl
theorem LzO:fnK Tryz.f153 kzX.ins kzX.outs=true:=by kernel_rfl
theorem Cz0:aze Tryz.prog tb 153 kzX:=azu mixed Tryz.func153 LzO (.cons mzc (.cons jzh (.cons kz2 (.cons kz3 (.cons fzU .nil))))) rfl JzH
def oze (x:Int):Option (Bool) :=
 some (bif decide (x=x) then false else true)
def ezb:FSpec tb:=⟨[(0,.val 21)],[(0,.val 4)],oze⟩
theorem yzA:∀ x,evFn Tryz.prog tb [] [] Tryz.f228 ezb.ins ezb.outs x=ezb.f x:=fun x=>by kernel_rfl
theorem AzE:fnK Tryz.f228 ezb.ins ezb.outs=true:=by kernel_rfl
theorem tzR:aze Tryz.prog tb 228 ezb:=azu mixed Tryz.func228 AzE .nil rfl yzA
def qzQ (x:Int×Int):Option (Int) :=
 obnd (oze x.fst) fun y =>
  obnd (oze x.snd) fun y_1 =>
   brn y (brn y_1 (some 0) (some (-1))) (brn y_1 (some 1) (brn (decide (x.fst < x.snd)) (some (-1)) (brn (decide (x.snd < x.fst)) (some 1) (some 0))))
def dzd:FSpec tb:=⟨[(0,.val 21),(1,.val 21)],[(0,.val 3)],qzQ⟩
theorem vzk:∀ x,evFn Tryz.prog tb [(228,ezb)] [] Tryz.f174 dzd.ins dzd.outs x=dzd.f x:=fun x=>by kernel_rfl
theorem wzq:fnK Tryz.f174 dzd.ins dzd.outs=true:=by kernel_rfl
theorem szT:aze Tryz.prog tb 174 dzd:=azu mixed Tryz.func174 wzq (.cons tzR .nil) rfl vzk
def AzH (x:Dec×Dec):Option (Dec×Int) :=
 obnd (mzO x.fst.M) fun y =>
  obnd (mzO x.snd.M) fun y_1 =>
   obnd (nzg (y.lo,y_1.lo)) fun y_2 =>
    brn (decide (9 < IntKind.i64.wrap (x.fst.S+x.snd.S)))
     (obnd (fzM (IntKind.i64.wrap (IntKind.i64.wrap (x.fst.S+x.snd.S) - 9))) fun y_3 =>
      obnd (ezf ({ hi:=y_2.fst,lo:=y_2.snd,minus:=!decide (y.minus=y_1.minus) },y_3)) fun y=>obnd (cz3 (y,9)) fun y=>some y)
     (obnd (cz3 ({ hi:=y_2.fst,lo:=y_2.snd,minus:=!decide (y.minus=y_1.minus) },IntKind.i64.wrap (x.fst.S+x.snd.S))) fun y=>some y)
def lz8:FSpec tb:=⟨[(0,.val 30),(1,.val 30)],[(0,.val 30),(1,.val 63)],AzH⟩
theorem Nzc:∀ x,evFn Tryz.prog tb [(94,kzg),(98,hza),(96,eze),(97,czI),(93,czy)] [] Tryz.f37 lz8.ins lz8.outs x=lz8.f x:=fun x=>by kernel_rfl
theorem dec_Mul_k:fnK Tryz.f37 lz8.ins lz8.outs=true:=by kernel_rfl
theorem uzY:aze Tryz.prog tb 37 lz8:=azu mixed Tryz.func37 dec_Mul_k (.cons mzc (.cons rzB (.cons jzh (.cons kz2 (.cons fzU .nil))))) rfl Nzc
def CzS (x:Dec):Option (Int) :=
 brn (decide (x.S < 0)) (some 1) (brn (decide (9 < x.S)) (some 1) (brn (decide (0 < x.S)) (brn (decide (x.M.tmod 10=0)) (some 1) (some 0)) (some 0)))
end Go.Proofs.YtdgpkbnnljblmaaGreatDoor

/- U1 -/
namespace Go.Proofs
open Go.Shelf
def Tryz.lays196_ren:Go.Shelf.Ren:=⟨fun | 196=>182 | 259=>234 | n=>n,fun | 9=>9 | 4=>4 | 3=>3 | 5=>5 | 12=>12 | 119=>320 | 0=>0 | 46=>145 | 139=>323 | 138=>322 | 53=>152 | n=>n,fun | 3=>0 | 4=>1 | n=>n⟩
theorem Tryz.lays196:Go.Proofs.Lays.n196 Tryz.prog Tryz.lays196_ren where
 mixed:=by kernel_rfl
 f196:=Tryz.func182.trans (congrArg some (by kernel_rfl))
 f259:=Tryz.func234.trans (congrArg some (by kernel_rfl))
 t0:=Tryz.underlying0
 a0:=Tryz.isAgg0
 z0:=Tryz.sizeOf0
 v0:=Tryz.zeroValue0
 t3:=Tryz.underlying3
 a3:=Tryz.isAgg3
 z3:=Tryz.sizeOf3
 v3:=Tryz.zeroValue3
 t4:=Tryz.underlying4
 a4:=Tryz.isAgg4
 z4:=Tryz.sizeOf4
 v4:=Tryz.zeroValue4
 t5:=Tryz.underlying5
 a5:=Tryz.isAgg5
 z5:=Tryz.sizeOf5
 v5:=Tryz.zeroValue5
 t9:=Tryz.underlying9
 a9:=Tryz.isAgg9
 z9:=Tryz.sizeOf9
 v9:=Tryz.zeroValue9
 t12:=Tryz.underlying12
 a12:=Tryz.isAgg12
 z12:=Tryz.sizeOf12
 v12:=Tryz.zeroValue12
 t46:=Tryz.underlying145
 a46:=Tryz.isAgg145
 z46:=Tryz.sizeOf145
 v46:=Tryz.zeroValue145
 t53:=Tryz.underlying152
 a53:=Tryz.isAgg152
 z53:=Tryz.sizeOf152
 v53:=Tryz.zeroValue152
 t119:=Tryz.underlying320
 a119:=Tryz.isAgg320
 z119:=Tryz.sizeOf320
 t138:=Tryz.underlying322
 a138:=Tryz.isAgg322
 z138:=Tryz.sizeOf322
 v138:=Tryz.zeroValue322
 t139:=Tryz.underlying323
 a139:=Tryz.isAgg323
 z139:=Tryz.sizeOf323
 v139:=Tryz.zeroValue323
 g3:=by kernel_rfl
 g4:=by kernel_rfl
end Go.Proofs
namespace Go.Proofs.YtdgpkbnnljblmaaGreatDoor
open Go Go.Ev Go.RowKit
def nze (x:List UInt8):Option Bool:=some (Lib.validD x)
def qzW:FSpec tb:=⟨[(0,.val 9)],[(0,.val 4)],nze⟩
set_option maxRecDepth 100000 in
theorem sz1:aze Tryz.prog tb 182 qzW:=by
 refine yzn (enters_of (c:=azA Tryz.f182) Tryz.func182 (by kernel_rfl) (by kernel_rfl)) rfl fun g w (x:List UInt8) vs bs (y:Bool) hy hinv hh=>?_
 obtain ⟨v0,vs,b0,bs,rfl,rfl⟩:=az1 hh;have h0:=hh;obtain ⟨rfl,rfl⟩:vs=[]∧bs=[]:=by
  cases vs<;>cases bs<;>first | exact ⟨rfl,rfl⟩ | exact h0.elim
 obtain ⟨e0,r0⟩:=tz3 rzv (rzs _) h0.1;subst e0;have hy:=Option.some.inj (show some (Lib.validD x)=some y from hy);subst hy;refine ⟨_,[.bool (Lib.validD x)],rfl,fun g w=>⟨Gzj notAgg4 (enc4_eq _),rfl⟩,?_⟩;refine (Any.utf8_ValidString Tryz.lays196 ⟨x.toArray⟩ w (by simp [ByteArray.size];unfold bze at r0;omega) hinv.2.2.1).mono ?_;rintro e w' ⟨rfl,hb⟩;exact ⟨rfl,szW hb⟩
end Go.Proofs.YtdgpkbnnljblmaaGreatDoor

/- V1 -/
namespace Go.Proofs.YtdgpkbnnljblmaaGreatDoor
open Go Go.Ev
set_option linter.unusedVariables false
def law9_NF (x:Int):Option (Val) :=
 obnd (czu x) fun y=>some { Kind:=1,N:=y,S:=[],B:=false,E:=0 }
def nz4:FSpec tb:=⟨[(0,.val 2)],[(0,.val 32)],law9_NF⟩
theorem law9_N_eq:∀ x,evFn Tryz.prog tb [(33,ez3)] [] Tryz.f26 nz4.ins nz4.outs x=nz4.f x:=fun x=>by kernel_rfl
theorem law9_N_k:fnK Tryz.f26 nz4.ins nz4.outs=true:=by kernel_rfl
theorem wzN:aze Tryz.prog tb 26 nz4:=azu mixed Tryz.func26 law9_N_k (.cons gzs .nil) rfl law9_N_eq
def law9_SF (x:List UInt8):Option (Val) :=
 some { Kind:=2,N:={ M:=0,S:=0 },S:=x,B:=false,E:=0 }
def pzu:FSpec tb:=⟨[(0,.val 9)],[(0,.val 32)],law9_SF⟩
theorem law9_S_eq:∀ x,evFn Tryz.prog tb [] [] Tryz.f29 pzu.ins pzu.outs x=pzu.f x:=fun x=>by kernel_rfl
theorem law9_S_k:fnK Tryz.f29 pzu.ins pzu.outs=true:=by kernel_rfl
theorem Kzu:aze Tryz.prog tb 29 pzu:=azu mixed Tryz.func29 law9_S_k .nil rfl law9_S_eq
def azq (x:Int):Option (Val) :=
 some { Kind:=4,N:={ M:=0,S:=0 },S:=[],B:=false,E:=x }
def bzi:FSpec tb:=⟨[(0,.val 3)],[(0,.val 32)],azq⟩
theorem Lzo:∀ x,evFn Tryz.prog tb [] [] Tryz.f32 bzi.ins bzi.outs x=bzi.f x:=fun x=>by kernel_rfl
theorem MzW:fnK Tryz.f32 bzi.ins bzi.outs=true:=by kernel_rfl
theorem az5:aze Tryz.prog tb 32 bzi:=azu mixed Tryz.func32 MzW .nil rfl Lzo
def bzo (x:Val):Option (Dec×Val×Bool) :=
 brn (decide (x.Kind=1)) (some (x.N,{ Kind:=0,N:={ M:=0,S:=0 },S:=[],B:=false,E:=0 },true))
  (brn (decide (x.Kind=2))
   (obnd (qz1 x.S) fun y =>
    brn (decide (y.snd=0)) (some (y.fst,{ Kind:=0,N:={ M:=0,S:=0 },S:=[],B:=false,E:=0 },true))
     (obnd (azq 15) fun y=>some ({ M:=0,S:=0 },y,false)))
   (brn (decide (x.Kind=3))
    (brn x.B (obnd (czu 1) fun y=>some (y,{ Kind:=0,N:={ M:=0,S:=0 },S:=[],B:=false,E:=0 },true))
     (some ({ M:=0,S:=0 },{ Kind:=0,N:={ M:=0,S:=0 },S:=[],B:=false,E:=0 },true)))
    (brn (decide (x.Kind=4)) (some ({ M:=0,S:=0 },x,false)) (some ({ M:=0,S:=0 },{ Kind:=0,N:={ M:=0,S:=0 },S:=[],B:=false,E:=0 },true)))))
def czo:FSpec tb:=⟨[(0,.val 32)],[(0,.val 30),(1,.val 32),(2,.val 4)],bzo⟩
theorem Jzm:∀ x,evFn Tryz.prog tb [(176,kzW),(32,bzi),(33,ez3)] [] Tryz.f85 czo.ins czo.outs x=czo.f x:=fun x=>by kernel_rfl
theorem Lzp:fnK Tryz.f85 czo.ins czo.outs=true:=by kernel_rfl
theorem cz2:aze Tryz.prog tb 85 czo:=azu mixed Tryz.func85 Lzp (.cons CzZ (.cons az5 (.cons gzs .nil))) rfl Jzm
def czO (x:Val):Option (Bool×Val×Bool) :=
 brn (decide (x.Kind=1)) (some (!decide (x.N.M=0),{ Kind:=0,N:={ M:=0,S:=0 },S:=[],B:=false,E:=0 },true))
  (brn (decide (x.Kind=2))
   (brn (!decide (x.S=[84,82,85,69]))
    (brn (!decide (x.S=U8s [70,65,76,83,69])) (obnd (azq 15) fun y=>some (false,y,false))
     (some (decide (x.S=[84,82,85,69]),{ Kind:=0,N:={ M:=0,S:=0 },S:=[],B:=false,E:=0 },true)))
    (some (decide (x.S=[84,82,85,69]),{ Kind:=0,N:={ M:=0,S:=0 },S:=[],B:=false,E:=0 },true)))
   (brn (decide (x.Kind=3)) (some (x.B,{ Kind:=0,N:={ M:=0,S:=0 },S:=[],B:=false,E:=0 },true))
    (brn (decide (x.Kind=4)) (some (false,x,false)) (some (false,{ Kind:=0,N:={ M:=0,S:=0 },S:=[],B:=false,E:=0 },true)))))
def gz9:FSpec tb:=⟨[(0,.val 32)],[(0,.val 4),(1,.val 32),(2,.val 4)],czO⟩
theorem Lzq:∀ x,evFn Tryz.prog tb [(32,bzi)] [] Tryz.f65 gz9.ins gz9.outs x=gz9.f x:=fun x=>by kernel_rfl
theorem MzY:fnK Tryz.f65 gz9.ins gz9.outs=true:=by kernel_rfl
theorem ozX:aze Tryz.prog tb 65 gz9:=azu mixed Tryz.func65 MzY (.cons az5 .nil) rfl Lzq
def szN (x:Int):Option (List UInt8) :=
 brn (decide (x=0)) (some (U8s [35,78,85,76,76,33]))
  (brn (decide (x=7)) (some (U8s [35,68,73,86,47,48,33]))
   (brn (decide (x=15)) (some (U8s [35,86,65,76,85,69,33]))
    (brn (decide (x=23)) (some (U8s [35,82,69,70,33]))
     (brn (decide (x=29)) (some (U8s [35,78,65,77,69,63]))
      (brn (decide (x=36)) (some (U8s [35,78,85,77,33])) (brn (decide (x=42)) (some [35,78,47,65]) (some [])))))))
def mzG:FSpec tb:=⟨[(0,.val 3)],[(0,.val 9)],szN⟩
theorem Mz0:∀ x,evFn Tryz.prog tb [] [] Tryz.f102 mzG.ins mzG.outs x=mzG.f x:=fun x=>by kernel_rfl
theorem Ozo:fnK Tryz.f102 mzG.ins mzG.outs=true:=by kernel_rfl
theorem Hzh:aze Tryz.prog tb 102 mzG:=azu mixed Tryz.func102 Ozo .nil rfl Mz0
def fz8 (x:Val):Option (List UInt8) :=
 brn (decide (x.Kind=1)) (obnd (szn x.N) fun y=>some y)
  (brn (decide (x.Kind=2)) (some x.3)
   (brn (decide (x.Kind=3)) (brn x.B (some [84,82,85,69]) (some (U8s [70,65,76,83,69]))) (brn (decide (x.Kind=4)) (obnd (szN x.E) fun y=>some y) (some []))))
def kzS:FSpec tb:=⟨[(0,.val 32)],[(0,.val 9)],fz8⟩
theorem MzX:∀ x,evFn Tryz.prog tb [(175,mzb),(102,mzG)] [] Tryz.f84 kzS.ins kzS.outs x=kzS.f x:=fun x=>by kernel_rfl
theorem Ozn:fnK Tryz.f84 kzS.ins kzS.outs=true:=by kernel_rfl
theorem tzz:aze Tryz.prog tb 84 kzS:=azu mixed Tryz.func84 Ozn (.cons FzE (.cons Hzh .nil)) rfl MzX
def ezB (x:Val):Option (List UInt8×Val×Bool) :=
 brn (decide (x.Kind=4)) (some ([],x,false)) (obnd (fz8 x) fun y=>some (y,{ Kind:=0,N:={ M:=0,S:=0 },S:=[],B:=false,E:=0 },true))
def jzA:FSpec tb:=⟨[(0,.val 32)],[(0,.val 9),(1,.val 32),(2,.val 4)],ezB⟩
theorem Lzr:∀ x,evFn Tryz.prog tb [(84,kzS)] [] Tryz.f142 jzA.ins jzA.outs x=jzA.f x:=fun x=>by kernel_rfl
theorem MzZ:fnK Tryz.f142 jzA.ins jzA.outs=true:=by kernel_rfl
theorem szM:aze Tryz.prog tb 142 jzA:=azu mixed Tryz.func142 MzZ (.cons tzz .nil) rfl Lzr
def lzN (back:List (Int)×((List UInt8×Nat))→Option ((List (Int))×((List UInt8×Nat)))) (x:List (Int)×((List UInt8×Nat))):Option ((List (Int))×((List UInt8×Nat))) :=
 brn (decide (x.snd.snd < x.snd.fst.length))
  (brn (decide ((↑(rune x.snd.fst x.snd.snd).fst:Int) < 65536))
   (obnd (app 8 x.fst [IntKind.i64.wrap (↑(rune x.snd.fst x.snd.snd).fst:Int)]) fun zs=>back (zs,x.snd.fst,x.snd.snd+(rune x.snd.fst x.snd.snd).snd))
   (obnd
    (app 8 x.fst
     [IntKind.i64.wrap (55296+IntKind.i64.wrap ((IntKind.i32.wrap ((↑(rune x.snd.fst x.snd.snd).fst:Int) - 65536)).fdiv 1024)),
      IntKind.i64.wrap (56320+IntKind.i64.wrap (azn BinOp.and IntKind.i32 (IntKind.i32.wrap ((↑(rune x.snd.fst x.snd.snd).fst:Int) - 65536)) 1023))])
    fun zs=>back (zs,x.snd.fst,x.snd.snd+(rune x.snd.fst x.snd.snd).snd)))
  (some x)
def qzM:List (Int)×((List UInt8×Nat))→Option ((List (Int))×((List UInt8×Nat))):=iter lzN big
def jzb:CutSpec tb:=⟨36,[(3,.own 3),(7,.iter)],[((.exit 0),[(3,.own 3)])],[8,9,10,5,11,12,13,14,15,16,17,3,18,19,20,21,22,23,24,25,26,27,28,29,30],qzM⟩
set_option maxRecDepth 100000 in
theorem Fze:∀ back x,azy Tryz.prog tb [] [] (azd 36 Tryz.f183) jzb.ins jzb.outs back x=lzN back x:=fun back x=>by kernel_rfl
theorem Hzc:cutB Tryz.f183.ntmps jzb (azd 36 Tryz.f183)=true:=by kernel_rfl
theorem Fzf:azg ([]:List (CutSpec tb)) (azd 36 Tryz.f183)=[]:=by kernel_rfl
theorem Czt:azi Tryz.prog tb Tryz.f183.ntmps (.loop (azd 36 Tryz.f183)) jzb:=azw mixed Hzc .nil rfl Fzf .nil lzN Fze rfl
def rzo (x:List UInt8):Option (List (Int)) :=
 obnd (qzM ([],x,0)) fun y=>some y.1
def lzt:FSpec tb:=⟨[(0,.val 9)],[(0,.own 3)],rzo⟩
theorem Lzg:∀ x,evFn Tryz.prog tb [] [jzb] Tryz.f183 lzt.ins lzt.outs x=lzt.f x:=fun x=>by kernel_rfl
theorem MzU:fnK Tryz.f183 lzt.ins lzt.outs=true:=by kernel_rfl
theorem Lzh:azg ([jzb]:List (CutSpec tb)) (azA Tryz.f183)=[(36,.loop (azd 36 Tryz.f183))]:=by kernel_rfl
theorem Fzg:aze Tryz.prog tb 183 lzt:=azJ mixed Tryz.func183 MzU .nil rfl Lzh (.cons rfl Czt rfl .nil) Lzg
def lzs (x:List UInt8):Option (Int×Int) :=
 obnd (nze x) fun y =>
  brn (!y) (some (0,2)) (obnd (rzo x) fun y=>brn (decide (1000 < (↑(List.length y):Int))) (some (0,4)) (some ((↑(List.length y):Int),0)))
def jzx:FSpec tb:=⟨[(0,.val 9)],[(0,.val 3),(1,.val 63)],lzs⟩
theorem Lzf:∀ x,evFn Tryz.prog tb [(182,qzW),(183,lzt)] [] Tryz.f101 jzx.ins jzx.outs x=jzx.f x:=fun x=>by kernel_rfl
theorem MzT:fnK Tryz.f101 jzx.ins jzx.outs=true:=by kernel_rfl
theorem szJ:aze Tryz.prog tb 101 jzx:=azu mixed Tryz.func101 MzT (.cons sz1 (.cons Fzg .nil)) rfl Lzf
abbrev uzR:List (Nat×FSpec tb):=[(174,dzd),(80,czt)]
theorem vzh:azz Tryz.prog tb uzR:=(.cons szT (.cons kze .nil))
def qzP (back:List Int×Int×((List UInt8×Nat))→Option (((Int)×((List UInt8×Nat)))⊕((Int)×((List UInt8×Nat))))) (x:List Int×Int×((List UInt8×Nat))):Option (((Int)×((List UInt8×Nat)))⊕((Int)×((List UInt8×Nat)))) :=
 brn (decide (x.2.snd.snd < x.2.snd.fst.length))
  (brn (decide (x.2.fst=(↑x.fst.length:Int))) (some (Sum.inr (1,x.2.snd.fst,x.2.snd.snd+(rune x.2.snd.fst x.2.snd.snd).snd)))
   (obnd (idx x.fst x.2.fst) fun y =>
    brn (!decide ((↑(rune x.2.snd.fst x.2.snd.snd).fst:Int)=y))
     (obnd (idx x.fst x.2.fst) fun y =>
      obnd (qzQ ((↑(rune x.2.snd.fst x.2.snd.snd).fst:Int),y)) fun y=>some (Sum.inr (y,x.2.snd.fst,x.2.snd.snd+(rune x.2.snd.fst x.2.snd.snd).snd)))
     (back (x.fst,IntKind.i64.wrap (x.2.fst+1),x.2.snd.fst,x.2.snd.snd+(rune x.2.snd.fst x.2.snd.snd).snd))))
  (some (Sum.inl x.2))
def vzi:List Int×Int×((List UInt8×Nat))→Option (((Int)×((List UInt8×Nat)))⊕((Int)×((List UInt8×Nat)))):=iter qzP big
def jzc:CutSpec tb:=⟨44,[(5,.val 45),(6,.val 3),(12,.iter)],[((.exit 0),[(6,.val 3)]),(.ret,[(4,.val 3)])],[13,14,15,8,16,17,18,19,4,20,21,22,23,24,25,26,27,28,29,30,31,32,33,6],vzi⟩
theorem Fzn:∀ back x,azy Tryz.prog tb uzR [] (azd 44 Tryz.f81) jzc.ins jzc.outs back x=qzP back x:=fun back x=>by kernel_rfl
theorem Hzi:cutB Tryz.f81.ntmps jzc (azd 44 Tryz.f81)=true:=by kernel_rfl
theorem Fzo:azg ([]:List (CutSpec tb)) (azd 44 Tryz.f81)=[]:=by kernel_rfl
theorem CzB:azi Tryz.prog tb Tryz.f81.ntmps (.loop (azd 44 Tryz.f81)) jzc:=azw mixed Hzi vzh rfl Fzo .nil qzP Fzn rfl
def Fzm (x:List UInt8×List UInt8):Option (Int) :=
 obnd (bif x.snd.length.ble 70368744177664 then some (gzY x.snd x.snd.length 0) else none) fun rs =>
  obnd (vzi (rs,0,x.fst,0)) fun y=>osum y (fun y=>obnd (bzs (y.1,(↑rs.length:Int))) fun y=>some y) fun y=>some y.1
def lzv:FSpec tb:=⟨[(0,.val 9),(1,.val 9)],[(0,.val 3)],Fzm⟩
theorem Lzt:∀ x,evFn Tryz.prog tb uzR [jzc] Tryz.f81 lzv.ins lzv.outs x=lzv.f x:=fun x=>by kernel_rfl
theorem Mz1:fnK Tryz.f81 lzv.ins lzv.outs=true:=by kernel_rfl
theorem Lzu:azg ([jzc]:List (CutSpec tb)) (azA Tryz.f81)=[(44,.loop (azd 44 Tryz.f81))]:=by kernel_rfl
theorem Fzp:aze Tryz.prog tb 81 lzv:=azJ mixed Tryz.func81 Mz1 vzh rfl Lzu (.cons rfl CzB rfl .nil) Lzt
def sz3 (x:Bool):Option (Int) :=
 brn x (some 1) (some 0)
def jzZ:FSpec tb:=⟨[(0,.val 4)],[(0,.val 3)],sz3⟩
theorem Jzn:∀ x,evFn Tryz.prog tb [] [] Tryz.f82 jzZ.ins jzZ.outs x=jzZ.f x:=fun x=>by kernel_rfl
theorem Lzs:fnK Tryz.f82 jzZ.ins jzZ.outs=true:=by kernel_rfl
theorem CzA:aze Tryz.prog tb 82 jzZ:=azu mixed Tryz.func82 Lzs .nil rfl Jzn
abbrev ozV:List (Nat×FSpec tb):=[(80,czt),(34,dzA),(81,lzv),(82,jzZ)]
theorem ozW:azz Tryz.prog tb ozV:=(.cons kze (.cons jz0 (.cons Fzp (.cons CzA .nil))))
def szL (x:Val×Val):Option (Bool) :=
 brn (decide (x.fst.Kind=0)) (some (bif decide (x.snd.Kind=4) then false else true)) (some false)
def ezy:CutSpec tb:=⟨16,[(2,.ro 32),(3,.ro 32)],[(.normal,[(12,.val 4)])],[5,6,7,8,9,10,11,12],szL⟩
theorem zzS:∀ x,bzD Tryz.prog tb ozV [] (azf 16 Tryz.f27) ezy.ins ezy.outs x=ezy.J x:=fun x=>by kernel_rfl
theorem Czy:cutB Tryz.f27.ntmps ezy (azf 16 Tryz.f27)=true:=by kernel_rfl
theorem zzT:azg ([]:List (CutSpec tb)) (azf 16 Tryz.f27)=[]:=by kernel_rfl
theorem xz6:azi Tryz.prog tb Tryz.f27.ntmps (azf 16 Tryz.f27) ezy:=bzl mixed Czy ozW rfl zzT .nil zzS
def ezA (x:Val×Val×Int):Option ((Unit)⊕(Int)) :=
 brn (decide (x.2.snd=1)) (obnd (ezd (x.fst.N,x.2.fst.N)) fun y=>some (Sum.inr y))
  (brn (decide (x.2.snd=2)) (obnd (Fzm (x.fst.S,x.2.fst.S)) fun y=>some (Sum.inr y))
   (brn (decide (x.2.snd=3)) (obnd (sz3 x.fst.B) fun y=>obnd (sz3 x.2.fst.B) fun y_1=>obnd (bzs (y,y_1)) fun y=>some (Sum.inr y))
    (brn (decide (x.2.snd=4)) (obnd (bzs (x.fst.E,x.2.fst.E)) fun y=>some (Sum.inr y)) (some (Sum.inl PUnit.unit)))))
def ezz:CutSpec tb:=⟨75,[(2,.ro 32),(3,.ro 32),(38,.val 3)],[(.normal,[]),(.ret,[(4,.val 3)])],[40,39,41,42,43,44,45,4,47,46,48,49,50,51,52,54,53,55,56,57,58,59,60,61,63,62,64,65,66,67,68],ezA⟩
theorem zzU:∀ x,bzD Tryz.prog tb ozV [] (azf 75 Tryz.f27) ezz.ins ezz.outs x=ezz.J x:=fun x=>by kernel_rfl
theorem Czz:cutB Tryz.f27.ntmps ezz (azf 75 Tryz.f27)=true:=by kernel_rfl
theorem zzV:azg ([]:List (CutSpec tb)) (azf 75 Tryz.f27)=[]:=by kernel_rfl
theorem xz7:azi Tryz.prog tb Tryz.f27.ntmps (azf 75 Tryz.f27) ezz:=bzl mixed Czz ozW rfl zzV .nil zzU
def xz5 (x:Val×Val):Option (Int) :=
 obnd (szL x) fun y =>
  brn y
   (brn (decide (x.snd.Kind=0))
    (brn (!decide (x.snd.Kind=4))
     (brn (!decide (x.snd.Kind=x.snd.Kind)) (obnd (bzs (x.snd.Kind,x.snd.Kind)) fun y=>some y)
      (obnd
       (ezA
        ({ Kind:=x.snd.Kind,N:={ M:=0,S:=0 },S:=[],B:=false,E:=0 },{ Kind:=x.snd.Kind,N:={ M:=0,S:=0 },S:=[],B:=false,E:=0 },
         x.snd.Kind))
       fun y=>osum y (fun y=>some 0) fun y=>some y))
     (brn (!decide (x.snd.Kind=x.snd.Kind)) (obnd (bzs (x.snd.Kind,x.snd.Kind)) fun y=>some y)
      (obnd (ezA ({ Kind:=x.snd.Kind,N:={ M:=0,S:=0 },S:=[],B:=false,E:=0 },x.snd,x.snd.Kind)) fun y =>
       osum y (fun y=>some 0) fun y=>some y)))
    (brn (!decide (x.snd.Kind=x.snd.Kind)) (obnd (bzs (x.snd.Kind,x.snd.Kind)) fun y=>some y)
     (obnd (ezA ({ Kind:=x.snd.Kind,N:={ M:=0,S:=0 },S:=[],B:=false,E:=0 },x.snd,x.snd.Kind)) fun y =>
      osum y (fun y=>some 0) fun y=>some y)))
   (brn (decide (x.snd.Kind=0))
    (brn (!decide (x.fst.Kind=4))
     (brn (!decide (x.fst.Kind=x.fst.Kind)) (obnd (bzs (x.fst.Kind,x.fst.Kind)) fun y=>some y)
      (obnd (ezA (x.fst,{ Kind:=x.fst.Kind,N:={ M:=0,S:=0 },S:=[],B:=false,E:=0 },x.fst.Kind)) fun y =>
       osum y (fun y=>some 0) fun y=>some y))
     (brn (!decide (x.fst.Kind=x.snd.Kind)) (obnd (bzs (x.fst.Kind,x.snd.Kind)) fun y=>some y)
      (obnd (ezA (x.fst,x.snd,x.fst.Kind)) fun y=>osum y (fun y=>some 0) fun y=>some y)))
    (brn (!decide (x.fst.Kind=x.snd.Kind)) (obnd (bzs (x.fst.Kind,x.snd.Kind)) fun y=>some y)
     (obnd (ezA (x.fst,x.snd,x.fst.Kind)) fun y=>osum y (fun y=>some 0) fun y=>some y)))
def izz:FSpec tb:=⟨[(0,.val 32),(1,.val 32)],[(0,.val 3)],xz5⟩
theorem Hzf:∀ x,evFn Tryz.prog tb ozV [ezy,ezz] Tryz.f27 izz.ins izz.outs x=izz.f x:=fun x=>by kernel_rfl
theorem Jzl:fnK Tryz.f27 izz.ins izz.outs=true:=by kernel_rfl
theorem Hzg:azg ([ezy,ezz]:List (CutSpec tb)) (azA Tryz.f27)=[(16,azf 16 Tryz.f27),(75,azf 75 Tryz.f27)]:=by kernel_rfl
theorem zzW:aze Tryz.prog tb 27 izz:=azJ mixed Tryz.func27 Jzl ozW rfl Hzg (.cons rfl xz6 rfl (.cons rfl xz7 rfl .nil)) Hzf
def hzK (x:Dec):Option (Int) :=
 brn (decide (x.S < 0)) (some 1) (brn (decide (9 < x.S)) (some 1) (brn (decide (0 < x.S)) (brn (decide (x.M.tmod 10=0)) (some 1) (some 0)) (some 0)))
def fzz:FSpec tb:=⟨[(0,.val 26)],[(0,.val 3)],hzK⟩
set_option maxRecDepth 100000 in
theorem BzX:∀ x,evFn Tryz.prog tb [] [] Tryz.f134 fzz.ins fzz.outs x=fzz.f x:=fun x=>by kernel_rfl
theorem EzA:fnK Tryz.f134 fzz.ins fzz.outs=true:=by kernel_rfl
theorem vzZ:aze Tryz.prog tb 134 fzz:=azu mixed Tryz.func134 EzA .nil rfl BzX
def mzZ (x:Int×Int×Int):Option ((Int×Int×Int)⊕(List (Int)×Bool)) :=
 brn (decide (x.fst < 128)) (some (Sum.inl (x.2.fst,x.fst,x.2.snd)))
  (brn (decide (194≤x.fst))
   (brn (decide (x.fst < 224)) (some (Sum.inl (1,azn BinOp.and IntKind.i64 x.fst 31,128)))
    (brn (decide (224≤x.fst))
     (brn (decide (x.fst < 240)) (some (Sum.inl (2,azn BinOp.and IntKind.i64 x.fst 15,2048)))
      (brn (decide (240≤x.fst)) (brn (decide (x.fst < 245)) (some (Sum.inl (3,azn BinOp.and IntKind.i64 x.fst 7,65536))) (some (Sum.inr ([],false))))
       (some (Sum.inr ([],false)))))
     (brn (decide (240≤x.fst)) (brn (decide (x.fst < 245)) (some (Sum.inl (3,azn BinOp.and IntKind.i64 x.fst 7,65536))) (some (Sum.inr ([],false))))
      (some (Sum.inr ([],false))))))
   (brn (decide (224≤x.fst))
    (brn (decide (x.fst < 240)) (some (Sum.inl (2,azn BinOp.and IntKind.i64 x.fst 15,2048)))
     (brn (decide (240≤x.fst)) (brn (decide (x.fst < 245)) (some (Sum.inl (3,azn BinOp.and IntKind.i64 x.fst 7,65536))) (some (Sum.inr ([],false))))
      (some (Sum.inr ([],false)))))
    (brn (decide (240≤x.fst)) (brn (decide (x.fst < 245)) (some (Sum.inl (3,azn BinOp.and IntKind.i64 x.fst 7,65536))) (some (Sum.inr ([],false))))
     (some (Sum.inr ([],false))))))
def fzG:CutSpec tb:=⟨83,[(6,.val 3),(7,.val 3),(9,.val 3)],[(.normal,[(7,.val 3),(8,.val 3),(9,.val 3)]),(.ret,[(2,.own 3),(3,.val 4)])],[21,22,20,23,8,25,26,27,28,29,30,24,7,31,32,9,34,35,36,37,38,39,33,40,41,43,44,45,46,47,48,42,49,50,2,3],mzZ⟩
set_option maxRecDepth 100000 in
theorem Bz6:∀ x,bzD Tryz.prog tb [] [] (azf 83 Tryz.f28) fzG.ins fzG.outs x=fzG.J x:=fun x=>by kernel_rfl
theorem EzL:cutB Tryz.f28.ntmps fzG (azf 83 Tryz.f28)=true:=by kernel_rfl
theorem Bz7:azg ([]:List (CutSpec tb)) (azf 83 Tryz.f28)=[]:=by kernel_rfl
theorem zzI:azi Tryz.prog tb Tryz.f28.ntmps (azf 83 Tryz.f28) fzG:=bzl mixed EzL .nil rfl Bz7 .nil Bz6
def hzO (back:List UInt8×Int×Int×Int×Int→Option ((Int)⊕(List (Int)×Bool))) (x:List UInt8×Int×Int×Int×Int):Option ((Int)⊕(List (Int)×Bool)) :=
 brn (decide (x.2.2.2.snd≤x.2.2.fst))
  (obnd (idx x.fst (IntKind.i64.wrap (x.2.fst+x.2.2.2.snd))) fun y =>
   brn (!decide (azn BinOp.and IntKind.i64 (IntKind.i64.wrap (↑y.toNat:Int)) 192=128)) (some (Sum.inr ([],false)))
    (back
     (x.fst,x.2.fst,x.2.2.fst,azn BinOp.or IntKind.i64 (IntKind.i64.wrap (x.2.2.2.fst*64)) (azn BinOp.and IntKind.i64 (IntKind.i64.wrap (↑y.toNat:Int)) 63),
      IntKind.i64.wrap (x.2.2.2.snd+1))))
  (some (Sum.inl x.2.2.2.1))
def kzF:List UInt8×Int×Int×Int×Int→Option ((Int)⊕(List (Int)×Bool)):=iter hzO big
def hzN:CutSpec tb:=⟨220,[(0,.val 9),(5,.val 3),(7,.val 3),(8,.val 3),(10,.val 3)],[((.exit 3),[(8,.val 3)]),(.ret,[(2,.own 3),(3,.val 4)])],[57,58,59,62,63,64,65,66,67,11,68,69,70,2,3,71,72,73,74,75,8,60,61,10],kzF⟩
set_option maxRecDepth 100000 in
theorem Cza:∀ back x,azy Tryz.prog tb [] [] (azd 220 Tryz.f28) hzN.ins hzN.outs back x=hzO back x:=fun back x=>by kernel_rfl
theorem EzN:cutB Tryz.f28.ntmps hzN (azd 220 Tryz.f28)=true:=by kernel_rfl
theorem Czb:azg ([]:List (CutSpec tb)) (azd 220 Tryz.f28)=[]:=by kernel_rfl
theorem zzK:azi Tryz.prog tb Tryz.f28.ntmps (.loop (azd 220 Tryz.f28)) hzN:=azw mixed EzN .nil rfl Czb .nil hzO Cza rfl
def mzY (x:List UInt8×List (Int)×Int):Option ((List (Int)×Int)⊕(List (Int)×Bool)) :=
 obnd (idx x.fst x.2.snd) fun y =>
  obnd (mzZ (IntKind.i64.wrap (↑y.toNat:Int),0,0)) fun y =>
   osum y
    (fun y =>
     brn (decide (IntKind.i64.wrap ((↑x.fst.length:Int) - x.2.snd)≤y.fst)) (some (Sum.inr ([],false)))
      (obnd (kzF (x.fst,x.2.snd,y.fst,y.2.fst,1)) fun y_1 =>
       osum y_1
        (fun y_2 =>
         brn (decide (y_2 < y.2.snd)) (some (Sum.inr ([],false)))
          (brn (decide (55296≤y_2))
           (brn (decide (y_2 < 57344)) (some (Sum.inr ([],false)))
            (brn (decide (1114111 < y_2)) (some (Sum.inr ([],false)))
             (obnd (app 8 x.2.fst [y_2]) fun zs=>some (Sum.inl (zs,IntKind.i64.wrap (IntKind.i64.wrap (x.2.snd+y.fst)+1))))))
           (brn (decide (1114111 < y_2)) (some (Sum.inr ([],false)))
            (obnd (app 8 x.2.fst [y_2]) fun zs=>some (Sum.inl (zs,IntKind.i64.wrap (IntKind.i64.wrap (x.2.snd+y.fst)+1)))))))
        fun y=>some (Sum.inr y)))
    fun y=>some (Sum.inr y)
def fzF:CutSpec tb:=⟨43,[(0,.val 9),(4,.own 3),(5,.val 3)],[(.normal,[(4,.own 3),(5,.val 3)]),(.ret,[(2,.own 3),(3,.val 4)])],[16,17,18,19,6,7,8,9,21,22,20,23,25,26,27,28,29,30,24,31,32,34,35,36,37,38,39,33,40,41,43,44,45,46,47,48,42,49,50,2,3,51,52,53,54,55,56,10,57,58,59,62,63,64,65,66,67,11,68,69,70,71,72,73,74,75,60,61,76,77,78,79,80,81,82,83,84,85,86,87,88,89,90,91,92,93,94,4,95,96,97,98,5],mzY⟩
set_option maxRecDepth 100000 in
theorem Bz4:∀ x,bzD Tryz.prog tb [] [fzG,hzN] (azf 43 Tryz.f28) fzF.ins fzF.outs x=fzF.J x:=fun x=>by kernel_rfl
theorem EzK:cutB Tryz.f28.ntmps fzF (azf 43 Tryz.f28)=true:=by kernel_rfl
theorem Bz5:azg ([fzG,hzN]:List (CutSpec tb)) (azf 43 Tryz.f28)=[(83,azf 83 Tryz.f28),(220,.loop (azd 220 Tryz.f28))]:=by kernel_rfl
theorem zzH:azi Tryz.prog tb Tryz.f28.ntmps (azf 43 Tryz.f28) fzF:=bzl mixed EzK .nil rfl Bz5 (.cons rfl zzI rfl (.cons rfl zzK rfl .nil)) Bz4
def kzE (back:List UInt8×List (Int)×Int→Option ((List (Int))⊕(List (Int)×Bool))) (x:List UInt8×List (Int)×Int):Option ((List (Int))⊕(List (Int)×Bool)) :=
 brn (decide (x.2.snd < (↑x.fst.length:Int))) (obnd (mzY (x.fst,x.2)) fun y=>osum y (fun y=>back (x.fst,y)) fun y=>some (Sum.inr y)) (some (Sum.inl x.2.1))
def pzD:List UInt8×List (Int)×Int→Option ((List (Int))⊕(List (Int)×Bool)):=iter kzE big
def hzM:CutSpec tb:=⟨36,[(0,.val 9),(4,.own 3),(5,.val 3)],[((.exit 0),[(4,.own 3)]),(.ret,[(2,.own 3),(3,.val 4)])],[12,13,14,15,16,17,18,19,6,7,8,9,21,22,20,23,25,26,27,28,29,30,24,31,32,34,35,36,37,38,39,33,40,41,43,44,45,46,47,48,42,49,50,2,3,51,52,53,54,55,56,10,57,58,59,62,63,64,65,66,67,11,68,69,70,71,72,73,74,75,60,61,76,77,78,79,80,81,82,83,84,85,86,87,88,89,90,91,92,93,94,4,95,96,97,98,5],pzD⟩
set_option maxRecDepth 100000 in
theorem Bz8:∀ back x,azy Tryz.prog tb [] [fzF] (azd 36 Tryz.f28) hzM.ins hzM.outs back x=kzE back x:=fun back x=>by kernel_rfl
theorem EzM:cutB Tryz.f28.ntmps hzM (azd 36 Tryz.f28)=true:=by kernel_rfl
theorem Bz9:azg ([fzF]:List (CutSpec tb)) (azd 36 Tryz.f28)=[(43,azf 43 Tryz.f28)]:=by kernel_rfl
theorem zzJ:azi Tryz.prog tb Tryz.f28.ntmps (.loop (azd 36 Tryz.f28)) hzM:=azw mixed EzM .nil rfl Bz9 (.cons rfl zzH rfl .nil) kzE Bz8 rfl
def jzS (x:List UInt8):Option (List (Int)×Bool) :=
 obnd (pzD (x,[],0)) fun y=>osum y (fun y=>some (y,true)) fun y=>some y
def hzf:FSpec tb:=⟨[(0,.val 9)],[(0,.own 3),(1,.val 4)],jzS⟩
set_option maxRecDepth 100000 in
theorem Iz0:∀ x,evFn Tryz.prog tb [] [hzM] Tryz.f28 hzf.ins hzf.outs x=hzf.f x:=fun x=>by kernel_rfl
theorem KzN:fnK Tryz.f28 hzf.ins hzf.outs=true:=by kernel_rfl
theorem Iz1:azg ([hzM]:List (CutSpec tb)) (azA Tryz.f28)=[(36,.loop (azd 36 Tryz.f28))]:=by kernel_rfl
theorem rz4:aze Tryz.prog tb 28 hzf:=azJ mixed Tryz.func28 KzN .nil rfl Iz1 (.cons rfl zzJ rfl .nil) Iz0
def kzL (back:List Int×List (Int)×Int→Option (List (Int))) (x:List Int×List (Int)×Int):Option (List (Int)) :=
 brn (decide (x.2.snd < (↑x.fst.length:Int)))
  (obnd (idx x.fst x.2.snd) fun y =>
   brn (decide (y < 65536)) (obnd (idx x.fst x.2.snd) fun y=>obnd (app 8 x.2.fst [y]) fun zs=>back (x.fst,zs,IntKind.i64.wrap (x.2.snd+1)))
    (obnd (idx x.fst x.2.snd) fun y =>
     obnd
      (app 8 x.2.fst
       [azn BinOp.or IntKind.i64 55296 ((IntKind.i64.wrap (y - 65536)).fdiv 1024),
        azn BinOp.or IntKind.i64 56320 (azn BinOp.and IntKind.i64 (IntKind.i64.wrap (y - 65536)) 1023)])
      fun zs=>back (x.fst,zs,IntKind.i64.wrap (x.2.snd+1))))
  (some x.2.1)
def pzH:List Int×List (Int)×Int→Option (List (Int)):=iter kzL big
def hzS:CutSpec tb:=⟨36,[(0,.val 53),(3,.own 3),(4,.val 3)],[((.exit 0),[(3,.own 3)])],[6,7,8,9,12,13,14,15,16,17,18,19,20,21,22,23,3,24,25,26,27,28,5,29,30,31,32,33,34,35,36,37,10,11,4],pzH⟩
set_option maxRecDepth 100000 in
theorem Czp:∀ back x,azy Tryz.prog tb [] [] (azd 36 Tryz.f215) hzS.ins hzS.outs back x=kzL back x:=fun back x=>by kernel_rfl
theorem Ez5:cutB Tryz.f215.ntmps hzS (azd 36 Tryz.f215)=true:=by kernel_rfl
theorem Czq:azg ([]:List (CutSpec tb)) (azd 36 Tryz.f215)=[]:=by kernel_rfl
theorem zzP:azi Tryz.prog tb Tryz.f215.ntmps (.loop (azd 36 Tryz.f215)) hzS:=azw mixed Ez5 .nil rfl Czq .nil kzL Czp rfl
def pz9 (x:List Int):Option (List (Int)) :=
 obnd (pzH (x,[],0)) fun y=>some y
def jzW:FSpec tb:=⟨[(0,.val 53)],[(0,.own 3)],pz9⟩
set_option maxRecDepth 100000 in
theorem Jzb:∀ x,evFn Tryz.prog tb [] [hzS] Tryz.f215 jzW.ins jzW.outs x=jzW.f x:=fun x=>by kernel_rfl
theorem Kz1:fnK Tryz.f215 jzW.ins jzW.outs=true:=by kernel_rfl
theorem Jzc:azg ([hzS]:List (CutSpec tb)) (azA Tryz.f215)=[(36,.loop (azd 36 Tryz.f215))]:=by kernel_rfl
theorem Czr:aze Tryz.prog tb 215 jzW:=azJ mixed Tryz.func215 Kz1 .nil rfl Jzc (.cons rfl zzP rfl .nil) Jzb
def hzg (x:List UInt8):Option (Int×Int) :=
 obnd (jzS x) fun y =>
  brn (!y.snd) (some (0,2)) (obnd (pz9 y.fst) fun y=>brn (decide (1000 < (↑(List.length y):Int))) (some (0,4)) (some ((↑(List.length y):Int),0)))
def dz7:FSpec tb:=⟨[(0,.val 9)],[(0,.val 3),(1,.val 3)],hzg⟩
set_option maxRecDepth 100000 in
theorem Iz3:∀ x,evFn Tryz.prog tb [(28,hzf),(215,jzW)] [] Tryz.f135 dz7.ins dz7.outs x=dz7.f x:=fun x=>by kernel_rfl
theorem KzO:fnK Tryz.f135 dz7.ins dz7.outs=true:=by kernel_rfl
theorem lzn:aze Tryz.prog tb 135 dz7:=azu mixed Tryz.func135 KzO (.cons rz4 (.cons Czr .nil)) rfl Iz3
def kzz (x:Int):Option (List UInt8) :=
 brn (decide (x=0)) (some (U8s [35,78,85,76,76,33]))
  (brn (decide (x=7)) (some (U8s [35,68,73,86,47,48,33]))
   (brn (decide (x=15)) (some (U8s [35,86,65,76,85,69,33]))
    (brn (decide (x=23)) (some (U8s [35,82,69,70,33]))
     (brn (decide (x=29)) (some (U8s [35,78,65,77,69,63]))
      (brn (decide (x=36)) (some (U8s [35,78,85,77,33])) (brn (decide (x=42)) (some [35,78,47,65]) (some [])))))))
def dz0:FSpec tb:=⟨[(0,.val 3)],[(0,.val 9)],kzz⟩
theorem BzJ:∀ x,evFn Tryz.prog tb [] [] Tryz.f136 dz0.ins dz0.outs x=dz0.f x:=fun x=>by kernel_rfl
theorem Dz6:fnK Tryz.f136 dz0.ins dz0.outs=true:=by kernel_rfl
theorem oz8:aze Tryz.prog tb 136 dz0:=azu mixed Tryz.func136 Dz6 .nil rfl BzJ
abbrev ozF:List (Nat×FSpec tb):=[(134,fzz),(135,dz7),(136,dz0)]
theorem qzj:azz Tryz.prog tb ozF:=(.cons vzZ (.cons lzn (.cons oz8 .nil)))
def czW (x:Val):Option (Bool) :=
 brn (!decide (x.Kind=1))
  (brn (bif true then !(decide (x.N.M=0)&&decide (x.N.S=0)) else decide (x.N.M=0)&&decide (x.N.S=0)) (some true)
   (brn (!decide (x.Kind=2))
    (brn (!decide (x.S=[])) (some true)
     (brn (!decide (x.Kind=3)) (brn x.B (some true) (brn (!decide (x.Kind=4)) (some (bif decide (x.E=0) then false else true)) (some false)))
      (brn (!decide (x.Kind=4)) (some (bif decide (x.E=0) then false else true)) (some false))))
    (brn (!decide (x.Kind=3)) (brn x.B (some true) (brn (!decide (x.Kind=4)) (some (bif decide (x.E=0) then false else true)) (some false)))
     (brn (!decide (x.Kind=4)) (some (bif decide (x.E=0) then false else true)) (some false)))))
  (brn (!decide (x.Kind=2))
   (brn (!decide (x.S=[])) (some true)
    (brn (!decide (x.Kind=3)) (brn x.B (some true) (brn (!decide (x.Kind=4)) (some (bif decide (x.E=0) then false else true)) (some false)))
     (brn (!decide (x.Kind=4)) (some (bif decide (x.E=0) then false else true)) (some false))))
   (brn (!decide (x.Kind=3)) (brn x.B (some true) (brn (!decide (x.Kind=4)) (some (bif decide (x.E=0) then false else true)) (some false)))
    (brn (!decide (x.Kind=4)) (some (bif decide (x.E=0) then false else true)) (some false))))
def czV:CutSpec tb:=⟨32,[(1,.ro 28)],[(.normal,[(50,.val 4)])],[13,14,15,16,17,18,19,20,21,22,23,24,25,26,27,28,29,30,31,32,33,34,35,36,37,38,39,40,41,42,43,44,45,46,47,48,49,50],czW⟩
theorem uzj:∀ x,bzD Tryz.prog tb ozF [] (azf 32 Tryz.f57) czV.ins czV.outs x=czV.J x:=fun x=>by kernel_rfl
theorem vzr:cutB Tryz.f57.ntmps czV (azf 32 Tryz.f57)=true:=by kernel_rfl
theorem uzk:azg ([]:List (CutSpec tb)) (azf 32 Tryz.f57)=[]:=by kernel_rfl
theorem tzr:azi Tryz.prog tb Tryz.f57.ntmps (azf 32 Tryz.f57) czV:=bzl mixed vzr qzj rfl uzk .nil uzj
def gzm (x:Val):Option (Int) :=
 brn (decide (x.Kind < 0)) (some 1)
  (brn (decide (4 < x.Kind)) (some 1)
   (obnd (czW x) fun y =>
    brn y (some 1)
     (brn (decide (x.Kind=1)) (obnd (hzK x.N) fun y=>some y)
      (brn (decide (x.Kind=2)) (obnd (hzg x.S) fun y=>some y.2)
       (brn (decide (x.Kind=4)) (obnd (kzz x.E) fun y=>brn (decide (y=[])) (some 1) (some 0)) (some 0))))))
def ezt:FSpec tb:=⟨[(0,.val 28)],[(0,.val 3)],gzm⟩
theorem zzf:∀ x,evFn Tryz.prog tb ozF [czV] Tryz.f57 ezt.ins ezt.outs x=ezt.f x:=fun x=>by kernel_rfl
theorem BzI:fnK Tryz.f57 ezt.ins ezt.outs=true:=by kernel_rfl
theorem zzg:azg ([czV]:List (CutSpec tb)) (azA Tryz.f57)=[(32,azf 32 Tryz.f57)]:=by kernel_rfl
theorem uzl:aze Tryz.prog tb 57 ezt:=azJ mixed Tryz.func57 BzI qzj rfl zzg (.cons rfl tzr rfl .nil) zzf
def Kzt (x:Dec):Option (Dec) :=
 some x
def nzI:FSpec tb:=⟨[(0,.val 26)],[(0,.val 30)],Kzt⟩
theorem NzN:∀ x,evFn Tryz.prog tb [] [] Tryz.f158 nzI.ins nzI.outs x=nzI.f x:=fun x=>by kernel_rfl
theorem law4_To_k:fnK Tryz.f158 nzI.ins nzI.outs=true:=by kernel_rfl
theorem IzI:aze Tryz.prog tb 158 nzI:=azu mixed Tryz.func158 law4_To_k .nil rfl NzN
def Bzw (x:Val):Option (Val) :=
 obnd (Kzt x.N) fun y=>some { Kind:=x.Kind,N:=y,S:=x.S,B:=x.B,E:=x.E }
def nzK:FSpec tb:=⟨[(0,.val 28)],[(0,.val 32)],Bzw⟩
theorem NzP:∀ x,evFn Tryz.prog tb [(158,nzI)] [] Tryz.f68 nzK.ins nzK.outs x=nzK.f x:=fun x=>by kernel_rfl
theorem law9_To_k:fnK Tryz.f68 nzK.ins nzK.outs=true:=by kernel_rfl
theorem IzK:aze Tryz.prog tb 68 nzK:=azu mixed Tryz.func68 law9_To_k (.cons IzI .nil) rfl NzP
def Kzs (x:Dec):Option (Dec) :=
 some x
def nzH:FSpec tb:=⟨[(0,.val 30)],[(0,.val 26)],Kzs⟩
theorem NzM:∀ x,evFn Tryz.prog tb [] [] Tryz.f58 nzH.ins nzH.outs x=nzH.f x:=fun x=>by kernel_rfl
theorem law4_Of_k:fnK Tryz.f58 nzH.ins nzH.outs=true:=by kernel_rfl
theorem IzH:aze Tryz.prog tb 58 nzH:=azu mixed Tryz.func58 law4_Of_k .nil rfl NzM
def Bzv (x:Val):Option (Val) :=
 obnd (Kzs x.N) fun y=>some { Kind:=x.Kind,N:=y,S:=x.S,B:=x.B,E:=x.E }
def nzJ:FSpec tb:=⟨[(0,.val 32)],[(0,.val 28)],Bzv⟩
theorem NzO:∀ x,evFn Tryz.prog tb [(58,nzH)] [] Tryz.f18 nzJ.ins nzJ.outs x=nzJ.f x:=fun x=>by kernel_rfl
theorem law9_Of_k:fnK Tryz.f18 nzJ.ins nzJ.outs=true:=by kernel_rfl
theorem IzJ:aze Tryz.prog tb 18 nzJ:=azu mixed Tryz.func18 law9_Of_k (.cons IzH .nil) rfl NzO
def azo (x:Int):Option (Val) :=
 some { Kind:=4,N:={ M:=0,S:=0 },S:=[],B:=false,E:=x }
def bzg:FSpec tb:=⟨[(0,.val 3)],[(0,.val 28)],azo⟩
theorem GzA:∀ x,evFn Tryz.prog tb [] [] Tryz.f77 bzg.ins bzg.outs x=bzg.f x:=fun x=>by kernel_rfl
theorem IzN:fnK Tryz.f77 bzg.ins bzg.outs=true:=by kernel_rfl
theorem bzj:aze Tryz.prog tb 77 bzg:=azu mixed Tryz.func77 IzN .nil rfl GzA
def lzL (back:Big×Int→Option (Int)) (x:Big×Int):Option (Int) :=
 brn (decide (0 < x.snd)) (obnd (idx x.fst.D (IntKind.i64.wrap (x.snd - 1))) fun y=>brn (decide (y=0)) (back (x.fst,IntKind.i64.wrap (x.snd - 1))) (some x.2)) (some x.2)
def qzI:Big×Int→Option (Int):=iter lzL big
def iz8:CutSpec tb:=⟨28,[(1,.ro 271),(3,.val 3)],[((.exit 0),[(3,.val 3)])],[7,8,9,10,11,12,13,14,15,16,17,18,19,3],qzI⟩
set_option maxRecDepth 100000 in
theorem Ez3:∀ back x,azy Tryz.prog tb [] [] (azd 28 Tryz.f196) iz8.ins iz8.outs back x=lzL back x:=fun back x=>by kernel_rfl
theorem Gz8:cutB Tryz.f196.ntmps iz8 (azd 28 Tryz.f196)=true:=by kernel_rfl
theorem Ez4:azg ([]:List (CutSpec tb)) (azd 28 Tryz.f196)=[]:=by kernel_rfl
theorem Czo:azi Tryz.prog tb Tryz.f196.ntmps (.loop (azd 28 Tryz.f196)) iz8:=azw mixed Gz8 .nil rfl Ez4 .nil lzL Ez3 rfl
def bzG (x:Big):Option (Big) :=
 obnd (qzI (x,(↑x.D.length:Int))) fun y=>obnd (sub x.D 0 y) fun z=>brn (decide (y=0)) (some { Minus:=false,D:=z }) (some { Minus:=x.Minus,D:=z })
def dzJ:FSpec tb:=⟨[(0,.val 271)],[(0,.val 271)],bzG⟩
set_option maxRecDepth 100000 in
theorem KzZ:∀ x,evFn Tryz.prog tb [] [iz8] Tryz.f196 dzJ.ins dzJ.outs x=dzJ.f x:=fun x=>by kernel_rfl
theorem MzC:fnK Tryz.f196 dzJ.ins dzJ.outs=true:=by kernel_rfl
theorem Kz0:azg ([iz8]:List (CutSpec tb)) (azA Tryz.f196)=[(28,.loop (azd 28 Tryz.f196))]:=by kernel_rfl
theorem gzp:aze Tryz.prog tb 196 dzJ:=azJ mixed Tryz.func196 MzC .nil rfl Kz0 (.cons rfl Czo rfl .nil) KzZ
def kzJ (back:Int×Big→Option ((Int)×Big)) (x:Int×Big):Option ((Int)×Big) :=
 brn (decide (0 < x.fst))
  (brn (decide ((↑x.snd.D.length:Int)=0))
   (brn (decide (0 < (↑x.snd.D.length:Int))) (obnd (sub x.snd.D 1 (↑x.snd.D.length:Int)) fun z=>back (IntKind.i64.wrap (x.fst - 1),{ Minus:=x.snd.Minus,D:=z }))
    (back (IntKind.i64.wrap (x.fst - 1),x.snd)))
   (obnd (idx x.snd.D 0) fun y =>
    brn (decide (y=0))
     (brn (decide (0 < (↑x.snd.D.length:Int))) (obnd (sub x.snd.D 1 (↑x.snd.D.length:Int)) fun z=>back (IntKind.i64.wrap (x.fst - 1),{ Minus:=x.snd.Minus,D:=z }))
      (back (IntKind.i64.wrap (x.fst - 1),x.snd)))
     (some x)))
  (some x)
def pzF:Int×Big→Option ((Int)×Big):=iter kzJ big
def hzQ:CutSpec tb:=⟨20,[(1,.val 3),(2,.ref 271)],[((.exit 0),[(1,.val 3)])],[8,9,10,11,12,13,14,15,16,17,18,19,20,21,22,23,24,25,26,27,28,29,30,31,32,33,34,1],pzF⟩
set_option maxRecDepth 100000 in
theorem Czk:∀ back x,azy Tryz.prog tb [] [] (azd 20 Tryz.f188) hzQ.ins hzQ.outs back x=kzJ back x:=fun back x=>by kernel_rfl
theorem Ez1:cutB Tryz.f188.ntmps hzQ (azd 20 Tryz.f188)=true:=by kernel_rfl
theorem Czl:azg ([]:List (CutSpec tb)) (azd 20 Tryz.f188)=[]:=by kernel_rfl
theorem zzN:azi Tryz.prog tb Tryz.f188.ntmps (.loop (azd 20 Tryz.f188)) hzQ:=azw mixed Ez1 .nil rfl Czl .nil kzJ Czk rfl
def kzK (back:Big×Int×Int→Option (Int)) (x:Big×Int×Int):Option (Int) :=
 brn (decide (0≤x.2.snd))
  (obnd (idx x.fst.D x.2.snd) fun y=>back (x.fst,IntKind.u64.wrap (IntKind.u64.wrap (10*x.2.fst)+IntKind.u64.wrap y),IntKind.i64.wrap (x.2.snd - 1))) (some x.2.1)
def pzG:Big×Int×Int→Option (Int):=iter kzK big
def hzR:CutSpec tb:=⟨84,[(2,.ro 271),(6,.val 152),(7,.val 3)],[((.exit 2),[(6,.val 152)])],[44,45,48,49,50,51,52,53,54,55,56,6,46,47,7],pzG⟩
set_option maxRecDepth 100000 in
theorem Czm:∀ back x,azy Tryz.prog tb [] [] (azd 84 Tryz.f188) hzR.ins hzR.outs back x=kzK back x:=fun back x=>by kernel_rfl
theorem Ez2:cutB Tryz.f188.ntmps hzR (azd 84 Tryz.f188)=true:=by kernel_rfl
theorem Czn:azg ([]:List (CutSpec tb)) (azd 84 Tryz.f188)=[]:=by kernel_rfl
theorem zzO:azi Tryz.prog tb Tryz.f188.ntmps (.loop (azd 84 Tryz.f188)) hzR:=azw mixed Ez2 .nil rfl Czn .nil kzK Czm rfl
def bzv (x:Big×Int):Option (Dec×Int) :=
 obnd (pzF (x.snd,x.fst)) fun y =>
  brn (decide (19 < (↑y.2.D.length:Int))) (some ({ M:=0,S:=0 },8))
   (obnd (pzG (y.2,0,IntKind.i64.wrap ((↑y.2.D.length:Int) - 1))) fun y_1 =>
    brn y.2.Minus (brn (decide (9223372036854775808 < y_1)) (some ({ M:=0,S:=0 },8)) (some ({ M:=IntKind.i64.wrap (IntKind.u64.wrap (0 - y_1)),S:=y.1 },0)))
     (brn (decide (9223372036854775807 < y_1)) (some ({ M:=0,S:=0 },8)) (some ({ M:=IntKind.i64.wrap y_1,S:=y.1 },0))))
def cz5:FSpec tb:=⟨[(0,.val 271),(1,.val 3)],[(0,.val 26),(1,.val 3)],bzv⟩
set_option maxRecDepth 100000 in
theorem Iz9:∀ x,evFn Tryz.prog tb [] [hzQ,hzR] Tryz.f188 cz5.ins cz5.outs x=cz5.f x:=fun x=>by kernel_rfl
theorem KzY:fnK Tryz.f188 cz5.ins cz5.outs=true:=by kernel_rfl
theorem Jza:azg ([hzQ,hzR]:List (CutSpec tb)) (azA Tryz.f188)=[(20,.loop (azd 20 Tryz.f188)),(84,.loop (azd 84 Tryz.f188))]:=by kernel_rfl
theorem fzH:aze Tryz.prog tb 188 cz5:=azJ mixed Tryz.func188 KzY .nil rfl Jza (.cons rfl zzN rfl (.cons rfl zzO rfl .nil)) Iz9
abbrev dz1:List (Nat×FSpec tb):=[(196,dzJ),(188,cz5)]
theorem dzl:azz Tryz.prog tb dz1:=(.cons gzp (.cons fzH .nil))
def kza (x:List UInt8):Option (Bool) :=
 brn (decide (0 < (↑x.length:Int))) (obnd (idx x 0) fun y=>some (decide ((↑y.toNat:Int)=45))) (some false)
def dzm:CutSpec tb:=⟨32,[(0,.val 9)],[(.normal,[(23,.val 4)])],[16,17,18,19,20,21,22,23],kza⟩
set_option maxRecDepth 100000 in
theorem vz5:∀ x,bzD Tryz.prog tb dz1 [] (azf 32 Tryz.f186) dzm.ins dzm.outs x=dzm.J x:=fun x=>by kernel_rfl
theorem xzU:cutB Tryz.f186.ntmps dzm (azf 32 Tryz.f186)=true:=by kernel_rfl
theorem vz6:azg ([]:List (CutSpec tb)) (azf 32 Tryz.f186)=[]:=by kernel_rfl
theorem uzw:azi Tryz.prog tb Tryz.f186.ntmps (azf 32 Tryz.f186) dzm:=bzl mixed xzU dzl rfl vz6 .nil vz5
def kzb (x:Big×Int×Bool):Option ((Int)×Big) :=
 brn x.2.snd (some (IntKind.i64.wrap (x.2.fst+1),{ Minus:=true,D:=x.fst.D })) (some (x.2.fst,x.fst))
def dzn:CutSpec tb:=⟨42,[(4,.ref 271),(5,.val 3),(23,.val 4)],[(.normal,[(5,.val 3)])],[24,25,26,5],kzb⟩
set_option maxRecDepth 100000 in
theorem vz7:∀ x,bzD Tryz.prog tb dz1 [] (azf 42 Tryz.f186) dzn.ins dzn.outs x=dzn.J x:=fun x=>by kernel_rfl
theorem xzV:cutB Tryz.f186.ntmps dzn (azf 42 Tryz.f186)=true:=by kernel_rfl
theorem vz8:azg ([]:List (CutSpec tb)) (azf 42 Tryz.f186)=[]:=by kernel_rfl
theorem uzx:azi Tryz.prog tb Tryz.f186.ntmps (azf 42 Tryz.f186) dzn:=bzl mixed xzV dzl rfl vz8 .nil vz7
def gzX (back:List UInt8×Dec×Big×Int×Int×Int→Option (((Int)×(Dec×Big))⊕((Int)×(Dec×Big)))) (x:List UInt8×Dec×Big×Int×Int×Int):Option (((Int)×(Dec×Big))⊕((Int)×(Dec×Big))) :=
 brn (decide (x.2.2.2.2.snd < (↑x.fst.length:Int)))
  (obnd (idx x.fst x.2.2.2.2.snd) fun y =>
   brn (decide ((↑y.toNat:Int)=46))
    (brn (decide (x.2.2.2.2.fst < 0))
     (brn (decide (x.2.2.2.fst < x.2.2.2.2.snd)) (back (x.fst,x.2.fst,x.2.2.fst,x.2.2.2.fst,x.2.2.2.2.snd,IntKind.i64.wrap (x.2.2.2.2.snd+1)))
      (obnd (idx x.fst x.2.2.2.2.snd) fun y =>
       brn (decide (48≤(↑y.toNat:Int)))
        (obnd (idx x.fst x.2.2.2.2.snd) fun y =>
         brn (decide ((↑y.toNat:Int)≤57))
          (obnd (idx x.fst x.2.2.2.2.snd) fun y =>
           obnd (app 8 [IntKind.i64.wrap (IntKind.u8.wrap ((↑y.toNat:Int) - 48))] x.2.2.fst.D) fun zs =>
            back (x.fst,x.2.fst,{ Minus:=x.2.2.fst.Minus,D:=zs },x.2.2.2.fst,x.2.2.2.2.fst,IntKind.i64.wrap (x.2.2.2.2.snd+1)))
          (some (Sum.inr (2,{ M:=0,S:=0 },x.2.2.fst))))
        (some (Sum.inr (2,{ M:=0,S:=0 },x.2.2.fst)))))
     (obnd (idx x.fst x.2.2.2.2.snd) fun y =>
      brn (decide (48≤(↑y.toNat:Int)))
       (obnd (idx x.fst x.2.2.2.2.snd) fun y =>
        brn (decide ((↑y.toNat:Int)≤57))
         (obnd (idx x.fst x.2.2.2.2.snd) fun y =>
          obnd (app 8 [IntKind.i64.wrap (IntKind.u8.wrap ((↑y.toNat:Int) - 48))] x.2.2.fst.D) fun zs =>
           back (x.fst,x.2.fst,{ Minus:=x.2.2.fst.Minus,D:=zs },x.2.2.2.fst,x.2.2.2.2.fst,IntKind.i64.wrap (x.2.2.2.2.snd+1)))
         (some (Sum.inr (2,{ M:=0,S:=0 },x.2.2.fst))))
       (some (Sum.inr (2,{ M:=0,S:=0 },x.2.2.fst)))))
    (obnd (idx x.fst x.2.2.2.2.snd) fun y =>
     brn (decide (48≤(↑y.toNat:Int)))
      (obnd (idx x.fst x.2.2.2.2.snd) fun y =>
       brn (decide ((↑y.toNat:Int)≤57))
        (obnd (idx x.fst x.2.2.2.2.snd) fun y =>
         obnd (app 8 [IntKind.i64.wrap (IntKind.u8.wrap ((↑y.toNat:Int) - 48))] x.2.2.fst.D) fun zs =>
          back (x.fst,x.2.fst,{ Minus:=x.2.2.fst.Minus,D:=zs },x.2.2.2.fst,x.2.2.2.2.fst,IntKind.i64.wrap (x.2.2.2.2.snd+1)))
        (some (Sum.inr (2,{ M:=0,S:=0 },x.2.2.fst))))
      (some (Sum.inr (2,{ M:=0,S:=0 },x.2.2.fst)))))
  (some (Sum.inl (x.2.2.2.2.fst,x.2.fst,x.2.2.fst)))
def nzd:List UInt8×Dec×Big×Int×Int×Int→Option (((Int)×(Dec×Big))⊕((Int)×(Dec×Big))):=iter gzX big
def ezL:CutSpec tb:=⟨84,[(0,.val 9),(2,.ref 26),(4,.ref 271),(6,.val 3),(7,.val 3),(8,.val 3)],[((.exit 0),[(7,.val 3)]),(.ret,[(3,.val 3)])],[29,30,31,32,37,38,39,40,41,42,43,44,45,46,47,48,49,36,50,7,52,53,54,55,56,57,58,59,60,61,51,62,63,64,65,66,67,68,69,70,71,35,3,33,34,8],nzd⟩
set_option maxRecDepth 100000 in
theorem wzf:∀ back x,azy Tryz.prog tb dz1 [] (azd 84 Tryz.f186) ezL.ins ezL.outs back x=gzX back x:=fun back x=>by kernel_rfl
theorem xzZ:cutB Tryz.f186.ntmps ezL (azd 84 Tryz.f186)=true:=by kernel_rfl
theorem wzg:azg ([]:List (CutSpec tb)) (azd 84 Tryz.f186)=[]:=by kernel_rfl
theorem uzB:azi Tryz.prog tb Tryz.f186.ntmps (.loop (azd 84 Tryz.f186)) ezL:=azw mixed xzZ dzl rfl wzg .nil gzX wzf rfl
def ezJ (x:Int×Int×Int×Bool):Option (Int) :=
 brn x.2.2.snd (some (IntKind.i64.wrap (x.2.fst - x.fst))) (some x.2.2.1)
def dzo:CutSpec tb:=⟨154,[(6,.val 3),(7,.val 3),(9,.val 3),(77,.val 4)],[(.normal,[(9,.val 3)])],[78,79,80,9],ezJ⟩
set_option maxRecDepth 100000 in
theorem vz9:∀ x,bzD Tryz.prog tb dz1 [] (azf 154 Tryz.f186) dzo.ins dzo.outs x=dzo.J x:=fun x=>by kernel_rfl
theorem xzW:cutB Tryz.f186.ntmps dzo (azf 154 Tryz.f186)=true:=by kernel_rfl
theorem wza:azg ([]:List (CutSpec tb)) (azf 154 Tryz.f186)=[]:=by kernel_rfl
theorem uzy:azi Tryz.prog tb Tryz.f186.ntmps (azf 154 Tryz.f186) dzo:=bzl mixed xzW dzl rfl wza .nil vz9
def ezK (x:List UInt8×Int×Int×Int):Option (Bool) :=
 brn (decide (x.2.2.snd=0)) (some true)
  (brn (decide (x.2.2.fst=IntKind.i64.wrap ((↑x.fst.length:Int) - 1))) (some true)
   (obnd (idx x.fst x.2.fst) fun y=>brn (decide ((↑y.toNat:Int)=48)) (some (decide (1 < x.2.2.snd))) (some false)))
def dzp:CutSpec tb:=⟨160,[(0,.val 9),(6,.val 3),(7,.val 3),(9,.val 3)],[(.normal,[(99,.val 4)])],[81,82,83,84,85,86,87,88,89,90,91,92,93,94,95,96,97,98,99],ezK⟩
set_option maxRecDepth 100000 in
theorem wzb:∀ x,bzD Tryz.prog tb dz1 [] (azf 160 Tryz.f186) dzp.ins dzp.outs x=dzp.J x:=fun x=>by kernel_rfl
theorem xzX:cutB Tryz.f186.ntmps dzp (azf 160 Tryz.f186)=true:=by kernel_rfl
theorem wzc:azg ([]:List (CutSpec tb)) (azf 160 Tryz.f186)=[]:=by kernel_rfl
theorem uzz:azi Tryz.prog tb Tryz.f186.ntmps (azf 160 Tryz.f186) dzp:=bzl mixed xzX dzl rfl wzc .nil wzb
def dzr (x:Int×Bool×Big):Option (Bool) :=
 brn (decide ((↑x.2.snd.D.length:Int)=0)) (brn x.2.fst (some (decide (x.fst=0))) (some false)) (some false)
def dzq:CutSpec tb:=⟨216,[(10,.val 3),(11,.val 4),(12,.ro 271)],[(.normal,[(122,.val 4)])],[112,113,114,115,116,117,118,119,120,121,122],dzr⟩
set_option maxRecDepth 100000 in
theorem wzd:∀ x,bzD Tryz.prog tb dz1 [] (azf 216 Tryz.f186) dzq.ins dzq.outs x=dzq.J x:=fun x=>by kernel_rfl
theorem xzY:cutB Tryz.f186.ntmps dzq (azf 216 Tryz.f186)=true:=by kernel_rfl
theorem wze:azg ([]:List (CutSpec tb)) (azf 216 Tryz.f186)=[]:=by kernel_rfl
theorem uzA:azi Tryz.prog tb Tryz.f186.ntmps (azf 216 Tryz.f186) dzq:=bzl mixed xzY dzl rfl wze .nil wzd
def mzW (x:List UInt8):Option (Dec×Int) :=
 obnd (kza x) fun y =>
  obnd (kzb ({ Minus:=false,D:=[] },0,y)) fun y =>
   obnd (nzd (x,{ M:=0,S:=0 },y.2,y.1,-1,y.1)) fun y_1 =>
    osum y_1
     (fun y_2 =>
      obnd (ezJ (y.1,y_2.1,IntKind.i64.wrap ((↑x.length:Int) - y.1),decide (0≤y_2.1))) fun y_3 =>
       obnd (ezK (x,y.1,y_2.1,y_3)) fun y =>
        brn y (some ({ M:=0,S:=0 },2))
         (brn (decide (0≤y_2.1))
          (obnd (bzG y_2.2.snd) fun y =>
           obnd (dzr (IntKind.i64.wrap (IntKind.i64.wrap ((↑x.length:Int) - y_2.1) - 1),y_2.2.snd.Minus,y)) fun y_4 =>
            brn y_4 (some ({ M:=0,S:=0 },2))
             (obnd (bzv (y,0)) fun y =>
              brn (!decide (y.snd=0)) (some ({ M:=0,S:=0 },y.snd))
               (brn (decide (9 < IntKind.i64.wrap (IntKind.i64.wrap ((↑x.length:Int) - y_2.1) - 1))) (some ({ M:=0,S:=0 },1))
                (brn (decide (0 < IntKind.i64.wrap (IntKind.i64.wrap ((↑x.length:Int) - y_2.1) - 1)))
                 (obnd (idx x (IntKind.i64.wrap ((↑x.length:Int) - 1))) fun y_5 =>
                  brn (decide ((↑y_5.toNat:Int)=48)) (some ({ M:=0,S:=0 },1))
                   (some ({ M:=y.fst.M,S:=IntKind.i64.wrap (IntKind.i64.wrap ((↑x.length:Int) - y_2.1) - 1) },0)))
                 (some ({ M:=y.fst.M,S:=IntKind.i64.wrap (IntKind.i64.wrap ((↑x.length:Int) - y_2.1) - 1) },0))))))
          (obnd (bzG y_2.2.snd) fun y =>
           obnd (dzr (0,y_2.2.snd.Minus,y)) fun y_4 =>
            brn y_4 (some ({ M:=0,S:=0 },2))
             (obnd (bzv (y,0)) fun y=>brn (!decide (y.snd=0)) (some ({ M:=0,S:=0 },y.snd)) (some ({ M:=y.fst.M,S:=0 },0))))))
     fun y=>some (y.2.fst,y.1)
def fzD:FSpec tb:=⟨[(0,.val 9)],[(0,.val 26),(1,.val 3)],mzW⟩
set_option maxRecDepth 100000 in
theorem Bz1:∀ x,evFn Tryz.prog tb dz1 [dzm,dzn,ezL,dzo,dzp,dzq] Tryz.f186 fzD.ins fzD.outs x=fzD.f x:=fun x=>by kernel_rfl
theorem EzH:fnK Tryz.f186 fzD.ins fzD.outs=true:=by kernel_rfl
theorem Bz2:azg ([dzm,dzn,ezL,dzo,dzp,dzq]:List (CutSpec tb)) (azA Tryz.f186)=[(32,azf 32 Tryz.f186),(42,azf 42 Tryz.f186),(84,.loop (azd 84 Tryz.f186)),(154,azf 154 Tryz.f186),(160,azf 160 Tryz.f186),(216,azf 216 Tryz.f186)]:=by kernel_rfl
theorem wzh:aze Tryz.prog tb 186 fzD:=azJ mixed Tryz.func186 EzH dzl rfl Bz2 (.cons rfl uzw rfl (.cons rfl uzx rfl (.cons rfl uzB rfl (.cons rfl uzy rfl (.cons rfl uzz rfl (.cons rfl uzA rfl .nil)))))) Bz1
def bzm (x:Val):Option (Dec×Val×Bool) :=
 brn (decide (x.Kind=1)) (some (x.N,{ Kind:=0,N:={ M:=0,S:=0 },S:=[],B:=false,E:=0 },true))
  (brn (decide (x.Kind=3))
   (brn x.B (some ({ M:=1,S:=0 },{ Kind:=0,N:={ M:=0,S:=0 },S:=[],B:=false,E:=0 },true))
    (some ({ M:=0,S:=0 },{ Kind:=0,N:={ M:=0,S:=0 },S:=[],B:=false,E:=0 },true)))
   (brn (decide (x.Kind=2))
    (obnd (mzW x.S) fun y =>
     brn (!decide (y.snd=0)) (obnd (azo 15) fun y=>some ({ M:=0,S:=0 },y,false))
      (some (y.fst,{ Kind:=0,N:={ M:=0,S:=0 },S:=[],B:=false,E:=0 },true)))
    (brn (decide (x.Kind=4)) (some ({ M:=0,S:=0 },x,false)) (some ({ M:=0,S:=0 },{ Kind:=0,N:={ M:=0,S:=0 },S:=[],B:=false,E:=0 },true)))))
def czz:FSpec tb:=⟨[(0,.val 28)],[(0,.val 26),(1,.val 28),(2,.val 4)],bzm⟩
theorem Eza:∀ x,evFn Tryz.prog tb [(186,fzD),(77,bzg)] [] Tryz.f107 czz.ins czz.outs x=czz.f x:=fun x=>by kernel_rfl
theorem GzC:fnK Tryz.f107 czz.ins czz.outs=true:=by kernel_rfl
theorem fzZ:aze Tryz.prog tb 107 czz:=azu mixed Tryz.func107 GzC (.cons wzh (.cons bzj .nil)) rfl Eza
def mzA (back:List (Int)×Big×Int→Option ((List (Int))×Big)) (x:List (Int)×Big×Int):Option ((List (Int))×Big) :=
 brn (decide (0 < x.2.snd)) (obnd (app 8 x.fst [IntKind.i64.wrap (x.2.snd.tmod 10)]) fun zs=>back (zs,{ Minus:=x.2.fst.Minus,D:=zs },IntKind.u64.wrap (x.2.snd.tdiv 10)))
  (some (x.fst,{ Minus:=x.2.fst.Minus,D:=x.fst }))
def ozJ:List (Int)×Big×Int→Option ((List (Int))×Big):=iter mzA big
def kzH:CutSpec tb:=⟨52,[(8589934595,.own 3),(3,.ref 271),(4,.val 152)],[((.exit 0),[(8589934595,.own 3)])],[14,15,16,17,18,19,20,21,22,23,24,25,4],ozJ⟩
set_option maxRecDepth 100000 in
theorem Gz1:∀ back x,azy Tryz.prog tb [] [] (azd 52 Tryz.f192) kzH.ins kzH.outs back x=mzA back x:=fun back x=>by kernel_rfl
theorem Iz5:cutB Tryz.f192.ntmps kzH (azd 52 Tryz.f192)=true:=by kernel_rfl
theorem Gz2:azg ([]:List (CutSpec tb)) (azd 52 Tryz.f192)=[]:=by kernel_rfl
theorem EzO:azi Tryz.prog tb Tryz.f192.ntmps (.loop (azd 52 Tryz.f192)) kzH:=azw mixed Iz5 .nil rfl Gz2 .nil mzA Gz1 rfl
def qzk (x:Int):Option (List (Int)×Big) :=
 brn (decide (x < 0))
  (obnd (ozJ ([],{ Minus:=decide (x < 0),D:=[] },IntKind.u64.wrap (0 - IntKind.u64.wrap x))) fun y=>some (y.1,{ Minus:=y.2.Minus,D:=y.1 }))
  (obnd (ozJ ([],{ Minus:=decide (x < 0),D:=[] },IntKind.u64.wrap x)) fun y=>some (y.1,{ Minus:=y.2.Minus,D:=y.1 }))
def mzz:FSpec tb:=⟨[(0,.val 2)],[(8589934592,.own 3),(0,.val 271)],qzk⟩
set_option maxRecDepth 100000 in
theorem Mzx:∀ x,evFn Tryz.prog tb [] [kzH] Tryz.f192 mzz.ins mzz.outs x=mzz.f x:=fun x=>by kernel_rfl
theorem Nz8:fnK Tryz.f192 mzz.ins mzz.outs=true:=by kernel_rfl
theorem Mzy:azg ([kzH]:List (CutSpec tb)) (azA Tryz.f192)=[(52,.loop (azd 52 Tryz.f192))]:=by kernel_rfl
theorem tzs:aze Tryz.prog tb 192 mzz:=azJ mixed Tryz.func192 Nz8 .nil rfl Mzy (.cons rfl EzO rfl .nil) Mzx
def lzp (x:Int):Option (Big):=obnd (qzk x) fun y=>some y.2
def rzg:FSpec tb:=⟨[(0,.val 2)],[(0,.val 271)],lzp⟩
theorem ozI:aze Tryz.prog tb 192 rzg:=tzs.drop1 rfl fun x y h=>(by obtain ⟨z,hz,h⟩:=azB.1 h;injection h with h;subst h;exact ⟨z,hz,rfl,rfl⟩)
def nzn (back:List (Int)×Int×Big×Int→Option ((List (Int))×Big)) (x:List (Int)×Int×Big×Int):Option ((List (Int))×Big) :=
 brn (decide (x.2.2.snd < x.2.fst)) (obnd (app 8 x.fst [0]) fun zs=>back (zs,x.2.fst,{ Minus:=x.2.2.fst.Minus,D:=zs },IntKind.i64.wrap (x.2.2.snd+1)))
  (some (x.fst,{ Minus:=x.2.2.fst.Minus,D:=x.fst }))
def sz0:List (Int)×Int×Big×Int→Option ((List (Int))×Big):=iter nzn big
def lzW:CutSpec tb:=⟨52,[(8589934597,.own 3),(1,.val 3),(5,.ref 271),(6,.val 3)],[((.exit 0),[(8589934597,.own 3)])],[15,16,17,20,21,22,23,24,18,19,6],sz0⟩
set_option maxRecDepth 100000 in
theorem Jzd:∀ back x,azy Tryz.prog tb [] [] (azd 52 Tryz.f194) lzW.ins lzW.outs back x=nzn back x:=fun back x=>by kernel_rfl
theorem Kz2:cutB Tryz.f194.ntmps lzW (azd 52 Tryz.f194)=true:=by kernel_rfl
theorem Jze:azg ([]:List (CutSpec tb)) (azd 52 Tryz.f194)=[]:=by kernel_rfl
theorem Gz9:azi Tryz.prog tb Tryz.f194.ntmps (.loop (azd 52 Tryz.f194)) lzW:=azw mixed Kz2 .nil rfl Jze .nil nzn Jzd rfl
def nzZ (x:Big×Int):Option (Big) :=
 brn (decide ((↑x.fst.D.length:Int)=0)) (some x.fst)
  (obnd (sz0 ([],x.snd,{ Minus:=x.fst.Minus,D:=[] },0)) fun y=>obnd (app 8 y.1 x.fst.D) fun zs=>some { Minus:=y.2.Minus,D:=zs })
def lzr:FSpec tb:=⟨[(0,.val 271),(1,.val 3)],[(0,.val 271)],nzZ⟩
set_option maxRecDepth 100000 in
theorem Nz9:∀ x,evFn Tryz.prog tb [] [lzW] Tryz.f194 lzr.ins lzr.outs x=lzr.f x:=fun x=>by kernel_rfl
theorem ref7_up_k:fnK Tryz.f194 lzr.ins lzr.outs=true:=by kernel_rfl
theorem Oza:azg ([lzW]:List (CutSpec tb)) (azA Tryz.f194)=[(52,.loop (azd 52 Tryz.f194))]:=by kernel_rfl
theorem qzJ:aze Tryz.prog tb 194 lzr:=azJ mixed Tryz.func194 ref7_up_k .nil rfl Oza (.cons rfl Gz9 rfl .nil) Nz9
def jzT (x:Dec×Dec):Option (Big×Big×Int) :=
 obnd (lzp x.fst.M) fun y =>
  obnd (lzp x.snd.M) fun y_1 =>
   brn (decide (x.fst.S < x.snd.S)) (obnd (nzZ (y,IntKind.i64.wrap (x.snd.S - x.fst.S))) fun y=>some (y,y_1,x.snd.S))
    (obnd (nzZ (y_1,IntKind.i64.wrap (x.fst.S - x.snd.S))) fun y_2=>some (y,y_2,x.fst.S))
def dz8:FSpec tb:=⟨[(0,.val 26),(1,.val 26)],[(0,.val 271),(1,.val 271),(2,.val 3)],jzT⟩
set_option maxRecDepth 100000 in
theorem Iz4:∀ x,evFn Tryz.prog tb [(192,rzg),(194,lzr)] [] Tryz.f187 dz8.ins dz8.outs x=dz8.f x:=fun x=>by kernel_rfl
theorem KzP:fnK Tryz.f187 dz8.ins dz8.outs=true:=by kernel_rfl
theorem lzo:aze Tryz.prog tb 187 dz8:=azu mixed Tryz.func187 KzP (.cons ozI (.cons qzJ .nil)) rfl Iz4
def iz6 (x:List Int×List Int×List (Int)×Int×Int):Option (List (Int)×Int) :=
 brn (decide (x.2.2.2.snd < (↑x.fst.length:Int)))
  (obnd (idx x.fst x.2.2.2.snd) fun y =>
   brn (decide (x.2.2.2.snd < (↑x.2.fst.length:Int)))
    (obnd (idx x.2.fst x.2.2.2.snd) fun y_1 =>
     obnd (app 8 x.2.2.fst [(IntKind.i64.wrap (IntKind.i64.wrap (x.2.2.2.fst+y)+y_1)).tmod 10]) fun zs =>
      some (zs,IntKind.i64.wrap ((IntKind.i64.wrap (IntKind.i64.wrap (x.2.2.2.fst+y)+y_1)).tdiv 10)))
    (obnd (app 8 x.2.2.fst [(IntKind.i64.wrap (x.2.2.2.fst+y)).tmod 10]) fun zs=>some (zs,IntKind.i64.wrap ((IntKind.i64.wrap (x.2.2.2.fst+y)).tdiv 10))))
  (brn (decide (x.2.2.2.snd < (↑x.2.fst.length:Int)))
   (obnd (idx x.2.fst x.2.2.2.snd) fun y =>
    obnd (app 8 x.2.2.fst [(IntKind.i64.wrap (x.2.2.2.fst+y)).tmod 10]) fun zs=>some (zs,IntKind.i64.wrap ((IntKind.i64.wrap (x.2.2.2.fst+y)).tdiv 10)))
   (obnd (app 8 x.2.2.fst [x.2.2.2.fst.tmod 10]) fun zs=>some (zs,IntKind.i64.wrap (x.2.2.2.fst.tdiv 10))))
def gzM:CutSpec tb:=⟨59,[(0,.val 53),(1,.val 53),(5,.own 3),(6,.val 3),(7,.val 3)],[(.normal,[(5,.own 3),(6,.val 3)])],[24,25,26,27,28,29,30,31,32,33,6,34,35,36,37,38,39,40,41,42,43,44,45,46,47,48,5,49,50],iz6⟩
set_option maxRecDepth 100000 in
theorem EzX:∀ x,bzD Tryz.prog tb [] [] (azf 59 Tryz.f195) gzM.ins gzM.outs x=gzM.J x:=fun x=>by kernel_rfl
theorem Gz6:cutB Tryz.f195.ntmps gzM (azf 59 Tryz.f195)=true:=by kernel_rfl
theorem EzY:azg ([]:List (CutSpec tb)) (azf 59 Tryz.f195)=[]:=by kernel_rfl
theorem Czh:azi Tryz.prog tb Tryz.f195.ntmps (azf 59 Tryz.f195) gzM:=bzl mixed Gz6 .nil rfl EzY .nil EzX
def gzN (back:List Int×List Int×List (Int)×Int×Int→Option (List (Int))) (x:List Int×List Int×List (Int)×Int×Int):Option (List (Int)) :=
 brn (decide (x.2.2.2.snd < (↑x.fst.length:Int)))
  (obnd (iz6 (x.fst,x.2.fst,x.2.2.fst,x.2.2.2)) fun y=>back (x.fst,x.2.fst,y.fst,y.snd,IntKind.i64.wrap (x.2.2.2.snd+1)))
  (brn (decide (x.2.2.2.snd < (↑x.2.fst.length:Int)))
   (obnd (iz6 (x.fst,x.2.fst,x.2.2.fst,x.2.2.2)) fun y=>back (x.fst,x.2.fst,y.fst,y.snd,IntKind.i64.wrap (x.2.2.2.snd+1)))
   (brn (decide (0 < x.2.2.2.fst)) (obnd (iz6 (x.fst,x.2.fst,x.2.2.fst,x.2.2.2)) fun y=>back (x.fst,x.2.fst,y.fst,y.snd,IntKind.i64.wrap (x.2.2.2.snd+1)))
    (some x.2.2.1)))
def nzB:List Int×List Int×List (Int)×Int×Int→Option (List (Int)):=iter gzN big
def iz7:CutSpec tb:=⟨44,[(0,.val 53),(1,.val 53),(5,.own 3),(6,.val 3),(7,.val 3)],[((.exit 0),[(5,.own 3)])],[8,9,10,11,12,13,14,15,16,17,18,19,20,21,24,25,26,27,28,29,30,31,32,33,6,34,35,36,37,38,39,40,41,42,43,44,45,46,47,48,5,49,50,22,23,7],nzB⟩
set_option maxRecDepth 100000 in
theorem EzZ:∀ back x,azy Tryz.prog tb [] [gzM] (azd 44 Tryz.f195) iz7.ins iz7.outs back x=gzN back x:=fun back x=>by kernel_rfl
theorem Gz7:cutB Tryz.f195.ntmps iz7 (azd 44 Tryz.f195)=true:=by kernel_rfl
theorem Ez0:azg ([gzM]:List (CutSpec tb)) (azd 44 Tryz.f195)=[(59,azf 59 Tryz.f195)]:=by kernel_rfl
theorem Czi:azi Tryz.prog tb Tryz.f195.ntmps (.loop (azd 44 Tryz.f195)) iz7:=azw mixed Gz7 .nil rfl Ez0 (.cons rfl Czh rfl .nil) gzN EzZ rfl
def gz5 (x:List Int×List Int):Option (List (Int)) :=
 obnd (nzB (x.fst,x.snd,[],0,0)) fun y=>some y
def fzP:FSpec tb:=⟨[(0,.val 53),(1,.val 53)],[(0,.own 3)],gz5⟩
set_option maxRecDepth 100000 in
theorem KzV:∀ x,evFn Tryz.prog tb [] [iz7] Tryz.f195 fzP.ins fzP.outs x=fzP.f x:=fun x=>by kernel_rfl
theorem MzB:fnK Tryz.f195 fzP.ins fzP.outs=true:=by kernel_rfl
theorem KzW:azg ([iz7]:List (CutSpec tb)) (azA Tryz.f195)=[(44,.loop (azd 44 Tryz.f195))]:=by kernel_rfl
theorem lz2:aze Tryz.prog tb 195 fzP:=azJ mixed Tryz.func195 MzB .nil rfl KzW (.cons rfl Czi rfl .nil) KzV
def lzI (back:List Int×List Int×Int→Option ((Unit)⊕(Bool))) (x:List Int×List Int×Int):Option ((Unit)⊕(Bool)) :=
 brn (decide (0≤x.2.snd))
  (obnd (idx x.fst x.2.snd) fun y =>
   obnd (idx x.2.fst x.2.snd) fun y_1 =>
    brn (!decide (y=y_1)) (obnd (idx x.fst x.2.snd) fun y=>obnd (idx x.2.fst x.2.snd) fun y_2=>some (Sum.inr (decide (y < y_2))))
     (back (x.fst,x.2.fst,IntKind.i64.wrap (x.2.snd - 1))))
  (some (Sum.inl PUnit.unit))
def qzE:List Int×List Int×Int→Option ((Unit)⊕(Bool)):=iter lzI big
def iz3:CutSpec tb:=⟨44,[(0,.val 53),(1,.val 53),(5,.val 3)],[((.exit 0),[]),(.ret,[(4,.val 4)])],[19,20,23,24,25,26,27,28,29,30,31,32,33,34,35,36,37,38,39,40,4,21,22,5],qzE⟩
set_option maxRecDepth 100000 in
theorem EzP:∀ back x,azy Tryz.prog tb [] [] (azd 44 Tryz.f235) iz3.ins iz3.outs back x=lzI back x:=fun back x=>by kernel_rfl
theorem Gz3:cutB Tryz.f235.ntmps iz3 (azd 44 Tryz.f235)=true:=by kernel_rfl
theorem EzQ:azg ([]:List (CutSpec tb)) (azd 44 Tryz.f235)=[]:=by kernel_rfl
theorem Czc:azi Tryz.prog tb Tryz.f235.ntmps (.loop (azd 44 Tryz.f235)) iz3:=azw mixed Gz3 .nil rfl EzQ .nil lzI EzP rfl
def mz1 (x:List Int×List Int):Option (Bool) :=
 brn (!decide ((↑x.fst.length:Int)=(↑x.snd.length:Int))) (some (decide ((↑x.fst.length:Int) < (↑x.snd.length:Int))))
  (obnd (qzE (x.fst,x.snd,IntKind.i64.wrap ((↑x.fst.length:Int) - 1))) fun y=>osum y (fun y=>some false) fun y=>some y)
def jzq:FSpec tb:=⟨[(0,.val 53),(1,.val 53)],[(0,.val 4)],mz1⟩
set_option maxRecDepth 100000 in
theorem KzQ:∀ x,evFn Tryz.prog tb [] [iz3] Tryz.f235 jzq.ins jzq.outs x=jzq.f x:=fun x=>by kernel_rfl
theorem Mzz:fnK Tryz.f235 jzq.ins jzq.outs=true:=by kernel_rfl
theorem KzR:azg ([iz3]:List (CutSpec tb)) (azA Tryz.f235)=[(44,.loop (azd 44 Tryz.f235))]:=by kernel_rfl
theorem szC:aze Tryz.prog tb 235 jzq:=azJ mixed Tryz.func235 Mzz .nil rfl KzR (.cons rfl Czc rfl .nil) KzQ
def kzI (back:List Int×List Int×List (Int)×Int×Int→Option (List (Int))) (x:List Int×List Int×List (Int)×Int×Int):Option (List (Int)) :=
 brn (decide (x.2.2.2.snd < (↑x.fst.length:Int)))
  (obnd (idx x.fst x.2.2.2.snd) fun y =>
   brn (decide (x.2.2.2.snd < (↑x.2.fst.length:Int)))
    (obnd (idx x.2.fst x.2.2.2.snd) fun y_1 =>
     brn (decide (IntKind.i64.wrap (IntKind.i64.wrap (y - x.2.2.2.fst) - y_1) < 0))
      (obnd (app 8 x.2.2.fst [IntKind.i64.wrap (IntKind.i64.wrap (IntKind.i64.wrap (y - x.2.2.2.fst) - y_1)+10)]) fun zs =>
       back (x.fst,x.2.fst,zs,1,IntKind.i64.wrap (x.2.2.2.snd+1)))
      (obnd (app 8 x.2.2.fst [IntKind.i64.wrap (IntKind.i64.wrap (y - x.2.2.2.fst) - y_1)]) fun zs=>back (x.fst,x.2.fst,zs,0,IntKind.i64.wrap (x.2.2.2.snd+1))))
    (brn (decide (IntKind.i64.wrap (y - x.2.2.2.fst) < 0))
     (obnd (app 8 x.2.2.fst [IntKind.i64.wrap (IntKind.i64.wrap (y - x.2.2.2.fst)+10)]) fun zs=>back (x.fst,x.2.fst,zs,1,IntKind.i64.wrap (x.2.2.2.snd+1)))
     (obnd (app 8 x.2.2.fst [IntKind.i64.wrap (y - x.2.2.2.fst)]) fun zs=>back (x.fst,x.2.fst,zs,0,IntKind.i64.wrap (x.2.2.2.snd+1)))))
  (some x.2.2.1)
def pzE:List Int×List Int×List (Int)×Int×Int→Option (List (Int)):=iter kzI big
def hzP:CutSpec tb:=⟨44,[(0,.val 53),(1,.val 53),(5,.own 3),(6,.val 3),(7,.val 3)],[((.exit 0),[(5,.own 3)])],[9,10,11,12,15,16,17,18,19,20,8,21,22,23,24,25,26,27,28,29,30,6,31,32,33,34,35,36,37,38,5,13,14,7],pzE⟩
set_option maxRecDepth 100000 in
theorem Czd:∀ back x,azy Tryz.prog tb [] [] (azd 44 Tryz.f236) hzP.ins hzP.outs back x=kzI back x:=fun back x=>by kernel_rfl
theorem EzR:cutB Tryz.f236.ntmps hzP (azd 44 Tryz.f236)=true:=by kernel_rfl
theorem Cze:azg ([]:List (CutSpec tb)) (azd 44 Tryz.f236)=[]:=by kernel_rfl
theorem zzM:azi Tryz.prog tb Tryz.f236.ntmps (.loop (azd 44 Tryz.f236)) hzP:=azw mixed EzR .nil rfl Cze .nil kzI Czd rfl
def jzU (x:List Int×List Int):Option (List (Int)) :=
 obnd (pzE (x.fst,x.snd,[],0,0)) fun y=>some y
def hzj:FSpec tb:=⟨[(0,.val 53),(1,.val 53)],[(0,.own 3)],jzU⟩
set_option maxRecDepth 100000 in
theorem Iz6:∀ x,evFn Tryz.prog tb [] [hzP] Tryz.f236 hzj.ins hzj.outs x=hzj.f x:=fun x=>by kernel_rfl
theorem KzS:fnK Tryz.f236 hzj.ins hzj.outs=true:=by kernel_rfl
theorem Iz7:azg ([hzP]:List (CutSpec tb)) (azA Tryz.f236)=[(44,.loop (azd 44 Tryz.f236))]:=by kernel_rfl
theorem rz5:aze Tryz.prog tb 236 hzj:=azJ mixed Tryz.func236 KzS .nil rfl Iz7 (.cons rfl zzM rfl .nil) Iz6
def czr (x:Big×Big):Option (Big) :=
 brn (decide (x.fst.Minus=x.snd.Minus)) (obnd (gz5 (x.fst.D,x.snd.D)) fun y=>obnd (bzG { Minus:=x.fst.Minus,D:=y }) fun y=>some y)
  (obnd (mz1 (x.fst.D,x.snd.D)) fun y =>
   brn y (obnd (jzU (x.snd.D,x.fst.D)) fun y=>obnd (bzG { Minus:=x.snd.Minus,D:=y }) fun y=>some y)
    (obnd (jzU (x.fst.D,x.snd.D)) fun y=>obnd (bzG { Minus:=x.fst.Minus,D:=y }) fun y=>some y))
def hzh:FSpec tb:=⟨[(0,.val 271),(1,.val 271)],[(0,.val 271)],czr⟩
set_option maxRecDepth 100000 in
theorem Mzw:∀ x,evFn Tryz.prog tb [(195,fzP),(196,dzJ),(235,jzq),(236,hzj)] [] Tryz.f189 hzh.ins hzh.outs x=hzh.f x:=fun x=>by kernel_rfl
theorem Nz7:fnK Tryz.f189 hzh.ins hzh.outs=true:=by kernel_rfl
theorem mz0:aze Tryz.prog tb 189 hzh:=azu mixed Tryz.func189 Nz7 (.cons lz2 (.cons gzp (.cons szC (.cons rz5 .nil)))) rfl Mzw
def dzU (x:Dec×Dec):Option (Int) :=
 obnd (jzT x) fun y =>
  brn (!y.2.fst.Minus)
   (obnd (czr (y.fst,{ Minus:=decide (0 < (↑y.2.fst.D.length:Int)),D:=y.2.fst.D })) fun y =>
    brn (decide ((↑y.D.length:Int)=0)) (some 0) (brn y.Minus (some (-1)) (some 1)))
   (obnd (czr (y.fst,{ Minus:=false,D:=y.2.fst.D })) fun y=>brn (decide ((↑y.D.length:Int)=0)) (some 0) (brn y.Minus (some (-1)) (some 1)))
def czZ:FSpec tb:=⟨[(0,.val 26),(1,.val 26)],[(0,.val 3)],dzU⟩
set_option maxRecDepth 100000 in
theorem xzN:∀ x,evFn Tryz.prog tb [(187,dz8),(189,hzh)] [] Tryz.f162 czZ.ins czZ.outs x=czZ.f x:=fun x=>by kernel_rfl
theorem zzD:fnK Tryz.f162 czZ.ins czZ.outs=true:=by kernel_rfl
theorem nz6:aze Tryz.prog tb 162 czZ:=azu mixed Tryz.func162 zzD (.cons lzo (.cons mz0 .nil)) rfl xzN
def mzy (x:Dec×Dec):Option (Dec×Int) :=
 obnd (jzT x) fun y=>obnd (czr (y.fst,y.2.fst)) fun y_1=>obnd (bzv (y_1,y.2.snd)) fun y=>some y
def izh:FSpec tb:=⟨[(0,.val 26),(1,.val 26)],[(0,.val 26),(1,.val 3)],mzy⟩
set_option maxRecDepth 100000 in
theorem GzW:∀ x,evFn Tryz.prog tb [(187,dz8),(189,hzh),(188,cz5)] [] Tryz.f108 izh.ins izh.outs x=izh.f x:=fun x=>by kernel_rfl
theorem IzY:fnK Tryz.f108 izh.ins izh.outs=true:=by kernel_rfl
theorem zzC:aze Tryz.prog tb 108 izh:=azu mixed Tryz.func108 IzY (.cons lzo (.cons mz0 (.cons fzH .nil))) rfl GzW
abbrev rzi:List (Nat×FSpec tb):=[(196,dzJ),(235,jzq),(236,hzj),(195,fzP)]
theorem qzF:azz Tryz.prog tb rzi:=(.cons gzp (.cons szC (.cons rz5 (.cons lz2 .nil))))
def lzK (back:List Int×List Int×Int→Option (List Int×Int)) (x:List Int×List Int×Int):Option (List Int×Int) :=
 obnd (mz1 (x.2.fst,x.fst)) fun y =>
  brn (!y) (obnd (jzU (x.2.fst,x.fst)) fun y=>obnd (bzG { Minus:=false,D:=y }) fun y=>back (x.fst,y.D,IntKind.i64.wrap (x.2.snd+1))) (some x.2)
def qzH:List Int×List Int×Int→Option (List Int×Int):=iter lzK big
def iz5:CutSpec tb:=⟨76,[(1,.val 53),(8,.val 53),(10,.val 3)],[((.exit 2),[(8,.val 53),(10,.val 3)])],[28,29,30,31,32,33,34,35,36,37,8,38,39,10],qzH⟩
set_option maxRecDepth 100000 in
theorem EzU:∀ back x,azy Tryz.prog tb rzi [] (azd 76 Tryz.f193) iz5.ins iz5.outs back x=lzK back x:=fun back x=>by kernel_rfl
theorem Gz5:cutB Tryz.f193.ntmps iz5 (azd 76 Tryz.f193)=true:=by kernel_rfl
theorem EzV:azg ([]:List (CutSpec tb)) (azd 76 Tryz.f193)=[]:=by kernel_rfl
theorem Czg:azi Tryz.prog tb Tryz.f193.ntmps (.loop (azd 76 Tryz.f193)) iz5:=azw mixed Gz5 qzF rfl EzV .nil lzK EzU rfl
def lzJ (back:List Int×List Int×List (Int)×List Int×Int→Option (List (Int)×List Int)) (x:List Int×List Int×List (Int)×List Int×Int):Option (List (Int)×List Int) :=
 brn (decide (0≤x.2.2.2.snd))
  (obnd (idx x.fst x.2.2.2.snd) fun y =>
   obnd (app 8 [y] x.2.2.2.fst) fun zs =>
    obnd (bzG { Minus:=false,D:=zs }) fun y =>
     obnd (qzH (x.2.fst,y.D,0)) fun y=>obnd (app 8 [y.snd] x.2.2.fst) fun zs=>back (x.fst,x.2.fst,zs,y.fst,IntKind.i64.wrap (x.2.2.2.snd - 1)))
  (some (x.2.2.fst,x.2.2.2.fst))
def qzG:List Int×List Int×List (Int)×List Int×Int→Option (List (Int)×List Int):=iter lzJ big
def iz4:CutSpec tb:=⟨44,[(0,.val 53),(1,.val 53),(7,.own 3),(8,.val 53),(9,.val 3)],[((.exit 0),[(7,.own 3),(8,.val 53)])],[14,15,18,19,20,21,22,23,24,25,26,27,8,10,28,29,30,31,32,33,34,35,36,37,38,39,40,41,42,43,7,16,17,9],qzG⟩
set_option maxRecDepth 100000 in
theorem EzS:∀ back x,azy Tryz.prog tb rzi [iz5] (azd 44 Tryz.f193) iz4.ins iz4.outs back x=lzJ back x:=fun back x=>by kernel_rfl
theorem Gz4:cutB Tryz.f193.ntmps iz4 (azd 44 Tryz.f193)=true:=by kernel_rfl
theorem EzT:azg ([iz5]:List (CutSpec tb)) (azd 44 Tryz.f193)=[(76,.loop (azd 76 Tryz.f193))]:=by kernel_rfl
theorem Czf:azi Tryz.prog tb Tryz.f193.ntmps (.loop (azd 44 Tryz.f193)) iz4:=azw mixed Gz4 qzF rfl EzT (.cons rfl Czg rfl .nil) lzJ EzS rfl
def rzh (x:List Int×List Int):Option (List Int×Bool×Bool) :=
 obnd (qzG (x.fst,x.snd,[],[],IntKind.i64.wrap ((↑x.fst.length:Int) - 1))) fun y =>
  obnd (bzG { Minus:=false,D:=y.fst }) fun y_1 =>
   obnd (gz5 (y.snd,y.snd)) fun y_2=>obnd (mz1 (y_2,x.snd)) fun y_3=>some (y_1.D,!y_3,decide (0 < (↑(List.length y.snd):Int)))
def lzq:FSpec tb:=⟨[(0,.val 53),(1,.val 53)],[(0,.val 53),(1,.val 4),(2,.val 4)],rzh⟩
set_option maxRecDepth 100000 in
theorem KzT:∀ x,evFn Tryz.prog tb rzi [iz4] Tryz.f193 lzq.ins lzq.outs x=lzq.f x:=fun x=>by kernel_rfl
theorem MzA:fnK Tryz.f193 lzq.ins lzq.outs=true:=by kernel_rfl
theorem KzU:azg ([iz4]:List (CutSpec tb)) (azA Tryz.f193)=[(44,.loop (azd 44 Tryz.f193))]:=by kernel_rfl
theorem EzW:aze Tryz.prog tb 193 lzq:=azJ mixed Tryz.func193 MzA qzF rfl KzU (.cons rfl Czf rfl .nil) KzT
def fz4 (x:Dec×Dec):Option (Dec×Int) :=
 brn (decide (x.snd.M=0)) (some ({ M:=0,S:=0 },9))
  (obnd (jzT x) fun y =>
   obnd (nzZ (y.fst,9)) fun y_1 =>
    obnd (rzh (y_1.D,y.2.fst.D)) fun y_2 =>
     brn y_2.2.fst
      (obnd (gz5 (y_2.fst,[1])) fun y_3 =>
       obnd (bzG { Minus:=!decide (y.fst.Minus=y.2.fst.Minus),D:=y_3 }) fun y=>obnd (bzv (y,9)) fun y=>some y)
      (obnd (bzG { Minus:=!decide (y.fst.Minus=y.2.fst.Minus),D:=y_2.fst }) fun y=>obnd (bzv (y,9)) fun y=>some y))
def izk:FSpec tb:=⟨[(0,.val 26),(1,.val 26)],[(0,.val 26),(1,.val 3)],fz4⟩
set_option maxRecDepth 100000 in
theorem GzY:∀ x,evFn Tryz.prog tb [(187,dz8),(194,lzr),(193,lzq),(195,fzP),(196,dzJ),(188,cz5)] [] Tryz.f111 izk.ins izk.outs x=izk.f x:=fun x=>by kernel_rfl
theorem IzZ:fnK Tryz.f111 izk.ins izk.outs=true:=by kernel_rfl
theorem zzG:aze Tryz.prog tb 111 izk:=azu mixed Tryz.func111 IzZ (.cons lzo (.cons qzJ (.cons EzW (.cons lz2 (.cons gzp (.cons fzH .nil)))))) rfl GzY
def kzG (x:Dec×Dec):Option (Dec×Int) :=
 obnd (jzT x) fun y =>
  brn (!y.2.fst.Minus) (obnd (czr (y.fst,{ Minus:=decide (0 < (↑y.2.fst.D.length:Int)),D:=y.2.fst.D })) fun y_1=>obnd (bzv (y_1,y.2.snd)) fun y=>some y)
   (obnd (czr (y.fst,{ Minus:=false,D:=y.2.fst.D })) fun y_1=>obnd (bzv (y_1,y.2.snd)) fun y=>some y)
def izl:FSpec tb:=⟨[(0,.val 26),(1,.val 26)],[(0,.val 26),(1,.val 3)],kzG⟩
set_option maxRecDepth 100000 in
theorem Gz0:∀ x,evFn Tryz.prog tb [(187,dz8),(189,hzh),(188,cz5)] [] Tryz.f109 izl.ins izl.outs x=izl.f x:=fun x=>by kernel_rfl
theorem Iz2:fnK Tryz.f109 izl.ins izl.outs=true:=by kernel_rfl
theorem zzL:aze Tryz.prog tb 109 izl:=azu mixed Tryz.func109 Iz2 (.cons lzo (.cons mz0 (.cons fzH .nil))) rfl Gz0
abbrev pzC:List (Nat×FSpec tb):=[(192,rzg),(196,dzJ),(189,hzh),(188,cz5)]
theorem qzU:azz Tryz.prog tb pzC:=(.cons ozI (.cons gzp (.cons mz0 (.cons fzH .nil))))
def gzW (back:Big×Int×Bool×Int→Option (Bool)) (x:Big×Int×Bool×Int):Option (Bool) :=
 brn (decide (x.2.2.snd < x.2.fst))
  (brn x.2.2.fst (back (x.fst,x.2.fst,true,IntKind.i64.wrap (x.2.2.snd+1)))
   (obnd (idx x.fst.D x.2.2.snd) fun y=>back (x.fst,x.2.fst,!decide (y=0),IntKind.i64.wrap (x.2.2.snd+1))))
  (some x.2.2.1)
def nzc:Big×Int×Bool×Int→Option (Bool):=iter gzW big
def ezI:CutSpec tb:=⟨84,[(4,.ro 271),(5,.val 3),(6,.val 4),(7,.val 3)],[((.exit 0),[(6,.val 4)])],[23,24,25,28,29,30,31,32,33,34,35,36,6,26,27,7],nzc⟩
set_option maxRecDepth 100000 in
theorem vz2:∀ back x,azy Tryz.prog tb pzC [] (azd 84 Tryz.f165) ezI.ins ezI.outs back x=gzW back x:=fun back x=>by kernel_rfl
theorem xzT:cutB Tryz.f165.ntmps ezI (azd 84 Tryz.f165)=true:=by kernel_rfl
theorem vz3:azg ([]:List (CutSpec tb)) (azd 84 Tryz.f165)=[]:=by kernel_rfl
theorem uzv:azi Tryz.prog tb Tryz.f165.ntmps (.loop (azd 84 Tryz.f165)) ezI:=azw mixed xzT qzU rfl vz3 .nil gzW vz2 rfl
def hzL (x:Dec):Option (Dec×Int) :=
 obnd (lzp x.M) fun y =>
  brn (decide ((↑y.D.length:Int)≤x.S)) (brn y.Minus (some ({ M:=-1,S:=0 },0)) (some ({ M:=0,S:=0 },0)))
   (obnd (nzc (y,x.S,false,0)) fun y_1 =>
    obnd (sub y.D x.S (↑y.D.length:Int)) fun z =>
     obnd (app 8 [] z) fun zs =>
      obnd (bzG { Minus:=y.Minus,D:=zs }) fun y_2 =>
       brn y.Minus
        (brn y_1 (obnd (czr (y_2,{ Minus:=true,D:=[1] })) fun y=>obnd (bzv (y,0)) fun y=>some y) (obnd (bzv (y_2,0)) fun y=>some y))
        (obnd (bzv (y_2,0)) fun y=>some y))
def fzC:FSpec tb:=⟨[(0,.val 26)],[(0,.val 26),(1,.val 3)],hzL⟩
set_option maxRecDepth 100000 in
theorem BzY:∀ x,evFn Tryz.prog tb pzC [ezI] Tryz.f165 fzC.ins fzC.outs x=fzC.f x:=fun x=>by kernel_rfl
theorem EzD:fnK Tryz.f165 fzC.ins fzC.outs=true:=by kernel_rfl
theorem BzZ:azg ([ezI]:List (CutSpec tb)) (azA Tryz.f165)=[(84,.loop (azd 84 Tryz.f165))]:=by kernel_rfl
theorem vz4:aze Tryz.prog tb 165 fzC:=azJ mixed Tryz.func165 EzD qzU rfl BzZ (.cons rfl uzv rfl .nil) BzY
def lzH (back:Dec→Option ((Unit)×Dec)) (x:Dec):Option ((Unit)×Dec) :=
 brn (decide (0 < x.S)) (brn (decide (x.M.tmod 10=0)) (back { M:=IntKind.i64.wrap (x.M.tdiv 10),S:=IntKind.i64.wrap (x.S - 1) }) (some ((),x))) (some ((),x))
def qzD:Dec→Option ((Unit)×Dec):=iter lzH big
def iz2:CutSpec tb:=⟨20,[(1,.ref 26)],[((.exit 0),[])],[3,4,5,6,7,8,9,10,11,12,13,14,15,16,17,18,19],qzD⟩
set_option maxRecDepth 100000 in
theorem EzE:∀ back x,azy Tryz.prog tb [] [] (azd 20 Tryz.f226) iz2.ins iz2.outs back x=lzH back x:=fun back x=>by kernel_rfl
theorem GzZ:cutB Tryz.f226.ntmps iz2 (azd 20 Tryz.f226)=true:=by kernel_rfl
theorem EzF:azg ([]:List (CutSpec tb)) (azd 20 Tryz.f226)=[]:=by kernel_rfl
theorem Bz0:azi Tryz.prog tb Tryz.f226.ntmps (.loop (azd 20 Tryz.f226)) iz2:=azw mixed GzZ .nil rfl EzF .nil lzH EzE rfl
def jzp (x:Dec):Option (Dec) :=
 obnd (qzD x) fun y=>some y.2
def lzl:FSpec tb:=⟨[(0,.val 26)],[(0,.val 26)],jzp⟩
set_option maxRecDepth 100000 in
theorem KzK:∀ x,evFn Tryz.prog tb [] [iz2] Tryz.f226 lzl.ins lzl.outs x=lzl.f x:=fun x=>by kernel_rfl
theorem Mzu:fnK Tryz.f226 lzl.ins lzl.outs=true:=by kernel_rfl
theorem KzL:azg ([iz2]:List (CutSpec tb)) (azA Tryz.f226)=[(20,.loop (azd 20 Tryz.f226))]:=by kernel_rfl
theorem EzG:aze Tryz.prog tb 226 lzl:=azJ mixed Tryz.func226 Mzu .nil rfl KzL (.cons rfl Bz0 rfl .nil) KzK
def lzV (x:Big×Int×Int):Option (Big×Int) :=
 brn (decide (x.2.fst≤x.2.snd)) (some (x.fst,x.2.fst))
  (brn (decide ((↑x.fst.D.length:Int) < IntKind.i64.wrap (x.2.fst - x.2.snd))) (some ({ Minus:=false,D:=[] },x.2.snd))
   (obnd (idx x.fst.D (IntKind.i64.wrap (IntKind.i64.wrap (x.2.fst - x.2.snd) - 1))) fun y =>
    obnd (sub x.fst.D (IntKind.i64.wrap (x.2.fst - x.2.snd)) (↑x.fst.D.length:Int)) fun z =>
     obnd (app 8 [] z) fun zs =>
      obnd (bzG { Minus:=x.fst.Minus,D:=zs }) fun y_1 =>
       brn (decide (5≤y)) (obnd (gz5 (y_1.D,[1])) fun y=>obnd (bzG { Minus:=x.fst.Minus,D:=y }) fun y=>some (y,x.2.snd)) (some (y_1,x.2.snd))))
def jzV:FSpec tb:=⟨[(0,.val 271),(1,.val 3),(2,.val 3)],[(0,.val 271),(1,.val 3)],lzV⟩
set_option maxRecDepth 100000 in
theorem Iz8:∀ x,evFn Tryz.prog tb [(196,dzJ),(195,fzP)] [] Tryz.f190 jzV.ins jzV.outs x=jzV.f x:=fun x=>by kernel_rfl
theorem KzX:fnK Tryz.f190 jzV.ins jzV.outs=true:=by kernel_rfl
theorem Czj:aze Tryz.prog tb 190 jzV:=azu mixed Tryz.func190 KzX (.cons gzp (.cons lz2 .nil)) rfl Iz8
def mzX (x:Dec×Int):Option (Dec×Int) :=
 brn (decide (x.snd < -18)) (some ({ M:=0,S:=0 },1))
  (brn (decide (9 < x.snd)) (some ({ M:=0,S:=0 },1))
   (obnd (lzp x.fst.M) fun y =>
    obnd (lzV (y,x.fst.S,x.snd)) fun y =>
     brn (decide (y.snd < 0)) (obnd (nzZ (y.fst,IntKind.i64.wrap (0 - y.snd))) fun y=>obnd (bzv (y,0)) fun y=>some y) (obnd (bzv y) fun y=>some y)))
def fzE:FSpec tb:=⟨[(0,.val 26),(1,.val 3)],[(0,.val 26),(1,.val 3)],mzX⟩
set_option maxRecDepth 100000 in
theorem Bz3:∀ x,evFn Tryz.prog tb [(192,rzg),(190,jzV),(194,lzr),(188,cz5)] [] Tryz.f168 fzE.ins fzE.outs x=fzE.f x:=fun x=>by kernel_rfl
theorem EzI:fnK Tryz.f168 fzE.ins fzE.outs=true:=by kernel_rfl
theorem wzi:aze Tryz.prog tb 168 fzE:=azu mixed Tryz.func168 EzI (.cons ozI (.cons Czj (.cons qzJ (.cons fzH .nil)))) rfl Bz3
def czX (x:Val):Option (Bool×Val×Bool) :=
 brn (decide (x.Kind=1)) (some (!decide (x.N.M=0),{ Kind:=0,N:={ M:=0,S:=0 },S:=[],B:=false,E:=0 },true))
  (brn (decide (x.Kind=3)) (some (x.B,{ Kind:=0,N:={ M:=0,S:=0 },S:=[],B:=false,E:=0 },true))
   (brn (decide (x.Kind=2))
    (brn (decide (x.S=[84,82,85,69])) (some (decide (x.S=[84,82,85,69]),{ Kind:=0,N:={ M:=0,S:=0 },S:=[],B:=false,E:=0 },true))
     (brn (decide (x.S=U8s [70,65,76,83,69])) (some (decide (x.S=[84,82,85,69]),{ Kind:=0,N:={ M:=0,S:=0 },S:=[],B:=false,E:=0 },true))
      (obnd (azo 15) fun y=>some (false,y,false))))
    (brn (decide (x.Kind=4)) (some (false,x,false)) (some (false,{ Kind:=0,N:={ M:=0,S:=0 },S:=[],B:=false,E:=0 },true)))))
def ezv:FSpec tb:=⟨[(0,.val 28)],[(0,.val 4),(1,.val 28),(2,.val 4)],czX⟩
theorem GzH:∀ x,evFn Tryz.prog tb [(77,bzg)] [] Tryz.f169 ezv.ins ezv.outs x=ezv.f x:=fun x=>by kernel_rfl
theorem IzR:fnK Tryz.f169 ezv.ins ezv.outs=true:=by kernel_rfl
theorem mz7:aze Tryz.prog tb 169 ezv:=azu mixed Tryz.func169 IzR (.cons bzj .nil) rfl GzH
abbrev nzA:List (Nat×FSpec tb):=[(192,mzz)]
theorem nzW:azz Tryz.prog tb nzA:=(.cons tzs .nil)
def izi (back:List (Int)×Dec×Big→Option ((List (Int))×Big)) (x:List (Int)×Dec×Big):Option ((List (Int))×Big) :=
 brn (decide ((↑x.fst.length:Int)≤x.2.fst.S)) (obnd (app 8 x.fst [0]) fun zs=>back (zs,x.2.fst,{ Minus:=x.2.snd.Minus,D:=zs }))
  (some (x.fst,{ Minus:=x.2.snd.Minus,D:=x.fst }))
def nzX:List (Int)×Dec×Big→Option ((List (Int))×Big):=iter izi big
def fzA:CutSpec tb:=⟨28,[(8589934595,.own 3),(1,.ro 26),(3,.ref 271)],[((.exit 0),[(8589934595,.own 3)])],[9,10,11,12,13,14,15,16,17,18,19],nzX⟩
set_option maxRecDepth 100000 in
theorem xzO:∀ back x,azy Tryz.prog tb nzA [] (azd 28 Tryz.f185) fzA.ins fzA.outs back x=izi back x:=fun back x=>by kernel_rfl
theorem zzE:cutB Tryz.f185.ntmps fzA (azd 28 Tryz.f185)=true:=by kernel_rfl
theorem xzP:azg ([]:List (CutSpec tb)) (azd 28 Tryz.f185)=[]:=by kernel_rfl
theorem vz0:azi Tryz.prog tb Tryz.f185.ntmps (.loop (azd 28 Tryz.f185)) fzA:=azw mixed zzE nzW rfl xzP .nil izi xzO rfl
def izj (back:Dec×Big×List UInt8×Int→Option (List UInt8)) (x:Dec×Big×List UInt8×Int):Option (List UInt8) :=
 brn (decide (x.2.2.snd < (↑x.2.fst.D.length:Int)))
  (brn (decide (x.2.2.snd=x.fst.S))
   (brn (decide (0 < x.2.2.snd))
    (obnd (cat [46] x.2.2.fst) fun z =>
     obnd (idx x.2.fst.D x.2.2.snd) fun y =>
      obnd (cat [UInt8.ofNat (IntKind.u8.wrap (IntKind.i64.wrap (48+y))).toNat] z) fun z=>back (x.fst,x.2.fst,z,IntKind.i64.wrap (x.2.2.snd+1)))
    (obnd (idx x.2.fst.D x.2.2.snd) fun y =>
     obnd (cat [UInt8.ofNat (IntKind.u8.wrap (IntKind.i64.wrap (48+y))).toNat] x.2.2.fst) fun z=>back (x.fst,x.2.fst,z,IntKind.i64.wrap (x.2.2.snd+1))))
   (obnd (idx x.2.fst.D x.2.2.snd) fun y =>
    obnd (cat [UInt8.ofNat (IntKind.u8.wrap (IntKind.i64.wrap (48+y))).toNat] x.2.2.fst) fun z=>back (x.fst,x.2.fst,z,IntKind.i64.wrap (x.2.2.snd+1))))
  (some x.2.2.1)
def nzY:Dec×Big×List UInt8×Int→Option (List UInt8):=iter izj big
def fzB:CutSpec tb:=⟨60,[(1,.ro 26),(3,.ro 271),(4,.val 9),(5,.val 3)],[((.exit 2),[(4,.val 9)])],[20,21,22,23,24,27,28,29,30,31,32,33,34,35,36,4,37,38,39,40,41,42,43,44,45,46,47,25,26,5],nzY⟩
set_option maxRecDepth 100000 in
theorem xzQ:∀ back x,azy Tryz.prog tb nzA [] (azd 60 Tryz.f185) fzB.ins fzB.outs back x=izj back x:=fun back x=>by kernel_rfl
theorem zzF:cutB Tryz.f185.ntmps fzB (azd 60 Tryz.f185)=true:=by kernel_rfl
theorem xzR:azg ([]:List (CutSpec tb)) (azd 60 Tryz.f185)=[]:=by kernel_rfl
theorem vz1:azi Tryz.prog tb Tryz.f185.ntmps (.loop (azd 60 Tryz.f185)) fzB:=azw mixed zzF nzW rfl xzR .nil izj xzQ rfl
def nzz (x:Dec):Option (List UInt8) :=
 obnd (qzk x.M) fun y =>
  obnd (nzX (y.fst,x,{ Minus:=y.snd.Minus,D:=y.fst })) fun y =>
   obnd (nzY (x,{ Minus:=y.2.Minus,D:=y.1 },[],0)) fun y_1=>brn y.2.Minus (obnd (cat [45] y_1) fun z=>some z) (some y_1)
def gzL:FSpec tb:=⟨[(0,.val 26)],[(0,.val 9)],nzz⟩
set_option maxRecDepth 100000 in
theorem EzB:∀ x,evFn Tryz.prog tb nzA [fzA,fzB] Tryz.f185 gzL.ins gzL.outs x=gzL.f x:=fun x=>by kernel_rfl
theorem GzX:fnK Tryz.f185 gzL.ins gzL.outs=true:=by kernel_rfl
theorem EzC:azg ([fzA,fzB]:List (CutSpec tb)) (azA Tryz.f185)=[(28,.loop (azd 28 Tryz.f185)),(60,.loop (azd 60 Tryz.f185))]:=by kernel_rfl
theorem xzS:aze Tryz.prog tb 185 gzL:=azJ mixed Tryz.func185 GzX nzW rfl EzC (.cons rfl vz0 rfl (.cons rfl vz1 rfl .nil)) EzB
def hzH (x:Val):Option (List UInt8) :=
 brn (decide (x.Kind=1)) (obnd (nzz x.N) fun y=>some y)
  (brn (decide (x.Kind=2)) (some x.3)
   (brn (decide (x.Kind=3)) (brn x.B (some [84,82,85,69]) (some (U8s [70,65,76,83,69])))
    (brn (decide (x.Kind=4)) (obnd (kzz x.E) fun y=>some y) (some []))))
def fza:FSpec tb:=⟨[(0,.val 28)],[(0,.val 9)],hzH⟩
theorem BzL:∀ x,evFn Tryz.prog tb [(185,gzL),(136,dz0)] [] Tryz.f106 fza.ins fza.outs x=fza.f x:=fun x=>by kernel_rfl
theorem Ezc:fnK Tryz.f106 fza.ins fza.outs=true:=by kernel_rfl
theorem vzs:aze Tryz.prog tb 106 fza:=azu mixed Tryz.func106 Ezc (.cons xzS (.cons oz8 .nil)) rfl BzL
def czC (x:Val):Option (List UInt8×Val×Bool) :=
 brn (decide (x.Kind=4)) (some ([],x,false)) (obnd (hzH x) fun y=>some (y,{ Kind:=0,N:={ M:=0,S:=0 },S:=[],B:=false,E:=0 },true))
def ezw:FSpec tb:=⟨[(0,.val 28)],[(0,.val 9),(1,.val 28),(2,.val 4)],czC⟩
theorem GzJ:∀ x,evFn Tryz.prog tb [(106,fza)] [] Tryz.f170 ezw.ins ezw.outs x=ezw.f x:=fun x=>by kernel_rfl
theorem IzT:fnK Tryz.f170 ezw.ins ezw.outs=true:=by kernel_rfl
theorem mz8:aze Tryz.prog tb 170 ezw:=azu mixed Tryz.func170 IzT (.cons vzs .nil) rfl GzJ
def rzf (x:Int):Option (List (UInt8)) :=
 brn (decide (x < 128)) (some [UInt8.ofNat (IntKind.u8.wrap x).toNat])
  (brn (decide (x < 2048))
   (some
    [UInt8.ofNat (IntKind.u8.wrap (azn BinOp.or IntKind.i64 192 (x.fdiv 64))).toNat,
     UInt8.ofNat (IntKind.u8.wrap (azn BinOp.or IntKind.i64 128 (azn BinOp.and IntKind.i64 x 63))).toNat])
   (brn (decide (x < 65536))
    (some
     [UInt8.ofNat (IntKind.u8.wrap (azn BinOp.or IntKind.i64 224 (x.fdiv 4096))).toNat,
      UInt8.ofNat (IntKind.u8.wrap (azn BinOp.or IntKind.i64 128 (azn BinOp.and IntKind.i64 (x.fdiv 64) 63))).toNat,
      UInt8.ofNat (IntKind.u8.wrap (azn BinOp.or IntKind.i64 128 (azn BinOp.and IntKind.i64 x 63))).toNat])
    (some
     [UInt8.ofNat (IntKind.u8.wrap (azn BinOp.or IntKind.i64 240 (x.fdiv 262144))).toNat,
      UInt8.ofNat (IntKind.u8.wrap (azn BinOp.or IntKind.i64 128 (azn BinOp.and IntKind.i64 (x.fdiv 4096) 63))).toNat,
      UInt8.ofNat (IntKind.u8.wrap (azn BinOp.or IntKind.i64 128 (azn BinOp.and IntKind.i64 (x.fdiv 64) 63))).toNat,
      UInt8.ofNat (IntKind.u8.wrap (azn BinOp.or IntKind.i64 128 (azn BinOp.and IntKind.i64 x 63))).toNat])))
def lzm:FSpec tb:=⟨[(0,.val 3)],[(0,.own 5)],rzf⟩
set_option maxRecDepth 100000 in
theorem KzM:∀ x,evFn Tryz.prog tb [] [] Tryz.f227 lzm.ins lzm.outs x=lzm.f x:=fun x=>by kernel_rfl
theorem Mzv:fnK Tryz.f227 lzm.ins lzm.outs=true:=by kernel_rfl
theorem EzJ:aze Tryz.prog tb 227 lzm:=azu mixed Tryz.func227 Mzv .nil rfl KzM
def nz0 (x:Val):Option (Val) :=
 brn (decide (x.Kind=1)) (some { Kind:=1,N:=x.N,S:=[],B:=false,E:=0 })
  (brn (decide (x.Kind=2)) (some { Kind:=2,N:={ M:=0,S:=0 },S:=x.S,B:=false,E:=0 })
   (brn (decide (x.Kind=3)) (some { Kind:=3,N:={ M:=0,S:=0 },S:=[],B:=x.B,E:=0 })
    (brn (decide (x.Kind=4)) (obnd (azq x.E) fun y=>some y) (some { Kind:=x.Kind,N:={ M:=0,S:=0 },S:=[],B:=false,E:=0 }))))
def ozU (x:Val):Option (Int) :=
 brn (decide (x.Kind < 0)) (some 1)
  (brn (decide (4 < x.Kind)) (some 1)
   (obnd (nz0 x) fun y =>
    brn
     (bif true then !(decide (x.Kind=y.Kind)&&(decide (x.N.M=y.N.M)&&(decide (x.N.S=y.N.S)&&(decide (x.S=y.S)&&(decide (x.B=y.B)&&decide (x.E=y.E))))))
     else decide (x.Kind=y.Kind)&&(decide (x.N.M=y.N.M)&&(decide (x.N.S=y.N.S)&&(decide (x.S=y.S)&&(decide (x.B=y.B)&&decide (x.E=y.E))))))
     (some 1)
     (brn (decide (x.Kind=1)) (obnd (CzS x.N) fun y=>some y)
      (brn (decide (x.Kind=2)) (obnd (lzs x.S) fun y=>some y.2)
       (brn (decide (x.Kind=4)) (obnd (szN x.E) fun y=>brn (decide (y=[])) (some 1) (some 0)) (some 0))))))
end Go.Proofs.YtdgpkbnnljblmaaGreatDoor

/- PP -/
namespace Go.Proofs.YtdgpkbnnljblmaaGreatDoor
open Go Go.Ev
def azt:Int→Nat→Int×Nat
 | v,0=>(v,0)
 | v,p+1=>if v % 10=0 then azt (v / 10) p else (v,p+1)
theorem uzM:∀ (p:Nat) (v:Int),(azt v p).2≤p
 | 0,_=>Nat.le_refl _
 | p+1,v=>by
  unfold azt;split
  ·have:=uzM p (v / 10);omega
  ·exact Nat.le_refl _
theorem HzS:∀ (p:Nat) (v:Int),(azt v p).1*10 ^ (p - (azt v p).2)=v
 | 0,v=>by simp [azt]
 | p+1,v=>by
  unfold azt;split
  ·rename_i h;have h1:=HzS p (v / 10);have h2:=uzM p (v / 10);rw [show p+1 - (azt (v / 10) p).2=(p - (azt (v / 10) p).2)+1 by omega,Int.pow_succ,← Int.mul_assoc,h1];omega
  ·simp
theorem Fzh:∀ (p:Nat) (v:Int),0 < (azt v p).2→¬ (azt v p).1 % 10=0
 | 0,v,h=>by simp [azt] at h
 | p+1,v,h=>by
  unfold azt at h ⊢;split
  ·rename_i h0;rw [if_pos h0] at h;exact Fzh p (v / 10) h
  ·assumption
theorem Ozl:∀ (s:Nat) (m:Int),(0 < s→¬ m % 10=0)→azt m s=(m,s)
 | 0,m,_=>rfl
 | s+1,m,h=>by
  unfold azt;rw [if_neg (h (by omega))]
def okD (d:Dec):Prop:=0≤d.S∧d.S≤9∧(0 < d.S→¬ d.M % 10=0)
def V (d:Dec):Int:=d.M*10 ^ (9 - d.S.toNat)
def I64 (n:Int):Prop:=-9223372036854775808≤n∧n≤9223372036854775807
instance (n:Int):Decidable (I64 n):=inferInstanceAs (Decidable (_∧_))
def decV (v:Int) (p:Nat):Dec×Int:=if I64 (azt v p).1 then (⟨(azt v p).1,((azt v p).2:Int)⟩,0) else (⟨0,0⟩,8)
theorem V_strip (v:Int) (p:Nat) (hp:p≤9):V ⟨(azt v p).1,((azt v p).2:Int)⟩=v*10 ^ (9 - p):=by
 unfold V;simp only [Int.toNat_natCast];have h1:=uzM p v;have h2:=HzS p v;rw [show 9 - (azt v p).2=(p - (azt v p).2)+(9 - p) by omega,Int.pow_add,← Int.mul_assoc,h2]
theorem ok_strip (v:Int) (p:Nat) (hp:p≤9):okD ⟨(azt v p).1,((azt v p).2:Int)⟩:=by
 have h1:=uzM p v;have h2:=Fzh p v;refine ⟨by simp,by simp only;omega,fun h=>h2 (by simp only at h;omega)⟩
theorem decV_ok {v:Int} {p:Nat} {d:Dec} (hp:p≤9) (h:decV v p=(d,0)):okD d∧I64 d.M∧V d=v*10 ^ (9 - p):=by
 unfold decV at h;split at h
 ·rename_i hi;simp only [Prod.mk.injEq,and_true] at h;subst h;exact ⟨ok_strip v p hp,hi,V_strip v p hp⟩
 ·simp at h
theorem HzR:∀ (p:Nat) (v:Int),-v.natAbs≤(azt v p).1∧(azt v p).1≤v.natAbs
 | 0,v=>by simp only [azt];omega
 | p+1,v=>by
  unfold azt;split
  ·have:=HzR p (v / 10);omega
  ·omega
def rdiv (v n:Int):Int:=if n≤2*(v % n) then v / n+1 else v / n
def rnd (v n:Int):Int:=if v < 0 then -rdiv (-v) n else rdiv v n
def cmpV (x y:Int):Int:=if x < y then -1 else if y < x then 1 else 0
theorem u64 (n:Int):IntKind.u64.wrap n=n % 18446744073709551616:=by simp [IntKind.wrap,IntKind.bits,IntKind.signed]
theorem i64 (n:Int):IntKind.i64.wrap n=(n+9223372036854775808) % 18446744073709551616 - 9223372036854775808:=IntKind.wrap_i64 n
theorem bzh {n:Int} (h0:0≤n) (h1:n < 18446744073709551616):IntKind.u64.wrap n=n:=by rw [u64];omega
theorem azp {n:Int} (h0:-9223372036854775808≤n) (h1:n≤9223372036854775807):IntKind.i64.wrap n=n:=by rw [i64];omega
theorem and32 {x:Int} (h0:0≤x) (h1:x < 18446744073709551616):azn .and .u64 x 4294967295=x % 4294967296:=by
 obtain ⟨n,rfl⟩:=Int.eq_ofNat_of_zero_le h0;simp only [azn];rw [BitVec.toNat_and,show (4294967295:Int)=((4294967295:Nat):Int) from rfl,BitVec.ofInt_natCast,BitVec.ofInt_natCast,BitVec.toNat_ofNat,BitVec.toNat_ofNat,u64];have e1:n % 2 ^ IntKind.u64.bits=n:=Nat.mod_eq_of_lt (by simp only [IntKind.bits];omega);have e2:4294967295 % 2 ^ IntKind.u64.bits=2 ^ 32 - 1:=by decide
 rw [e1,e2,Nat.and_two_pow_sub_one_eq_mod];omega
theorem or_low {a b:Int} {s:Nat} (ha:0≤a) (hb:0≤b) (hb2:b < 2 ^ s) (h:a*2 ^ s+b < 18446744073709551616):azn .or .u64 (a*2 ^ s) b=a*2 ^ s+b:=by
 obtain ⟨m,rfl⟩:=Int.eq_ofNat_of_zero_le ha;obtain ⟨n,rfl⟩:=Int.eq_ofNat_of_zero_le hb;have c:((2:Int) ^ s)=((2 ^ s:Nat):Int):=by simp
 rw [c] at *;have hb3:n < 2 ^ s:=Int.ofNat_lt.1 hb2;simp only [azn];rw [BitVec.toNat_or,← Int.natCast_mul,BitVec.ofInt_natCast,BitVec.ofInt_natCast,BitVec.toNat_ofNat,BitVec.toNat_ofNat,u64];have h':((m*2 ^ s:Nat):Int)+n < 18446744073709551616:=by rw [Int.natCast_mul];simpa using h
 generalize hp:m*2 ^ s=p at *;have e1:p % 2 ^ IntKind.u64.bits=p:=Nat.mod_eq_of_lt (by simp only [IntKind.bits];omega);have e2:n % 2 ^ IntKind.u64.bits=n:=Nat.mod_eq_of_lt (by simp only [IntKind.bits];omega);rw [e1,e2,← hp,← Nat.shiftLeft_eq,← Nat.shiftLeft_add_eq_or_of_lt hb3,Nat.shiftLeft_eq,hp];omega
theorem ozz {a b c d:Int} (ha:0≤a) (hb:0≤b) (h1:a≤c) (h2:b≤d):a*b≤c*d :=
 Int.le_trans (Int.mul_le_mul_of_nonneg_right h1 hb) (Int.mul_le_mul_of_nonneg_left h2 (by omega))
theorem lzD {a b:Int} (ha:0≤a) (hb:0≤b):0≤a*b:=Int.mul_nonneg ha hb
theorem mul_core (p11 p10 p01 p00:Int) :
 (p11+(p10+p00 / 4294967296) / 4294967296+((p10+p00 / 4294967296) % 4294967296+p01) / 4294967296) =
  (p11*18446744073709551616+(p10+p01)*4294967296+p00) / 18446744073709551616:=by omega
theorem Mul64_is {x y:Int} (hx0:0≤x) (hx:x < 18446744073709551616) (hy0:0≤y) (hy:y < 18446744073709551616) :
 nzg (x,y)=some (x*y / 18446744073709551616,x*y % 18446744073709551616):=by
 unfold nzg;simp only [and32 hx0 hx,and32 hy0 hy];rw [Int.fdiv_eq_ediv_of_nonneg x (by omega),Int.fdiv_eq_ediv_of_nonneg y (by omega)];obtain ⟨x1,e1⟩:∃ n,x / 4294967296=n:=⟨_,rfl⟩;obtain ⟨x0,e0⟩:∃ n,x % 4294967296=n:=⟨_,rfl⟩;obtain ⟨y1,f1⟩:∃ n,y / 4294967296=n:=⟨_,rfl⟩;obtain ⟨y0,f0⟩:∃ n,y % 4294967296=n:=⟨_,rfl⟩;have hxe:x=x1*4294967296+x0:=by omega
 have hye:y=y1*4294967296+y0:=by omega
 have bx1:0≤x1∧x1≤4294967295:=by omega
 have bx0:0≤x0∧x0≤4294967295:=by omega
 have by1:0≤y1∧y1≤4294967295:=by omega
 have by0:0≤y0∧y0≤4294967295:=by omega
 rw [e1,e0,f1,f0];have hxy:x*y=x1*y1*18446744073709551616+(x1*y0+x0*y1)*4294967296+x0*y0:=by
  rw [hxe,hye,Int.add_mul,Int.mul_add,Int.mul_add,Int.add_mul];have a1:x1*4294967296*(y1*4294967296)=x1*y1*18446744073709551616:=by
   rw [Int.mul_assoc,Int.mul_left_comm 4294967296,← Int.mul_assoc];rfl
  have a2:x1*4294967296*y0=x1*y0*4294967296:=by rw [Int.mul_assoc,Int.mul_comm 4294967296,← Int.mul_assoc]
  have a3:x0*(y1*4294967296)=x0*y1*4294967296:=by rw [Int.mul_assoc]
  rw [a1,a2,a3];omega
 have k11:x1*y1≤4294967295*4294967295:=ozz bx1.1 by1.1 bx1.2 by1.2;have k10:x1*y0≤4294967295*4294967295:=ozz bx1.1 by0.1 bx1.2 by0.2;have k01:x0*y1≤4294967295*4294967295:=ozz bx0.1 by1.1 bx0.2 by1.2;have k00:x0*y0≤4294967295*4294967295:=ozz bx0.1 by0.1 bx0.2 by0.2;have n11:=lzD bx1.1 by1.1;have n10:=lzD bx1.1 by0.1;have n01:=lzD bx0.1 by1.1;have n00:=lzD bx0.1 by0.1;rw [hxy];generalize x1*y1=p11 at *;generalize x1*y0=p10 at *;generalize x0*y1=p01 at *;generalize x0*y0=p00 at *;have hc:=mul_core p11 p10 p01 p00;have w00:IntKind.u64.wrap p00=p00:=bzh n00 (by omega);have w10:IntKind.u64.wrap p10=p10:=bzh n10 (by omega);have w01:IntKind.u64.wrap p01=p01:=bzh n01 (by omega);have w11:IntKind.u64.wrap p11=p11:=bzh n11 (by omega);rw [w00,w10,w01,w11,Int.fdiv_eq_ediv_of_nonneg p00 (by omega)];have t0:IntKind.u64.wrap (p10+p00 / 4294967296)=p10+p00 / 4294967296:=bzh (by omega) (by omega);rw [t0,and32 (by omega) (by omega),Int.fdiv_eq_ediv_of_nonneg (p10+p00 / 4294967296) (by omega)];have t1:IntKind.u64.wrap ((p10+p00 / 4294967296) % 4294967296+p01)=(p10+p00 / 4294967296) % 4294967296+p01:=bzh (by omega) (by omega);rw [t1,Int.fdiv_eq_ediv_of_nonneg ((p10+p00 / 4294967296) % 4294967296+p01) (by omega)];have t2:IntKind.u64.wrap (p11+(p10+p00 / 4294967296) / 4294967296)=p11+(p10+p00 / 4294967296) / 4294967296:=bzh (by omega) (by omega);rw [t2,hc,bzh (by omega) (by omega),u64]
theorem Hzr {a n q:Int} (hn:0 < n) (h1:q*n≤a) (h2:a < (q+1)*n):a / n=q:=by
 have h3:q≤a / n:=(Int.le_ediv_iff_mul_le hn).2 h1;have h4:a / n < q+1:=(Int.ediv_lt_iff_lt_mul hn).2 h2;omega
theorem Kzi {F:(Int×Int→Option Int)→Int×Int→Option Int} {u d y1 y0:Int}
 (hu0:0≤u) (hd0:0≤d) (hd:d < 4294967296) (hy1:2147483648≤y1) (hy1':y1 < 4294967296) (hy0:0≤y0) (hy0':y0 < 4294967296) (hu:u < y1*4294967296+y0)
 (hF:∀ back q r,0≤q→q≤4294967297→0≤r→r < 4294967296→F back (q,r) =
  if 4294967296≤q∨4294967296*r+d < q*y0 then (if 4294967296≤r+y1 then some (q - 1) else back (q - 1,r+y1)) else some q) :
 iter F big (u / y1,u % y1)=some ((u*4294967296+d) / (y1*4294967296+y0)):=by
 have hyn:0 < y1*4294967296+y0:=by omega
 obtain ⟨Q,hQ⟩:∃ Q,(u*4294967296+d) / (y1*4294967296+y0)=Q:=⟨_,rfl⟩;have hQ1:Q*(y1*4294967296+y0)≤u*4294967296+d:=by rw [← hQ];exact Int.ediv_mul_le _ (by omega)
 have hQ0:0≤Q:=by rw [← hQ];exact Int.ediv_nonneg (by omega) (by omega)
 have hQB:Q < 4294967296:=by rw [← hQ];exact (Int.ediv_lt_iff_lt_mul hyn).2 (by omega)
 have hle:∀ q:Int,q*(y1*4294967296+y0)≤u*4294967296+d→q≤Q:=fun q h=>by
  rw [← hQ];exact (Int.le_ediv_iff_mul_le hyn).2 h
 have ex:∀ q:Int,q*(y1*4294967296+y0)=q*y1*4294967296+q*y0:=fun q=>by rw [Int.mul_add,Int.mul_assoc]
 rw [hQ];refine rzU (fun x=>x.1.toNat) (fun x=>x.2=u - x.1*y1∧0≤x.2∧x.2 < 4294967296∧Q≤x.1∧x.1≤4294967297) (fun _=>Q) ?_ _ ?_ ?_
 ·intro back x hp hback;obtain ⟨q,r⟩:=x;obtain ⟨h1,h2,h3,h4,h5⟩:=hp;simp only at h1 h2 h3 h4 h5 hback;rw [hF back q r (by omega) h5 h2 h3];by_cases hc:4294967296≤q∨4294967296*r+d < q*y0
  ·have hlt:Q < q:=by
    rcases hc with hc | hc
    ·omega
    ·by_cases h:Q < q
     ·exact h
     ·have hqQ:q=Q:=by omega
      subst hqQ;rw [ex] at hQ1;omega
   rw [if_pos hc];have hs:(q - 1)*y1=q*y1 - y1:=by rw [Int.sub_mul];omega
   by_cases hr:4294967296≤r+y1
   ·rw [if_pos hr];have:q - 1≤Q:=by
     apply hle;rw [ex,hs];have:(q - 1)*y0≤4294967296*4294967296:=ozz (by omega) hy0 (by omega) (by omega);omega
    simp only [Option.some.injEq];omega
   ·rw [if_neg hr];exact hback (q - 1,r+y1) ⟨by simp only;omega,by simp only;omega,by simp only;omega,by simp only;omega,by simp only;omega⟩ (by simp only;omega)
  ·rw [if_neg hc];have:q≤Q:=by
    apply hle;rw [ex];omega
   simp only [Option.some.injEq];omega
 ·have hm:=Int.emod_nonneg u (show y1≠0 by omega);have hm2:=Int.emod_lt_of_pos u (show 0 < y1 by omega);have hdm:=Int.mul_ediv_add_emod u y1;have hc:=Int.mul_comm y1 (u / y1);refine ⟨by simp only;omega,hm,by simp only;omega,?_,?_⟩
  ·refine (Int.le_ediv_iff_mul_le (by omega)).2 ?_;rw [ex] at hQ1;have:=lzD hQ0 hy0;omega
  ·have:u / y1 < 4294967298:=(Int.ediv_lt_iff_lt_mul (by omega)).2 (by omega);simp only;omega
 ·have:u / y1 < 4294967298:=(Int.ediv_lt_iff_lt_mul (by omega)).2 (by omega);simp only;omega
theorem l1_is {back:Int×Int×Int×Int×Int→Option Int} {y1 y0 d q r:Int} (hd0:0≤d) (hd:d < 4294967296) (_:2147483648≤y1) (hy1':y1 < 4294967296) (hy0:0≤y0) (hy0':y0 < 4294967296)
 (hq0:0≤q) (hq:q≤4294967297) (hr0:0≤r) (hr:r < 4294967296) :
 hzo back (y1,y0,d,q,r)=if 4294967296≤q∨4294967296*r+d < q*y0 then (if 4294967296≤r+y1 then some (q - 1) else back (y1,y0,d,q - 1,r+y1)) else some q:=by
 unfold hzo;simp only;rw [bzh (n:=r+y1) (by omega) (by omega)];by_cases h:4294967296≤q
 ·rw [bzh (n:=q - 1) (by omega) (by omega)];simp only [h,decide_true,azc,true_or,if_true];by_cases h2:4294967296≤r+y1<;>simp [h2]
 ·have:q*y0≤4294967295*4294967295:=ozz hq0 hy0 (by omega) (by omega);have n:=lzD hq0 hy0;simp only [h,decide_false,azb,false_or];rw [bzh (n:=4294967296*r) (by omega) (by omega),bzh (n:=4294967296*r+d) (by omega) (by omega),bzh (n:=q*y0) n (by omega)];by_cases h3:4294967296*r+d < q*y0
  ·have:q≠0:=fun h0=>by subst h0;omega
   rw [bzh (n:=q - 1) (by omega) (by omega)];simp only [h3,decide_true,azc,if_true];by_cases h2:4294967296≤r+y1<;>simp [h2]
  ·simp [h3]
theorem l2_is {back:Int×Int×Int×Int×Int→Option Int} {y1 y0 d q r:Int} (hd0:0≤d) (hd:d < 4294967296) (_:2147483648≤y1) (hy1':y1 < 4294967296) (hy0:0≤y0) (hy0':y0 < 4294967296)
 (hq0:0≤q) (hq:q≤4294967297) (hr0:0≤r) (hr:r < 4294967296) :
 hzq back (y1,y0,d,r,q)=if 4294967296≤q∨4294967296*r+d < q*y0 then (if 4294967296≤r+y1 then some (q - 1) else back (y1,y0,d,r+y1,q - 1)) else some q:=by
 unfold hzq;simp only;rw [bzh (n:=r+y1) (by omega) (by omega)];by_cases h:4294967296≤q
 ·rw [bzh (n:=q - 1) (by omega) (by omega)];simp only [h,decide_true,azc,true_or,if_true];by_cases h2:4294967296≤r+y1<;>simp [h2]
 ·have:q*y0≤4294967295*4294967295:=ozz hq0 hy0 (by omega) (by omega);have n:=lzD hq0 hy0;simp only [h,decide_false,azb,false_or];rw [bzh (n:=4294967296*r) (by omega) (by omega),bzh (n:=4294967296*r+d) (by omega) (by omega),bzh (n:=q*y0) n (by omega)];by_cases h3:4294967296*r+d < q*y0
  ·have:q≠0:=fun h0=>by subst h0;omega
   rw [bzh (n:=q - 1) (by omega) (by omega)];simp only [h3,decide_true,azc,if_true];by_cases h2:4294967296≤r+y1<;>simp [h2]
  ·simp [h3]
theorem Bzn {X Y Z:Type} {F:(X→Option Y)→X→Option Y} {G:(Z→Option Y)→Z→Option Y} (e:Z→X) (ok:Z→Prop)
 (h:∀ back back' z,ok z→(∀ z',ok z'→back (e z')=back' z')→F back (e z)=G back' z):∀ n z,ok z→iter F n (e z)=iter G n z
 | 0,z,_=>by rw [szu,szu]
 | n+1,z,hz=>by
  rw [bzS,bzS];exact h _ _ z hz fun z' hz'=>Bzn e ok h n z' hz'
def guess (y1 y0 d:Int) (back:Int×Int→Option Int) (z:Int×Int):Option Int :=
 if 0≤z.1∧z.1≤4294967297∧0≤z.2∧z.2 < 4294967296 then
  if 4294967296≤z.1∨4294967296*z.2+d < z.1*y0 then (if 4294967296≤z.2+y1 then some (z.1 - 1) else back (z.1 - 1,z.2+y1)) else some z.1
 else none
theorem tz2 {y1 y0 d:Int} {back:Int×Int→Option Int} {z:Int×Int} (h:0≤z.1∧z.1≤4294967297∧0≤z.2∧z.2 < 4294967296):guess y1 y0 d back z =
 if 4294967296≤z.1∨4294967296*z.2+d < z.1*y0 then (if 4294967296≤z.2+y1 then some (z.1 - 1) else back (z.1 - 1,z.2+y1)) else some z.1:=if_pos h
theorem l1_guess {u d y1 y0:Int} (hu0:0≤u) (hd0:0≤d) (hd:d < 4294967296) (hy1:2147483648≤y1) (hy1':y1 < 4294967296) (hy0:0≤y0) (hy0':y0 < 4294967296) (hu:u < y1*4294967296+y0) :
 mzK (y1,y0,d,u / y1,u % y1)=some ((u*4294967296+d) / (y1*4294967296+y0)):=by
 have h:=Kzi (F:=guess y1 y0 d) hu0 hd0 hd hy1 hy1' hy0 hy0' hu fun back q r h1 h2 h3 h4=>by
  rw [tz2 ⟨h1,h2,h3,h4⟩]
 have hlt:u / y1 < 4294967298:=(Int.ediv_lt_iff_lt_mul (by omega)).2 (by omega);have hnn:0≤u / y1:=Int.ediv_nonneg hu0 (by omega);have hm:=Int.emod_nonneg u (show y1≠0 by omega);have hm2:=Int.emod_lt_of_pos u (show 0 < y1 by omega);rw [← h];refine Bzn (F:=hzo) (fun z:Int×Int=>(y1,y0,d,z.1,z.2)) (fun z=>0≤z.1∧z.1≤4294967297∧0≤z.2∧z.2 < 4294967296) ?_ big (u / y1,u % y1) ⟨hnn,by simp only;omega,hm,by simp only;omega⟩;intro back back' z hz hb;obtain ⟨h1,h2,h3,h4⟩:=hz;rw [l1_is hd0 hd hy1 hy1' hy0 hy0' h1 h2 h3 h4];rw [tz2 ⟨h1,h2,h3,h4⟩];by_cases hc:4294967296≤z.1∨4294967296*z.2+d < z.1*y0
 ·rw [if_pos hc,if_pos hc];by_cases hr:4294967296≤z.2+y1
  ·rw [if_pos hr,if_pos hr]
  ·rw [if_neg hr,if_neg hr];refine hb (z.1 - 1,z.2+y1) ⟨?_,by simp only;omega,by simp only;omega,by simp only;omega⟩;rcases hc with hc | hc
   ·simp only;omega
   ·by_cases h0:z.1=0
    ·rw [h0] at hc;omega
    ·simp only;omega
 ·rw [if_neg hc,if_neg hc]
theorem l2_guess {u d y1 y0:Int} (hu0:0≤u) (hd0:0≤d) (hd:d < 4294967296) (hy1:2147483648≤y1) (hy1':y1 < 4294967296) (hy0:0≤y0) (hy0':y0 < 4294967296) (hu:u < y1*4294967296+y0) :
 mzL (y1,y0,d,u % y1,u / y1)=some ((u*4294967296+d) / (y1*4294967296+y0)):=by
 have h:=Kzi (F:=guess y1 y0 d) hu0 hd0 hd hy1 hy1' hy0 hy0' hu fun back q r h1 h2 h3 h4=>by
  rw [tz2 ⟨h1,h2,h3,h4⟩]
 have hlt:u / y1 < 4294967298:=(Int.ediv_lt_iff_lt_mul (by omega)).2 (by omega);have hnn:0≤u / y1:=Int.ediv_nonneg hu0 (by omega);have hm:=Int.emod_nonneg u (show y1≠0 by omega);have hm2:=Int.emod_lt_of_pos u (show 0 < y1 by omega);rw [← h];refine Bzn (F:=hzq) (fun z:Int×Int=>(y1,y0,d,z.2,z.1)) (fun z=>0≤z.1∧z.1≤4294967297∧0≤z.2∧z.2 < 4294967296) ?_ big (u / y1,u % y1) ⟨hnn,by simp only;omega,hm,by simp only;omega⟩;intro back back' z hz hb;obtain ⟨h1,h2,h3,h4⟩:=hz;rw [l2_is hd0 hd hy1 hy1' hy0 hy0' h1 h2 h3 h4];rw [tz2 ⟨h1,h2,h3,h4⟩];by_cases hc:4294967296≤z.1∨4294967296*z.2+d < z.1*y0
 ·rw [if_pos hc,if_pos hc];by_cases hr:4294967296≤z.2+y1
  ·rw [if_pos hr,if_pos hr]
  ·rw [if_neg hr,if_neg hr];refine hb (z.1 - 1,z.2+y1) ⟨?_,by simp only;omega,by simp only;omega,by simp only;omega⟩;rcases hc with hc | hc
   ·simp only;omega
   ·by_cases h0:z.1=0
    ·rw [h0] at hc;omega
    ·simp only;omega
 ·rw [if_neg hc,if_neg hc]
def pzY (yn u t q:Int):Int:=IntKind.u64.wrap (IntKind.u64.wrap (IntKind.u64.wrap (u*4294967296)+t.fdiv 4294967296) - IntKind.u64.wrap (q*yn))
def Hzs (yn u t:Int) (S:Int):Option (Int×Int) :=
 obnd (mzK (yn.fdiv 4294967296,azn BinOp.and IntKind.u64 yn 4294967295,t.fdiv 4294967296,IntKind.u64.wrap (u.tdiv (yn.fdiv 4294967296)),
  IntKind.u64.wrap (u - IntKind.u64.wrap (IntKind.u64.wrap (u.tdiv (yn.fdiv 4294967296))*yn.fdiv 4294967296)))) fun q1 =>
  (obnd (mzL (yn.fdiv 4294967296,azn BinOp.and IntKind.u64 yn 4294967295,azn BinOp.and IntKind.u64 t 4294967295,
   IntKind.u64.wrap (pzY yn u t q1 - IntKind.u64.wrap (IntKind.u64.wrap ((pzY yn u t q1).tdiv (yn.fdiv 4294967296))*yn.fdiv 4294967296)),
   IntKind.u64.wrap ((pzY yn u t q1).tdiv (yn.fdiv 4294967296)))) fun q0 =>
   some (IntKind.u64.wrap (IntKind.u64.wrap (q1*4294967296)+q0),
    (IntKind.u64.wrap (IntKind.u64.wrap (IntKind.u64.wrap (pzY yn u t q1*4294967296)+azn BinOp.and IntKind.u64 t 4294967295) - IntKind.u64.wrap (q0*yn))).fdiv S))
theorem Hze {a b:Int} (ha:0≤a):a.tdiv b=a / b:=Int.tdiv_eq_ediv_of_nonneg ha
theorem rest_is {u d:Int} (hu:0≤u) (hu':u < 18446744073709551616) (hd:0 < d):IntKind.u64.wrap (u.tdiv d)=u / d∧IntKind.u64.wrap (u - IntKind.u64.wrap (IntKind.u64.wrap (u.tdiv d)*d))=u % d:=by
 rw [Hze hu];have h1:0≤u / d:=Int.ediv_nonneg hu (by omega);have h2:u / d≤u:=Int.ediv_le_self _ hu;have h3:=Int.mul_ediv_add_emod u d;have h4:=Int.emod_nonneg u (show d≠0 by omega);have h5:=Int.mul_comm d (u / d);have h6:=lzD h1 (show 0≤d by omega);rw [bzh h1 (by omega),bzh h6 (by omega),bzh (by omega) (by omega)];exact ⟨rfl,by omega⟩
theorem div_v_is {yn u t q:Int} (hq:q=(u*4294967296+t / 4294967296) / yn) (hyn:0 < yn) (hyn':yn < 18446744073709551616) :
 pzY yn u t q=u*4294967296+t / 4294967296 - q*yn∧0≤pzY yn u t q∧pzY yn u t q < yn:=by
 have h3:=Int.mul_ediv_add_emod (u*4294967296+t / 4294967296) yn;have h4:=Int.emod_nonneg (u*4294967296+t / 4294967296) (show yn≠0 by omega);have h5:=Int.emod_lt_of_pos (u*4294967296+t / 4294967296) hyn;rw [← hq,Int.mul_comm] at h3;have e:pzY yn u t q=u*4294967296+t / 4294967296 - q*yn:=by
  unfold pzY;rw [Int.fdiv_eq_ediv_of_nonneg t (by omega)];simp only [u64];omega
 rw [e];refine ⟨rfl,by omega,by omega⟩
theorem JzL {yn u t S:Int} (hyn:9223372036854775808≤yn) (hyn':yn < 18446744073709551616) (hu:0≤u) (hu':u < yn) (ht:0≤t) (ht':t < 18446744073709551616) (hS:0 < S) :
 Hzs yn u t S=some ((u*18446744073709551616+t) / yn,(u*18446744073709551616+t) % yn / S):=by
 unfold Hzs;rw [Int.fdiv_eq_ediv_of_nonneg yn (by omega),Int.fdiv_eq_ediv_of_nonneg t (by omega),and32 (x:=yn) (by omega) hyn',and32 (x:=t) ht ht'];obtain ⟨r1,r2⟩:=rest_is (u:=u) (d:=yn / 4294967296) hu (by omega) (by omega);rw [r2,r1,l1_guess hu (by omega) (by omega) (by omega) (by omega) (by omega) (by omega) (by omega),aza];have hyne:yn / 4294967296*4294967296+yn % 4294967296=yn:=by omega
 rw [hyne];obtain ⟨q1,hq1⟩:∃ q,(u*4294967296+t / 4294967296) / yn=q:=⟨_,rfl⟩;rw [hq1];obtain ⟨v1,v2,v3⟩:=div_v_is hq1.symm (by omega) hyn';obtain ⟨v,hv⟩:∃ v,pzY yn u t q1=v:=⟨_,rfl⟩;rw [hv] at v1 v2 v3 ⊢;obtain ⟨s1,s2⟩:=rest_is (u:=v) (d:=yn / 4294967296) v2 (by omega) (by omega);rw [s2,s1,l2_guess v2 (by omega) (by omega) (by omega) (by omega) (by omega) (by omega) (by omega),aza,hyne];obtain ⟨q0,hq0⟩:∃ q,(v*4294967296+t % 4294967296) / yn=q:=⟨_,rfl⟩;rw [hq0];have h3:=Int.mul_ediv_add_emod (v*4294967296+t % 4294967296) yn;have h4:=Int.emod_nonneg (v*4294967296+t % 4294967296) (show yn≠0 by omega);have h5:=Int.emod_lt_of_pos (v*4294967296+t % 4294967296) (show 0 < yn by omega);rw [hq0,Int.mul_comm] at h3;have b1:q1 < 4294967296:=by rw [← hq1];exact (Int.ediv_lt_iff_lt_mul (by omega)).2 (by omega)
 have b1':0≤q1:=by rw [← hq1];exact Int.ediv_nonneg (by omega) (by omega)
 have b0:q0 < 4294967296:=by rw [← hq0];exact (Int.ediv_lt_iff_lt_mul (by omega)).2 (by omega)
 have b0':0≤q0:=by rw [← hq0];exact Int.ediv_nonneg (by omega) (by omega)
 have key:u*18446744073709551616+t=(v*4294967296+t % 4294967296) % yn+yn*(q1*4294967296+q0):=by
  have e1:yn*(q1*4294967296+q0)=q1*yn*4294967296+q0*yn:=by
   rw [Int.mul_add,Int.mul_comm yn q0,← Int.mul_assoc,Int.mul_comm yn q1]
  rw [e1];omega
 have kq:(u*18446744073709551616+t) / yn=q1*4294967296+q0:=by
  rw [key,Int.add_mul_ediv_left _ _ (show yn≠0 by omega),Int.ediv_eq_zero_of_lt h4 h5,Int.zero_add]
 have kr:(u*18446744073709551616+t) % yn=(v*4294967296+t % 4294967296) % yn:=by
  rw [key,Int.add_mul_emod_self_left,Int.emod_emod]
 have er:IntKind.u64.wrap (IntKind.u64.wrap (IntKind.u64.wrap (v*4294967296)+t % 4294967296) - IntKind.u64.wrap (q0*yn))=(v*4294967296+t % 4294967296) % yn:=by
  simp only [u64];omega
 rw [kq,kr,er,Int.fdiv_eq_ediv_of_nonneg _ (by omega),bzh (n:=q1*4294967296) (by omega) (by omega),bzh (by omega) (by omega)]
set_option maxHeartbeats 1000000 in
theorem Div64_is {hi lo y:Int} (h0:0≤hi) (h1:hi < y) (hl0:0≤lo) (hl:lo < 18446744073709551616) (hy:y < 18446744073709551616) :
 nzf (hi,lo,y)=some ((hi*18446744073709551616+lo) / y,(hi*18446744073709551616+lo) % y):=by
 have f1:decide (y=0)=false:=decide_eq_false (by omega);have f2:decide (y≤hi)=false:=decide_eq_false (by omega);by_cases hz:hi=0
 ·subst hz;unfold nzf;simp only [f1,f2,azb,decide_true,azc];rw [Hze hl0,Int.tmod_eq_emod_of_nonneg hl0,Int.zero_mul,Int.zero_add];have:=Int.ediv_le_self y hl0;have:=Int.ediv_nonneg hl0 (show 0≤y by omega);rw [bzh this (by omega)]
 have f3:decide (hi=0)=false:=decide_eq_false hz;obtain ⟨Y,rfl⟩:=Int.eq_ofNat_of_zero_le (show 0≤y by omega);obtain ⟨b1,b2,b3⟩:=Lib.bitLenAux_bounds 64 Y (by omega) (by omega);have b4:Lib.bitLenAux 64 Y≤64:=by
  refine Nat.le_of_not_lt fun h=>?_
  have:=Nat.pow_le_pow_right (show 0 < 2 by omega) (show 64≤Lib.bitLenAux 64 Y - 1 by omega);omega
 obtain ⟨b,hb⟩:∃ b,Lib.bitLenAux 64 Y=b:=⟨_,rfl⟩;rw [hb] at b1 b2 b3 b4;obtain ⟨s,hs⟩:∃ s,s+b=64:=⟨64 - b,by omega⟩;have hST:(2:Int) ^ s*2 ^ b=18446744073709551616:=by rw [← Int.pow_add,hs];rfl
 have hS0:(0:Int) < 2 ^ s:=Int.pow_pos (by omega);have hT0:(0:Int) < 2 ^ b:=Int.pow_pos (by omega);have hYT:(Y:Int) < 2 ^ b:=by
  have:=Int.ofNat_lt.2 b3;simpa using this
 have hYS:(Y:Int)*2 ^ s < 18446744073709551616:=by
  rw [← hST,Int.mul_comm ((2:Int) ^ s)];exact Int.mul_lt_mul_of_pos_right hYT hS0
 have hYS2:(9223372036854775808:Int)≤Y*2 ^ s:=by
  have h2:((2 ^ (b - 1):Nat):Int)≤Y:=Int.ofNat_le.2 b2;have h3:=Int.mul_le_mul_of_nonneg_right h2 (Int.le_of_lt hS0);have h4:((2 ^ (b - 1):Nat):Int)*2 ^ s=9223372036854775808:=by
   rw [Int.natCast_pow]
   show (2:Int) ^ (b - 1)*2 ^ s=_
   rw [← Int.pow_add,show b - 1+s=63 by omega];rfl
  omega
 have hlT:lo / 2 ^ b < 2 ^ s:=(Int.ediv_lt_iff_lt_mul hT0).2 (by rw [hST];exact hl);have hlT0:0≤lo / 2 ^ b:=Int.ediv_nonneg hl0 (Int.le_of_lt hT0);have hhi:hi*2 ^ s+2 ^ s≤Y*2 ^ s:=by
  have:=Int.mul_le_mul_of_nonneg_right (show hi+1≤(Y:Int) by omega) (Int.le_of_lt hS0);rw [Int.add_mul] at this;omega
 have hhi0:0≤hi*2 ^ s:=lzD h0 (Int.le_of_lt hS0);have w1:gz3 (Y:Int)=some (s:Int):=by
  unfold gz3;have e:Lib.bitLen (Y:Int).toNat=b:=hb;rw [e,show (64 - (b:Int))=s by omega]
 have w2:IntKind.u64.wrap (s:Int)=s:=bzh (by omega) (by omega);have w3:IntKind.u64.wrap (64 - (s:Int))=b:=by rw [show (64 - (s:Int))=b by omega];exact bzh (by omega) (by omega)
 have m1:min s 64=s:=by omega
 have m2:min b 64=b:=by omega
 have n1:decide ((s:Int) < 0)=false:=decide_eq_false (by omega);have n2:decide ((b:Int) < 0)=false:=decide_eq_false (by omega);have wy:IntKind.u64.wrap ((Y:Int)*2 ^ s)=Y*2 ^ s:=bzh (by omega) hYS;have wh:IntKind.u64.wrap (hi*2 ^ s)=hi*2 ^ s:=bzh hhi0 (by omega);have wf:lo.fdiv (2 ^ b)=lo / 2 ^ b:=Int.fdiv_eq_ediv_of_nonneg lo (Int.le_of_lt hT0);have wo:azn .or .u64 (hi*2 ^ s) (lo / 2 ^ b)=hi*2 ^ s+lo / 2 ^ b:=or_low h0 hlT0 hlT (by omega);have nd:decide (((Y:Int)*2 ^ s).fdiv 4294967296=0)=false:=by
  rw [Int.fdiv_eq_ediv_of_nonneg _ (by omega)];exact decide_eq_false (by omega)
 unfold nzf;simp only [f1,f2,f3,azb,w1,aza,w2,w3,n1,n2,Int.toNat_natCast,m1,m2,wy,wh,wf,wo,nd];have hd:=JzL (yn:=(Y:Int)*2 ^ s) (u:=hi*2 ^ s+lo / 2 ^ b) (t:=IntKind.u64.wrap (lo*2 ^ s)) (S:=2 ^ s) hYS2 hYS (by omega) (by omega)
  (by rw [u64];omega) (by rw [u64];omega) hS0
 refine Eq.trans hd ?_;have e1:(hi*2 ^ s+lo / 2 ^ b)*18446744073709551616+IntKind.u64.wrap (lo*2 ^ s)=2 ^ s*(hi*18446744073709551616+lo):=by
  have h1:lo*2 ^ s / 18446744073709551616=lo / 2 ^ b:=by
   rw [← hST,Int.mul_comm ((2:Int) ^ s) (2 ^ b)];exact Int.mul_ediv_mul_of_pos_left lo (2 ^ b) hS0
  rw [u64,← h1,Int.mul_add,Int.mul_comm ((2:Int) ^ s) lo,← Int.mul_assoc,Int.mul_comm ((2:Int) ^ s) hi];omega
 rw [e1,Int.mul_comm (Y:Int) (2 ^ s),Int.mul_ediv_mul_of_pos _ _ hS0,Int.mul_emod_mul_of_pos _ _ hS0,Int.mul_ediv_cancel_left _ (by omega)]
def W (v:Int) (m:Bool):Wide:=⟨v / 18446744073709551616,v % 18446744073709551616,m⟩
def sw (v:Int) (m:Bool):Int:=bif m then -v else v
def inW (v:Int):Prop:=0≤v∧v < 340282366920938463463374607431768211456
theorem of_is {n:Int} (h:I64 n):mzO n=some (W n.natAbs (decide (n < 0))):=by
 unfold I64 at h;unfold mzO W;by_cases h0:n < 0
 ·simp only [h0,decide_true,azc,u64,Option.some.injEq,Wide.mk.injEq,and_true];omega
 ·simp only [h0,decide_false,azb,u64,Option.some.injEq,Wide.mk.injEq,and_true];omega
theorem pow10:∀ n:Fin 20,(1:Int)≤10 ^ n.val∧(10:Int) ^ n.val≤10000000000000000000:=by decide
theorem lze {n:Nat} (h:n≤19):(1:Int)≤10 ^ n∧(10:Int) ^ n≤10000000000000000000:=pow10 ⟨n,by omega⟩
theorem pzz {n:Nat} (h:n≤19):fzM (n:Int)=some (10 ^ n):=by
 have h2:qzt (1,(n:Int),0)=some (10 ^ n):=by
  refine rzU (F:=lzA) (fun x:Int×Int×Int=>((n:Int) - x.2.2).toNat) (fun x:Int×Int×Int=>0≤x.2.2∧x.2.2≤n∧x.2.1=n∧x.1=10 ^ x.2.2.toNat) (fun _=>10 ^ n) ?_ _ ⟨by simp,by simp,rfl,rfl⟩ (by simp only;omega);intro back x hp hb;obtain ⟨a,m,i⟩:=x;obtain ⟨h1,h2,h3,h4⟩:=hp;simp only at h1 h2 h3 h4 hb;subst h3 h4;obtain ⟨i,rfl⟩:=Int.eq_ofNat_of_zero_le h1;unfold lzA;simp only [Int.toNat_natCast] at *;by_cases hi:i < n
  ·have hp1:=(lze (show i+1≤19 by omega));rw [decide_eq_true (show (i:Int) < n by omega),azc,← Int.pow_succ,bzh (by omega) (by omega),azp (by omega) (by omega)];exact hb _ ⟨by simp only;omega,by simp only;omega,rfl,by simp only;rw [show ((i:Int)+1).toNat=i+1 by omega]⟩ (by simp only;omega)
  ·rw [decide_eq_false (show ¬ (i:Int) < n by omega),azb,show i=n by omega]
 unfold fzM;rw [h2];rfl
theorem Czv {v n:Int} {m:Bool} (hv:inW v) (hn:0≤n) (hn2:n < 18446744073709551616) (h:inW (v*n)):fz9 (W v m,n)=some (W (v*n) m):=by
 unfold inW at *;unfold fz9 W;simp only;rw [Mul64_is (by omega) (by omega) hn hn2];simp only [aza];have e:v*n=v / 18446744073709551616*n*18446744073709551616+v % 18446744073709551616*n:=by
  have h1:v=v / 18446744073709551616*18446744073709551616+v % 18446744073709551616:=by omega
  have h2:v*n=(v / 18446744073709551616*18446744073709551616+v % 18446744073709551616)*n:=by rw [← h1]
  rw [h2,Int.add_mul,Int.mul_right_comm]
 have p1:=lzD (show 0≤v / 18446744073709551616 by omega) hn;have p2:=lzD (show 0≤v % 18446744073709551616 by omega) hn;rw [e] at h ⊢;generalize v / 18446744073709551616*n=a at *;generalize v % 18446744073709551616*n=b at *;simp only [u64,Option.some.injEq,Wide.mk.injEq,and_true];omega
theorem Gzt {v w:Int} {m m':Bool} (_:inW v) (_:inW w):dzX (W v m,W w m')=some (decide (v < w)):=by
 unfold inW at *;unfold dzX W;simp only;by_cases h1:v / 18446744073709551616 < w / 18446744073709551616
 ·rw [decide_eq_true h1,azc,decide_eq_true (show v < w by omega)]
 ·rw [decide_eq_false h1,azb];by_cases h2:v / 18446744073709551616=w / 18446744073709551616
  ·rw [decide_eq_true h2,azc];simp only [Option.some.injEq,decide_eq_decide];omega
  ·rw [decide_eq_false h2,azb,decide_eq_false (show ¬ v < w by omega)]
theorem plus_is {v w:Int} {m m':Bool} (hv:inW v) (hw:inW w) (h:inW (v+w)) :
 ∃ z b,hzt (W v m,W w m')=some (W z b)∧inW z∧sw z b=sw v m+sw w m':=by
 have hvw:=Gzt (m:=m) (m':=m') hv hw;unfold inW at *;unfold hzt;rw [hvw];by_cases hm:m=m'
 ·subst hm;refine ⟨v+w,m,?_,h,by cases m<;>simp only [sw,cond_true,cond_false]<;>omega⟩;unfold jzB W;simp only [decide_true,azc,Bool.true_or,cond_true,aza,u64,Option.some.injEq,Wide.mk.injEq,and_true];omega
 ·rw [decide_eq_false (show ¬ (W v m).minus=(W w m').minus from hm),azb,aza];have hm2:m' = !m:=by cases m<;>cases m'<;>simp at hm ⊢
  subst hm2;unfold lzP W;by_cases hl:v < w
  ·refine ⟨w - v,!m,?_,by omega,by cases m<;>simp only [sw,cond_true,cond_false,Bool.not_true,Bool.not_false]<;>omega⟩;rw [decide_eq_true hl,azc];simp only [decide_true,Bool.true_or,cond_true,aza,u64,Option.some.injEq,Wide.mk.injEq,and_true,Int.add_zero,Int.sub_zero];by_cases hb:w % 18446744073709551616 < v % 18446744073709551616
   ·rw [decide_eq_true hb,cond_true];omega
   ·rw [decide_eq_false hb,cond_false];omega
  ·refine ⟨v - w,m,?_,by omega,by cases m<;>simp only [sw,cond_true,cond_false,Bool.not_true,Bool.not_false]<;>omega⟩;rw [decide_eq_false hl,azb];simp only [decide_true,Bool.true_or,cond_true,aza,u64,Option.some.injEq,Wide.mk.injEq,and_true,Int.add_zero,Int.sub_zero];by_cases hb:v % 18446744073709551616 < w % 18446744073709551616
   ·rw [decide_eq_true hb,cond_true];omega
   ·rw [decide_eq_false hb,cond_false];omega
theorem by_is {v n:Int} {m:Bool} (hv:inW v) (hn:0 < n) (hn2:n < 18446744073709551616):mzd (W v m,n)=some (W (v / n) m,v % n):=by
 unfold inW at *;unfold mzd W;simp only;have hh:0≤v / 18446744073709551616:=by omega
 rw [decide_eq_false (show ¬ n=0 by omega),azb,azb,Int.tmod_eq_emod_of_nonneg hh,Hze hh];have r0:=Int.emod_nonneg (v / 18446744073709551616) (show n≠0 by omega);have r1:=Int.emod_lt_of_pos (v / 18446744073709551616) hn;rw [Div64_is r0 r1 (by omega) (by omega) hn2,aza];obtain ⟨q,hq⟩:∃ q,v / 18446744073709551616 / n=q:=⟨_,rfl⟩;obtain ⟨r,hr⟩:∃ r,v / 18446744073709551616 % n=r:=⟨_,rfl⟩;have hqr:=Int.mul_ediv_add_emod (v / 18446744073709551616) n;rw [hq,hr] at hqr;rw [hr] at r0 r1;rw [hr,hq];have hq0:0≤q:=by rw [← hq];exact Int.ediv_nonneg hh (by omega)
 have hq1:q < 18446744073709551616:=by have:=Int.ediv_le_self n hh;omega
 have e:v=r*18446744073709551616+v % 18446744073709551616+n*(q*18446744073709551616):=by
  rw [← Int.mul_assoc];omega
 obtain ⟨d,hd⟩:∃ d,r*18446744073709551616+v % 18446744073709551616=d:=⟨_,rfl⟩;rw [hd] at e ⊢;have d0:0≤d / n:=Int.ediv_nonneg (by omega) (by omega);have d1:d / n < 18446744073709551616:=(Int.ediv_lt_iff_lt_mul hn).2 (by omega);have e1:v / n=d / n+q*18446744073709551616:=by
  rw [e,Int.add_mul_ediv_left _ _ (show n≠0 by omega)]
 have e2:v % n=d % n:=by rw [e,Int.add_mul_emod_self_left]
 rw [e1,e2];simp only [u64,Option.some.injEq,Prod.mk.injEq,Wide.mk.injEq,and_true];omega
theorem up_is {v:Int} {m:Bool} (hv:inW v) (h:inW (v+1)):ozh (W v m)=some (W (v+1) m):=by
 unfold inW at *;unfold ozh jzB W;simp only [decide_true,Bool.true_or,cond_true,aza,u64,Option.some.injEq,Wide.mk.injEq,and_true];omega
theorem rdiv_le {v n:Int} (hv:0≤v) (hn:0 < n):0≤rdiv v n∧rdiv v n≤v / n+1∧v / n≤v:=by
 have h1:=Int.ediv_nonneg hv (show 0≤n by omega);have h2:=Int.ediv_le_self n hv;unfold rdiv;split<;>omega
theorem uzC {v n:Int} {m:Bool} (hv:0≤v) (hv2:v < 340282366920938463463374607431768211455) (hn:0 < n) (hn2:n < 18446744073709551616):ezf (W v m,n)=some (W (rdiv v n) m)∧inW (rdiv v n):=by
 have hw:inW v:=⟨hv,by omega⟩;obtain ⟨h1,h2,h3⟩:=rdiv_le hv hn;have r0:=Int.emod_nonneg v (show n≠0 by omega);have r1:=Int.emod_lt_of_pos v hn;have r2:=Int.ediv_nonneg hv (show 0≤n by omega);refine ⟨?_,h1,by omega⟩;unfold ezf;rw [by_is hw hn hn2,aza];simp only;rw [bzh (by omega) (by omega)];unfold rdiv;by_cases h:n - v % n≤v % n
 ·rw [decide_eq_true h,azc,if_pos (by omega),up_is ⟨r2,by omega⟩ ⟨by omega,by omega⟩];rfl
 ·rw [decide_eq_false h,azb,if_neg (by omega)]
theorem Czu:∀ (p:Nat) {v:Int},0≤v→0≤(azt v p).1
 | 0,_,h=>h
 | p+1,v,h=>by
  unfold azt;split
  ·exact Czu p (by omega)
  ·exact h
theorem xz3:∀ (p:Nat) (v:Int),azt (-v) p=(-(azt v p).1,(azt v p).2)
 | 0,_=>rfl
 | p+1,v=>by
  unfold azt;by_cases h:v % 10=0
  ·rw [if_pos (by omega),if_pos h,show -v / 10 = -(v / 10) by omega,xz3 p]
  ·rw [if_neg (by omega),if_neg h]
theorem dec_l1_is {v:Int} {m:Bool} {p:Nat} (hv:inW v) (hp:p≤18):nzD ((p:Int),W v m)=some (((azt v p).2:Int),W (azt v p).1 m):=by
 refine rzU (fun x=>x.1.toNat) (fun x=>∃ (p:Nat) (v:Int),p≤18∧inW v∧x=((p:Int),W v m)∧True)
  (fun x=>(((azt (x.2.hi*18446744073709551616+x.2.lo) x.1.toNat).2:Int),W (azt (x.2.hi*18446744073709551616+x.2.lo) x.1.toNat).1 m)) ?_ _ ⟨p,v,hp,hv,rfl,trivial⟩ (by simp only;omega) |>.trans ?_
 ·intro back x hx hb;obtain ⟨p,v,hp,hv,rfl,-⟩:=hx;have ev:∀ {v:Int},v / 18446744073709551616*18446744073709551616+v % 18446744073709551616=v:=fun {v}=>by omega
  unfold kz1;simp only [W,Int.toNat_natCast,ev] at hb ⊢;cases p with
  | zero=>simp only [Int.ofNat_zero,Int.lt_irrefl,decide_false,azb,azt]
  | succ p =>
   have hby:=by_is (v:=v) (n:=10) (m:=m) hv (by omega) (by omega);simp only [W] at hby
   rw [decide_eq_true (show (0:Int) < ((p+1:Nat):Int) by omega),azc,hby,aza];unfold azt;by_cases h0:v % 10=0
   ·simp only [h0,decide_true,Bool.not_true,azb,if_true];rw [azp (by omega) (by omega),show (((p+1:Nat):Int) - 1)=(p:Int) by omega];have:=hb ((p:Int),⟨v / 10 / 18446744073709551616,v / 10 % 18446744073709551616,m⟩) ⟨p,v / 10,by omega,⟨by have:=hv.1;omega,by have:=hv.1;have:=hv.2;omega⟩,rfl,trivial⟩ (by simp only [Int.toNat_natCast];omega);simpa only [ev,Int.toNat_natCast] using this
   ·simp only [h0,decide_false,Bool.not_false,azc,if_false]
 ·have ev:v / 18446744073709551616*18446744073709551616+v % 18446744073709551616=v:=by omega
  simp only [W,ev,Int.toNat_natCast]
theorem tzA {v:Int} {m:Bool} {p:Nat} (hv:inW v) (hp:p≤18):cz3 (W v m,(p:Int))=some (decV (sw v m) p):=by
 unfold cz3;simp only;rw [dec_l1_is hv hp,aza];have h0:=Czu p hv.1;have h1:=HzR p v;have hs:azt (sw v m) p=(sw (azt v p).1 m,(azt v p).2):=by
  cases m
  ·rfl
  ·exact xz3 p v
 have hd:decV (sw v m) p=if I64 (sw (azt v p).1 m) then (⟨sw (azt v p).1 m,((azt v p).2:Int)⟩,0) else (⟨0,0⟩,8):=by
  unfold decV;rw [hs]
 rw [hd];have hv1:=hv.1;have hv2:=hv.2;generalize (azt v p).1=u at *;generalize ((azt v p).2)=s at *;unfold W;simp only [u64,i64];by_cases c1:u / 18446744073709551616=0
 ·by_cases c2:9223372036854775808 < u % 18446744073709551616
  ·rw [if_neg (by unfold I64 sw;cases m<;>simp only [cond_true,cond_false]<;>omega)];simp [c1,c2]
  ·by_cases c3:u % 18446744073709551616=9223372036854775808
   ·cases m
    ·rw [if_neg (by unfold I64 sw;simp only [cond_false];omega)];simp [c1,c3]
    ·rw [if_pos (by unfold I64 sw;simp only [cond_true];omega)];simp only [c1,c3,sw,decide_true,decide_false,Bool.not_true,azc,azb,cond_true,Option.some.injEq,Prod.mk.injEq,Dec.mk.injEq,and_true,Int.lt_irrefl];omega
   ·cases m
    ·rw [if_pos (by unfold I64 sw;simp only [cond_false];omega)];simp only [c1,c2,c3,sw,decide_true,decide_false,Bool.not_true,azb,cond_false,Option.some.injEq,Prod.mk.injEq,Dec.mk.injEq,and_true];omega
    ·rw [if_pos (by unfold I64 sw;simp only [cond_true];omega)];simp only [c1,c2,c3,sw,decide_true,decide_false,Bool.not_true,azc,azb,cond_true,Option.some.injEq,Prod.mk.injEq,Dec.mk.injEq,and_true];omega
 ·rw [if_neg (by unfold I64 sw;cases m<;>simp only [cond_true,cond_false]<;>omega)];simp [c1]
theorem nz5 (n:Int):sw n.natAbs (decide (n < 0))=n:=by
 unfold sw;by_cases h:n < 0
 ·rw [decide_eq_true h,cond_true];omega
 ·rw [decide_eq_false h,cond_false];omega
theorem zzX (n:Int) (k:Nat):(n.natAbs:Int)*10 ^ k=((n*10 ^ k).natAbs:Int):=by
 have h:(1:Int)≤10 ^ k:=by
  have:=Int.pow_pos (n:=(10:Int)) (m:=k) (by omega);omega
 by_cases h0:n < 0
 ·have e1:(n.natAbs:Int) = -n:=by omega
  have e2:n*10 ^ k≤0:=by
   have:=Int.mul_nonneg (show 0≤-n by omega) (show (0:Int)≤10 ^ k by omega);rw [Int.neg_mul] at this;omega
  rw [e1,Int.neg_mul];omega
 ·have e1:(n.natAbs:Int)=n:=by omega
  have:=Int.mul_nonneg (show 0≤n by omega) (show (0:Int)≤10 ^ k by omega);rw [e1];omega
theorem Azd (n:Int) (k:Nat):decide (n*10 ^ k < 0)=decide (n < 0):=by
 have h:(0:Int) < 10 ^ k:=Int.pow_pos (by omega);rw [decide_eq_decide];constructor
 ·intro h1;refine Int.not_le.1 fun h2=>?_
  have:=Int.mul_nonneg h2 (Int.le_of_lt h);omega
 ·intro h1;have:=Int.mul_pos (show 0 < -n by omega) h;rw [Int.neg_mul] at this;omega
theorem V_le {d:Dec} (hm:I64 d.M):(V d).natAbs≤9223372036854775808000000000:=by
 have h:=zzX d.M (9 - d.S.toNat);have h2:=lze (show 9 - d.S.toNat≤19 by omega);have h3:(10:Int) ^ (9 - d.S.toNat)≤10 ^ 9:=by
  have:=Nat.pow_le_pow_right (show 0 < 10 by omega) (show 9 - d.S.toNat≤9 by omega);have h:=Int.ofNat_le.2 this;simpa using h
 unfold I64 at hm;have h4:(d.M.natAbs:Int)*10 ^ (9 - d.S.toNat)≤9223372036854775808*10 ^ 9:=ozz (by omega) (by omega) (by omega) h3;unfold V;omega
theorem inV {d:Dec} (hm:I64 d.M):inW (V d).natAbs:=by
 have:=V_le hm;unfold inW;omega
theorem mzC {d:Dec} (hm:I64 d.M) (h0:0≤d.S) (h9:d.S≤9):dz5 d=some (W (V d).natAbs (decide (V d < 0))):=by
 unfold dz5;have e:d.M.natAbs*(10:Int) ^ (9 - d.S.toNat)=((V d).natAbs:Int):=zzX d.M (9 - d.S.toNat);have hp:=lze (show 9 - d.S.toNat≤19 by omega);rw [of_is hm,aza,azp (by omega) (by omega),show (9 - d.S:Int)=((9 - d.S.toNat:Nat):Int) by omega,pzz (by omega),aza,
  Czv (by unfold I64 at hm;unfold inW;omega) (by omega) (by omega) (by rw [e];exact inV hm),e,aza]
 unfold V;rw [Azd]
theorem Add_is {a b:Dec} (ha:I64 a.M) (hb:I64 b.M) (oa:okD a) (ob:okD b):pzd (a,b)=some (decV (V a+V b) 9):=by
 unfold pzd;simp only;rw [mzC ha oa.1 oa.2.1,mzC hb ob.1 ob.2.1,aza,aza];have h1:=V_le ha;have h2:=V_le hb;obtain ⟨z,m,e,hz,es⟩:=plus_is (m:=decide (V a < 0)) (m':=decide (V b < 0)) (inV ha) (inV hb) (by unfold inW;omega);rw [e,aza,show (9:Int)=((9:Nat):Int) from rfl,tzA hz (by omega),es,nz5,nz5];rfl
theorem sw_not (v:Int) (m:Bool):sw v (!m) = - sw v m:=by cases m<;>simp [sw]
theorem Sub_is {a b:Dec} (ha:I64 a.M) (hb:I64 b.M) (oa:okD a) (ob:okD b):kzY (a,b)=some (decV (V a - V b) 9):=by
 unfold kzY;simp only;rw [mzC ha oa.1 oa.2.1,mzC hb ob.1 ob.2.1,aza,aza];have h1:=V_le ha;have h2:=V_le hb;obtain ⟨z,m,e,hz,es⟩:=plus_is (m:=decide (V a < 0)) (m':=!decide (V b < 0)) (inV ha) (inV hb) (by unfold inW;omega);have e2:hzt (W (V a).natAbs (decide (V a < 0)),{ hi:=(W (V b).natAbs (decide (V b < 0))).hi,lo:=(W (V b).natAbs (decide (V b < 0))).lo,minus:=!(W (V b).natAbs (decide (V b < 0))).minus })=some (W z m):=e;rw [e2,aza,show (9:Int)=((9:Nat):Int) from rfl,tzA hz (by omega),es,sw_not,nz5,nz5,← Int.sub_eq_add_neg];rfl
theorem Round_is {a:Dec} {p:Nat} (ha:I64 a.M) (h0:0≤a.S) (h9:a.S≤9) (hp:p≤9):jzg (a,(p:Int))=some (if a.S≤p then (a,0) else decV (rnd a.M (10 ^ (a.S.toNat - p))) p):=by
 have hA:=ha;unfold I64 at ha;unfold jzg;simp only;rw [decide_eq_false (by omega),azb,decide_eq_false (by omega),azb];by_cases hs:a.S≤p
 ·rw [decide_eq_true hs,azc,if_pos hs]
 ·have hw:=lze (show a.S.toNat - p≤19 by omega);rw [decide_eq_false hs,azb,if_neg hs,of_is hA,aza,azp (by omega) (by omega),decide_eq_false (by omega),azb,show a.S - p=((a.S.toNat - p:Nat):Int) by omega,pzz (by omega),aza];obtain ⟨h1,h2⟩:=uzC (v:=a.M.natAbs) (n:=10 ^ (a.S.toNat - p)) (m:=decide (a.M < 0)) (by omega) (by omega) (by omega) (by omega);rw [h1,aza,decide_eq_false (by omega),azb,tzA h2 (by omega),aza];have e:sw (rdiv a.M.natAbs (10 ^ (a.S.toNat - p))) (decide (a.M < 0))=rnd a.M (10 ^ (a.S.toNat - p)):=by
   unfold sw rnd;by_cases hn:a.M < 0
   ·rw [decide_eq_true hn,cond_true,if_pos hn,show (a.M.natAbs:Int) = -a.M by omega]
   ·rw [decide_eq_false hn,cond_false,if_neg hn,show (a.M.natAbs:Int)=a.M by omega]
  rw [e]
theorem tmod_neg {a n:Int} (hn:0 < n):(if a.tmod n < 0 then a.tdiv n - 1 else a.tdiv n)=a / n:=by
 have h1:=Int.mul_tdiv_add_tmod a n;by_cases h:0≤a
 ·have:=Int.tmod_nonneg n h;rw [if_neg (by omega),Int.tdiv_eq_ediv_of_nonneg h]
 ·have h2:=Int.lt_tmod_of_pos a hn;have h3:a.tmod n≤0:=by
   have h4:=Int.tmod_nonneg n (show 0≤-a by omega);rw [Int.neg_tmod] at h4;omega
  split
  ·refine (Hzr hn ?_ ?_).symm
   ·rw [Int.sub_mul,Int.mul_comm];omega
   ·rw [Int.sub_add_cancel,Int.mul_comm];omega
  ·refine (Hzr hn ?_ ?_).symm
   ·rw [Int.mul_comm];omega
   ·rw [Int.add_mul,Int.mul_comm];omega
theorem Floor_is {a:Dec} (ha:I64 a.M) (h0:0≤a.S) (h9:a.S≤9):kzU a=some (⟨a.M / 10 ^ a.S.toNat,0⟩,0):=by
 unfold I64 at ha;have hp:=lze (show a.S.toNat≤19 by omega);have h9':(10:Int) ^ a.S.toNat≤10 ^ 9:=by
  have:=Nat.pow_le_pow_right (show 0 < 10 by omega) (show a.S.toNat≤9 by omega);have h:=Int.ofNat_le.2 this;simpa using h
 unfold kzU;rw [show a.S=((a.S.toNat:Nat):Int) by omega,pzz (by omega),Int.toNat_natCast,aza,aza,azp (by omega) (by omega),decide_eq_false (by omega),azb,azb];have h:=tmod_neg (a:=a.M) (n:=10 ^ a.S.toNat) (by omega);rw [← h];have b1:(a.M.tdiv (10 ^ a.S.toNat)).natAbs≤a.M.natAbs:=by
  rw [Int.natAbs_tdiv];exact Nat.div_le_self _ _
 have b3:a.M.tdiv (10 ^ a.S.toNat)≤9223372036854775807:=by
  by_cases h0:0≤a.M
  ·omega
  ·have:=Int.tdiv_nonneg (show 0≤-a.M by omega) (show (0:Int)≤10 ^ a.S.toNat by omega);rw [Int.neg_tdiv] at this;omega
 by_cases hc:a.M.tmod (10 ^ a.S.toNat) < 0
 ·rw [decide_eq_true hc,azc,if_pos hc];have b2:-9223372036854775808 < a.M.tdiv (10 ^ a.S.toNat):=by
   refine Int.not_le.1 fun hle=>?_
   have e1:=Int.mul_tdiv_add_tmod a.M (10 ^ a.S.toNat);have e2:(10 ^ a.S.toNat:Int)*a.M.tdiv (10 ^ a.S.toNat)≤a.M.tdiv (10 ^ a.S.toNat):=by
    have:=Int.mul_le_mul_of_nonneg_right hp.1 (show 0≤-a.M.tdiv (10 ^ a.S.toNat) by omega);rw [Int.one_mul,Int.mul_neg] at this;omega
   omega
  rw [azp (n:=a.M.tdiv _) (by omega) (by omega),azp (by omega) (by omega)]
 ·rw [decide_eq_false hc,azb,if_neg hc,azp (by omega) (by omega)]
theorem cmp_is (x y:Int):fzR (x,y)=some (cmpV x y):=by
 unfold fzR kzT cmpV;simp only [decide_true,cond_true,aza,azb];by_cases h:x < y
 ·simp [h]
 ·by_cases h2:y < x<;>simp [h,h2]
theorem cmpi_is (x y:Int):bzs (x,y)=some (cmpV x y):=by
 unfold bzs mzM cmpV;simp only [decide_true,cond_true,aza,azb];by_cases h:x < y
 ·simp [h]
 ·by_cases h2:y < x<;>simp [h,h2]
theorem V_neg (d:Dec):decide (V d < 0)=decide (d.M < 0):=Azd d.M _
theorem Mz3 {a b:Dec} (ha:I64 a.M) (hb:I64 b.M) (h0:0≤a.S) (h9:a.S≤9) (k0:0≤b.S) (k9:b.S≤9):ezd (a,b)=some (cmpV (V a) (V b)):=by
 unfold ezd;simp only;rw [mzC ha h0 h9,mzC hb k0 k9,aza,aza,Gzt (inV ha) (inV hb),Gzt (inV hb) (inV ha),cmp_is,cmp_is,aza,aza,cmpi_is]
 show brn (!decide (decide (V a < 0)=decide (V b < 0))) _ (brn (decide (V a < 0)) _ _)=_
 have na:=V_neg a;have nb:=V_neg b;simp only [decide_eq_decide] at na nb;by_cases h1:V a < 0<;>by_cases h2:V b < 0
 ·simp only [h1,h2,decide_true,Bool.not_true,azb,azc,aza];unfold cmpV;by_cases c1:(V a).natAbs < (V b).natAbs
  ·rw [decide_eq_true (by omega),azc,if_neg (by omega),if_pos (by omega)]
  ·rw [decide_eq_false (by omega),azb];by_cases c2:(V b).natAbs < (V a).natAbs
   ·rw [decide_eq_true (by omega),azc,if_pos (by omega)]
   ·rw [decide_eq_false (by omega),azb,if_neg (by omega),if_neg (by omega)]
 ·have m1:=na.1 h1;have m2:=mt nb.2 h2;simp only [h1,h2,decide_true,decide_false,Bool.true_eq_false,Bool.not_false,azc,aza];unfold cmpV;rw [if_pos (show V a < V b by omega),if_pos m1,if_neg m2];split<;>rfl
 ·have m1:=mt na.2 h1;have m2:=nb.1 h2;simp only [h1,h2,decide_true,decide_false,Bool.false_eq_true,Bool.not_false,azc,aza];unfold cmpV;rw [if_neg (show ¬ V a < V b by omega),if_pos (show V b < V a by omega),if_neg m1,if_pos m2];split<;>rfl
 ·simp only [h1,h2,decide_true,decide_false,Bool.not_true,azb,aza];unfold cmpV;by_cases c1:(V a).natAbs < (V b).natAbs
  ·rw [decide_eq_true (by omega),azc,if_pos (by omega)]
  ·rw [decide_eq_false (by omega),azb];by_cases c2:(V b).natAbs < (V a).natAbs
   ·rw [decide_eq_true (by omega),azc,if_neg (by omega),if_pos (by omega)]
   ·rw [decide_eq_false (by omega),azb,if_neg (by omega),if_neg (by omega)]
theorem tmod10 (m:Int):(m.tmod 10=0↔m % 10=0)∧(m % 10=0→m.tdiv 10=m / 10) :=
 ⟨by rw [← Int.dvd_iff_tmod_eq_zero,← Int.dvd_iff_emod_eq_zero],fun h=>Int.tdiv_eq_ediv_of_dvd (Int.dvd_of_emod_eq_zero h)⟩
theorem Norm_is {m:Int} {s:Nat} (hm:I64 m) (hs:s≤9):kzQ ⟨m,(s:Int)⟩=some ⟨(azt m s).1,((azt m s).2:Int)⟩:=by
 have h:rzD ⟨m,(s:Int)⟩=some ((),⟨(azt m s).1,((azt m s).2:Int)⟩):=by
  refine rzU (F:=mza) (fun d:Dec=>d.S.toNat) (fun d:Dec=>0≤d.S∧d.S≤9∧I64 d.M) (fun d=>((),⟨(azt d.M d.S.toNat).1,((azt d.M d.S.toNat).2:Int)⟩)) ?_ _ ⟨by simp only;omega,by simp only;omega,hm⟩ (by simp only;omega);intro back d hp hb;obtain ⟨m,s⟩:=d;obtain ⟨h0,h9,hm⟩:=hp;simp only at h0 h9 hm hb;obtain ⟨s,rfl⟩:=Int.eq_ofNat_of_zero_le h0;unfold mza;simp only [Int.toNat_natCast];cases s with
  | zero=>simp only [Int.ofNat_zero,Int.lt_irrefl,decide_false,azb,azt]
  | succ s =>
   rw [decide_eq_true (show (0:Int) < ((s+1:Nat):Int) by omega),azc];unfold azt;obtain ⟨t1,t2⟩:=tmod10 m;by_cases hz:m % 10=0
   ·rw [decide_eq_true (t1.2 hz),azc,if_pos hz,t2 hz];unfold I64 at hm;rw [azp (by omega) (by omega),azp (by omega) (by omega),show (((s+1:Nat):Int) - 1)=(s:Int) by omega];have:=hb ⟨m / 10,(s:Int)⟩ ⟨by simp only;omega,by simp only;omega,by unfold I64;simp only;omega⟩ (by simp only [Int.toNat_natCast];omega);simpa only [Int.toNat_natCast] using this
   ·rw [decide_eq_false (fun h=>hz (t1.1 h)),azb,if_neg hz]
 unfold kzQ;rw [h];rfl
theorem LzD (d:Dec):hzK d=some 0∧okD d∨∃ e,hzK d=some e∧e≠0:=by
 unfold hzK okD;by_cases h1:d.S < 0
 ·exact .inr ⟨1,by simp [h1],by omega⟩
 ·by_cases h2:9 < d.S
  ·exact .inr ⟨1,by simp [h1,h2],by omega⟩
  ·by_cases h3:0 < d.S
   ·by_cases h4:d.M.tmod 10=0
    ·exact .inr ⟨1,by simp [h1,h2,h3,h4],by omega⟩
    ·exact .inl ⟨by simp [h1,h2,h3,h4],by omega,by omega,fun _ h=>h4 ((tmod10 d.M).1.2 h)⟩
   ·exact .inl ⟨by simp [h1,h2,h3],by omega,by omega,fun h=>absurd h h3⟩
end Go.Proofs.YtdgpkbnnljblmaaGreatDoor

/- QQ -/
namespace Go.Proofs.YtdgpkbnnljblmaaGreatDoor
open Go Go.Ev
def digs (n:Nat):List Int:=if h:n=0 then [] else ((n % 10:Nat):Int) :: digs (n / 10)
termination_by n
decreasing_by omega
theorem bzr:digs 0=[]:=by rw [digs];rfl
theorem czF {n:Nat} (h:n≠0):digs n=((n % 10:Nat):Int) :: digs (n / 10):=by
 conv=>lhs;rw [digs]
 rw [dif_neg h]
def vd:List Int→Nat
 | []=>0
 | d :: D=>d.toNat+10*vd D
def bzB (D:List Int):Prop:=∀ d∈D,0≤d∧d≤9
theorem fzO {d:Int} {D:List Int}:bzB (d :: D)↔(0≤d∧d≤9)∧bzB D:=by simp [bzB]
theorem ezR:bzB []:=by simp [bzB]
theorem kzs {D E:List Int}:bzB (D++E)↔bzB D∧bzB E:=by
 simp only [bzB,List.mem_append];exact ⟨fun h=>⟨fun d hd=>h d (.inl hd),fun d hd=>h d (.inr hd)⟩,fun h d hd=>hd.elim (h.1 d) (h.2 d)⟩
theorem NzI {D:List Int} (h:bzB D) (n:Nat):bzB (D.drop n):=fun d hd=>h d (List.mem_of_mem_drop hd)
theorem NzJ {D:List Int} (h:bzB D) (n:Nat):bzB (D.take n):=fun d hd=>h d (List.mem_of_mem_take hd)
theorem qzp:∀ (D E:List Int),vd (D++E)=vd D+10 ^ D.length*vd E
 | [],E=>by simp [vd]
 | d :: D,E=>by
  simp only [List.cons_append,vd,qzp D E,List.length_cons,Nat.pow_succ];rw [Nat.mul_add,Nat.mul_comm (10 ^ D.length) 10,Nat.mul_assoc];omega
theorem vd_lt:∀ {D:List Int},bzB D→vd D < 10 ^ D.length
 | [],_=>by simp [vd]
 | d :: D,h=>by
  obtain ⟨h1,h2⟩:=fzO.1 h;have:=vd_lt h2;simp only [vd,List.length_cons,Nat.pow_succ];omega
theorem dzM:∀ (n:Nat),bzB (digs n):=by
 intro n;induction n using Nat.strongRecOn with
 | _ n ih =>
  by_cases h:n=0
  ·subst h;rw [bzr];exact ezR
  ·rw [czF h];exact fzO.2 ⟨by omega,ih _ (by omega)⟩
theorem fzL:∀ (n:Nat),vd (digs n)=n:=by
 intro n;induction n using Nat.strongRecOn with
 | _ n ih =>
  by_cases h:n=0
  ·subst h;rw [bzr];rfl
  ·rw [czF h];simp only [vd];rw [ih _ (by omega)];omega
theorem bzH:∀ (k n:Nat),n < 10 ^ k→(digs n).length≤k
 | 0,n,h=>by
  have:n=0:=by simp at h;omega
  subst this;rw [bzr];simp
 | k+1,n,h=>by
  by_cases h0:n=0
  ·subst h0;rw [bzr];simp
  ·rw [czF h0];have:=bzH k (n / 10) (by rw [Nat.pow_succ] at h;omega);simp;omega
theorem bz8 {k n:Nat} (h:(digs n).length≤k):n < 10 ^ k:=by
 have h1:=vd_lt (dzM n);rw [fzL] at h1;exact Nat.lt_of_lt_of_le h1 (Nat.pow_le_pow_right (by omega) h)
theorem nzE {n:Nat}:(digs n).length=0↔n=0:=by
 constructor
 ·intro h;have:=bz8 (n:=n) (k:=0) (by omega);simpa using this
 ·intro h;subst h;rw [bzr];rfl
def cz9:List Int→List Int
 | []=>[]
 | d :: D=>match cz9 D with
  | []=>if d=0 then [] else [d]
  | e :: E=>d :: e :: E
theorem uzE:∀ {D:List Int},bzB D→cz9 D=digs (vd D)
 | [],_=>by simp [cz9,vd,bzr]
 | d :: D,h=>by
  obtain ⟨h1,h2⟩:=fzO.1 h;have ih:=uzE h2;simp only [cz9,vd];by_cases hv:vd D=0
  ·rw [ih,hv,bzr];simp only;by_cases hd:d=0
   ·subst hd;simp [bzr]
   ·rw [if_neg hd,czF (by omega),show (d.toNat+10*0) / 10=0 by omega,bzr];congr 1;omega
  ·rw [ih,czF hv];simp only;rw [← czF hv,czF (n:=d.toNat+10*vd D) (by omega),show (d.toNat+10*vd D) / 10=vd D by omega];congr 1;omega
theorem szF:∀ (D:List Int),cz9 (D++[0])=cz9 D
 | []=>by simp [cz9]
 | d :: D=>by simp only [List.cons_append,cz9,szF D]
theorem vzc {x:Int} (hx:x≠0):∀ (D:List Int),cz9 (D++[x])=D++[x]
 | []=>by simp [cz9,hx]
 | d :: D=>by
  simp only [List.cons_append,cz9,vzc hx D];cases D<;>simp
theorem xz0:∀ (D:List Int),(cz9 D).length≤D.length
 | []=>by simp [cz9]
 | d :: D=>by
  have:=xz0 D;simp only [cz9];split
  ·split<;>simp
  ·rename_i e E h;rw [h] at this;simp only [List.length_cons] at *;omega
theorem uzF:∀ (D:List Int),cz9 D=D.take (cz9 D).length
 | []=>by simp [cz9]
 | d :: D=>by
  have ih:=uzF D;simp only [cz9];split
  ·split<;>simp
  ·rename_i e E h;rw [h] at ih;simp only [List.length_cons] at ih ⊢;rw [List.take_succ_cons,← ih]
theorem nz2:∀ (k n:Nat),(digs n).drop k=digs (n / 10 ^ k)
 | 0,n=>by simp
 | k+1,n=>by
  by_cases h:n=0
  ·subst h;rw [bzr];simp [bzr]
  ·rw [czF h,List.drop_succ_cons,nz2 k,Nat.div_div_eq_div_mul,Nat.pow_succ,Nat.mul_comm]
theorem mze:∀ (k n:Nat),k < (digs n).length→(digs n)[k]? = some ((n / 10 ^ k % 10:Nat):Int)
 | 0,n,h=>by
  by_cases h0:n=0
  ·subst h0;rw [bzr] at h;simp at h
  ·rw [czF h0];simp
 | k+1,n,h=>by
  by_cases h0:n=0
  ·subst h0;rw [bzr] at h;simp at h
  ·rw [czF h0] at h ⊢;simp only [List.length_cons,List.getElem?_cons_succ] at h ⊢;rw [mze k _ (by omega),Nat.div_div_eq_div_mul,Nat.pow_succ,Nat.mul_comm]
theorem digs_up:∀ (k n:Nat),n≠0→digs (n*10 ^ k)=List.replicate k 0++digs n
 | 0,n,_=>by simp
 | k+1,n,h=>by
  have h1:n*10 ^ (k+1)=n*10 ^ k*10:=by rw [Nat.pow_succ,Nat.mul_assoc]
  have h2:n*10 ^ k≠0:=by
   have:=Nat.pow_pos (a:=10) (n:=k) (by omega);exact Nat.mul_ne_zero h (by omega)
  rw [h1,czF (by omega),show n*10 ^ k*10 / 10=n*10 ^ k by omega,digs_up k n h,show n*10 ^ k*10 % 10=0 by omega];rfl
theorem idxI {D:List Int} {k:Nat} {v:Int} (h:D[k]? = some v):idx D (k:Int)=some v:=by
 simp [idx,h]
theorem appS {xs ys:List Int} (h:xs.length+ys.length≤10000):app 8 xs ys=some (xs++ys):=by
 have:Nat.ble ((xs.length+ys.length)*8) 140737488355328=true:=Nat.ble_eq_true_of_le (by omega);simp [app,this]
theorem subS {D:List Int} {k:Nat} (h:k≤D.length):sub D (k:Int) (D.length:Int)=some (D.drop k):=by
 simp [sub,h]
theorem Kzm {X Y:Type} {F:(X→Option Y)→X→Option Y} (m:X→Nat) (Inv:X→Prop) (Post:Y→Prop)
 (h:∀ back x,Inv x→(∀ x',Inv x'→m x' < m x→∃ y,back x' = some y∧Post y)→∃ y,F back x=some y∧Post y):∀ n x,Inv x→m x < n→∃ y,iter F n x=some y∧Post y
 | 0,_,_,h0=>by omega
 | n+1,x,hp,hn=>by
  rw [bzS];exact h _ x hp fun x' hp' hm=>Kzm m Inv Post h n x' hp' (by omega)
theorem czQ {X Y:Type} {F:(X→Option Y)→X→Option Y} (m:X→Nat) (Inv:X→Prop) (Post:Y→Prop)
 (h:∀ back x,Inv x→(∀ x',Inv x'→m x' < m x→∃ y,back x' = some y∧Post y)→∃ y,F back x=some y∧Post y) (x:X) (hx:Inv x) (hm:m x < 9223372036854775808):∃ y,iter F big x=some y∧Post y :=
 Kzm m Inv Post h _ x hx (by rw [mzJ];omega)
theorem Ozm {D:List Int} {m:Bool} (hl:D.length < 10000):qzI (⟨m,D⟩,(D.length:Int))=some ((cz9 D).length:Int):=by
 obtain ⟨y,h1,h2⟩:=czQ (F:=lzL) (fun x=>x.2.toNat) (fun x=>x.1=⟨m,D⟩∧∃ k,k≤D.length∧x.2=(k:Int)∧cz9 (D.take k)=cz9 D) (fun y=>y=((cz9 D).length:Int)) (by
  rintro back ⟨b,i⟩ ⟨rfl,k,hk,rfl,hr⟩ hb;unfold lzL;simp only at hb ⊢;cases k with
  | zero =>
   simp only [List.take_zero,cz9] at hr;refine ⟨0,?_,by rw [← hr];rfl⟩;simp
  | succ k =>
   have hk':k < D.length:=by omega
   rw [decide_eq_true (show (0:Int) < ((k+1:Nat):Int) by omega),azc,azp (by omega) (by omega),show (((k+1:Nat):Int) - 1)=(k:Int) by omega,idxI (v:=D[k]) (List.getElem?_eq_getElem hk'),aza];have ht:D.take (k+1)=D.take k++[D[k]]:=by rw [List.take_add_one,List.getElem?_eq_getElem hk'];rfl
   by_cases hz:D[k]=0
   ·rw [decide_eq_true hz,azc];refine hb _ ⟨rfl,k,by omega,rfl,?_⟩ (by simp only [Int.toNat_natCast];omega);rw [← hr,ht,hz,szF]
   ·rw [decide_eq_false hz,azb];refine ⟨_,rfl,?_⟩;rw [← hr,ht,vzc hz];simp;omega) (⟨m,D⟩,(D.length:Int)) ⟨rfl,D.length,Nat.le_refl _,rfl,by rw [List.take_length]⟩ (by simp only [Int.toNat_natCast];omega)
 subst h2;exact h1
theorem lzY {D:List Int} {m:Bool} (hd:bzB D) (hl:D.length < 10000):bzG ⟨m,D⟩=some ⟨m&&!decide (vd D=0),digs (vd D)⟩:=by
 unfold bzG;simp only;rw [Ozm hl,aza];have h1:=xz0 D;have h2:sub D 0 ((cz9 D).length:Int)=some (cz9 D):=by
  simp only [sub];have:(decide ((0:Int)≤0)&&decide ((0:Int)≤((cz9 D).length:Int))&&decide (((cz9 D).length:Int)≤(D.length:Int)))=true:=by simp [h1]
  rw [this,cond_true];simp only [Int.toNat_natCast,Int.toNat_zero,List.drop_zero];rw [← uzF]
 rw [h2,aza];rw [uzE hd];by_cases hz:vd D=0
 ·rw [hz,bzr];simp
 ·have:=mt nzE.1 hz;rw [decide_eq_false (by omega),azb,decide_eq_false hz];simp
theorem big_is {n:Int} (h:I64 n):qzk n=some (digs n.natAbs,⟨decide (n < 0),digs n.natAbs⟩):=by
 unfold I64 at h;have key:∀ (u:Nat) (m:Bool),u≤9223372036854775808→ozJ ([],⟨m,[]⟩,(u:Int))=some (digs u,⟨m,digs u⟩):=fun u m hu=>by
  have hlen:(digs u).length≤19:=bzH 19 u (by omega);obtain ⟨y,h1,h2⟩:=czQ (F:=mzA) (fun x=>(digs x.2.2.toNat).length) (fun x=>x.2.1.Minus=m∧∃ v:Nat,v≤9223372036854775808∧x.2.2=(v:Int)∧x.1++digs v=digs u) (fun y=>y=(digs u,⟨m,digs u⟩)) (by
   rintro back ⟨D,⟨m',E⟩,i⟩ ⟨hm,v,hv,hi,hD⟩ hb;simp only at hm hi hD;subst hm;subst hi;unfold mzA;simp only at hb ⊢;have hl:D.length+(digs v).length=(digs u).length:=by rw [← hD];simp
   by_cases hz:v=0
   ·subst hz;rw [bzr,List.append_nil] at hD;subst hD;exact ⟨_,by simp,rfl⟩
   ·have e1:((v:Int).tmod 10)=((v % 10:Nat):Int):=by rw [Int.tmod_eq_emod_of_nonneg (by omega)];omega
    have e2:((v:Int).tdiv 10)=((v / 10:Nat):Int):=by rw [Int.tdiv_eq_ediv_of_nonneg (by omega)];omega
    rw [czF hz,List.length_cons] at hl;rw [decide_eq_true (by omega),azc,e1,e2,azp (by omega) (by omega),bzh (by omega) (by omega),appS (by simp;omega),aza];refine hb _ ⟨rfl,v / 10,by omega,rfl,?_⟩ ?_
    ·rw [← hD,czF hz,List.append_assoc];rfl
    ·simp only [Int.toNat_natCast]
     conv=>rhs;rw [czF hz]
     simp) ([],⟨m,[]⟩,(u:Int)) ⟨rfl,u,hu,rfl,rfl⟩ (by simp only [Int.toNat_natCast];omega)
  subst h2;exact h1
 unfold qzk;by_cases hn:n < 0
 ·rw [decide_eq_true hn,azc,show IntKind.u64.wrap (0 - IntKind.u64.wrap n)=(n.natAbs:Int) by rw [u64,u64];omega,key _ _ (by omega)];rfl
 ·rw [decide_eq_false hn,azb,show IntKind.u64.wrap n=(n.natAbs:Int) by rw [u64];omega,key _ _ (by omega)];rfl
theorem yzb {n:Int} (h:I64 n):lzp n=some ⟨decide (n < 0),digs n.natAbs⟩:=by
 unfold lzp;rw [big_is (by assumption)];rfl
theorem szK {n k:Nat} {m:Bool} (hk:k≤100) (hl:(digs n).length≤1000):nzZ (⟨m,digs n⟩,(k:Int))=some ⟨m,digs (n*10 ^ k)⟩:=by
 unfold nzZ;simp only;by_cases hz:n=0
 ·subst hz;rw [bzr,Nat.zero_mul,bzr];simp
 ·have:=mt nzE.1 hz;rw [decide_eq_false (by omega),azb];have key:sz0 ([],(k:Int),⟨m,[]⟩,0)=some (List.replicate k 0,⟨m,List.replicate k 0⟩):=by
   obtain ⟨y,h1,h2⟩:=czQ (F:=nzn) (fun x=>k - x.2.2.2.toNat) (fun x=>x.2.1=(k:Int)∧x.2.2.1.Minus=m∧∃ i:Nat,i≤k∧x.2.2.2=(i:Int)∧x.1=List.replicate i 0) (fun y=>y=(List.replicate k 0,⟨m,List.replicate k 0⟩)) (by
    rintro back ⟨D,kk,⟨m',E⟩,i⟩ ⟨e1,e2,j,hj,e3,e4⟩ hb;simp only at e1 e2 e3 e4;subst e1;subst e2;subst e3;subst e4;unfold nzn;simp only at hb ⊢;by_cases hlt:j < k
    ·rw [decide_eq_true (by omega),azc,appS (by simp;omega),aza,azp (by omega) (by omega)];refine hb _ ⟨rfl,rfl,j+1,by omega,by simp only;omega,?_⟩ (by simp only;omega);simp only [← List.replicate_succ']
    ·have:j=k:=by omega
     subst this;exact ⟨_,by simp,rfl⟩) ([],(k:Int),⟨m,[]⟩,0) ⟨rfl,rfl,0,by omega,rfl,rfl⟩ (by simp only;omega)
   subst h2;exact h1
  rw [key,aza,appS (by simp;omega),aza,digs_up k n hz]
def at0 (D:List Int) (k:Nat):Int:=D[k]?.getD 0
theorem nz1 {D:List Int} (h:bzB D) (k:Nat):0≤at0 D k∧at0 D k≤9:=by
 unfold at0;cases hk:D[k]? with
 | none=>simp
 | some v=>exact h v (List.mem_of_getElem? hk)
theorem pzR {D:List Int} (k:Nat):vd (D.drop k)=(at0 D k).toNat+10*vd (D.drop (k+1)):=by
 unfold at0;rcases Nat.lt_or_ge k D.length with h | h
 ·rw [List.drop_eq_getElem_cons h,List.getElem?_eq_getElem h];rfl
 ·rw [List.drop_eq_nil_of_le h,List.drop_eq_nil_of_le (by omega),List.getElem?_eq_none h];rfl
theorem Dz3 {D E out:List Int} {c:Int} {k:Nat} (hD:bzB D) (hE:bzB E) (hc:0≤c∧c≤1) (_hl:D.length≤5000) (_hl2:E.length≤5000) (ho:out.length≤9000) (_hk:k≤9000) :
 iz6 (D,E,out,c,(k:Int))=some (out++[(c+at0 D k+at0 E k) % 10],(c+at0 D k+at0 E k) / 10):=by
 have hd:=nz1 hD k;have he:=nz1 hE k;have tm:∀ t:Int,0≤t→t.tmod 10=t % 10:=fun t h=>Int.tmod_eq_emod_of_nonneg h
 have td:∀ t:Int,0≤t→t.tdiv 10=t / 10:=fun t h=>Int.tdiv_eq_ediv_of_nonneg h
 have w1:=azp (n:=c+at0 D k) (by omega) (by omega);have w2:=azp (n:=c+at0 E k) (by omega) (by omega);have w3:=azp (n:=c+at0 D k+at0 E k) (by omega) (by omega);unfold iz6;simp only;rcases Nat.lt_or_ge k D.length with h1 | h1
 ·have g1:D[k]? = some (at0 D k):=by unfold at0;rw [List.getElem?_eq_getElem h1];rfl
  rw [decide_eq_true (show (k:Int) < (D.length:Int) by omega),azc,idxI g1,aza];rcases Nat.lt_or_ge k E.length with h2 | h2
  ·have g2:E[k]? = some (at0 E k):=by unfold at0;rw [List.getElem?_eq_getElem h2];rfl
   rw [decide_eq_true (show (k:Int) < (E.length:Int) by omega),azc,idxI g2,aza,w1,w3,tm _ (by omega),td _ (by omega),azp (by omega) (by omega),appS (by simp;omega)];rfl
  ·have g2:at0 E k=0:=by unfold at0;rw [List.getElem?_eq_none h2];rfl
   rw [decide_eq_false (show ¬ (k:Int) < (E.length:Int) by omega),azb,w1,g2,Int.add_zero,tm _ (by omega),td _ (by omega),azp (by omega) (by omega),appS (by simp;omega)];rfl
 ·have g1:at0 D k=0:=by unfold at0;rw [List.getElem?_eq_none h1];rfl
  rw [decide_eq_false (show ¬ (k:Int) < (D.length:Int) by omega),azb];rcases Nat.lt_or_ge k E.length with h2 | h2
  ·have g2:E[k]? = some (at0 E k):=by unfold at0;rw [List.getElem?_eq_getElem h2];rfl
   rw [decide_eq_true (show (k:Int) < (E.length:Int) by omega),azc,idxI g2,aza,w2,g1,Int.add_zero,tm _ (by omega),td _ (by omega),azp (by omega) (by omega),appS (by simp;omega)];rfl
  ·have g2:at0 E k=0:=by unfold at0;rw [List.getElem?_eq_none h2];rfl
   rw [decide_eq_false (show ¬ (k:Int) < (E.length:Int) by omega),azb,g1,g2,Int.add_zero,Int.add_zero,tm _ (by omega),td _ (by omega),azp (by omega) (by omega),appS (by simp;omega)];rfl
theorem KzD {D E:List Int} (hD:bzB D) (hE:bzB E) (hl:D.length≤4000) (hl2:E.length≤4000):∃ R,gz5 (D,E)=some R∧bzB R∧vd R=vd D+vd E∧R.length≤4001:=by
 have key:∃ R,nzB (D,E,[],0,0)=some R∧(bzB R∧vd R=vd D+vd E∧R.length≤4001):=by
  refine czQ (F:=gzN) (fun x=>4002 - x.2.2.2.2.toNat) (fun x=>x.1=D∧x.2.1=E∧∃ (c:Int) (k:Nat),x.2.2.2.1=c∧x.2.2.2.2=(k:Int)∧0≤c∧c≤1∧bzB x.2.2.1∧x.2.2.1.length=k∧k≤4001∧(4000 < k→c=0) ∧
   vd x.2.2.1+10 ^ k*(c.toNat+vd (D.drop k)+vd (E.drop k))=vd D+vd E) _ ?_ _ ⟨rfl,rfl,0,0,rfl,rfl,by omega,by omega,ezR,rfl,by omega,by omega,by simp [vd]⟩ (by simp only;omega)
  rintro back ⟨D',E',out,c,i⟩ ⟨e1,e2,c',k,e3,e4,c0,c1,ho,hk,hk2,hk3,hv⟩ hb;simp only at e1 e2 e3 e4 ho hk hv;subst e1;subst e2;subst e3;subst e4;unfold gzN;simp only at hb ⊢;rw [Dz3 hD hE ⟨c0,c1⟩ (by omega) (by omega) (by omega) (by omega),aza];simp only;rw [azp (n:=(k:Int)+1) (by omega) (by omega)];have hd:=nz1 hD k;have he:=nz1 hE k;by_cases hgo:k < D'.length∨k < E'.length∨0 < c
  ·have step:∃ y,back (D',E',out++[(c+at0 D' k+at0 E' k) % 10],(c+at0 D' k+at0 E' k) / 10,(k:Int)+1)=some y∧(bzB y∧vd y=vd D'+vd E'∧y.length≤4001):=by
    have hk4:k≤4000:=by
     rcases hgo with h | h | h
     ·omega
     ·omega
     ·apply Classical.byContradiction;intro hn;have:=hk3 (by omega);omega
    refine hb _ ⟨rfl,rfl,(c+at0 D' k+at0 E' k) / 10,k+1,rfl,by simp,by omega,by omega,?_,by simp [hk],by omega,fun h4=>?_,?_⟩ (by simp only;omega)
    ·exact kzs.2 ⟨ho,fzO.2 ⟨by omega,ezR⟩⟩
    ·have h1:at0 D' k=0:=by unfold at0;rw [List.getElem?_eq_none (by omega)];rfl
     have h2:at0 E' k=0:=by unfold at0;rw [List.getElem?_eq_none (by omega)];rfl
     omega
    ·rw [← hv,qzp,hk,pzR (D:=D') k,pzR (D:=E') k,Nat.pow_succ];simp only [vd];generalize vd (D'.drop (k+1))=X;generalize vd (E'.drop (k+1))=Y;generalize 10 ^ k=T;generalize hx:at0 D' k=a at *;generalize hy:at0 E' k=b at *;have q1:((c+a+b) % 10).toNat+10*0=(c.toNat+a.toNat+b.toNat) % 10:=by omega
     have q2:((c+a+b) / 10).toNat=(c.toNat+a.toNat+b.toNat) / 10:=by omega
     rw [q1,q2];generalize c.toNat=cc;generalize a.toNat=aa;generalize b.toNat=bb;have q3:cc+(aa+10*X)+(bb+10*Y)=(cc+aa+bb) % 10+10*((cc+aa+bb) / 10+X+Y):=by omega
     rw [q3,Nat.mul_add T,Nat.mul_assoc T 10];omega
   by_cases g1:k < D'.length
   ·rw [decide_eq_true (by omega),azc];exact step
   ·rw [decide_eq_false (by omega),azb];by_cases g2:k < E'.length
    ·rw [decide_eq_true (by omega),azc];exact step
    ·rw [decide_eq_false (by omega),azb,decide_eq_true (by omega),azc];exact step
  ·have g1:¬ k < D'.length:=fun h=>hgo (.inl h)
   have g2:¬ k < E'.length:=fun h=>hgo (.inr (.inl h))
   have g3:¬ 0 < c:=fun h=>hgo (.inr (.inr h))
   rw [decide_eq_false (by omega),azb,decide_eq_false (by omega),azb,decide_eq_false g3,azb];refine ⟨_,rfl,ho,?_,by omega⟩;rw [List.drop_eq_nil_of_le (by omega),List.drop_eq_nil_of_le (by omega)] at hv;have:c=0:=by omega
   subst this;simpa [vd] using hv
 obtain ⟨R,h1,h2⟩:=key;refine ⟨R,?_,h2⟩;unfold gz5;rw [h1];rfl
theorem idx0 {D:List Int} {v:Int} (h:D[0]? = some v):idx D 0=some v:=idxI (k:=0) h
theorem Fzi (v p:Nat):azt (v:Int) (p+1)=if v % 10=0 then azt ((v / 10:Nat):Int) p else ((v:Int),p+1):=by
 conv=>lhs;unfold azt
 by_cases h:v % 10=0
 ·rw [if_pos (by omega),if_pos h];rfl
 ·rw [if_neg (by omega),if_neg h]
theorem MzQ {n p:Nat} {m:Bool} (hl:(digs n).length≤5000) (hp:p≤1000):pzF ((p:Int),⟨m,digs n⟩)=some (((azt n p).2:Int),⟨m,digs (azt n p).1.toNat⟩):=by
 obtain ⟨y,h1,h2⟩:=czQ (F:=kzJ) (fun x=>x.1.toNat) (fun x=>∃ q v:Nat,q≤p∧(digs v).length≤5000∧x=((q:Int),⟨m,digs v⟩)∧azt v q=azt n p) (fun y=>y=(((azt n p).2:Int),⟨m,digs (azt n p).1.toNat⟩)) (by
  rintro back x ⟨q,v,hq,hv,rfl,hs⟩ hb;unfold kzJ;simp only at hb ⊢;rw [← hs];cases q with
  | zero=>exact ⟨(0,⟨m,digs v⟩),by simp,by simp [azt]⟩
  | succ q =>
   rw [decide_eq_true (by omega),azc,azp (n:=((q+1:Nat):Int) - 1) (by omega) (by omega),show (((q+1:Nat):Int) - 1)=(q:Int) by omega];rw [Fzi];rw [Fzi] at hs;by_cases hz:v=0
   ·subst hz;rw [if_pos (by omega)] at hs ⊢;have:=hb ((q:Int),⟨m,digs 0⟩) ⟨q,0,by omega,hv,rfl,hs⟩ (by simp only [Int.toNat_natCast];omega);rw [bzr] at this ⊢;rw [hs];simpa using this
   ·have hne:=mt nzE.1 hz;rw [decide_eq_false (by omega),azb,idx0 (v:=((v % 10:Nat):Int)) (by rw [czF hz];rfl),aza];by_cases h0:v % 10=0
    ·rw [decide_eq_true (by omega),azc,decide_eq_true (by omega),azc];have hsub:sub (digs v) 1 ((digs v).length:Int)=some (digs (v / 10)):=by
      have:=subS (D:=digs v) (k:=1) (by omega);rw [nz2] at this;simpa using this
     rw [hsub,aza,if_pos h0];rw [if_pos h0] at hs;have hl2:(digs (v / 10)).length≤5000:=by rw [czF hz] at hv;simp at hv;omega
     rw [hs];exact hb ((q:Int),⟨m,digs (v / 10)⟩) ⟨q,v / 10,by omega,hl2,rfl,hs⟩ (by simp only [Int.toNat_natCast];omega)
    ·rw [decide_eq_false (by omega),azb,if_neg h0];exact ⟨_,rfl,by simp⟩) ((p:Int),⟨m,digs n⟩) ⟨p,n,Nat.le_refl _,hl,rfl,rfl⟩ (by simp only [Int.toNat_natCast];omega)
 subst h2;exact h1
theorem MzR {n:Nat} {m:Bool} (hn:(digs n).length≤19):pzG (⟨m,digs n⟩,0,((digs n).length:Int) - 1)=some (n:Int):=by
 have hlt:=bz8 hn;obtain ⟨y,h1,h2⟩:=czQ (F:=kzK) (fun x=>(x.2.2+1).toNat) (fun x=>x.1=⟨m,digs n⟩∧∃ k:Nat,k≤(digs n).length∧x.2.2=(k:Int) - 1∧x.2.1=((n / 10 ^ k:Nat):Int)) (fun y=>y=(n:Int)) (by
  rintro back ⟨b,u,i⟩ ⟨rfl,k,hk,e1,e2⟩ hb;simp only at e1 e2;subst e1;subst e2;unfold kzK;simp only at hb ⊢;cases k with
  | zero=>exact ⟨(n:Int),by simp,rfl⟩
  | succ k =>
   have e:n / 10 ^ (k+1)=n / 10 ^ k / 10:=by rw [Nat.pow_succ,Nat.div_div_eq_div_mul]
   have hle:n / 10 ^ k≤n:=Nat.div_le_self _ _;rw [decide_eq_true (by omega),azc,show (((k+1:Nat):Int) - 1)=(k:Int) by omega,idxI (mze k n (by omega)),aza,e];generalize hq:n / 10 ^ k=q at *;rw [bzh (n:=10*((q / 10:Nat):Int)) (by omega) (by omega),bzh (n:=((q % 10:Nat):Int)) (by omega) (by omega),bzh (by omega) (by omega),azp (by omega) (by omega)];refine hb _ ⟨rfl,k,by omega,rfl,?_⟩ (by simp only;omega);simp only [hq];omega) (⟨m,digs n⟩,0,((digs n).length:Int) - 1) ⟨rfl,(digs n).length,Nat.le_refl _,rfl,by
    have h1:=vd_lt (dzM n);rw [fzL] at h1;simp only;rw [Nat.div_eq_of_lt h1];rfl⟩ (by simp only;omega)
 subst h2;exact h1
theorem mzD {n p:Nat} {m:Bool} (hl:(digs n).length≤5000) (hp:p≤1000):bzv (⟨m,digs n⟩,(p:Int))=some (decV (sw n m) p):=by
 unfold bzv;simp only;rw [MzQ hl hp,aza];have h0:=Czu p (v:=(n:Int)) (by omega);have hs:azt (sw n m) p=(sw (azt n p).1 m,(azt n p).2):=by
  cases m
  ·rfl
  ·exact xz3 p n
 unfold decV;rw [hs];generalize hv:(azt (n:Int) p).1=v at *;generalize (azt (n:Int) p).2=q at *;obtain ⟨k,rfl⟩:=Int.eq_ofNat_of_zero_le h0;simp only [Int.toNat_natCast];have hI:I64 (sw (k:Int) m)↔(if m then (k:Int)≤9223372036854775808 else (k:Int)≤9223372036854775807):=by
  unfold I64;cases m<;>simp [sw]<;>omega
 by_cases h19:19 < (digs k).length
 ·have hge:10 ^ 19≤k:=by
   apply Classical.byContradiction;intro hn;have:=bzH 19 k (by omega);omega
  rw [decide_eq_true (by omega),azc,if_neg];rw [hI];cases m<;>simp<;>omega
 ·have hlt:=bz8 (n:=k) (k:=19) (by omega);rw [decide_eq_false (by omega),azb,azp (n:=((digs k).length:Int) - 1) (by omega) (by omega),MzR (by omega),aza];cases m
  ·rw [azb];by_cases hb:(9223372036854775807:Int) < (k:Int)
   ·rw [decide_eq_true hb,azc,if_neg (by rw [hI];simp;omega)]
   ·rw [decide_eq_false hb,azb,if_pos (by rw [hI];simp;omega),azp (by omega) (by omega)];rfl
  ·rw [azc];by_cases hb:(9223372036854775808:Int) < (k:Int)
   ·rw [decide_eq_true hb,azc,if_neg (by rw [hI];simp;omega)]
   ·rw [decide_eq_false hb,azb,if_pos (by rw [hI];simp;omega)];have:IntKind.i64.wrap (IntKind.u64.wrap (0 - (k:Int))) = -(k:Int):=by rw [u64,i64];omega
    rw [this];rfl
theorem Ozb {m:Int} {s:Nat} (hm:I64 m) (hs:s≤9):jzp ⟨m,(s:Int)⟩=some ⟨(azt m s).1,((azt m s).2:Int)⟩:=by
 have h:qzD ⟨m,(s:Int)⟩=some ((),⟨(azt m s).1,((azt m s).2:Int)⟩):=by
  refine rzU (F:=lzH) (fun d:Dec=>d.S.toNat) (fun d:Dec=>0≤d.S∧d.S≤9∧I64 d.M) (fun d=>((),⟨(azt d.M d.S.toNat).1,((azt d.M d.S.toNat).2:Int)⟩)) ?_ _ ⟨by simp only;omega,by simp only;omega,hm⟩ (by simp only;omega);intro back d hp hb;obtain ⟨m,s⟩:=d;obtain ⟨h0,h9,hm⟩:=hp;simp only at h0 h9 hm hb;obtain ⟨s,rfl⟩:=Int.eq_ofNat_of_zero_le h0;unfold lzH;simp only [Int.toNat_natCast];cases s with
  | zero=>simp only [Int.ofNat_zero,Int.lt_irrefl,decide_false,azb,azt]
  | succ s =>
   rw [decide_eq_true (show (0:Int) < ((s+1:Nat):Int) by omega),azc];unfold azt;obtain ⟨t1,t2⟩:=tmod10 m;by_cases hz:m % 10=0
   ·rw [decide_eq_true (t1.2 hz),azc,if_pos hz,t2 hz];unfold I64 at hm;rw [azp (by omega) (by omega),azp (by omega) (by omega),show (((s+1:Nat):Int) - 1)=(s:Int) by omega];have:=hb ⟨m / 10,(s:Int)⟩ ⟨by simp only;omega,by simp only;omega,by unfold I64;simp only;omega⟩ (by simp only [Int.toNat_natCast];omega);simpa only [Int.toNat_natCast] using this
   ·rw [decide_eq_false (fun h=>hz (t1.1 h)),azb,if_neg hz]
 unfold jzp;rw [h];rfl
def dzG (n k:Nat):Nat:=if 10 ^ k≤2*(n % 10 ^ k) then n / 10 ^ k+1 else n / 10 ^ k
theorem lzf (k:Nat):((10 ^ k:Nat):Int)=(10:Int) ^ k:=by simp
theorem uzi (n k:Nat):(dzG n k:Int)=rdiv n (10 ^ k):=by
 unfold dzG rdiv;rw [← lzf];generalize 10 ^ k=T;by_cases h:T≤2*(n % T)
 ·rw [if_pos h,if_pos (by omega)];rfl
 ·rw [if_neg h,if_neg (by omega)];rfl
theorem Ez8 (M:Int) (k:Nat):sw (dzG M.natAbs k) (decide (M < 0))=rnd M (10 ^ k):=by
 rw [uzi];unfold sw rnd;by_cases hn:M < 0
 ·rw [decide_eq_true hn,cond_true,if_pos hn,show (M.natAbs:Int) = -M by omega]
 ·rw [decide_eq_false hn,cond_false,if_neg hn,show (M.natAbs:Int)=M by omega]
theorem NzG {n k:Nat} (_h:k < (digs n).length):(5≤n / 10 ^ k % 10)↔(10 ^ (k+1)≤2*(n % 10 ^ (k+1))):=by
 rw [Nat.mod_pow_succ,Nat.pow_succ];have hp:0 < 10 ^ k:=Nat.pow_pos (by omega);have hr:=Nat.mod_lt n hp;generalize n % 10 ^ k=r at *;generalize n / 10 ^ k % 10=d at *;generalize 10 ^ k=T at *;constructor
 ·intro h;have:=Nat.mul_le_mul_left T h;omega
 ·intro h;apply Classical.byContradiction;intro hn;have:=Nat.mul_le_mul_left T (show d≤4 by omega);omega
theorem MzK {n s k:Nat} {t:Int} {m:Bool} (hl:(digs n).length≤1000) (_hs:s≤100) (hk:k≤200) (hk1:1≤k) (ht:t=(s:Int) - (k:Int)):lzV (⟨m,digs n⟩,(s:Int),t)=some (⟨m&&!decide (dzG n k=0),digs (dzG n k)⟩,t):=by
 unfold lzV;simp only;rw [decide_eq_false (by omega),azb,azp (n:=(s:Int) - t) (by omega) (by omega),show (s:Int) - t=(k:Int) by omega];by_cases hgt:(digs n).length < k
 ·rw [decide_eq_true (by omega),azc];have h1:=bz8 (n:=n) (k:=k - 1) (by omega);have h2:10 ^ k=10 ^ (k - 1)*10:=by rw [← Nat.pow_succ];congr 1;omega
  have h3:dzG n k=0:=by
   unfold dzG;rw [Nat.mod_eq_of_lt (by omega),Nat.div_eq_of_lt (by omega),if_neg (by omega)]
  rw [h3,bzr];simp
 ·rw [decide_eq_false (by omega),azb,azp (n:=(k:Int) - 1) (by omega) (by omega),show (k:Int) - 1=((k - 1:Nat):Int) by omega,idxI (mze (k - 1) n (by omega)),aza,subS (by omega),aza,nz2];have hl2:(digs (n / 10 ^ k)).length≤1000:=by rw [← nz2];simp;omega
  rw [appS (by simp;omega),aza,List.nil_append,lzY (dzM _) (by omega),fzL,aza];have hh:=NzG (n:=n) (k:=k - 1) (by omega);rw [show k - 1+1=k by omega] at hh;simp only;by_cases h5:5≤n / 10 ^ (k - 1) % 10
  ·obtain ⟨R,r1,r2,r3,r4⟩:=KzD (D:=digs (n / 10 ^ k)) (E:=[1]) (dzM _) (fzO.2 ⟨by omega,ezR⟩) (by omega) (by simp);have hr:dzG n k=n / 10 ^ k+1:=by unfold dzG;rw [if_pos (hh.1 h5)]
   rw [decide_eq_true (by omega),azc,r1,aza,lzY r2 (by omega),aza,r3,fzL,hr];rfl
  ·have hr:dzG n k=n / 10 ^ k:=by unfold dzG;rw [if_neg (mt hh.2 h5)]
   rw [decide_eq_false (by omega),azb,hr]
def pzI (a:Dec) (t:Int):Dec×Int :=
 if t < -18∨9 < t then (⟨0,0⟩,1) else if a.S≤t then (a,0) else
  if 0≤t then decV (rnd a.M (10 ^ (a.S - t).toNat)) t.toNat else decV (rnd a.M (10 ^ (a.S - t).toNat)*10 ^ (-t).toNat) 0
theorem Fzk (n:Nat) (m:Bool):sw (n:Int) (m&&!decide (n=0))=sw (n:Int) m:=by
 by_cases h:n=0
 ·subst h;cases m<;>rfl
 ·simp [h]
theorem uzO (n p:Int) (m:Bool):sw (n*p) m=sw n m*p:=by
 cases m
 ·rfl
 ·simp only [sw,cond_true];rw [Int.neg_mul]
theorem MzH {a:Dec} {t:Int} (ha:I64 a.M) (oa:okD a):mzX (a,t)=some (pzI a t):=by
 obtain ⟨M,S⟩:=a;obtain ⟨h0,h9,hn⟩:=oa;simp only at h0 h9 hn ha;obtain ⟨s,rfl⟩:=Int.eq_ofNat_of_zero_le h0;have hI:=ha;unfold I64 at ha;have hlen:(digs M.natAbs).length≤19:=bzH 19 _ (by omega);unfold mzX pzI;simp only;by_cases c1:t < -18
 ·rw [decide_eq_true c1,azc,if_pos (.inl c1)]
 ·rw [decide_eq_false c1,azb];by_cases c2:9 < t
  ·rw [decide_eq_true c2,azc,if_pos (.inr c2)]
  ·rw [decide_eq_false c2,azb,if_neg (by omega),yzb hI,aza];by_cases c3:(s:Int)≤t
   ·rw [if_pos c3];have:lzV (⟨decide (M < 0),digs M.natAbs⟩,(s:Int),t)=some (⟨decide (M < 0),digs M.natAbs⟩,(s:Int)):=by
     unfold lzV;simp only;rw [decide_eq_true c3,azc]
    rw [this,aza];simp only;rw [decide_eq_false (by omega),azb,mzD (by omega) (by omega),aza,nz5];unfold decV;rw [Ozl s M (fun h=>hn (by omega)),if_pos hI]
   ·rw [if_neg c3];generalize hk:((s:Int) - t).toNat=k;rw [MzK (k:=k) (by omega) (by omega) (by omega) (by omega) (by omega),aza];simp only;have hrl:dzG M.natAbs k < 10 ^ 20:=by
     have:M.natAbs / 10 ^ k≤M.natAbs:=Nat.div_le_self _ _;unfold dzG;split<;>omega
    have hrl2:=bzH 20 _ hrl;by_cases c4:0≤t
    ·rw [if_pos c4,decide_eq_false (by omega),azb];have:=mzD (n:=dzG M.natAbs k) (p:=t.toNat) (m:=decide (M < 0)&&!decide (dzG M.natAbs k=0)) (by omega) (by omega);rw [show ((t.toNat:Nat):Int)=t by omega] at this;rw [this,aza,Fzk,Ez8]
    ·rw [if_neg c4,decide_eq_true (by omega),azc,azp (by omega) (by omega),show (0 - t)=(((-t).toNat:Nat):Int) by omega,szK (by omega) (by omega),aza];have hlen3:(digs (dzG M.natAbs k*10 ^ (-t).toNat)).length≤5000:=by
      refine Nat.le_trans (bzH 40 _ ?_) (by omega);have h1:10 ^ (-t).toNat≤10 ^ 18:=Nat.pow_le_pow_right (by omega) (by omega);exact Nat.lt_of_le_of_lt (Nat.mul_le_mul (Nat.le_of_lt hrl) h1) (by decide)
     have:=mzD (n:=dzG M.natAbs k*10 ^ (-t).toNat) (p:=0) (m:=decide (M < 0)&&!decide (dzG M.natAbs k=0)) hlen3 (by omega);rw [show (((0:Nat)):Int)=0 by rfl] at this;rw [this,aza];congr 2;rw [show ((dzG M.natAbs k*10 ^ (-t).toNat:Nat):Int)=(dzG M.natAbs k:Int)*10 ^ (-t).toNat by rw [← lzf];simp];rw [uzO,Fzk,Ez8]
theorem LzJ {a:Dec} {t:Int} (ha:I64 a.M) (oa:okD a):jzg (a,t)=some (pzI a t):=by
 have h0:=oa.1;have h9:=oa.2.1;unfold pzI;by_cases c1:t < -18
 ·unfold jzg;simp only;rw [decide_eq_true c1,azc,if_pos (.inl c1)]
 ·by_cases c2:9 < t
  ·unfold jzg;simp only;rw [decide_eq_false c1,azb,decide_eq_true c2,azc,if_pos (.inr c2)]
  ·rw [if_neg (by omega)];by_cases c4:0≤t
   ·obtain ⟨p,rfl⟩:=Int.eq_ofNat_of_zero_le c4;rw [Round_is ha h0 h9 (by omega),if_pos c4,Int.toNat_natCast];by_cases c3:a.S≤(p:Int)
    ·rw [if_pos c3,if_pos c3]
    ·rw [if_neg c3,if_neg c3,show (a.S - (p:Int)).toNat=a.S.toNat - p by omega]
   ·have hA:=ha;unfold I64 at ha;rw [if_neg (by omega),if_neg c4];unfold jzg;simp only;rw [decide_eq_false c1,azb,decide_eq_false c2,azb,decide_eq_false (by omega),azb,of_is hA,aza,azp (n:=a.S - t) (by omega) (by omega)];generalize hk:(a.S - t).toNat=k;by_cases c5:19 < a.S - t
    ·rw [decide_eq_true c5,azc];have h1:10 ^ 20≤10 ^ k:=Nat.pow_le_pow_right (by omega) (by omega);have h2:rnd a.M (10 ^ k)=0:=by
      rw [← Ez8];have:dzG a.M.natAbs k=0:=by
       unfold dzG;rw [Nat.mod_eq_of_lt (by omega),Nat.div_eq_of_lt (by omega),if_neg (by omega)]
      rw [this];unfold sw;cases decide (a.M < 0)<;>rfl
     rw [h2,Int.zero_mul];rfl
    ·have hw:=lze (show k≤19 by omega);have hw2:=lze (show (-t).toNat≤19 by omega);rw [decide_eq_false c5,azb,show a.S - t=(k:Int) by omega,pzz (by omega),aza];obtain ⟨h1,h2⟩:=uzC (v:=a.M.natAbs) (n:=10 ^ k) (m:=decide (a.M < 0)) (by omega) (by omega) (by omega) (by omega);have hle:10 ^ (-t).toNat≤10 ^ k:=Nat.pow_le_pow_right (by omega) (by omega);have hb:(rdiv (a.M.natAbs:Int) (10 ^ k))*10 ^ (-t).toNat≤9223372036854775808+10000000000000000000:=by
      rw [← uzi,← lzf,← Int.natCast_mul];have e1:dzG a.M.natAbs k≤a.M.natAbs / 10 ^ k+1:=by unfold dzG;split<;>omega
      have e2:=Nat.mul_le_mul e1 hle;have e3:=Nat.mul_le_mul e1 (Nat.le_refl (10 ^ (-t).toNat));have e4:a.M.natAbs / 10 ^ k*10 ^ (-t).toNat≤a.M.natAbs:=Nat.le_trans (Nat.mul_le_mul_left _ hle) (Nat.div_mul_le_self _ _);have e5:10 ^ (-t).toNat≤10 ^ 19:=Nat.pow_le_pow_right (by omega) (by omega);rw [Nat.add_mul,Nat.one_mul] at e3;generalize dzG a.M.natAbs k*10 ^ (-t).toNat=z at *;generalize a.M.natAbs / 10 ^ k*10 ^ (-t).toNat=y at *;generalize 10 ^ (-t).toNat=x at *;have:z≤9223372036854775808+10000000000000000000:=by omega
      omega
     have hb0:0≤(rdiv (a.M.natAbs:Int) (10 ^ k))*10 ^ (-t).toNat:=lzD h2.1 (by omega);have hwd:=tzA (v:=rdiv (a.M.natAbs:Int) (10 ^ k)*10 ^ (-t).toNat) (m:=decide (a.M < 0)) (p:=0) ⟨hb0,by omega⟩ (by omega);rw [show ((0:Nat):Int)=0 from rfl] at hwd;rw [h1,aza,decide_eq_true (by omega),azc,azp (by omega) (by omega),show (0 - t)=(((-t).toNat:Nat):Int) by omega,pzz (by omega),aza,Czv h2 (by omega) (by omega) ⟨hb0,by omega⟩,aza,
      hwd,aza,uzO,← uzi,Ez8]
theorem Lz4 {N s:Nat} {m:Bool} (hl:(digs N).length≤1000) (hs:s≤(digs N).length):nzc (⟨m,digs N⟩,(s:Int),false,0)=some (decide (N % 10 ^ s≠0)):=by
 obtain ⟨y,h1,h2⟩:=czQ (F:=gzW) (fun x=>s - x.2.2.2.toNat) (fun x=>x.1=⟨m,digs N⟩∧x.2.1=(s:Int)∧∃ i:Nat,i≤s∧x.2.2.2=(i:Int)∧x.2.2.1=decide (N % 10 ^ i≠0)) (fun y=>y=decide (N % 10 ^ s≠0)) (by
  rintro back ⟨b,s',r,i'⟩ ⟨rfl,e1,i,hi,e2,e3⟩ hb;simp only at e1 e2 e3;subst e1;subst e2;subst e3;unfold gzW;simp only at hb ⊢;by_cases hlt:i < s
  ·rw [decide_eq_true (by omega),azc,azp (n:=(i:Int)+1) (by omega) (by omega)];have hm:=Nat.mod_pow_succ (x:=N) (b:=10) (k:=i);have hp:0 < 10 ^ i:=Nat.pow_pos (by omega);by_cases hz:N % 10 ^ i=0
   ·rw [decide_eq_false (by simpa using hz),azb,idxI (mze i N (by omega)),aza];refine hb _ ⟨rfl,rfl,i+1,by omega,rfl,?_⟩ (by simp only;omega);simp only;rw [hm,hz,Nat.zero_add];by_cases hd:N / 10 ^ i % 10=0
    ·simp [hd]
    ·have:¬ 10 ^ i*(N / 10 ^ i % 10)=0:=Nat.mul_ne_zero (by omega) hd;have hd':¬ ((N / 10 ^ i % 10:Nat):Int)=0:=by omega
     rw [decide_eq_false hd',decide_eq_true this];rfl
   ·rw [decide_eq_true hz,azc];refine hb _ ⟨rfl,rfl,i+1,by omega,rfl,?_⟩ (by simp only;omega);simp only;rw [decide_eq_true (by omega)]
  ·have:i=s:=by omega
   subst this;rw [decide_eq_false (by omega),azb];exact ⟨_,rfl,rfl⟩) (⟨m,digs N⟩,(s:Int),false,0) ⟨rfl,rfl,0,by omega,rfl,by simp [Nat.mod_one]⟩ (by simp only;omega)
 subst h2;exact h1
theorem qzg {v:Int} (h:I64 v):decV v 0=(⟨v,0⟩,0):=by
 unfold decV azt;rw [if_pos h];rfl
theorem MzE {a:Dec} (ha:I64 a.M) (oa:okD a):hzL a=some (⟨a.M / 10 ^ a.S.toNat,0⟩,0):=by
 obtain ⟨M,S⟩:=a;obtain ⟨h0,h9,hn⟩:=oa;simp only at h0 h9 hn ha;obtain ⟨s,rfl⟩:=Int.eq_ofNat_of_zero_le h0;have hI:=ha;unfold I64 at ha;have hlen:(digs M.natAbs).length≤19:=bzH 19 _ (by omega);unfold hzL;simp only [Int.toNat_natCast];rw [yzb hI,aza];simp only;rw [← lzf];by_cases hle:(digs M.natAbs).length≤s
 ·have hlt:=bz8 hle;rw [decide_eq_true (by omega),azc];generalize 10 ^ s=T at *;by_cases hm:M < 0
  ·rw [decide_eq_true hm,azc];have:M / (T:Int) = -1:=by
    have h1:M = -(M.natAbs:Int):=by omega
    refine Int.le_antisymm ?_ ?_
    ·have:M / (T:Int) < 0:=Int.ediv_neg_of_neg_of_pos hm (by omega);omega
    ·refine (Int.le_ediv_iff_mul_le (by omega)).2 (by omega)
   rw [this]
  ·rw [decide_eq_false hm,azb,Int.ediv_eq_zero_of_lt (by omega) (by omega)]
 ·have hT:0 < 10 ^ s:=Nat.pow_pos (by omega);have hge:10 ^ s≤M.natAbs:=by
   apply Classical.byContradiction;intro hc;exact hle (bzH s _ (by omega))
  have hq0:M.natAbs / 10 ^ s≠0:=by
   have:=Nat.div_pos hge hT;omega
  have hql:(digs (M.natAbs / 10 ^ s)).length≤19:=by rw [← nz2];simp;omega
  rw [decide_eq_false (by omega),azb,Lz4 (by omega) (by omega),aza,subS (by omega),aza,nz2,appS (by simp;omega),aza,List.nil_append,lzY (dzM _) (by omega),fzL,aza];have hqle:M.natAbs / 10 ^ s≤M.natAbs:=Nat.div_le_self _ _;have hdm:=Nat.div_add_mod M.natAbs (10 ^ s);have hml:=Nat.mod_lt M.natAbs hT;have sm:∀ (v:Nat) (m:Bool),v≤9223372036854775809→bzv (⟨m,digs v⟩,0)=some (decV (sw v m) 0):=fun v m hv=>by
   have:=mzD (n:=v) (p:=0) (m:=m) (by have:=bzH 20 v (by omega);omega) (by omega);exact this
  by_cases hm:M < 0
  ·rw [decide_eq_true hm,azc,decide_eq_false hq0,show (true&&!false)=true from rfl];have e1:M = -(M.natAbs:Int):=by omega
   by_cases hr:M.natAbs % 10 ^ s=0
   ·have hv:M / ((10 ^ s:Nat):Int) = -((M.natAbs / 10 ^ s:Nat):Int):=by
     have:M = -((M.natAbs / 10 ^ s:Nat):Int)*((10 ^ s:Nat):Int):=by
      rw [Int.neg_mul,← Int.natCast_mul,Nat.mul_comm];omega
     conv=>lhs;rw [this]
     exact Int.mul_ediv_cancel _ (by omega)
    rw [decide_eq_false (by simpa using hr),azb,sm _ _ (by omega),aza,hv];simp only [sw,cond_true];rw [qzg (by unfold I64;generalize M.natAbs / 10 ^ s=q at *;omega)]
   ·obtain ⟨R,r1,r2,r3,r4⟩:=KzD (D:=digs (M.natAbs / 10 ^ s)) (E:=[1]) (dzM _) (fzO.2 ⟨by omega,ezR⟩) (by omega) (by simp);have hadd:czr (⟨true,digs (M.natAbs / 10 ^ s)⟩,⟨true,[1]⟩)=some ⟨true,digs (M.natAbs / 10 ^ s+1)⟩:=by
     unfold czr;simp only [decide_true,azc];rw [r1,aza,lzY r2 (by omega),aza,r3,fzL];have:vd [1]=1:=rfl;rw [this,decide_eq_false (Nat.succ_ne_zero _)];rfl
    have hv:M / ((10 ^ s:Nat):Int) = -((M.natAbs / 10 ^ s+1:Nat):Int):=by
     generalize 10 ^ s=T at *;generalize M.natAbs / T=q at *;generalize M.natAbs % T=r at *;have e2:(M.natAbs:Int)=(T:Int)*(q:Int)+(r:Int):=by rw [← Int.natCast_mul];omega
     have e3:M=((T:Int) - (r:Int))+(-((q+1:Nat):Int))*(T:Int):=by
      rw [e1,e2,Int.neg_mul,Int.natCast_add,Int.add_mul,Int.mul_comm (q:Int)];simp;omega
     conv=>lhs;rw [e3]
     rw [Int.add_mul_ediv_right _ _ (by omega),Int.ediv_eq_zero_of_lt (by omega) (by omega),Int.zero_add]
    have hlim:M.natAbs / 10 ^ s+1≤9223372036854775808:=by
     by_cases hs0:s=0
     ·subst hs0;rw [Nat.pow_zero,Nat.mod_one] at hr;exact absurd rfl hr
     ·have:10 ^ 1≤10 ^ s:=Nat.pow_le_pow_right (by omega) (by omega);have:=Nat.div_le_div_left this (by omega) (a:=M.natAbs);omega
    rw [decide_eq_true hr,azc,hadd,aza,sm _ _ (by omega),aza,hv];simp only [sw,cond_true];rw [qzg (by unfold I64;generalize M.natAbs / 10 ^ s=q at *;omega)]
  ·have hv:M / ((10 ^ s:Nat):Int)=((M.natAbs / 10 ^ s:Nat):Int):=by
    have:M=(M.natAbs:Int):=by omega
    conv=>lhs;rw [this]
    rfl
   rw [decide_eq_false hm,azb,Bool.false_and,sm _ _ (by omega),aza,hv];simp only [sw,cond_false];rw [qzg (by unfold I64;generalize M.natAbs / 10 ^ s=q at *;omega)]
theorem yze {n j:Nat} (h:j < (digs n).length):10 ^ j≤n:=by
 apply Classical.byContradiction;intro hn;have:=bzH j n (by omega);omega
theorem digs_of {R:List Int} (hd:bzB R) (hl:R.length≤(digs (vd R)).length):R=digs (vd R):=by
 have h1:=uzE hd;have h2:=uzF R;rw [h1] at h2;rw [List.take_of_length_le hl] at h2;exact h2.symm
theorem wzW {n m:Nat} (hl:(digs n).length≤4000) (hl2:(digs m).length≤4000):gz5 (digs n,digs m)=some (digs (n+m)):=by
 have hD:=dzM n;have hE:=dzM m;have key:∃ R,nzB (digs n,digs m,[],0,0)=some R∧(R=digs (n+m)):=by
  refine czQ (F:=gzN) (fun x=>4002 - x.2.2.2.2.toNat) (fun x=>x.1=digs n∧x.2.1=digs m∧∃ (c:Int) (k:Nat),x.2.2.2.1=c∧x.2.2.2.2=(k:Int)∧0≤c∧c≤1∧bzB x.2.2.1∧x.2.2.1.length=k∧k≤4001∧(4000 < k→c=0)∧(∀ j,j < k→10 ^ j≤n+m) ∧
   vd x.2.2.1+10 ^ k*(c.toNat+vd ((digs n).drop k)+vd ((digs m).drop k))=n+m) _ ?_ _ ⟨rfl,rfl,0,0,rfl,rfl,by omega,by omega,ezR,rfl,by omega,by omega,by omega,by simp [vd,fzL]⟩ (by simp only;omega)
  rintro back ⟨D',E',out,c,i⟩ ⟨e1,e2,c',k,e3,e4,c0,c1,ho,hk,hk2,hk3,hp,hv⟩ hb;simp only at e1 e2 e3 e4 ho hk hv;subst e1;subst e2;subst e3;subst e4;unfold gzN;simp only at hb ⊢;rw [Dz3 hD hE ⟨c0,c1⟩ (by omega) (by omega) (by omega) (by omega),aza];simp only;rw [azp (n:=(k:Int)+1) (by omega) (by omega)];have hd:=nz1 hD k;have he:=nz1 hE k;by_cases hgo:k < (digs n).length∨k < (digs m).length∨0 < c
  ·have step:∃ y,back (digs n,digs m,out++[(c+at0 (digs n) k+at0 (digs m) k) % 10],(c+at0 (digs n) k+at0 (digs m) k) / 10,(k:Int)+1)=some y∧(y=digs (n+m)):=by
    have hk4:k≤4000:=by
     rcases hgo with h | h | h
     ·omega
     ·omega
     ·apply Classical.byContradiction;intro hn;have:=hk3 (by omega);omega
    refine hb _ ⟨rfl,rfl,(c+at0 (digs n) k+at0 (digs m) k) / 10,k+1,rfl,by simp,by omega,by omega,?_,by simp [hk],by omega,fun h4=>?_,fun j hj=>?_,?_⟩ (by simp only;omega)
    ·exact kzs.2 ⟨ho,fzO.2 ⟨by omega,ezR⟩⟩
    ·have h1:at0 (digs n) k=0:=by unfold at0;rw [List.getElem?_eq_none (by omega)];rfl
     have h2:at0 (digs m) k=0:=by unfold at0;rw [List.getElem?_eq_none (by omega)];rfl
     omega
    ·rcases Nat.lt_or_ge j k with h | h
     ·exact hp j h
     ·have:j=k:=by omega
      subst this;rcases hgo with h | h | h
      ·have:=yze h;omega
      ·have:=yze h;omega
      ·have:10 ^ j*1≤10 ^ j*(c.toNat+vd ((digs n).drop j)+vd ((digs m).drop j)):=Nat.mul_le_mul_left _ (by omega);omega
    ·rw [← hv,qzp,hk,pzR (D:=digs n) k,pzR (D:=digs m) k,Nat.pow_succ];simp only [vd];generalize vd ((digs n).drop (k+1))=X;generalize vd ((digs m).drop (k+1))=Y;generalize 10 ^ k=T;generalize hx:at0 (digs n) k=a at *;generalize hy:at0 (digs m) k=b at *;have q1:((c+a+b) % 10).toNat+10*0=(c.toNat+a.toNat+b.toNat) % 10:=by omega
     have q2:((c+a+b) / 10).toNat=(c.toNat+a.toNat+b.toNat) / 10:=by omega
     rw [q1,q2];generalize c.toNat=cc;generalize a.toNat=aa;generalize b.toNat=bb;have q3:cc+(aa+10*X)+(bb+10*Y)=(cc+aa+bb) % 10+10*((cc+aa+bb) / 10+X+Y):=by omega
     rw [q3,Nat.mul_add T,Nat.mul_assoc T 10];omega
   by_cases g1:k < (digs n).length
   ·rw [decide_eq_true (by omega),azc];exact step
   ·rw [decide_eq_false (by omega),azb];by_cases g2:k < (digs m).length
    ·rw [decide_eq_true (by omega),azc];exact step
    ·rw [decide_eq_false (by omega),azb,decide_eq_true (by omega),azc];exact step
  ·have g1:¬ k < (digs n).length:=fun h=>hgo (.inl h)
   have g2:¬ k < (digs m).length:=fun h=>hgo (.inr (.inl h))
   have g3:¬ 0 < c:=fun h=>hgo (.inr (.inr h))
   rw [decide_eq_false (by omega),azb,decide_eq_false (by omega),azb,decide_eq_false g3,azb];refine ⟨_,rfl,?_⟩;rw [List.drop_eq_nil_of_le (by omega),List.drop_eq_nil_of_le (by omega)] at hv;have:c=0:=by omega
   subst this;have hv2:vd out=n+m:=by simpa [vd] using hv
   rw [← hv2];refine digs_of ho ?_;rw [hv2];apply Classical.byContradiction;intro hn;have h1:=bz8 (n:=n+m) (k:=(digs (n+m)).length) (Nat.le_refl _);have h2:=hp (digs (n+m)).length (by omega);omega
 obtain ⟨R,h1,h2⟩:=key;unfold gz5;rw [h1,h2];rfl
theorem Bzx {a b:Nat} (hl:(digs a).length≤5000) (hl2:(digs b).length≤5000):mz1 (digs a,digs b)=some (decide (a < b)):=by
 unfold mz1;simp only;by_cases hlen:(digs a).length=(digs b).length
 ·rw [decide_eq_true (by omega),Bool.not_true,azb,azp (by omega) (by omega)];obtain ⟨y,h1,h2⟩:=czQ (F:=lzI) (fun x=>(x.2.2+1).toNat) (fun x=>x.1=digs a∧x.2.1=digs b∧∃ k:Nat,k≤(digs a).length∧x.2.2=(k:Int) - 1∧a / 10 ^ k=b / 10 ^ k) (fun y=>osum y (fun _=>some false) (fun y=>some y)=some (decide (a < b))) (by
   rintro back ⟨D,E,i⟩ ⟨rfl,rfl,k,hk,e1,e2⟩ hb;simp only at e1;subst e1;unfold lzI;simp only at hb ⊢;cases k with
   | zero =>
    simp only [Nat.pow_zero,Nat.div_one] at e2;subst e2;exact ⟨Sum.inl PUnit.unit,by simp,by simp [osum]⟩
   | succ k =>
    rw [decide_eq_true (by omega),azc,show (((k+1:Nat):Int) - 1)=(k:Int) by omega,idxI (mze k a (by omega)),aza,idxI (mze k b (by omega)),aza];have ea:a / 10 ^ k=a / 10 ^ k % 10+10*(a / 10 ^ (k+1)):=by rw [Nat.pow_succ,← Nat.div_div_eq_div_mul];omega
    have eb:b / 10 ^ k=b / 10 ^ k % 10+10*(b / 10 ^ (k+1)):=by rw [Nat.pow_succ,← Nat.div_div_eq_div_mul];omega
    by_cases hd:a / 10 ^ k % 10=b / 10 ^ k % 10
    ·rw [decide_eq_true (by omega),Bool.not_true,azb,azp (by omega) (by omega)];exact hb _ ⟨rfl,rfl,k,by omega,rfl,by omega⟩ (by simp only;omega)
    ·rw [decide_eq_false (by omega),Bool.not_false,azc,aza,aza];refine ⟨_,rfl,?_⟩;simp only [osum];congr 1;rw [decide_eq_decide];have hab:a / 10 ^ k < b / 10 ^ k↔a / 10 ^ k % 10 < b / 10 ^ k % 10:=by omega
     have hne:a / 10 ^ k≠b / 10 ^ k:=by omega
     constructor
     ·intro h;have:=hab.2 (by omega);exact Nat.lt_of_not_le fun hle=>by have:=Nat.div_le_div_right (c:=10 ^ k) hle;omega
     ·intro h;have:=Nat.div_le_div_right (c:=10 ^ k) (Nat.le_of_lt h);have:=hab.1 (by omega);omega) (digs a,digs b,((digs a).length:Int) - 1) ⟨rfl,rfl,(digs a).length,Nat.le_refl _,rfl,by
       have h1:=bz8 (n:=a) (Nat.le_refl _);have h2:=bz8 (n:=b) (k:=(digs a).length) (by omega);rw [Nat.div_eq_of_lt h1,Nat.div_eq_of_lt h2]⟩ (by simp only;omega)
  have h3:qzE (digs a,digs b,((digs a).length:Int) - 1)=some y:=h1;rw [h3,aza];exact h2
 ·rw [decide_eq_false (by omega),Bool.not_false,azc];congr 1;rw [decide_eq_decide];constructor
  ·intro h;have h1:=bz8 (n:=a) (Nat.le_refl _);have h2:=yze (n:=b) (j:=(digs a).length) (by omega);omega
  ·intro h;apply Classical.byContradiction;intro hn;have h1:=bz8 (n:=b) (Nat.le_refl _);have h2:=yze (n:=a) (j:=(digs b).length) (by omega);omega
theorem minus_is {D E:List Int} (hD:bzB D) (hE:bzB E) (hl:D.length≤4000) (hl2:E.length≤D.length) (hle:vd E≤vd D):∃ R,jzU (D,E)=some R∧bzB R∧vd R=vd D - vd E∧R.length≤4000:=by
 have key:∃ R,pzE (D,E,[],0,0)=some R∧(bzB R∧vd R=vd D - vd E∧R.length≤4000):=by
  refine czQ (F:=kzI) (fun x=>4002 - x.2.2.2.2.toNat) (fun x=>x.1=D∧x.2.1=E∧∃ (c k:Nat),x.2.2.2.1=(c:Int)∧x.2.2.2.2=(k:Int)∧c≤1∧bzB x.2.2.1∧x.2.2.1.length=k∧k≤D.length ∧
   vd D+10 ^ k*(c+vd (E.drop k))=vd x.2.2.1+vd E+10 ^ k*vd (D.drop k)) _ ?_ _ ⟨rfl,rfl,0,0,rfl,rfl,by omega,ezR,rfl,by omega,by simp [vd];omega⟩ (by simp only;omega)
  rintro back ⟨D',E',out,cc,i⟩ ⟨e1,e2,c,k,e3,e4,c1,ho,hk,hk2,hv⟩ hb;simp only at e1 e2 e3 e4 ho hk hv;subst e1;subst e2;subst e3;subst e4;unfold kzI;simp only at hb ⊢;rcases Nat.lt_or_ge k D'.length with hlt | hge
  ·have hd:=nz1 hD k;have he:=nz1 hE k;have g1:D'[k]? = some (at0 D' k):=by unfold at0;rw [List.getElem?_eq_getElem hlt];rfl
   rw [decide_eq_true (by omega),azc,idxI g1,aza];have fin:∀ (x:Int) (c':Nat),0≤x→x≤9→c'≤1→at0 D' k - c - at0 E' k+10*c' = x→∃ y,back (D',E',out++[x],(c':Int),IntKind.i64.wrap ((k:Int)+1))=some y∧(bzB y∧vd y=vd D' - vd E'∧y.length≤4000):=fun x c' x0 x9 hc' hx=>by
    rw [azp (by omega) (by omega)];refine hb _ ⟨rfl,rfl,c',k+1,rfl,by simp,hc',kzs.2 ⟨ho,fzO.2 ⟨⟨x0,x9⟩,ezR⟩⟩,by simp [hk],by omega,?_⟩ (by simp only;omega);simp only;rw [pzR (D:=D') k,pzR (D:=E') k] at hv;rw [qzp,hk,Nat.pow_succ];simp only [vd];generalize vd (D'.drop (k+1))=X at *;generalize vd (E'.drop (k+1))=Y at *;generalize 10 ^ k=T at *;generalize hp:at0 D' k=a at *;generalize hq:at0 E' k=b at *;have q:x.toNat+c+b.toNat=a.toNat+10*c':=by omega
    rw [Nat.mul_add,Nat.mul_add] at hv;rw [Nat.mul_add];have z1:T*(x.toNat+c+b.toNat)=T*(a.toNat+10*c'):=by rw [q]
    simp only [Nat.mul_add,Nat.mul_assoc] at *;omega
   rcases Nat.lt_or_ge k E'.length with h2 | h2
   ·have g2:E'[k]? = some (at0 E' k):=by unfold at0;rw [List.getElem?_eq_getElem h2];rfl
    rw [decide_eq_true (by omega),azc,idxI g2,aza,azp (n:=at0 D' k - (c:Int)) (by omega) (by omega),azp (n:=at0 D' k - (c:Int) - at0 E' k) (by omega) (by omega)];by_cases hneg:at0 D' k - (c:Int) - at0 E' k < 0
    ·rw [decide_eq_true hneg,azc,azp (by omega) (by omega),appS (by simp;omega),aza];exact fin _ 1 (by omega) (by omega) (by omega) (by omega)
    ·rw [decide_eq_false hneg,azb,appS (by simp;omega),aza];exact fin _ 0 (by omega) (by omega) (by omega) (by omega)
   ·have g2:at0 E' k=0:=by unfold at0;rw [List.getElem?_eq_none h2];rfl
    rw [decide_eq_false (by omega),azb,azp (n:=at0 D' k - (c:Int)) (by omega) (by omega)];by_cases hneg:at0 D' k - (c:Int) < 0
    ·rw [decide_eq_true hneg,azc,azp (by omega) (by omega),appS (by simp;omega),aza];exact fin _ 1 (by omega) (by omega) (by omega) (by omega)
    ·rw [decide_eq_false hneg,azb,appS (by simp;omega),aza];exact fin _ 0 (by omega) (by omega) (by omega) (by omega)
  ·rw [decide_eq_false (by omega),azb];refine ⟨_,rfl,ho,?_,by omega⟩;rw [List.drop_eq_nil_of_le (by omega),List.drop_eq_nil_of_le (by omega)] at hv;have hlt:=vd_lt ho;rw [hk] at hlt;simp only [vd,Nat.mul_zero,Nat.add_zero] at hv;rcases Nat.lt_or_ge 0 c with h0 | h0
   ·have:c=1:=by omega
    subst this;rw [Nat.mul_one] at hv;omega
   ·have:c=0:=by omega
    subst this;rw [Nat.mul_zero] at hv;omega
 obtain ⟨R,h1,h2⟩:=key;refine ⟨R,?_,h2⟩;unfold jzU;rw [h1];rfl
theorem gzu {a b:Nat} (h:a≤b):(digs a).length≤(digs b).length:=by
 have:=bz8 (n:=b) (Nat.le_refl _);exact bzH _ _ (by omega)
theorem uzb {a b:Nat} {m:Bool} (hl:(digs a).length≤4000) (hle:b≤a):∃ R,jzU (digs a,digs b)=some R∧bzG ⟨m,R⟩=some ⟨m&&!decide (a - b=0),digs (a - b)⟩:=by
 obtain ⟨R,h1,h2,h3,h4⟩:=minus_is (dzM a) (dzM b) hl (gzu hle) (by rw [fzL,fzL];exact hle);rw [fzL,fzL] at h3;refine ⟨R,h1,?_⟩;rw [lzY h2 (by omega),h3]
theorem ozi {a b k:Nat} (h:(digs a).length≤k) (h2:(digs b).length≤k):(digs (a+b)).length≤k+1:=by
 have h1:=bz8 h;have h2:=bz8 h2;refine bzH _ _ ?_;rw [Nat.pow_succ];omega
theorem add_is {a b:Nat} {m m':Bool} (hl:(digs a).length≤1000) (hl2:(digs b).length≤1000) :
 ∃ m'',czr (⟨m,digs a⟩,⟨m',digs b⟩)=some ⟨m'',digs (sw a m+sw b m').natAbs⟩∧sw (sw (a:Int) m+sw b m').natAbs m'' = sw a m+sw b m':=by
 unfold czr;simp only;by_cases hm:m=m'
 ·subst hm;rw [decide_eq_true rfl,azc,wzW (by omega) (by omega),aza,lzY (dzM _) (by
   have:=ozi hl hl2;omega),aza,fzL]
  refine ⟨m&&!decide (a+b=0),?_,?_⟩
  ·congr 3;cases m<;>simp [sw]<;>omega
  ·cases m<;>simp [sw]
   ·omega
   ·by_cases ha:a=0<;>by_cases hb:b=0<;>simp [ha,hb]<;>omega
 ·rw [decide_eq_false hm,azb,Bzx (by omega) (by omega),aza];by_cases hlt:a < b
  ·rw [decide_eq_true hlt,azc];obtain ⟨R,h1,h2⟩:=uzb (m:=m') (a:=b) (b:=a) (by omega) (by omega);rw [h1,aza,h2,aza];refine ⟨m'&&!decide (b - a=0),?_,?_⟩
   ·congr 3;cases m<;>cases m'<;>simp [sw] at hm ⊢<;>omega
   ·cases m<;>cases m'<;>simp [sw] at hm ⊢
    ·rw [decide_eq_false (by omega)];simp;omega
    ·omega
  ·rw [decide_eq_false hlt,azb];obtain ⟨R,h1,h2⟩:=uzb (m:=m) (a:=a) (b:=b) (by omega) (by omega);rw [h1,aza,h2,aza];refine ⟨m&&!decide (a - b=0),?_,?_⟩
   ·congr 3;cases m<;>cases m'<;>simp [sw] at hm ⊢<;>omega
   ·cases m<;>cases m'<;>simp [sw] at hm ⊢
    ·omega
    ·by_cases h:a - b=0
     ·rw [decide_eq_true h];simp;omega
     ·rw [decide_eq_false h];simp;omega
theorem Nz2 {b r:Nat} (hb0:0 < b) (hlb:(digs b).length≤1000) (hlr:(digs r).length≤1001) (hr:r < 10*b):qzH (digs b,digs r,0)=some (digs (r % b),((r / b:Nat):Int)):=by
 obtain ⟨y,h1,h2⟩:=czQ (F:=lzK) (fun x=>20 - x.2.2.toNat) (fun x=>∃ s n:Nat,x=(digs b,digs s,(n:Int))∧s+n*b=r) (fun y=>y=(digs (r % b),((r / b:Nat):Int))) (by
  rintro back x ⟨s,n,rfl,hs⟩ hb;unfold lzK;simp only at hb ⊢;have hsr:s≤r:=by omega
  have hls:=gzu hsr;have hn:n≤9:=by
   apply Classical.byContradiction;intro hn;have:10*b≤n*b:=Nat.mul_le_mul_right b (by omega);omega
  rw [Bzx (by omega) (by omega),aza];by_cases hlt:s < b
  ·rw [decide_eq_true hlt,Bool.not_true,azb];refine ⟨_,rfl,?_⟩;have e1:r / b=n:=by
    rw [← hs,Nat.add_mul_div_right _ _ hb0,Nat.div_eq_of_lt hlt];omega
   have e2:r % b=s:=by
    rw [← hs,Nat.add_mul_mod_self_right,Nat.mod_eq_of_lt hlt]
   rw [e1,e2]
  ·rw [decide_eq_false hlt,Bool.not_false,azc];obtain ⟨R,h1,h2⟩:=uzb (m:=false) (a:=s) (b:=b) (by omega) (by omega);have hn9:n≤8:=by
    apply Classical.byContradiction;intro hn;have:9*b≤n*b:=Nat.mul_le_mul_right b (by omega);omega
   rw [h1,aza,h2,aza,azp (by omega) (by omega)];refine hb _ ⟨s - b,n+1,rfl,?_⟩ (by simp only;omega);rw [Nat.add_mul];omega) (digs b,digs r,0) ⟨r,0,rfl,by omega⟩ (by simp only;omega)
 subst h2;exact h1
theorem Hz9 {r d k:Nat} (h:(digs r).length≤k) (hd:d≤9):(digs (d+10*r)).length≤k+1:=by
 have h1:=bz8 h;refine bzH _ _ ?_;rw [Nat.pow_succ];omega
theorem overD_is {a b:Nat} (hb0:0 < b) (hla:(digs a).length≤1000) (hlb:(digs b).length≤1000):rzh (digs a,digs b)=some (digs (a / b),decide (b≤2*(a % b)),decide (a % b≠0)):=by
 have hA:=dzM a;unfold rzh;simp only;rw [azp (by omega) (by omega)];have key:∃ y,qzG (digs a,digs b,[],[],((digs a).length:Int) - 1)=some y∧(∃ q,y=(q,digs (a % b))∧bzB q∧q.length≤1000∧vd q=a / b):=by
  refine czQ (F:=lzJ) (fun x=>(x.2.2.2.2+1).toNat) (fun x=>∃ (q:List Int) (r k:Nat),x=(digs a,digs b,q,digs r,(k:Int) - 1)∧bzB q∧k≤(digs a).length∧q.length+k=(digs a).length∧r < b∧vd ((digs a).drop k)=vd q*b+r) _ ?_ _ ⟨[],0,(digs a).length,by rw [bzr],ezR,by omega,by simp,hb0,by simp [vd]⟩ (by simp only;omega);rintro back x ⟨q,r,k,rfl,hq,hk,hlq,hr,hv⟩ hb;unfold lzJ;simp only at hb ⊢;cases k with
  | zero =>
   rw [decide_eq_false (by omega),azb];simp only [List.drop_zero,fzL] at hv;refine ⟨_,rfl,q,?_,hq,by omega,?_⟩
   ·rw [hv,Nat.add_comm,Nat.add_mul_mod_self_right,Nat.mod_eq_of_lt hr]
   ·rw [hv,Nat.add_comm,Nat.add_mul_div_right _ _ hb0,Nat.div_eq_of_lt hr];omega
  | succ k =>
   have hrl:(digs r).length≤(digs b).length:=gzu (by omega);rw [decide_eq_true (by omega),azc,show (((k+1:Nat):Int) - 1)=(k:Int) by omega,idxI (mze k a (by omega)),aza,appS (by simp;omega),aza];have hd:bzB ([((a / 10 ^ k % 10:Nat):Int)]++digs r):=kzs.2 ⟨fzO.2 ⟨by omega,ezR⟩,dzM r⟩;have hvd:vd ([((a / 10 ^ k % 10:Nat):Int)]++digs r)=a / 10 ^ k % 10+10*r:=by
    simp only [List.singleton_append,vd,fzL,Int.toNat_natCast]
   rw [lzY hd (by simp;omega),aza,hvd];simp only;have hlen:(digs (a / 10 ^ k % 10+10*r)).length≤1001:=Hz9 (by omega) (by omega);have hr10:a / 10 ^ k % 10+10*r < 10*b:=by omega
   rw [Nz2 hb0 hlb hlen hr10,aza];simp only;have hq9:(a / 10 ^ k % 10+10*r) / b≤9:=by
    have:=(Nat.div_lt_iff_lt_mul hb0).2 hr10;omega
   rw [appS (by simp;omega),aza,azp (by omega) (by omega)];refine hb _ ⟨_,(a / 10 ^ k % 10+10*r) % b,k,rfl,kzs.2 ⟨fzO.2 ⟨⟨Int.natCast_nonneg _,by exact_mod_cast hq9⟩,ezR⟩,hq⟩,by omega,by simp;omega,Nat.mod_lt _ hb0,?_⟩ (by simp only;omega);have ea:at0 (digs a) k=((a / 10 ^ k % 10:Nat):Int):=by unfold at0;rw [mze k a (by omega)];rfl
   rw [pzR,ea,hv];simp only [List.singleton_append,vd,Int.toNat_natCast];generalize a / 10 ^ k % 10=d at *;have hdm:=Nat.div_add_mod (d+10*r) b;rw [Nat.add_mul,Nat.mul_assoc 10,Nat.mul_comm ((d+10*r) / b) b];omega
 obtain ⟨y,h1,q,rfl,h2,h3,h4⟩:=key;have hmb:a % b < b:=Nat.mod_lt _ hb0;have hml:(digs (a % b)).length≤1000:=Nat.le_trans (gzu (by omega)) hlb;have hml2:=ozi hml hml;rw [h1,aza];simp only;rw [lzY h2 (by omega),aza,wzW (by omega) (by omega),aza,Bzx (by omega) (by omega),aza,h4];simp only;congr 3
 ·rw [← decide_not,decide_eq_decide];omega
 ·rw [decide_eq_decide];have:=nzE (n:=a % b);omega
theorem Azs (v:Int) (p:Nat):∀ k,azt (v*10 ^ k) (p+k)=azt v p
 | 0=>by simp
 | k+1=>by
  have e:v*10 ^ (k+1)=v*10 ^ k*10:=by rw [Int.pow_succ,Int.mul_assoc]
  rw [e,← Nat.add_assoc]
  conv=>lhs;unfold azt
  rw [if_pos (Int.mul_emod_left _ _),Int.mul_ediv_cancel _ (by omega)];exact Azs v p k
theorem CzR (v:Int) (p k:Nat):decV (v*10 ^ k) (p+k)=decV v p:=by
 unfold decV;rw [Azs]
theorem Vx {M:Int} {s p:Nat} (hs:s≤p) (hp:p≤9):V ⟨M,(s:Int)⟩=M*10 ^ (p - s)*10 ^ (9 - p):=by
 show M*10 ^ (9 - (s:Int).toNat)=_
 rw [Int.toNat_natCast,Int.mul_assoc,← Int.pow_add,show p - s+(9 - p)=9 - s by omega]
theorem yzv (M:Int) (k:Nat):sw ((M.natAbs*10 ^ k:Nat):Int) (decide (M < 0))=M*10 ^ k:=by
 have e:((M.natAbs*10 ^ k:Nat):Int)=(M.natAbs:Int)*10 ^ k:=by rw [Int.natCast_mul,lzf]
 rw [e,uzO,nz5]
theorem tz9 {M:Int} (h:I64 M):(digs M.natAbs).length≤19:=bzH 19 _ (by unfold I64 at h;omega)
theorem szU {n j:Nat} (k:Nat) (h:(digs n).length≤j):(digs (n*10 ^ k)).length≤j+k:=by
 have h1:=bz8 h;refine bzH _ _ ?_;rw [Nat.pow_add];exact Nat.mul_lt_mul_of_pos_right h1 (Nat.pow_pos (by omega))
theorem tzI {M N:Int} {s t:Nat} (hM:I64 M) (hN:I64 N) (hs:s≤9) (ht:t≤9):jzT (⟨M,(s:Int)⟩,⟨N,(t:Int)⟩) =
 some (⟨decide (M < 0),digs (M.natAbs*10 ^ (max s t - s))⟩,⟨decide (N < 0),digs (N.natAbs*10 ^ (max s t - t))⟩,((max s t:Nat):Int)):=by
 have l1:=tz9 hM;have l2:=tz9 hN;unfold jzT;simp only;rw [yzb hM,aza,yzb hN,aza];by_cases h:s < t
 ·rw [decide_eq_true (by omega),azc,azp (by omega) (by omega),show (t:Int) - (s:Int)=((t - s:Nat):Int) by omega,szK (by omega) (by omega),aza,show max s t=t by omega,Nat.sub_self,Nat.pow_zero,Nat.mul_one]
 ·rw [decide_eq_false (by omega),azb,azp (by omega) (by omega),show (s:Int) - (t:Int)=((s - t:Nat):Int) by omega,szK (by omega) (by omega),aza,show max s t=s by omega,Nat.sub_self,Nat.pow_zero,Nat.mul_one]
theorem diff_is {a b:Nat} {m m':Bool} (hl:(digs a).length≤1000) (hl2:(digs b).length≤1000) :
 ∃ m'',(brn (!m') (obnd (czr (⟨m,digs a⟩,{ Minus:=decide (0 < ((digs b).length:Int)),D:=digs b })) fun y=>some y) (obnd (czr (⟨m,digs a⟩,{ Minus:=false,D:=digs b })) fun y=>some y))=some (⟨m'',digs (sw a m - sw b m').natAbs⟩:Big)∧sw (sw (a:Int) m - sw b m').natAbs m'' = sw a m - sw b m':=by
 cases m'
 ·obtain ⟨m'',h1,h2⟩:=add_is (a:=a) (b:=b) (m:=m) (m':=decide (0 < ((digs b).length:Int))) hl hl2;have e:sw (b:Int) (decide (0 < ((digs b).length:Int))) = - sw (b:Int) false:=by
   by_cases hb:b=0
   ·subst hb;rw [bzr];rfl
   ·have:=mt nzE.1 hb;rw [decide_eq_true (by omega)];rfl
  rw [e,← Int.sub_eq_add_neg] at h1 h2;exact ⟨m'',by rw [Bool.not_false,azc,h1];rfl,h2⟩
 ·obtain ⟨m'',h1,h2⟩:=add_is (a:=a) (b:=b) (m:=m) (m':=false) hl hl2;have e:sw (b:Int) false = - sw (b:Int) true:=by simp [sw]
  rw [e,← Int.sub_eq_add_neg] at h1 h2;exact ⟨m'',by rw [Bool.not_true,azb,h1];rfl,h2⟩
section
variable {M N:Int} {s t:Nat} (hM:I64 M) (hN:I64 N) (hs:s≤9) (ht:t≤9)
include hM hN hs ht
theorem x_len:(digs (M.natAbs*10 ^ (max s t - s))).length≤28∧(digs (N.natAbs*10 ^ (max s t - t))).length≤28:=by
 have h1:=szU (max s t - s) (tz9 hM);have h2:=szU (max s t - t) (tz9 hN);omega
theorem sum_len (v:Int) (hv:v=M*10 ^ (max s t - s)+N*10 ^ (max s t - t)∨v=M*10 ^ (max s t - s) - N*10 ^ (max s t - t)):(digs v.natAbs).length≤29:=by
 obtain ⟨h1,h2⟩:=x_len hM hN hs ht;have h3:=ozi h1 h2;refine Nat.le_trans (gzu ?_) h3;have e1:(M*10 ^ (max s t - s)).natAbs=M.natAbs*10 ^ (max s t - s):=by rw [Int.natAbs_mul,Int.natAbs_pow];rfl
 have e2:(N*10 ^ (max s t - t)).natAbs=N.natAbs*10 ^ (max s t - t):=by rw [Int.natAbs_mul,Int.natAbs_pow];rfl
 rw [← e1,← e2];omega
theorem refAdd_is:mzy (⟨M,(s:Int)⟩,⟨N,(t:Int)⟩)=some (decV (V ⟨M,(s:Int)⟩+V ⟨N,(t:Int)⟩) 9):=by
 obtain ⟨h1,h2⟩:=x_len hM hN hs ht;unfold mzy;rw [tzI hM hN hs ht,aza];simp only;obtain ⟨m'',h3,h4⟩:=add_is (m:=decide (M < 0)) (m':=decide (N < 0)) (show (digs (M.natAbs*10 ^ (max s t - s))).length≤1000 by omega) (show (digs (N.natAbs*10 ^ (max s t - t))).length≤1000 by omega);rw [yzv,yzv] at h3 h4;have h5:=sum_len hM hN hs ht _ (.inl rfl);rw [h3,aza,mzD (by omega) (by omega),h4,aza,Vx (p:=max s t) (by omega) (by omega),Vx (M:=N) (p:=max s t) (by omega) (by omega),← Int.add_mul];have:=CzR (M*10 ^ (max s t - s)+N*10 ^ (max s t - t)) (max s t) (9 - max s t);rw [show max s t+(9 - max s t)=9 by omega] at this;rw [this]
theorem refSub_is:kzG (⟨M,(s:Int)⟩,⟨N,(t:Int)⟩)=some (decV (V ⟨M,(s:Int)⟩ - V ⟨N,(t:Int)⟩) 9):=by
 obtain ⟨h1,h2⟩:=x_len hM hN hs ht;unfold kzG;rw [tzI hM hN hs ht,aza];simp only;obtain ⟨m'',h3,h4⟩:=diff_is (m:=decide (M < 0)) (m':=decide (N < 0)) (show (digs (M.natAbs*10 ^ (max s t - s))).length≤1000 by omega) (show (digs (N.natAbs*10 ^ (max s t - t))).length≤1000 by omega);rw [yzv,yzv] at h3 h4;have h5:=sum_len hM hN hs ht _ (.inr rfl);have h6:=CzR (M*10 ^ (max s t - s) - N*10 ^ (max s t - t)) (max s t) (9 - max s t);rw [show max s t+(9 - max s t)=9 by omega] at h6;have fin:(obnd (bzv (⟨m'',digs (M*10 ^ (max s t - s) - N*10 ^ (max s t - t)).natAbs⟩,((max s t:Nat):Int))) fun y=>some y)=some (decV (V ⟨M,(s:Int)⟩ - V ⟨N,(t:Int)⟩) 9):=by
  rw [mzD (by omega) (by omega),h4,aza,Vx (p:=max s t) (by omega) (by omega),Vx (M:=N) (p:=max s t) (by omega) (by omega),← Int.sub_mul,h6]
 by_cases hn:N < 0
 ·rw [decide_eq_true hn] at h3 ⊢;rw [Bool.not_true,azb] at h3 ⊢;cases hq:czr (⟨decide (M < 0),digs (M.natAbs*10 ^ (max s t - s))⟩,{ Minus:=false,D:=digs (N.natAbs*10 ^ (max s t - t)) }) with
  | none=>rw [hq] at h3;simp at h3
  | some z=>rw [hq,aza] at h3;rw [aza];rw [Option.some.inj h3];exact fin
 ·rw [decide_eq_false hn] at h3 ⊢;rw [Bool.not_false,azc] at h3 ⊢;cases hq:czr (⟨decide (M < 0),digs (M.natAbs*10 ^ (max s t - s))⟩,{ Minus:=decide (0 < ((digs (N.natAbs*10 ^ (max s t - t))).length:Int)),D:=digs (N.natAbs*10 ^ (max s t - t)) }) with
  | none=>rw [hq] at h3;simp at h3
  | some z=>rw [hq,aza] at h3;rw [aza];rw [Option.some.inj h3];exact fin
theorem Jzf:dzU (⟨M,(s:Int)⟩,⟨N,(t:Int)⟩)=some (cmpV (V ⟨M,(s:Int)⟩) (V ⟨N,(t:Int)⟩)):=by
 obtain ⟨h1,h2⟩:=x_len hM hN hs ht;unfold dzU;rw [tzI hM hN hs ht,aza];simp only;obtain ⟨m'',h3,h4⟩:=diff_is (m:=decide (M < 0)) (m':=decide (N < 0)) (show (digs (M.natAbs*10 ^ (max s t - s))).length≤1000 by omega) (show (digs (N.natAbs*10 ^ (max s t - t))).length≤1000 by omega);rw [yzv,yzv] at h3 h4;have hp:(0:Int) < 10 ^ (9 - max s t):=Int.pow_pos (by omega);have hV:cmpV (V ⟨M,(s:Int)⟩) (V ⟨N,(t:Int)⟩)=cmpV (M*10 ^ (max s t - s)) (N*10 ^ (max s t - t)):=by
  rw [Vx (p:=max s t) (by omega) (by omega),Vx (M:=N) (p:=max s t) (by omega) (by omega)];unfold cmpV;have e1:=fun (x y:Int)=>(show x*10 ^ (9 - max s t) < y*10 ^ (9 - max s t)↔x < y from ⟨fun h=>Int.lt_of_mul_lt_mul_right h (Int.le_of_lt hp),fun h=>Int.mul_lt_mul_of_pos_right h hp⟩)
  simp only [e1]
 rw [hV];generalize M*10 ^ (max s t - s)=x at *;generalize N*10 ^ (max s t - t)=y at *;have fin:brn (decide (((digs (x - y).natAbs).length:Int)=0)) (some 0) (brn m'' (some (-1)) (some 1))=some (cmpV x y):=by
  unfold cmpV;have hz:=nzE (n:=(x - y).natAbs);by_cases h0:x - y=0
  ·rw [decide_eq_true (by omega),azc,if_neg (by omega),if_neg (by omega)]
  ·rw [decide_eq_false (by omega),azb];cases m''
   ·rw [azb];simp only [sw,cond_false] at h4;rw [if_neg (by omega),if_pos (by omega)]
   ·rw [azc];simp only [sw,cond_true] at h4;rw [if_pos (by omega)]
 by_cases hn:N < 0
 ·rw [decide_eq_true hn] at h3 ⊢;rw [Bool.not_true,azb] at h3 ⊢;cases hq:czr (⟨decide (M < 0),digs (M.natAbs*10 ^ (max s t - s))⟩,{ Minus:=false,D:=digs (N.natAbs*10 ^ (max s t - t)) }) with
  | none=>rw [hq] at h3;simp at h3
  | some z=>rw [hq,aza] at h3;rw [aza];rw [Option.some.inj h3];exact fin
 ·rw [decide_eq_false hn] at h3 ⊢;rw [Bool.not_false,azc] at h3 ⊢;cases hq:czr (⟨decide (M < 0),digs (M.natAbs*10 ^ (max s t - s))⟩,{ Minus:=decide (0 < ((digs (N.natAbs*10 ^ (max s t - t))).length:Int)),D:=digs (N.natAbs*10 ^ (max s t - t)) }) with
  | none=>rw [hq] at h3;simp at h3
  | some z=>rw [hq,aza] at h3;rw [aza];rw [Option.some.inj h3];exact fin
end
def rdN (v n:Nat):Nat:=if n≤2*(v % n) then v / n+1 else v / n
theorem rdN_cast (v n:Nat):(rdN v n:Int)=rdiv v n:=by
 unfold rdN rdiv;by_cases h:n≤2*(v % n)
 ·rw [if_pos h,if_pos (by omega)];simp
 ·rw [if_neg h,if_neg (by omega)];simp
theorem rdN_scale {v n c:Nat} (hc:0 < c):rdN (v*c) (n*c)=rdN v n:=by
 unfold rdN;rw [Nat.mul_div_mul_right _ _ hc,Nat.mul_mod_mul_right,← Nat.mul_assoc];have:n*c≤2*(v % n)*c↔n≤2*(v % n):=Nat.mul_le_mul_right_iff hc;simp only [this]
theorem rdN_len {v n j:Nat} (h:(digs v).length≤j):(digs (rdN v n)).length≤j+2:=by
 have h1:(digs (v+1)).length≤j+1+1:=ozi (k:=j+1) (by omega) (by
  have:=bzH 1 1 (by omega);omega)
 refine Nat.le_trans (gzu ?_) h1;have:=Nat.div_le_self v n;unfold rdN;split<;>omega
section
variable {M N:Int} {s t:Nat} (hM:I64 M) (hN:I64 N) (hs:s≤9) (ht:t≤9)
def sgnP (M N:Int):Bool:=!decide (decide (M < 0)=decide (N < 0))
include hM hN hs ht
theorem refDiv_is (hN0:N≠0):fz4 (⟨M,(s:Int)⟩,⟨N,(t:Int)⟩)=some (decV (sw (rdN (M.natAbs*10 ^ (9 - s+t)) N.natAbs) (sgnP M N)) 9):=by
 obtain ⟨h1,h2⟩:=x_len hM hN hs ht;unfold fz4;simp only;rw [decide_eq_false hN0,azb,tzI hM hN hs ht,aza];simp only;have hc:0 < 10 ^ (max s t - t):=Nat.pow_pos (by omega);have hY:0 < N.natAbs*10 ^ (max s t - t):=Nat.mul_pos (by omega) hc;have l3:=szU 9 h1;have eX:M.natAbs*10 ^ (max s t - s)*10 ^ 9=M.natAbs*10 ^ (9 - s+t)*10 ^ (max s t - t):=by
  rw [Nat.mul_assoc,Nat.mul_assoc,← Nat.pow_add,← Nat.pow_add];congr 2;omega
 have eR:=rdN_scale (v:=M.natAbs*10 ^ (9 - s+t)) (n:=N.natAbs) hc;rw [← eX] at eR;rw [show (9:Int)=((9:Nat):Int) from rfl,szK (by omega) (by omega),aza];simp only;rw [overD_is hY (by omega) (by omega),aza];simp only;rw [← eR];generalize M.natAbs*10 ^ (max s t - s)*10 ^ 9=X at *;generalize N.natAbs*10 ^ (max s t - t)=Y at *;have l4:=rdN_len (n:=Y) l3;have l5:=gzu (Nat.div_le_self X Y);have d1:([1]:List Int)=digs 1:=by rw [czF (by omega)];simp [bzr]
 have fin:∀ q:Nat,q=rdN X Y→(obnd (bzG { Minus:=!decide (decide (M < 0)=decide (N < 0)),D:=digs q }) fun y=>obnd (bzv (y,((9:Nat):Int))) fun y=>some y)=some (decV (sw (rdN X Y) (sgnP M N)) 9):=fun q hq=>by
  subst hq;rw [lzY (dzM _) (by omega),aza,fzL,mzD (by omega) (by omega),aza,Fzk];rfl
 by_cases hh:Y≤2*(X % Y)
 ·rw [decide_eq_true hh,azc,d1,wzW (by omega) (by have:=bzH 1 1 (by omega);omega),aza];exact fin _ (by unfold rdN;rw [if_pos hh])
 ·rw [decide_eq_false hh,azb];exact fin _ (by unfold rdN;rw [if_neg hh])
theorem Nz5 (hN0:N≠0):gzr (⟨M,(s:Int)⟩,⟨N,(t:Int)⟩)=some (decV (sw (rdN (M.natAbs*10 ^ (9 - s+t)) N.natAbs) (sgnP M N)) 9):=by
 have hA:=hM;have hB:=hN;have hV:=V_le (d:=⟨M,(s:Int)⟩) hM;unfold I64 at hA hB;unfold gzr;simp only;have lo:(W N.natAbs (decide (N < 0))).lo=N.natAbs:=by
  show (N.natAbs:Int) % 18446744073709551616=N.natAbs
  omega
 have eV:((V ⟨M,(s:Int)⟩).natAbs:Int)*10 ^ t=((M.natAbs*10 ^ (9 - s+t):Nat):Int):=by
  show (((M*10 ^ (9 - (s:Int).toNat)).natAbs:Nat):Int)*10 ^ t=_
  rw [Int.natAbs_mul,Int.natAbs_pow,Int.toNat_natCast,Int.natCast_mul,Int.natCast_mul,lzf,Int.pow_add,Int.mul_assoc];rfl
 have hb:((M.natAbs*10 ^ (9 - s+t):Nat):Int)≤9223372036854775808*1000000000000000000:=by
  rw [Int.natCast_mul,lzf];have h2:(10:Int) ^ (9 - s+t)≤10 ^ 18:=by
   have:=Nat.pow_le_pow_right (n:=10) (by omega) (show 9 - s+t≤18 by omega);have h3:=Int.ofNat_le.2 this;rw [lzf,lzf] at h3;exact h3
  exact ozz (by omega) (Int.le_of_lt (Int.pow_pos (by omega))) (by omega) h2
 rw [decide_eq_false hN0,azb,of_is hN,aza,mzC (d:=⟨M,(s:Int)⟩) hM (by simp only;omega) (by simp only;omega),aza,pzz (by omega),aza,
  Czv (inV (d:=⟨M,(s:Int)⟩) hM) (by have:=lze (show t≤19 by omega);omega) (by have:=lze (show t≤19 by omega);omega) (by rw [eV];exact ⟨by omega,by omega⟩),aza,lo,eV]
 have e1:ezf ({ hi:=(W ((M.natAbs*10 ^ (9 - s+t):Nat):Int) (decide (V ⟨M,(s:Int)⟩ < 0))).hi,lo:=(W ((M.natAbs*10 ^ (9 - s+t):Nat):Int) (decide (V ⟨M,(s:Int)⟩ < 0))).lo,minus:=!decide ((W ((M.natAbs*10 ^ (9 - s+t):Nat):Int) (decide (V ⟨M,(s:Int)⟩ < 0))).minus=(W N.natAbs (decide (N < 0))).minus) },(N.natAbs:Int)) =
  some (W (rdiv ((M.natAbs*10 ^ (9 - s+t):Nat):Int) N.natAbs) (!decide (decide (V ⟨M,(s:Int)⟩ < 0)=decide (N < 0)))):=(uzC (by omega) (by omega) (by omega) (by omega)).1
 have hw:=(uzC (v:=((M.natAbs*10 ^ (9 - s+t):Nat):Int)) (n:=N.natAbs) (m:=true) (by omega) (by omega) (by omega) (by omega)).2;rw [e1,aza,show (9:Int)=((9:Nat):Int) from rfl,tzA hw (by omega),aza,← rdN_cast,V_neg];rfl
end
theorem okInt (n:Int):okD ⟨n,0⟩:=⟨by simp,by simp,fun h=>by simp at h⟩
end Go.Proofs.YtdgpkbnnljblmaaGreatDoor

/- X1 -/
namespace Go.Proofs.YtdgpkbnnljblmaaGreatDoor
open Go Go.Ev
def chr (d:Int):UInt8:=UInt8.ofNat (48+d.toNat)
def az2 (D:List Int):List UInt8:=(D.map chr).reverse
theorem tzb:∀ (n:Nat),n≠0→Lib.decDigits n=az2 (digs n):=by
 intro n;induction n using Nat.strongRecOn with
 | _ n ih =>
  intro h;rw [Lib.decDigits,czF h];unfold az2;simp only [List.map_cons,List.reverse_cons];by_cases h10:n < 10
  ·rw [dif_pos h10,Nat.div_eq_of_lt h10,bzr,Nat.mod_eq_of_lt h10];simp [chr]
  ·rw [dif_neg h10,ih (n / 10) (by omega) (by omega)];unfold az2;have e:((n:Int) % 10).toNat=n % 10:=by omega
   simp [chr,e]
def dzC (n s:Nat):List Int:=digs n++List.replicate (s+1 - (digs n).length) 0
theorem uzf (n s:Nat):(dzC n s).length=max (s+1) (digs n).length:=by
 unfold dzC;simp;omega
theorem Dz0 (n s:Nat):bzB (dzC n s):=kzs.2 ⟨dzM n,fun d hd=>by rw [List.eq_of_mem_replicate hd];omega⟩
theorem Azn:∀ c,Lib.repeatL [48] c=List.replicate c 48
 | 0=>rfl
 | c+1=>by rw [Lib.repeatL,Azn c];rfl
theorem Kzz (n s:Nat):List.replicate (s+1 - (Lib.decDigits n).length) (48:UInt8)++Lib.decDigits n=az2 (dzC n s):=by
 unfold dzC az2;by_cases h:n=0
 ·subst h;rw [bzr,Lib.decDigits_one (by omega)];simp only [List.length_singleton,List.length_nil,List.nil_append,List.map_replicate,List.reverse_replicate];have e:chr 0=48:=rfl;rw [e,show (UInt8.ofNat (48+0))=(48:UInt8) from rfl,show s+1 - 1=s by omega,show s+1 - 0=s+1 by omega,List.replicate_succ']
 ·rw [tzb n h];unfold az2;simp only [List.map_append,List.map_replicate,List.reverse_append,List.reverse_replicate,List.length_reverse,List.length_map];rfl
def ozj (D:List Int) (s:Nat):List UInt8:=if s=0 then az2 D else az2 (D.drop s)++46 :: az2 (D.take s)
def jzD (M:Int) (s:Nat):List UInt8:=(if M < 0 then [45] else [])++ozj (dzC M.natAbs s) s
theorem catS {x y:List UInt8} (h:x.length+y.length≤10000):cat x y=some (x++y):=by
 have:fits (x.length+y.length)=true:=by unfold fits;exact Nat.ble_eq_true_of_le (by unfold bze;omega)
 unfold cat
 rw [this];rfl
theorem subU {D:List UInt8} {i k:Nat} (h:i≤k) (h2:k≤D.length):sub D (i:Int) (k:Int)=some ((D.take k).drop i):=by
 have hd:(decide ((0:Int)≤(i:Int))&&decide ((i:Int)≤(k:Int))&&decide ((k:Int)≤(D.length:Int)))=true:=by
  simp;omega
 simp only [sub,hd,cond_true,Int.toNat_natCast]
 try rfl
theorem tzU {M:Int} {s:Nat} (hM:I64 M) (hs:s≤9):szn ⟨M,(s:Int)⟩=some (jzD M s):=by
 have l1:=tz9 hM;have hp:=uzf M.natAbs s;have hlen:(Lib.decDigits M.natAbs).length≤20:=by
  by_cases h:M.natAbs=0
  ·rw [h,Lib.decDigits_one (by omega)];simp
  ·rw [tzb _ h];unfold az2;simp;omega
 unfold szn;rw [of_is hM,aza];have lo:(W M.natAbs (decide (M < 0))).lo=M.natAbs:=by
  show (M.natAbs:Int) % 18446744073709551616=M.natAbs
  unfold I64 at hM;omega
 have mi:(W (M.natAbs:Int) (decide (M < 0))).minus=decide (M < 0):=rfl;have fu:izC ((M.natAbs:Int),10)=some (Lib.decDigits M.natAbs):=by
  unfold izC ezj;simp
 rw [lo,fu,aza,mi];unfold jzD ozj;have hw:=Kzz M.natAbs s;by_cases h0:s=0
 ·subst h0;rw [decide_eq_false (by simp),azb,if_pos rfl,← hw];have e:0+1 - (Lib.decDigits M.natAbs).length=0:=by
   have:0 < (Lib.decDigits M.natAbs).length:=by
    rw [Lib.decDigits_length];unfold Lib.nDigits;split<;>omega
   omega
  rw [e];by_cases hm:M < 0
  ·rw [decide_eq_true hm,azc,catS (by simp;omega),aza,if_pos hm];rfl
  ·rw [decide_eq_false hm,azb,if_neg hm];rfl
 ·have hc:(bif decide (IntKind.i64.wrap (IntKind.i64.wrap ((s:Int)+1) - ((Lib.decDigits M.natAbs).length:Int)) < 0) then (0:Int) else IntKind.i64.wrap (IntKind.i64.wrap ((s:Int)+1) - ((Lib.decDigits M.natAbs).length:Int)))=((s+1 - (Lib.decDigits M.natAbs).length:Nat):Int):=by
   rw [azp (n:=(s:Int)+1) (by omega) (by omega),azp (by omega) (by omega)];by_cases h:(s:Int)+1 - ((Lib.decDigits M.natAbs).length:Int) < 0
   ·rw [decide_eq_true h,cond_true];omega
   ·rw [decide_eq_false h,cond_false];omega
  rw [decide_eq_true (by simp;omega),azc];simp only;rw [hc];have hr:czN ([48],((s+1 - (Lib.decDigits M.natAbs).length:Nat):Int))=some (List.replicate (s+1 - (Lib.decDigits M.natAbs).length) 48):=by
   unfold czN;simp only [Int.toNat_natCast];rw [decide_eq_true (by omega),decide_eq_true (by simp;omega),Azn];rfl
  have hwl:(az2 (dzC M.natAbs s)).length=max (s+1) (digs M.natAbs).length:=by unfold az2;simp [hp]
  rw [hr,aza,catS (by simp;omega),aza,hw,if_neg h0,hwl,azp (by omega) (by omega),show ((max (s+1) (digs M.natAbs).length:Nat):Int) - (s:Int)=((max (s+1) (digs M.natAbs).length - s:Nat):Int) by omega];have s1:=subU (D:=az2 (dzC M.natAbs s)) (i:=0) (k:=max (s+1) (digs M.natAbs).length - s) (by omega) (by omega);have s2:=subU (D:=az2 (dzC M.natAbs s)) (i:=max (s+1) (digs M.natAbs).length - s) (k:=max (s+1) (digs M.natAbs).length) (by omega) (by omega);rw [List.take_of_length_le (by omega)] at s2;have e1:(az2 (dzC M.natAbs s)).take (max (s+1) (digs M.natAbs).length - s)=az2 ((dzC M.natAbs s).drop s):=by
   unfold az2;rw [List.take_reverse,List.length_map,hp,List.map_drop];congr 2;omega
  have e2:(az2 (dzC M.natAbs s)).drop (max (s+1) (digs M.natAbs).length - s)=az2 ((dzC M.natAbs s).take s):=by
   unfold az2;rw [List.drop_reverse,List.length_map,hp,List.map_take];congr 2;omega
  rw [List.drop_zero,e1] at s1;rw [e2] at s2;have z0:((0:Nat):Int)=0:=rfl;rw [z0] at s1;have la:(az2 ((dzC M.natAbs s).drop s)).length≤30:=by unfold az2;simp [hp];omega
  have lb:(az2 ((dzC M.natAbs s).take s)).length≤30:=by unfold az2;simp;omega
  rw [s1,aza,catS (by simp;omega),aza,s2,aza,catS (by simp;omega),aza];by_cases hm:M < 0
  ·rw [decide_eq_true hm,azc,catS (by simp;omega),aza,if_pos hm];simp
  ·rw [decide_eq_false hm,azb,if_neg hm];simp
end Go.Proofs.YtdgpkbnnljblmaaGreatDoor

/- X2 -/
namespace Go.Proofs.YtdgpkbnnljblmaaGreatDoor
open Go Go.Ev
theorem rzq (D:List Int) (d:Int):az2 (D++[d])=chr d :: az2 D:=by
 unfold az2;simp
theorem pad_is {n s:Nat} {m:Bool} {dec:Dec} (hs:dec.S=(s:Int)) (h9:s≤9) (hl:(digs n).length≤20):nzX (digs n,dec,⟨m,digs n⟩)=some (dzC n s,⟨m,dzC n s⟩):=by
 obtain ⟨y,h1,h2⟩:=czQ (F:=izi) (fun x=>100 - x.1.length) (fun x=>x.2.1=dec∧x.2.2.Minus=m∧∃ k,x.1=digs n++List.replicate k 0∧(digs n).length+k≤max (s+1) (digs n).length) (fun y=>y=(dzC n s,⟨m,dzC n s⟩)) (by
  rintro back ⟨D,d,⟨m',E⟩⟩ ⟨e1,e2,k,e3,hk⟩ hb;simp only at e1 e2 e3;subst e1;subst e2;subst e3;unfold izi;simp only at hb ⊢;rw [hs];by_cases h:(digs n).length+k≤s
  ·rw [decide_eq_true (by simp;omega),azc,appS (by simp;omega),aza];refine hb _ ⟨rfl,rfl,k+1,by rw [List.replicate_succ',List.append_assoc],by omega⟩ (by simp;omega)
  ·rw [decide_eq_false (by simp;omega),azb];refine ⟨_,rfl,?_⟩;have:k=s+1 - (digs n).length:=by omega
   subst this;rfl) (digs n,dec,⟨m,digs n⟩) ⟨rfl,rfl,0,by simp,by omega⟩ (by simp only;omega)
 subst h2;exact h1
def pre (D:List Int) (s i:Nat):List UInt8:=if s=0∨i≤s then az2 (D.take i) else az2 ((D.take i).drop s)++46 :: az2 (D.take s)
theorem chr_is {y:Int} (h:0≤y∧y≤9):UInt8.ofNat (IntKind.u8.wrap (IntKind.i64.wrap (48+y))).toNat=chr y:=by
 rw [azp (by omega) (by omega)];have:IntKind.u8.wrap (48+y)=48+y:=by
  unfold IntKind.wrap;simp [IntKind.bits,IntKind.signed];omega
 rw [this];unfold chr;congr 1;omega
theorem take_snoc {D:List Int} {i:Nat} (h:i < D.length):D.take (i+1)=D.take i++[D[i]]:=by
 rw [List.take_add_one,List.getElem?_eq_getElem h];rfl
theorem pre_len (D:List Int) (s i:Nat):(pre D s i).length≤i+i+1+s:=by
 unfold pre;split
 ·unfold az2;simp;omega
 ·unfold az2;simp;omega
theorem NzS {D:List Int} {s:Nat} {m:Bool} {dec:Dec} (hS:dec.S=(s:Int)) (h9:s≤9) (hD:bzB D) (hl:D.length≤30) (hl2:s < D.length):nzY (dec,⟨m,D⟩,[],0)=some (ozj D s):=by
 obtain ⟨y,h1,h2⟩:=czQ (F:=izj) (fun x=>100 - x.2.2.2.toNat) (fun x=>∃ i:Nat,x=(dec,⟨m,D⟩,pre D s i,(i:Int))∧i≤D.length) (fun y=>y=ozj D s) (by
  rintro back x ⟨i,rfl,hi⟩ hb;unfold izj;simp only at hb ⊢;have hpl:=pre_len D s i;rcases Nat.lt_or_ge i D.length with hlt | hge
  ·have hd:=hD D[i] (List.getElem_mem hlt);have ht:=take_snoc hlt;rw [decide_eq_true (by omega),azc,idxI (v:=D[i]) (List.getElem?_eq_getElem hlt),hS];simp only [aza,chr_is hd];have fin:∀ z,z=pre D s (i+1)→∃ y,back (dec,⟨m,D⟩,z,IntKind.i64.wrap ((i:Int)+1))=some y∧y=ozj D s:=fun z hz=>by
    subst hz;rw [azp (by omega) (by omega)];exact hb _ ⟨i+1,rfl,by omega⟩ (by simp only;omega)
   by_cases he:i=s
   ·rw [decide_eq_true (by omega),azc];by_cases h0:0 < i
    ·rw [decide_eq_true (by omega),azc,catS (by simp;omega),aza,catS (by simp;omega),aza];refine fin _ ?_;unfold pre;rw [if_pos (by omega),if_neg (by omega),ht,List.drop_append_of_le_length (by simp;omega),List.drop_eq_nil_of_le (by simp;omega),rzq];subst he;simp [az2]
    ·rw [decide_eq_false (by omega),azb,catS (by simp;omega),aza];refine fin _ ?_;unfold pre;rw [if_pos (by omega),if_pos (by omega),ht,rzq];rfl
   ·rw [decide_eq_false (by omega),azb,catS (by simp;omega),aza];refine fin _ ?_;unfold pre;by_cases hc:s=0∨i≤s
    ·rw [if_pos hc,if_pos (by omega),ht,rzq];rfl
    ·rw [if_neg hc,if_neg (by omega),ht,List.drop_append_of_le_length (by simp;omega),rzq];rfl
  ·rw [decide_eq_false (by omega),azb];refine ⟨_,rfl,?_⟩;unfold pre ozj;have:i=D.length:=by omega
   subst this;rw [List.take_of_length_le (Nat.le_refl _)];by_cases h0:s=0
   ·rw [if_pos (.inl h0),if_pos h0]
   ·rw [if_neg (by omega),if_neg h0]) (dec,⟨m,D⟩,[],0) ⟨0,by simp [pre,az2],by omega⟩ (by simp only;omega)
 subst h2;exact h1
theorem Ozd {M:Int} {s:Nat} (hM:I64 M) (hs:s≤9):nzz ⟨M,(s:Int)⟩=some (jzD M s):=by
 have l1:=tz9 hM;have hp:=uzf M.natAbs s;unfold nzz;rw [big_is hM,aza];simp only;rw [pad_is (s:=s) rfl hs (by omega),aza];simp only;rw [NzS (s:=s) rfl hs (Dz0 _ _) (by omega) (by omega),aza];unfold jzD;have hdl:(ozj (dzC M.natAbs s) s).length≤100:=by
  unfold ozj az2;split<;>simp<;>omega
 by_cases hm:M < 0
 ·rw [decide_eq_true hm,azc,catS (by simp;omega),aza,if_pos hm]
 ·rw [decide_eq_false hm,azb,if_neg hm];rfl
end Go.Proofs.YtdgpkbnnljblmaaGreatDoor

/- XO -/
namespace Go.Proofs.YtdgpkbnnljblmaaGreatDoor
open Go Go.Ev Go.Lib
def rl:Nat→List UInt8→List Int
 | 0,_=>[]
 | n+1,l=>if l=[] then [] else ((decodeL l).1:Int) :: rl n (l.drop (decodeL l).2)
theorem Ez7:∀ n,rl n []=[]
 | 0=>rfl
 | n+1=>by simp [rl]
theorem rl_fuel:∀ (n m:Nat) (l:List UInt8),l.length≤n→l.length≤m→rl n l=rl m l
 | 0,m,l,hn,_=>by
  have:l=[]:=List.eq_nil_of_length_eq_zero (by omega);subst this;rw [Ez7,Ez7]
 | n+1,0,l,_,hm=>by
  have:l=[]:=List.eq_nil_of_length_eq_zero (by omega);subst this;rw [Ez7,Ez7]
 | n+1,m+1,l,hn,hm=>by
  unfold rl;by_cases hne:l=[]
  ·simp [hne]
  ·have hw:=decodeL_width l;have hl:0 < l.length:=List.length_pos_iff.2 hne;rw [if_neg hne,if_neg hne,rl_fuel n m (l.drop (decodeL l).2) (by rw [List.length_drop];omega) (by rw [List.length_drop];omega)]
def rs (l:List UInt8):List Int:=rl l.length l
theorem Ez9:rs []=[]:=rfl
theorem mz3 {l:List UInt8} (h:l≠[]):rs l=((decodeL l).1:Int) :: rs (l.drop (decodeL l).2):=by
 have hl:0 < l.length:=List.length_pos_iff.2 h;have hw:=decodeL_width l;obtain ⟨n,hn⟩:∃ n,l.length=n+1:=⟨l.length - 1,by omega⟩;unfold rs;rw [hn]
 show (if l=[] then [] else _)=_
 rw [if_neg h,rl_fuel n (l.drop (decodeL l).2).length _ (by rw [List.length_drop];omega) (Nat.le_refl _)]
theorem qzl (s:List UInt8) (i:Nat):rune s i=decodeL (s.drop i):=(decodeL_drop ⟨s.toArray⟩ i).symm
theorem HzM (s:List UInt8):∀ (n i:Nat),gzY s n i=rl n (s.drop i)
 | 0,_=>rfl
 | n+1,i=>by
  unfold gzY rl;by_cases h:i < s.length
  ·have hb:Nat.blt i s.length=true:=Nat.ble_eq_true_of_le h;rw [hb,cond_true,if_neg (fun h0=>by have:=congrArg List.length h0;simp at this;omega),qzl,HzM s n,List.drop_drop]
  ·have hb:Nat.blt i s.length=false:=by
    cases hb:Nat.blt i s.length with
    | false=>rfl
    | true=>exact absurd (Nat.le_of_ble_eq_true hb) h
   rw [hb,cond_false,if_pos (List.drop_eq_nil_of_le (by omega))]
theorem runes_is {s:List UInt8} (h:s.length≤70368744177664):rzj s=some (rs s):=by
 unfold rzj;rw [Nat.ble_eq_true_of_le h,cond_true,HzM,List.drop_zero];rfl
theorem szE:∀ (l:List UInt8),(rs l).length≤l.length:=fun l=>by
 have:∀ (n:Nat) (l:List UInt8),(rl n l).length≤n:=by
  intro n;induction n with
  | zero=>intro l;simp [rl]
  | succ n ih =>
   intro l;unfold rl;split
   ·simp
   ·have:=ih (l.drop (decodeL l).2);simp;omega
 exact this l.length l
structure Ord (α:Type) (c:α→α→Int):Prop where
 vals:∀ a b,c a b = -1∨c a b=0∨c a b=1
 swap:∀ a b,c b a = - c a b
 same:∀ a b,c a b=0↔a=b
 less:∀ a b d,c a b = -1→c b d = -1→c a d = -1
end Go.Proofs.YtdgpkbnnljblmaaGreatDoor

/- X3 -/
namespace Go.Proofs.YtdgpkbnnljblmaaGreatDoor
open Go Go.Ev
theorem i32_in {n:Int} (h0:-2147483648≤n) (h1:n≤2147483647):IntKind.i32.wrap n=n:=by
 rw [IntKind.wrap_i32];omega
def isD (c:UInt8):Bool:=decide (48≤c.toNat)&&decide (c.toNat≤57)
def valB:List UInt8→Nat→Nat
 | [],a=>a
 | c :: l,a=>valB l (a*10+(c.toNat - 48))
theorem valB_ge:∀ (l:List UInt8) (a:Nat),a≤valB l a
 | [],a=>Nat.le_refl _
 | c :: l,a=>Nat.le_trans (by omega) (valB_ge l _)
theorem sz2:∀ (l m:List UInt8) (a:Nat),valB (l++m) a=valB m (valB l a)
 | [],_,_=>rfl
 | _ :: l,m,_=>sz2 l m _
def dv (c:UInt8):Int:=((c.toNat - 48:Nat):Int)
def rd9 (l:List UInt8):List Int:=(l.map dv).reverse
theorem KzE (l:List UInt8) (c:UInt8):rd9 (l++[c])=dv c :: rd9 l:=by unfold rd9;simp
theorem vd_rd9:∀ (l:List UInt8) (a:Nat),valB l a=vd (rd9 l)+10 ^ l.length*a
 | [],a=>by simp [valB,rd9,vd]
 | c :: l,a=>by
  rw [valB,vd_rd9 l];unfold rd9;simp only [List.map_cons,List.reverse_cons,List.length_cons];rw [qzp];simp only [vd,List.length_reverse,List.length_map,dv,Int.toNat_natCast,Nat.pow_succ,Nat.mul_zero,Nat.add_zero];rw [Nat.mul_add,Nat.mul_assoc,Nat.mul_comm a 10];omega
theorem isDig_rd9 {l:List UInt8} (h:l.all isD=true):bzB (rd9 l):=fun d hd=>by
 unfold rd9 at hd;simp only [List.mem_reverse,List.mem_map] at hd;obtain ⟨c,hc,rfl⟩:=hd;have:=List.all_eq_true.1 h c hc;simp only [isD,Bool.and_eq_true,decide_eq_true_eq] at this;unfold dv;omega
theorem LzR {l:List UInt8} {c:UInt8} {t:List UInt8} (hl:l=c :: t) (h:128≤c.toNat):128≤(Lib.decodeL l).1:=by
 subst hl;rw [Lib.decodeL_N];simp only [List.getD_cons_zero];generalize (c :: t).length=n;generalize ((c :: t).getD 1 0).toNat=b1;generalize ((c :: t).getD 2 0).toNat=b2;generalize ((c :: t).getD 3 0).toNat=b3;unfold Lib.decodeN;rw [if_neg (by omega)]
 repeat' split
 all_goals (simp only;omega)
def cutW:List UInt8→List UInt8×List UInt8×Bool
 | []=>([],[],false)
 | c :: l=>if c=46 then ([],l,true) else (c :: (cutW l).1,(cutW l).2.1,(cutW l).2.2)
theorem yzd:∀ l:List UInt8,l=(cutW l).1++(if (cutW l).2.2 then 46 :: (cutW l).2.1 else [])∧((cutW l).2.2=false→(cutW l).2.1=[])∧46 ∉ (cutW l).1
 | []=>by simp [cutW]
 | c :: l=>by
  obtain ⟨h1,h2,h3⟩:=yzd l;unfold cutW;by_cases h:c=46
  ·subst h;simp
  ·rw [if_neg h];refine ⟨?_,h2,?_⟩
   ·simp only [List.cons_append];congr 1
   ·simp only [List.mem_cons,not_or];exact ⟨fun e=>h e.symm,h3⟩
theorem CzP:∀ l:List UInt8,Lib.indexByte l 46=if (cutW l).2.2 then ((cutW l).1.length:Int) else -1
 | []=>rfl
 | c :: l=>by
  have ih:=CzP l;unfold Lib.indexByte cutW;by_cases h:c=46
  ·subst h;simp
  ·have hb:(c == 46)=false:=by simp [h]
   rw [hb,if_neg h,ih];simp only [Bool.false_eq_true,if_false];by_cases h2:(cutW l).2.2=true
   ·simp only [h2,if_true];have:((((cutW l).1.length:Nat):Int) == -1)=false:=by simp
    rw [this];simp
   ·simp only [h2];simp
theorem cut_is {l:List UInt8} (hl:l.length≤10000):ozP (l,[46])=some (cutW l):=by
 obtain ⟨h1,h2,h3⟩:=yzd l;have hi:=CzP l;have hx:izB (l,[46])=some (Lib.indexByte l 46):=by
  unfold izB izK hz0;simp only [List.length_singleton];rw [decide_eq_false (by omega),azb];by_cases he:[46]=l
  ·rw [decide_eq_true he,azc,← he];rfl
  ·rw [decide_eq_false he,azb,decide_eq_true (by rfl),azc,show idx ([46]:List UInt8) 0=some 46 from rfl,aza];rfl
 unfold ozP mz4;rw [hx,aza,hi];generalize hw:(cutW l).1=w at *;generalize hb:(cutW l).2.1=b at *;generalize hp:(cutW l).2.2=p at *;have e:cutW l=(w,b,p):=by rw [← hw,← hb,← hp]
 rw [e];cases p with
 | true =>
  simp only [if_true] at h1 ⊢;have hlen:l.length=w.length+1+b.length:=by rw [h1];simp;omega
  have s1:=subU (D:=l) (i:=0) (k:=w.length) (by omega) (by omega);have s2:=subU (D:=l) (i:=w.length+1) (k:=l.length) (by omega) (by omega);rw [List.take_of_length_le (Nat.le_refl _)] at s2;have z0:((0:Nat):Int)=0:=rfl;rw [List.drop_zero,z0] at s1;rw [decide_eq_true (by omega),azc,s1,aza,List.length_singleton,azp (by omega) (by omega),show (w.length:Int)+((1:Nat):Int)=((w.length+1:Nat):Int) by omega,s2,aza,aza];have t1:l.take w.length=w:=by rw [h1];simp
  have t2:l.drop (w.length+1)=b:=by rw [h1];simp
  rw [t1,t2]
 | false =>
  simp only [Bool.false_eq_true,if_false,List.append_nil] at h1 ⊢;rw [decide_eq_false (by omega),azb,aza,h2 rfl,← h1]
theorem Nz3 {m w0:Bool} {z:List UInt8} (hl:z.length≤10000):∃ wr lg lo pos,czi (⟨0,0,m⟩,w0,false,z,0)=some ((wr,lg),⟨0,lo,m⟩,z,pos)∧wr=(w0||!z.all isD) ∧
 (wr=false→lg=true∧9223372036854775808 < valB z 0∨lg=false∧lo=(valB z 0:Int)∧valB z 0 < 18446744073709551616):=by
 have key:∃ y,czi (⟨0,0,m⟩,w0,false,z,0)=some y∧(∃ wr lg lo pos,y=((wr,lg),⟨0,lo,m⟩,z,pos)∧wr=(w0||!z.all isD) ∧
  (wr=false→lg=true∧9223372036854775808 < valB z 0∨lg=false∧lo=(valB z 0:Int)∧valB z 0 < 18446744073709551616)):=by
  refine czQ (F:=lzz) (fun x=>z.length - x.2.2.2.2) (fun x=>∃ (lo:Int) (wr lg:Bool) (i:Nat),x=(⟨0,lo,m⟩,wr,lg,z,i) ∧
   (wr=true∧(w0||!z.all isD)=true∨wr=w0∧i≤z.length∧(z.take i).all isD=true∧(lg=true∧18446744073709551600 < valB (z.take i) 0∨lg=false∧lo=(valB (z.take i) 0:Int)∧valB (z.take i) 0 < 18446744073709551616))) _ ?_ _ ⟨0,w0,false,0,rfl,.inr ⟨rfl,by omega,by simp,.inr ⟨rfl,by simp [valB],by simp [valB]⟩⟩⟩ (by simp only;omega)
  rintro back x ⟨lo,wr,lg,i,rfl,hst⟩ hb;unfold lzz;simp only at hb ⊢;rcases Nat.lt_or_ge i z.length with hlt | hge
  ·rw [decide_eq_true hlt,azc];have hr:=qzl z i;have hw:=Lib.decodeL_width (z.drop i);have hdr:z.drop i=z[i] :: z.drop (i+1):=List.drop_eq_getElem_cons hlt;have bad:∀ lg':Bool,∀ lo':Int,(w0||!z.all isD)=true→∃ y,back (⟨0,lo',m⟩,true,lg',z,i+(rune z i).2)=some y∧_:=fun lg' lo' h=>hb _ ⟨lo',true,lg',_,rfl,.inl ⟨rfl,h⟩⟩ (by simp only;rw [hr];omega)
   have good:∀ lg':Bool,∀ lo':Int,wr=true→∃ y,back (⟨0,lo',m⟩,wr,lg',z,i+(rune z i).2)=some y∧_:=fun lg' lo' h=>hb _ ⟨lo',wr,lg',_,rfl,.inl ⟨h,by rcases hst with ⟨_,h2⟩ | ⟨h1,_⟩;exact h2;rw [← h1,h];rfl⟩⟩ (by simp only;rw [hr];omega)
   have nd:isD z[i]=false→(w0||!z.all isD)=true:=fun h=>by
    have:z.all isD=false:=by
     rw [List.all_eq_false];exact ⟨z[i],List.getElem_mem hlt,by simp [h]⟩
    rw [this];simp
   by_cases h128:128≤z[i].toNat
   ·have hh:=LzR hdr h128;rw [← hr] at hh;rw [decide_eq_false (by omega),azb,decide_eq_true (by omega),azc];exact bad _ _ (nd (by unfold isD;simp;omega))
   ·have hd:=Lib.decodeL_ascii z[i] (z.drop (i+1)) (by omega);rw [← hdr,← hr] at hd;rw [hd] at bad good ⊢;simp only at bad good ⊢;by_cases c1:((z[i].toNat:Nat):Int) < 48
    ·rw [decide_eq_true c1,azc];exact bad _ _ (nd (by unfold isD;simp;omega))
    ·rw [decide_eq_false c1,azb];by_cases c2:(57:Int) < ((z[i].toNat:Nat):Int)
     ·rw [decide_eq_true c2,azc];exact bad _ _ (nd (by unfold isD;simp;omega))
     ·rw [decide_eq_false c2,azb];have i32:IntKind.i32.wrap (((z[i].toNat:Nat):Int) - 48)=((z[i].toNat - 48:Nat):Int):=by
       rw [i32_in (by omega) (by omega)];omega
      rcases hst with ⟨hwr,hbad⟩ | ⟨hwr,hi,hall,hval⟩
      ·subst hwr;cases lg
       ·rw [azb];by_cases h3:1844674407370955160 < lo
        ·rw [decide_eq_true h3,Bool.not_true,azb];exact good _ _ rfl
        ·rw [decide_eq_false h3,Bool.not_false,azc];exact good _ _ rfl
       ·rw [azc];exact good _ _ rfl
      ·have ht:z.take (i+1)=z.take i++[z[i]]:=by rw [List.take_add_one,List.getElem?_eq_getElem hlt];rfl
       have hD:isD z[i]=true:=by unfold isD;simp;omega
       have hall':(z.take (i+1)).all isD=true:=by rw [ht,List.all_append,hall,Bool.true_and,List.all_cons,hD];rfl
       have hv:valB (z.take (i+1)) 0=valB (z.take i) 0*10+(z[i].toNat - 48):=by rw [ht,sz2];rfl
       rcases hval with ⟨rfl,hbig⟩ | ⟨rfl,rfl,hsm⟩
       ·rw [azc];exact hb _ ⟨lo,wr,true,i+1,rfl,.inr ⟨hwr,by omega,hall',.inl ⟨rfl,by omega⟩⟩⟩ (by simp only;omega)
       ·rw [azb];by_cases h3:(1844674407370955160:Int) < (valB (z.take i) 0:Int)
        ·rw [decide_eq_true h3,Bool.not_true,azb];exact hb _ ⟨_,wr,true,i+1,rfl,.inr ⟨hwr,by omega,hall',.inl ⟨rfl,by omega⟩⟩⟩ (by simp only;omega)
        ·rw [decide_eq_false h3,Bool.not_false,azc,i32,bzh (n:=(valB (z.take i) 0:Int)*10) (by omega) (by omega),bzh (n:=((z[i].toNat - 48:Nat):Int)) (by omega) (by omega),bzh (by omega) (by omega)];exact hb _ ⟨_,wr,false,i+1,rfl,.inr ⟨hwr,by omega,hall',.inr ⟨rfl,by omega,by omega⟩⟩⟩ (by simp only;omega)
  ·rw [decide_eq_false (by omega),azb];refine ⟨_,rfl,wr,lg,lo,i,rfl,?_⟩;rcases hst with ⟨rfl,h2⟩ | ⟨h1,h2,h3,h4⟩
   ·exact ⟨h2.symm,fun h=>by cases h⟩
   ·have:i=z.length:=by omega
    subst this;rw [List.take_of_length_le (Nat.le_refl _)] at h3 h4;refine ⟨by rw [h1,h3];simp,fun _=>?_⟩;rcases h4 with ⟨h5,h6⟩ | h5
    ·exact .inl ⟨h5,by omega⟩
    ·exact .inr h5
 obtain ⟨y,h1,wr,lg,lo,pos,rfl,h2,h3⟩:=key;exact ⟨wr,lg,lo,pos,h1,h2,h3⟩
end Go.Proofs.YtdgpkbnnljblmaaGreatDoor

/- X4 -/
namespace Go.Proofs.YtdgpkbnnljblmaaGreatDoor
open Go Go.Ev
def nzk (m:Bool) (w b:List UInt8):Dec×Int :=
 if (if m then 9223372036854775808 < valB (w++b) 0 else 9223372036854775808≤valB (w++b) 0) then (⟨0,0⟩,8)
 else if 9 < b.length∨b.getLast? = some 48 then (⟨0,0⟩,1)
 else (⟨if m then -(valB (w++b) 0:Int) else (valB (w++b) 0:Int),(b.length:Int)⟩,0)
def headW (x w b:List UInt8) (p:Bool):Bool:=decide (w=[])||(p&&decide (b=[]))||(decide (1 < w.length)&&decide (w.head? = some 48))||decide (x=[45,48])
def cz8 (x:List UInt8):Bool:=decide (x.head? = some 45)
def czl (x:List UInt8):List UInt8:=if x.head? = some 45 then x.tail else x
def jzm (x:List UInt8):Dec×Int :=
 if (headW x (cutW (czl x)).1 (cutW (czl x)).2.1 (cutW (czl x)).2.2||!((cutW (czl x)).1++(cutW (czl x)).2.1).all isD)=true then (⟨0,0⟩,2)
 else nzk (cz8 x) (cutW (czl x)).1 (cutW (czl x)).2.1
theorem prefix_is {x:List UInt8} (hl:x.length≤10000):jzy (x,[45])=some (czl x,cz8 x):=by
 unfold jzy izH izI czl cz8;cases x with
 | nil=>simp
 | cons c t =>
  have s1:=subU (D:=c :: t) (i:=0) (k:=1) (by omega) (by simp);have s2:=subU (D:=c :: t) (i:=1) (k:=(c :: t).length) (by simp) (by omega);rw [List.take_of_length_le (Nat.le_refl _)] at s2;have z0:((0:Nat):Int)=0:=rfl;have z1:((([45]:List UInt8).length:Nat):Int)=((1:Nat):Int):=rfl;rw [z0] at s1;simp only;rw [z1,decide_eq_true (by simp;omega),azc,s1,aza,aza,s2];simp only [List.take_succ_cons,List.take_zero,List.drop_zero,List.head?_cons,List.drop_succ_cons,List.tail_cons];by_cases h:c=45
  ·subst h;simp
  ·have:¬ ([c]=[(45:UInt8)]):=fun e=>h (by simpa using e)
   rw [decide_eq_false this];simp [h]
theorem suffix_is {b:List UInt8} (hl:b.length≤10000):fz6 (b,[48])=some (decide (b.getLast? = some 48)):=by
 unfold fz6 izJ;have z1:((([48]:List UInt8).length:Nat):Int)=((1:Nat):Int):=rfl;simp only;rw [z1];rcases List.eq_nil_or_concat b with rfl | ⟨l,c,rfl⟩
 ·simp
 ·simp only [List.concat_eq_append] at hl ⊢;have hlen:(l++[c]).length=l.length+1:=by simp
  have s2:=subU (D:=l++[c]) (i:=l.length) (k:=(l++[c]).length) (by simp) (by omega);rw [List.take_of_length_le (Nat.le_refl _),List.drop_left] at s2;rw [decide_eq_true (by omega),azc,azp (by omega) (by omega),show ((l++[c]).length:Int) - ((1:Nat):Int)=((l.length:Nat):Int) by omega,s2,aza,aza];simp
theorem tailP_is {m w0:Bool} {w b:List UInt8} (hl:w.length+b.length≤10000):(obnd (cat w b) fun z =>
 obnd (czi (⟨0,0,m⟩,w0,false,z,0)) fun y_2 =>
  obnd (czx (⟨0,0⟩,m,b,y_2.2.fst,y_2.1)) fun y =>
   osum y (fun _=>some ((⟨IntKind.i64.wrap y_2.2.fst.lo,(b.length:Int)⟩:Dec),(0:Int))) fun y=>some (y.2,y.1))=some (if (w0||!(w++b).all isD)=true then (⟨0,0⟩,2) else nzk m w b):=by
 rw [catS hl,aza];obtain ⟨wr,lg,lo,pos,h1,h2,h3⟩:=Nz3 (m:=m) (w0:=w0) (z:=w++b) (by simp;omega);rw [h1,aza];unfold czx;simp only;rw [← h2];cases wr with
 | true=>simp [osum]
 | false =>
  rw [azb,if_neg (by simp)];unfold nzk;rcases h3 rfl with ⟨rfl,h4⟩ | ⟨rfl,rfl,h4⟩
  ·rw [azc,aza,if_pos (by cases m<;>simp<;>omega)];rfl
  ·rw [azb,suffix_is (by omega)];simp only [aza];generalize valB (w++b) 0=N at *;by_cases g1:(9223372036854775808:Int) < (N:Int)
   ·rw [decide_eq_true g1,azc,aza,if_pos (by cases m<;>simp<;>omega)];rfl
   ·rw [decide_eq_false g1,azb];have fin:(m=true∨N < 9223372036854775808)→(obnd (brn (decide (9 < (b.length:Int))) (some (Sum.inr ((1:Int),(⟨0,0⟩:Dec)))) (brn (decide (b.getLast? = some 48)) (some (Sum.inr (1,⟨0,0⟩)))
     (brn m (some (Sum.inr (0,⟨IntKind.i64.wrap (IntKind.u64.wrap (0 - (N:Int))),(b.length:Int)⟩))) (some (Sum.inl ((),(⟨0,0⟩:Dec))))))) fun y=>osum y (fun _=>some ((⟨IntKind.i64.wrap (N:Int),(b.length:Int)⟩:Dec),(0:Int))) fun y=>some (y.2,y.1)) =
     some (if (if m=true then 9223372036854775808 < N else 9223372036854775808≤N) then (⟨0,0⟩,8) else if 9 < b.length∨b.getLast? = some 48 then (⟨0,0⟩,1) else (⟨if m=true then -(N:Int) else (N:Int),(b.length:Int)⟩,0)):=fun hm=>by
     rw [if_neg (by cases m<;>simp at hm ⊢<;>omega)];by_cases g3:9 < b.length
     ·rw [decide_eq_true (by omega),azc,if_pos (.inl g3)];rfl
     ·rw [decide_eq_false (by omega),azb];by_cases g4:b.getLast? = some 48
      ·rw [decide_eq_true g4,azc,if_pos (.inr g4)];rfl
      ·rw [decide_eq_false g4,azb,if_neg (by simp [g3,g4])];cases m with
       | true =>
        rw [azc,aza];have:IntKind.i64.wrap (IntKind.u64.wrap (0 - (N:Int))) = -(N:Int):=by rw [u64,i64];omega
        simp only [osum,this,if_true]
       | false =>
        simp at hm;rw [azb,aza,azp (by omega) (by omega)];simp [osum]
    by_cases g2:(N:Int)=9223372036854775808
    ·rw [decide_eq_true g2,azc];cases m with
     | false=>rw [Bool.not_false,azc,aza,if_pos (by simp;omega)];rfl
     | true=>rw [Bool.not_true,azb];exact fin (.inl rfl)
    ·rw [decide_eq_false g2,azb];exact fin (.inr (by omega))
theorem KzA {x:List UInt8} (hl:x.length≤5000):qz1 x=some (jzm x):=by
 unfold qz1 jzm;rw [prefix_is (by omega),aza];have htl:(czl x).length≤5000:=by
  unfold czl;split
  ·simp;omega
  ·exact hl
 simp only;rw [cut_is (by omega),aza];obtain ⟨h1,h2,h3⟩:=yzd (czl x);have hlen:(cutW (czl x)).1.length+(cutW (czl x)).2.1.length≤5000:=by
  have:=congrArg List.length h1;simp only [List.length_append] at this;cases hp:(cutW (czl x)).2.2 with
  | true=>rw [hp] at this;simp at this;omega
  | false=>rw [h2 hp];simp;omega
 generalize (cutW (czl x)).1=w at *;generalize (cutW (czl x)).2.1=b at *;generalize (cutW (czl x)).2.2=p at *;simp only [tailP_is (m:=cz8 x) (w:=w) (b:=b) (show w.length+b.length≤10000 by omega)];unfold headW;by_cases c1:w=[]
 ·simp [c1]
 ·rw [decide_eq_false c1,azb];have tail:(brn (decide (1 < (w.length:Int))) (obnd (idx w 0) fun y_2=>brn (decide ((y_2.toNat:Int)=48)) (some (if (true||!(w++b).all isD)=true then ((⟨0,0⟩:Dec),(2:Int)) else nzk (cz8 x) w b)) (some (if (decide (x=[45,48])||!(w++b).all isD)=true then (⟨0,0⟩,2) else nzk (cz8 x) w b)))
   (some (if (decide (x=[45,48])||!(w++b).all isD)=true then (⟨0,0⟩,2) else nzk (cz8 x) w b))) =
   some (if (((decide (1 < w.length)&&decide (w.head? = some 48))||decide (x=[45,48]))||!(w++b).all isD)=true then (⟨0,0⟩,2) else nzk (cz8 x) w b):=by
   cases w with
   | nil=>exact absurd rfl c1
   | cons c t =>
    by_cases c2:1 < (c :: t).length
    ·rw [decide_eq_true (by omega),azc,show idx (c :: t) 0=some c from rfl,aza,decide_eq_true c2];by_cases c3:c=48
     ·subst c3;simp
     ·have:¬ ((c.toNat:Int)=48):=fun e=>c3 (UInt8.toNat_inj.1 (show c.toNat=(48:UInt8).toNat by simp;omega))
      rw [decide_eq_false this,azb];simp [c3]
    ·rw [decide_eq_false (by omega),azb,decide_eq_false c2];simp
  cases p with
  | true =>
   rw [azc];by_cases c4:b=[]
   ·rw [decide_eq_true c4,azc];simp
   ·rw [decide_eq_false c4,azb,tail];simp
  | false=>rw [azb,tail];simp
end Go.Proofs.YtdgpkbnnljblmaaGreatDoor

/- X5 -/
namespace Go.Proofs.YtdgpkbnnljblmaaGreatDoor
open Go Go.Ev
theorem u8_in {n:Int} (h0:0≤n) (h1:n≤255):IntKind.u8.wrap n=n:=by
 unfold IntKind.wrap;simp [IntKind.bits,IntKind.signed];omega
theorem idxB {D:List UInt8} {k:Nat} {v:UInt8} (h:D[k]? = some v):idx D (k:Int)=some v:=by
 simp [idx,h]
theorem CzQ:∀ {l:List UInt8},46 ∉ l→cutW l=(l,[],false)
 | [],_=>rfl
 | c :: l,h=>by
  simp only [List.mem_cons,not_or] at h;unfold cutW;rw [if_neg (fun e=>h.1 e.symm),CzQ h.2]
theorem AzG:∀ {w b:List UInt8},46 ∉ w→cutW (w++46 :: b)=(w,b,true)
 | [],b,_=>by simp [cutW]
 | c :: w,b,h=>by
  simp only [List.mem_cons,not_or] at h;simp only [List.cons_append];unfold cutW;rw [if_neg (fun e=>h.1 e.symm),AzG h.2]
theorem szs {l:List UInt8} (h:l.all isD=true):46 ∉ l:=fun hm=>by
 have:=List.all_eq_true.1 h 46 hm;revert this;decide
def iz9 (t:List UInt8) (g:Nat):Option (Int×List Int) :=
 if ((cutW t).1++(cutW t).2.1).all isD=true∧((cutW t).2.2=true→(cutW t).1≠[]) then
  some (if (cutW t).2.2 then (((cutW t).1.length+g:Nat):Int) else -1,rd9 ((cutW t).1++(cutW t).2.1)) else none
inductive At' (t:List UInt8) (g:Nat):Nat→Int→List Int→Prop
 | front (j:Nat) (h:j≤t.length) (hd:(t.take j).all isD=true):At' t g j (-1) (rd9 (t.take j))
 | behind (w b:List UInt8) (j:Nat) (ht:t=w++46 :: b) (hw:w≠[]) (hd:w.all isD=true) (hj:j≤b.length) (hb:(b.take j).all isD=true):At' t g (w.length+1+j) ((w.length+g:Nat):Int) (rd9 (w++b.take j))
theorem scan_is {s t : List UInt8} {g : Nat} {m : Bool} (hs : s.length = t.length + g) (hg : ∀ j, s[j + g]? = t[j]?) (hl : s.length ≤ 5000) :
    ∃ y,nzd (s,⟨0,0⟩,⟨m,[]⟩,(g:Int),-1,(g:Int))=some y ∧
      (match iz9 t g with | some (dot,D)=>y = .inl (dot,⟨0,0⟩,⟨m,D⟩) | none=>∃ B,y = .inr (2,⟨0,0⟩,B)):=by
  refine czQ (F:=gzX) (fun x=>10000 - x.2.2.2.2.2.toNat) (fun x=>∃ (j:Nat) (dot:Int) (D:List Int),x=(s,⟨0,0⟩,⟨m,D⟩,(g:Int),dot,((j+g:Nat):Int))∧At' t g j dot D) _ ?_ _ ⟨0,-1,[],by simp,by have:=At'.front (t:=t) (g:=g) 0 (by omega) (by simp);simpa [rd9] using this⟩ (by simp only;omega)
  rintro back x ⟨j,dot,D,rfl,hat⟩ hb
  unfold gzX
  simp only at hb ⊢
  have hDl:D.length≤j:=by
    cases hat with
    | front j h hd=>unfold rd9;simp;omega
    | behind w b j ht hw hd hj hb=>unfold rd9;simp;omega
  have hjl:j≤t.length:=by
    cases hat with
    | front j h hd=>exact h
    | behind w b j ht hw hd hj hb=>subst ht;simp;omega
  rcases Nat.lt_or_ge j t.length with hlt | hge
  · have hc:t[j]? = some t[j]:=List.getElem?_eq_getElem hlt
    generalize t[j]=c at hc
    have hsc:s[j+g]? = some c:=by rw [hg];exact hc
    rw [decide_eq_true (by omega),azc,idxB hsc]
    simp only [aza]
    have next : ∀ dot' D', At' t g (j + 1) dot' D' → ∃ y, back (s, ⟨0, 0⟩, ⟨m, D'⟩, (g : Int), dot', IntKind.i64.wrap (((j + g : Nat) : Int) + 1)) = some y ∧
        (match iz9 t g with | some (dot,D)=>y = .inl (dot,⟨0,0⟩,⟨m,D⟩) | none=>∃ B,y = .inr (2,⟨0,0⟩,B)):=fun dot' D' h=>by
      rw [azp (by omega) (by omega)]
      exact hb _ ⟨j+1,dot',D',by simp;omega,h⟩ (by simp only;omega)
    have digit : (isD c = false → iz9 t g = none) → (isD c = true → At' t g (j + 1) dot (dv c :: D)) → ∃ y, (brn (decide (48 ≤ (c.toNat : Int)))
          (brn (decide ((c.toNat:Int)≤57))
            (obnd (app 8 [IntKind.i64.wrap (IntKind.u8.wrap ((c.toNat:Int) - 48))] D) fun zs=>back (s,⟨0,0⟩,⟨m,zs⟩,(g:Int),dot,IntKind.i64.wrap (((j+g:Nat):Int)+1)))
            (some (Sum.inr (2,⟨0,0⟩,⟨m,D⟩))))
          (some (Sum.inr (2,⟨0,0⟩,⟨m,D⟩))))=some y ∧
        (match iz9 t g with | some (dot,D)=>y = .inl (dot,⟨0,0⟩,⟨m,D⟩) | none=>∃ B,y = .inr (2,⟨0,0⟩,B)):=fun hno hyes=>by
      have hcl:=c.toNat_lt
      by_cases c1:(48:Int)≤(c.toNat:Int)
      · rw [decide_eq_true c1,azc]
        by_cases c2:(c.toNat:Int)≤57
        · have e : IntKind.i64.wrap (IntKind.u8.wrap ((c.toNat : Int) - 48)) = dv c := by
            rw [u8_in (by omega) (by omega),azp (by omega) (by omega)];unfold dv;omega
          rw [decide_eq_true c2,azc,e,appS (by simp;omega),aza]
          exact next _ _ (hyes (by unfold isD;simp;omega))
        · rw [decide_eq_false c2,azb,hno (by unfold isD;simp;omega)]
          exact ⟨_,rfl,_,rfl⟩
      · rw [decide_eq_false c1,azb,hno (by unfold isD;simp;omega)]
        exact ⟨_,rfl,_,rfl⟩
    cases hat with
    | front j h hd =>
      have ht:t.take (j+1)=t.take j++[c]:=by rw [List.take_add_one,hc];rfl
      have htt:t=t.take j++c :: t.drop (j+1):=by
        conv=>lhs;rw [← List.take_append_drop (j+1) t,ht]
        simp
      have hyes:isD c=true→At' t g (j+1) (-1) (dv c :: rd9 (t.take j)):=fun h1=>by
        rw [← KzE,← ht]
        exact .front (j+1) (by omega) (by rw [ht,List.all_append,hd,Bool.true_and,List.all_cons,h1];rfl)
      have hno:c≠46→isD c=false→iz9 t g=none:=fun h46 h1=>by
        unfold iz9
        rw [if_neg]
        rintro ⟨h2,_⟩
        have hm:c∈(cutW t).1:=by
          have:cutW t=(t.take j++c :: (cutW (t.drop (j+1))).1,(cutW (t.drop (j+1))).2.1,(cutW (t.drop (j+1))).2.2):=by
            conv=>lhs;rw [htt]
            clear hb next digit
            generalize t.drop (j+1)=r
            have hnd:=szs hd
            generalize t.take j=q at hnd
            induction q with
            | nil => simp only [List.nil_append]; conv => lhs; unfold cutW
                     rw [if_neg h46]
            | cons d q ih =>
              simp only [List.mem_cons,not_or] at hnd
              simp only [List.cons_append]
              conv=>lhs;unfold cutW
              rw [if_neg (fun e=>hnd.1 e.symm),ih hnd.2]
          rw [this];simp
        have:=List.all_eq_true.1 h2 c (List.mem_append_left _ hm)
        rw [h1] at this;cases this
      by_cases h46:c=46
      · subst h46
        rw [decide_eq_true (by rfl),azc,decide_eq_true (by omega),azc]
        by_cases hj0:0 < j
        · rw [decide_eq_true (by omega),azc]
          have:=At'.behind (g:=g) (t.take j) (t.drop (j+1)) 0 htt (by
            intro e
            have h9:=congrArg List.length e
            rw [List.length_take,List.length_nil] at h9
            omega) hd (by omega) (by simp)
          rw [List.length_take,Nat.min_eq_left (by omega),List.take_zero,List.append_nil] at this
          exact next _ _ this
        · rw [decide_eq_false (by omega),azb]
          have hj0:j=0:=by omega
          subst hj0
          refine digit (fun _=>?_) (fun h=>absurd h (by decide))
          unfold iz9
          rw [if_neg]
          rintro ⟨_,h3⟩
          have:cutW t=([],t.drop 1,true):=by
            conv=>lhs;rw [htt]
            simp [cutW]
          rw [this] at h3
          exact h3 rfl rfl
      · have:¬ ((c.toNat:Int)=46):=fun e=>h46 (UInt8.toNat_inj.1 (show c.toNat=(46:UInt8).toNat by simp;omega))
        rw [decide_eq_false this,azb]
        exact digit (hno h46) hyes
    | behind w b i ht hw hd hj hbd =>
      have hcb:b[i]? = some c:=by
        rw [ht,show w.length+1+i=w.length+(i+1) by omega,List.getElem?_append_right (by omega)] at hc
        simpa using hc
      have hib:i < b.length:=(List.getElem?_eq_some_iff.1 hcb).1
      have htk:b.take (i+1)=b.take i++[c]:=by rw [List.take_add_one,hcb];rfl
      have hyes:isD c=true→At' t g (w.length+1+i+1) ((w.length+g:Nat):Int) (dv c :: rd9 (w++b.take i)):=fun h1=>by
        rw [← KzE,List.append_assoc,← htk]
        exact .behind w b (i+1) ht hw hd (by omega) (by rw [htk,List.all_append,hbd,Bool.true_and,List.all_cons,h1];rfl)
      have hno:isD c=false→iz9 t g=none:=fun h1=>by
        unfold iz9
        rw [if_neg]
        rintro ⟨h2,_⟩
        rw [ht,AzG (szs hd)] at h2
        have:=List.all_eq_true.1 h2 c (List.mem_append_right _ (List.mem_of_getElem? hcb))
        rw [h1] at this;cases this
      by_cases h46:(c.toNat:Int)=46
      · rw [decide_eq_true h46,azc,decide_eq_false (by omega),azb]
        exact digit hno hyes
      · rw [decide_eq_false h46,azb]
        exact digit hno hyes
  · rw [decide_eq_false (by omega),azb]
    cases hat with
    | front j h hd =>
      have:j=t.length:=by omega
      subst this
      rw [List.take_of_length_le (Nat.le_refl _)] at hd ⊢
      refine ⟨_,rfl,?_⟩
      unfold iz9
      rw [CzQ (szs hd)]
      simp [hd]
    | behind w b i ht hw hd hj hbd =>
      have:i=b.length:=by rw [ht] at hge;simp at hge;omega
      subst this
      rw [List.take_of_length_le (Nat.le_refl _)] at hbd ⊢
      refine ⟨_,rfl,?_⟩
      unfold iz9
      rw [ht,AzG (szs hd)]
      simp only
      rw [if_pos ⟨by rw [List.all_append,hd,hbd];rfl,fun _=>hw⟩]
      simp
end Go.Proofs.YtdgpkbnnljblmaaGreatDoor
