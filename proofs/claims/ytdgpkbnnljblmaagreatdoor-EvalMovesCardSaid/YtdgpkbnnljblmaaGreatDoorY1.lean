import Derived.Test.YtdgpkbnnljblmaaGreatDoorU3
import Derived.Shelf.Unicode.ValidAny
import Derived.Lib.ItoaNum
import Derived.Lib.ValidLaws
import Derived.Lib.IndexLaws
import Derived.Lib.TrimAscii
import Derived.Shelf.Strings.BuilderK
/- F1 -/
namespace Go.Proofs.YtdgpkbnnljblmaaGreatDoor
open Go Go.Ev
set_option linter.unusedVariables false
theorem mixed:Tryz.prog.follows .mixedOrders=true:=by kernel_rfl
def bzr (x:Int):Option (Dec) :=
 some {M:=x,S:=0}
def pzz:FSpec tb:=⟨[(0,.val 2)],[(0,.val 30)],bzr⟩
theorem cz4:azd Tryz.prog tb 33 pzz:=azo mixed Tryz.func33 (by kernel_rfl) .nil rfl (fun x=>by kernel_rfl)
def ezA (x:List UInt8×List UInt8):Option (Bool) :=
 brn (decide ((↑x.snd.length:Int)≤(↑x.fst.length:Int))) (obnd (sub x.fst 0 (↑x.snd.length:Int)) fun z=>some (decide (z=x.snd))) (some false)
def mz2:FSpec tb:=⟨[(0,.val 9),(1,.val 9)],[(0,.val 4)],ezA⟩
theorem kzc:azd Tryz.prog tb 254 mz2:=azo mixed Tryz.func254 (by kernel_rfl) .nil rfl (fun x=>by kernel_rfl)
def ezz (x:List UInt8×List UInt8):Option (List UInt8×Bool) :=
 obnd (ezA x) fun y=>brn (!y) (some (x.fst,false)) (obnd (sub x.fst (↑x.snd.length:Int) (↑x.fst.length:Int)) fun z=>some (z,true))
def mz1:FSpec tb:=⟨[(0,.val 9),(1,.val 9)],[(0,.val 9),(1,.val 4)],ezz⟩
theorem kzb:azd Tryz.prog tb 257 mz1:=azo mixed Tryz.func257 (by kernel_rfl) (.cons kzc .nil) rfl (fun x=>by kernel_rfl)
def fzd (x:List UInt8×List UInt8):Option (List UInt8×Bool) :=
 obnd (ezz x) fun y=>some y
def lzb:FSpec tb:=⟨[(0,.val 9),(1,.val 9)],[(0,.val 9),(1,.val 4)],fzd⟩
theorem mz6:azd Tryz.prog tb 230 lzb:=azo mixed Tryz.func230 (by kernel_rfl) (.cons kzb .nil) rfl (fun x=>by kernel_rfl)
def ezC (x:List UInt8×UInt8):Option (Int) :=
 obnd (ezg (x.fst,UInt8.ofNat (↑x.snd.toNat:Int).toNat)) fun y=>some y
def mz4:FSpec tb:=⟨[(0,.val 9),(1,.val 5)],[(0,.val 3)],ezC⟩
theorem kze:azd Tryz.prog tb 284 mz4:=azo mixed Tryz.func284 (by kernel_rfl) (.consK jzL .nil) rfl (fun x=>by kernel_rfl)
def ezw (x:List UInt8×List UInt8):Option (Int) :=
 brn (decide ((↑x.snd.length:Int)=0)) (some 0)
  (brn (decide (x.snd=x.fst)) (some 0)
   (brn (decide ((↑x.snd.length:Int)=1)) (obnd (idx x.snd 0) fun y=>obnd (ezC (x.fst,UInt8.ofNat (↑y.toNat:Int).toNat)) fun y=>some y)
    (brn (decide ((↑x.fst.length:Int)≤(↑x.snd.length:Int))) (some (-1)) none)))
def qzU:FSpec tb:=⟨[(0,.val 9),(1,.val 9)],[(0,.val 3)],ezw⟩
theorem mzn:azd Tryz.prog tb 276 qzU:=azo mixed Tryz.func276 (by kernel_rfl) (.cons kze .nil) rfl (fun x=>by kernel_rfl)
def hzW (x:List UInt8×List UInt8):Option (List UInt8×List UInt8×Bool) :=
 obnd (ezw x) fun y =>
  brn (decide (0≤y)) (obnd (sub x.fst 0 y) fun z=>obnd (sub x.fst (IntKind.i64.wrap (y+(↑x.snd.length:Int))) (↑x.fst.length:Int)) fun z_1=>some (z,z_1,true))
   (some (x.fst,[],false))
def sz7:FSpec tb:=⟨[(0,.val 9),(1,.val 9)],[(0,.val 9),(1,.val 9),(2,.val 4)],hzW⟩
theorem nz7:azd Tryz.prog tb 258 sz7:=azo mixed Tryz.func258 (by kernel_rfl) (.cons mzn .nil) rfl (fun x=>by kernel_rfl)
def jzD (x:List UInt8×List UInt8):Option (List UInt8×List UInt8×Bool) :=
 obnd (hzW x) fun y=>some (y.fst,y.2)
def szf:FSpec tb:=⟨[(0,.val 9),(1,.val 9)],[(0,.val 9),(1,.val 9),(2,.val 4)],jzD⟩
theorem tzB:azd Tryz.prog tb 231 szf:=azo mixed Tryz.func231 (by kernel_rfl) (.cons nz7 .nil) rfl (fun x=>by kernel_rfl)
def ezB (x:List UInt8×List UInt8):Option (Bool) :=
 brn (decide ((↑x.snd.length:Int)≤(↑x.fst.length:Int)))
  (obnd (sub x.fst (IntKind.i64.wrap ((↑x.fst.length:Int)-(↑x.snd.length:Int))) (↑x.fst.length:Int)) fun z=>some (decide (z=x.snd))) (some false)
def mz3:FSpec tb:=⟨[(0,.val 9),(1,.val 9)],[(0,.val 4)],ezB⟩
theorem kzd:azd Tryz.prog tb 259 mz3:=azo mixed Tryz.func259 (by kernel_rfl) .nil rfl (fun x=>by kernel_rfl)
def dzw (x:List UInt8×List UInt8):Option (Bool) :=
 obnd (ezB x) fun y=>some y
def lzc:FSpec tb:=⟨[(0,.val 9),(1,.val 9)],[(0,.val 4)],dzw⟩
theorem mz7:azd Tryz.prog tb 232 lzc:=azo mixed Tryz.func232 (by kernel_rfl) (.cons kzd .nil) rfl (fun x=>by kernel_rfl)
abbrev Cz4:List (Nat×FSpec tb):=[(230,lzb),(231,szf),(232,lzc)]
theorem lze:azv Tryz.prog tb Cz4:=(.cons mz6 (.cons tzB (.cons mz7 .nil)))
def izf (back:Wide×Bool×Bool×((List UInt8×Nat))→Option ((Bool×Bool)×(Wide×((List UInt8×Nat)))))(x:Wide×Bool×Bool×((List UInt8×Nat))):Option ((Bool×Bool)×(Wide×((List UInt8×Nat)))) :=
  brn (decide (x.2.2.snd.snd<x.2.2.snd.fst.length))
    (brn (decide ((↑(rune x.2.2.snd.fst x.2.2.snd.snd).fst:Int)<48)) (back (x.fst,true,x.2.2.fst,x.2.2.snd.fst,x.2.2.snd.snd+(rune x.2.2.snd.fst x.2.2.snd.snd).snd))
      (brn (decide (57<(↑(rune x.2.2.snd.fst x.2.2.snd.snd).fst:Int))) (back (x.fst,true,x.2.2.fst,x.2.2.snd.fst,x.2.2.snd.snd+(rune x.2.2.snd.fst x.2.2.snd.snd).snd))
        (brn x.2.2.fst (back (x.fst,x.2.fst,true,x.2.2.snd.fst,x.2.2.snd.snd+(rune x.2.2.snd.fst x.2.2.snd.snd).snd))
          (brn (!decide (1844674407370955160<x.fst.lo))
            (back
              ({ hi := x.fst.hi,
                  lo:=IntKind.u64.wrap (IntKind.u64.wrap (x.fst.lo*10)+IntKind.u64.wrap (IntKind.i32.wrap ((↑(rune x.2.2.snd.fst x.2.2.snd.snd).fst:Int)-48))),
                  minus := x.fst.minus },
                x.2.fst,decide (1844674407370955160<x.fst.lo),x.2.2.snd.fst,x.2.2.snd.snd+(rune x.2.2.snd.fst x.2.2.snd.snd).snd))
            (back (x.fst,x.2.fst,decide (1844674407370955160<x.fst.lo),x.2.2.snd.fst,x.2.2.snd.snd+(rune x.2.2.snd.fst x.2.2.snd.snd).snd))))))
    (some ((x.2.fst,x.2.2.fst),x.fst,x.2.2.snd))
def bzJ:Wide×Bool×Bool×((List UInt8×Nat))→Option ((Bool×Bool)×(Wide×((List UInt8×Nat)))):=iter izf big
def qzk:CutSpec tb:=⟨68,[(9,.ref 154),(10,.val 4),(11,.val 4),(53,.iter)],[((.exit 0),[(10,.val 4),(11,.val 4)])],[54,55,56,13,57,58,59,60,61,62,10,63,64,65,66,67,68,11,69,70,71,72,73,74,75,76,77,78],bzJ⟩
theorem wzc:azi ([]:List (CutSpec tb)) (azf 68 Tryz.f176)=[]:=by kernel_rfl
theorem uzw:azm Tryz.prog tb Tryz.f176.ntmps (.loop (azf 68 Tryz.f176)) qzk:=azz mixed (by kernel_rfl) lze rfl wzc .nil izf (fun back x=>by kernel_rfl) rfl
def bzW (x:Dec×Bool×List UInt8×Wide×Bool×Bool):Option (((Unit)×Dec)⊕((Int)×Dec)) :=
 brn x.2.2.2.2.fst (some (Sum.inr (2,{M:=0,S:=0})))
  (brn x.2.2.2.2.snd (some (Sum.inr (8,{M:=0,S:=0})))
   (brn (decide (9223372036854775808<x.2.2.2.fst.lo)) (some (Sum.inr (8,{M:=0,S:=0})))
    (brn (decide (x.2.2.2.fst.lo=9223372036854775808))
     (brn (!x.2.fst) (some (Sum.inr (8,{M:=0,S:=0})))
      (brn (decide (9<(↑x.2.2.fst.length:Int))) (some (Sum.inr (1,{M:=0,S:=0})))
       (obnd (dzw (x.2.2.fst,[48])) fun y =>
        brn y (some (Sum.inr (1,{M:=0,S:=0})))
         (brn x.2.fst (some (Sum.inr (0,{M:=IntKind.i64.wrap (IntKind.u64.wrap (0-x.2.2.2.fst.lo)),S:=(↑x.2.2.fst.length:Int)})))
          (some (Sum.inl ((),x.fst)))))))
     (brn (decide (9<(↑x.2.2.fst.length:Int))) (some (Sum.inr (1,{M:=0,S:=0})))
      (obnd (dzw (x.2.2.fst,[48])) fun y =>
       brn y (some (Sum.inr (1,{M:=0,S:=0})))
        (brn x.2.fst (some (Sum.inr (0,{M:=IntKind.i64.wrap (IntKind.u64.wrap (0-x.2.2.2.fst.lo)),S:=(↑x.2.2.fst.length:Int)})))
         (some (Sum.inl ((),x.fst)))))))))
def qzj:CutSpec tb:=⟨123,[(2,.ref 30),(5,.val 4),(7,.val 9),(9,.ro 154),(10,.val 4),(11,.val 4)],[(.normal,[]),(.ret,[(3,.val 63)])],[80,79,81,3,83,84,85,86,87,88,89,90,91,92,93,94,95,96,97,82,98,100,101,102,103,104,105,106,99,107,109,108,110,111,112,113,114,115,116],bzW⟩
theorem wzb:azi ([]:List (CutSpec tb)) (azD 123 Tryz.f176)=[]:=by kernel_rfl
theorem uzv:azm Tryz.prog tb Tryz.f176.ntmps (azD 123 Tryz.f176) qzj:=czF mixed (by kernel_rfl) lze rfl wzb .nil (fun x=>by kernel_rfl)
def lzG (x:List UInt8):Option (Dec×Int) :=
 obnd (fzd (x,[45])) fun y =>
  obnd (jzD (y.fst,[46])) fun y_1 =>
   brn (decide (y_1.fst=[]))
    (obnd (cat y_1.fst y_1.2.fst) fun z =>
     obnd (bzJ ({hi:=0,lo:=0,minus:=y.snd},true,false,z,0)) fun y_2 =>
      obnd (bzW ({M:=0,S:=0},y.snd,y_1.2.fst,y_2.2.fst,y_2.1)) fun y =>
       osum y (fun y=>some ({M:=IntKind.i64.wrap y_2.2.fst.lo,S:=(↑(List.length y_1.2.fst):Int)},0)) fun y=>some (y.2,y.1))
    (brn y_1.2.snd
     (brn (decide (y_1.2.fst=[]))
      (obnd (cat y_1.fst y_1.2.fst) fun z =>
       obnd (bzJ ({hi:=0,lo:=0,minus:=y.snd},true,false,z,0)) fun y_2 =>
        obnd (bzW ({M:=0,S:=0},y.snd,y_1.2.fst,y_2.2.fst,y_2.1)) fun y =>
         osum y (fun y=>some ({M:=IntKind.i64.wrap y_2.2.fst.lo,S:=(↑(List.length y_1.2.fst):Int)},0)) fun y=>some (y.2,y.1))
      (brn (decide (1<(↑(List.length y_1.fst):Int)))
       (obnd (idx y_1.fst 0) fun y_2 =>
        brn (decide ((↑y_2.toNat:Int)=48))
         (obnd (cat y_1.fst y_1.2.fst) fun z =>
          obnd (bzJ ({hi:=0,lo:=0,minus:=y.snd},true,false,z,0)) fun y_3 =>
           obnd (bzW ({M:=0,S:=0},y.snd,y_1.2.fst,y_3.2.fst,y_3.1)) fun y =>
            osum y (fun y=>some ({M:=IntKind.i64.wrap y_3.2.fst.lo,S:=(↑(List.length y_1.2.fst):Int)},0)) fun y=>some (y.2,y.1))
         (obnd (cat y_1.fst y_1.2.fst) fun z =>
          obnd (bzJ ({hi:=0,lo:=0,minus:=y.snd},decide (x=[45,48]),false,z,0)) fun y_3 =>
           obnd (bzW ({M:=0,S:=0},y.snd,y_1.2.fst,y_3.2.fst,y_3.1)) fun y =>
            osum y (fun y=>some ({M:=IntKind.i64.wrap y_3.2.fst.lo,S:=(↑(List.length y_1.2.fst):Int)},0)) fun y=>some (y.2,y.1)))
       (obnd (cat y_1.fst y_1.2.fst) fun z =>
        obnd (bzJ ({hi:=0,lo:=0,minus:=y.snd},decide (x=[45,48]),false,z,0)) fun y_2 =>
         obnd (bzW ({M:=0,S:=0},y.snd,y_1.2.fst,y_2.2.fst,y_2.1)) fun y =>
          osum y (fun y=>some ({M:=IntKind.i64.wrap y_2.2.fst.lo,S:=(↑(List.length y_1.2.fst):Int)},0)) fun y=>some (y.2,y.1))))
     (brn (decide (1<(↑(List.length y_1.fst):Int)))
      (obnd (idx y_1.fst 0) fun y_2 =>
       brn (decide ((↑y_2.toNat:Int)=48))
        (obnd (cat y_1.fst y_1.2.fst) fun z =>
         obnd (bzJ ({hi:=0,lo:=0,minus:=y.snd},true,false,z,0)) fun y_3 =>
          obnd (bzW ({M:=0,S:=0},y.snd,y_1.2.fst,y_3.2.fst,y_3.1)) fun y =>
           osum y (fun y=>some ({M:=IntKind.i64.wrap y_3.2.fst.lo,S:=(↑(List.length y_1.2.fst):Int)},0)) fun y=>some (y.2,y.1))
        (obnd (cat y_1.fst y_1.2.fst) fun z =>
         obnd (bzJ ({hi:=0,lo:=0,minus:=y.snd},decide (x=[45,48]),false,z,0)) fun y_3 =>
          obnd (bzW ({M:=0,S:=0},y.snd,y_1.2.fst,y_3.2.fst,y_3.1)) fun y =>
           osum y (fun y=>some ({M:=IntKind.i64.wrap y_3.2.fst.lo,S:=(↑(List.length y_1.2.fst):Int)},0)) fun y=>some (y.2,y.1)))
      (obnd (cat y_1.fst y_1.2.fst) fun z =>
       obnd (bzJ ({hi:=0,lo:=0,minus:=y.snd},decide (x=[45,48]),false,z,0)) fun y_2 =>
        obnd (bzW ({M:=0,S:=0},y.snd,y_1.2.fst,y_2.2.fst,y_2.1)) fun y =>
         osum y (fun y=>some ({M:=IntKind.i64.wrap y_2.2.fst.lo,S:=(↑(List.length y_1.2.fst):Int)},0)) fun y=>some (y.2,y.1))))
def Cz5:FSpec tb:=⟨[(0,.val 9)],[(0,.val 30),(1,.val 63)],lzG⟩
theorem AzC:azi ([qzk,qzj]:List (CutSpec tb)) (azA Tryz.f176)=[(68,.loop (azf 68 Tryz.f176)),(123,azD 123 Tryz.f176)]:=by kernel_rfl
theorem wzd:azd Tryz.prog tb 176 Cz5:=azL mixed Tryz.func176 (by kernel_rfl) lze rfl AzC (.cons rfl uzw rfl (.cons rfl uzv rfl .nil)) (fun x=>by kernel_rfl)
def hzG (x:Int):Option (Wide) :=
 brn (decide (x<0)) (some {hi:=0,lo:=IntKind.u64.wrap (0-IntKind.u64.wrap x),minus:=true}) (some {hi:=0,lo:=IntKind.u64.wrap x,minus:=false})
def dec_ofS:FSpec tb:=⟨[(0,.val 2)],[(0,.val 154)],hzG⟩
theorem gz0:azd Tryz.prog tb 94 dec_ofS:=azo mixed Tryz.func94 (by kernel_rfl) .nil rfl (fun x=>by kernel_rfl)
def ezx (x:Int×Int):Option (List UInt8) :=
 obnd (czX x) fun y=>some y
def qz3:FSpec tb:=⟨[(0,.val 152),(1,.val 3)],[(0,.val 9)],ezx⟩
theorem mzS:azd Tryz.prog tb 229 qz3:=azo mixed Tryz.func229 (by kernel_rfl) (.cons lzN .nil) rfl (fun x=>by kernel_rfl)
def nzb (x:Dec):Option (List UInt8) :=
 obnd (hzG x.M) fun y =>
  obnd (ezx (y.lo,10)) fun y_1 =>
   brn (decide (0<x.S))
    (obnd
     (bz5
      ([48],
       bif decide (IntKind.i64.wrap (IntKind.i64.wrap (x.S+1)-(↑(List.length y_1):Int))<0)then 0
       else IntKind.i64.wrap (IntKind.i64.wrap (x.S+1)-(↑(List.length y_1):Int))))
     fun y_2 =>
     obnd (cat y_2 y_1) fun z =>
      obnd (sub z 0 (IntKind.i64.wrap ((↑z.length:Int)-x.S))) fun z_1 =>
       obnd (cat z_1 [46]) fun z_2 =>
        obnd (sub z (IntKind.i64.wrap ((↑z.length:Int)-x.S)) (↑z.length:Int)) fun z =>
         obnd (cat z_2 z) fun z=>brn y.minus (obnd (cat [45] z) fun z=>some z) (some z))
    (brn y.minus (obnd (cat [45] y_1) fun z=>some z) (some y_1))
def dec_TextS:FSpec tb:=⟨[(0,.val 30)],[(0,.val 9)],nzb⟩
theorem xz4:azd Tryz.prog tb 175 dec_TextS:=azo mixed Tryz.func175 (by kernel_rfl) (.cons gz0 (.cons mzS (.cons jzE .nil))) rfl (fun x=>by kernel_rfl)
def izg (back:Int×Int×Int→Option (Int))(x:Int×Int×Int):Option (Int) :=
 brn (decide (x.2.snd<x.2.fst)) (back (IntKind.u64.wrap (x.fst*10),x.2.fst,IntKind.i64.wrap (x.2.snd+1))) (some x.1)
def lzg:Int×Int×Int→Option (Int):=iter izg big
def qzl:CutSpec tb:=⟨36,[(3,.val 152),(4,.val 3),(5,.val 3)],[((.exit 0),[(3,.val 152)])],[6,7,8,3,9,5],lzg⟩
theorem wzg:azi ([]:List (CutSpec tb)) (azf 36 Tryz.f96)=[]:=by kernel_rfl
theorem uzy:azm Tryz.prog tb Tryz.f96.ntmps (.loop (azf 36 Tryz.f96)) qzl:=azz mixed (by kernel_rfl) .nil rfl wzg .nil izg (fun back x=>by kernel_rfl) rfl
def dzg (x:Int):Option (Int) :=
 obnd (lzg (1,x,0)) fun y=>some y
def Cz6:FSpec tb:=⟨[(0,.val 3)],[(0,.val 152)],dzg⟩
theorem AzD:azi ([qzl]:List (CutSpec tb)) (azA Tryz.f96)=[(36,.loop (azf 36 Tryz.f96))]:=by kernel_rfl
theorem ezR:azd Tryz.prog tb 96 Cz6:=azL mixed Tryz.func96 (by kernel_rfl) .nil rfl AzD (.cons rfl uzy rfl .nil) (fun x=>by kernel_rfl)
def hz0 (x:Int×Int):Option (Int×Int) :=
 some
  (IntKind.u64.wrap
   (IntKind.u64.wrap
    (IntKind.u64.wrap (x.fst.fdiv 4294967296*x.snd.fdiv 4294967296) +
     (IntKind.u64.wrap
      (IntKind.u64.wrap (x.fst.fdiv 4294967296*azp BinOp.and IntKind.u64 x.snd 4294967295) +
       (IntKind.u64.wrap (azp BinOp.and IntKind.u64 x.fst 4294967295*azp BinOp.and IntKind.u64 x.snd 4294967295)).fdiv 4294967296)).fdiv
      4294967296) +
    (IntKind.u64.wrap
     (azp BinOp.and IntKind.u64
      (IntKind.u64.wrap
       (IntKind.u64.wrap (x.fst.fdiv 4294967296*azp BinOp.and IntKind.u64 x.snd 4294967295) +
        (IntKind.u64.wrap (azp BinOp.and IntKind.u64 x.fst 4294967295*azp BinOp.and IntKind.u64 x.snd 4294967295)).fdiv 4294967296))
      4294967295 +
      IntKind.u64.wrap (azp BinOp.and IntKind.u64 x.fst 4294967295*x.snd.fdiv 4294967296))).fdiv
     4294967296),
   IntKind.u64.wrap (x.fst*x.snd))
def Bz2:FSpec tb:=⟨[(0,.val 152),(1,.val 152)],[(0,.val 152),(1,.val 152)],hz0⟩
theorem lz5:azd Tryz.prog tb 98 Bz2:=azo mixed Tryz.func98 (by kernel_rfl) .nil rfl (fun x=>by kernel_rfl)
def dzz (x:Wide×Int):Option (Wide) :=
 obnd (hz0 (x.fst.lo,x.snd)) fun y=>some {hi:=IntKind.u64.wrap (IntKind.u64.wrap (x.fst.hi*x.snd)+y.fst),lo:=y.snd,minus:=x.fst.minus}
def wzj:FSpec tb:=⟨[(0,.val 154),(1,.val 152)],[(0,.val 154)],dzz⟩
theorem gzg:azd Tryz.prog tb 95 wzj:=azo mixed Tryz.func95 (by kernel_rfl) (.cons lz5 .nil) rfl (fun x=>by kernel_rfl)
def czN (x:Dec):Option (Wide) :=
 obnd (hzG x.M) fun y=>obnd (dzg (IntKind.i64.wrap (9-x.S))) fun y_1=>obnd (dzz (y,y_1)) fun y=>some y
def Bz9:FSpec tb:=⟨[(0,.val 30)],[(0,.val 154)],czN⟩
theorem gze:azd Tryz.prog tb 89 Bz9:=azo mixed Tryz.func89 (by kernel_rfl) (.cons gz0 (.cons ezR (.cons gzg .nil))) rfl (fun x=>by kernel_rfl)
def fz9 (x:Int):Option (Bool) :=
 some (bif decide (x=x)then false else true)
def uzr:FSpec tb:=⟨[(0,.val 2)],[(0,.val 4)],fz9⟩
theorem ozs:azd Tryz.prog tb 177 uzr:=azo mixed Tryz.func177 (by kernel_rfl) .nil rfl (fun x=>by kernel_rfl)
def dzk (x:Int×Int):Option (Int) :=
 obnd (fz9 x.fst) fun y =>
  obnd (fz9 x.snd) fun y_1 =>
   brn y (brn y_1 (some 0) (some (-1))) (brn y_1 (some 1) (brn (decide (x.fst<x.snd)) (some (-1)) (brn (decide (x.snd<x.fst)) (some 1) (some 0))))
def qz9:FSpec tb:=⟨[(0,.val 2),(1,.val 2)],[(0,.val 3)],dzk⟩
theorem mzX:azd Tryz.prog tb 90 qz9:=azo mixed Tryz.func90 (by kernel_rfl) (.cons ozs .nil) rfl (fun x=>by kernel_rfl)
def hzE (x:Int):Option (Bool) :=
 some (bif decide (x=x)then false else true)
def xzW:FSpec tb:=⟨[(0,.val 3)],[(0,.val 4)],hzE⟩
theorem qzQ:azd Tryz.prog tb 173 xzW:=azo mixed Tryz.func173 (by kernel_rfl) .nil rfl (fun x=>by kernel_rfl)
def azV (x:Int×Int):Option (Int) :=
 obnd (hzE x.fst) fun y =>
  obnd (hzE x.snd) fun y_1 =>
   brn y (brn y_1 (some 0) (some (-1))) (brn y_1 (some 1) (brn (decide (x.fst<x.snd)) (some (-1)) (brn (decide (x.snd<x.fst)) (some 1) (some 0))))
def izt:FSpec tb:=⟨[(0,.val 3),(1,.val 3)],[(0,.val 3)],azV⟩
theorem dzy:azd Tryz.prog tb 80 izt:=azo mixed Tryz.func80 (by kernel_rfl) (.cons qzQ .nil) rfl (fun x=>by kernel_rfl)
def czG (x:Wide×Wide):Option (Bool) :=
 brn (decide (x.fst.hi<x.snd.hi)) (some true) (brn (decide (x.fst.hi=x.snd.hi)) (some (decide (x.fst.lo<x.snd.lo))) (some false))
def xz6:FSpec tb:=⟨[(0,.val 154),(1,.val 154)],[(0,.val 4)],czG⟩
theorem jzQ:azd Tryz.prog tb 91 xz6:=azo mixed Tryz.func91 (by kernel_rfl) .nil rfl (fun x=>by kernel_rfl)
def czS (x:Dec×Dec):Option (Int) :=
 obnd (czN x.fst) fun y =>
  obnd (czN x.snd) fun y_1 =>
   brn (!decide (y.minus=y_1.minus))
    (obnd (dzk (x.fst.M,0)) fun y=>obnd (dzk (x.snd.M,0)) fun y_2=>obnd (azV (y,y_2)) fun y=>some y)
    (brn y.minus (obnd (czG (y,y_1)) fun y_2=>brn y_2 (some 1) (obnd (czG (y_1,y)) fun y=>brn y (some (-1)) (some 0)))
     (obnd (czG (y,y_1)) fun y_2=>brn y_2 (some (-1)) (obnd (czG (y_1,y)) fun y=>brn y (some 1) (some 0))))
def gzZ:FSpec tb:=⟨[(0,.val 30),(1,.val 30)],[(0,.val 3)],czS⟩
theorem fzq:azd Tryz.prog tb 34 gzZ:=azo mixed Tryz.func34 (by kernel_rfl) (.cons gze (.cons mzX (.cons dzy (.cons jzQ .nil)))) rfl (fun x=>by kernel_rfl)
def dz1 (x:Wide×Wide):Option (Wide) :=
 brn (decide (x.fst.minus=x.snd.minus))
  (obnd (fzg (x.fst.lo,x.snd.lo,0)) fun y=>some {hi:=IntKind.u64.wrap (IntKind.u64.wrap (x.fst.hi+x.snd.hi)+y.snd),lo:=y.fst,minus:=x.fst.minus})
  (obnd (czG x) fun y =>
   brn y (obnd (gzH (x.snd.lo,x.fst.lo,0)) fun y=>some {hi:=IntKind.u64.wrap (IntKind.u64.wrap (x.snd.hi-x.fst.hi)-y.snd),lo:=y.fst,minus:=x.snd.minus})
    (obnd (gzH (x.fst.lo,x.snd.lo,0)) fun y=>some {hi:=IntKind.u64.wrap (IntKind.u64.wrap (x.fst.hi-x.snd.hi)-y.snd),lo:=y.fst,minus:=x.fst.minus}))
def xz7:FSpec tb:=⟨[(0,.val 154),(1,.val 154)],[(0,.val 154)],dz1⟩
theorem jzR:azd Tryz.prog tb 92 xz7:=azo mixed Tryz.func92 (by kernel_rfl) (.consK lz4 (.cons jzQ (.consK uzm .nil))) rfl (fun x=>by kernel_rfl)
abbrev Bz0:List (Nat×FSpec tb):=[(260,izU)]
theorem jzX:azv Tryz.prog tb Bz0:=(.cons lzC .nil)
def fzy (back:Int×Int×Int×Int×Int→Option (Int))(x:Int×Int×Int×Int×Int):Option (Int) :=
 brn (decide (4294967296≤x.2.2.2.fst))
  (brn (decide (4294967296≤IntKind.u64.wrap (x.2.2.2.snd+x.fst))) (some (IntKind.u64.wrap (x.2.2.2.fst-1)))
   (back (x.fst,x.2.fst,x.2.2.fst,IntKind.u64.wrap (x.2.2.2.fst-1),IntKind.u64.wrap (x.2.2.2.snd+x.fst))))
  (brn (decide (IntKind.u64.wrap (IntKind.u64.wrap (4294967296*x.2.2.2.snd)+x.2.2.fst)<IntKind.u64.wrap (x.2.2.2.fst*x.2.fst)))
   (brn (decide (4294967296≤IntKind.u64.wrap (x.2.2.2.snd+x.fst))) (some (IntKind.u64.wrap (x.2.2.2.fst-1)))
    (back (x.fst,x.2.fst,x.2.2.fst,IntKind.u64.wrap (x.2.2.2.fst-1),IntKind.u64.wrap (x.2.2.2.snd+x.fst))))
   (some x.2.2.2.1))
def hzC:Int×Int×Int×Int×Int→Option (Int):=iter fzy big
def ozm:CutSpec tb:=⟨148,[(9,.val 152),(10,.val 152),(13,.val 152),(15,.val 152),(16,.val 152)],[((.exit 0),[(15,.val 152)])],[67,68,69,70,71,72,73,74,75,76,77,78,79,80,15,81,82,83,16,84,85],hzC⟩
theorem uzj:azi ([]:List (CutSpec tb)) (azf 148 Tryz.f233)=[]:=by kernel_rfl
theorem szM:azm Tryz.prog tb Tryz.f233.ntmps (.loop (azf 148 Tryz.f233)) ozm:=azz mixed (by kernel_rfl) jzX rfl uzj .nil fzy (fun back x=>by kernel_rfl) rfl
def fzz (back:Int×Int×Int×Int×Int→Option (Int))(x:Int×Int×Int×Int×Int):Option (Int) :=
 brn (decide (4294967296≤x.2.2.2.snd))
  (brn (decide (4294967296≤IntKind.u64.wrap (x.2.2.2.fst+x.fst))) (some (IntKind.u64.wrap (x.2.2.2.snd-1)))
   (back (x.fst,x.2.fst,x.2.2.fst,IntKind.u64.wrap (x.2.2.2.fst+x.fst),IntKind.u64.wrap (x.2.2.2.snd-1))))
  (brn (decide (IntKind.u64.wrap (IntKind.u64.wrap (4294967296*x.2.2.2.fst)+x.2.2.fst)<IntKind.u64.wrap (x.2.2.2.snd*x.2.fst)))
   (brn (decide (4294967296≤IntKind.u64.wrap (x.2.2.2.fst+x.fst))) (some (IntKind.u64.wrap (x.2.2.2.snd-1)))
    (back (x.fst,x.2.fst,x.2.2.fst,IntKind.u64.wrap (x.2.2.2.fst+x.fst),IntKind.u64.wrap (x.2.2.2.snd-1))))
   (some x.2.2.2.2))
def hzD:Int×Int×Int×Int×Int→Option (Int):=iter fzz big
def ozn:CutSpec tb:=⟨204,[(9,.val 152),(10,.val 152),(14,.val 152),(16,.val 152),(18,.val 152)],[((.exit 2),[(18,.val 152)])],[102,103,104,105,106,107,108,109,110,111,112,113,114,115,18,116,117,118,16,119,120],hzD⟩
theorem uzk:azi ([]:List (CutSpec tb)) (azf 204 Tryz.f233)=[]:=by kernel_rfl
theorem szN:azm Tryz.prog tb Tryz.f233.ntmps (.loop (azf 204 Tryz.f233)) ozn:=azz mixed (by kernel_rfl) jzX rfl uzk .nil fzz (fun back x=>by kernel_rfl) rfl
def hzZ (x:Int×Int×Int):Option (Int×Int) :=
 brn (decide (x.2.snd=0)) none
  (brn (decide (x.2.snd≤x.fst)) none
   (brn (decide (x.fst=0)) (brn (decide (x.2.snd=0)) none (brn (decide (x.2.snd=0)) none (some (IntKind.u64.wrap (x.2.fst.tdiv x.2.snd),x.2.fst.tmod x.2.snd))))
    (obnd (dzR x.2.snd) fun y =>
     brn (decide (IntKind.u64.wrap y<0)) none
      (brn (decide (IntKind.u64.wrap y<0)) none
       (brn (decide (IntKind.u64.wrap (64-IntKind.u64.wrap y)<0)) none
        (brn (decide (IntKind.u64.wrap y<0)) none
         (brn (decide ((IntKind.u64.wrap (x.2.snd*2^min (IntKind.u64.wrap y).toNat 64)).fdiv 4294967296=0)) none
          (obnd
           (hzC
            ((IntKind.u64.wrap (x.2.snd*2^min (IntKind.u64.wrap y).toNat 64)).fdiv 4294967296,
             azp BinOp.and IntKind.u64 (IntKind.u64.wrap (x.2.snd*2^min (IntKind.u64.wrap y).toNat 64)) 4294967295,
             (IntKind.u64.wrap (x.2.fst*2^min (IntKind.u64.wrap y).toNat 64)).fdiv 4294967296,
             IntKind.u64.wrap
              ((azp BinOp.or IntKind.u64 (IntKind.u64.wrap (x.fst*2^min (IntKind.u64.wrap y).toNat 64))
               (x.2.fst.fdiv (2^min (IntKind.u64.wrap (64-IntKind.u64.wrap y)).toNat 64))).tdiv
               ((IntKind.u64.wrap (x.2.snd*2^min (IntKind.u64.wrap y).toNat 64)).fdiv 4294967296)),
             IntKind.u64.wrap
              (azp BinOp.or IntKind.u64 (IntKind.u64.wrap (x.fst*2^min (IntKind.u64.wrap y).toNat 64))
               (x.2.fst.fdiv (2^min (IntKind.u64.wrap (64-IntKind.u64.wrap y)).toNat 64)) -
               IntKind.u64.wrap
                (IntKind.u64.wrap
                 ((azp BinOp.or IntKind.u64 (IntKind.u64.wrap (x.fst*2^min (IntKind.u64.wrap y).toNat 64))
                  (x.2.fst.fdiv (2^min (IntKind.u64.wrap (64-IntKind.u64.wrap y)).toNat 64))).tdiv
                  ((IntKind.u64.wrap (x.2.snd*2^min (IntKind.u64.wrap y).toNat 64)).fdiv 4294967296)) *
                 (IntKind.u64.wrap (x.2.snd*2^min (IntKind.u64.wrap y).toNat 64)).fdiv 4294967296))))
           fun y_1 =>
           brn (decide ((IntKind.u64.wrap (x.2.snd*2^min (IntKind.u64.wrap y).toNat 64)).fdiv 4294967296=0)) none
            (obnd
             (hzD
              ((IntKind.u64.wrap (x.2.snd*2^min (IntKind.u64.wrap y).toNat 64)).fdiv 4294967296,
               azp BinOp.and IntKind.u64 (IntKind.u64.wrap (x.2.snd*2^min (IntKind.u64.wrap y).toNat 64)) 4294967295,
               azp BinOp.and IntKind.u64 (IntKind.u64.wrap (x.2.fst*2^min (IntKind.u64.wrap y).toNat 64)) 4294967295,
               IntKind.u64.wrap
                (IntKind.u64.wrap
                 (IntKind.u64.wrap
                  (IntKind.u64.wrap
                   (azp BinOp.or IntKind.u64 (IntKind.u64.wrap (x.fst*2^min (IntKind.u64.wrap y).toNat 64))
                    (x.2.fst.fdiv (2^min (IntKind.u64.wrap (64-IntKind.u64.wrap y)).toNat 64)) *
                    4294967296) +
                   (IntKind.u64.wrap (x.2.fst*2^min (IntKind.u64.wrap y).toNat 64)).fdiv 4294967296) -
                  IntKind.u64.wrap (y_1*IntKind.u64.wrap (x.2.snd*2^min (IntKind.u64.wrap y).toNat 64))) -
                 IntKind.u64.wrap
                  (IntKind.u64.wrap
                   ((IntKind.u64.wrap
                    (IntKind.u64.wrap
                     (IntKind.u64.wrap
                      (azp BinOp.or IntKind.u64 (IntKind.u64.wrap (x.fst*2^min (IntKind.u64.wrap y).toNat 64))
                       (x.2.fst.fdiv (2^min (IntKind.u64.wrap (64-IntKind.u64.wrap y)).toNat 64)) *
                       4294967296) +
                      (IntKind.u64.wrap (x.2.fst*2^min (IntKind.u64.wrap y).toNat 64)).fdiv 4294967296) -
                     IntKind.u64.wrap (y_1*IntKind.u64.wrap (x.2.snd*2^min (IntKind.u64.wrap y).toNat 64)))).tdiv
                    ((IntKind.u64.wrap (x.2.snd*2^min (IntKind.u64.wrap y).toNat 64)).fdiv 4294967296)) *
                   (IntKind.u64.wrap (x.2.snd*2^min (IntKind.u64.wrap y).toNat 64)).fdiv 4294967296)),
               IntKind.u64.wrap
                ((IntKind.u64.wrap
                 (IntKind.u64.wrap
                  (IntKind.u64.wrap
                   (azp BinOp.or IntKind.u64 (IntKind.u64.wrap (x.fst*2^min (IntKind.u64.wrap y).toNat 64))
                    (x.2.fst.fdiv (2^min (IntKind.u64.wrap (64-IntKind.u64.wrap y)).toNat 64)) *
                    4294967296) +
                   (IntKind.u64.wrap (x.2.fst*2^min (IntKind.u64.wrap y).toNat 64)).fdiv 4294967296) -
                  IntKind.u64.wrap (y_1*IntKind.u64.wrap (x.2.snd*2^min (IntKind.u64.wrap y).toNat 64)))).tdiv
                 ((IntKind.u64.wrap (x.2.snd*2^min (IntKind.u64.wrap y).toNat 64)).fdiv 4294967296))))
             fun y_2 =>
             brn (decide (IntKind.u64.wrap y<0)) none
              (some
               (IntKind.u64.wrap (IntKind.u64.wrap (y_1*4294967296)+y_2),
                (IntKind.u64.wrap
                 (IntKind.u64.wrap
                  (IntKind.u64.wrap
                   (IntKind.u64.wrap
                    (IntKind.u64.wrap
                     (IntKind.u64.wrap
                      (azp BinOp.or IntKind.u64 (IntKind.u64.wrap (x.fst*2^min (IntKind.u64.wrap y).toNat 64))
                       (x.2.fst.fdiv (2^min (IntKind.u64.wrap (64-IntKind.u64.wrap y)).toNat 64)) *
                       4294967296) +
                      (IntKind.u64.wrap (x.2.fst*2^min (IntKind.u64.wrap y).toNat 64)).fdiv 4294967296) -
                     IntKind.u64.wrap (y_1*IntKind.u64.wrap (x.2.snd*2^min (IntKind.u64.wrap y).toNat 64))) *
                    4294967296) +
                   azp BinOp.and IntKind.u64 (IntKind.u64.wrap (x.2.fst*2^min (IntKind.u64.wrap y).toNat 64)) 4294967295) -
                  IntKind.u64.wrap (y_2*IntKind.u64.wrap (x.2.snd*2^min (IntKind.u64.wrap y).toNat 64)))).fdiv
                 (2^min (IntKind.u64.wrap y).toNat 64))))))))))))
def Bz1:FSpec tb:=⟨[(0,.val 152),(1,.val 152),(2,.val 152)],[(0,.val 152),(1,.val 152)],hzZ⟩
theorem zzK:azi ([ozm,ozn]:List (CutSpec tb)) (azA Tryz.f233)=[(148,.loop (azf 148 Tryz.f233)),(204,.loop (azf 204 Tryz.f233))]:=by kernel_rfl
theorem uzl:azd Tryz.prog tb 233 Bz1:=azL mixed Tryz.func233 (by kernel_rfl) jzX rfl zzK (.cons rfl szM rfl (.cons rfl szN rfl .nil)) (fun x=>by kernel_rfl)
def gz1 (x:Wide×Int):Option (Wide×Int) :=
 brn (decide (x.snd=0)) none
  (brn (decide (x.snd=0)) none
   (obnd (hzZ (x.fst.hi.tmod x.snd,x.fst.lo,x.snd)) fun y=>some ({hi:=IntKind.u64.wrap (x.fst.hi.tdiv x.snd),lo:=y.fst,minus:=x.fst.minus},y.snd)))
def rzd:FSpec tb:=⟨[(0,.val 154),(1,.val 152)],[(0,.val 154),(1,.val 152)],gz1⟩
theorem lzx:azd Tryz.prog tb 180 rzd:=azo mixed Tryz.func180 (by kernel_rfl) (.cons uzl .nil) rfl (fun x=>by kernel_rfl)
abbrev zzO:List (Nat×FSpec tb):=[(180,rzd)]
theorem mza:azv Tryz.prog tb zzO:=(.cons lzx .nil)
def izu (back:Int×Wide→Option ((Int)×Wide))(x:Int×Wide):Option ((Int)×Wide) :=
 brn (decide (0<x.fst)) (obnd (gz1 (x.snd,10)) fun y=>brn (!decide (y.snd=0)) (some x) (back (IntKind.i64.wrap (x.fst-1),y.fst))) (some x)
def izv:Int×Wide→Option ((Int)×Wide):=iter izu big
def mzb:CutSpec tb:=⟨20,[(1,.val 3),(2,.ref 154)],[((.exit 0),[(1,.val 3)])],[8,9,11,12,10,13,14,6,7,15,16,17,18,19,1],izv⟩
theorem rze:azi ([]:List (CutSpec tb)) (azf 20 Tryz.f93)=[]:=by kernel_rfl
theorem qzR:azm Tryz.prog tb Tryz.f93.ntmps (.loop (azf 20 Tryz.f93)) mzb:=azz mixed (by kernel_rfl) mza rfl rze .nil izu (fun back x=>by kernel_rfl) rfl
def bzX (x:Wide×Int):Option (Dec×Int) :=
 obnd (izv (x.snd,x.fst)) fun y =>
  brn (!decide (y.2.hi=0)) (some ({M:=0,S:=0},8))
   (brn (decide (9223372036854775808<y.2.lo)) (some ({M:=0,S:=0},8))
    (brn (decide (y.2.lo=9223372036854775808))
     (brn (!y.2.minus) (some ({M:=0,S:=0},8))
      (brn y.2.minus (some ({M:=IntKind.i64.wrap (IntKind.u64.wrap (0-y.2.lo)),S:=y.1},0)) (some ({M:=IntKind.i64.wrap y.2.lo,S:=y.1},0))))
     (brn y.2.minus (some ({M:=IntKind.i64.wrap (IntKind.u64.wrap (0-y.2.lo)),S:=y.1},0)) (some ({M:=IntKind.i64.wrap y.2.lo,S:=y.1},0)))))
def zzP:FSpec tb:=⟨[(0,.val 154),(1,.val 3)],[(0,.val 30),(1,.val 63)],bzX⟩
theorem wzh:azi ([mzb]:List (CutSpec tb)) (azA Tryz.f93)=[(20,.loop (azf 20 Tryz.f93))]:=by kernel_rfl
theorem dzm:azd Tryz.prog tb 93 zzP:=azL mixed Tryz.func93 (by kernel_rfl) mza rfl wzh (.cons rfl qzR rfl .nil) (fun x=>by kernel_rfl)
def jz0 (x:Dec×Dec):Option (Dec×Int) :=
 obnd (czN x.fst) fun y=>obnd (czN x.snd) fun y_1=>obnd (dz1 (y,y_1)) fun y=>obnd (bzX (y,9)) fun y=>some y
def uzt:FSpec tb:=⟨[(0,.val 30),(1,.val 30)],[(0,.val 30),(1,.val 63)],jz0⟩
theorem qzh:azd Tryz.prog tb 87 uzt:=azo mixed Tryz.func87 (by kernel_rfl) (.cons gze (.cons jzR (.cons dzm .nil))) rfl (fun x=>by kernel_rfl)
def izY (x:Wide):Option (Wide) :=
 obnd (fzg (x.lo,1,0)) fun y=>some {hi:=IntKind.u64.wrap (x.hi+y.snd),lo:=y.fst,minus:=x.minus}
def AzE:FSpec tb:=⟨[(0,.val 154)],[(0,.val 154)],izY⟩
theorem szP:azd Tryz.prog tb 181 AzE:=azo mixed Tryz.func181 (by kernel_rfl) (.consK lz4 .nil) rfl (fun x=>by kernel_rfl)
def czs (x:Wide×Int):Option (Wide) :=
 obnd (gz1 x) fun y=>brn (decide (IntKind.u64.wrap (x.snd-y.snd)≤y.snd)) (obnd (izY y.fst) fun y=>some y) (some y.fst)
def wzi:FSpec tb:=⟨[(0,.val 154),(1,.val 152)],[(0,.val 154)],czs⟩
theorem gzf:azd Tryz.prog tb 97 wzi:=azo mixed Tryz.func97 (by kernel_rfl) (.cons lzx (.cons szP .nil)) rfl (fun x=>by kernel_rfl)
def dzE (x:Dec×Dec):Option (Dec×Int) :=
 brn (decide (x.snd.M=0)) (some ({M:=0,S:=0},9))
  (obnd (hzG x.snd.M) fun y =>
   obnd (czN x.fst) fun y_1 =>
    obnd (dzg x.snd.S) fun y_2 =>
     obnd (dzz (y_1,y_2)) fun y_3 =>
      obnd (czs ({hi:=y_3.hi,lo:=y_3.lo,minus:=!decide (y_3.minus=y.minus)},y.lo)) fun y=>obnd (bzX (y,9)) fun y=>some y)
def pzy:FSpec tb:=⟨[(0,.val 30),(1,.val 30)],[(0,.val 30),(1,.val 63)],dzE⟩
theorem ize:azd Tryz.prog tb 36 pzy:=azo mixed Tryz.func36 (by kernel_rfl) (.cons gz0 (.cons gze (.cons ezR (.cons gzg (.cons gzf (.cons dzm .nil)))))) rfl (fun x=>by kernel_rfl)
def gzd (x:Dec×Dec):Option (Dec×Int) :=
 obnd (czN x.snd) fun y =>
  obnd (czN x.fst) fun y_1=>obnd (dz1 (y_1,{hi:=y.hi,lo:=y.lo,minus:=!y.minus})) fun y=>obnd (bzX (y,9)) fun y=>some y
def uzx:FSpec tb:=⟨[(0,.val 30),(1,.val 30)],[(0,.val 30),(1,.val 63)],gzd⟩
theorem lzf:azd Tryz.prog tb 35 uzx:=azo mixed Tryz.func35 (by kernel_rfl) (.cons gze (.cons jzR (.cons dzm .nil))) rfl (fun x=>by kernel_rfl)
def gzc (x:Dec):Option (Dec×Int) :=
 obnd (dzg x.S) fun y =>
  brn (decide (IntKind.i64.wrap y=0)) none
   (obnd (dzg x.S) fun y_1 =>
    brn (decide (IntKind.i64.wrap y_1=0)) none
     (brn (decide (x.M.tmod (IntKind.i64.wrap y_1)<0)) (some ({M:=IntKind.i64.wrap (IntKind.i64.wrap (x.M.tdiv (IntKind.i64.wrap y))-1),S:=0},0))
      (some ({M:=IntKind.i64.wrap (x.M.tdiv (IntKind.i64.wrap y)),S:=0},0))))
def vz8:FSpec tb:=⟨[(0,.val 30)],[(0,.val 30),(1,.val 63)],gzc⟩
theorem vz9:azd Tryz.prog tb 151 vz8:=azo mixed Tryz.func151 (by kernel_rfl) (.cons ezR .nil) rfl (fun x=>by kernel_rfl)
def izX (back:Dec→Option ((Unit)×Dec))(x:Dec):Option ((Unit)×Dec) :=
 brn (decide (0<x.S)) (brn (decide (x.M.tmod 10=0)) (back {M:=IntKind.i64.wrap (x.M.tdiv 10),S:=IntKind.i64.wrap (x.S-1)}) (some ((),x))) (some ((),x))
def lz9:Dec→Option ((Unit)×Dec):=iter izX big
def rzc:CutSpec tb:=⟨20,[(1,.ref 30)],[((.exit 0),[])],[3,4,5,6,7,8,9,10,11,12,13,14,15,16,17,18],lz9⟩
theorem xz2:azi ([]:List (CutSpec tb)) (azf 20 Tryz.f31)=[]:=by kernel_rfl
theorem wza:azm Tryz.prog tb Tryz.f31.ntmps (.loop (azf 20 Tryz.f31)) rzc:=azz mixed (by kernel_rfl) .nil rfl xz2 .nil izX (fun back x=>by kernel_rfl) rfl
def fz5 (x:Dec):Option (Dec) :=
 obnd (lz9 x) fun y=>some y.2
def dec_NormS:FSpec tb:=⟨[(0,.val 30)],[(0,.val 30)],fz5⟩
theorem Bz8:azi ([rzc]:List (CutSpec tb)) (azA Tryz.f31)=[(20,.loop (azf 20 Tryz.f31))]:=by kernel_rfl
theorem xz3:azd Tryz.prog tb 31 dec_NormS:=azL mixed Tryz.func31 (by kernel_rfl) .nil rfl Bz8 (.cons rfl wza rfl .nil) (fun x=>by kernel_rfl)
def dzS (x:Dec×Int):Option (Dec×Int) :=
 brn (decide (x.snd < -18)) (some ({M:=0,S:=0},1))
  (brn (decide (9<x.snd)) (some ({M:=0,S:=0},1))
   (brn (decide (x.fst.S≤x.snd)) (some (x.fst,0))
    (obnd (hzG x.fst.M) fun y =>
     brn (decide (19<IntKind.i64.wrap (x.fst.S-x.snd))) (some ({M:=0,S:=0},0))
      (obnd (dzg (IntKind.i64.wrap (x.fst.S-x.snd))) fun y_1 =>
       obnd (czs (y,y_1)) fun y =>
        brn (decide (x.snd<0))
         (obnd (dzg (IntKind.i64.wrap (0-x.snd))) fun y_2=>obnd (dzz (y,y_2)) fun y=>obnd (bzX (y,0)) fun y=>some y)
         (obnd (bzX (y,x.snd)) fun y=>some y)))))
def wze:FSpec tb:=⟨[(0,.val 30),(1,.val 3)],[(0,.val 30),(1,.val 63)],dzS⟩
theorem wzf:azd Tryz.prog tb 153 wze:=azo mixed Tryz.func153 (by kernel_rfl) (.cons gz0 (.cons ezR (.cons gzf (.cons gzg (.cons dzm .nil))))) rfl (fun x=>by kernel_rfl)
def gzR (x:Int):Option (Bool) :=
 some (bif decide (x=x)then false else true)
def vz4:FSpec tb:=⟨[(0,.val 21)],[(0,.val 4)],gzR⟩
theorem pzw:azd Tryz.prog tb 228 vz4:=azo mixed Tryz.func228 (by kernel_rfl) .nil rfl (fun x=>by kernel_rfl)
def fzp (x:Int×Int):Option (Int) :=
 obnd (gzR x.fst) fun y =>
  obnd (gzR x.snd) fun y_1 =>
   brn y (brn y_1 (some 0) (some (-1))) (brn y_1 (some 1) (brn (decide (x.fst<x.snd)) (some (-1)) (brn (decide (x.snd<x.fst)) (some 1) (some 0))))
def lzw:FSpec tb:=⟨[(0,.val 21),(1,.val 21)],[(0,.val 3)],fzp⟩
theorem nzZ:azd Tryz.prog tb 174 lzw:=azo mixed Tryz.func174 (by kernel_rfl) (.cons pzw .nil) rfl (fun x=>by kernel_rfl)
def fzh (x:Dec×Dec):Option (Dec×Int) :=
 obnd (hzG x.fst.M) fun y =>
  obnd (hzG x.snd.M) fun y_1 =>
   obnd (hz0 (y.lo,y_1.lo)) fun y_2 =>
    brn (decide (9<IntKind.i64.wrap (x.fst.S+x.snd.S)))
     (obnd (dzg (IntKind.i64.wrap (IntKind.i64.wrap (x.fst.S+x.snd.S)-9))) fun y_3 =>
      obnd (czs ({hi:=y_2.fst,lo:=y_2.snd,minus:=!decide (y.minus=y_1.minus)},y_3)) fun y=>obnd (bzX (y,9)) fun y=>some y)
     (obnd (bzX ({hi:=y_2.fst,lo:=y_2.snd,minus:=!decide (y.minus=y_1.minus)},IntKind.i64.wrap (x.fst.S+x.snd.S))) fun y=>some y)
def uzu:FSpec tb:=⟨[(0,.val 30),(1,.val 30)],[(0,.val 30),(1,.val 63)],fzh⟩
theorem qzi:azd Tryz.prog tb 37 uzu:=azo mixed Tryz.func37 (by kernel_rfl) (.cons gz0 (.cons lz5 (.cons ezR (.cons gzf (.cons dzm .nil))))) rfl (fun x=>by kernel_rfl)
def vz7 (x:Dec):Option (Int) :=
 brn (decide (x.S<0)) (some 1) (brn (decide (9<x.S)) (some 1) (brn (decide (0<x.S)) (brn (decide (x.M.tmod 10=0)) (some 1) (some 0)) (some 0)))
end Go.Proofs.YtdgpkbnnljblmaaGreatDoor
/- U1 -/
namespace Go.Proofs
open Go.Shelf
def Tryz.lays196_ren:Go.Shelf.Ren:=⟨fun|196=>182|259=>234|n=>n,fun|9=>9|4=>4|3=>3|5=>5|12=>12|119=>320|0=>0|46=>145|139=>323|138=>322|53=>152|n=>n,fun|3=>0|4=>1|n=>n⟩
theorem Tryz.lays196:Go.Proofs.Lays.n196 Tryz.prog Tryz.lays196_ren where
 mixed:=by kernel_rfl
 f196:=Tryz.func182.trans (congrArg some (by kernel_rfl))
 f259:=Tryz.func234.trans (congrArg some (by kernel_rfl))
 t0:=Tryz.underlying0
 a0:=Tryz.isAgg0
 z0:=Tryz.sizeOf0
 v0:=Tryz.zeroValue0
 t3:=Tryz.underlying3
 a3:=Tryz.isAgg3
 z3:=Tryz.sizeOf3
 v3:=Tryz.zeroValue3
 t4:=Tryz.underlying4
 a4:=Tryz.isAgg4
 z4:=Tryz.sizeOf4
 v4:=Tryz.zeroValue4
 t5:=Tryz.underlying5
 a5:=Tryz.isAgg5
 z5:=Tryz.sizeOf5
 v5:=Tryz.zeroValue5
 t9:=Tryz.underlying9
 a9:=Tryz.isAgg9
 z9:=Tryz.sizeOf9
 v9:=Tryz.zeroValue9
 t12:=Tryz.underlying12
 a12:=Tryz.isAgg12
 z12:=Tryz.sizeOf12
 v12:=Tryz.zeroValue12
 t46:=Tryz.underlying145
 a46:=Tryz.isAgg145
 z46:=Tryz.sizeOf145
 v46:=Tryz.zeroValue145
 t53:=Tryz.underlying152
 a53:=Tryz.isAgg152
 z53:=Tryz.sizeOf152
 v53:=Tryz.zeroValue152
 t119:=Tryz.underlying320
 a119:=Tryz.isAgg320
 z119:=Tryz.sizeOf320
 t138:=Tryz.underlying322
 a138:=Tryz.isAgg322
 z138:=Tryz.sizeOf322
 v138:=Tryz.zeroValue322
 t139:=Tryz.underlying323
 a139:=Tryz.isAgg323
 z139:=Tryz.sizeOf323
 v139:=Tryz.zeroValue323
 g3:=by kernel_rfl
 g4:=by kernel_rfl
end Go.Proofs
namespace Go.Proofs.YtdgpkbnnljblmaaGreatDoor
open Go Go.Ev Go.RowKit
def hzY (x:List UInt8):Option Bool:=some (Lib.validD x)
def tzC:FSpec tb:=⟨[(0,.val 9)],[(0,.val 4)],hzY⟩
set_option maxRecDepth 100000 in
theorem ozg:azd Tryz.prog tb 182 tzC:=by
 refine szA (enters_of (c:=azA Tryz.f182) Tryz.func182 (by kernel_rfl) (by kernel_rfl)) rfl fun g w (x:List UInt8) vs bs (y:Bool) hy hinv hh=>?_
 obtain⟨v0,vs,b0,bs,rfl,rfl⟩:=azW hh;have h0:=hh;obtain⟨rfl,rfl⟩:vs=[]∧bs=[]:=by
  cases vs<;>cases bs<;>first|exact⟨rfl,rfl⟩|exact h0.elim
 obtain⟨e0,r0⟩:=pzK lz0 (lzX _) h0.1;subst e0;have hy:=Option.some.inj (show some (Lib.validD x)=some y from hy);subst hy;refine⟨_,[.bool (Lib.validD x)],rfl,fun g w=>⟨yzu notAgg4 (enc4_eq _),rfl⟩,?_⟩;refine(Any.utf8_ValidString Tryz.lays196 ⟨x.toArray⟩ w (by simp[ByteArray.size];unfold az2 at r0;omega) hinv.2.2.1).mono ?_;rintro e w' ⟨rfl,hb⟩;exact⟨rfl,nz6 hb⟩
end Go.Proofs.YtdgpkbnnljblmaaGreatDoor
/- V1 -/
namespace Go.Proofs.YtdgpkbnnljblmaaGreatDoor
open Go Go.Ev
set_option linter.unusedVariables false
def hzK (x:Int):Option (Val) :=
 obnd (bzr x) fun y=>some {Kind:=1,N:=y,S:=[],B:=false,E:=0}
def law9_NS:FSpec tb:=⟨[(0,.val 2)],[(0,.val 32)],hzK⟩
theorem mzw:azd Tryz.prog tb 26 law9_NS:=azo mixed Tryz.func26 (by kernel_rfl) (.cons cz4 .nil) rfl (fun x=>by kernel_rfl)
def azn (x:Int):Option (Val) :=
 some {Kind:=4,N:={M:=0,S:=0},S:=[],B:=false,E:=x}
def dzW:FSpec tb:=⟨[(0,.val 3)],[(0,.val 32)],azn⟩
theorem azJ:azd Tryz.prog tb 32 dzW:=azo mixed Tryz.func32 (by kernel_rfl) .nil rfl (fun x=>by kernel_rfl)
def az4 (x:Val):Option (Dec×Val×Bool) :=
 brn (decide (x.Kind=1)) (some (x.N,{Kind:=0,N:={M:=0,S:=0},S:=[],B:=false,E:=0},true))
  (brn (decide (x.Kind=2))
   (obnd (lzG x.S) fun y =>
    brn (decide (y.snd=0)) (some (y.fst,{Kind:=0,N:={M:=0,S:=0},S:=[],B:=false,E:=0},true))
     (obnd (azn 15) fun y=>some ({M:=0,S:=0},y,false)))
   (brn (decide (x.Kind=3))
    (brn x.B (obnd (bzr 1) fun y=>some (y,{Kind:=0,N:={M:=0,S:=0},S:=[],B:=false,E:=0},true))
     (some ({M:=0,S:=0},{Kind:=0,N:={M:=0,S:=0},S:=[],B:=false,E:=0},true)))
    (brn (decide (x.Kind=4)) (some ({M:=0,S:=0},x,false)) (some ({M:=0,S:=0},{Kind:=0,N:={M:=0,S:=0},S:=[],B:=false,E:=0},true)))))
def izd:FSpec tb:=⟨[(0,.val 32)],[(0,.val 30),(1,.val 32),(2,.val 4)],az4⟩
theorem czf:azd Tryz.prog tb 85 izd:=azo mixed Tryz.func85 (by kernel_rfl) (.cons wzd (.cons azJ (.cons cz4 .nil))) rfl (fun x=>by kernel_rfl)
def bzV (x:Val):Option (Bool×Val×Bool) :=
 brn (decide (x.Kind=1)) (some (!decide (x.N.M=0),{Kind:=0,N:={M:=0,S:=0},S:=[],B:=false,E:=0},true))
  (brn (decide (x.Kind=2))
   (brn (!decide (x.S=[84,82,85,69]))
    (brn (!decide (x.S=U8s [70,65,76,83,69])) (obnd (azn 15) fun y=>some (false,y,false))
     (some (decide (x.S=[84,82,85,69]),{Kind:=0,N:={M:=0,S:=0},S:=[],B:=false,E:=0},true)))
    (some (decide (x.S=[84,82,85,69]),{Kind:=0,N:={M:=0,S:=0},S:=[],B:=false,E:=0},true)))
   (brn (decide (x.Kind=3)) (some (x.B,{Kind:=0,N:={M:=0,S:=0},S:=[],B:=false,E:=0},true))
    (brn (decide (x.Kind=4)) (some (false,x,false)) (some (false,{Kind:=0,N:={M:=0,S:=0},S:=[],B:=false,E:=0},true)))))
def qzb:FSpec tb:=⟨[(0,.val 32)],[(0,.val 4),(1,.val 32),(2,.val 4)],bzV⟩
theorem jzJ:azd Tryz.prog tb 65 qzb:=azo mixed Tryz.func65 (by kernel_rfl) (.cons azJ .nil) rfl (fun x=>by kernel_rfl)
def nzV (x:Int):Option (List UInt8) :=
 brn (decide (x=0)) (some (U8s [35,78,85,76,76,33]))
  (brn (decide (x=7)) (some (U8s [35,68,73,86,47,48,33]))
   (brn (decide (x=15)) (some (U8s [35,86,65,76,85,69,33]))
    (brn (decide (x=23)) (some (U8s [35,82,69,70,33]))
     (brn (decide (x=29)) (some (U8s [35,78,65,77,69,63]))
      (brn (decide (x=36)) (some (U8s [35,78,85,77,33])) (brn (decide (x=42)) (some [35,78,47,65]) (some [])))))))
def val_nameS:FSpec tb:=⟨[(0,.val 3)],[(0,.val 9)],nzV⟩
theorem yzV:azd Tryz.prog tb 102 val_nameS:=azo mixed Tryz.func102 (by kernel_rfl) .nil rfl (fun x=>by kernel_rfl)
def cz8 (x:Val):Option (List UInt8) :=
 brn (decide (x.Kind=1)) (obnd (nzb x.N) fun y=>some y)
  (brn (decide (x.Kind=2)) (some x.3)
   (brn (decide (x.Kind=3)) (brn x.B (some [84,82,85,69]) (some (U8s [70,65,76,83,69]))) (brn (decide (x.Kind=4)) (obnd (nzV x.E) fun y=>some y) (some []))))
def zzF:FSpec tb:=⟨[(0,.val 32)],[(0,.val 9)],cz8⟩
theorem pzk:azd Tryz.prog tb 84 zzF:=azo mixed Tryz.func84 (by kernel_rfl) (.cons xz4 (.cons yzV .nil)) rfl (fun x=>by kernel_rfl)
def cz2 (x:Val):Option (List UInt8×Val×Bool) :=
 brn (decide (x.Kind=4)) (some ([],x,false)) (obnd (cz8 x) fun y=>some (y,{Kind:=0,N:={M:=0,S:=0},S:=[],B:=false,E:=0},true))
def qzc:FSpec tb:=⟨[(0,.val 32)],[(0,.val 9),(1,.val 32),(2,.val 4)],cz2⟩
theorem nzU:azd Tryz.prog tb 142 qzc:=azo mixed Tryz.func142 (by kernel_rfl) (.cons pzk .nil) rfl (fun x=>by kernel_rfl)
def gzG (back:List (Int)×((List UInt8×Nat))→Option ((List (Int))×((List UInt8×Nat))))(x:List (Int)×((List UInt8×Nat))):Option ((List (Int))×((List UInt8×Nat))) :=
 brn (decide (x.snd.snd<x.snd.fst.length))
  (brn (decide ((↑(rune x.snd.fst x.snd.snd).fst:Int)<65536))
   (obnd (app 8 x.fst [IntKind.i64.wrap (↑(rune x.snd.fst x.snd.snd).fst:Int)]) fun zs=>back (zs,x.snd.fst,x.snd.snd+(rune x.snd.fst x.snd.snd).snd))
   (obnd
    (app 8 x.fst
     [IntKind.i64.wrap (55296+IntKind.i64.wrap ((IntKind.i32.wrap ((↑(rune x.snd.fst x.snd.snd).fst:Int)-65536)).fdiv 1024)),
      IntKind.i64.wrap (56320+IntKind.i64.wrap (azp BinOp.and IntKind.i32 (IntKind.i32.wrap ((↑(rune x.snd.fst x.snd.snd).fst:Int)-65536)) 1023))])
    fun zs=>back (zs,x.snd.fst,x.snd.snd+(rune x.snd.fst x.snd.snd).snd)))
  (some x)
def lzu:List (Int)×((List UInt8×Nat))→Option ((List (Int))×((List UInt8×Nat))):=iter gzG big
def izo:CutSpec tb:=⟨36,[(3,.own 3),(7,.iter)],[((.exit 0),[(3,.own 3)])],[8,9,10,5,11,12,13,14,15,16,17,3,18,19,20,21,22,23,24,25,26,27,28,29,30],lzu⟩
set_option maxRecDepth 100000 in
theorem xzE:∀back x,fzE Tryz.prog tb [] [] (azf 36 Tryz.f183) izo.ins izo.outs back x=gzG back x:=fun back x=>by kernel_rfl
theorem xzF:azi ([]:List (CutSpec tb)) (azf 36 Tryz.f183)=[]:=by kernel_rfl
theorem vzO:azm Tryz.prog tb Tryz.f183.ntmps (.loop (azf 36 Tryz.f183)) izo:=azz mixed (by kernel_rfl) .nil rfl xzF .nil gzG xzE rfl
def lzW (x:List UInt8):Option (List (Int)) :=
 obnd (lzu ([],x,0)) fun y=>some y.1
def Dz0:FSpec tb:=⟨[(0,.val 9)],[(0,.own 3)],lzW⟩
theorem BzJ:azi ([izo]:List (CutSpec tb)) (azA Tryz.f183)=[(36,.loop (azf 36 Tryz.f183))]:=by kernel_rfl
theorem xzG:azd Tryz.prog tb 183 Dz0:=azL mixed Tryz.func183 (by kernel_rfl) .nil rfl BzJ (.cons rfl vzO rfl .nil) (fun x=>by kernel_rfl)
def gzq (x:List UInt8):Option (Int×Int) :=
 obnd (hzY x) fun y =>
  brn (!y) (some (0,2)) (obnd (lzW x) fun y=>brn (decide (1000<(↑(List.length y):Int))) (some (0,4)) (some ((↑(List.length y):Int),0)))
def xzD:FSpec tb:=⟨[(0,.val 9)],[(0,.val 3),(1,.val 63)],gzq⟩
theorem nzQ:azd Tryz.prog tb 101 xzD:=azo mixed Tryz.func101 (by kernel_rfl) (.cons ozg (.cons xzG .nil)) rfl (fun x=>by kernel_rfl)
abbrev Dz2:List (Nat×FSpec tb):=[(174,lzw),(80,izt)]
theorem qzO:azv Tryz.prog tb Dz2:=(.cons nzZ (.cons dzy .nil))
def izp (back:List Int×Int×((List UInt8×Nat))→Option (((Int)×((List UInt8×Nat)))⊕((Int)×((List UInt8×Nat)))))(x:List Int×Int×((List UInt8×Nat))):Option (((Int)×((List UInt8×Nat)))⊕((Int)×((List UInt8×Nat)))) :=
 brn (decide (x.2.snd.snd<x.2.snd.fst.length))
  (brn (decide (x.2.fst=(↑x.fst.length:Int))) (some (Sum.inr (1,x.2.snd.fst,x.2.snd.snd+(rune x.2.snd.fst x.2.snd.snd).snd)))
   (obnd (idx x.fst x.2.fst) fun y =>
    brn (!decide ((↑(rune x.2.snd.fst x.2.snd.snd).fst:Int)=y))
     (obnd (idx x.fst x.2.fst) fun y =>
      obnd (fzp ((↑(rune x.2.snd.fst x.2.snd.snd).fst:Int),y)) fun y=>some (Sum.inr (y,x.2.snd.fst,x.2.snd.snd+(rune x.2.snd.fst x.2.snd.snd).snd)))
     (back (x.fst,IntKind.i64.wrap (x.2.fst+1),x.2.snd.fst,x.2.snd.snd+(rune x.2.snd.fst x.2.snd.snd).snd))))
  (some (Sum.inl x.2))
def izq:List Int×Int×((List UInt8×Nat))→Option (((Int)×((List UInt8×Nat)))⊕((Int)×((List UInt8×Nat)))):=iter izp big
def qzP:CutSpec tb:=⟨44,[(5,.val 45),(6,.val 3),(12,.iter)],[((.exit 0),[(6,.val 3)]),(.ret,[(4,.val 3)])],[13,14,15,8,16,17,18,19,4,20,21,22,23,24,25,26,27,28,29,30,31,32,33,6],izq⟩
theorem xzO:azi ([]:List (CutSpec tb)) (azf 44 Tryz.f81)=[]:=by kernel_rfl
theorem vzU:azm Tryz.prog tb Tryz.f81.ntmps (.loop (azf 44 Tryz.f81)) qzP:=azz mixed (by kernel_rfl) qzO rfl xzO .nil izp (fun back x=>by kernel_rfl) rfl
def jzK (x:List UInt8×List UInt8):Option (Int) :=
 obnd (bif x.snd.length.ble 70368744177664 then some (dzu x.snd x.snd.length 0)else none) fun rs =>
  obnd (izq (rs,0,x.fst,0)) fun y=>osum y (fun y=>obnd (azV (y.1,(↑rs.length:Int))) fun y=>some y) fun y=>some y.1
def xzN:FSpec tb:=⟨[(0,.val 9),(1,.val 9)],[(0,.val 3)],jzK⟩
theorem BzT:azi ([qzP]:List (CutSpec tb)) (azA Tryz.f81)=[(44,.loop (azf 44 Tryz.f81))]:=by kernel_rfl
theorem xzP:azd Tryz.prog tb 81 xzN:=azL mixed Tryz.func81 (by kernel_rfl) qzO rfl BzT (.cons rfl vzU rfl .nil) (fun x=>by kernel_rfl)
def azP (x:Bool):Option (Int) :=
 brn x (some 1) (some 0)
def uzg:FSpec tb:=⟨[(0,.val 4)],[(0,.val 3)],azP⟩
theorem vzT:azd Tryz.prog tb 82 uzg:=azo mixed Tryz.func82 (by kernel_rfl) .nil rfl (fun x=>by kernel_rfl)
abbrev BzS:List (Nat×FSpec tb):=[(80,izt),(34,gzZ),(81,xzN),(82,uzg)]
theorem jzI:azv Tryz.prog tb BzS:=(.cons dzy (.cons fzq (.cons xzP (.cons vzT .nil))))
def azE (x:Val×Val):Option (Bool) :=
 brn (decide (x.fst.Kind=0)) (some (bif decide (x.snd.Kind=4)then false else true)) (some false)
def nzS:CutSpec tb:=⟨16,[(2,.ro 32),(3,.ro 32)],[(.normal,[(12,.val 4)])],[5,6,7,8,9,10,11,12],azE⟩
theorem tzD:azi ([]:List (CutSpec tb)) (azD 16 Tryz.f27)=[]:=by kernel_rfl
theorem szi:azm Tryz.prog tb Tryz.f27.ntmps (azD 16 Tryz.f27) nzS:=czF mixed (by kernel_rfl) jzI rfl tzD .nil (fun x=>by kernel_rfl)
def azx (x:Val×Val×Int):Option ((Unit)⊕(Int)) :=
 brn (decide (x.2.snd=1)) (obnd (czS (x.fst.N,x.2.fst.N)) fun y=>some (Sum.inr y))
  (brn (decide (x.2.snd=2)) (obnd (jzK (x.fst.S,x.2.fst.S)) fun y=>some (Sum.inr y))
   (brn (decide (x.2.snd=3)) (obnd (azP x.fst.B) fun y=>obnd (azP x.2.fst.B) fun y_1=>obnd (azV (y,y_1)) fun y=>some (Sum.inr y))
    (brn (decide (x.2.snd=4)) (obnd (azV (x.fst.E,x.2.fst.E)) fun y=>some (Sum.inr y)) (some (Sum.inl PUnit.unit)))))
def nzT:CutSpec tb:=⟨75,[(2,.ro 32),(3,.ro 32),(38,.val 3)],[(.normal,[]),(.ret,[(4,.val 3)])],[40,39,41,42,43,44,45,4,47,46,48,49,50,51,52,54,53,55,56,57,58,59,60,61,63,62,64,65,66,67,68],azx⟩
theorem tzE:azi ([]:List (CutSpec tb)) (azD 75 Tryz.f27)=[]:=by kernel_rfl
theorem szj:azm Tryz.prog tb Tryz.f27.ntmps (azD 75 Tryz.f27) nzT:=czF mixed (by kernel_rfl) jzI rfl tzE .nil (fun x=>by kernel_rfl)
def azN (x:Val×Val):Option (Int) :=
 obnd (azE x) fun y =>
  brn y
   (brn (decide (x.snd.Kind=0))
    (brn (!decide (x.snd.Kind=4))
     (brn (!decide (x.snd.Kind=x.snd.Kind)) (obnd (azV (x.snd.Kind,x.snd.Kind)) fun y=>some y)
      (obnd
       (azx
        ({Kind:=x.snd.Kind,N:={M:=0,S:=0},S:=[],B:=false,E:=0},{Kind:=x.snd.Kind,N:={M:=0,S:=0},S:=[],B:=false,E:=0},
         x.snd.Kind))
       fun y=>osum y (fun y=>some 0) fun y=>some y))
     (brn (!decide (x.snd.Kind=x.snd.Kind)) (obnd (azV (x.snd.Kind,x.snd.Kind)) fun y=>some y)
      (obnd (azx ({Kind:=x.snd.Kind,N:={M:=0,S:=0},S:=[],B:=false,E:=0},x.snd,x.snd.Kind)) fun y =>
       osum y (fun y=>some 0) fun y=>some y)))
    (brn (!decide (x.snd.Kind=x.snd.Kind)) (obnd (azV (x.snd.Kind,x.snd.Kind)) fun y=>some y)
     (obnd (azx ({Kind:=x.snd.Kind,N:={M:=0,S:=0},S:=[],B:=false,E:=0},x.snd,x.snd.Kind)) fun y =>
      osum y (fun y=>some 0) fun y=>some y)))
   (brn (decide (x.snd.Kind=0))
    (brn (!decide (x.fst.Kind=4))
     (brn (!decide (x.fst.Kind=x.fst.Kind)) (obnd (azV (x.fst.Kind,x.fst.Kind)) fun y=>some y)
      (obnd (azx (x.fst,{Kind:=x.fst.Kind,N:={M:=0,S:=0},S:=[],B:=false,E:=0},x.fst.Kind)) fun y =>
       osum y (fun y=>some 0) fun y=>some y))
     (brn (!decide (x.fst.Kind=x.snd.Kind)) (obnd (azV (x.fst.Kind,x.snd.Kind)) fun y=>some y)
      (obnd (azx (x.fst,x.snd,x.fst.Kind)) fun y=>osum y (fun y=>some 0) fun y=>some y)))
    (brn (!decide (x.fst.Kind=x.snd.Kind)) (obnd (azV (x.fst.Kind,x.snd.Kind)) fun y=>some y)
     (obnd (azx (x.fst,x.snd,x.fst.Kind)) fun y=>osum y (fun y=>some 0) fun y=>some y)))
def szh:FSpec tb:=⟨[(0,.val 32),(1,.val 32)],[(0,.val 3)],azN⟩
theorem yzU:azi ([nzS,nzT]:List (CutSpec tb)) (azA Tryz.f27)=[(16,azD 16 Tryz.f27),(75,azD 75 Tryz.f27)]:=by kernel_rfl
theorem tzF:azd Tryz.prog tb 27 szh:=azL mixed Tryz.func27 (by kernel_rfl) jzI rfl yzU (.cons rfl szi rfl (.cons rfl szj rfl .nil)) (fun x=>by kernel_rfl)
def dz6 (x:Dec):Option (Int) :=
 brn (decide (x.S<0)) (some 1) (brn (decide (9<x.S)) (some 1) (brn (decide (0<x.S)) (brn (decide (x.M.tmod 10=0)) (some 1) (some 0)) (some 0)))
def fzR:FSpec tb:=⟨[(0,.val 26)],[(0,.val 3)],dz6⟩
set_option maxRecDepth 100000 in
theorem vzx:∀x,evFn Tryz.prog tb [] [] Tryz.f134 fzR.ins fzR.outs x=fzR.f x:=fun x=>by kernel_rfl
theorem qz1:azd Tryz.prog tb 134 fzR:=azo mixed Tryz.func134 (by kernel_rfl) .nil rfl vzx
def hzS (x:Int×Int×Int):Option ((Int×Int×Int)⊕(List (Int)×Bool)) :=
 brn (decide (x.fst<128)) (some (Sum.inl (x.2.fst,x.fst,x.2.snd)))
  (brn (decide (194≤x.fst))
   (brn (decide (x.fst<224)) (some (Sum.inl (1,azp BinOp.and IntKind.i64 x.fst 31,128)))
    (brn (decide (224≤x.fst))
     (brn (decide (x.fst<240)) (some (Sum.inl (2,azp BinOp.and IntKind.i64 x.fst 15,2048)))
      (brn (decide (240≤x.fst)) (brn (decide (x.fst<245)) (some (Sum.inl (3,azp BinOp.and IntKind.i64 x.fst 7,65536))) (some (Sum.inr ([],false))))
       (some (Sum.inr ([],false)))))
     (brn (decide (240≤x.fst)) (brn (decide (x.fst<245)) (some (Sum.inl (3,azp BinOp.and IntKind.i64 x.fst 7,65536))) (some (Sum.inr ([],false))))
      (some (Sum.inr ([],false))))))
   (brn (decide (224≤x.fst))
    (brn (decide (x.fst<240)) (some (Sum.inl (2,azp BinOp.and IntKind.i64 x.fst 15,2048)))
     (brn (decide (240≤x.fst)) (brn (decide (x.fst<245)) (some (Sum.inl (3,azp BinOp.and IntKind.i64 x.fst 7,65536))) (some (Sum.inr ([],false))))
      (some (Sum.inr ([],false)))))
    (brn (decide (240≤x.fst)) (brn (decide (x.fst<245)) (some (Sum.inl (3,azp BinOp.and IntKind.i64 x.fst 7,65536))) (some (Sum.inr ([],false))))
     (some (Sum.inr ([],false))))))
def dz8:CutSpec tb:=⟨83,[(6,.val 3),(7,.val 3),(9,.val 3)],[(.normal,[(7,.val 3),(8,.val 3),(9,.val 3)]),(.ret,[(2,.own 3),(3,.val 4)])],[21,22,20,23,8,25,26,27,28,29,30,24,7,31,32,9,34,35,36,37,38,39,33,40,41,43,44,45,46,47,48,42,49,50,2,3],hzS⟩
set_option maxRecDepth 100000 in
theorem vzA:∀x,evBlk Tryz.prog tb [] [] (azD 83 Tryz.f28) dz8.ins dz8.outs x=dz8.J x:=fun x=>by kernel_rfl
theorem vzB:azi ([]:List (CutSpec tb)) (azD 83 Tryz.f28)=[]:=by kernel_rfl
theorem tzx:azm Tryz.prog tb Tryz.f28.ntmps (azD 83 Tryz.f28) dz8:=czF mixed (by kernel_rfl) .nil rfl vzB .nil vzA
def dz9 (back:List UInt8×Int×Int×Int×Int→Option ((Int)⊕(List (Int)×Bool)))(x:List UInt8×Int×Int×Int×Int):Option ((Int)⊕(List (Int)×Bool)) :=
 brn (decide (x.2.2.2.snd≤x.2.2.fst))
  (obnd (idx x.fst (IntKind.i64.wrap (x.2.fst+x.2.2.2.snd))) fun y =>
   brn (!decide (azp BinOp.and IntKind.i64 (IntKind.i64.wrap (↑y.toNat:Int)) 192=128)) (some (Sum.inr ([],false)))
    (back
     (x.fst,x.2.fst,x.2.2.fst,azp BinOp.or IntKind.i64 (IntKind.i64.wrap (x.2.2.2.fst*64)) (azp BinOp.and IntKind.i64 (IntKind.i64.wrap (↑y.toNat:Int)) 63),
      IntKind.i64.wrap (x.2.2.2.snd+1))))
  (some (Sum.inl x.2.2.2.1))
def fzV:List UInt8×Int×Int×Int×Int→Option ((Int)⊕(List (Int)×Bool)):=iter dz9 big
def fzU:CutSpec tb:=⟨220,[(0,.val 9),(5,.val 3),(7,.val 3),(8,.val 3),(10,.val 3)],[((.exit 3),[(8,.val 3)]),(.ret,[(2,.own 3),(3,.val 4)])],[57,58,59,62,63,64,65,66,67,11,68,69,70,2,3,71,72,73,74,75,8,60,61,10],fzV⟩
set_option maxRecDepth 100000 in
theorem vzE:∀back x,fzE Tryz.prog tb [] [] (azf 220 Tryz.f28) fzU.ins fzU.outs back x=dz9 back x:=fun back x=>by kernel_rfl
theorem vzF:azi ([]:List (CutSpec tb)) (azf 220 Tryz.f28)=[]:=by kernel_rfl
theorem tzz:azm Tryz.prog tb Tryz.f28.ntmps (.loop (azf 220 Tryz.f28)) fzU:=azz mixed (by kernel_rfl) .nil rfl vzF .nil dz9 vzE rfl
def hzR (x:List UInt8×List (Int)×Int):Option ((List (Int)×Int)⊕(List (Int)×Bool)) :=
 obnd (idx x.fst x.2.snd) fun y =>
  obnd (hzS (IntKind.i64.wrap (↑y.toNat:Int),0,0)) fun y =>
   osum y
    (fun y =>
     brn (decide (IntKind.i64.wrap ((↑x.fst.length:Int)-x.2.snd)≤y.fst)) (some (Sum.inr ([],false)))
      (obnd (fzV (x.fst,x.2.snd,y.fst,y.2.fst,1)) fun y_1 =>
       osum y_1
        (fun y_2 =>
         brn (decide (y_2<y.2.snd)) (some (Sum.inr ([],false)))
          (brn (decide (55296≤y_2))
           (brn (decide (y_2<57344)) (some (Sum.inr ([],false)))
            (brn (decide (1114111<y_2)) (some (Sum.inr ([],false)))
             (obnd (app 8 x.2.fst [y_2]) fun zs=>some (Sum.inl (zs,IntKind.i64.wrap (IntKind.i64.wrap (x.2.snd+y.fst)+1))))))
           (brn (decide (1114111<y_2)) (some (Sum.inr ([],false)))
            (obnd (app 8 x.2.fst [y_2]) fun zs=>some (Sum.inl (zs,IntKind.i64.wrap (IntKind.i64.wrap (x.2.snd+y.fst)+1)))))))
        fun y=>some (Sum.inr y)))
    fun y=>some (Sum.inr y)
def dz7:CutSpec tb:=⟨43,[(0,.val 9),(4,.own 3),(5,.val 3)],[(.normal,[(4,.own 3),(5,.val 3)]),(.ret,[(2,.own 3),(3,.val 4)])],[16,17,18,19,6,7,8,9,21,22,20,23,25,26,27,28,29,30,24,31,32,34,35,36,37,38,39,33,40,41,43,44,45,46,47,48,42,49,50,2,3,51,52,53,54,55,56,10,57,58,59,62,63,64,65,66,67,11,68,69,70,71,72,73,74,75,60,61,76,77,78,79,80,81,82,83,84,85,86,87,88,89,90,91,92,93,94,4,95,96,97,98,5],hzR⟩
set_option maxRecDepth 100000 in
theorem vzy:∀x,evBlk Tryz.prog tb [] [dz8,fzU] (azD 43 Tryz.f28) dz7.ins dz7.outs x=dz7.J x:=fun x=>by kernel_rfl
theorem vzz:azi ([dz8,fzU]:List (CutSpec tb)) (azD 43 Tryz.f28)=[(83,azD 83 Tryz.f28),(220,.loop (azf 220 Tryz.f28))]:=by kernel_rfl
theorem tzw:azm Tryz.prog tb Tryz.f28.ntmps (azD 43 Tryz.f28) dz7:=czF mixed (by kernel_rfl) .nil rfl vzz (.cons rfl tzx rfl (.cons rfl tzz rfl .nil)) vzy
def fzT (back:List UInt8×List (Int)×Int→Option ((List (Int))⊕(List (Int)×Bool)))(x:List UInt8×List (Int)×Int):Option ((List (Int))⊕(List (Int)×Bool)) :=
 brn (decide (x.2.snd<(↑x.fst.length:Int))) (obnd (hzR (x.fst,x.2)) fun y=>osum y (fun y=>back (x.fst,y)) fun y=>some (Sum.inr y)) (some (Sum.inl x.2.1))
def kzm:List UInt8×List (Int)×Int→Option ((List (Int))⊕(List (Int)×Bool)):=iter fzT big
def fzS:CutSpec tb:=⟨36,[(0,.val 9),(4,.own 3),(5,.val 3)],[((.exit 0),[(4,.own 3)]),(.ret,[(2,.own 3),(3,.val 4)])],[12,13,14,15,16,17,18,19,6,7,8,9,21,22,20,23,25,26,27,28,29,30,24,31,32,34,35,36,37,38,39,33,40,41,43,44,45,46,47,48,42,49,50,2,3,51,52,53,54,55,56,10,57,58,59,62,63,64,65,66,67,11,68,69,70,71,72,73,74,75,60,61,76,77,78,79,80,81,82,83,84,85,86,87,88,89,90,91,92,93,94,4,95,96,97,98,5],kzm⟩
set_option maxRecDepth 100000 in
theorem vzC:∀back x,fzE Tryz.prog tb [] [dz7] (azf 36 Tryz.f28) fzS.ins fzS.outs back x=fzT back x:=fun back x=>by kernel_rfl
theorem vzD:azi ([dz7]:List (CutSpec tb)) (azf 36 Tryz.f28)=[(43,azD 43 Tryz.f28)]:=by kernel_rfl
theorem tzy:azm Tryz.prog tb Tryz.f28.ntmps (.loop (azf 36 Tryz.f28)) fzS:=azz mixed (by kernel_rfl) .nil rfl vzD (.cons rfl tzw rfl .nil) fzT vzC rfl
def kzO (x:List UInt8):Option (List (Int)×Bool) :=
 obnd (kzm (x,[],0)) fun y=>osum y (fun y=>some (y,true)) fun y=>some y
def hz8:FSpec tb:=⟨[(0,.val 9)],[(0,.own 3),(1,.val 4)],kzO⟩
set_option maxRecDepth 100000 in
theorem Aza:∀x,evFn Tryz.prog tb [] [fzS] Tryz.f28 hz8.ins hz8.outs x=hz8.f x:=fun x=>by kernel_rfl
theorem Azb:azi ([fzS]:List (CutSpec tb)) (azA Tryz.f28)=[(36,.loop (azf 36 Tryz.f28))]:=by kernel_rfl
theorem vzG:azd Tryz.prog tb 28 hz8:=azL mixed Tryz.func28 (by kernel_rfl) .nil rfl Azb (.cons rfl tzy rfl .nil) Aza
def fzX (back:List Int×List (Int)×Int→Option (List (Int)))(x:List Int×List (Int)×Int):Option (List (Int)) :=
 brn (decide (x.2.snd<(↑x.fst.length:Int)))
  (obnd (idx x.fst x.2.snd) fun y =>
   brn (decide (y<65536)) (obnd (idx x.fst x.2.snd) fun y=>obnd (app 8 x.2.fst [y]) fun zs=>back (x.fst,zs,IntKind.i64.wrap (x.2.snd+1)))
    (obnd (idx x.fst x.2.snd) fun y =>
     obnd
      (app 8 x.2.fst
       [azp BinOp.or IntKind.i64 55296 ((IntKind.i64.wrap (y-65536)).fdiv 1024),
        azp BinOp.or IntKind.i64 56320 (azp BinOp.and IntKind.i64 (IntKind.i64.wrap (y-65536)) 1023)])
      fun zs=>back (x.fst,zs,IntKind.i64.wrap (x.2.snd+1))))
  (some x.2.1)
def kzn:List Int×List (Int)×Int→Option (List (Int)):=iter fzX big
def fzW:CutSpec tb:=⟨36,[(0,.val 53),(3,.own 3),(4,.val 3)],[((.exit 0),[(3,.own 3)])],[6,7,8,9,12,13,14,15,16,17,18,19,20,21,22,23,3,24,25,26,27,28,5,29,30,31,32,33,34,35,36,37,10,11,4],kzn⟩
set_option maxRecDepth 100000 in
theorem vzI:∀back x,fzE Tryz.prog tb [] [] (azf 36 Tryz.f215) fzW.ins fzW.outs back x=fzX back x:=fun back x=>by kernel_rfl
theorem vzJ:azi ([]:List (CutSpec tb)) (azf 36 Tryz.f215)=[]:=by kernel_rfl
theorem tzA:azm Tryz.prog tb Tryz.f215.ntmps (.loop (azf 36 Tryz.f215)) fzW:=azz mixed (by kernel_rfl) .nil rfl vzJ .nil fzX vzI rfl
def kzQ (x:List Int):Option (List (Int)) :=
 obnd (kzn (x,[],0)) fun y=>some y
def iza:FSpec tb:=⟨[(0,.val 53)],[(0,.own 3)],kzQ⟩
set_option maxRecDepth 100000 in
theorem Azd:∀x,evFn Tryz.prog tb [] [fzW] Tryz.f215 iza.ins iza.outs x=iza.f x:=fun x=>by kernel_rfl
theorem Aze:azi ([fzW]:List (CutSpec tb)) (azA Tryz.f215)=[(36,.loop (azf 36 Tryz.f215))]:=by kernel_rfl
theorem vzK:azd Tryz.prog tb 215 iza:=azL mixed Tryz.func215 (by kernel_rfl) .nil rfl Aze (.cons rfl tzA rfl .nil) Azd
def kzP (x:List UInt8):Option (Int×Int) :=
 obnd (kzO x) fun y =>
  brn (!y.snd) (some (0,2)) (obnd (kzQ y.fst) fun y=>brn (decide (1000<(↑(List.length y):Int))) (some (0,4)) (some ((↑(List.length y):Int),0)))
def hz9:FSpec tb:=⟨[(0,.val 9)],[(0,.val 3),(1,.val 3)],kzP⟩
set_option maxRecDepth 100000 in
theorem Azc:∀x,evFn Tryz.prog tb [(28,hz8),(215,iza)] [] Tryz.f135 hz9.ins hz9.outs x=hz9.f x:=fun x=>by kernel_rfl
theorem vzH:azd Tryz.prog tb 135 hz9:=azo mixed Tryz.func135 (by kernel_rfl) (.cons vzG (.cons vzK .nil)) rfl Azc
def kzk (x:Int):Option (List UInt8) :=
 brn (decide (x=0)) (some (U8s [35,78,85,76,76,33]))
  (brn (decide (x=7)) (some (U8s [35,68,73,86,47,48,33]))
   (brn (decide (x=15)) (some (U8s [35,86,65,76,85,69,33]))
    (brn (decide (x=23)) (some (U8s [35,82,69,70,33]))
     (brn (decide (x=29)) (some (U8s [35,78,65,77,69,63]))
      (brn (decide (x=36)) (some (U8s [35,78,85,77,33])) (brn (decide (x=42)) (some [35,78,47,65]) (some [])))))))
def oz3:FSpec tb:=⟨[(0,.val 3)],[(0,.val 9)],kzk⟩
theorem qz0:azd Tryz.prog tb 136 oz3:=azo mixed Tryz.func136 (by kernel_rfl) .nil rfl (fun x=>by kernel_rfl)
abbrev xzn:List (Nat×FSpec tb):=[(134,fzR),(135,hz9),(136,oz3)]
theorem kz6:azv Tryz.prog tb xzn:=(.cons qz1 (.cons vzH (.cons qz0 .nil)))
def cze (x:Val):Option (Bool) :=
 brn (!decide (x.Kind=1))
  (brn (bif true then !(decide (x.N.M=0)&&decide (x.N.S=0))else decide (x.N.M=0)&&decide (x.N.S=0)) (some true)
   (brn (!decide (x.Kind=2))
    (brn (!decide (x.S=[])) (some true)
     (brn (!decide (x.Kind=3)) (brn x.B (some true) (brn (!decide (x.Kind=4)) (some (bif decide (x.E=0)then false else true)) (some false)))
      (brn (!decide (x.Kind=4)) (some (bif decide (x.E=0)then false else true)) (some false))))
    (brn (!decide (x.Kind=3)) (brn x.B (some true) (brn (!decide (x.Kind=4)) (some (bif decide (x.E=0)then false else true)) (some false)))
     (brn (!decide (x.Kind=4)) (some (bif decide (x.E=0)then false else true)) (some false)))))
  (brn (!decide (x.Kind=2))
   (brn (!decide (x.S=[])) (some true)
    (brn (!decide (x.Kind=3)) (brn x.B (some true) (brn (!decide (x.Kind=4)) (some (bif decide (x.E=0)then false else true)) (some false)))
     (brn (!decide (x.Kind=4)) (some (bif decide (x.E=0)then false else true)) (some false))))
   (brn (!decide (x.Kind=3)) (brn x.B (some true) (brn (!decide (x.Kind=4)) (some (bif decide (x.E=0)then false else true)) (some false)))
    (brn (!decide (x.Kind=4)) (some (bif decide (x.E=0)then false else true)) (some false))))
def kz7:CutSpec tb:=⟨32,[(1,.ro 28)],[(.normal,[(50,.val 4)])],[13,14,15,16,17,18,19,20,21,22,23,24,25,26,27,28,29,30,31,32,33,34,35,36,37,38,39,40,41,42,43,44,45,46,47,48,49,50],cze⟩
theorem pz2:azi ([]:List (CutSpec tb)) (azD 32 Tryz.f57)=[]:=by kernel_rfl
theorem oz2:azm Tryz.prog tb Tryz.f57.ntmps (azD 32 Tryz.f57) kz7:=czF mixed (by kernel_rfl) kz6 rfl pz2 .nil (fun x=>by kernel_rfl)
def bz4 (x:Val):Option (Int) :=
 brn (decide (x.Kind<0)) (some 1)
  (brn (decide (4<x.Kind)) (some 1)
   (obnd (cze x) fun y =>
    brn y (some 1)
     (brn (decide (x.Kind=1)) (obnd (dz6 x.N) fun y=>some y)
      (brn (decide (x.Kind=2)) (obnd (kzP x.S) fun y=>some y.2)
       (brn (decide (x.Kind=4)) (obnd (kzk x.E) fun y=>brn (decide (y=[])) (some 1) (some 0)) (some 0))))))
def jzt:FSpec tb:=⟨[(0,.val 28)],[(0,.val 3)],bz4⟩
theorem tzf:azi ([kz7]:List (CutSpec tb)) (azA Tryz.f57)=[(32,azD 32 Tryz.f57)]:=by kernel_rfl
theorem jzu:azd Tryz.prog tb 57 jzt:=azL mixed Tryz.func57 (by kernel_rfl) kz6 rfl tzf (.cons rfl oz2 rfl .nil) (fun x=>by kernel_rfl)
def Bzf (x:Dec):Option (Dec) :=
 some x
def law4_ToS:FSpec tb:=⟨[(0,.val 26)],[(0,.val 30)],Bzf⟩
theorem zz4:azd Tryz.prog tb 158 law4_ToS:=azo mixed Tryz.func158 (by kernel_rfl) .nil rfl (fun x=>by kernel_rfl)
def mzx (x:Val):Option (Val) :=
 obnd (Bzf x.N) fun y=>some {Kind:=x.Kind,N:=y,S:=x.S,B:=x.B,E:=x.E}
def vzf:FSpec tb:=⟨[(0,.val 28)],[(0,.val 32)],mzx⟩
theorem qzG:azd Tryz.prog tb 68 vzf:=azo mixed Tryz.func68 (by kernel_rfl) (.cons zz4 .nil) rfl (fun x=>by kernel_rfl)
def izI (x:Val):Option (Val) :=
 brn (decide (x.Kind=1)) (some {Kind:=1,N:=x.N,S:=[],B:=false,E:=0})
  (brn (decide (x.Kind=2)) (some {Kind:=2,N:={M:=0,S:=0},S:=x.S,B:=false,E:=0})
   (brn (decide (x.Kind=3)) (some {Kind:=3,N:={M:=0,S:=0},S:=[],B:=x.B,E:=0})
    (brn (decide (x.Kind=4)) (obnd (azn x.E) fun y=>some y) (some {Kind:=x.Kind,N:={M:=0,S:=0},S:=[],B:=false,E:=0}))))
def jzH (x:Val):Option (Int) :=
 brn (decide (x.Kind<0)) (some 1)
  (brn (decide (4<x.Kind)) (some 1)
   (obnd (izI x) fun y =>
    brn
     (bif true then !(decide (x.Kind=y.Kind)&&(decide (x.N.M=y.N.M)&&(decide (x.N.S=y.N.S)&&(decide (x.S=y.S)&&(decide (x.B=y.B)&&decide (x.E=y.E))))))
     else decide (x.Kind=y.Kind)&&(decide (x.N.M=y.N.M)&&(decide (x.N.S=y.N.S)&&(decide (x.S=y.S)&&(decide (x.B=y.B)&&decide (x.E=y.E))))))
     (some 1)
     (brn (decide (x.Kind=1)) (obnd (vz7 x.N) fun y=>some y)
      (brn (decide (x.Kind=2)) (obnd (gzq x.S) fun y=>some y.2)
       (brn (decide (x.Kind=4)) (obnd (nzV x.E) fun y=>brn (decide (y=[])) (some 1) (some 0)) (some 0))))))
def azI:Int→Nat→Int×Nat
 | v,0=>(v,0)
 | v,p+1=>if v%10=0 then azI (v/10) p else(v,p+1)
theorem pz9:∀(p:Nat) (v:Int),(azI v p).2≤p
 | 0,_=>Nat.le_refl _
 | p+1,v=>by
  unfold azI;split
  ·have:=pz9 p (v/10);omega
  ·exact Nat.le_refl _
theorem zzB:∀(p:Nat) (v:Int),(azI v p).1*10^(p-(azI v p).2)=v
 | 0,v=>by simp[azI]
 | p+1,v=>by
  unfold azI;split
  ·rename_i h;have h1:=zzB p (v/10);have h2:=pz9 p (v/10);rw[show p+1-(azI (v/10) p).2=(p-(azI (v/10) p).2)+1 by omega,Int.pow_succ,←Int.mul_assoc,h1];omega
  ·simp
theorem xzH:∀(p:Nat) (v:Int),0<(azI v p).2→¬(azI v p).1%10=0
 | 0,v,h=>by simp[azI]at h
 | p+1,v,h=>by
  unfold azI at h ⊢;split
  ·rename_i h0;rw[if_pos h0]at h;exact xzH p (v/10) h
  ·assumption
def okD (d:Dec):Prop:=0≤d.S∧d.S≤9∧(0<d.S→¬d.M%10=0)
def V (d:Dec):Int:=d.M*10^(9-d.S.toNat)
def I64 (n:Int):Prop:=-9223372036854775808≤n∧n≤9223372036854775807
instance (n:Int):Decidable (I64 n):=inferInstanceAs (Decidable (_∧_))
def decV (v:Int)(p:Nat):Dec×Int:=if I64 (azI v p).1 then(⟨(azI v p).1,((azI v p).2:Int)⟩,0)else(⟨0,0⟩,8)
theorem V_strip (v:Int)(p:Nat)(hp:p≤9):V ⟨(azI v p).1,((azI v p).2:Int)⟩=v*10^(9-p):=by
 unfold V;simp only[Int.toNat_natCast];have h1:=pz9 p v;have h2:=zzB p v;rw[show 9-(azI v p).2=(p-(azI v p).2)+(9-p) by omega,Int.pow_add,←Int.mul_assoc,h2]
theorem Bzl (v:Int)(p:Nat)(hp:p≤9):okD ⟨(azI v p).1,((azI v p).2:Int)⟩:=by
 have h1:=pz9 p v;have h2:=xzH p v;refine⟨by simp,by simp only;omega,fun h=>h2 (by simp only at h;omega)⟩
theorem decV_ok {v:Int}{p:Nat}{d:Dec}(hp:p≤9)(h:decV v p=(d,0)):okD d∧I64 d.M∧V d=v*10^(9-p):=by
 unfold decV at h;split at h
 ·rename_i hi;simp only[Prod.mk.injEq,and_true]at h;subst h;exact⟨Bzl v p hp,hi,V_strip v p hp⟩
 ·simp at h
theorem szg:∀(p:Nat) (v:Int),-v.natAbs≤(azI v p).1∧(azI v p).1≤v.natAbs
 | 0,v=>by simp only[azI];omega
 | p+1,v=>by
  unfold azI;split
  ·have:=szg p (v/10);omega
  ·omega
def rdiv (v n:Int):Int:=if n≤2*(v%n)then v/n+1 else v/n
def rnd (v n:Int):Int:=if v<0 then -rdiv (-v) n else rdiv v n
def cmpV (x y:Int):Int:=if x<y then -1 else if y<x then 1 else 0
theorem u64 (n:Int):IntKind.u64.wrap n=n%18446744073709551616:=by simp[IntKind.wrap,IntKind.bits,IntKind.signed]
theorem i64 (n:Int):IntKind.i64.wrap n=(n+9223372036854775808)%18446744073709551616-9223372036854775808:=IntKind.wrap_i64 n
theorem bzg {n:Int}(h0:0≤n)(h1:n<18446744073709551616):IntKind.u64.wrap n=n:=by rw[u64];omega
theorem azG {n:Int}(h0:-9223372036854775808≤n)(h1:n≤9223372036854775807):IntKind.i64.wrap n=n:=by rw[i64];omega
theorem and32 {x:Int}(h0:0≤x)(h1:x<18446744073709551616):azp .and .u64 x 4294967295=x%4294967296:=by
 obtain⟨n,rfl⟩:=Int.eq_ofNat_of_zero_le h0;simp only[azp];rw[BitVec.toNat_and,show(4294967295:Int)=((4294967295:Nat):Int) from rfl,BitVec.ofInt_natCast,BitVec.ofInt_natCast,BitVec.toNat_ofNat,BitVec.toNat_ofNat,u64];have e1:n%2^IntKind.u64.bits=n:=Nat.mod_eq_of_lt (by simp only[IntKind.bits];omega);have e2:4294967295%2^IntKind.u64.bits=2^32-1:=by decide
 rw[e1,e2,Nat.and_two_pow_sub_one_eq_mod];omega
theorem or_low {a b:Int}{s:Nat}(ha:0≤a)(hb:0≤b)(hb2:b<2^s)(h:a*2^s+b<18446744073709551616):azp .or .u64 (a*2^s) b=a*2^s+b:=by
 obtain⟨m,rfl⟩:=Int.eq_ofNat_of_zero_le ha;obtain⟨n,rfl⟩:=Int.eq_ofNat_of_zero_le hb;have c:((2:Int)^s)=((2^s:Nat):Int):=by simp
 rw[c]at *;have hb3:n<2^s:=Int.ofNat_lt.1 hb2;simp only[azp];rw[BitVec.toNat_or,←Int.natCast_mul,BitVec.ofInt_natCast,BitVec.ofInt_natCast,BitVec.toNat_ofNat,BitVec.toNat_ofNat,u64];have h':((m*2^s:Nat):Int)+n<18446744073709551616:=by rw[Int.natCast_mul];simpa using h
 generalize hp:m*2^s=p at *;have e1:p%2^IntKind.u64.bits=p:=Nat.mod_eq_of_lt (by simp only[IntKind.bits];omega);have e2:n%2^IntKind.u64.bits=n:=Nat.mod_eq_of_lt (by simp only[IntKind.bits];omega);rw[e1,e2,←hp,←Nat.shiftLeft_eq,←Nat.shiftLeft_add_eq_or_of_lt hb3,Nat.shiftLeft_eq,hp];omega
theorem hzk {a b c d:Int}(ha:0≤a)(hb:0≤b)(h1:a≤c)(h2:b≤d):a*b≤c*d :=
 Int.le_trans (Int.mul_le_mul_of_nonneg_right h1 hb) (Int.mul_le_mul_of_nonneg_left h2 (by omega))
theorem ez3 {a b:Int}(ha:0≤a)(hb:0≤b):0≤a*b:=Int.mul_nonneg ha hb
theorem mul_core (p11 p10 p01 p00:Int):
 (p11+(p10+p00/4294967296)/4294967296+((p10+p00/4294967296)%4294967296+p01)/4294967296) =
  (p11*18446744073709551616+(p10+p01)*4294967296+p00)/18446744073709551616:=by omega
theorem uzh {x y:Int}(hx0:0≤x)(hx:x<18446744073709551616)(hy0:0≤y)(hy:y<18446744073709551616):
 hz0 (x,y)=some (x*y/18446744073709551616,x*y%18446744073709551616):=by
 unfold hz0;simp only[and32 hx0 hx,and32 hy0 hy];rw[Int.fdiv_eq_ediv_of_nonneg x (by omega),Int.fdiv_eq_ediv_of_nonneg y (by omega)];obtain⟨x1,e1⟩:∃n,x/4294967296=n:=⟨_,rfl⟩;obtain⟨x0,e0⟩:∃n,x%4294967296=n:=⟨_,rfl⟩;obtain⟨y1,f1⟩:∃n,y/4294967296=n:=⟨_,rfl⟩;obtain⟨y0,f0⟩:∃n,y%4294967296=n:=⟨_,rfl⟩;have hxe:x=x1*4294967296+x0:=by omega
 have hye:y=y1*4294967296+y0:=by omega
 have bx1:0≤x1∧x1≤4294967295:=by omega
 have bx0:0≤x0∧x0≤4294967295:=by omega
 have by1:0≤y1∧y1≤4294967295:=by omega
 have by0:0≤y0∧y0≤4294967295:=by omega
 rw[e1,e0,f1,f0];have hxy:x*y=x1*y1*18446744073709551616+(x1*y0+x0*y1)*4294967296+x0*y0:=by
  rw[hxe,hye,Int.add_mul,Int.mul_add,Int.mul_add,Int.add_mul];have a1:x1*4294967296*(y1*4294967296)=x1*y1*18446744073709551616:=by
   rw[Int.mul_assoc,Int.mul_left_comm 4294967296,←Int.mul_assoc];rfl
  have a2:x1*4294967296*y0=x1*y0*4294967296:=by rw[Int.mul_assoc,Int.mul_comm 4294967296,←Int.mul_assoc]
  have a3:x0*(y1*4294967296)=x0*y1*4294967296:=by rw[Int.mul_assoc]
  rw[a1,a2,a3];omega
 have k11:x1*y1≤4294967295*4294967295:=hzk bx1.1 by1.1 bx1.2 by1.2;have k10:x1*y0≤4294967295*4294967295:=hzk bx1.1 by0.1 bx1.2 by0.2;have k01:x0*y1≤4294967295*4294967295:=hzk bx0.1 by1.1 bx0.2 by1.2;have k00:x0*y0≤4294967295*4294967295:=hzk bx0.1 by0.1 bx0.2 by0.2;have n11:=ez3 bx1.1 by1.1;have n10:=ez3 bx1.1 by0.1;have n01:=ez3 bx0.1 by1.1;have n00:=ez3 bx0.1 by0.1;rw[hxy];generalize x1*y1=p11 at *;generalize x1*y0=p10 at *;generalize x0*y1=p01 at *;generalize x0*y0=p00 at *;have hc:=mul_core p11 p10 p01 p00;have w00:IntKind.u64.wrap p00=p00:=bzg n00 (by omega);have w10:IntKind.u64.wrap p10=p10:=bzg n10 (by omega);have w01:IntKind.u64.wrap p01=p01:=bzg n01 (by omega);have w11:IntKind.u64.wrap p11=p11:=bzg n11 (by omega);rw[w00,w10,w01,w11,Int.fdiv_eq_ediv_of_nonneg p00 (by omega)];have t0:IntKind.u64.wrap (p10+p00/4294967296)=p10+p00/4294967296:=bzg (by omega) (by omega);rw[t0,and32 (by omega) (by omega),Int.fdiv_eq_ediv_of_nonneg (p10+p00/4294967296) (by omega)];have t1:IntKind.u64.wrap ((p10+p00/4294967296)%4294967296+p01)=(p10+p00/4294967296)%4294967296+p01:=bzg (by omega) (by omega);rw[t1,Int.fdiv_eq_ediv_of_nonneg ((p10+p00/4294967296)%4294967296+p01) (by omega)];have t2:IntKind.u64.wrap (p11+(p10+p00/4294967296)/4294967296)=p11+(p10+p00/4294967296)/4294967296:=bzg (by omega) (by omega);rw[t2,hc,bzg (by omega) (by omega),u64]
theorem yz6 {a n q:Int}(hn:0<n)(h1:q*n≤a)(h2:a<(q+1)*n):a/n=q:=by
 have h3:q≤a/n:=(Int.le_ediv_iff_mul_le hn).2 h1;have h4:a/n<q+1:=(Int.ediv_lt_iff_lt_mul hn).2 h2;omega
theorem Az1 {F:(Int×Int→Option Int)→Int×Int→Option Int}{u d y1 y0:Int}
 (hu0:0≤u) (hd0:0≤d) (hd:d<4294967296) (hy1:2147483648≤y1) (hy1':y1<4294967296) (hy0:0≤y0) (hy0':y0<4294967296) (hu:u<y1*4294967296+y0)
 (hF:∀back q r,0≤q→q≤4294967297→0≤r→r<4294967296→F back (q,r) =
  if 4294967296≤q∨4294967296*r+d<q*y0 then(if 4294967296≤r+y1 then some (q-1)else back (q-1,r+y1))else some q) :
 iter F big (u/y1,u%y1)=some ((u*4294967296+d)/(y1*4294967296+y0)):=by
 have hyn:0<y1*4294967296+y0:=by omega
 obtain⟨Q,hQ⟩:∃Q,(u*4294967296+d)/(y1*4294967296+y0)=Q:=⟨_,rfl⟩;have hQ1:Q*(y1*4294967296+y0)≤u*4294967296+d:=by rw[←hQ];exact Int.ediv_mul_le _ (by omega)
 have hQ0:0≤Q:=by rw[←hQ];exact Int.ediv_nonneg (by omega) (by omega)
 have hQB:Q<4294967296:=by rw[←hQ];exact(Int.ediv_lt_iff_lt_mul hyn).2 (by omega)
 have hle:∀q:Int,q*(y1*4294967296+y0)≤u*4294967296+d→q≤Q:=fun q h=>by
  rw[←hQ];exact(Int.le_ediv_iff_mul_le hyn).2 h
 have ex:∀q:Int,q*(y1*4294967296+y0)=q*y1*4294967296+q*y0:=fun q=>by rw[Int.mul_add,Int.mul_assoc]
 rw[hQ];refine mzo (fun x=>x.1.toNat) (fun x=>x.2=u-x.1*y1∧0≤x.2∧x.2<4294967296∧Q≤x.1∧x.1≤4294967297) (fun _=>Q) ?_ _ ?_ ?_
 ·intro back x hp hback;obtain⟨q,r⟩:=x;obtain⟨h1,h2,h3,h4,h5⟩:=hp;simp only at h1 h2 h3 h4 h5 hback;rw[hF back q r (by omega) h5 h2 h3];by_cases hc:4294967296≤q∨4294967296*r+d<q*y0
  ·have hlt:Q<q:=by
    rcases hc with hc|hc
    ·omega
    ·by_cases h:Q<q
     ·exact h
     ·have hqQ:q=Q:=by omega
      subst hqQ;rw[ex]at hQ1;omega
   rw[if_pos hc];have hs:(q-1)*y1=q*y1-y1:=by rw[Int.sub_mul];omega
   by_cases hr:4294967296≤r+y1
   ·rw[if_pos hr];have:q-1≤Q:=by
     apply hle;rw[ex,hs];have:(q-1)*y0≤4294967296*4294967296:=hzk (by omega) hy0 (by omega) (by omega);omega
    simp only[sE0];omega
   ·rw[if_neg hr];exact hback (q-1,r+y1) ⟨by simp only;omega,by simp only;omega,by simp only;omega,by simp only;omega,by simp only;omega⟩ (by simp only;omega)
  ·rw[if_neg hc];have:q≤Q:=by
    apply hle;rw[ex];omega
   simp only[sE0];omega
 ·have hm:=Int.emod_nonneg u (show y1≠0 by omega);have hm2:=Int.emod_lt_of_pos u (show 0<y1 by omega);have hdm:=Int.mul_ediv_add_emod u y1;have hc:=Int.mul_comm y1 (u/y1);refine⟨by simp only;omega,hm,by simp only;omega,?_,?_⟩
  ·refine(Int.le_ediv_iff_mul_le (by omega)).2 ?_;rw[ex]at hQ1;have:=ez3 hQ0 hy0;omega
  ·have:u/y1<4294967298:=(Int.ediv_lt_iff_lt_mul (by omega)).2 (by omega);simp only;omega
 ·have:u/y1<4294967298:=(Int.ediv_lt_iff_lt_mul (by omega)).2 (by omega);simp only;omega
theorem l1_is {back:Int×Int×Int×Int×Int→Option Int}{y1 y0 d q r:Int}(hd0:0≤d)(hd:d<4294967296)(_:2147483648≤y1)(hy1':y1<4294967296)(hy0:0≤y0)(hy0':y0<4294967296)
 (hq0:0≤q) (hq:q≤4294967297) (hr0:0≤r) (hr:r<4294967296) :
 fzy back (y1,y0,d,q,r)=if 4294967296≤q∨4294967296*r+d<q*y0 then(if 4294967296≤r+y1 then some (q-1)else back (y1,y0,d,q-1,r+y1))else some q:=by
 unfold fzy;simp only;rw[bzg (n:=r+y1) (by omega) (by omega)];by_cases h:4294967296≤q
 ·rw[bzg (n:=q-1) (by omega) (by omega)];simp only[h,decide_true,azc,true_or,if_true];by_cases h2:4294967296≤r+y1<;>simp[h2]
 ·have:q*y0≤4294967295*4294967295:=hzk hq0 hy0 (by omega) (by omega);have n:=ez3 hq0 hy0;simp only[h,decide_false,azb,false_or];rw[bzg (n:=4294967296*r) (by omega) (by omega),bzg (n:=4294967296*r+d) (by omega) (by omega),bzg (n:=q*y0) n (by omega)];by_cases h3:4294967296*r+d<q*y0
  ·have:q≠0:=fun h0=>by subst h0;omega
   rw[bzg (n:=q-1) (by omega) (by omega)];simp only[h3,decide_true,azc,if_true];by_cases h2:4294967296≤r+y1<;>simp[h2]
  ·simp[h3]
theorem l2_is {back:Int×Int×Int×Int×Int→Option Int}{y1 y0 d q r:Int}(hd0:0≤d)(hd:d<4294967296)(_:2147483648≤y1)(hy1':y1<4294967296)(hy0:0≤y0)(hy0':y0<4294967296)
 (hq0:0≤q) (hq:q≤4294967297) (hr0:0≤r) (hr:r<4294967296) :
 fzz back (y1,y0,d,r,q)=if 4294967296≤q∨4294967296*r+d<q*y0 then(if 4294967296≤r+y1 then some (q-1)else back (y1,y0,d,r+y1,q-1))else some q:=by
 unfold fzz;simp only;rw[bzg (n:=r+y1) (by omega) (by omega)];by_cases h:4294967296≤q
 ·rw[bzg (n:=q-1) (by omega) (by omega)];simp only[h,decide_true,azc,true_or,if_true];by_cases h2:4294967296≤r+y1<;>simp[h2]
 ·have:q*y0≤4294967295*4294967295:=hzk hq0 hy0 (by omega) (by omega);have n:=ez3 hq0 hy0;simp only[h,decide_false,azb,false_or];rw[bzg (n:=4294967296*r) (by omega) (by omega),bzg (n:=4294967296*r+d) (by omega) (by omega),bzg (n:=q*y0) n (by omega)];by_cases h3:4294967296*r+d<q*y0
  ·have:q≠0:=fun h0=>by subst h0;omega
   rw[bzg (n:=q-1) (by omega) (by omega)];simp only[h3,decide_true,azc,if_true];by_cases h2:4294967296≤r+y1<;>simp[h2]
  ·simp[h3]
theorem uz5 {X Y Z:Type}{F:(X→Option Y)→X→Option Y}{G:(Z→Option Y)→Z→Option Y}(e:Z→X)(ok:Z→Prop)
 (h:∀back back' z,ok z→(∀z',ok z'→back (e z')=back' z')→F back (e z)=G back' z):∀n z,ok z→iter F n (e z)=iter G n z
 | 0,z,_=>by rw[izL,izL]
 | n+1,z,hz=>by
  rw[azH,azH];exact h _ _ z hz fun z' hz'=>uz5 e ok h n z' hz'
def guess (y1 y0 d:Int)(back:Int×Int→Option Int)(z:Int×Int):Option Int :=
 if 0≤z.1∧z.1≤4294967297∧0≤z.2∧z.2<4294967296 then
  if 4294967296≤z.1∨4294967296*z.2+d<z.1*y0 then(if 4294967296≤z.2+y1 then some (z.1-1)else back (z.1-1,z.2+y1))else some z.1
 else none
theorem pzJ {y1 y0 d:Int}{back:Int×Int→Option Int}{z:Int×Int}(h:0≤z.1∧z.1≤4294967297∧0≤z.2∧z.2<4294967296):guess y1 y0 d back z =
 if 4294967296≤z.1∨4294967296*z.2+d<z.1*y0 then(if 4294967296≤z.2+y1 then some (z.1-1)else back (z.1-1,z.2+y1))else some z.1:=if_pos h
theorem l1_guess {u d y1 y0:Int}(hu0:0≤u)(hd0:0≤d)(hd:d<4294967296)(hy1:2147483648≤y1)(hy1':y1<4294967296)(hy0:0≤y0)(hy0':y0<4294967296)(hu:u<y1*4294967296+y0):
 hzC (y1,y0,d,u/y1,u%y1)=some ((u*4294967296+d)/(y1*4294967296+y0)):=by
 have h:=Az1 (F:=guess y1 y0 d) hu0 hd0 hd hy1 hy1' hy0 hy0' hu fun back q r h1 h2 h3 h4=>by
  rw[pzJ ⟨h1,h2,h3,h4⟩]
 have hlt:u/y1<4294967298:=(Int.ediv_lt_iff_lt_mul (by omega)).2 (by omega);have hnn:0≤u/y1:=Int.ediv_nonneg hu0 (by omega);have hm:=Int.emod_nonneg u (show y1≠0 by omega);have hm2:=Int.emod_lt_of_pos u (show 0<y1 by omega);rw[←h];refine uz5 (F:=fzy) (fun z:Int×Int=>(y1,y0,d,z.1,z.2)) (fun z=>0≤z.1∧z.1≤4294967297∧0≤z.2∧z.2<4294967296) ?_ big (u/y1,u%y1) ⟨hnn,by simp only;omega,hm,by simp only;omega⟩;intro back back' z hz hb;obtain⟨h1,h2,h3,h4⟩:=hz;rw[l1_is hd0 hd hy1 hy1' hy0 hy0' h1 h2 h3 h4];rw[pzJ ⟨h1,h2,h3,h4⟩];by_cases hc:4294967296≤z.1∨4294967296*z.2+d<z.1*y0
 ·rw[if_pos hc,if_pos hc];by_cases hr:4294967296≤z.2+y1
  ·rw[if_pos hr,if_pos hr]
  ·rw[if_neg hr,if_neg hr];refine hb (z.1-1,z.2+y1) ⟨?_,by simp only;omega,by simp only;omega,by simp only;omega⟩;rcases hc with hc|hc
   ·simp only;omega
   ·by_cases h0:z.1=0
    ·rw[h0]at hc;omega
    ·simp only;omega
 ·rw[if_neg hc,if_neg hc]
theorem l2_guess {u d y1 y0:Int}(hu0:0≤u)(hd0:0≤d)(hd:d<4294967296)(hy1:2147483648≤y1)(hy1':y1<4294967296)(hy0:0≤y0)(hy0':y0<4294967296)(hu:u<y1*4294967296+y0):
 hzD (y1,y0,d,u%y1,u/y1)=some ((u*4294967296+d)/(y1*4294967296+y0)):=by
 have h:=Az1 (F:=guess y1 y0 d) hu0 hd0 hd hy1 hy1' hy0 hy0' hu fun back q r h1 h2 h3 h4=>by
  rw[pzJ ⟨h1,h2,h3,h4⟩]
 have hlt:u/y1<4294967298:=(Int.ediv_lt_iff_lt_mul (by omega)).2 (by omega);have hnn:0≤u/y1:=Int.ediv_nonneg hu0 (by omega);have hm:=Int.emod_nonneg u (show y1≠0 by omega);have hm2:=Int.emod_lt_of_pos u (show 0<y1 by omega);rw[←h];refine uz5 (F:=fzz) (fun z:Int×Int=>(y1,y0,d,z.2,z.1)) (fun z=>0≤z.1∧z.1≤4294967297∧0≤z.2∧z.2<4294967296) ?_ big (u/y1,u%y1) ⟨hnn,by simp only;omega,hm,by simp only;omega⟩;intro back back' z hz hb;obtain⟨h1,h2,h3,h4⟩:=hz;rw[l2_is hd0 hd hy1 hy1' hy0 hy0' h1 h2 h3 h4];rw[pzJ ⟨h1,h2,h3,h4⟩];by_cases hc:4294967296≤z.1∨4294967296*z.2+d<z.1*y0
 ·rw[if_pos hc,if_pos hc];by_cases hr:4294967296≤z.2+y1
  ·rw[if_pos hr,if_pos hr]
  ·rw[if_neg hr,if_neg hr];refine hb (z.1-1,z.2+y1) ⟨?_,by simp only;omega,by simp only;omega,by simp only;omega⟩;rcases hc with hc|hc
   ·simp only;omega
   ·by_cases h0:z.1=0
    ·rw[h0]at hc;omega
    ·simp only;omega
 ·rw[if_neg hc,if_neg hc]
def kzF (yn u t q:Int):Int:=IntKind.u64.wrap (IntKind.u64.wrap (IntKind.u64.wrap (u*4294967296)+t.fdiv 4294967296)-IntKind.u64.wrap (q*yn))
def yz7 (yn u t:Int)(S:Int):Option (Int×Int) :=
 obnd (hzC (yn.fdiv 4294967296,azp BinOp.and IntKind.u64 yn 4294967295,t.fdiv 4294967296,IntKind.u64.wrap (u.tdiv (yn.fdiv 4294967296)),
  IntKind.u64.wrap (u-IntKind.u64.wrap (IntKind.u64.wrap (u.tdiv (yn.fdiv 4294967296))*yn.fdiv 4294967296)))) fun q1 =>
  (obnd (hzD (yn.fdiv 4294967296,azp BinOp.and IntKind.u64 yn 4294967295,azp BinOp.and IntKind.u64 t 4294967295,
   IntKind.u64.wrap (kzF yn u t q1-IntKind.u64.wrap (IntKind.u64.wrap ((kzF yn u t q1).tdiv (yn.fdiv 4294967296))*yn.fdiv 4294967296)),
   IntKind.u64.wrap ((kzF yn u t q1).tdiv (yn.fdiv 4294967296)))) fun q0 =>
   some (IntKind.u64.wrap (IntKind.u64.wrap (q1*4294967296)+q0),
    (IntKind.u64.wrap (IntKind.u64.wrap (IntKind.u64.wrap (kzF yn u t q1*4294967296)+azp BinOp.and IntKind.u64 t 4294967295)-IntKind.u64.wrap (q0*yn))).fdiv S))
theorem yzT {a b:Int}(ha:0≤a):a.tdiv b=a/b:=Int.tdiv_eq_ediv_of_nonneg ha
theorem rest_is {u d:Int}(hu:0≤u)(hu':u<18446744073709551616)(hd:0<d):IntKind.u64.wrap (u.tdiv d)=u/d∧IntKind.u64.wrap (u-IntKind.u64.wrap (IntKind.u64.wrap (u.tdiv d)*d))=u%d:=by
 rw[yzT hu];have h1:0≤u/d:=Int.ediv_nonneg hu (by omega);have h2:u/d≤u:=Int.ediv_le_self _ hu;have h3:=Int.mul_ediv_add_emod u d;have h4:=Int.emod_nonneg u (show d≠0 by omega);have h5:=Int.mul_comm d (u/d);have h6:=ez3 h1 (show 0≤d by omega);rw[bzg h1 (by omega),bzg h6 (by omega),bzg (by omega) (by omega)];exact⟨rfl,by omega⟩
theorem div_v_is {yn u t q:Int}(hq:q=(u*4294967296+t/4294967296)/yn)(hyn:0<yn)(hyn':yn<18446744073709551616):
 kzF yn u t q=u*4294967296+t/4294967296-q*yn∧0≤kzF yn u t q∧kzF yn u t q<yn:=by
 have h3:=Int.mul_ediv_add_emod (u*4294967296+t/4294967296) yn;have h4:=Int.emod_nonneg (u*4294967296+t/4294967296) (show yn≠0 by omega);have h5:=Int.emod_lt_of_pos (u*4294967296+t/4294967296) hyn;rw[←hq,Int.mul_comm]at h3;have e:kzF yn u t q=u*4294967296+t/4294967296-q*yn:=by
  unfold kzF;rw[Int.fdiv_eq_ediv_of_nonneg t (by omega)];simp only[u64];omega
 rw[e];refine⟨rfl,by omega,by omega⟩
theorem AzF {yn u t S:Int}(hyn:9223372036854775808≤yn)(hyn':yn<18446744073709551616)(hu:0≤u)(hu':u<yn)(ht:0≤t)(ht':t<18446744073709551616)(hS:0<S):
 yz7 yn u t S=some ((u*18446744073709551616+t)/yn,(u*18446744073709551616+t)%yn/S):=by
 unfold yz7;rw[Int.fdiv_eq_ediv_of_nonneg yn (by omega),Int.fdiv_eq_ediv_of_nonneg t (by omega),and32 (x:=yn) (by omega) hyn',and32 (x:=t) ht ht'];obtain⟨r1,r2⟩:=rest_is (u:=u) (d:=yn/4294967296) hu (by omega) (by omega);rw[r2,r1,l1_guess hu (by omega) (by omega) (by omega) (by omega) (by omega) (by omega) (by omega),aza];have hyne:yn/4294967296*4294967296+yn%4294967296=yn:=by omega
 rw[hyne];obtain⟨q1,hq1⟩:∃q,(u*4294967296+t/4294967296)/yn=q:=⟨_,rfl⟩;rw[hq1];obtain⟨v1,v2,v3⟩:=div_v_is hq1.symm (by omega) hyn';obtain⟨v,hv⟩:∃v,kzF yn u t q1=v:=⟨_,rfl⟩;rw[hv]at v1 v2 v3 ⊢;obtain⟨s1,s2⟩:=rest_is (u:=v) (d:=yn/4294967296) v2 (by omega) (by omega);rw[s2,s1,l2_guess v2 (by omega) (by omega) (by omega) (by omega) (by omega) (by omega) (by omega),aza,hyne];obtain⟨q0,hq0⟩:∃q,(v*4294967296+t%4294967296)/yn=q:=⟨_,rfl⟩;rw[hq0];have h3:=Int.mul_ediv_add_emod (v*4294967296+t%4294967296) yn;have h4:=Int.emod_nonneg (v*4294967296+t%4294967296) (show yn≠0 by omega);have h5:=Int.emod_lt_of_pos (v*4294967296+t%4294967296) (show 0<yn by omega);rw[hq0,Int.mul_comm]at h3;have b1:q1<4294967296:=by rw[←hq1];exact(Int.ediv_lt_iff_lt_mul (by omega)).2 (by omega)
 have b1':0≤q1:=by rw[←hq1];exact Int.ediv_nonneg (by omega) (by omega)
 have b0:q0<4294967296:=by rw[←hq0];exact(Int.ediv_lt_iff_lt_mul (by omega)).2 (by omega)
 have b0':0≤q0:=by rw[←hq0];exact Int.ediv_nonneg (by omega) (by omega)
 have key:u*18446744073709551616+t=(v*4294967296+t%4294967296)%yn+yn*(q1*4294967296+q0):=by
  have e1:yn*(q1*4294967296+q0)=q1*yn*4294967296+q0*yn:=by
   rw[Int.mul_add,Int.mul_comm yn q0,←Int.mul_assoc,Int.mul_comm yn q1]
  rw[e1];omega
 have kq:(u*18446744073709551616+t)/yn=q1*4294967296+q0:=by
  rw[key,Int.add_mul_ediv_left _ _ (show yn≠0 by omega),Int.ediv_eq_zero_of_lt h4 h5,Int.zero_add]
 have kr:(u*18446744073709551616+t)%yn=(v*4294967296+t%4294967296)%yn:=by
  rw[key,Int.add_mul_emod_self_left,Int.emod_emod]
 have er:IntKind.u64.wrap (IntKind.u64.wrap (IntKind.u64.wrap (v*4294967296)+t%4294967296)-IntKind.u64.wrap (q0*yn))=(v*4294967296+t%4294967296)%yn:=by
  simp only[u64];omega
 rw[kq,kr,er,Int.fdiv_eq_ediv_of_nonneg _ (by omega),bzg (n:=q1*4294967296) (by omega) (by omega),bzg (by omega) (by omega)]
set_option maxHeartbeats 1000000 in
theorem Div64_is {hi lo y:Int}(h0:0≤hi)(h1:hi<y)(hl0:0≤lo)(hl:lo<18446744073709551616)(hy:y<18446744073709551616):
 hzZ (hi,lo,y)=some ((hi*18446744073709551616+lo)/y,(hi*18446744073709551616+lo)%y):=by
 have f1:decide (y=0)=false:=dF0 (by omega);have f2:decide (y≤hi)=false:=dF0 (by omega);by_cases hz:hi=0
 ·subst hz;unfold hzZ;simp only[f1,f2,azb,decide_true,azc];rw[yzT hl0,Int.tmod_eq_emod_of_nonneg hl0,Int.zero_mul,Int.zero_add];have:=Int.ediv_le_self y hl0;have:=Int.ediv_nonneg hl0 (show 0≤y by omega);rw[bzg this (by omega)]
 have f3:decide (hi=0)=false:=dF0 hz;obtain⟨Y,rfl⟩:=Int.eq_ofNat_of_zero_le (show 0≤y by omega);obtain⟨b1,b2,b3⟩:=Lib.bitLenAux_bounds 64 Y (by omega) (by omega);have b4:Lib.bitLenAux 64 Y≤64:=by
  refine Nat.le_of_not_lt fun h=>?_
  have:=Nat.pow_le_pow_right (show 0<2 by omega) (show 64≤Lib.bitLenAux 64 Y-1 by omega);omega
 obtain⟨b,hb⟩:∃b,Lib.bitLenAux 64 Y=b:=⟨_,rfl⟩;rw[hb]at b1 b2 b3 b4;obtain⟨s,hs⟩:∃s,s+b=64:=⟨64-b,by omega⟩;have hST:(2:Int)^s*2^b=18446744073709551616:=by rw[←Int.pow_add,hs];rfl
 have hS0:(0:Int)<2^s:=Int.pow_pos (by omega);have hT0:(0:Int)<2^b:=Int.pow_pos (by omega);have hYT:(Y:Int)<2^b:=by
  have:=Int.ofNat_lt.2 b3;simpa using this
 have hYS:(Y:Int)*2^s<18446744073709551616:=by
  rw[←hST,Int.mul_comm ((2:Int)^s)];exact Int.mul_lt_mul_of_pos_right hYT hS0
 have hYS2:(9223372036854775808:Int)≤Y*2^s:=by
  have h2:((2^(b-1):Nat):Int)≤Y:=Int.ofNat_le.2 b2;have h3:=Int.mul_le_mul_of_nonneg_right h2 (Int.le_of_lt hS0);have h4:((2^(b-1):Nat):Int)*2^s=9223372036854775808:=by
   rw[Int.natCast_pow]
   show(2:Int)^(b-1)*2^s=_
   rw[←Int.pow_add,show b-1+s=63 by omega];rfl
  omega
 have hlT:lo/2^b<2^s:=(Int.ediv_lt_iff_lt_mul hT0).2 (by rw[hST];exact hl);have hlT0:0≤lo/2^b:=Int.ediv_nonneg hl0 (Int.le_of_lt hT0);have hhi:hi*2^s+2^s≤Y*2^s:=by
  have:=Int.mul_le_mul_of_nonneg_right (show hi+1≤(Y:Int) by omega) (Int.le_of_lt hS0);rw[Int.add_mul]at this;omega
 have hhi0:0≤hi*2^s:=ez3 h0 (Int.le_of_lt hS0);have w1:dzR (Y:Int)=some (s:Int):=by
  unfold dzR;have e:Lib.bitLen (Y:Int).toNat=b:=hb;rw[e,show(64-(b:Int))=s by omega]
 have w2:IntKind.u64.wrap (s:Int)=s:=bzg (by omega) (by omega);have w3:IntKind.u64.wrap (64-(s:Int))=b:=by rw[show(64-(s:Int))=b by omega];exact bzg (by omega) (by omega)
 have m1:min s 64=s:=by omega
 have m2:min b 64=b:=by omega
 have n1:decide ((s:Int)<0)=false:=dF0 (by omega);have n2:decide ((b:Int)<0)=false:=dF0 (by omega);have wy:IntKind.u64.wrap ((Y:Int)*2^s)=Y*2^s:=bzg (by omega) hYS;have wh:IntKind.u64.wrap (hi*2^s)=hi*2^s:=bzg hhi0 (by omega);have wf:lo.fdiv (2^b)=lo/2^b:=Int.fdiv_eq_ediv_of_nonneg lo (Int.le_of_lt hT0);have wo:azp .or .u64 (hi*2^s) (lo/2^b)=hi*2^s+lo/2^b:=or_low h0 hlT0 hlT (by omega);have nd:decide (((Y:Int)*2^s).fdiv 4294967296=0)=false:=by
  rw[Int.fdiv_eq_ediv_of_nonneg _ (by omega)];exact dF0 (by omega)
 unfold hzZ;simp only[f1,f2,f3,azb,w1,aza,w2,w3,n1,n2,Int.toNat_natCast,m1,m2,wy,wh,wf,wo,nd];have hd:=AzF (yn:=(Y:Int)*2^s) (u:=hi*2^s+lo/2^b) (t:=IntKind.u64.wrap (lo*2^s)) (S:=2^s) hYS2 hYS (by omega) (by omega)
  (by rw[u64];omega) (by rw[u64];omega) hS0
 refine Eq.trans hd ?_;have e1:(hi*2^s+lo/2^b)*18446744073709551616+IntKind.u64.wrap (lo*2^s)=2^s*(hi*18446744073709551616+lo):=by
  have h1:lo*2^s/18446744073709551616=lo/2^b:=by
   rw[←hST,Int.mul_comm ((2:Int)^s) (2^b)];exact Int.mul_ediv_mul_of_pos_left lo (2^b) hS0
  rw[u64,←h1,Int.mul_add,Int.mul_comm ((2:Int)^s) lo,←Int.mul_assoc,Int.mul_comm ((2:Int)^s) hi];omega
 rw[e1,Int.mul_comm (Y:Int) (2^s),Int.mul_ediv_mul_of_pos _ _ hS0,Int.mul_emod_mul_of_pos _ _ hS0,Int.mul_ediv_cancel_left _ (by omega)]
def W (v:Int)(m:Bool):Wide:=⟨v/18446744073709551616,v%18446744073709551616,m⟩
def sw (v:Int)(m:Bool):Int:=bif m then -v else v
def inW (v:Int):Prop:=0≤v∧v<340282366920938463463374607431768211456
theorem lzS {n:Int}(h:I64 n):hzG n=some (W n.natAbs (decide (n<0))):=by
 unfold I64 at h;unfold hzG W;by_cases h0:n<0
 ·simp only[h0,decide_true,azc,u64,sE0,Wide.mk.injEq,and_true];omega
 ·simp only[h0,decide_false,azb,u64,sE0,Wide.mk.injEq,and_true];omega
theorem pow10:∀n:Fin 20,(1:Int)≤10^n.val∧(10:Int)^n.val≤10000000000000000000:=by decide
theorem fzk {n:Nat}(h:n≤19):(1:Int)≤10^n∧(10:Int)^n≤10000000000000000000:=pow10 ⟨n,by omega⟩
theorem izD {n:Nat}(h:n≤19):dzg (n:Int)=some (10^n):=by
 have h2:lzg (1,(n:Int),0)=some (10^n):=by
  refine mzo (F:=izg) (fun x:Int×Int×Int=>((n:Int)-x.2.2).toNat) (fun x:Int×Int×Int=>0≤x.2.2∧x.2.2≤n∧x.2.1=n∧x.1=10^x.2.2.toNat) (fun _=>10^n) ?_ _ ⟨by simp,by simp,rfl,rfl⟩ (by simp only;omega);intro back x hp hb;obtain⟨a,m,i⟩:=x;obtain⟨h1,h2,h3,h4⟩:=hp;simp only at h1 h2 h3 h4 hb;subst h3 h4;obtain⟨i,rfl⟩:=Int.eq_ofNat_of_zero_le h1;unfold izg;simp only[Int.toNat_natCast]at *;by_cases hi:i<n
  ·have hp1:=(fzk (show i+1≤19 by omega));rw[dT0 (show(i:Int)<n by omega),azc,←Int.pow_succ,bzg (by omega) (by omega),azG (by omega) (by omega)];exact hb _ ⟨by simp only;omega,by simp only;omega,rfl,by simp only;rw[show((i:Int)+1).toNat=i+1 by omega]⟩ (by simp only;omega)
  ·rw[dF0 (show ¬(i:Int)<n by omega),azb,show i=n by omega]
 unfold dzg;rw[h2];rfl
theorem vzP {v n:Int}{m:Bool}(hv:inW v)(hn:0≤n)(hn2:n<18446744073709551616)(h:inW (v*n)):dzz (W v m,n)=some (W (v*n) m):=by
 unfold inW at *;unfold dzz W;simp only;rw[uzh (by omega) (by omega) hn hn2];simp only[aza];have e:v*n=v/18446744073709551616*n*18446744073709551616+v%18446744073709551616*n:=by
  have h1:v=v/18446744073709551616*18446744073709551616+v%18446744073709551616:=by omega
  have h2:v*n=(v/18446744073709551616*18446744073709551616+v%18446744073709551616)*n:=by rw[←h1]
  rw[h2,Int.add_mul,Int.mul_right_comm]
 have p1:=ez3 (show 0≤v/18446744073709551616 by omega) hn;have p2:=ez3 (show 0≤v%18446744073709551616 by omega) hn;rw[e]at h ⊢;generalize v/18446744073709551616*n=a at *;generalize v%18446744073709551616*n=b at *;simp only[u64,sE0,Wide.mk.injEq,and_true];omega
theorem yzE {v w:Int}{m m':Bool}(_:inW v)(_:inW w):czG (W v m,W w m')=some (decide (v<w)):=by
 unfold inW at *;unfold czG W;simp only;by_cases h1:v/18446744073709551616<w/18446744073709551616
 ·rw[dT0 h1,azc,dT0 (show v<w by omega)]
 ·rw[dF0 h1,azb];by_cases h2:v/18446744073709551616=w/18446744073709551616
  ·rw[dT0 h2,azc];simp only[sE0,decide_eq_decide];omega
  ·rw[dF0 h2,azb,dF0 (show ¬v<w by omega)]
theorem plus_is {v w:Int}{m m':Bool}(hv:inW v)(hw:inW w)(h:inW (v+w)):
 ∃z b,dz1 (W v m,W w m')=some (W z b)∧inW z∧sw z b=sw v m+sw w m':=by
 have hvw:=yzE (m:=m) (m':=m') hv hw;unfold inW at *;unfold dz1;rw[hvw];by_cases hm:m=m'
 ·subst hm;refine⟨v+w,m,?_,h,by cases m<;>simp only[sw,cond_true,cond_false]<;>omega⟩;unfold fzg W;simp only[decide_true,azc,Bool.true_or,cond_true,aza,u64,sE0,Wide.mk.injEq,and_true];omega
 ·rw[dF0 (show ¬(W v m).minus=(W w m').minus from hm),azb,aza];have hm2:m' = !m:=by cases m<;>cases m'<;>simp at hm ⊢
  subst hm2;unfold gzH W;by_cases hl:v<w
  ·refine⟨w-v,!m,?_,by omega,by cases m<;>simp only[sw,cond_true,cond_false,Bool.not_true,Bool.not_false]<;>omega⟩;rw[dT0 hl,azc];simp only[decide_true,Bool.true_or,cond_true,aza,u64,sE0,Wide.mk.injEq,and_true,Int.add_zero,Int.sub_zero];by_cases hb:w%18446744073709551616<v%18446744073709551616
   ·rw[dT0 hb,cond_true];omega
   ·rw[dF0 hb,cond_false];omega
  ·refine⟨v-w,m,?_,by omega,by cases m<;>simp only[sw,cond_true,cond_false,Bool.not_true,Bool.not_false]<;>omega⟩;rw[dF0 hl,azb];simp only[decide_true,Bool.true_or,cond_true,aza,u64,sE0,Wide.mk.injEq,and_true,Int.add_zero,Int.sub_zero];by_cases hb:v%18446744073709551616<w%18446744073709551616
   ·rw[dT0 hb,cond_true];omega
   ·rw[dF0 hb,cond_false];omega
theorem by_is {v n:Int}{m:Bool}(hv:inW v)(hn:0<n)(hn2:n<18446744073709551616):gz1 (W v m,n)=some (W (v/n) m,v%n):=by
 unfold inW at *;unfold gz1 W;simp only;have hh:0≤v/18446744073709551616:=by omega
 rw[dF0 (show ¬n=0 by omega),azb,azb,Int.tmod_eq_emod_of_nonneg hh,yzT hh];have r0:=Int.emod_nonneg (v/18446744073709551616) (show n≠0 by omega);have r1:=Int.emod_lt_of_pos (v/18446744073709551616) hn;rw[Div64_is r0 r1 (by omega) (by omega) hn2,aza];obtain⟨q,hq⟩:∃q,v/18446744073709551616/n=q:=⟨_,rfl⟩;obtain⟨r,hr⟩:∃r,v/18446744073709551616%n=r:=⟨_,rfl⟩;have hqr:=Int.mul_ediv_add_emod (v/18446744073709551616) n;rw[hq,hr]at hqr;rw[hr]at r0 r1;rw[hr,hq];have hq0:0≤q:=by rw[←hq];exact Int.ediv_nonneg hh (by omega)
 have hq1:q<18446744073709551616:=by have:=Int.ediv_le_self n hh;omega
 have e:v=r*18446744073709551616+v%18446744073709551616+n*(q*18446744073709551616):=by
  rw[←Int.mul_assoc];omega
 obtain⟨d,hd⟩:∃d,r*18446744073709551616+v%18446744073709551616=d:=⟨_,rfl⟩;rw[hd]at e ⊢;have d0:0≤d/n:=Int.ediv_nonneg (by omega) (by omega);have d1:d/n<18446744073709551616:=(Int.ediv_lt_iff_lt_mul hn).2 (by omega);have e1:v/n=d/n+q*18446744073709551616:=by
  rw[e,Int.add_mul_ediv_left _ _ (show n≠0 by omega)]
 have e2:v%n=d%n:=by rw[e,Int.add_mul_emod_self_left]
 rw[e1,e2];simp only[u64,sE0,Prod.mk.injEq,Wide.mk.injEq,and_true];omega
theorem up_is {v:Int}{m:Bool}(hv:inW v)(h:inW (v+1)):izY (W v m)=some (W (v+1) m):=by
 unfold inW at *;unfold izY fzg W;simp only[decide_true,Bool.true_or,cond_true,aza,u64,sE0,Wide.mk.injEq,and_true];omega
theorem rdiv_le {v n:Int}(hv:0≤v)(hn:0<n):0≤rdiv v n∧rdiv v n≤v/n+1∧v/n≤v:=by
 have h1:=Int.ediv_nonneg hv (show 0≤n by omega);have h2:=Int.ediv_le_self n hv;unfold rdiv;split<;>omega
theorem kzp {v n:Int}{m:Bool}(hv:0≤v)(hv2:v<340282366920938463463374607431768211455)(hn:0<n)(hn2:n<18446744073709551616):czs (W v m,n)=some (W (rdiv v n) m)∧inW (rdiv v n):=by
 have hw:inW v:=⟨hv,by omega⟩;obtain⟨h1,h2,h3⟩:=rdiv_le hv hn;have r0:=Int.emod_nonneg v (show n≠0 by omega);have r1:=Int.emod_lt_of_pos v hn;have r2:=Int.ediv_nonneg hv (show 0≤n by omega);refine⟨?_,h1,by omega⟩;unfold czs;rw[by_is hw hn hn2,aza];simp only;rw[bzg (by omega) (by omega)];unfold rdiv;by_cases h:n-v%n≤v%n
 ·rw[dT0 h,azc,if_pos (by omega),up_is ⟨r2,by omega⟩ ⟨by omega,by omega⟩];rfl
 ·rw[dF0 h,azb,if_neg (by omega)]
theorem BzL:∀(p:Nat) {v:Int},0≤v→0≤(azI v p).1
 | 0,_,h=>h
 | p+1,v,h=>by
  unfold azI;split
  ·exact BzL p (by omega)
  ·exact h
theorem zzA:∀(p:Nat) (v:Int),azI (-v) p=(-(azI v p).1,(azI v p).2)
 | 0,_=>rfl
 | p+1,v=>by
  unfold azI;by_cases h:v%10=0
  ·rw[if_pos (by omega),if_pos h,show -v/10 = -(v/10) by omega,zzA p]
  ·rw[if_neg (by omega),if_neg h]
theorem dec_l1_is {v:Int}{m:Bool}{p:Nat}(hv:inW v)(hp:p≤18):izv ((p:Int),W v m)=some (((azI v p).2:Int),W (azI v p).1 m):=by
 refine mzo (fun x=>x.1.toNat) (fun x=>∃(p:Nat) (v:Int),p≤18∧inW v∧x=((p:Int),W v m)∧True)
  (fun x=>(((azI (x.2.hi*18446744073709551616+x.2.lo) x.1.toNat).2:Int),W (azI (x.2.hi*18446744073709551616+x.2.lo) x.1.toNat).1 m)) ?_ _ ⟨p,v,hp,hv,rfl,trivial⟩ (by simp only;omega) |>.trans ?_
 ·intro back x hx hb;obtain⟨p,v,hp,hv,rfl,-⟩:=hx;have ev:∀{v:Int},v/18446744073709551616*18446744073709551616+v%18446744073709551616=v:=fun {v}=>by omega
  unfold izu;simp only[W,Int.toNat_natCast,ev]at hb ⊢;cases p with
  | zero=>simp only[Int.ofNat_zero,Int.lt_irrefl,decide_false,azb,azI]
  | succ p =>
   have hby:=by_is (v:=v) (n:=10) (m:=m) hv (by omega) (by omega);simp only[W]at hby
   rw[dT0 (show(0:Int)<((p+1:Nat):Int) by omega),azc,hby,aza];unfold azI;by_cases h0:v%10=0
   ·simp only[h0,decide_true,Bool.not_true,azb,if_true];rw[azG (by omega) (by omega),show(((p+1:Nat):Int)-1)=(p:Int) by omega];have:=hb ((p:Int),⟨v/10/18446744073709551616,v/10%18446744073709551616,m⟩) ⟨p,v/10,by omega,⟨by have:=hv.1;omega,by have:=hv.1;have:=hv.2;omega⟩,rfl,trivial⟩ (by simp only[Int.toNat_natCast];omega);simpa only[ev,Int.toNat_natCast]using this
   ·simp only[h0,decide_false,Bool.not_false,azc,if_false]
 ·have ev:v/18446744073709551616*18446744073709551616+v%18446744073709551616=v:=by omega
  simp only[W,ev,Int.toNat_natCast]
theorem kzx {v:Int}{m:Bool}{p:Nat}(hv:inW v)(hp:p≤18):bzX (W v m,(p:Int))=some (decV (sw v m) p):=by
 unfold bzX;simp only;rw[dec_l1_is hv hp,aza];have h0:=BzL p hv.1;have h1:=szg p v;have hs:azI (sw v m) p=(sw (azI v p).1 m,(azI v p).2):=by
  cases m
  ·rfl
  ·exact zzA p v
 have hd:decV (sw v m) p=if I64 (sw (azI v p).1 m)then(⟨sw (azI v p).1 m,((azI v p).2:Int)⟩,0)else(⟨0,0⟩,8):=by
  unfold decV;rw[hs]
 rw[hd];have hv1:=hv.1;have hv2:=hv.2;generalize (azI v p).1=u at *;generalize ((azI v p).2)=s at *;unfold W;simp only[u64,i64];by_cases c1:u/18446744073709551616=0
 ·by_cases c2:9223372036854775808<u%18446744073709551616
  ·rw[if_neg (by unfold I64 sw;cases m<;>simp only[cond_true,cond_false]<;>omega)];simp[c1,c2]
  ·by_cases c3:u%18446744073709551616=9223372036854775808
   ·cases m
    ·rw[if_neg (by unfold I64 sw;simp only[cond_false];omega)];simp[c1,c3]
    ·rw[if_pos (by unfold I64 sw;simp only[cond_true];omega)];simp only[c1,c3,sw,decide_true,decide_false,Bool.not_true,azc,azb,cond_true,sE0,Prod.mk.injEq,Dec.mk.injEq,and_true,Int.lt_irrefl];omega
   ·cases m
    ·rw[if_pos (by unfold I64 sw;simp only[cond_false];omega)];simp only[c1,c2,c3,sw,decide_true,decide_false,Bool.not_true,azb,cond_false,sE0,Prod.mk.injEq,Dec.mk.injEq,and_true];omega
    ·rw[if_pos (by unfold I64 sw;simp only[cond_true];omega)];simp only[c1,c2,c3,sw,decide_true,decide_false,Bool.not_true,azc,azb,cond_true,sE0,Prod.mk.injEq,Dec.mk.injEq,and_true];omega
 ·rw[if_neg (by unfold I64 sw;cases m<;>simp only[cond_true,cond_false]<;>omega)];simp[c1]
theorem nzw (n:Int):sw n.natAbs (decide (n<0))=n:=by
 unfold sw;by_cases h:n<0
 ·rw[dT0 h,cond_true];omega
 ·rw[dF0 h,cond_false];omega
theorem tzG (n:Int)(k:Nat):(n.natAbs:Int)*10^k=((n*10^k).natAbs:Int):=by
 have h:(1:Int)≤10^k:=by
  have:=Int.pow_pos (n:=(10:Int)) (m:=k) (by omega);omega
 by_cases h0:n<0
 ·have e1:(n.natAbs:Int) = -n:=by omega
  have e2:n*10^k≤0:=by
   have:=Int.mul_nonneg (show 0≤-n by omega) (show(0:Int)≤10^k by omega);rw[Int.neg_mul]at this;omega
  rw[e1,Int.neg_mul];omega
 ·have e1:(n.natAbs:Int)=n:=by omega
  have:=Int.mul_nonneg (show 0≤n by omega) (show(0:Int)≤10^k by omega);rw[e1];omega
theorem tz2 (n:Int)(k:Nat):decide (n*10^k<0)=decide (n<0):=by
 have h:(0:Int)<10^k:=Int.pow_pos (by omega);rw[decide_eq_decide];constructor
 ·intro h1;refine Int.not_le.1 fun h2=>?_
  have:=Int.mul_nonneg h2 (Int.le_of_lt h);omega
 ·intro h1;have:=Int.mul_pos (show 0 < -n by omega) h;rw[Int.neg_mul]at this;omega
theorem V_le {d:Dec}(hm:I64 d.M):(V d).natAbs≤9223372036854775808000000000:=by
 have h:=tzG d.M (9-d.S.toNat);have h2:=fzk (show 9-d.S.toNat≤19 by omega);have h3:(10:Int)^(9-d.S.toNat)≤10^9:=by
  have:=Nat.pow_le_pow_right (show 0<10 by omega) (show 9-d.S.toNat≤9 by omega);have h:=Int.ofNat_le.2 this;simpa using h
 unfold I64 at hm;have h4:(d.M.natAbs:Int)*10^(9-d.S.toNat)≤9223372036854775808*10^9:=hzk (by omega) (by omega) (by omega) h3;unfold V;omega
theorem inV {d:Dec}(hm:I64 d.M):inW (V d).natAbs:=by
 have:=V_le hm;unfold inW;omega
theorem hzx {d:Dec}(hm:I64 d.M)(h0:0≤d.S)(h9:d.S≤9):czN d=some (W (V d).natAbs (decide (V d<0))):=by
 unfold czN;have e:d.M.natAbs*(10:Int)^(9-d.S.toNat)=((V d).natAbs:Int):=tzG d.M (9-d.S.toNat);have hp:=fzk (show 9-d.S.toNat≤19 by omega);rw[lzS hm,aza,azG (by omega) (by omega),show(9-d.S:Int)=((9-d.S.toNat:Nat):Int) by omega,izD (by omega),aza,
  vzP (by unfold I64 at hm;unfold inW;omega) (by omega) (by omega) (by rw[e];exact inV hm),e,aza]
 unfold V;rw[tz2]
theorem Add_is {a b:Dec}(ha:I64 a.M)(hb:I64 b.M)(oa:okD a)(ob:okD b):jz0 (a,b)=some (decV (V a+V b) 9):=by
 unfold jz0;simp only;rw[hzx ha oa.1 oa.2.1,hzx hb ob.1 ob.2.1,aza,aza];have h1:=V_le ha;have h2:=V_le hb;obtain⟨z,m,e,hz,es⟩:=plus_is (m:=decide (V a<0)) (m':=decide (V b<0)) (inV ha) (inV hb) (by unfold inW;omega);rw[e,aza,show(9:Int)=((9:Nat):Int) from rfl,kzx hz (by omega),es,nzw,nzw];rfl
theorem sw_not (v:Int)(m:Bool):sw v (!m) = - sw v m:=by cases m<;>simp[sw]
theorem Sub_is {a b:Dec}(ha:I64 a.M)(hb:I64 b.M)(oa:okD a)(ob:okD b):gzd (a,b)=some (decV (V a-V b) 9):=by
 unfold gzd;simp only;rw[hzx ha oa.1 oa.2.1,hzx hb ob.1 ob.2.1,aza,aza];have h1:=V_le ha;have h2:=V_le hb;obtain⟨z,m,e,hz,es⟩:=plus_is (m:=decide (V a<0)) (m':=!decide (V b<0)) (inV ha) (inV hb) (by unfold inW;omega);have e2:dz1 (W (V a).natAbs (decide (V a<0)),{hi:=(W (V b).natAbs (decide (V b<0))).hi,lo:=(W (V b).natAbs (decide (V b<0))).lo,minus:=!(W (V b).natAbs (decide (V b<0))).minus})=some (W z m):=e;rw[e2,aza,show(9:Int)=((9:Nat):Int) from rfl,kzx hz (by omega),es,sw_not,nzw,nzw,←Int.sub_eq_add_neg];rfl
theorem sw_mul (a b:Int):sw ((a.natAbs:Int)*b.natAbs) (!decide (decide (a<0)=decide (b<0)))=a*b:=by
 have e:(a.natAbs:Int)*b.natAbs=((a*b).natAbs:Int):=by rw[Int.natAbs_mul,Int.natCast_mul]
 rw[e];unfold sw;by_cases h1:a<0<;>by_cases h2:b<0
 ·have:=Int.mul_nonneg (show 0≤-a by omega) (show 0≤-b by omega);rw[Int.neg_mul_neg]at this;simp only[h1,h2,decide_true,Bool.not_true,cond_false];omega
 ·have:=Int.mul_nonneg (show 0≤-a by omega) (show 0≤b by omega);rw[Int.neg_mul]at this;simp only[h1,h2,decide_true,decide_false,Bool.true_eq_false,Bool.not_false,cond_true];omega
 ·have:=Int.mul_nonneg (show 0≤a by omega) (show 0≤-b by omega);rw[Int.mul_neg]at this;simp only[h1,h2,decide_true,decide_false,Bool.false_eq_true,Bool.not_false,cond_true];omega
 ·have:=Int.mul_nonneg (show 0≤a by omega) (show 0≤b by omega);simp only[h1,h2,decide_true,decide_false,Bool.not_true,cond_false];omega
theorem Mul_is {a b:Dec}(ha:I64 a.M)(hb:I64 b.M)(h0:0≤a.S+b.S)(h9:a.S+b.S≤9):fzh (a,b)=some (decV (a.M*b.M) (a.S+b.S).toNat):=by
 have hA:=ha;have hB:=hb;unfold I64 at ha hb;unfold fzh;simp only;have p0:=ez3 (show(0:Int)≤a.M.natAbs by omega) (show(0:Int)≤b.M.natAbs by omega);have p1:(a.M.natAbs:Int)*b.M.natAbs≤9223372036854775808*9223372036854775808:=hzk (by omega) (by omega) (by omega) (by omega);have lo:∀(n:Int) (m:Bool),I64 n→(W n.natAbs m).lo=n.natAbs:=fun n m h=>by
  show(n.natAbs:Int)%18446744073709551616=n.natAbs
  unfold I64 at h;omega
 rw[lzS hA,lzS hB,aza,aza,lo _ _ hA,lo _ _ hB,uzh (by omega) (by omega) (by omega) (by omega),aza,azG (by omega) (by omega),dF0 (by omega),azb];have e2:bzX ({hi:=(a.M.natAbs:Int)*b.M.natAbs/18446744073709551616,lo:=(a.M.natAbs:Int)*b.M.natAbs%18446744073709551616,minus:=!decide ((W a.M.natAbs (decide (a.M<0))).minus=(W b.M.natAbs (decide (b.M<0))).minus)},((a.S+b.S).toNat:Int)) =
  some (decV (sw ((a.M.natAbs:Int)*b.M.natAbs) (!decide (decide (a.M<0)=decide (b.M<0)))) (a.S+b.S).toNat):=kzx ⟨p0,by omega⟩ (by omega)
 have e3:a.S+b.S=((a.S+b.S).toNat:Int):=by omega
 rw[sw_mul,←e3]at e2;simp only at e2 ⊢;rw[e2];rfl
theorem Round_is {a:Dec}{p:Nat}(ha:I64 a.M)(h0:0≤a.S)(h9:a.S≤9)(hp:p≤9):dzS (a,(p:Int))=some (if a.S≤p then(a,0)else decV (rnd a.M (10^(a.S.toNat-p))) p):=by
 have hA:=ha;unfold I64 at ha;unfold dzS;simp only;rw[dF0 (by omega),azb,dF0 (by omega),azb];by_cases hs:a.S≤p
 ·rw[dT0 hs,azc,if_pos hs]
 ·have hw:=fzk (show a.S.toNat-p≤19 by omega);rw[dF0 hs,azb,if_neg hs,lzS hA,aza,azG (by omega) (by omega),dF0 (by omega),azb,show a.S-p=((a.S.toNat-p:Nat):Int) by omega,izD (by omega),aza];obtain⟨h1,h2⟩:=kzp (v:=a.M.natAbs) (n:=10^(a.S.toNat-p)) (m:=decide (a.M<0)) (by omega) (by omega) (by omega) (by omega);rw[h1,aza,dF0 (by omega),azb,kzx h2 (by omega),aza];have e:sw (rdiv a.M.natAbs (10^(a.S.toNat-p))) (decide (a.M<0))=rnd a.M (10^(a.S.toNat-p)):=by
   unfold sw rnd;by_cases hn:a.M<0
   ·rw[dT0 hn,cond_true,if_pos hn,show(a.M.natAbs:Int) = -a.M by omega]
   ·rw[dF0 hn,cond_false,if_neg hn,show(a.M.natAbs:Int)=a.M by omega]
  rw[e]
theorem tmod_neg {a n:Int}(hn:0<n):(if a.tmod n<0 then a.tdiv n-1 else a.tdiv n)=a/n:=by
 have h1:=Int.mul_tdiv_add_tmod a n;by_cases h:0≤a
 ·have:=Int.tmod_nonneg n h;rw[if_neg (by omega),Int.tdiv_eq_ediv_of_nonneg h]
 ·have h2:=Int.lt_tmod_of_pos a hn;have h3:a.tmod n≤0:=by
   have h4:=Int.tmod_nonneg n (show 0≤-a by omega);rw[Int.neg_tmod]at h4;omega
  split
  ·refine(yz6 hn ?_ ?_).symm
   ·rw[Int.sub_mul,Int.mul_comm];omega
   ·rw[Int.sub_add_cancel,Int.mul_comm];omega
  ·refine(yz6 hn ?_ ?_).symm
   ·rw[Int.mul_comm];omega
   ·rw[Int.add_mul,Int.mul_comm];omega
theorem Floor_is {a:Dec}(ha:I64 a.M)(h0:0≤a.S)(h9:a.S≤9):gzc a=some (⟨a.M/10^a.S.toNat,0⟩,0):=by
 unfold I64 at ha;have hp:=fzk (show a.S.toNat≤19 by omega);have h9':(10:Int)^a.S.toNat≤10^9:=by
  have:=Nat.pow_le_pow_right (show 0<10 by omega) (show a.S.toNat≤9 by omega);have h:=Int.ofNat_le.2 this;simpa using h
 unfold gzc;rw[show a.S=((a.S.toNat:Nat):Int) by omega,izD (by omega),Int.toNat_natCast,aza,aza,azG (by omega) (by omega),dF0 (by omega),azb,azb];have h:=tmod_neg (a:=a.M) (n:=10^a.S.toNat) (by omega);rw[←h];have b1:(a.M.tdiv (10^a.S.toNat)).natAbs≤a.M.natAbs:=by
  rw[Int.natAbs_tdiv];exact Nat.div_le_self _ _
 have b3:a.M.tdiv (10^a.S.toNat)≤9223372036854775807:=by
  by_cases h0:0≤a.M
  ·omega
  ·have:=Int.tdiv_nonneg (show 0≤-a.M by omega) (show(0:Int)≤10^a.S.toNat by omega);rw[Int.neg_tdiv]at this;omega
 by_cases hc:a.M.tmod (10^a.S.toNat)<0
 ·rw[dT0 hc,azc,if_pos hc];have b2:-9223372036854775808<a.M.tdiv (10^a.S.toNat):=by
   refine Int.not_le.1 fun hle=>?_
   have e1:=Int.mul_tdiv_add_tmod a.M (10^a.S.toNat);have e2:(10^a.S.toNat:Int)*a.M.tdiv (10^a.S.toNat)≤a.M.tdiv (10^a.S.toNat):=by
    have:=Int.mul_le_mul_of_nonneg_right hp.1 (show 0≤-a.M.tdiv (10^a.S.toNat) by omega);rw[Int.one_mul,Int.mul_neg]at this;omega
   omega
  rw[azG (n:=a.M.tdiv _) (by omega) (by omega),azG (by omega) (by omega)]
 ·rw[dF0 hc,azb,if_neg hc,azG (by omega) (by omega)]
theorem cmp_is (x y:Int):dzk (x,y)=some (cmpV x y):=by
 unfold dzk fz9 cmpV;simp only[decide_true,cond_true,aza,azb];by_cases h:x<y
 ·simp[h]
 ·by_cases h2:y<x<;>simp[h,h2]
theorem bzl (x y:Int):azV (x,y)=some (cmpV x y):=by
 unfold azV hzE cmpV;simp only[decide_true,cond_true,aza,azb];by_cases h:x<y
 ·simp[h]
 ·by_cases h2:y<x<;>simp[h,h2]
theorem V_neg (d:Dec):decide (V d<0)=decide (d.M<0):=tz2 d.M _
theorem CzV {a b:Dec}(ha:I64 a.M)(hb:I64 b.M)(h0:0≤a.S)(h9:a.S≤9)(k0:0≤b.S)(k9:b.S≤9):czS (a,b)=some (cmpV (V a) (V b)):=by
 unfold czS;simp only;rw[hzx ha h0 h9,hzx hb k0 k9,aza,aza,yzE (inV ha) (inV hb),yzE (inV hb) (inV ha),cmp_is,cmp_is,aza,aza,bzl]
 show brn (!decide (decide (V a<0)=decide (V b<0))) _ (brn (decide (V a<0)) _ _)=_
 have na:=V_neg a;have nb:=V_neg b;simp only[decide_eq_decide]at na nb;by_cases h1:V a<0<;>by_cases h2:V b<0
 ·simp only[h1,h2,decide_true,Bool.not_true,azb,azc,aza];unfold cmpV;by_cases c1:(V a).natAbs<(V b).natAbs
  ·rw[dT0 (by omega),azc,if_neg (by omega),if_pos (by omega)]
  ·rw[dF0 (by omega),azb];by_cases c2:(V b).natAbs<(V a).natAbs
   ·rw[dT0 (by omega),azc,if_pos (by omega)]
   ·rw[dF0 (by omega),azb,if_neg (by omega),if_neg (by omega)]
 ·have m1:=na.1 h1;have m2:=mt nb.2 h2;simp only[h1,h2,decide_true,decide_false,Bool.true_eq_false,Bool.not_false,azc,aza];unfold cmpV;rw[if_pos (show V a<V b by omega),if_pos m1,if_neg m2];split<;>rfl
 ·have m1:=mt na.2 h1;have m2:=nb.1 h2;simp only[h1,h2,decide_true,decide_false,Bool.false_eq_true,Bool.not_false,azc,aza];unfold cmpV;rw[if_neg (show ¬V a<V b by omega),if_pos (show V b<V a by omega),if_neg m1,if_pos m2];split<;>rfl
 ·simp only[h1,h2,decide_true,decide_false,Bool.not_true,azb,aza];unfold cmpV;by_cases c1:(V a).natAbs<(V b).natAbs
  ·rw[dT0 (by omega),azc,if_pos (by omega)]
  ·rw[dF0 (by omega),azb];by_cases c2:(V b).natAbs<(V a).natAbs
   ·rw[dT0 (by omega),azc,if_neg (by omega),if_pos (by omega)]
   ·rw[dF0 (by omega),azb,if_neg (by omega),if_neg (by omega)]
theorem tmod10 (m:Int):(m.tmod 10=0↔m%10=0)∧(m%10=0→m.tdiv 10=m/10) :=
 ⟨by rw[←Int.dvd_iff_tmod_eq_zero,←Int.dvd_iff_emod_eq_zero],fun h=>Int.tdiv_eq_ediv_of_dvd (Int.dvd_of_emod_eq_zero h)⟩
theorem Norm_is {m:Int}{s:Nat}(hm:I64 m)(hs:s≤9):fz5 ⟨m,(s:Int)⟩=some ⟨(azI m s).1,((azI m s).2:Int)⟩:=by
 have h:lz9 ⟨m,(s:Int)⟩=some ((),⟨(azI m s).1,((azI m s).2:Int)⟩):=by
  refine mzo (F:=izX) (fun d:Dec=>d.S.toNat) (fun d:Dec=>0≤d.S∧d.S≤9∧I64 d.M) (fun d=>((),⟨(azI d.M d.S.toNat).1,((azI d.M d.S.toNat).2:Int)⟩)) ?_ _ ⟨by simp only;omega,by simp only;omega,hm⟩ (by simp only;omega);intro back d hp hb;obtain⟨m,s⟩:=d;obtain⟨h0,h9,hm⟩:=hp;simp only at h0 h9 hm hb;obtain⟨s,rfl⟩:=Int.eq_ofNat_of_zero_le h0;unfold izX;simp only[Int.toNat_natCast];cases s with
  | zero=>simp only[Int.ofNat_zero,Int.lt_irrefl,decide_false,azb,azI]
  | succ s =>
   rw[dT0 (show(0:Int)<((s+1:Nat):Int) by omega),azc];unfold azI;obtain⟨t1,t2⟩:=tmod10 m;by_cases hz:m%10=0
   ·rw[dT0 (t1.2 hz),azc,if_pos hz,t2 hz];unfold I64 at hm;rw[azG (by omega) (by omega),azG (by omega) (by omega),show(((s+1:Nat):Int)-1)=(s:Int) by omega];have:=hb ⟨m/10,(s:Int)⟩ ⟨by simp only;omega,by simp only;omega,by unfold I64;simp only;omega⟩ (by simp only[Int.toNat_natCast];omega);simpa only[Int.toNat_natCast]using this
   ·rw[dF0 (fun h=>hz (t1.1 h)),azb,if_neg hz]
 unfold fz5;rw[h];rfl
theorem BzX (d:Dec):dz6 d=some 0∧okD d∨∃e,dz6 d=some e∧e≠0:=by
 unfold dz6 okD;by_cases h1:d.S<0
 ·exact .inr ⟨1,by simp[h1],by omega⟩
 ·by_cases h2:9<d.S
  ·exact .inr ⟨1,by simp[h1,h2],by omega⟩
  ·by_cases h3:0<d.S
   ·by_cases h4:d.M.tmod 10=0
    ·exact .inr ⟨1,by simp[h1,h2,h3,h4],by omega⟩
    ·exact .inl ⟨by simp[h1,h2,h3,h4],by omega,by omega,fun _ h=>h4 ((tmod10 d.M).1.2 h)⟩
   ·exact .inl ⟨by simp[h1,h2,h3],by omega,by omega,fun h=>absurd h h3⟩
def digs (n:Nat):List Int:=if h:n=0 then []else((n%10:Nat):Int)::digs (n/10)
termination_by n
decreasing_by omega
theorem kzW:digs 0=[]:=by rw[digs];rfl
theorem uzz {n:Nat}(h:n≠0):digs n=((n%10:Nat):Int)::digs (n/10):=by
 conv=>lhs;rw[digs]
 rw[dif_neg h]
def fzt (D:List Int):Prop:=∀d∈D,0≤d∧d≤9
theorem Dzt {d:Int}{D:List Int}:fzt (d::D)↔(0≤d∧d≤9)∧fzt D:=by simp[fzt]
theorem isDig_nil:fzt []:=by simp[fzt]
theorem Az5 {D E:List Int}:fzt (D++E)↔fzt D∧fzt E:=by
 simp only[fzt,List.mem_append];exact⟨fun h=>⟨fun d hd=>h d (.inl hd),fun d hd=>h d (.inr hd)⟩,fun h d hd=>hd.elim (h.1 d) (h.2 d)⟩
theorem Dzu {D:List Int}(h:fzt D)(n:Nat):fzt (D.drop n):=fun d hd=>h d (List.mem_of_mem_drop hd)
theorem Dzv {D:List Int}(h:fzt D)(n:Nat):fzt (D.take n):=fun d hd=>h d (List.mem_of_mem_take hd)
theorem digs_dig:∀(n:Nat),fzt (digs n):=by
 intro n;induction n using Nat.strongRecOn with
 | _ n ih =>
  by_cases h:n=0
  ·subst h;rw[kzW];exact isDig_nil
  ·rw[uzz h];exact Dzt.2 ⟨by omega,ih _ (by omega)⟩
theorem tzN:∀(k n:Nat),n<10^k→(digs n).length≤k
 | 0,n,h=>by
  have:n=0:=by simp at h;omega
  subst this;rw[kzW];simp
 | k+1,n,h=>by
  by_cases h0:n=0
  ·subst h0;rw[kzW];simp
  ·rw[uzz h0];have:=tzN k (n/10) (by rw[Nat.pow_succ]at h;omega);simp;omega
theorem idxI {D:List Int}{k:Nat}{v:Int}(h:D[k]?=some v):idx D (k:Int)=some v:=by
 simp[idx,h]
theorem Az7 {X Y:Type}{F:(X→Option Y)→X→Option Y}(m:X→Nat)(Inv:X→Prop)(Post:Y→Prop)
 (h:∀back x,Inv x→(∀x',Inv x'→m x'<m x→∃y,back x'=some y∧Post y)→∃y,F back x=some y∧Post y):∀n x,Inv x→m x<n→∃y,iter F n x=some y∧Post y
 | 0,_,_,h0=>by omega
 | n+1,x,hp,hn=>by
  rw[azH];exact h _ x hp fun x' hp' hm=>Az7 m Inv Post h n x' hp' (by omega)
theorem ozO {X Y:Type}{F:(X→Option Y)→X→Option Y}(m:X→Nat)(Inv:X→Prop)(Post:Y→Prop)
 (h:∀back x,Inv x→(∀x',Inv x'→m x'<m x→∃y,back x'=some y∧Post y)→∃y,F back x=some y∧Post y) (x:X) (hx:Inv x) (hm:m x<9223372036854775808):∃y,iter F big x=some y∧Post y :=
 Az7 m Inv Post h _ x hx (by rw[bz7];omega)
def nzB (n k:Nat):Nat:=if 10^k≤2*(n%10^k)then n/10^k+1 else n/10^k
theorem izC (k:Nat):((10^k:Nat):Int)=(10:Int)^k:=by simp
theorem pz0 (n k:Nat):(nzB n k:Int)=rdiv n (10^k):=by
 unfold nzB rdiv;rw[←izC];generalize 10^k=T;by_cases h:T≤2*(n%T)
 ·rw[if_pos h,if_pos (by omega)];rfl
 ·rw[if_neg h,if_neg (by omega)];rfl
theorem rnd_sw (M:Int)(k:Nat):sw (nzB M.natAbs k) (decide (M<0))=rnd M (10^k):=by
 rw[pz0];unfold sw rnd;by_cases hn:M<0
 ·rw[dT0 hn,cond_true,if_pos hn,show(M.natAbs:Int) = -M by omega]
 ·rw[dF0 hn,cond_false,if_neg hn,show(M.natAbs:Int)=M by omega]
def szI (a:Dec)(t:Int):Dec×Int :=
 if t < -18∨9<t then(⟨0,0⟩,1)else if a.S≤t then(a,0)else
  if 0≤t then decV (rnd a.M (10^(a.S-t).toNat)) t.toNat else decV (rnd a.M (10^(a.S-t).toNat)*10^(-t).toNat) 0
theorem Dz1 (n p:Int)(m:Bool):sw (n*p) m=sw n m*p:=by
 cases m
 ·rfl
 ·simp only[sw,cond_true];rw[Int.neg_mul]
theorem nz0 {a:Dec}{t:Int}(ha:I64 a.M)(oa:okD a):dzS (a,t)=some (szI a t):=by
 have h0:=oa.1;have h9:=oa.2.1;unfold szI;by_cases c1:t < -18
 ·unfold dzS;simp only;rw[dT0 c1,azc,if_pos (.inl c1)]
 ·by_cases c2:9<t
  ·unfold dzS;simp only;rw[dF0 c1,azb,dT0 c2,azc,if_pos (.inr c2)]
  ·rw[if_neg (by omega)];by_cases c4:0≤t
   ·obtain⟨p,rfl⟩:=Int.eq_ofNat_of_zero_le c4;rw[Round_is ha h0 h9 (by omega),if_pos c4,Int.toNat_natCast];by_cases c3:a.S≤(p:Int)
    ·rw[if_pos c3,if_pos c3]
    ·rw[if_neg c3,if_neg c3,show(a.S-(p:Int)).toNat=a.S.toNat-p by omega]
   ·have hA:=ha;unfold I64 at ha;rw[if_neg (by omega),if_neg c4];unfold dzS;simp only;rw[dF0 c1,azb,dF0 c2,azb,dF0 (by omega),azb,lzS hA,aza,azG (n:=a.S-t) (by omega) (by omega)];generalize hk:(a.S-t).toNat=k;by_cases c5:19<a.S-t
    ·rw[dT0 c5,azc];have h1:10^20≤10^k:=Nat.pow_le_pow_right (by omega) (by omega);have h2:rnd a.M (10^k)=0:=by
      rw[←rnd_sw];have:nzB a.M.natAbs k=0:=by
       unfold nzB;rw[Nat.mod_eq_of_lt (by omega),Nat.div_eq_of_lt (by omega),if_neg (by omega)]
      rw[this];unfold sw;cases decide (a.M<0)<;>rfl
     rw[h2,Int.zero_mul];rfl
    ·have hw:=fzk (show k≤19 by omega);have hw2:=fzk (show(-t).toNat≤19 by omega);rw[dF0 c5,azb,show a.S-t=(k:Int) by omega,izD (by omega),aza];obtain⟨h1,h2⟩:=kzp (v:=a.M.natAbs) (n:=10^k) (m:=decide (a.M<0)) (by omega) (by omega) (by omega) (by omega);have hle:10^(-t).toNat≤10^k:=Nat.pow_le_pow_right (by omega) (by omega);have hb:(rdiv (a.M.natAbs:Int) (10^k))*10^(-t).toNat≤9223372036854775808+10000000000000000000:=by
      rw[←pz0,←izC,←Int.natCast_mul];have e1:nzB a.M.natAbs k≤a.M.natAbs/10^k+1:=by unfold nzB;split<;>omega
      have e2:=Nat.mul_le_mul e1 hle;have e3:=Nat.mul_le_mul e1 (Nat.le_refl (10^(-t).toNat));have e4:a.M.natAbs/10^k*10^(-t).toNat≤a.M.natAbs:=Nat.le_trans (Nat.mul_le_mul_left _ hle) (Nat.div_mul_le_self _ _);have e5:10^(-t).toNat≤10^19:=Nat.pow_le_pow_right (by omega) (by omega);rw[Nat.add_mul,Nat.one_mul]at e3;generalize nzB a.M.natAbs k*10^(-t).toNat=z at *;generalize a.M.natAbs/10^k*10^(-t).toNat=y at *;generalize 10^(-t).toNat=x at *;have:z≤9223372036854775808+10000000000000000000:=by omega
      omega
     have hb0:0≤(rdiv (a.M.natAbs:Int) (10^k))*10^(-t).toNat:=ez3 h2.1 (by omega);have hwd:=kzx (v:=rdiv (a.M.natAbs:Int) (10^k)*10^(-t).toNat) (m:=decide (a.M<0)) (p:=0) ⟨hb0,by omega⟩ (by omega);rw[show((0:Nat):Int)=0 from rfl]at hwd;rw[h1,aza,dT0 (by omega),azc,azG (by omega) (by omega),show(0-t)=(((-t).toNat:Nat):Int) by omega,izD (by omega),aza,vzP h2 (by omega) (by omega) ⟨hb0,by omega⟩,aza,
      hwd,aza,Dz1,←pz0,rnd_sw]
theorem len19 {M:Int}(h:I64 M):(digs M.natAbs).length≤19:=tzN 19 _ (by unfold I64 at h;omega)
section
variable {M N:Int} {s t:Nat} (hM:I64 M) (hN:I64 N) (hs:s≤9) (ht:t≤9)
include hM hN hs ht
end
def rdN (v n:Nat):Nat:=if n≤2*(v%n)then v/n+1 else v/n
theorem Bzr (v n:Nat):(rdN v n:Int)=rdiv v n:=by
 unfold rdN rdiv;by_cases h:n≤2*(v%n)
 ·rw[if_pos h,if_pos (by omega)];simp
 ·rw[if_neg h,if_neg (by omega)];simp
section
variable {M N:Int} {s t:Nat} (hM:I64 M) (hN:I64 N) (hs:s≤9) (ht:t≤9)
def sgnP (M N:Int):Bool:=!decide (decide (M<0)=decide (N<0))
def prodV (M N:Int)(s t:Nat):Dec×Int:=if s+t≤9 then decV (M*N) (s+t)else decV (sw (rdN (M.natAbs*N.natAbs) (10^(s+t-9))) (sgnP M N)) 9
include hM hN hs ht
theorem DzQ:fzh (⟨M,(s:Int)⟩,⟨N,(t:Int)⟩)=some (prodV M N s t):=by
 unfold prodV;by_cases h9:s+t≤9
 ·rw[if_pos h9];have:=Mul_is (a:=⟨M,(s:Int)⟩) (b:=⟨N,(t:Int)⟩) hM hN (by simp only;omega) (by simp only;omega);simp only at this;rw[this,show((s:Int)+(t:Int)).toNat=s+t by omega]
 ·rw[if_neg h9];have hA:=hM;have hB:=hN;unfold I64 at hA hB;unfold fzh;simp only;have p0:=ez3 (show(0:Int)≤M.natAbs by omega) (show(0:Int)≤N.natAbs by omega);have p1:(M.natAbs:Int)*N.natAbs≤9223372036854775808*9223372036854775808:=hzk (by omega) (by omega) (by omega) (by omega);have lo:∀(n:Int) (m:Bool),I64 n→(W n.natAbs m).lo=n.natAbs:=fun n m h=>by
   show(n.natAbs:Int)%18446744073709551616=n.natAbs
   unfold I64 at h;omega
  rw[lzS hM,lzS hN,aza,aza,lo _ _ hM,lo _ _ hN,uzh (by omega) (by omega) (by omega) (by omega),aza,azG (n:=(s:Int)+(t:Int)) (by omega) (by omega),dT0 (by omega),azc,azG (by omega) (by omega),show(s:Int)+(t:Int)-9=((s+t-9:Nat):Int) by omega,izD (by omega),aza];have hp:=fzk (show s+t-9≤19 by omega);have e1:czs ({hi:=(M.natAbs:Int)*N.natAbs/18446744073709551616,lo:=(M.natAbs:Int)*N.natAbs%18446744073709551616,minus:=!decide ((W M.natAbs (decide (M<0))).minus=(W N.natAbs (decide (N<0))).minus)},(10:Int)^(s+t-9)) =
   some (W (rdiv ((M.natAbs:Int)*N.natAbs) (10^(s+t-9))) (sgnP M N)):=(kzp p0 (by omega) (by omega) (by omega)).1
  have hw:=(kzp (v:=(M.natAbs:Int)*N.natAbs) (n:=10^(s+t-9)) (m:=true) p0 (by omega) (by omega) (by omega)).2;simp only at e1 ⊢;rw[e1,aza,show(9:Int)=((9:Nat):Int) from rfl,kzx hw (by omega),aza];have e2:rdiv ((M.natAbs:Int)*N.natAbs) (10^(s+t-9))=(rdN (M.natAbs*N.natAbs) (10^(s+t-9)):Int):=by
   rw[Bzr,izC,Int.natCast_mul]
  rw[e2]
theorem DzP (hN0:N≠0):dzE (⟨M,(s:Int)⟩,⟨N,(t:Int)⟩)=some (decV (sw (rdN (M.natAbs*10^(9-s+t)) N.natAbs) (sgnP M N)) 9):=by
 have hA:=hM;have hB:=hN;have hV:=V_le (d:=⟨M,(s:Int)⟩) hM;unfold I64 at hA hB;unfold dzE;simp only;have lo:(W N.natAbs (decide (N<0))).lo=N.natAbs:=by
  show(N.natAbs:Int)%18446744073709551616=N.natAbs
  omega
 have eV:((V ⟨M,(s:Int)⟩).natAbs:Int)*10^t=((M.natAbs*10^(9-s+t):Nat):Int):=by
  show(((M*10^(9-(s:Int).toNat)).natAbs:Nat):Int)*10^t=_
  rw[Int.natAbs_mul,Int.natAbs_pow,Int.toNat_natCast,Int.natCast_mul,Int.natCast_mul,izC,Int.pow_add,Int.mul_assoc];rfl
 have hb:((M.natAbs*10^(9-s+t):Nat):Int)≤9223372036854775808*1000000000000000000:=by
  rw[Int.natCast_mul,izC];have h2:(10:Int)^(9-s+t)≤10^18:=by
   have:=Nat.pow_le_pow_right (n:=10) (by omega) (show 9-s+t≤18 by omega);have h3:=Int.ofNat_le.2 this;rw[izC,izC]at h3;exact h3
  exact hzk (by omega) (Int.le_of_lt (Int.pow_pos (by omega))) (by omega) h2
 rw[dF0 hN0,azb,lzS hN,aza,hzx (d:=⟨M,(s:Int)⟩) hM (by simp only;omega) (by simp only;omega),aza,izD (by omega),aza,
  vzP (inV (d:=⟨M,(s:Int)⟩) hM) (by have:=fzk (show t≤19 by omega);omega) (by have:=fzk (show t≤19 by omega);omega) (by rw[eV];exact⟨by omega,by omega⟩),aza,lo,eV]
 have e1:czs ({hi:=(W ((M.natAbs*10^(9-s+t):Nat):Int) (decide (V ⟨M,(s:Int)⟩<0))).hi,lo:=(W ((M.natAbs*10^(9-s+t):Nat):Int) (decide (V ⟨M,(s:Int)⟩<0))).lo,minus:=!decide ((W ((M.natAbs*10^(9-s+t):Nat):Int) (decide (V ⟨M,(s:Int)⟩<0))).minus=(W N.natAbs (decide (N<0))).minus)},(N.natAbs:Int)) =
  some (W (rdiv ((M.natAbs*10^(9-s+t):Nat):Int) N.natAbs) (!decide (decide (V ⟨M,(s:Int)⟩<0)=decide (N<0)))):=(kzp (by omega) (by omega) (by omega) (by omega)).1
 have hw:=(kzp (v:=((M.natAbs*10^(9-s+t):Nat):Int)) (n:=N.natAbs) (m:=true) (by omega) (by omega) (by omega) (by omega)).2;rw[e1,aza,show(9:Int)=((9:Nat):Int) from rfl,kzx hw (by omega),aza,←Bzr,V_neg];rfl
end
theorem okInt (n:Int):okD ⟨n,0⟩:=⟨by simp,by simp,fun h=>by simp at h⟩
end Go.Proofs.YtdgpkbnnljblmaaGreatDoor
/- X1 -/
namespace Go.Proofs.YtdgpkbnnljblmaaGreatDoor
open Go Go.Ev
def chr (d:Int):UInt8:=UInt8.ofNat (48+d.toNat)
def bzd (D:List Int):List UInt8:=(D.map chr).reverse
theorem ozt:∀(n:Nat),n≠0→Lib.decDigits n=bzd (digs n):=by
 intro n;induction n using Nat.strongRecOn with
 | _ n ih =>
  intro h;rw[Lib.decDigits,uzz h];unfold bzd;simp only[List.map_cons,List.reverse_cons];by_cases h10:n<10
  ·rw[dif_pos h10,Nat.div_eq_of_lt h10,kzW,Nat.mod_eq_of_lt h10];simp[chr]
  ·rw[dif_neg h10,ih (n/10) (by omega) (by omega)];unfold bzd;have e:((n:Int)%10).toNat=n%10:=by omega
   simp[chr,e]
def dzO (n s:Nat):List Int:=digs n++List.replicate (s+1-(digs n).length) 0
theorem xzh (n s:Nat):(dzO n s).length=max (s+1) (digs n).length:=by
 unfold dzO;simp;omega
theorem DzM (n s:Nat):fzt (dzO n s):=Az5.2 ⟨digs_dig n,fun d hd=>by rw[List.eq_of_mem_replicate hd];omega⟩
theorem uzb:∀c,Lib.repeatL [48] c=List.replicate c 48
 | 0=>rfl
 | c+1=>by rw[Lib.repeatL,uzb c];rfl
theorem Bzo (n s:Nat):List.replicate (s+1-(Lib.decDigits n).length) (48:UInt8)++Lib.decDigits n=bzd (dzO n s):=by
 unfold dzO bzd;by_cases h:n=0
 ·subst h;rw[kzW,Lib.decDigits_one (by omega)];simp only[List.length_singleton,List.length_nil,List.nil_append,List.map_replicate,List.reverse_replicate];have e:chr 0=48:=rfl;rw[e,show(UInt8.ofNat (48+0))=(48:UInt8) from rfl,show s+1-1=s by omega,show s+1-0=s+1 by omega,List.replicate_succ']
 ·rw[ozt n h];unfold bzd;simp only[List.map_append,List.map_replicate,List.reverse_append,List.reverse_replicate,List.length_reverse,List.length_map];rfl
def dotted (D:List Int)(s:Nat):List UInt8:=if s=0 then bzd D else bzd (D.drop s)++46::bzd (D.take s)
def gzb (M:Int)(s:Nat):List UInt8:=(if M<0 then [45]else [])++dotted (dzO M.natAbs s) s
theorem catS {x y:List UInt8}(h:x.length+y.length≤10000):cat x y=some (x++y):=by
 have:fits (x.length+y.length)=true:=by unfold fits;exact Nat.ble_eq_true_of_le (by unfold az2;omega)
 unfold cat
 rw[this];rfl
theorem subU {D:List UInt8}{i k:Nat}(h:i≤k)(h2:k≤D.length):sub D (i:Int) (k:Int)=some ((D.take k).drop i):=by
 have hd:(decide ((0:Int)≤(i:Int))&&decide ((i:Int)≤(k:Int))&&decide ((k:Int)≤(D.length:Int)))=true:=by
  simp;omega
 simp only[sub,hd,cond_true,Int.toNat_natCast]
 try rfl
theorem lzF {M:Int}{s:Nat}(hM:I64 M)(hs:s≤9):nzb ⟨M,(s:Int)⟩=some (gzb M s):=by
 have l1:=len19 hM;have hp:=xzh M.natAbs s;have hlen:(Lib.decDigits M.natAbs).length≤20:=by
  by_cases h:M.natAbs=0
  ·rw[h,Lib.decDigits_one (by omega)];simp
  ·rw[ozt _ h];unfold bzd;simp;omega
 unfold nzb;rw[lzS hM,aza];have lo:(W M.natAbs (decide (M<0))).lo=M.natAbs:=by
  show(M.natAbs:Int)%18446744073709551616=M.natAbs
  unfold I64 at hM;omega
 have mi:(W (M.natAbs:Int) (decide (M<0))).minus=decide (M<0):=rfl;have fu:ezx ((M.natAbs:Int),10)=some (Lib.decDigits M.natAbs):=by
  unfold ezx czX;simp
 rw[lo,fu,aza,mi];unfold gzb dotted;have hw:=Bzo M.natAbs s;by_cases h0:s=0
 ·subst h0;rw[dF0 (by simp),azb,if_pos rfl,←hw];have e:0+1-(Lib.decDigits M.natAbs).length=0:=by
   have:0<(Lib.decDigits M.natAbs).length:=by
    rw[Lib.decDigits_length];unfold Lib.nDigits;split<;>omega
   omega
  rw[e];by_cases hm:M<0
  ·rw[dT0 hm,azc,catS (by simp;omega),aza,if_pos hm];rfl
  ·rw[dF0 hm,azb,if_neg hm];rfl
 ·have hc:(bif decide (IntKind.i64.wrap (IntKind.i64.wrap ((s:Int)+1)-((Lib.decDigits M.natAbs).length:Int))<0)then(0:Int)else IntKind.i64.wrap (IntKind.i64.wrap ((s:Int)+1)-((Lib.decDigits M.natAbs).length:Int)))=((s+1-(Lib.decDigits M.natAbs).length:Nat):Int):=by
   rw[azG (n:=(s:Int)+1) (by omega) (by omega),azG (by omega) (by omega)];by_cases h:(s:Int)+1-((Lib.decDigits M.natAbs).length:Int)<0
   ·rw[dT0 h,cond_true];omega
   ·rw[dF0 h,cond_false];omega
  rw[dT0 (by simp;omega),azc];simp only;rw[hc];have hr:bz5 ([48],((s+1-(Lib.decDigits M.natAbs).length:Nat):Int))=some (List.replicate (s+1-(Lib.decDigits M.natAbs).length) 48):=by
   unfold bz5;simp only[Int.toNat_natCast];rw[dT0 (by omega),dT0 (by simp;omega),uzb];rfl
  have hwl:(bzd (dzO M.natAbs s)).length=max (s+1) (digs M.natAbs).length:=by unfold bzd;simp[hp]
  rw[hr,aza,catS (by simp;omega),aza,hw,if_neg h0,hwl,azG (by omega) (by omega),show((max (s+1) (digs M.natAbs).length:Nat):Int)-(s:Int)=((max (s+1) (digs M.natAbs).length-s:Nat):Int) by omega];have s1:=subU (D:=bzd (dzO M.natAbs s)) (i:=0) (k:=max (s+1) (digs M.natAbs).length-s) (by omega) (by omega);have s2:=subU (D:=bzd (dzO M.natAbs s)) (i:=max (s+1) (digs M.natAbs).length-s) (k:=max (s+1) (digs M.natAbs).length) (by omega) (by omega);rw[List.take_of_length_le (by omega)]at s2;have e1:(bzd (dzO M.natAbs s)).take (max (s+1) (digs M.natAbs).length-s)=bzd ((dzO M.natAbs s).drop s):=by
   unfold bzd;rw[List.take_reverse,List.length_map,hp,List.map_drop];congr 2;omega
  have e2:(bzd (dzO M.natAbs s)).drop (max (s+1) (digs M.natAbs).length-s)=bzd ((dzO M.natAbs s).take s):=by
   unfold bzd;rw[List.drop_reverse,List.length_map,hp,List.map_take];congr 2;omega
  rw[List.drop_zero,e1]at s1;rw[e2]at s2;have z0:((0:Nat):Int)=0:=rfl;rw[z0]at s1;have la:(bzd ((dzO M.natAbs s).drop s)).length≤30:=by unfold bzd;simp[hp];omega
  have lb:(bzd ((dzO M.natAbs s).take s)).length≤30:=by unfold bzd;simp;omega
  rw[s1,aza,catS (by simp;omega),aza,s2,aza,catS (by simp;omega),aza];by_cases hm:M<0
  ·rw[dT0 hm,azc,catS (by simp;omega),aza,if_pos hm];simp
  ·rw[dF0 hm,azb,if_neg hm];simp
def pre (D:List Int)(s i:Nat):List UInt8:=if s=0∨i≤s then bzd (D.take i)else bzd ((D.take i).drop s)++46::bzd (D.take s)
end Go.Proofs.YtdgpkbnnljblmaaGreatDoor
/- XO -/
namespace Go.Proofs.YtdgpkbnnljblmaaGreatDoor
open Go Go.Ev Go.Lib
def rl:Nat→List UInt8→List Int
 | 0,_=>[]
 | n+1,l=>if l=[]then []else((decodeL l).1:Int)::rl n (l.drop (decodeL l).2)
theorem xzw:∀n,rl n []=[]
 | 0=>rfl
 | n+1=>by simp[rl]
theorem rl_fuel:∀(n m:Nat) (l:List UInt8),l.length≤n→l.length≤m→rl n l=rl m l
 | 0,m,l,hn,_=>by
  have:l=[]:=List.eq_nil_of_length_eq_zero (by omega);subst this;rw[xzw,xzw]
 | n+1,0,l,_,hm=>by
  have:l=[]:=List.eq_nil_of_length_eq_zero (by omega);subst this;rw[xzw,xzw]
 | n+1,m+1,l,hn,hm=>by
  unfold rl;by_cases hne:l=[]
  ·simp[hne]
  ·have hw:=decodeL_width l;have hl:0<l.length:=List.length_pos_iff.2 hne;rw[if_neg hne,if_neg hne,rl_fuel n m (l.drop (decodeL l).2) (by rw[List.length_drop];omega) (by rw[List.length_drop];omega)]
def rs (l:List UInt8):List Int:=rl l.length l
theorem mzN:rs []=[]:=rfl
theorem eza {l:List UInt8}(h:l≠[]):rs l=((decodeL l).1:Int)::rs (l.drop (decodeL l).2):=by
 have hl:0<l.length:=List.length_pos_iff.2 h;have hw:=decodeL_width l;obtain⟨n,hn⟩:∃n,l.length=n+1:=⟨l.length-1,by omega⟩;unfold rs;rw[hn]
 show(if l=[]then []else _)=_
 rw[if_neg h,rl_fuel n (l.drop (decodeL l).2).length _ (by rw[List.length_drop];omega) (Nat.le_refl _)]
theorem lza (s:List UInt8)(i:Nat):rune s i=decodeL (s.drop i):=(decodeL_drop ⟨s.toArray⟩ i).symm
theorem zzu (s:List UInt8):∀(n i:Nat),dzu s n i=rl n (s.drop i)
 | 0,_=>rfl
 | n+1,i=>by
  unfold dzu rl;by_cases h:i<s.length
  ·have hb:Nat.blt i s.length=true:=Nat.ble_eq_true_of_le h;rw[hb,cond_true,if_neg (fun h0=>by have:=congrArg List.length h0;simp at this;omega),lza,zzu s n,List.drop_drop]
  ·have hb:Nat.blt i s.length=false:=by
    cases hb:Nat.blt i s.length with
    | false=>rfl
    | true=>exact absurd (Nat.le_of_ble_eq_true hb) h
   rw[hb,cond_false,if_pos (List.drop_eq_nil_of_le (by omega))]
theorem BzD {s:List UInt8}(h:s.length≤70368744177664):lzT s=some (rs s):=by
 unfold lzT;rw[Nat.ble_eq_true_of_le h,cond_true,zzu,List.drop_zero];rfl
theorem nzM:∀(l:List UInt8),(rs l).length≤l.length:=fun l=>by
 have:∀(n:Nat) (l:List UInt8),(rl n l).length≤n:=by
  intro n;induction n with
  | zero=>intro l;simp[rl]
  | succ n ih =>
   intro l;unfold rl;split
   ·simp
   ·have:=ih (l.drop (decodeL l).2);simp;omega
 exact this l.length l
def cmpN (x y:Int):Int:=if x<y then -1 else if y<x then 1 else 0
def cmpL:List Int→List Int→Int
 | [],[]=>0
 | [],_::_=>-1
 | _::_,[]=>1
 | r::az,b::bs=>if r=b then cmpL az bs else cmpN r b
structure Ord (α:Type) (c:α→α→Int):Prop where
 vals:∀a b,c a b = -1∨c a b=0∨c a b=1
 swap:∀a b,c b a = - c a b
 same:∀a b,c a b=0↔a=b
 less:∀a b d,c a b = -1→c b d = -1→c a d = -1
def walk:List Int→List Int→Int→Int⊕Int
 | [],_,i=>.inl i
 | _::_,[],_=>.inr 1
 | r::az,b::bs,i=>if r=b then walk az bs (i+1)else .inr (cmpN r b)
theorem walk_is:∀(az bs:List Int) (i:Int),(match walk az bs i with | .inl k=>cmpN k (i+bs.length) | .inr r=>r)=cmpL az bs
 | [],[],i=>by simp[walk,cmpL,cmpN]
 | [],b::bs,i=>by
  unfold walk cmpL cmpN;simp only[List.length_cons];rw[if_pos (by omega)]
 | r::az,[],i=>by simp[walk,cmpL]
 | r::az,b::bs,i=>by
  unfold walk cmpL;by_cases h:r=b
  ·rw[if_pos h,if_pos h];have:=walk_is az bs (i+1);rw[←this];have e:i+1+(bs.length:Int)=i+((b::bs).length:Int):=by simp only[List.length_cons];omega
   rw[e]
  ·rw[if_neg h,if_neg h]
end Go.Proofs.YtdgpkbnnljblmaaGreatDoor
/- X3 -/
namespace Go.Proofs.YtdgpkbnnljblmaaGreatDoor
open Go Go.Ev
theorem i32_in {n:Int}(h0:-2147483648≤n)(h1:n≤2147483647):IntKind.i32.wrap n=n:=by
 rw[IntKind.wrap_i32];omega
def isD (c:UInt8):Bool:=decide (48≤c.toNat)&&decide (c.toNat≤57)
def valB:List UInt8→Nat→Nat
 | [],a=>a
 | c::l,a=>valB l (a*10+(c.toNat-48))
theorem ozh:∀(l m:List UInt8) (a:Nat),valB (l++m) a=valB m (valB l a)
 | [],_,_=>rfl
 | _::l,m,_=>ozh l m _
def dv (c:UInt8):Int:=((c.toNat-48:Nat):Int)
def rd9 (l:List UInt8):List Int:=(l.map dv).reverse
theorem Cza {l:List UInt8}{c:UInt8}{t:List UInt8}(hl:l=c::t)(h:128≤c.toNat):128≤(Lib.decodeL l).1:=by
 subst hl;rw[Lib.decodeL_N];simp only[List.getD_cons_zero];generalize (c::t).length=n;generalize ((c::t).getD 1 0).toNat=b1;generalize ((c::t).getD 2 0).toNat=b2;generalize ((c::t).getD 3 0).toNat=b3;unfold Lib.decodeN;rw[if_neg (by omega)]
 repeat' split
 all_goals (simp only;omega)
def cutW:List UInt8→List UInt8×List UInt8×Bool
 | []=>([],[],false)
 | c::l=>if c=46 then([],l,true)else(c::(cutW l).1,(cutW l).2.1,(cutW l).2.2)
theorem xzZ:∀l:List UInt8,l=(cutW l).1++(if(cutW l).2.2 then 46::(cutW l).2.1 else [])∧((cutW l).2.2=false→(cutW l).2.1=[])∧46 ∉ (cutW l).1
 | []=>by simp[cutW]
 | c::l=>by
  obtain⟨h1,h2,h3⟩:=xzZ l;unfold cutW;by_cases h:c=46
  ·subst h;simp
  ·rw[if_neg h];refine⟨?_,h2,?_⟩
   ·simp only[List.cons_append];congr 1
   ·simp only[List.mem_cons,not_or];exact⟨fun e=>h e.symm,h3⟩
theorem vz6:∀l:List UInt8,Lib.indexByte l 46=if(cutW l).2.2 then((cutW l).1.length:Int)else -1
 | []=>rfl
 | c::l=>by
  have ih:=vz6 l;unfold Lib.indexByte cutW;by_cases h:c=46
  ·subst h;simp
  ·have hb:(c == 46)=false:=by simp[h]
   rw[hb,if_neg h,ih];simp only[Bool.false_eq_true,if_false];by_cases h2:(cutW l).2.2=true
   ·simp only[h2,if_true];have:((((cutW l).1.length:Nat):Int) == -1)=false:=by simp
    rw[this];simp
   ·simp only[h2];simp
theorem cut_is {l:List UInt8}(hl:l.length≤10000):jzD (l,[46])=some (cutW l):=by
 obtain⟨h1,h2,h3⟩:=xzZ l;have hi:=vz6 l;have hx:ezw (l,[46])=some (Lib.indexByte l 46):=by
  unfold ezw ezC ezg;simp only[List.length_singleton];rw[dF0 (by omega),azb];by_cases he:[46]=l
  ·rw[dT0 he,azc,←he];rfl
  ·rw[dF0 he,azb,dT0 (by rfl),azc,show idx ([46]:List UInt8) 0=some 46 from rfl,aza];rfl
 unfold jzD hzW;rw[hx,aza,hi];generalize hw:(cutW l).1=w at *;generalize hb:(cutW l).2.1=b at *;generalize hp:(cutW l).2.2=p at *;have e:cutW l=(w,b,p):=by rw[←hw,←hb,←hp]
 rw[e];cases p with
 | true =>
  simp only[if_true]at h1 ⊢;have hlen:l.length=w.length+1+b.length:=by rw[h1];simp;omega
  have s1:=subU (D:=l) (i:=0) (k:=w.length) (by omega) (by omega);have s2:=subU (D:=l) (i:=w.length+1) (k:=l.length) (by omega) (by omega);rw[List.take_of_length_le (Nat.le_refl _)]at s2;have z0:((0:Nat):Int)=0:=rfl;rw[List.drop_zero,z0]at s1;rw[dT0 (by omega),azc,s1,aza,List.length_singleton,azG (by omega) (by omega),show(w.length:Int)+((1:Nat):Int)=((w.length+1:Nat):Int) by omega,s2,aza,aza];have t1:l.take w.length=w:=by rw[h1];simp
  have t2:l.drop (w.length+1)=b:=by rw[h1];simp
  rw[t1,t2]
 | false =>
  simp only[Bool.false_eq_true,if_false,List.append_nil]at h1 ⊢;rw[dF0 (by omega),azb,aza,h2 rfl,←h1]
theorem DzN {m w0:Bool}{z:List UInt8}(hl:z.length≤10000):∃wr lg lo pos,bzJ (⟨0,0,m⟩,w0,false,z,0)=some ((wr,lg),⟨0,lo,m⟩,z,pos)∧wr=(w0||!z.all isD) ∧
 (wr=false→lg=true∧9223372036854775808<valB z 0∨lg=false∧lo=(valB z 0:Int)∧valB z 0<18446744073709551616):=by
 have key:∃y,bzJ (⟨0,0,m⟩,w0,false,z,0)=some y∧(∃wr lg lo pos,y=((wr,lg),⟨0,lo,m⟩,z,pos)∧wr=(w0||!z.all isD) ∧
  (wr=false→lg=true∧9223372036854775808<valB z 0∨lg=false∧lo=(valB z 0:Int)∧valB z 0<18446744073709551616)):=by
  refine ozO (F:=izf) (fun x=>z.length-x.2.2.2.2) (fun x=>∃(lo:Int) (wr lg:Bool) (i:Nat),x=(⟨0,lo,m⟩,wr,lg,z,i) ∧
   (wr=true∧(w0||!z.all isD)=true∨wr=w0∧i≤z.length∧(z.take i).all isD=true∧(lg=true∧18446744073709551600<valB (z.take i) 0∨lg=false∧lo=(valB (z.take i) 0:Int)∧valB (z.take i) 0<18446744073709551616))) _ ?_ _ ⟨0,w0,false,0,rfl,.inr ⟨rfl,by omega,by simp,.inr ⟨rfl,by simp[valB],by simp[valB]⟩⟩⟩ (by simp only;omega)
  rintro back x ⟨lo,wr,lg,i,rfl,hst⟩ hb;unfold izf;simp only at hb ⊢;rcases Nat.lt_or_ge i z.length with hlt|hge
  ·rw[dT0 hlt,azc];have hr:=lza z i;have hw:=Lib.decodeL_width (z.drop i);have hdr:z.drop i=z[i]::z.drop (i+1):=List.drop_eq_getElem_cons hlt;have bad:∀lg':Bool,∀lo':Int,(w0||!z.all isD)=true→∃y,back (⟨0,lo',m⟩,true,lg',z,i+(rune z i).2)=some y∧_:=fun lg' lo' h=>hb _ ⟨lo',true,lg',_,rfl,.inl ⟨rfl,h⟩⟩ (by simp only;rw[hr];omega)
   have good:∀lg':Bool,∀lo':Int,wr=true→∃y,back (⟨0,lo',m⟩,wr,lg',z,i+(rune z i).2)=some y∧_:=fun lg' lo' h=>hb _ ⟨lo',wr,lg',_,rfl,.inl ⟨h,by rcases hst with⟨_,h2⟩|⟨h1,_⟩;exact h2;rw[←h1,h];rfl⟩⟩ (by simp only;rw[hr];omega)
   have nd:isD z[i]=false→(w0||!z.all isD)=true:=fun h=>by
    have:z.all isD=false:=by
     rw[List.all_eq_false];exact⟨z[i],List.getElem_mem hlt,by simp[h]⟩
    rw[this];simp
   by_cases h128:128≤z[i].toNat
   ·have hh:=Cza hdr h128;rw[←hr]at hh;rw[dF0 (by omega),azb,dT0 (by omega),azc];exact bad _ _ (nd (by unfold isD;simp;omega))
   ·have hd:=Lib.decodeL_ascii z[i] (z.drop (i+1)) (by omega);rw[←hdr,←hr]at hd;rw[hd]at bad good ⊢;simp only at bad good ⊢;by_cases c1:((z[i].toNat:Nat):Int)<48
    ·rw[dT0 c1,azc];exact bad _ _ (nd (by unfold isD;simp;omega))
    ·rw[dF0 c1,azb];by_cases c2:(57:Int)<((z[i].toNat:Nat):Int)
     ·rw[dT0 c2,azc];exact bad _ _ (nd (by unfold isD;simp;omega))
     ·rw[dF0 c2,azb];have i32:IntKind.i32.wrap (((z[i].toNat:Nat):Int)-48)=((z[i].toNat-48:Nat):Int):=by
       rw[i32_in (by omega) (by omega)];omega
      rcases hst with⟨hwr,hbad⟩|⟨hwr,hi,hall,hval⟩
      ·subst hwr;cases lg
       ·rw[azb];by_cases h3:1844674407370955160<lo
        ·rw[dT0 h3,Bool.not_true,azb];exact good _ _ rfl
        ·rw[dF0 h3,Bool.not_false,azc];exact good _ _ rfl
       ·rw[azc];exact good _ _ rfl
      ·have ht:z.take (i+1)=z.take i++[z[i]]:=by rw[List.take_add_one,List.getElem?_eq_getElem hlt];rfl
       have hD:isD z[i]=true:=by unfold isD;simp;omega
       have hall':(z.take (i+1)).all isD=true:=by rw[ht,List.all_append,hall,Bool.true_and,List.all_cons,hD];rfl
       have hv:valB (z.take (i+1)) 0=valB (z.take i) 0*10+(z[i].toNat-48):=by rw[ht,ozh];rfl
       rcases hval with⟨rfl,hbig⟩|⟨rfl,rfl,hsm⟩
       ·rw[azc];exact hb _ ⟨lo,wr,true,i+1,rfl,.inr ⟨hwr,by omega,hall',.inl ⟨rfl,by omega⟩⟩⟩ (by simp only;omega)
       ·rw[azb];by_cases h3:(1844674407370955160:Int)<(valB (z.take i) 0:Int)
        ·rw[dT0 h3,Bool.not_true,azb];exact hb _ ⟨_,wr,true,i+1,rfl,.inr ⟨hwr,by omega,hall',.inl ⟨rfl,by omega⟩⟩⟩ (by simp only;omega)
        ·rw[dF0 h3,Bool.not_false,azc,i32,bzg (n:=(valB (z.take i) 0:Int)*10) (by omega) (by omega),bzg (n:=((z[i].toNat-48:Nat):Int)) (by omega) (by omega),bzg (by omega) (by omega)];exact hb _ ⟨_,wr,false,i+1,rfl,.inr ⟨hwr,by omega,hall',.inr ⟨rfl,by omega,by omega⟩⟩⟩ (by simp only;omega)
  ·rw[dF0 (by omega),azb];refine⟨_,rfl,wr,lg,lo,i,rfl,?_⟩;rcases hst with⟨rfl,h2⟩|⟨h1,h2,h3,h4⟩
   ·exact⟨h2.symm,fun h=>by cases h⟩
   ·have:i=z.length:=by omega
    subst this;rw[List.take_of_length_le (Nat.le_refl _)]at h3 h4;refine⟨by rw[h1,h3];simp,fun _=>?_⟩;rcases h4 with⟨h5,h6⟩|h5
    ·exact .inl ⟨h5,by omega⟩
    ·exact .inr h5
 obtain⟨y,h1,wr,lg,lo,pos,rfl,h2,h3⟩:=key;exact⟨wr,lg,lo,pos,h1,h2,h3⟩
def kz1 (m:Bool)(w b:List UInt8):Dec×Int :=
 if(if m then 9223372036854775808<valB (w++b) 0 else 9223372036854775808≤valB (w++b) 0)then(⟨0,0⟩,8)
 else if 9<b.length∨b.getLast?=some 48 then(⟨0,0⟩,1)
 else(⟨if m then -(valB (w++b) 0:Int)else(valB (w++b) 0:Int),(b.length:Int)⟩,0)
def headW (x w b:List UInt8)(p:Bool):Bool:=decide (w=[])||(p&&decide (b=[]))||(decide (1<w.length)&&decide (w.head?=some 48))||decide (x=[45,48])
def hzL (x:List UInt8):Bool:=decide (x.head?=some 45)
def czx (x:List UInt8):List UInt8:=if x.head?=some 45 then x.tail else x
def fz7 (x:List UInt8):Dec×Int :=
 if(headW x (cutW (czx x)).1 (cutW (czx x)).2.1 (cutW (czx x)).2.2||!((cutW (czx x)).1++(cutW (czx x)).2.1).all isD)=true then(⟨0,0⟩,2)
 else kz1 (hzL x) (cutW (czx x)).1 (cutW (czx x)).2.1
theorem prefix_is {x:List UInt8}(hl:x.length≤10000):fzd (x,[45])=some (czx x,hzL x):=by
 unfold fzd ezz ezA czx hzL;cases x with
 | nil=>simp
 | cons c t =>
  have s1:=subU (D:=c::t) (i:=0) (k:=1) (by omega) (by simp);have s2:=subU (D:=c::t) (i:=1) (k:=(c::t).length) (by simp) (by omega);rw[List.take_of_length_le (Nat.le_refl _)]at s2;have z0:((0:Nat):Int)=0:=rfl;have z1:((([45]:List UInt8).length:Nat):Int)=((1:Nat):Int):=rfl;rw[z0]at s1;simp only;rw[z1,dT0 (by simp;omega),azc,s1,aza,aza,s2];simp only[List.take_succ_cons,List.take_zero,List.drop_zero,List.head?_cons,List.drop_succ_cons,List.tail_cons];by_cases h:c=45
  ·subst h;simp
  ·have:¬([c]=[(45:UInt8)]):=fun e=>h (by simpa using e)
   rw[dF0 this];simp[h]
theorem suffix_is {b:List UInt8}(hl:b.length≤10000):dzw (b,[48])=some (decide (b.getLast?=some 48)):=by
 unfold dzw ezB;have z1:((([48]:List UInt8).length:Nat):Int)=((1:Nat):Int):=rfl;simp only;rw[z1];rcases List.eq_nil_or_concat b with rfl|⟨l,c,rfl⟩
 ·simp
 ·simp only[List.concat_eq_append]at hl ⊢;have hlen:(l++[c]).length=l.length+1:=by simp
  have s2:=subU (D:=l++[c]) (i:=l.length) (k:=(l++[c]).length) (by simp) (by omega);rw[List.take_of_length_le (Nat.le_refl _),List.drop_left]at s2;rw[dT0 (by omega),azc,azG (by omega) (by omega),show((l++[c]).length:Int)-((1:Nat):Int)=((l.length:Nat):Int) by omega,s2,aza,aza];simp
theorem tailP_is {m w0:Bool}{w b:List UInt8}(hl:w.length+b.length≤10000):(obnd (cat w b) fun z =>
 obnd (bzJ (⟨0,0,m⟩,w0,false,z,0)) fun y_2 =>
  obnd (bzW (⟨0,0⟩,m,b,y_2.2.fst,y_2.1)) fun y =>
   osum y (fun _=>some ((⟨IntKind.i64.wrap y_2.2.fst.lo,(b.length:Int)⟩:Dec),(0:Int))) fun y=>some (y.2,y.1))=some (if(w0||!(w++b).all isD)=true then(⟨0,0⟩,2)else kz1 m w b):=by
 rw[catS hl,aza];obtain⟨wr,lg,lo,pos,h1,h2,h3⟩:=DzN (m:=m) (w0:=w0) (z:=w++b) (by simp;omega);rw[h1,aza];unfold bzW;simp only;rw[←h2];cases wr with
 | true=>simp[osum]
 | false =>
  rw[azb,if_neg (by simp)];unfold kz1;rcases h3 rfl with⟨rfl,h4⟩|⟨rfl,rfl,h4⟩
  ·rw[azc,aza,if_pos (by cases m<;>simp<;>omega)];rfl
  ·rw[azb,suffix_is (by omega)];simp only[aza];generalize valB (w++b) 0=N at *;by_cases g1:(9223372036854775808:Int)<(N:Int)
   ·rw[dT0 g1,azc,aza,if_pos (by cases m<;>simp<;>omega)];rfl
   ·rw[dF0 g1,azb];have fin:(m=true∨N<9223372036854775808)→(obnd (brn (decide (9<(b.length:Int))) (some (Sum.inr ((1:Int),(⟨0,0⟩:Dec)))) (brn (decide (b.getLast?=some 48)) (some (Sum.inr (1,⟨0,0⟩)))
     (brn m (some (Sum.inr (0,⟨IntKind.i64.wrap (IntKind.u64.wrap (0-(N:Int))),(b.length:Int)⟩))) (some (Sum.inl ((),(⟨0,0⟩:Dec))))))) fun y=>osum y (fun _=>some ((⟨IntKind.i64.wrap (N:Int),(b.length:Int)⟩:Dec),(0:Int))) fun y=>some (y.2,y.1)) =
     some (if(if m=true then 9223372036854775808<N else 9223372036854775808≤N)then(⟨0,0⟩,8)else if 9<b.length∨b.getLast?=some 48 then(⟨0,0⟩,1)else(⟨if m=true then -(N:Int)else(N:Int),(b.length:Int)⟩,0)):=fun hm=>by
     rw[if_neg (by cases m<;>simp at hm ⊢<;>omega)];by_cases g3:9<b.length
     ·rw[dT0 (by omega),azc,if_pos (.inl g3)];rfl
     ·rw[dF0 (by omega),azb];by_cases g4:b.getLast?=some 48
      ·rw[dT0 g4,azc,if_pos (.inr g4)];rfl
      ·rw[dF0 g4,azb,if_neg (by simp[g3,g4])];cases m with
       | true =>
        rw[azc,aza];have:IntKind.i64.wrap (IntKind.u64.wrap (0-(N:Int))) = -(N:Int):=by rw[u64,i64];omega
        simp only[osum,this,if_true]
       | false =>
        simp at hm;rw[azb,aza,azG (by omega) (by omega)];simp[osum]
    by_cases g2:(N:Int)=9223372036854775808
    ·rw[dT0 g2,azc];cases m with
     | false=>rw[Bool.not_false,azc,aza,if_pos (by simp;omega)];rfl
     | true=>rw[Bool.not_true,azb];exact fin (.inl rfl)
    ·rw[dF0 g2,azb];exact fin (.inr (by omega))
theorem vzj {x:List UInt8}(hl:x.length≤5000):lzG x=some (fz7 x):=by
 unfold lzG fz7;rw[prefix_is (by omega),aza];have htl:(czx x).length≤5000:=by
  unfold czx;split
  ·simp;omega
  ·exact hl
 simp only;rw[cut_is (by omega),aza];obtain⟨h1,h2,h3⟩:=xzZ (czx x);have hlen:(cutW (czx x)).1.length+(cutW (czx x)).2.1.length≤5000:=by
  have:=congrArg List.length h1;simp only[List.length_append]at this;cases hp:(cutW (czx x)).2.2 with
  | true=>rw[hp]at this;simp at this;omega
  | false=>rw[h2 hp];simp;omega
 generalize (cutW (czx x)).1=w at *;generalize (cutW (czx x)).2.1=b at *;generalize (cutW (czx x)).2.2=p at *;simp only[tailP_is (m:=hzL x) (w:=w) (b:=b) (show w.length+b.length≤10000 by omega)];unfold headW;by_cases c1:w=[]
 ·simp[c1]
 ·rw[dF0 c1,azb];have tail:(brn (decide (1<(w.length:Int))) (obnd (idx w 0) fun y_2=>brn (decide ((y_2.toNat:Int)=48)) (some (if(true||!(w++b).all isD)=true then((⟨0,0⟩:Dec),(2:Int))else kz1 (hzL x) w b)) (some (if(decide (x=[45,48])||!(w++b).all isD)=true then(⟨0,0⟩,2)else kz1 (hzL x) w b)))
   (some (if(decide (x=[45,48])||!(w++b).all isD)=true then(⟨0,0⟩,2)else kz1 (hzL x) w b))) =
   some (if(((decide (1<w.length)&&decide (w.head?=some 48))||decide (x=[45,48]))||!(w++b).all isD)=true then(⟨0,0⟩,2)else kz1 (hzL x) w b):=by
   cases w with
   | nil=>exact absurd rfl c1
   | cons c t =>
    by_cases c2:1<(c::t).length
    ·rw[dT0 (by omega),azc,show idx (c::t) 0=some c from rfl,aza,dT0 c2];by_cases c3:c=48
     ·subst c3;simp
     ·have:¬((c.toNat:Int)=48):=fun e=>c3 (UInt8.toNat_inj.1 (show c.toNat=(48:UInt8).toNat by simp;omega))
      rw[dF0 this,azb];simp[c3]
    ·rw[dF0 (by omega),azb,dF0 c2];simp
  cases p with
  | true =>
   rw[azc];by_cases c4:b=[]
   ·rw[dT0 c4,azc];simp
   ·rw[dF0 c4,azb,tail];simp
  | false=>rw[azb,tail];simp
theorem idxB {D:List UInt8}{k:Nat}{v:UInt8}(h:D[k]?=some v):idx D (k:Int)=some v:=by
 simp[idx,h]
inductive At' (t:List UInt8) (g:Nat):Nat→Int→List Int→Prop
 | front (j:Nat) (h:j≤t.length) (hd:(t.take j).all isD=true):At' t g j (-1) (rd9 (t.take j))
 | behind (w b:List UInt8) (j:Nat) (ht:t=w++46::b) (hw:w≠[]) (hd:w.all isD=true) (hj:j≤b.length) (hb:(b.take j).all isD=true):At' t g (w.length+1+j) ((w.length+g:Nat):Int) (rd9 (w++b.take j))
end Go.Proofs.YtdgpkbnnljblmaaGreatDoor
/- X8 -/
namespace Go.Proofs.YtdgpkbnnljblmaaGreatDoor
open Go Go.Ev Go.Lib
theorem appN {A:Type}{B:Nat}{xs ys:List A}(h:(xs.length+ys.length)*B≤140737488355328):app B xs ys=some (xs++ys):=by
 have:Nat.ble ((xs.length+ys.length)*B) 140737488355328=true:=Nat.ble_eq_true_of_le h;simp[app,this]
theorem mzV {n:Nat}(h:n<9223372036854775808):IntKind.i64.wrap (n:Int)=n:=azG (by omega) (by omega)
theorem ozl {x y:Nat}(hx:x<9223372036854775808)(hy:y<9223372036854775808):azp .and .i64 (x:Int) (y:Int)=((x &&& y:Nat):Int):=by
 simp only[azp];rw[BitVec.toNat_and,BitVec.ofInt_natCast,BitVec.ofInt_natCast,BitVec.toNat_ofNat,BitVec.toNat_ofNat];simp only[IntKind.bits];rw[Nat.mod_eq_of_lt (by omega),Nat.mod_eq_of_lt (by omega)];exact mzV (Nat.lt_of_le_of_lt Nat.and_le_left hx)
theorem or_nat {x y:Nat}(hx:x<1073741824)(hy:y<64):azp .or .i64 ((x*64:Nat):Int) (y:Int)=((x*64+y:Nat):Int):=by
 simp only[azp];rw[BitVec.toNat_or,BitVec.ofInt_natCast,BitVec.ofInt_natCast,BitVec.toNat_ofNat,BitVec.toNat_ofNat];simp only[IntKind.bits];rw[Nat.mod_eq_of_lt (by omega),Nat.mod_eq_of_lt (by omega)];have:=Nat.two_pow_add_eq_or_of_lt (i:=6) (b:=y) (by omega) x;rw[Nat.mul_comm x 64,show(64:Nat)=2^6 from rfl,←this];exact mzV (by omega)
theorem byte_and:∀b:Fin 256,(b.val &&& 31=b.val%32)∧(b.val &&& 15=b.val%16)∧(b.val &&& 7=b.val%8)∧(b.val &&& 63=b.val%64)∧((b.val &&& 192=128)↔b.val/64=2):=by decide +kernel
theorem bAnd {b:Nat}(h:b<256):azp .and .i64 (b:Int) 31=((b%32:Nat):Int)∧azp .and .i64 (b:Int) 15=((b%16:Nat):Int)∧azp .and .i64 (b:Int) 7=((b%8:Nat):Int) ∧
 azp .and .i64 (b:Int) 63=((b%64:Nat):Int)∧(azp .and .i64 (b:Int) 192=128↔b/64=2):=by
 obtain⟨h1,h2,h3,h4,h5⟩:=byte_and ⟨b,h⟩;simp only at h1 h2 h3 h4 h5;refine⟨?_,?_,?_,?_,?_⟩
 ·rw[←h1];exact ozl (y:=31) (by omega) (by omega)
 ·rw[←h2];exact ozl (y:=15) (by omega) (by omega)
 ·rw[←h3];exact ozl (y:=7) (by omega) (by omega)
 ·rw[←h4];exact ozl (y:=63) (by omega) (by omega)
 ·have e:azp .and .i64 (b:Int) 192=((b &&& 192:Nat):Int):=ozl (y:=192) (by omega) (by omega);rw[e];constructor
  ·intro h;exact h5.1 (by omega)
  ·intro h;have:=h5.2 h;omega
def more:List UInt8→Nat→Nat→Option Nat
 | _,0,v=>some v
 | [],_+1,_=>none
 | d::l,n+1,v=>if d.toNat/64=2 then more l n (v*64+d.toNat%64)else none
theorem yzF {x:List UInt8}{i n v:Nat}(hl:x.length≤5000000)(hn:i+n<x.length)(hn3:n≤3)(hv:v<64):fzV (x,(i:Int),(n:Int),(v:Int),1)=some (match more (x.drop (i+1)) n v with|some w=>.inl (w:Int)|none=>.inr ([],false)):=by
 obtain⟨y,h1,h2⟩:=ozO (F:=dz9) (fun z=>10-z.2.2.2.2.toNat) (fun z=>∃k w:Nat,z=(x,(i:Int),(n:Int),(w:Int),((k+1:Nat):Int))∧k≤n∧w<64*64^k∧more (x.drop (i+1+k)) (n-k) w=more (x.drop (i+1)) n v)
  (fun y=>y=(match more (x.drop (i+1)) n v with|some w=>.inl (w:Int)|none=>.inr ([],false))) (by
  rintro back z ⟨k,w,rfl,hk,hw,hm⟩ hb;unfold dz9;simp only at hb ⊢;rw[←hm];rcases Nat.lt_or_ge k n with hlt|hge
  ·have hx:i+1+k<x.length:=by omega
   have hdl:=(x[i+1+k]'hx).toNat_lt;obtain⟨_,_,_,b63,b192⟩:=bAnd hdl;have hw3:w<64*64^3:=Nat.lt_of_lt_of_le hw (Nat.mul_le_mul_left _ (Nat.pow_le_pow_right (by omega) (by omega)));rw[dT0 (by omega),azc,azG (by omega) (by omega),show(i:Int)+((k+1:Nat):Int)=((i+1+k:Nat):Int) by omega,idxB (List.getElem?_eq_getElem hx),aza,mzV (by omega)];have hd:x.drop (i+1+k)=x[i+1+k]'hx::x.drop (i+1+k+1):=List.drop_eq_getElem_cons hx;rw[hd,show n-k=(n-(k+1))+1 by omega];generalize x[i+1+k]'hx=d at *;by_cases h2:d.toNat/64=2
   ·rw[dT0 (b192.2 h2),Bool.not_true,azb,b63,show(w:Int)*64=((w*64:Nat):Int) by omega,mzV (by omega),or_nat (by omega) (by omega),azG (by omega) (by omega)];have e:more (d::x.drop (i+1+k+1)) (n-(k+1)+1) w=more (x.drop (i+1+k+1)) (n-(k+1)) (w*64+d.toNat%64):=by
     show(if _ then _ else _)=_
     rw[if_pos h2]
    rw[e];rw[hd,show n-k=(n-(k+1))+1 by omega,e]at hm;rw[hm];exact hb _ ⟨k+1,w*64+d.toNat%64,by simp,by omega,by rw[Nat.pow_succ];omega,by rw[←hm];rfl⟩ (by simp only;omega)
   ·rw[dF0 (fun h=>h2 (b192.1 h)),Bool.not_false,azc];have e:more (d::x.drop (i+1+k+1)) (n-(k+1)+1) w=none:=by
     show(if _ then _ else _)=_
     rw[if_neg h2]
    rw[e];exact⟨_,rfl,rfl⟩
  ·have:k=n:=by omega
   subst this;rw[dF0 (by omega),azb,Nat.sub_self];refine⟨_,rfl,?_⟩;have:∀l,more l 0 w=some w:=fun l=>by cases l<;>rfl
   rw[this]) (x,(i:Int),(n:Int),(v:Int),1) ⟨0,v,by simp,by omega,by omega,by simp⟩ (by simp only;omega)
 subst h2;exact h1
set_option linter.unusedSimpArgs false
theorem more0_is {x:List UInt8}{i v:Nat}:fzV (x,(i:Int),0,(v:Int),1)=some (.inl (v:Int)):=by
 unfold fzV;rw[bz7,azH];unfold dz9;simp
theorem more1 {l:List UInt8}(h:0<l.length)(v:Nat):more l 1 v=if(l.getD 0 0).toNat/64=2 then some (v*64+(l.getD 0 0).toNat%64)else none:=by
 cases l with
 | nil=>simp at h
 | cons a l=>cases l<;>rfl
theorem more2 {l:List UInt8}(h:1<l.length)(v:Nat):more l 2 v=if(l.getD 0 0).toNat/64=2∧(l.getD 1 0).toNat/64=2 then some ((v*64+(l.getD 0 0).toNat%64)*64+(l.getD 1 0).toNat%64)else none:=by
 cases l with
 | nil=>simp at h
 | cons a l =>
  have:=more1 (l:=l) (by simp at h;omega)
  show(if a.toNat/64=2 then more l 1 (v*64+a.toNat%64)else none)=_
  rw[this];simp only[List.getD_cons_zero,List.getD_cons_succ];by_cases h1:a.toNat/64=2
  ·rw[if_pos h1];simp[h1]
  ·rw[if_neg h1];simp[h1]
theorem more3 {l:List UInt8}(h:2<l.length)(v:Nat):more l 3 v=if(l.getD 0 0).toNat/64=2∧(l.getD 1 0).toNat/64=2∧(l.getD 2 0).toNat/64=2 then some (((v*64+(l.getD 0 0).toNat%64)*64+(l.getD 1 0).toNat%64)*64+(l.getD 2 0).toNat%64)else none:=by
 cases l with
 | nil=>simp at h
 | cons a l =>
  have:=more2 (l:=l) (by simp at h;omega)
  show(if a.toNat/64=2 then more l 2 (v*64+a.toNat%64)else none)=_
  rw[this];simp only[List.getD_cons_zero,List.getD_cons_succ];by_cases h1:a.toNat/64=2
  ·rw[if_pos h1];simp[h1]
  ·rw[if_neg h1];simp[h1]
def oneR (x:List UInt8)(out:List Int)(i:Nat):(List Int×Int)⊕(List Int×Bool) :=
 if(decodeL (x.drop i)).1=65533∧(decodeL (x.drop i)).2=1 then .inr ([],false)else .inl (out++[((decodeL (x.drop i)).1:Int)],((i+(decodeL (x.drop i)).2:Nat):Int))
theorem pzv {out:List Int}{i n w least:Nat}(ho:out.length≤5000000)(hi:i≤5000000)(hn:n≤3):
 brn (decide ((w:Int)<(least:Int))) (some (Sum.inr (([]:List Int),false)))
  (brn (decide ((55296:Int)≤(w:Int)))
   (brn (decide ((w:Int)<57344)) (some (Sum.inr ([],false)))
    (brn (decide ((1114111:Int)<(w:Int))) (some (Sum.inr ([],false)))
     (obnd (app 8 out [(w:Int)]) fun zs=>some (Sum.inl (zs,IntKind.i64.wrap (IntKind.i64.wrap ((i:Int)+(n:Int))+1))))))
   (brn (decide ((1114111:Int)<(w:Int))) (some (Sum.inr ([],false)))
    (obnd (app 8 out [(w:Int)]) fun zs=>some (Sum.inl (zs,IntKind.i64.wrap (IntKind.i64.wrap ((i:Int)+(n:Int))+1)))))) =
  some (if w<least∨(55296≤w∧w<57344)∨1114111<w then Sum.inr ([],false)else Sum.inl (out++[(w:Int)],((i+(n+1):Nat):Int))):=by
 rw[appN (by simp only[List.length_singleton];omega),aza,azG (n:=(i:Int)+(n:Int)) (by omega) (by omega),azG (by omega) (by omega),show(i:Int)+(n:Int)+1=((i+(n+1):Nat):Int) by omega];by_cases h1:w<least
 ·rw[dT0 (by omega),azc,if_pos (.inl h1)]
 ·rw[dF0 (by omega),azb];by_cases h2:55296≤w
  ·rw[dT0 (by omega),azc];by_cases h3:w<57344
   ·rw[dT0 (by omega),azc,if_pos (.inr (.inl ⟨h2,h3⟩))]
   ·rw[dF0 (by omega),azb];by_cases h4:1114111<w
    ·rw[dT0 (by omega),azc,if_pos (.inr (.inr h4))]
    ·rw[dF0 (by omega),azb,if_neg (by omega)]
  ·rw[dF0 (by omega),azb];by_cases h4:1114111<w
   ·rw[dT0 (by omega),azc,if_pos (.inr (.inr h4))]
   ·rw[dF0 (by omega),azb,if_neg (by omega)]
theorem b3_is {c:Nat}(h:c<256):hzS ((c:Int),0,0)=some (if c<128 then .inl (0,(c:Int),0)else if 194≤c∧c<224 then .inl (1,((c%32:Nat):Int),128)else if 224≤c∧c<240 then .inl (2,((c%16:Nat):Int),2048)
 else if 240≤c∧c<245 then .inl (3,((c%8:Nat):Int),65536)else .inr ([],false)):=by
 obtain⟨a1,a2,a3,_,_⟩:=bAnd h;unfold hzS;simp only[a1,a2,a3];by_cases h1:c<128
 ·rw[dT0 (by omega),azc,if_pos h1]
 ·rw[dF0 (by omega),azb,if_neg h1];by_cases h2:194≤c
  ·rw[dT0 (by omega),azc];by_cases h3:c<224
   ·rw[dT0 (by omega),azc,if_pos ⟨h2,h3⟩]
   ·rw[dF0 (by omega),azb,dT0 (by omega),azc,if_neg (by omega)];by_cases h4:c<240
    ·rw[dT0 (by omega),azc,if_pos (by omega)]
    ·rw[dF0 (by omega),azb,dT0 (by omega),azc,if_neg (by omega)];by_cases h5:c<245
     ·rw[dT0 (by omega),azc,if_pos (by omega)]
     ·rw[dF0 (by omega),azb,if_neg (by omega)]
  ·rw[dF0 (by omega),azb,dF0 (by omega),azb,dF0 (by omega),azb,if_neg (by omega),if_neg (by omega),if_neg (by omega)]
theorem rune_is {x:List UInt8}{out:List Int}{i:Nat}(hl:x.length≤4000000)(ho:out.length≤5000000)(hi:i<x.length):hzR (x,out,(i:Int))=some (oneR x out i):=by
 unfold hzR oneR;have hd:x.drop i=x[i]::x.drop (i+1):=List.drop_eq_getElem_cons hi;have hb0:=(x[i]'hi).toNat_lt;have hL:(x.drop i).length=x.length-i:=by simp
 have hL2:(x.drop (i+1)).length=x.length-i-1:=by simp;omega
 have hD:=decodeL_N (x.drop i);rw[hL,hd]at hD;simp only[List.getD_cons_zero,List.getD_cons_succ]at hD;rw[←hd]at hD;simp only;rw[idxB (List.getElem?_eq_getElem hi),aza,mzV (by omega),b3_is hb0,aza,azG (n:=(x.length:Int)-(i:Int)) (by omega) (by omega),hD];have k0:=((x.drop (i+1)).getD 0 0).toNat_lt;have k1:=((x.drop (i+1)).getD 1 0).toNat_lt;have k2:=((x.drop (i+1)).getD 2 0).toNat_lt;generalize hc:(x[i]'hi).toNat=c at *;have m1:=fun h v=>more1 (l:=x.drop (i+1)) h v
 have m2:=fun h v=>more2 (l:=x.drop (i+1)) h v
 have m3:=fun h v=>more3 (l:=x.drop (i+1)) h v
 have r1:=fun v h h2=>yzF (x:=x) (i:=i) (n:=1) (v:=v) (by omega) h (by omega) h2
 have r2:=fun v h h2=>yzF (x:=x) (i:=i) (n:=2) (v:=v) (by omega) h (by omega) h2
 have r3:=fun v h h2=>yzF (x:=x) (i:=i) (n:=3) (v:=v) (by omega) h (by omega) h2
 generalize ((x.drop (i+1)).getD 0 0).toNat=b1 at *;generalize ((x.drop (i+1)).getD 1 0).toNat=b2 at *;generalize ((x.drop (i+1)).getD 2 0).toNat=b3 at *;by_cases h1:c<128
 ·rw[if_pos h1];simp only[osum];have ck:=pzv (out:=out) (i:=i) (n:=0) (w:=c) (least:=0) ho (by omega) (by omega);rw[dF0 (by omega),azb,more0_is,aza];simp only[osum];have z0:((0:Nat):Int)=0:=rfl;rw[z0]at ck;rw[ck,decodeN_ascii _ _ _ _ _ h1,if_neg (by omega),if_neg (by simp;omega)]
 ·rw[if_neg h1];by_cases h2:194≤c∧c<224
  ·rw[if_pos h2];simp only[osum];by_cases hlen:x.length-i≤1
   ·rw[dT0 (by omega),azc];have:decodeN (x.length-i) c b1 b2 b3=(65533,1):=by
     unfold decodeN;rw[if_neg h1,if_neg (by omega),if_neg (by omega),if_neg (by omega)]
    rw[this,if_pos ⟨rfl,rfl⟩]
   ·have r:=r1 (c%32) (by omega) (by omega);rw[m1 (by omega)]at r;have ck:=pzv (out:=out) (i:=i) (n:=1) (w:=c%32*64+b1%64) (least:=128) ho (by omega) (by omega);have z1:((1:Nat):Int)=1:=rfl;have z2:((128:Nat):Int)=128:=rfl;rw[z1]at r ck;rw[z2]at ck;rw[dF0 (by omega),azb,r,aza];by_cases hb:b1/64=2
    ·rw[if_pos hb];simp only[osum];rw[ck];have:decodeN (x.length-i) c b1 b2 b3=(c%32*64+b1%64,2):=by
      unfold decodeN;rw[if_neg h1,if_pos (by omega),if_pos (by omega)]
     rw[this,if_neg (by omega),if_neg (by simp)]
    ·rw[if_neg hb];simp only[osum];have:decodeN (x.length-i) c b1 b2 b3=(65533,1):=by
      unfold decodeN;rw[if_neg h1,if_neg (by omega),if_neg (by omega),if_neg (by omega)]
     rw[this,if_pos ⟨rfl,rfl⟩]
  ·rw[if_neg h2];by_cases h3:224≤c∧c<240
   ·rw[if_pos h3];simp only[osum];by_cases hlen:x.length-i≤2
    ·rw[dT0 (by omega),azc];have:decodeN (x.length-i) c b1 b2 b3=(65533,1):=by
      unfold decodeN;rw[if_neg h1,if_neg (by omega),if_neg (by omega),if_neg (by omega)]
     rw[this,if_pos ⟨rfl,rfl⟩]
    ·have r:=r2 (c%16) (by omega) (by omega);rw[m2 (by omega)]at r;have ck:=pzv (out:=out) (i:=i) (n:=2) (w:=(c%16*64+b1%64)*64+b2%64) (least:=2048) ho (by omega) (by omega);have z1:((2:Nat):Int)=2:=rfl;have z2:((2048:Nat):Int)=2048:=rfl;rw[z1]at r ck;rw[z2]at ck;rw[dF0 (by omega),azb,r,aza];by_cases hb:b1/64=2∧b2/64=2
     ·rw[if_pos hb];simp only[osum];rw[ck];have e:(c%16*64+b1%64)*64+b2%64=c%16*4096+b1%64*64+b2%64:=by omega
      rw[e];by_cases hv:c%16*4096+b1%64*64+b2%64≥2048∧(c%16*4096+b1%64*64+b2%64<55296∨(57344≤c%16*4096+b1%64*64+b2%64∧c%16*4096+b1%64*64+b2%64≤1114111))
      ·have:decodeN (x.length-i) c b1 b2 b3=(c%16*4096+b1%64*64+b2%64,3):=by
        unfold decodeN;rw[if_neg h1,if_neg (by omega),if_pos (by omega),if_pos hv]
       rw[this,if_neg (by omega),if_neg (by simp)]
      ·have:decodeN (x.length-i) c b1 b2 b3=(65533,1):=by
        unfold decodeN;rw[if_neg h1,if_neg (by omega),if_pos (by omega),if_neg hv]
       rw[this,if_pos (by omega),if_pos ⟨rfl,rfl⟩]
     ·rw[if_neg hb];simp only[osum];have:decodeN (x.length-i) c b1 b2 b3=(65533,1):=by
       unfold decodeN;rw[if_neg h1,if_neg (by omega),if_neg (by omega),if_neg (by omega)]
      rw[this,if_pos ⟨rfl,rfl⟩]
   ·rw[if_neg h3];by_cases h4:240≤c∧c<245
    ·rw[if_pos h4];simp only[osum];by_cases hlen:x.length-i≤3
     ·rw[dT0 (by omega),azc];have:decodeN (x.length-i) c b1 b2 b3=(65533,1):=by
       unfold decodeN;rw[if_neg h1,if_neg (by omega),if_neg (by omega),if_neg (by omega)]
      rw[this,if_pos ⟨rfl,rfl⟩]
     ·have r:=r3 (c%8) (by omega) (by omega);rw[m3 (by omega)]at r;have ck:=pzv (out:=out) (i:=i) (n:=3) (w:=((c%8*64+b1%64)*64+b2%64)*64+b3%64) (least:=65536) ho (by omega) (by omega);have z1:((3:Nat):Int)=3:=rfl;have z2:((65536:Nat):Int)=65536:=rfl;rw[z1]at r ck;rw[z2]at ck;rw[dF0 (by omega),azb,r,aza];by_cases hb:b1/64=2∧b2/64=2∧b3/64=2
      ·rw[if_pos hb];simp only[osum];rw[ck];have e:((c%8*64+b1%64)*64+b2%64)*64+b3%64=c%8*262144+b1%64*4096+b2%64*64+b3%64:=by omega
       rw[e];by_cases hv:c%8*262144+b1%64*4096+b2%64*64+b3%64≥65536∧(c%8*262144+b1%64*4096+b2%64*64+b3%64<55296∨(57344≤c%8*262144+b1%64*4096+b2%64*64+b3%64∧c%8*262144+b1%64*4096+b2%64*64+b3%64≤1114111))
       ·have:decodeN (x.length-i) c b1 b2 b3=(c%8*262144+b1%64*4096+b2%64*64+b3%64,4):=by
         unfold decodeN;rw[if_neg h1,if_neg (by omega),if_neg (by omega),if_pos (by omega),if_pos hv]
        rw[this,if_neg (by omega),if_neg (by simp)]
       ·have:decodeN (x.length-i) c b1 b2 b3=(65533,1):=by
         unfold decodeN;rw[if_neg h1,if_neg (by omega),if_neg (by omega),if_pos (by omega),if_neg hv]
        rw[this,if_pos (by omega),if_pos ⟨rfl,rfl⟩]
      ·rw[if_neg hb];simp only[osum];have:decodeN (x.length-i) c b1 b2 b3=(65533,1):=by
        unfold decodeN;rw[if_neg h1,if_neg (by omega),if_neg (by omega),if_neg (by omega)]
       rw[this,if_pos ⟨rfl,rfl⟩]
    ·rw[if_neg h4];simp only[osum];have:decodeN (x.length-i) c b1 b2 b3=(65533,1):=by
      unfold decodeN;rw[if_neg h1];split
      ·rw[if_neg (by omega)]
      ·rw[if_neg (by omega)];split
       ·rw[if_neg (by omega)]
       ·rfl
     rw[this,if_pos ⟨rfl,rfl⟩]
theorem CzK {x:List UInt8}(hl:x.length≤4000000):kzO x=some (if validD x=true then(rs x,true)else([],false)):=by
 obtain⟨y,h1,h2⟩:=ozO (F:=fzT) (fun z=>x.length-z.2.2.toNat) (fun z=>∃(i:Nat) (out:List Int),z=(x,out,(i:Int))∧i≤x.length∧out.length≤i∧validD (x.drop i)=validD x∧out++rs (x.drop i)=rs x)
  (fun y=>osum y (fun y=>some (y,true)) (fun y=>some y)=some (if validD x=true then(rs x,true)else([],false))) (by
  rintro back z ⟨i,out,rfl,hi,ho,hv,hr⟩ hb;unfold fzT;simp only at hb ⊢;rcases Nat.lt_or_ge i x.length with hlt|hge
  ·have hne:x.drop i≠[]:=fun e=>by have:=congrArg List.length e;simp at this;omega
   have hw:=decodeL_width (x.drop i);have hle:=decodeL_le (x.drop i) hne;rw[List.length_drop]at hle;rw[dT0 (by omega),azc,rune_is (by omega) (by omega) hlt,aza];unfold oneR;rw[validD_step _ hne]at hv;by_cases hbad:(decodeL (x.drop i)).1=65533∧(decodeL (x.drop i)).2=1
   ·rw[if_pos hbad]at hv ⊢;rw[←hv];exact⟨_,rfl,rfl⟩
   ·rw[if_neg hbad]at hv ⊢;simp only[osum];rw[List.drop_drop]at hv;refine hb _ ⟨i+(decodeL (x.drop i)).2,_,rfl,by omega,by simp;omega,hv,?_⟩ (by simp only;omega);rw[eza hne,List.drop_drop]at hr;rw[←hr,List.append_assoc];rfl
  ·rw[dF0 (by omega),azb];refine⟨_,rfl,?_⟩;rw[List.drop_eq_nil_of_le hge]at hv hr;rw[←hv,←hr];simp[osum,validD_nil,mzN]) (x,[],0) ⟨0,[],rfl,by omega,by simp,by simp,by simp⟩ (by simp only;omega)
 unfold kzO;have h3:kzm (x,[],0)=some y:=h1;rw[h3,aza];exact h2
def ulen:List Int→Nat
 | []=>0
 | r::l=>(if r<65536 then 1 else 2)+ulen l
theorem ulen_le:∀l:List Int,ulen l≤2*l.length
 | []=>by simp[ulen]
 | r::l=>by
  have:=ulen_le l;simp only[ulen,List.length_cons];split<;>omega
theorem CzT {x:List UInt8}(hl:x.length≤900000000):∃us,lzW x=some us∧us.length=ulen (rs x):=by
 have key:∃y,lzu ([],x,0)=some y∧(y.1.length=ulen (rs x)):=by
  refine ozO (F:=gzG) (fun z=>x.length-z.2.2) (fun z=>∃(out:List Int) (p:Nat),z=(out,x,p)∧out.length≤2*p∧(p<x.length∨rs (x.drop p)=[])∧out.length+ulen (rs (x.drop p))=ulen (rs x)) _ ?_ _ ⟨[],0,rfl,by simp,by
   by_cases h:x=[]
   ·subst h;exact .inr rfl
   ·exact .inl (List.length_pos_iff.2 h),by simp⟩ (by simp only;omega)
  rintro back z ⟨out,p,rfl,ho,hp,hv⟩ hb;unfold gzG;simp only at hb ⊢;by_cases hlt:p<x.length
  ·have hne:x.drop p≠[]:=fun e=>by have:=congrArg List.length e;simp at this;omega
   have hr:=lza x p;have hw:=decodeL_width (x.drop p);have hle:=decodeL_le (x.drop p) hne;rw[List.length_drop]at hle;rw[eza hne,List.drop_drop]at hv;simp only[ulen]at hv;rw[dT0 hlt,azc,hr];have step:∀us:List Int,us.length=(if((decodeL (x.drop p)).1:Int)<65536 then 1 else 2)→∃y,back (out++us,x,p+(decodeL (x.drop p)).2)=some y∧y.1.length=ulen (rs x):=fun us hus=>by
    refine hb _ ⟨_,_,rfl,?_,?_,?_⟩ (by simp only;omega)
    ·simp only[List.length_append,hus];split<;>omega
    ·rcases Nat.lt_or_ge (p+(decodeL (x.drop p)).2) x.length with h|h
     ·exact .inl h
     ·right;rw[List.drop_eq_nil_of_le h];rfl
    ·simp only[List.length_append,hus];omega
   have hs:(if((decodeL (x.drop p)).1:Int)<65536 then 1 else 2)≤2:=by split<;>omega
   by_cases h6:((decodeL (x.drop p)).1:Int)<65536
   ·rw[dT0 h6,azc,appN (by simp;omega),aza];exact step _ (by rw[if_pos h6];rfl)
   ·rw[dF0 h6,azb,appN (by simp;omega),aza];exact step _ (by rw[if_neg h6];rfl)
  ·rw[dF0 hlt,azb];rcases hp with h|h
   ·exact absurd h hlt
   ·rw[h]at hv;exact⟨_,rfl,by simpa[ulen]using hv⟩
 obtain⟨y,h1,h2⟩:=key;refine⟨y.1,?_,h2⟩;unfold lzW;rw[h1];rfl
theorem yzQ {l:List Int}(hl:l.length≤4000000):∃us,kzQ l=some us∧us.length=ulen l:=by
 have key:∃y,kzn (l,[],0)=some y∧(y.length=ulen l):=by
  refine ozO (F:=fzX) (fun z=>l.length-z.2.2.toNat) (fun z=>∃(out:List Int) (i:Nat),z=(l,out,(i:Int))∧i≤l.length∧out.length≤2*i∧out.length+ulen (l.drop i)=ulen l) _ ?_ _ ⟨[],0,rfl,by omega,by simp,by simp⟩ (by simp only;omega);rintro back z ⟨out,i,rfl,hi,ho,hv⟩ hb;unfold fzX;simp only at hb ⊢;rcases Nat.lt_or_ge i l.length with hlt|hge
  ·have hd:l.drop i=l[i]::l.drop (i+1):=List.drop_eq_getElem_cons hlt;rw[hd]at hv;simp only[ulen]at hv;rw[dT0 (by omega),azc,idxI (List.getElem?_eq_getElem hlt)];simp only[aza];generalize l[i]=r at *;rw[azG (n:=(i:Int)+1) (by omega) (by omega)];have step:∀us:List Int,us.length=(if r<65536 then 1 else 2)→∃y,back (l,out++us,(i:Int)+1)=some y∧y.length=ulen l:=fun us hus=>by
    refine hb _ ⟨_,i+1,by simp;rfl,by omega,?_,?_⟩ (by simp only;omega)
    ·simp only[List.length_append,hus];split<;>omega
    ·simp only[List.length_append,hus];omega
   by_cases h6:r<65536
   ·rw[dT0 h6,azc,appN (by simp;omega),aza];exact step _ (by rw[if_pos h6];rfl)
   ·rw[dF0 h6,azb,appN (by simp;omega),aza];exact step _ (by rw[if_neg h6];rfl)
  ·rw[dF0 (by omega),azb];rw[List.drop_eq_nil_of_le hge]at hv;exact⟨_,rfl,by simpa[ulen]using hv⟩
 obtain⟨y,h1,h2⟩:=key;refine⟨y,?_,h2⟩;unfold kzQ;rw[h1];rfl
def bzx (x:List UInt8):Int×Int:=if validD x=true then(if 1000<ulen (rs x)then(0,4)else((ulen (rs x):Int),0))else(0,2)
theorem lz2 {x:List UInt8}(hl:x.length≤900000000):gzq x=some (bzx x):=by
 unfold gzq hzY bzx;rw[aza];cases hv:validD x with
 | false=>simp
 | true =>
  obtain⟨us,h1,h2⟩:=CzT hl;rw[Bool.not_true,azb,h1,aza,h2];by_cases h:1000<ulen (rs x)
  ·rw[dT0 (by omega),azc];simp[h]
  ·rw[dF0 (by omega),azb];simp[h]
theorem CzL {x:List UInt8}(hl:x.length≤4000000):kzP x=some (bzx x):=by
 unfold kzP bzx;rw[CzK (by omega),aza];cases hv:validD x with
 | false=>simp
 | true =>
  obtain⟨us,h1,h2⟩:=yzQ (l:=rs x) (by have:=nzM x;omega);simp only[if_true,Bool.not_true,azb];rw[h1,aza,h2];by_cases h:1000<ulen (rs x)
  ·rw[dT0 (by omega),azc,if_pos h]
  ·rw[dF0 (by omega),azb,if_neg h]
theorem iter_rel {X Y:Type}{F:(X→Option Y)→X→Option Y}(m:X→Nat)(Pre:X→Prop)(R:X→Y→Prop)
 (h:∀back x,Pre x→(∀x',Pre x'→m x'<m x→∃y,back x'=some y∧R x' y)→∃y,F back x=some y∧R x y) (x:X) (hp:Pre x) (hm:m x<9223372036854775808):∃y,iter F big x=some y∧R x y:=by
 have key:∀n x,Pre x→m x<n→∃y,iter F n x=some y∧R x y:=by
  intro n;induction n with
  | zero=>intro x _ h0;omega
  | succ n ih =>
   intro x hp hn;rw[azH];exact h _ x hp fun x' hp' hm=>ih x' hp' (by omega)
 exact key _ x hp (by rw[bz7];omega)
theorem cmpV_N (a b:Int):cmpV a b=cmpN a b:=rfl
theorem cmpr_is (x y:Int):fzp (x,y)=some (cmpN x y):=by
 unfold fzp gzR cmpN;simp only[decide_true,cond_true,aza,azb];by_cases h:x<y
 ·simp[h]
 ·by_cases h2:y<x<;>simp[h,h2]
theorem rs_at {s:List UInt8}{p:Nat}(h:p<s.length):rs (s.drop p)=((rune s p).1:Int)::rs (s.drop (p+(rune s p).2))∧1≤(rune s p).2:=by
 have hne:s.drop p≠[]:=fun h0=>by have:=congrArg List.length h0;simp at this;omega
 rw[eza hne,lza,List.drop_drop];exact⟨rfl,Lib.decodeL_width _⟩
theorem texts_l1 {s:List UInt8}{bs:List Int}(hs:s.length≤1000000)(hb:bs.length≤1000000):
 ∃y,izq (bs,0,s,0)=some y∧(match y with | .inl k=>walk (rs s) bs 0 = .inl k.1 | .inr r=>walk (rs s) bs 0 = .inr r.1):=by
 have h:=iter_rel (F:=izp) (fun x=>x.2.2.1.length-x.2.2.2) (fun x=>x.1=bs∧0≤x.2.1∧x.2.1≤bs.length)
  (fun x y=>match y with | .inl k=>walk (rs (x.2.2.1.drop x.2.2.2)) (bs.drop x.2.1.toNat) x.2.1 = .inl k.1 | .inr r=>walk (rs (x.2.2.1.drop x.2.2.2)) (bs.drop x.2.1.toNat) x.2.1 = .inr r.1) ?_ (bs,0,s,0) ⟨rfl,by simp,by simp⟩ (by simp only;omega)
 ·unfold izq;simpa using h
 ·intro back x hx hback;obtain⟨b,i,s,p⟩:=x;obtain⟨h1,h2,h3⟩:=hx;simp only at h1 h2 h3 hback;subst h1;obtain⟨i,rfl⟩:=Int.eq_ofNat_of_zero_le h2;unfold izp;simp only[Int.toNat_natCast];by_cases hp:p<s.length
  ·obtain⟨e1,e2⟩:=rs_at hp;rw[dT0 hp,azc,e1];by_cases hi:(i:Int)=b.length
   ·rw[dT0 hi,azc];refine⟨_,rfl,?_⟩;simp only;rw[show b.drop i=[] from List.drop_eq_nil_of_le (by omega)];rfl
   ·have hlt:i<b.length:=by omega
    have hix:idx b (i:Int)=some b[i]:=by simp[idx,hlt]
    rw[dF0 hi,azb,hix,aza,List.drop_eq_getElem_cons hlt];by_cases hr:((rune s p).1:Int)=b[i]
    ·rw[dT0 hr,Bool.not_true,azb,azG (by omega) (by omega)];obtain⟨y,hy,hR⟩:=hback (b,(i:Int)+1,s,p+(rune s p).2) ⟨rfl,by simp only;omega,by simp only;omega⟩ (by simp only;omega);refine⟨y,hy,?_⟩;simp only at hR ⊢;rw[show((i:Int)+1).toNat=i+1 by omega]at hR;unfold walk;rw[if_pos hr];exact hR
    ·rw[dF0 hr,Bool.not_false,azc,aza,cmpr_is,aza];refine⟨_,rfl,?_⟩;simp only;unfold walk;rw[if_neg hr]
  ·rw[dF0 hp,azb];refine⟨_,rfl,?_⟩;simp only;rw[List.drop_eq_nil_of_le (by omega),mzN];cases b.drop i<;>rfl
theorem texts_is {a b:List UInt8}(ha:a.length≤3000)(hb:b.length≤3000):jzK (a,b)=some (cmpL (rs a) (rs b)):=by
 unfold jzK;have hr:(bif b.length.ble 70368744177664 then some (dzu b b.length 0)else none)=some (rs b):=BzD (by omega);simp only;rw[hr,aza];have hl:=nzM b;obtain⟨y,hy,hR⟩:=texts_l1 (s:=a) (bs:=rs b) (by omega) (by omega);rw[hy,aza];have hw:=walk_is (rs a) (rs b) 0;cases y with
 | inl k =>
  simp only at hR;rw[hR]at hw;simp only at hw;simp only[osum,bzl,aza];rw[←hw,Int.zero_add,cmpV_N]
 | inr r =>
  simp only at hR;rw[hR]at hw;simp only at hw;simp only[osum];rw[hw]
def vB:Val:=⟨0,⟨0,0⟩,[],false,0⟩
def vN (d:Dec):Val:=⟨1,d,[],false,0⟩
def vS (s:List UInt8):Val:=⟨2,⟨0,0⟩,s,false,0⟩
def vT (b:Bool):Val:=⟨3,⟨0,0⟩,[],b,0⟩
def vE (e:Int):Val:=⟨4,⟨0,0⟩,[],false,e⟩
def okV (v:Val):Prop:=v=vB∨(∃d,v=vN d∧okD d)∨(∃s,v=vS s∧Lib.validD s=true)∨(∃b,v=vT b)∨∃e,v=vE e
theorem bzu {α:Type}{b:Bool}{x y:Option α}(hx:∃n,x=some n)(hy:∃n,y=some n):∃n,brn b x y=some n:=by cases b<;>assumption
theorem name_is (e:Int):∃n,nzV e=some n :=
 bzu ⟨_,rfl⟩ (bzu ⟨_,rfl⟩ (bzu ⟨_,rfl⟩ (bzu ⟨_,rfl⟩ (bzu ⟨_,rfl⟩ (bzu ⟨_,rfl⟩ (bzu ⟨_,rfl⟩ ⟨_,rfl⟩))))))
def key (v:Val):List Int:=v.Kind::(if v.Kind=1 then [V v.N]else if v.Kind=2 then rs v.S else if v.Kind=3 then [if v.B then 1 else 0]else [v.E])
def okW (v:Val):Prop:=okV v∧v.S.length≤3000∧I64 v.N.M
theorem bl_at:∀(k:Nat) (a b:List UInt8),(∀j,j<k→(a.getD j 0).toNat=(b.getD j 0).toNat)→k<a.length→k<b.length→(a.getD k 0).toNat<(b.getD k 0).toNat→Op.bytesLess a b=true∧Op.bytesLess b a=false
 | k,[],b,_,h,_,_=>by simp at h
 | k,a::x,[],_,_,h,_=>by simp at h
 | 0,a::x,b::y,_,_,_,hlt=>by
  simp only[List.getD_cons_zero]at hlt;have h1:a<b:=UInt8.lt_iff_toNat_lt.2 hlt;have h2:¬b<a:=fun h=>by have:=UInt8.lt_iff_toNat_lt.1 h;omega
  have h3:¬b=a:=fun h=>by subst h;omega
  simp[Op.bytesLess,h1,h2,h3]
 | k+1,a::x,b::y,he,hx,hy,hlt=>by
  have h0:=he 0 (by omega);simp only[List.getD_cons_zero]at h0;have hab:a=b:=UInt8.toNat_inj.1 h0;subst hab;simp only[List.getD_cons_succ]at hlt;have ih:=bl_at k x y (fun j hj=>by have:=he (j+1) (by omega);simpa only[List.getD_cons_succ]using this) (by simp at hx;omega) (by simp at hy;omega) hlt;have h2:¬a<a:=fun h=>by have:=UInt8.lt_iff_toNat_lt.1 h;omega
  simp[Op.bytesLess,h2,ih]
theorem yz1:∀(p x y:List UInt8),Op.bytesLess (p++x) (p++y)=Op.bytesLess x y
 | [],_,_=>rfl
 | a::p,x,y=>by
  have h2:¬a<a:=fun h=>by have:=UInt8.lt_iff_toNat_lt.1 h;omega
  simp[Op.bytesLess,h2,yz1 p x y]
def good (l:List UInt8):Prop:=¬((decodeL l).1=65533∧(decodeL l).2=1)
theorem part_at {n n' c b1 b2 b3 c' d1 d2 d3:Nat}(hc:c<256)(hc':c'<256)
 (hg:¬((decodeN n c b1 b2 b3).1=65533∧(decodeN n c b1 b2 b3).2=1)) (hg':¬((decodeN n' c' d1 d2 d3).1=65533∧(decodeN n' c' d1 d2 d3).2=1)) (hlt:(decodeN n c b1 b2 b3).1<(decodeN n' c' d1 d2 d3).1) :
 c<c'∨(c=c'∧b1<d1∧1<n∧1<n')∨(c=c'∧b1=d1∧b2<d2∧2<n∧2<n')∨(c=c'∧b1=d1∧b2=d2∧b3<d3∧3<n∧3<n'):=by
 rcases decodeN_shape n c b1 b2 b3 with⟨p1,e⟩|⟨p1,p2,p3,p4,e⟩|⟨p1,p2,p3,p4,p5,p6,e⟩|⟨p1,p2,p3,p4,p5,p6,p7,e⟩|e
 all_goals rw[e]at hg hlt
 case inr.inr.inr.inr=>exact absurd ⟨rfl,rfl⟩ hg
 all_goals rcases decodeN_shape n' c' d1 d2 d3 with⟨q1,e'⟩|⟨q1,q2,q3,q4,e'⟩|⟨q1,q2,q3,q4,q5,q6,e'⟩|⟨q1,q2,q3,q4,q5,q6,q7,e'⟩|e'
 all_goals rw[e']at hg' hlt
 all_goals first
  | exact absurd ⟨rfl,rfl⟩ hg'
  | (simp only at hlt;clear hg hg' e e';omega)
theorem rune_lt {a b:List UInt8}(ha:a≠[])(hb:b≠[])(ga:good a)(gb:good b)(hlt:(decodeL a).1<(decodeL b).1):Op.bytesLess a b=true∧Op.bytesLess b a=false:=by
 unfold good at ga gb;rw[decodeL_N]at ga gb hlt;rw[decodeL_N b]at hlt;have la:0<a.length:=List.length_pos_iff.2 ha;have lb:0<b.length:=List.length_pos_iff.2 hb;rcases part_at (a.getD 0 0).toNat_lt (b.getD 0 0).toNat_lt ga gb hlt with h|⟨h0,h,n1,n2⟩|⟨h0,h1,h,n1,n2⟩|⟨h0,h1,h2,h,n1,n2⟩
 ·exact bl_at 0 a b (fun j hj=>by omega) la lb h
 ·exact bl_at 1 a b (fun j hj=>by
   have:j=0:=by omega
   subst this;exact h0) n1 n2 h
 ·exact bl_at 2 a b (fun j hj=>by
   have:j=0∨j=1:=by omega
   rcases this with rfl|rfl
   ·exact h0
   ·exact h1) n1 n2 h
 ·exact bl_at 3 a b (fun j hj=>by
   have:j=0∨j=1∨j=2:=by omega
   rcases this with rfl|rfl|rfl
   ·exact h0
   ·exact h1
   ·exact h2) n1 n2 h
theorem qz6:∀a:List UInt8,Op.bytesLess a a=false
 | []=>rfl
 | a::l=>by
  have h2:¬a<a:=fun h=>by have:=UInt8.lt_iff_toNat_lt.1 h;omega
  simp[Op.bytesLess,h2,qz6 l]
theorem Bzm:∀(n:Nat) (a b:List UInt8),a.length≤n→validD a=true→validD b=true→cmpL (rs a) (rs b)=if a=b then 0 else if sLt a b=true then -1 else 1
 | n,[],[],_,_,_=>by simp[mzN,cmpL]
 | n,[],c::b,_,_,_=>by rw[mzN,eza (by simp)];simp[cmpL,sLt,Op.bytesLess]
 | n,c::a,[],_,_,_=>by rw[mzN,eza (by simp)];simp[cmpL,sLt,Op.bytesLess]
 | 0,c::a,d::b,h,_,_=>by simp at h
 | n+1,c::a,d::b,hn,ha,hb=>by
  have na:c::a≠[]:=by simp
  have nb:d::b≠[]:=by simp
  generalize hA:c::a=A at *;generalize hB:d::b=B at *;rw[validD_step A na]at ha;rw[validD_step B nb]at hb;have ga:good A:=fun h=>by rw[if_pos h]at ha;cases ha
  have gb:good B:=fun h=>by rw[if_pos h]at hb;cases hb
  rw[if_neg ga]at ha;rw[if_neg gb]at hb;rw[eza na,eza nb]
  show(if _ then _ else _)=_
  have wa:=decodeL_width A;have la:0<A.length:=List.length_pos_iff.2 na;by_cases he:(decodeL A).1=(decodeL B).1
  ·have e1:=encode_decode A na ga;have e2:=encode_decode B nb gb;rw[he,e2]at e1;have ih:=Bzm n (A.drop (decodeL A).2) (B.drop (decodeL B).2) (by rw[List.length_drop];omega) ha hb;rw[if_pos (by rw[he]),ih];have a1:=List.take_append_drop (decodeL A).2 A;have b1:=List.take_append_drop (decodeL B).2 B;rw[e1]at b1;unfold sLt;have e3:Op.bytesLess A B=Op.bytesLess (A.drop (decodeL A).2) (B.drop (decodeL B).2):=by
    conv=>lhs;rw[←a1,←b1]
    exact yz1 _ _ _
   have e4:A=B↔A.drop (decodeL A).2=B.drop (decodeL B).2:=by
    constructor
    ·intro h;rw[←a1,←b1]at h;exact List.append_cancel_left h
    ·intro h;rw[←a1,←b1,h]
   rw[e3];simp only[e4]
  ·rw[if_neg (by omega)];rcases Nat.lt_or_ge (decodeL A).1 (decodeL B).1 with hlt|hge
   ·obtain⟨h1,h2⟩:=rune_lt na nb ga gb hlt;rw[if_neg (fun h=>by rw[h,qz6]at h1;cases h1),if_pos (show sLt A B=true from h1)];unfold cmpN;rw[if_pos (by omega)]
   ·obtain⟨h1,h2⟩:=rune_lt nb na gb ga (by omega);rw[if_neg (fun h=>by rw[h,qz6]at h1;cases h1)];unfold sLt;rw[h2,if_neg (by simp)];unfold cmpN;rw[if_neg (by omega),if_pos (by omega)]
set_option linter.unusedSimpArgs false
theorem lz7 {x:Val}(hl:x.S.length≤3000):∃e,jzH x=some e∧bz4 x=some e∧(e=0→okV x):=by
 obtain⟨K,⟨M,S⟩,s,B,E⟩:=x;simp only at hl;unfold jzH bz4;simp only;by_cases k0:K<0
 ·exact⟨1,by simp[k0],by simp[k0],by omega⟩
 by_cases k4:4<K
 ·exact⟨1,by simp[k0,k4],by simp[k0,k4],by omega⟩
 rw[dF0 k0,dF0 k4];simp only[azb];have hK:K=0∨K=1∨K=2∨K=3∨K=4:=by omega
 have hun:=lz2 (x:=s) (by omega);have hru:=CzL (x:=s) (by omega);obtain⟨n,hn⟩:=name_is E;have hn':kzk E=some n:=hn;rcases hK with rfl|rfl|rfl|rfl|rfl
 ·unfold izI cze;by_cases hM:M=0<;>by_cases hS:S=0<;>by_cases hs:s=[]<;>cases B<;>by_cases hE:E=0<;>simp[hM,hS,hs,hE,okV,vB]
 ·unfold izI cze;have hc:vz7 ⟨M,S⟩=dz6 ⟨M,S⟩:=rfl;rcases BzX ⟨M,S⟩with⟨h1,h2⟩|⟨e,h1,h2⟩
  ·by_cases hs:s=[]<;>cases B<;>by_cases hE:E=0<;>simp[hs,hE,hc,h1,okV,vB,vN,vS,vT,vE,h2]
  ·by_cases hs:s=[]<;>cases B<;>by_cases hE:E=0<;>simp[hs,hE,hc,h1,h2]
 ·unfold izI cze;by_cases hM:M=0<;>by_cases hS:S=0<;>cases B<;>by_cases hE:E=0<;>simp[hM,hS,hE,hun,hru,okV,vB,vN,vS,vT,vE];unfold bzx;cases hv:validD s with
  | true=>simp
  | false=>simp
 ·unfold izI cze;by_cases hM:M=0<;>by_cases hS:S=0<;>by_cases hs:s=[]<;>cases B<;>by_cases hE:E=0<;>simp[hM,hS,hs,hE,okV,vB,vN,vS,vT,vE]
 ·unfold izI cze azn;by_cases hn0:n=[]<;>by_cases hM:M=0<;>by_cases hS:S=0<;>by_cases hs:s=[]<;>cases B<;>simp[hM,hS,hs,hn,hn',hn0,okV,vB,vN,vS,vT,vE]
theorem number_eq {a:Val}(h:okV a)(hl:a.S.length≤3000):∃r,az4 a=some r∧True:=by
 rcases h with rfl|⟨d,rfl,hd⟩|⟨s,rfl,hs⟩|⟨t,rfl⟩|⟨e,rfl⟩
 ·exact⟨_,rfl,trivial⟩
 ·exact⟨_,rfl,trivial⟩
 ·have hl:s.length≤3000:=hl;unfold az4 vS azn;simp[vzj (x:=s) (by omega)];by_cases h:(fz7 s).2=0<;>simp[h]
 ·cases t<;>exact⟨_,rfl,trivial⟩
 ·exact⟨_,rfl,trivial⟩
theorem text_eq {a:Val}(h:okV a)(hm:I64 a.N.M):∃r,cz8 a=some r∧True:=by
 rcases h with rfl|⟨d,rfl,hd⟩|⟨s,rfl,hs⟩|⟨t,rfl⟩|⟨e,rfl⟩
 ·exact⟨_,rfl,trivial⟩
 ·obtain⟨M,S⟩:=d;have hm':I64 M:=hm;obtain⟨s,rfl⟩:=Int.eq_ofNat_of_zero_le hd.1;have hs:s≤9:=by have:=hd.2.1;simp only at this;omega
  have e1:=lzF hm' hs;unfold cz8 vN;exact⟨gzb M s,by simp[e1],trivial⟩
 ·exact⟨_,rfl,trivial⟩
 ·cases t<;>exact⟨_,rfl,trivial⟩
 ·obtain⟨n,hn⟩:=name_is e;unfold cz8 vE;exact⟨n,by simp[hn],trivial⟩
theorem words_eq {a:Val}(h:okV a)(hm:I64 a.N.M):∃r,cz2 a=some r∧True:=by
 obtain⟨r,h1,_⟩:=text_eq h hm;unfold cz2;rw[h1];by_cases h4:a.Kind=4
 ·exact⟨([],a,false),by simp[h4],trivial⟩
 ·exact⟨(r,⟨0,⟨0,0⟩,[],false,0⟩,true),by simp[h4],trivial⟩
theorem truth_eq {a:Val}(h:okV a):∃r,bzV a=some r∧True:=by
 rcases h with rfl|⟨d,rfl,hd⟩|⟨s,rfl,hs⟩|⟨t,rfl⟩|⟨e,rfl⟩
 ·exact⟨_,rfl,trivial⟩
 ·exact⟨_,rfl,trivial⟩
 ·unfold bzV vS azn;by_cases h1:s=[84,82,85,69]
  ·simp[h1]
  ·by_cases h2:s=U8s [70,65,76,83,69]<;>simp[h1,h2]
 ·exact⟨_,rfl,trivial⟩
 ·exact⟨_,rfl,trivial⟩
theorem szr {d d':Dec}(h:okD d)(h':okD d')(m:I64 d.M)(m':I64 d'.M):czS (d,d')=some (cmpV (V d) (V d'))∧True:=by
 exact⟨CzV m m' h.1 h.2.1 h'.1 h'.2.1,trivial⟩
theorem xzX {s t:List UInt8}(hs:s.length≤3000)(ht:t.length≤3000)(vs:validD s=true)(vt:validD t=true):∃n,jzK (s,t)=some n∧brn (!decide (s=t)) (brn (sLt s t) (some (-1)) (some 1)) (some 0)=some n:=by
 refine⟨_,texts_is hs ht,?_⟩;rw[Bzm s.length s t (Nat.le_refl _) vs vt];by_cases h:s=t
 ·simp[h]
 ·cases hlt:sLt s t<;>simp[h]
theorem bzP (e e':Int):brn (!decide (e=e')) (brn (decide (e<e')) (some (-1:Int)) (some 1)) (some 0)=some (cmpV e e'):=by
 unfold cmpV;by_cases h:e=e'
 ·simp[h]
 ·by_cases h2:e<e'
  ·simp[h,h2]
  ·have:e'<e:=by omega
   simp[h,h2,this]
theorem ok0:okD ⟨0,0⟩:=⟨by simp,by simp,fun h=>by simp at h⟩
theorem I0:I64 0:=by unfold I64;omega
theorem Cz0 {a b:Val}(ha:okV a)(hb:okV b)(la:a.S.length≤3000)(lb:b.S.length≤3000)(ma:I64 a.N.M)(mb:I64 b.N.M):∃r,azN (a,b)=some r∧True:=by
 rcases ha with rfl|⟨d,rfl,hd⟩|⟨s,rfl,hs⟩|⟨t,rfl⟩|⟨e,rfl⟩
 ·rcases hb with rfl|⟨d',rfl,hd'⟩|⟨s',rfl,hs'⟩|⟨t',rfl⟩|⟨e',rfl⟩
  ·unfold azN azE azx;simp[vB,vN,vS,vT,vE,bzl,cmpV,osum,azP,bzP]
  ·obtain⟨c1,_⟩:=szr ok0 hd' I0 mb;unfold azN azE azx;simp[c1,vB,vN,vS,vT,vE,bzl,cmpV,osum,azP,bzP]
  ·obtain⟨n,c1,_⟩:=xzX (s:=[]) (t:=s') (by simp) lb (by rfl) hs';unfold azN azE azx;simp[c1,vB,vN,vS,vT,vE,bzl,cmpV,osum,azP,bzP]
  ·cases t'<;>exact⟨_,rfl,trivial⟩
  ·unfold azN azE azx;simp[vB,vN,vS,vT,vE,bzl,cmpV,osum,azP,bzP]
 ·rcases hb with rfl|⟨d',rfl,hd'⟩|⟨s',rfl,hs'⟩|⟨t',rfl⟩|⟨e',rfl⟩
  ·obtain⟨c1,_⟩:=szr hd ok0 ma I0;unfold azN azE azx;simp[c1,vB,vN,vS,vT,vE,bzl,cmpV,osum,azP,bzP]
  ·obtain⟨c1,_⟩:=szr hd hd' ma mb;unfold azN azE azx;simp[c1,vB,vN,vS,vT,vE,bzl,cmpV,osum,azP,bzP]
  ·unfold azN azE azx;simp[vB,vN,vS,vT,vE,bzl,cmpV,osum,azP,bzP]
  ·unfold azN azE azx;simp[vB,vN,vS,vT,vE,bzl,cmpV,osum,azP,bzP]
  ·unfold azN azE azx;simp[vB,vN,vS,vT,vE,bzl,cmpV,osum,azP,bzP]
 ·rcases hb with rfl|⟨d',rfl,hd'⟩|⟨s',rfl,hs'⟩|⟨t',rfl⟩|⟨e',rfl⟩
  ·obtain⟨n,c1,_⟩:=xzX (s:=s) (t:=[]) la (by simp) hs (by rfl);unfold azN azE azx;simp[c1,vB,vN,vS,vT,vE,bzl,cmpV,osum,azP,bzP]
  ·unfold azN azE azx;simp[vB,vN,vS,vT,vE,bzl,cmpV,osum,azP,bzP]
  ·obtain⟨n,c1,_⟩:=xzX (s:=s) (t:=s') la lb hs hs';unfold azN azE azx;simp[c1,vB,vN,vS,vT,vE,bzl,cmpV,osum,azP,bzP]
  ·unfold azN azE azx;simp[vB,vN,vS,vT,vE,bzl,cmpV,osum,azP,bzP]
  ·unfold azN azE azx;simp[vB,vN,vS,vT,vE,bzl,cmpV,osum,azP,bzP]
 ·rcases hb with rfl|⟨d',rfl,hd'⟩|⟨s',rfl,hs'⟩|⟨t',rfl⟩|⟨e',rfl⟩
  ·cases t<;>exact⟨_,rfl,trivial⟩
  ·unfold azN azE azx;simp[vB,vN,vS,vT,vE,bzl,cmpV,osum,azP,bzP]
  ·unfold azN azE azx;simp[vB,vN,vS,vT,vE,bzl,cmpV,osum,azP,bzP]
  ·cases t<;>cases t'<;>exact⟨_,rfl,trivial⟩
  ·unfold azN azE azx;simp[vB,vN,vS,vT,vE,bzl,cmpV,osum,azP,bzP]
 ·rcases hb with rfl|⟨d',rfl,hd'⟩|⟨s',rfl,hs'⟩|⟨t',rfl⟩|⟨e',rfl⟩
  ·unfold azN azE azx;simp[vB,vN,vS,vT,vE,bzl,cmpV,osum,azP,bzP]
  ·unfold azN azE azx;simp[vB,vN,vS,vT,vE,bzl,cmpV,osum,azP,bzP]
  ·unfold azN azE azx;simp[vB,vN,vS,vT,vE,bzl,cmpV,osum,azP,bzP]
  ·unfold azN azE azx;simp[vB,vN,vS,vT,vE,bzl,cmpV,osum,azP,bzP]
  ·unfold azN azE azx;simp[vB,vN,vS,vT,vE,bzl,cmpV,osum,azP,bzP]
def azy {A S Y:Type}(step:S→A→S⊕Y)(fin:S→Y):S→List A→Y
 | s,[]=>fin s
 | s,a::l=>match step s a with
  | .inl s'=>azy step fin s' l
  | .inr y=>y
def kzD {S Y Z:Type}(b:S→Option Z)(g:Y→Z):S⊕Y→Option Z
 | .inl s=>b s
 | .inr y=>some (g y)
theorem azR {A S X Y Z:Type}{F:(X→Option Z)→X→Option Z}(mk:S→Nat→X)(g:Y→Z)(l:List A)(step:S→A→S⊕Y)(fin:S→Y)(Pre:S→Nat→Prop)
 (hl:l.length≤1000000000)
 (h:∀back s i (hi:i<l.length),Pre s i→F back (mk s i)=kzD (fun s'=>back (mk s' (i+1))) g (step s l[i]))
 (hp:∀s i (hi:i<l.length) s',Pre s i→step s l[i] = .inl s'→Pre s' (i+1))
 (hend:∀back s,Pre s l.length→F back (mk s l.length)=some (g (fin s))) (s:S) (h0:Pre s 0):iter F big (mk s 0)=some (g (azy step fin s l)):=by
 have key:∀k n i s,i+k=l.length→k<n→Pre s i→iter F n (mk s i)=some (g (azy step fin s (l.drop i))):=by
  intro k;induction k with
  | zero =>
   intro n i s hi hn hs;obtain⟨m,rfl⟩:∃m,n=m+1:=⟨n-1,by omega⟩;have:i=l.length:=by omega
   subst this;rw[azH,hend _ _ hs,List.drop_length];rfl
  | succ k ih =>
   intro n i s hi hn hs;obtain⟨m,rfl⟩:∃m,n=m+1:=⟨n-1,by omega⟩;have hlt:i<l.length:=by omega
   rw[azH,h _ _ _ hlt hs,List.drop_eq_getElem_cons hlt];simp only[azy];cases hst:step s l[i]with
   | inl s'=>exact ih m (i+1) s' (by omega) (by omega) (hp _ _ hlt _ hs hst)
   | inr y=>rfl
 have:=key l.length big 0 s (by omega) (by rw[bz7];omega) h0;simpa using this
theorem nzf {A X Z:Type}{F:(X→Option Z)→X→Option Z}(mk:Nat→X)(g:Option Nat→Z)(l:List A)(p:A→Bool)(hl:l.length≤1000000000)
 (h:∀back i (hi:i<l.length),F back (mk i)=bif p l[i]then some (g (some i))else back (mk (i+1)))
 (hend:∀back,F back (mk l.length)=some (g none)):iter F big (mk 0)=some (g (l.findIdx? p)):=by
 have key:∀k n i,i+k=l.length→k<n→iter F n (mk i)=some (g (((l.drop i).findIdx? p).map (·+i))):=by
  intro k;induction k with
  | zero =>
   intro n i hi hn;obtain⟨m,rfl⟩:∃m,n=m+1:=⟨n-1,by omega⟩;have:i=l.length:=by omega
   subst this;rw[azH,hend,List.drop_length];rfl
  | succ k ih =>
   intro n i hi hn;obtain⟨m,rfl⟩:∃m,n=m+1:=⟨n-1,by omega⟩;have hlt:i<l.length:=by omega
   rw[azH,h _ _ hlt,List.drop_eq_getElem_cons hlt,List.findIdx?_cons];cases hpl:p l[i]with
   | true=>simp
   | false =>
    simp only[cond_false];rw[ih m (i+1) (by omega) (by omega)];simp only[Bool.false_eq_true,if_false,Option.map_map];congr 3;funext j;simp only[Function.comp];omega
 have:=key l.length big 0 (by omega) (by rw[bz7];omega);simpa using this
theorem idxG {A:Type}{l:List A}{i:Nat}(hi:i<l.length):idx l (i:Int)=some l[i]:=by simp[idx,hi]
theorem idxZ {A:Type}{a:A}{l:List A}:idx (a::l) 0=some a:=rfl
theorem wr1 {i:Nat}(h:i<1000000000):IntKind.i64.wrap ((i:Int)+1)=((i+1:Nat):Int):=by
 simp[IntKind.wrap,IntKind.bits,IntKind.signed];omega
theorem ltT {i n:Nat}(h:i<n):decide ((i:Int)<(n:Int))=true:=dT0 (by omega)
theorem ltF {n:Nat}:decide ((n:Int)<(n:Int))=false:=dF0 (by omega)
theorem nzW {A:Type}(p:A→Bool)(l:List A):(l.findIdx? p).isSome=l.any p:=by
 simp[List.findIdx?_isSome]
end Go.Proofs.YtdgpkbnnljblmaaGreatDoor
/- W1 -/
namespace Go.Ev
open Go Go.Proofs Go.Shelf Go.RowKit
variable {P:Program} {ρ:Ren} {tb:Tab}
abbrev bldPat (T:Nat):Pat:=.box (1048576*(T+1)+2)
theorem bldPat_n (T:Nat):bldB (1048576*(T+1)+2)=true∧boxN (1048576*(T+1)+2)=2∧boxT (1048576*(T+1)+2)=T:=by
 refine⟨?_,?_,?_⟩
 ·unfold bldB;exact Nat.ble_eq_true_of_le (by omega)
 ·unfold boxN;omega
 ·unfold boxT;omega
def czR (tb:Tab)(T tu:Nat):FSpec tb:=⟨[(8589934592,.own tu),(0,bldPat T)],[(8589967360,.own tu)],fun x=>some (x.1,())⟩
theorem vz5 {tu:Nat}(L:Lays.n240 P ρ)(X:Builder.X72 P ρ):bzB P tb (ρ.f 240) (czR tb (ρ.t 72) tu):=by
 intro g w x vs bs y hy _ hat hh hnd;obtain⟨xs,x2⟩:=x;have hy:some ((xs,()):List (tb.T tu)×Unit)=some y:=hy;injection hy with hy;subst hy;cases vs with
 | nil=>exact hh.elim
 | cons vb vs =>
 cases bs with
 | nil=>exact hh.elim
 | cons b0 bs =>
 obtain⟨⟨hrb,hown⟩,hh⟩:=hh;cases vs with
 | nil=>exact hh.elim
 | cons v vs =>
 cases vs with
 | cons _ _=>cases bs<;>exact hh.elim
 | nil =>
 cases bs with
 | nil=>exact hh.elim
 | cons b bs =>
 cases bs with
 | cons _ _=>exact hh.elim
 | nil =>
 obtain⟨k,rfl,rfl,hk,hg,us,el,fz,h1,h2,h3,h4,h5⟩:=hh;obtain⟨n1,n2,n3⟩:=bldPat_n (ρ.t 72);obtain⟨h6,u,h7,h8⟩:=h5 n1;rw[n3]at h6;rw[n2]at h3;obtain⟨hat1,_,_⟩:=hat
 have hr:azB (czR tb (ρ.t 72) tu).ins [vb,Value.pointer (some ⟨k,0,none⟩)]=[.pointer (some ⟨k,0,none⟩)]:=rfl;have hvb:us[1]?=some vb:=by
  rw[hr]at hat1;unfold vval at hat1;rw[if_neg (show ¬(8589934592:Nat)<4294967296 by decide)]at hat1;simpa[h1]using hat1
 have c0:w.cell? ⟨k,0,none⟩=some u:=by simp[World.cell?,h1,←Array.getElem?_toList,h7]
 have hent:∀args w,(callFunc (ρ.f 240) args).run P w = .ok (.enter (ρ.f 240) args) w:=Go.Proofs.enters_of L.f240 (by kernel_rfl) rfl;refine .inl ⟨hent _ _,?_⟩
 show Calls P (ρ.f 240) #[.pointer (some ⟨k,0,none⟩)] w _
 have hb0:∀q,b0=some q→q≠k∧q<w.heap.size:=fun q hq=>by
  rcases hown with⟨_,h,_⟩|⟨q',off,cap,cells,el2,fz2,e1,_,e3,e4,_⟩
  ·rw[hq]at h;cases h
  ·rw[hq]at e1;injection e1 with e1;subst e1;exact⟨fun e=>(by subst e;rw[hg]at e3;cases e3),(Array.getElem?_eq_some_iff.1 e4).1⟩
 have fin:∀w' us',Ext g w g w' (fun b=>b=k)→w'.heap[k]?=some (.cells us' el fz)→us'[1]?=some vb→pzm w' (1048576*(ρ.t 72+1)+2) k→∃v us cs g',(Ending.returned (.tuple #[])) = .returned v∧RetV (azF (czR tb (ρ.t 72) tu).outs) (azB (czR tb (ρ.t 72) tu).outs us) v ∧
  At w' (czL (azB (czR tb (ρ.t 72) tu).outs us) (azB (czR tb (ρ.t 72) tu).ins [vb,Value.pointer (some ⟨k,0,none⟩)])) (czR tb (ρ.t 72) tu).outs us ∧
  Left P tb g w (czR tb (ρ.t 72) tu).ins (czR tb (ρ.t 72) tu).outs [vb,Value.pointer (some ⟨k,0,none⟩)] [b0,some k] (xs,()) us cs g' w':=fun w' us' he hw1 hu1 hb=>by
  have hk':Keeps g w g w':=he.keeps;have hown':pzo P g w' b0 tu xs.length vb:=by
   rcases hown with⟨e1,e2,e3⟩|⟨q',off,cap,cells,el2,fz2,e1,e2,e3,e4,e5⟩
   ·exact .inl ⟨e1,e2,e3⟩
   ·obtain⟨hne,hlt⟩:=hb0 _ e1;exact .inr ⟨q',off,cap,cells,el2,fz2,e1,e2,e3,((he.keep _ hlt hne).1).trans e4,e5⟩
  refine⟨.tuple #[],[vb],[b0],g,rfl,rfl,⟨?_,trivial⟩,he.mono fun b _ e=>?_,⟨hrb.mono hk',hown'⟩,⟨k,rfl,rfl,Nat.lt_of_lt_of_le hk he.size,hg,hb⟩,?_,fun q hq=>?_⟩
  ·show vval w' _ 8589967360=some vb
   unfold vval;rw[if_neg (show ¬(8589967360:Nat)<4294967296 by decide),show czL (azB (czR tb (ρ.t 72) tu).outs [vb]) (azB (czR tb (ρ.t 72) tu).ins [vb,Value.pointer (some ⟨k,0,none⟩)]) (8589967360%4294967296)=some (.pointer (some ⟨k,0,none⟩)) from rfl];simp only[hw1];exact hu1
  ·show b∈b0.toList++([k]++[])
   simp[e]
  ·unfold azk;cases b0<;>simp
  ·have hq':b0=some q:=by
    unfold azk at hq;cases b0 with
    | none=>simp at hq
    | some q'=>simp at hq;rw[hq]
   refine⟨.inr ?_,?_⟩
   ·show q∈b0.toList++([k]++[])
    simp[hq']
   ·show q ∉ azk [some k]
    simpa[azk]using(hb0 q hq').1
 rcases h8 with rfl|rfl
 ·have hsh:w.shape? k=some (ρ.t 72,2):=by simp[World.shape?,h1,h6,h3]
  have hfz:w.frozen? ⟨k,0,none⟩=false:=by
   have:=h2 0 (by omega);simp only[World.frozen?,h1];simpa using this
  refine(Any.Builder_copyCheck_fresh L X k w c0 hsh hfz).mono ?_;rintro r w' ⟨rfl,rfl⟩;have hset:(w.setCell ⟨k,0,none⟩ (.pointer (some ⟨k,0,none⟩))).heap[k]?=some (.cells (us.setIfInBounds 0 (.pointer (some ⟨k,0,none⟩))) el fz):=by
   simp only[World.setCell,Array.getElem?_modify,h1,if_true,Option.map_some];rfl
  have hone:OneBlock w (w.setCell ⟨k,0,none⟩ (.pointer (some ⟨k,0,none⟩))) k (.cells (us.setIfInBounds 0 (.pointer (some ⟨k,0,none⟩))) el fz) :=
   ⟨rfl,rfl,rfl,by simp[World.setCell],hset,fun b hb=>Below.heap_setCell _ _ _ _ (fun e=>hb e)⟩
  refine fin _ _ (Ext.var1 hone hg fun us2 T fz2 e=>?_) hset (by rw[Array.getElem?_setIfInBounds_ne (by decide)];exact hvb) ⟨_,el,fz,hset,fun j hj=>h2 j (by simpa using hj),by simpa[n2]using h3,fun v hv=>?_,fun _=>⟨by rw[n3];exact h6,.pointer (some ⟨k,0,none⟩),?_,.inr rfl⟩⟩
  ·rw[h1]at e;injection e with e;injection e with e1 e2 _;exact⟨_,fz,by rw[e2],by simp[e1]⟩
  ·rw[Array.toList_setIfInBounds]at hv;rcases List.mem_or_eq_of_mem_set hv with hv|rfl
   ·exact h4 v hv
   ·rfl
  ·rw[Array.toList_setIfInBounds,List.getElem?_set_self (by simp;omega)]
 ·refine(Any.Builder_copyCheck_used L X k w c0).mono ?_;rintro r w' ⟨rfl,rfl⟩;exact fin _ us (Ext.refl g w' _) h1 hvb ⟨us,el,fz,h1,h2,by rw[n2];exact h3,h4,h5⟩
section
variable {w:World}
set_option maxHeartbeats 2000000 in
set_option maxRecDepth 100000 in
theorem zzL (L:Lays.n169 P ρ)(X:Builder.Extra P ρ)(b:Nat)(c0:w.cell? ⟨b,1,none⟩=some (.slice none 0 0)):
 Calls P (ρ.f 169) #[.pointer (some ⟨b,0,none⟩)] w fun e w'=>e = .returned (.string ⟨#[]⟩)∧w'=w.drew:=by
 have hUS:=Any.unsafeString_none L X;have c1:w.drew.cell? ⟨b,1,none⟩=some (.slice none 0 0):=c0;have hSD:(Builtin.unsafeSliceData_ #[(ρ.t 37)] (ρ.t 127) #[.slice none 0 0]).run P w.drew = .ok (.pointer none) w.drew:=rfl;have mixed:=L.mixed;have t72:=L.t72;have a72:=L.a72;have z72:=L.z72;have v72:=L.v72;have u72:=run_underlying L.t72;have t70:=L.t70;have a70:=L.a70;have z70:=L.z70;have v70:=L.v70;have u70:=run_underlying L.t70;have t37:=L.t37;have a37:=L.a37;have z37:=L.z37;have v37:=L.v37;have u37:=run_underlying L.t37;have t127:=L.t127;have a127:=L.a127;have z127:=L.z127;have v127:=L.v127;have u127:=run_underlying L.t127;have t3:=L.t3;have a3:=L.a3;have z3:=L.z3;have v3:=L.v3;have u3:=run_underlying L.t3;have t9:=L.t9;have a9:=L.a9;have z9:=L.z9;have v9:=L.v9;have u9:=run_underlying L.t9;have t5:=X.t5;have a5:=X.a5;have z5:=X.z5;have v5:=X.v5;have u5:=run_underlying X.t5
 go_enter L.f169,Body.n169_ntmps ρ
 go_wp2
 go_region_o
 all_goals (go_wp2;go_ret;exact⟨rfl,rfl⟩)
set_option maxHeartbeats 2000000 in
set_option maxRecDepth 100000 in
theorem uzn (L:Lays.n169 P ρ)(X:Builder.Extra P ρ)(b g:Nat)(hb:b<w.heap.size)(c0:w.cell? ⟨b,1,none⟩=some (.slice (some ⟨g,0,none⟩) 0 0)){cur:Array Value}{fz:Nat×Nat}(hg:w.heap[g]?=some (.cells cur (ρ.t 5) fz)):
 Calls P (ρ.f 169) #[.pointer (some ⟨b,0,none⟩)] w fun e w'=>e = .returned (.string ⟨#[]⟩)∧w'=(w.alloc (.view ⟨g,0,none⟩ (ρ.t 5))).drew:=by
 have hUS:=Any.unsafeString_none L X;have c1:w.drew.cell? ⟨b,1,none⟩=some (.slice (some ⟨g,0,none⟩) 0 0):=c0;have hSD:(Builtin.unsafeSliceData_ #[(ρ.t 37)] (ρ.t 127) #[.slice (some ⟨g,0,none⟩) 0 0]).run P w.drew = .ok (.pointer (some ⟨w.drew.heap.size,0,none⟩)) (w.drew.alloc (.view ⟨g,0,none⟩ (ρ.t 5))) :=
  Lib.run_unsafeSliceData_zero w.drew _ _ (ρ.t 5) L.t127 ⟨g,0,none⟩ 0 ((ρ.t 5),cur.size) (by have hg':w.drew.heap[g]?=some (.cells cur (ρ.t 5) fz):=hg;simp[World.shape?,hg'])
 have c2:(w.drew.alloc (.view ⟨g,0,none⟩ (ρ.t 5))).cell? ⟨b,1,none⟩=some (.slice (some ⟨g,0,none⟩) 0 0):=by
  rw[←c1];exact bzo (Lib.alloc_old w.drew _ b hb)
 have c3:(w.alloc (.view ⟨g,0,none⟩ (ρ.t 5))).drew.cell? ⟨b,1,none⟩=some (.slice (some ⟨g,0,none⟩) 0 0):=c2;have mixed:=L.mixed;have t72:=L.t72;have a72:=L.a72;have z72:=L.z72;have v72:=L.v72;have u72:=run_underlying L.t72;have t70:=L.t70;have a70:=L.a70;have z70:=L.z70;have v70:=L.v70;have u70:=run_underlying L.t70;have t37:=L.t37;have a37:=L.a37;have z37:=L.z37;have v37:=L.v37;have u37:=run_underlying L.t37;have t127:=L.t127;have a127:=L.a127;have z127:=L.z127;have v127:=L.v127;have u127:=run_underlying L.t127;have t3:=L.t3;have a3:=L.a3;have z3:=L.z3;have v3:=L.v3;have u3:=run_underlying L.t3;have t9:=L.t9;have a9:=L.a9;have z9:=L.z9;have v9:=L.v9;have u9:=run_underlying L.t9;have t5:=X.t5;have a5:=X.a5;have z5:=X.z5;have v5:=X.v5;have u5:=run_underlying X.t5
 go_enter L.f169,Body.n169_ntmps ρ
 go_wp2
 go_region_o
 all_goals (go_wp2;go_ret;exact⟨rfl,rfl⟩)
set_option maxHeartbeats 2000000 in
set_option maxRecDepth 100000 in
theorem xzT (L:Lays.n169 P ρ)(X:Builder.Extra P ρ)(b g cap:Nat)(hc0:cap≠0)(c0:w.cell? ⟨b,1,none⟩=some (.slice (some ⟨g,0,none⟩) 0 cap)):
 Calls P (ρ.f 169) #[.pointer (some ⟨b,0,none⟩)] w fun e w'=>e = .returned (.string ⟨#[]⟩)∧w'=w.drew:=by
 have hUS:=Any.unsafeString_none L X;have c1:w.drew.cell? ⟨b,1,none⟩=some (.slice (some ⟨g,0,none⟩) 0 cap):=c0;have hSD:(Builtin.unsafeSliceData_ #[(ρ.t 37)] (ρ.t 127) #[.slice (some ⟨g,0,none⟩) 0 cap]).run P w.drew = .ok (.pointer (some ⟨g,0,none⟩)) w.drew :=
  Lib.run_unsafeSliceData_row _ _ _ _ _ _ hc0
 clear hc0;have mixed:=L.mixed;have t72:=L.t72;have a72:=L.a72;have z72:=L.z72;have v72:=L.v72;have u72:=run_underlying L.t72;have t70:=L.t70;have a70:=L.a70;have z70:=L.z70;have v70:=L.v70;have u70:=run_underlying L.t70;have t37:=L.t37;have a37:=L.a37;have z37:=L.z37;have v37:=L.v37;have u37:=run_underlying L.t37;have t127:=L.t127;have a127:=L.a127;have z127:=L.z127;have v127:=L.v127;have u127:=run_underlying L.t127;have t3:=L.t3;have a3:=L.a3;have z3:=L.z3;have v3:=L.v3;have u3:=run_underlying L.t3;have t9:=L.t9;have a9:=L.a9;have z9:=L.z9;have v9:=L.v9;have u9:=run_underlying L.t9;have t5:=X.t5;have a5:=X.a5;have z5:=X.z5;have v5:=X.v5;have u5:=run_underlying X.t5
 go_enter L.f169,Body.n169_ntmps ρ
 go_wp2
 go_region_o
 all_goals (go_wp2;go_ret;exact⟨rfl,rfl⟩)
set_option maxHeartbeats 2000000 in
set_option maxRecDepth 100000 in
theorem xzU (L:Lays.n169 P ρ)(X:Builder.Extra P ρ)(b g cap:Nat)(l:List UInt8)(h0:l≠[])(hlc:l.length≤cap)(hm:l.length≤9223372036854775807)(c0:w.cell? ⟨b,1,none⟩=some (.slice (some ⟨g,0,none⟩) l.length cap))
 {cur:Array Value} {fz:Nat×Nat} (hg:w.heap[g]?=some (.cells cur (ρ.t 5) fz)) (hn:l.length≤cur.size) (hcell:∀j x,l[j]?=some x→w.cell? ((⟨g,0,none⟩:Addr).add j)=some (.int .u8 x.toNat)) :
 Calls P (ρ.f 169) #[.pointer (some ⟨b,0,none⟩)] w fun e w'=>e = .returned (.string ⟨l.toArray⟩)∧w'=w.drew.freeze ⟨g,0,none⟩ l.length:=by
 have hl0:l.length≠0:=by simpa using h0
 have c1:w.drew.cell? ⟨b,1,none⟩=some (.slice (some ⟨g,0,none⟩) l.length cap):=c0;have hSD:(Builtin.unsafeSliceData_ #[(ρ.t 37)] (ρ.t 127) #[.slice (some ⟨g,0,none⟩) l.length cap]).run P w.drew = .ok (.pointer (some ⟨g,0,none⟩)) w.drew :=
  Lib.run_unsafeSliceData_row _ _ _ _ _ _ (by omega)
 have hUS:(Builtin.unsafeString_ #[(ρ.t 127),(ρ.t 3)] (ρ.t 9) #[.pointer (some ⟨g,0,none⟩),.int .i64 l.length]).run P w.drew = .ok (.string ⟨l.toArray⟩) (w.drew.freeze ⟨g,0,none⟩ l.length) :=
  Lib.run_unsafeString_row w.drew (ρ.t 127) (ρ.t 3) (ρ.t 9) (ρ.t 5) L.t127 X.cellsByte g cur.size (by have hg':w.drew.heap[g]?=some (.cells cur (ρ.t 5) fz):=hg;simp[World.shape?,hg']) l h0 hn hm hcell
 have mixed:=L.mixed;have t72:=L.t72;have a72:=L.a72;have z72:=L.z72;have v72:=L.v72;have u72:=run_underlying L.t72;have t70:=L.t70;have a70:=L.a70;have z70:=L.z70;have v70:=L.v70;have u70:=run_underlying L.t70;have t37:=L.t37;have a37:=L.a37;have z37:=L.z37;have v37:=L.v37;have u37:=run_underlying L.t37;have t127:=L.t127;have a127:=L.a127;have z127:=L.z127;have v127:=L.v127;have u127:=run_underlying L.t127;have t3:=L.t3;have a3:=L.a3;have z3:=L.z3;have v3:=L.v3;have u3:=run_underlying L.t3;have t9:=L.t9;have a9:=L.a9;have z9:=L.z9;have v9:=L.v9;have u9:=run_underlying L.t9;have t5:=X.t5;have a5:=X.a5;have z5:=X.z5;have v5:=X.v5;have u5:=run_underlying X.t5
 go_enter L.f169,Body.n169_ntmps ρ
 go_wp2
 go_region_o
 all_goals (go_wp2;go_ret;exact⟨rfl,rfl⟩)
end
def strS (tb:Tab)(T tu ts:Nat)(f:List (tb.T tu)→tb.T ts):FSpec tb:=⟨[(8589934592,.own tu),(0,bldPat T)],[(0,.val ts)],fun x=>some (f x.1,())⟩
def IsStr (tb:Tab)(tu ts:Nat)(f:List (tb.T tu)→tb.T ts):Prop :=
 ∀xs,∃l:List UInt8,tb.enc ts (f xs)=[.str l]∧l.length=xs.length∧∀(i:Nat) x,xs[i]?=some x→∃b:UInt8,l[i]?=some b∧tb.enc tu x=[.int .u8 (b.toNat:Int)]
theorem Dzm {w:World}{k n:Nat}{cur:Array Value}{el:Nat}{fz:Nat×Nat}(hn:n≠0)(hk:w.heap[k]?=some (.cells cur el fz)):∃fz',(w.drew.freeze ⟨k,0,none⟩ n).heap[k]?=some (.cells cur el fz'):=by
 have:w.drew.heap[k]?=some (.cells cur el fz):=hk;simp only[World.freeze,if_neg hn,Array.getElem?_modify,this,if_true,Option.map_some];exact⟨_,rfl⟩
theorem iz6 {w:World}{k n b:Nat}(hn:n≠0)(hb:b≠k):(w.drew.freeze ⟨k,0,none⟩ n).heap[b]?=w.heap[b]?:=by
 have:¬k=b:=fun e=>hb e.symm
 simp only[World.freeze,if_neg hn,Array.getElem?_modify,this,if_false];rfl
theorem Ext.freeze {g:Gh}{w:World}{k n m:Nat}{cur:Array Value}{el:Nat}{fz:Nat×Nat}(hn:n≠0)(hk:w.heap[k]?=some (.cells cur el fz))(hg:g k = .ar m):
 Ext g w g (w.drew.freeze ⟨k,0,none⟩ n) (fun b=>b=k):=by
 obtain⟨fz',hnew⟩:=Dzm hn hk;have hcell:∀i,(w.drew.freeze ⟨k,0,none⟩ n).cell? ⟨k,i,none⟩=w.cell? ⟨k,i,none⟩:=fun i=>by simp[World.cell?,hnew,hk]
 have hw:(w.drew.freeze ⟨k,0,none⟩ n).os=w.os∧(w.drew.freeze ⟨k,0,none⟩ n).tape=w.tape∧(w.drew.freeze ⟨k,0,none⟩ n).output=w.output∧(w.drew.freeze ⟨k,0,none⟩ n).heap.size=w.heap.size:=by
  unfold World.freeze;rw[if_neg hn];exact⟨rfl,rfl,rfl,Array.size_modify ..⟩
 refine⟨hw.1,hw.2.1,hw.2.2.1,Nat.le_of_eq hw.2.2.2.symm,fun b _ hb=>⟨iz6 hn hb,rfl⟩,fun b _ hb=>⟨iz6 hn (fun e=>by subst e;rw[hg]at hb;cases hb),hb⟩,fun b n' _ hb=>⟨n',Nat.le_refl _,hb,fun i _=>?_⟩,?_⟩
 ·by_cases e:b=k
  ·subst e;exact hcell i
  ·exact bzo (iz6 hn e)
 ·exact Shp.one (fun b _ hb=>iz6 hn hb) (fun us T fz2 e=>by rw[hk]at e;injection e with e;injection e with e1 e2 _;exact⟨cur,fz',by rw[hnew,e2],by rw[e1]⟩)
theorem sl_short {g:Gh}{w:World}{e:Nat}{xs:List (tb.T e)}{v:Value}(h:RepD P tb g w (.sl e xs) v):xs.length≤az2:=by
 cases h with
 | slnil=>exact Nat.zero_le _
 | sle=>exact Nat.zero_le _
 | sl _ _ b off cap val h1 h2=>exact Nat.le_trans h1 h2
theorem sl_byte {g:Gh}{w:World}{e q n cap:Nat}{xs:List (tb.T e)}(h:RepD P tb g w (.sl e xs) (.slice (some ⟨q,0,none⟩) n cap))(h1:P.cellsOf e=1){j:Nat}{x:tb.T e}{c:CV tb.T}(hx:xs[j]?=some x)(hc:tb.enc e x=[c]):
 ∃u,w.cell? ⟨q,j,none⟩=some u∧RepD P tb g w c u:=by
 cases h with
 | sle=>simp at hx
 | sl _ _ _ _ _ val _ _ _ _ h5 h6 =>
  have g1:=h5 j x 0 c hx (by rw[hc];rfl);rw[h1]at g1;exact⟨_,by simpa using g1,h6 j x 0 c hx (by rw[hc];rfl)⟩
theorem BzK (L:Lays.n169 P ρ)(X:Builder.Extra P ρ){f:List (tb.T (ρ.t 5))→tb.T (ρ.t 9)}(hf:IsStr tb (ρ.t 5) (ρ.t 9) f)(h9:azK P (ρ.t 9)=false):bzB P tb (ρ.f 169) (strS tb (ρ.t 72) (ρ.t 5) (ρ.t 9) f):=by
 intro g w x vs bs y hy _ hat hh hnd;obtain⟨xs,x2⟩:=x;have hy:some ((f xs,()):tb.T (ρ.t 9)×Unit)=some y:=hy;injection hy with hy;subst hy;cases vs with
 | nil=>exact hh.elim
 | cons vb vs =>
 cases bs with
 | nil=>exact hh.elim
 | cons b0 bs =>
 obtain⟨⟨hrb,hown⟩,hh⟩:=hh;cases vs with
 | nil=>exact hh.elim
 | cons v vs =>
 cases vs with
 | cons _ _=>cases bs<;>exact hh.elim
 | nil =>
 cases bs with
 | nil=>exact hh.elim
 | cons b bs =>
 cases bs with
 | cons _ _=>exact hh.elim
 | nil =>
 obtain⟨k,rfl,rfl,hk,hg,hbox⟩:=hh;obtain⟨us,el,fz,h1,h2,h3,h4,h5⟩:=hbox;obtain⟨hat1,_,_⟩:=hat
 have hr:azB (strS tb (ρ.t 72) (ρ.t 5) (ρ.t 9) f).ins [vb,Value.pointer (some ⟨k,0,none⟩)]=[.pointer (some ⟨k,0,none⟩)]:=rfl;have hvb:us[1]?=some vb:=by
  rw[hr]at hat1;unfold vval at hat1;rw[if_neg (show ¬(8589934592:Nat)<4294967296 by decide)]at hat1;simpa[h1]using hat1
 have c1:w.cell? ⟨k,1,none⟩=some vb:=by simp[World.cell?,h1,hvb]
 have hent:∀args w,(callFunc (ρ.f 169) args).run P w = .ok (.enter (ρ.f 169) args) w:=Go.Proofs.enters_of L.f169 (by kernel_rfl) rfl;refine .inl ⟨hent _ _,?_⟩
 show Calls P (ρ.f 169) #[.pointer (some ⟨k,0,none⟩)] w _
 obtain⟨l,l1,l2,l3⟩:=hf xs;have hll:l.length≤az2:=by rw[l2];exact sl_short hrb
 have fin:∀w',Ext g w g w' (fun b=>b∈b0.toList)∨(∃g',Ext g w g' w' (fun b=>b∈b0.toList)∧g' k = .var)→w'.heap[k]?=w.heap[k]?→∃v us cs g',(Ending.returned (.string ⟨l.toArray⟩)) = .returned v∧RetV (azF (strS tb (ρ.t 72) (ρ.t 5) (ρ.t 9) f).outs) (azB (strS tb (ρ.t 72) (ρ.t 5) (ρ.t 9) f).outs us) v ∧
  At w' (czL (azB (strS tb (ρ.t 72) (ρ.t 5) (ρ.t 9) f).outs us) (azB (strS tb (ρ.t 72) (ρ.t 5) (ρ.t 9) f).ins [vb,Value.pointer (some ⟨k,0,none⟩)])) (strS tb (ρ.t 72) (ρ.t 5) (ρ.t 9) f).outs us ∧
  Left P tb g w (strS tb (ρ.t 72) (ρ.t 5) (ρ.t 9) f).ins (strS tb (ρ.t 72) (ρ.t 5) (ρ.t 9) f).outs [vb,Value.pointer (some ⟨k,0,none⟩)] [b0,some k] (f xs,()) us cs g' w':=fun w' he hb=>by
  obtain⟨g',he,hg'⟩:∃g',Ext g w g' w' (fun b=>b∈b0.toList)∧g' k = .var:=by
   rcases he with he|he
   ·exact⟨g,he,hg⟩
   ·exact he
  have hfx:azS P tb g' w' (ρ.t 9) (f xs) (.string ⟨l.toArray⟩):=by
   unfold azS;simp only[h9,Bool.false_eq_true,if_false];exact⟨_,l1,.str l hll⟩
  refine⟨.string ⟨l.toArray⟩,[.string ⟨l.toArray⟩],[none],g',rfl,rfl,⟨rfl,trivial⟩,he.mono fun b _ e=>?_,⟨hfx,rfl⟩,⟨k,rfl,rfl,Nat.lt_of_lt_of_le hk he.size,hg',us,el,fz,hb.trans h1,h2,h3,h4,h5⟩,List.nodup_nil,by simp[azk]⟩
  show b∈b0.toList++([k]++[])
  exact List.mem_append_left _ e
 have hdrew:∀{e w'},l=[]→(e=Ending.returned (.string ⟨#[]⟩)∧w'=w.drew)→∃v us cs g',e = .returned v∧RetV (azF (strS tb (ρ.t 72) (ρ.t 5) (ρ.t 9) f).outs) (azB (strS tb (ρ.t 72) (ρ.t 5) (ρ.t 9) f).outs us) v ∧
  At w' (czL (azB (strS tb (ρ.t 72) (ρ.t 5) (ρ.t 9) f).outs us) (azB (strS tb (ρ.t 72) (ρ.t 5) (ρ.t 9) f).ins [vb,Value.pointer (some ⟨k,0,none⟩)])) (strS tb (ρ.t 72) (ρ.t 5) (ρ.t 9) f).outs us ∧
  Left P tb g w (strS tb (ρ.t 72) (ρ.t 5) (ρ.t 9) f).ins (strS tb (ρ.t 72) (ρ.t 5) (ρ.t 9) f).outs [vb,Value.pointer (some ⟨k,0,none⟩)] [b0,some k] (f xs,()) us cs g' w':=by
  rintro e w' hl ⟨rfl,rfl⟩;have:=fin w.drew (.inl ⟨rfl,rfl,rfl,Nat.le_refl _,fun _ _ _=>⟨rfl,rfl⟩,fun _ _ h=>⟨rfl,h⟩,fun _ n _ h=>⟨n,Nat.le_refl _,h,fun _ _=>rfl⟩,Shp.old fun _ _=>rfl⟩) rfl;rwa[hl]at this
 rcases hown with⟨rfl,rfl,hl0⟩|⟨q,off,cap,cells,el2,fz2,rfl,rfl,hgq,hq,hcs,hlc,hfr,rfl,rfl⟩
 ·have hl:l=[]:=List.length_eq_zero_iff.1 (by rw[l2];exact hl0);exact(zzL L X k c1).mono fun e w' h=>hdrew hl h
 ·by_cases hl:l=[]
  ·have hx0:xs.length=0:=by rw[←l2,hl];rfl
   rw[hx0]at c1;by_cases hc0:cap=0
   ·subst hc0;refine(uzn L X k q hk c1 hq).mono ?_;rintro e w' ⟨rfl,rfl⟩;have hext:=Ext.push g w (.view ⟨q,0,none⟩ (ρ.t 5)) .con (fun b=>b∈(some q).toList);have:=fin (w.alloc (.view ⟨q,0,none⟩ (ρ.t 5))).drew (.inr ⟨_,⟨hext.os,hext.tape,hext.output,hext.size,hext.keep,hext.con,hext.ar,hext.shp⟩,by rw[azu g _ (by omega)];exact hg⟩) (Lib.alloc_old w _ k hk);rwa[hl]at this
   ·exact(xzT L X k q cap hc0 c1).mono fun e w' h=>hdrew hl h
  ·have hcell:∀j x,l[j]?=some x→w.cell? ((⟨q,0,none⟩:Addr).add j)=some (.int .u8 x.toNat):=fun j x hj=>by
    have hjl:j<xs.length:=by rw[←l2];exact(List.getElem?_eq_some_iff.1 hj).1
    obtain⟨b,hb,henc⟩:=l3 j _ (List.getElem?_eq_getElem hjl);rw[hj]at hb;injection hb with hb;subst hb;obtain⟨u,g1,g2⟩:=sl_byte hrb X.cellsByte (List.getElem?_eq_getElem hjl) henc;cases g2;rw[czP,←g1,Nat.zero_add]
   have hlen:l.length≤cells.size:=by
    have:xs.length*1≤cap*1:=by omega
    rw[X.cellsByte]at hcs;omega
   rw[←l2]at c1;refine(xzU L X k q cap l hl (by rw[l2];exact hlc) hll c1 hq hlen hcell).mono ?_;rintro e w' ⟨rfl,rfl⟩;have hne:k≠q:=fun e=>by subst e;rw[hg]at hgq;cases hgq
   have hn0:l.length≠0:=by simpa using hl
   exact fin _ (.inl ((Ext.freeze hn0 hq hgq).mono fun b _ e=>by simp[e])) (iz6 hn0 hne)
end Go.Ev
/- W2 -/
namespace Go.Proofs.YtdgpkbnnljblmaaGreatDoor
open Go Go.Ev Go.Proofs
theorem bldX:Builder.Extra Tryz.prog Tryz.lays105_ren where
 sizeBuilder:=by kernel_rfl
 liesBuilder:=by kernel_rfl
 t5:=Tryz.underlying5
 a5:=Tryz.isAgg5
 z5:=Tryz.sizeOf5
 v5:=Tryz.zeroValue5
 infoByte:=by kernel_rfl
 cellsByte:=by kernel_rfl
 sizeByte:=by kernel_rfl
 neB5:=by decide
def fzA (x:List UInt8×Unit):Option (List UInt8×Unit):=some (x.1,())
def xzV:FSpec tb:=⟨[(8589934592,.own 5),(0,.box 229638146)],[(8589967360,.own 5)],fzA⟩
theorem jzP:bzB Tryz.prog tb 218 xzV:=vz5 (ρ:=Tryz.lays105_ren) (tu:=5) {Tryz.lays105 with} bldX.toX72
def gzI (x:List UInt8×Unit):Option (List UInt8×Unit):=some (x.1,())
def kzy:FSpec tb:=⟨[(8589934592,.own 5),(0,.box 229638146)],[(0,.val 9)],gzI⟩
theorem bldStr:IsStr tb 5 9 (fun(xs:List UInt8)=>(xs:List UInt8)):=fun(xs:List UInt8)=>⟨xs,lzX xs,rfl,fun _ x h=>⟨x,h,enc5_eq x⟩⟩
theorem izs:bzB Tryz.prog tb 144 kzy :=
 BzK (tb:=tb) (ρ:=Tryz.lays105_ren) (f:=fun(xs:List UInt8)=>(xs:List UInt8)) {Tryz.lays105 with} bldX bldStr lz0
end Go.Proofs.YtdgpkbnnljblmaaGreatDoor
/- B1 -/
namespace Go.Proofs.YtdgpkbnnljblmaaGreatDoor
open Go Go.Ev
set_option linter.unusedVariables false
def czl (x:List (UInt8)×Unit×List UInt8):Option ((List (UInt8)×Int×Unit)×Unit) :=
 obnd (fzA (x.fst,())) fun y=>obnd (app 1 y.1 x.2.snd) fun zs=>some ((zs,(↑x.2.snd.length:Int),()),())
def fz3:FSpec tb:=⟨[(8589934592,.own 5),(0,.box 229638146),(1,.val 9)],[(8589967360,.own 5),(0,.val 3),(1,.val 222)],czl⟩
theorem izc:azd Tryz.prog tb 143 fz3:=azo mixed Tryz.func143 (by kernel_rfl) (.consK jzP .nil) rfl (fun x=>by kernel_rfl)
def dzx (x:Int×Bool):Option (Bool) :=
 brn x.snd (some x.2) (brn (decide (57343<x.fst)) (some (decide (x.fst≤65535))) (some false))
def fz8:CutSpec tb:=⟨58,[(5,.val 340),(25,.val 4)],[(.normal,[(25,.val 4)])],[28,29,30,31,32,33,25],dzx⟩
theorem jzN:azi ([]:List (CutSpec tb)) (azD 58 Tryz.f270)=[]:=by kernel_rfl
theorem jzF:azm Tryz.prog tb Tryz.f270.ntmps (azD 58 Tryz.f270) fz8:=czF mixed (by kernel_rfl) .nil rfl jzN .nil (fun x=>by kernel_rfl)
def ezt (x:List (UInt8)×Int):Option (List (UInt8)) :=
 brn (decide (IntKind.u32.wrap x.snd≤2047))
  (obnd
   (app 1 x.fst
    [UInt8.ofNat (azp BinOp.or IntKind.u8 192 (IntKind.u8.wrap (x.snd.fdiv 64))).toNat,
     UInt8.ofNat (azp BinOp.or IntKind.u8 128 (azp BinOp.and IntKind.u8 (IntKind.u8.wrap x.snd) 63)).toNat])
   fun zs=>some zs)
  (obnd (dzx (IntKind.u32.wrap x.snd,decide (IntKind.u32.wrap x.snd<55296))) fun y =>
   brn y
    (obnd
     (app 1 x.fst
      [UInt8.ofNat (azp BinOp.or IntKind.u8 224 (IntKind.u8.wrap (x.snd.fdiv 4096))).toNat,
       UInt8.ofNat (azp BinOp.or IntKind.u8 128 (azp BinOp.and IntKind.u8 (IntKind.u8.wrap (x.snd.fdiv 64)) 63)).toNat,
       UInt8.ofNat (azp BinOp.or IntKind.u8 128 (azp BinOp.and IntKind.u8 (IntKind.u8.wrap x.snd) 63)).toNat])
     fun zs=>some zs)
    (brn (decide (65535<IntKind.u32.wrap x.snd))
     (brn (decide (IntKind.u32.wrap x.snd≤1114111))
      (obnd
       (app 1 x.fst
        [UInt8.ofNat (azp BinOp.or IntKind.u8 240 (IntKind.u8.wrap (x.snd.fdiv 262144))).toNat,
         UInt8.ofNat (azp BinOp.or IntKind.u8 128 (azp BinOp.and IntKind.u8 (IntKind.u8.wrap (x.snd.fdiv 4096)) 63)).toNat,
         UInt8.ofNat (azp BinOp.or IntKind.u8 128 (azp BinOp.and IntKind.u8 (IntKind.u8.wrap (x.snd.fdiv 64)) 63)).toNat,
         UInt8.ofNat (azp BinOp.or IntKind.u8 128 (azp BinOp.and IntKind.u8 (IntKind.u8.wrap x.snd) 63)).toNat])
       fun zs=>some zs)
      (obnd (app 1 x.fst [UInt8.ofNat 239,UInt8.ofNat 191,UInt8.ofNat 189]) fun zs=>some zs))
     (obnd (app 1 x.fst [UInt8.ofNat 239,UInt8.ofNat 191,UInt8.ofNat 189]) fun zs=>some zs)))
def mzT:FSpec tb:=⟨[(0,.own 5),(1,.val 21)],[(0,.own 5)],ezt⟩
theorem lzv:azi ([fz8]:List (CutSpec tb)) (azA Tryz.f270)=[(58,azD 58 Tryz.f270)]:=by kernel_rfl
theorem jzO:azd Tryz.prog tb 270 mzT:=azL mixed Tryz.func270 (by kernel_rfl) .nil rfl lzv (.cons rfl jzF rfl .nil) (fun x=>by kernel_rfl)
def gzr (x:List (UInt8)×Int):Option (List (UInt8)) :=
 brn (decide (IntKind.u32.wrap x.snd≤127)) (obnd (app 1 x.fst [UInt8.ofNat (IntKind.u8.wrap x.snd).toNat]) fun zs=>some zs) (obnd (ezt x) fun y=>some y)
def vzS:FSpec tb:=⟨[(0,.own 5),(1,.val 21)],[(0,.own 5)],gzr⟩
theorem pzj:azd Tryz.prog tb 252 vzS:=azo mixed Tryz.func252 (by kernel_rfl) (.cons jzO .nil) rfl (fun x=>by kernel_rfl)
def azw (x:List (UInt8)×Unit×Int):Option ((List (UInt8)×Int×Unit)×Unit) :=
 obnd (fzA (x.fst,())) fun y =>
  obnd (gzr (y.1,x.2.snd)) fun y_1=>some ((y_1,IntKind.i64.wrap ((↑(List.length y_1):Int)-(↑(List.length y.1):Int)),()),())
def dzM:FSpec tb:=⟨[(8589934592,.own 5),(0,.box 229638146),(1,.val 21)],[(8589967360,.own 5),(0,.val 3),(1,.val 222)],azw⟩
theorem ezy:azd Tryz.prog tb 220 dzM:=azo mixed Tryz.func220 (by kernel_rfl) (.consK jzP (.cons pzj .nil)) rfl (fun x=>by kernel_rfl)
set_option linter.unusedVariables false
def gz6 (x:Unit):Option (List (Function)) :=
 some
  [{name:=[83,85,77],lo:=0,hi:=9223372036854775807},{name:=[77,73,78],lo:=0,hi:=9223372036854775807},
   {name:=[77,65,88],lo:=0,hi:=9223372036854775807},{name:=U8s [67,79,85,78,84],lo:=0,hi:=9223372036854775807},
   {name:=U8s [65,86,69,82,65,71,69],lo:=0,hi:=9223372036854775807},{name:=[65,66,83],lo:=1,hi:=1},{name:=[83,73,71,78],lo:=1,hi:=1},
   {name:=[73,78,84],lo:=1,hi:=1},{name:=[77,79,68],lo:=2,hi:=2},{name:=U8s [82,79,85,78,68],lo:=2,hi:=2},
   {name:=[73,70],lo:=2,hi:=3},{name:=[65,78,68],lo:=0,hi:=9223372036854775807},{name:=[79,82],lo:=0,hi:=9223372036854775807},
   {name:=[78,79,84],lo:=1,hi:=1},{name:=[76,69,78],lo:=1,hi:=1},{name:=[76,69,70,84],lo:=1,hi:=2},
   {name:=U8s [82,73,71,72,84],lo:=1,hi:=2},{name:=[77,73,68],lo:=3,hi:=3},
   {name:=U8s [67,79,78,67,65,84],lo:=0,hi:=9223372036854775807},{name:=U8s [85,80,80,69,82],lo:=1,hi:=1},
   {name:=U8s [76,79,87,69,82],lo:=1,hi:=1},{name:=U8s [73,83,66,76,65,78,75],lo:=1,hi:=1},
   {name:=U8s [73,83,69,82,82,79,82],lo:=1,hi:=1},{name:=U8s [73,70,69,82,82,79,82],lo:=2,hi:=2},
   {name:=U8s [73,78,68,69,88],lo:=2,hi:=2},{name:=U8s [67,72,79,79,83,69],lo:=2,hi:=9223372036854775807},
   {name:=U8s [69,88,65,67,84],lo:=2,hi:=2},{name:=[82,69,80,84],lo:=2,hi:=2},{name:=[78,65],lo:=0,hi:=0},
   {name:=[84,89,80,69],lo:=1,hi:=1}]
def AzT:FSpec tb:=⟨[],[(0,.own 130)],gz6⟩
theorem qzt:azd Tryz.prog tb 59 AzT:=azo mixed Tryz.func59 (by kernel_rfl) .nil rfl (fun x=>by kernel_rfl)
def nzg (x:Int):Option (List UInt8×Bool) :=
 obnd (gz6 ()) fun y=>brn (decide (x<0)) (some ([],false)) (brn (decide ((↑(List.length y):Int)≤x)) (some ([],false)) (obnd (idx y x) fun y=>some (y.name,true)))
def fun_NameS:FSpec tb:=⟨[(0,.val 3)],[(0,.val 9),(1,.val 4)],nzg⟩
theorem yzh:azd Tryz.prog tb 23 fun_NameS:=azo mixed Tryz.func23 (by kernel_rfl) (.cons qzt .nil) rfl (fun x=>by kernel_rfl)
def czr (x:Val):Option (Arg) :=
 some {Area:=false,L:=[x]}
def uzQ:FSpec tb:=⟨[(0,.val 32)],[(0,.val 48)],czr⟩
theorem qzs:azd Tryz.prog tb 25 uzQ:=azo mixed Tryz.func25 (by kernel_rfl) .nil rfl (fun x=>by kernel_rfl)
def kzJ (x:Arg):Option (Bool) :=
 brn (!x.Area) (some (bif decide ((↑x.L.length:Int)=1)then false else true)) (some false)
def tzV:FSpec tb:=⟨[(0,.val 48)],[(0,.val 4)],kzJ⟩
theorem uzU:azd Tryz.prog tb 138 tzV:=azo mixed Tryz.func138 (by kernel_rfl) .nil rfl (fun x=>by kernel_rfl)
abbrev fzl:List (Nat×FSpec tb):=[(138,tzV)]
theorem czh:azv Tryz.prog tb fzl:=(.cons uzU .nil)
def azQ (back:List Arg×Unit×Int×Int→Option ((Unit)⊕(Int)))(x:List Arg×Unit×Int×Int):Option ((Unit)⊕(Int)) :=
 brn (decide (x.2.2.snd<x.2.2.fst))
  (obnd (idx x.fst x.2.2.snd) fun y=>obnd (kzJ y) fun y=>brn y (some (Sum.inr x.2.2.2)) (back (x.fst,(),x.2.2.fst,IntKind.i64.wrap (x.2.2.snd+1))))
  (some (Sum.inl PUnit.unit))
def bzv:List Arg×Unit×Int×Int→Option ((Unit)⊕(Int)):=iter azQ big
def czi:CutSpec tb:=⟨28,[(0,.val 34),(1,.fnp 138 0),(7,.val 3),(8,.val 3)],[((.exit 0),[]),(.ret,[(4,.val 3)])],[9,10,5,11,12,13,14,15,16,17,4,18,8],bzv⟩
theorem ezc:azi ([]:List (CutSpec tb)) (azf 28 Tryz.f216)=[]:=by kernel_rfl
theorem dzV:azm Tryz.prog tb Tryz.f216.ntmps (.loop (azf 28 Tryz.f216)) czi:=azz mixed (by kernel_rfl) czh rfl ezc .nil azQ (fun back x=>by kernel_rfl) rfl
def bzF (x:List Arg×Unit):Option (Int) :=
 obnd (bzv (x.fst,(),(↑x.fst.length:Int),0)) fun y=>osum y (fun y=>some (-1)) fun y=>some y
def fzm:FSpec tb:=⟨[(0,.val 34),(1,.fnp 138 0)],[(0,.val 3)],bzF⟩
theorem ezD:azi ([czi]:List (CutSpec tb)) (azA Tryz.f216)=[(28,.loop (azf 28 Tryz.f216))]:=by kernel_rfl
theorem ezd:azd Tryz.prog tb 216 fzm:=azL mixed Tryz.func216 (by kernel_rfl) czh rfl ezD (.cons rfl dzV rfl .nil) (fun x=>by kernel_rfl)
def az7 (x:List Arg×Unit):Option (Bool) :=
 obnd (bzF (x.fst,())) fun y=>some (decide (0≤y))
def czg:FSpec tb:=⟨[(0,.val 34),(1,.fnp 138 0)],[(0,.val 4)],az7⟩
theorem dzJ:azd Tryz.prog tb 137 czg:=azo mixed Tryz.func137 (by kernel_rfl) (.cons ezd .nil) rfl (fun x=>by kernel_rfl)
abbrev AzV:List (Nat×FSpec tb):=[(85,izd)]
theorem iz9:azv Tryz.prog tb AzV:=(.cons czf .nil)
def ezX (back:Int×Arg×List Val×Int×Int→Option (Int))(x:Int×Arg×List Val×Int×Int):Option (Int) :=
 brn (decide (x.2.2.2.snd<x.2.2.2.fst))
  (obnd (idx x.2.2.fst x.2.2.2.snd) fun y =>
   obnd (az4 y) fun y_1 =>
    brn y_1.2.snd
     (brn (!x.2.fst.Area) (back (IntKind.i64.wrap (x.fst+1),x.2.fst,x.2.2.fst,x.2.2.2.fst,IntKind.i64.wrap (x.2.2.2.snd+1)))
      (brn (decide (y.Kind=1)) (back (IntKind.i64.wrap (x.fst+1),x.2.fst,x.2.2.fst,x.2.2.2.fst,IntKind.i64.wrap (x.2.2.2.snd+1)))
       (back (x.fst,x.2.fst,x.2.2.fst,x.2.2.2.fst,IntKind.i64.wrap (x.2.2.2.snd+1)))))
     (back (x.fst,x.2.fst,x.2.2.fst,x.2.2.2.fst,IntKind.i64.wrap (x.2.2.2.snd+1))))
  (some x.1)
def jzb:Int×Arg×List Val×Int×Int→Option (Int):=iter ezX big
def nzi:CutSpec tb:=⟨60,[(3,.val 3),(5,.ro 48),(18,.val 46),(19,.val 3),(20,.val 3)],[((.exit 2),[(3,.val 3)])],[21,22,23,7,25,26,24,27,28,29,8,9,10,30,31,32,33,34,35,36,37,38,39,40,41,42,3,43,20],jzb⟩
theorem szW:azi ([]:List (CutSpec tb)) (azf 60 Tryz.f139)=[]:=by kernel_rfl
theorem rzt:azm Tryz.prog tb Tryz.f139.ntmps (.loop (azf 60 Tryz.f139)) nzi:=azz mixed (by kernel_rfl) iz9 rfl szW .nil ezX (fun back x=>by kernel_rfl) rfl
def ezW (back:Int×List Arg×Int×Int→Option (Int))(x:Int×List Arg×Int×Int):Option (Int) :=
 brn (decide (x.2.2.snd<x.2.2.fst))
  (obnd (idx x.2.fst x.2.2.snd) fun y=>obnd (jzb (x.fst,y,y.L,(↑y.L.length:Int),0)) fun y=>back (y,x.2.fst,x.2.2.fst,IntKind.i64.wrap (x.2.2.snd+1)))
  (some x.1)
def jza:Int×List Arg×Int×Int→Option (Int):=iter ezW big
def nzh:CutSpec tb:=⟨36,[(3,.val 3),(11,.val 34),(12,.val 3),(13,.val 3)],[((.exit 0),[(3,.val 3)])],[14,15,16,5,17,18,19,20,21,22,23,7,25,26,24,27,28,29,8,9,10,30,31,32,33,34,35,36,37,38,39,40,41,42,3,43,44,13],jza⟩
theorem szV:azi ([nzi]:List (CutSpec tb)) (azf 36 Tryz.f139)=[(60,.loop (azf 60 Tryz.f139))]:=by kernel_rfl
theorem rzs:azm Tryz.prog tb Tryz.f139.ntmps (.loop (azf 36 Tryz.f139)) nzh:=azz mixed (by kernel_rfl) iz9 rfl szV (.cons rfl rzt rfl .nil) ezW (fun back x=>by kernel_rfl) rfl
def iz8 (x:List Arg):Option (Int) :=
 obnd (jza (0,x,(↑x.length:Int),0)) fun y=>some y
def rzr:FSpec tb:=⟨[(0,.val 34)],[(0,.val 3)],iz8⟩
theorem yzi:azi ([nzh]:List (CutSpec tb)) (azA Tryz.f139)=[(36,.loop (azf 36 Tryz.f139))]:=by kernel_rfl
theorem szX:azd Tryz.prog tb 139 rzr:=azL mixed Tryz.func139 (by kernel_rfl) iz9 rfl yzi (.cons rfl rzs rfl .nil) (fun x=>by kernel_rfl)
def az3 (x:Dec×Int):Option (Val) :=
 brn (decide (x.snd=0)) (some {Kind:=1,N:=x.fst,S:=[],B:=false,E:=0})
  (brn (decide (x.snd=9)) (obnd (azn 7) fun y=>some y) (obnd (azn 36) fun y=>some y))
def mzi:FSpec tb:=⟨[(0,.val 30),(1,.val 63)],[(0,.val 32)],az3⟩
theorem dzG:azd Tryz.prog tb 86 mzi:=azo mixed Tryz.func86 (by kernel_rfl) (.cons azJ .nil) rfl (fun x=>by kernel_rfl)
def bzs (x:Int):Option (Val) :=
 obnd (bzr x) fun y=>obnd (az3 (y,0)) fun y=>some y
def gz7:FSpec tb:=⟨[(0,.val 3)],[(0,.val 32)],bzs⟩
theorem fzs:azd Tryz.prog tb 64 gz7:=azo mixed Tryz.func64 (by kernel_rfl) (.cons cz4 (.cons dzG .nil)) rfl (fun x=>by kernel_rfl)
abbrev Czv:List (Nat×FSpec tb):=[(65,qzb)]
theorem jz5:azv Tryz.prog tb Czv:=(.cons jzJ .nil)
def fzI (back:Val×List (Bool)×Arg×List Val×Int×Int→Option (((List (Bool))×Val)⊕((List (Bool)×Bool)×Val)))(x:Val×List (Bool)×Arg×List Val×Int×Int):Option (((List (Bool))×Val)⊕((List (Bool)×Bool)×Val)) :=
 brn (decide (x.2.2.2.2.snd<x.2.2.2.2.fst))
  (obnd (idx x.2.2.2.fst x.2.2.2.2.snd) fun y =>
   brn x.2.2.fst.Area
    (brn (!decide (y.Kind=1))
     (brn (!decide (y.Kind=3))
      (brn (!decide (y.Kind=4)) (back (x.fst,x.2.fst,x.2.2.fst,x.2.2.2.fst,x.2.2.2.2.fst,IntKind.i64.wrap (x.2.2.2.2.snd+1)))
       (obnd (bzV y) fun y =>
        brn (!y.2.snd) (some (Sum.inr (([],false),y.2.fst)))
         (obnd (app 1 x.2.fst [y.fst]) fun zs=>back (x.fst,zs,x.2.2.fst,x.2.2.2.fst,x.2.2.2.2.fst,IntKind.i64.wrap (x.2.2.2.2.snd+1)))))
      (obnd (bzV y) fun y =>
       brn (!y.2.snd) (some (Sum.inr (([],false),y.2.fst)))
        (obnd (app 1 x.2.fst [y.fst]) fun zs=>back (x.fst,zs,x.2.2.fst,x.2.2.2.fst,x.2.2.2.2.fst,IntKind.i64.wrap (x.2.2.2.2.snd+1)))))
     (obnd (bzV y) fun y =>
      brn (!y.2.snd) (some (Sum.inr (([],false),y.2.fst)))
       (obnd (app 1 x.2.fst [y.fst]) fun zs=>back (x.fst,zs,x.2.2.fst,x.2.2.2.fst,x.2.2.2.2.fst,IntKind.i64.wrap (x.2.2.2.2.snd+1)))))
    (obnd (bzV y) fun y =>
     brn (!y.2.snd) (some (Sum.inr (([],false),y.2.fst)))
      (obnd (app 1 x.2.fst [y.fst]) fun zs=>back (x.fst,zs,x.2.2.fst,x.2.2.2.fst,x.2.2.2.2.fst,IntKind.i64.wrap (x.2.2.2.2.snd+1)))))
  (some (Sum.inl (x.2.fst,x.fst)))
def jz6:Val×List (Bool)×Arg×List Val×Int×Int→Option (((List (Bool))×Val)⊕((List (Bool)×Bool)×Val)):=iter fzI big
def ozK:CutSpec tb:=⟨60,[(3,.ref 32),(5,.own 4),(7,.ro 48),(20,.val 46),(21,.val 3),(22,.val 3)],[((.exit 2),[(5,.own 4)]),(.ret,[(2,.own 4),(4,.val 4)])],[23,24,25,9,26,27,28,29,30,31,32,33,34,35,36,37,38,39,40,41,42,44,45,43,46,47,48,11,10,12,49,50,51,2,4,52,53,54,55,5,56,22],jz6⟩
theorem uz0:azi ([]:List (CutSpec tb)) (azf 60 Tryz.f140)=[]:=by kernel_rfl
theorem sz4:azm Tryz.prog tb Tryz.f140.ntmps (.loop (azf 60 Tryz.f140)) ozK:=azz mixed (by kernel_rfl) jz5 rfl uz0 .nil fzI (fun back x=>by kernel_rfl) rfl
def fzH (back:Val×List (Bool)×List Arg×Int×Int→Option (((List (Bool))×Val)⊕((List (Bool)×Bool)×Val)))(x:Val×List (Bool)×List Arg×Int×Int):Option (((List (Bool))×Val)⊕((List (Bool)×Bool)×Val)) :=
 brn (decide (x.2.2.2.snd<x.2.2.2.fst))
  (obnd (idx x.2.2.fst x.2.2.2.snd) fun y =>
   obnd (jz6 (x.fst,x.2.fst,y,y.L,(↑y.L.length:Int),0)) fun y =>
    osum y (fun y=>back (y.2,y.1,x.2.2.fst,x.2.2.2.fst,IntKind.i64.wrap (x.2.2.2.snd+1))) fun y=>some (Sum.inr (y.1,y.2)))
  (some (Sum.inl (x.2.fst,x.fst)))
def hzI:Val×List (Bool)×List Arg×Int×Int→Option (((List (Bool))×Val)⊕((List (Bool)×Bool)×Val)):=iter fzH big
def ozJ:CutSpec tb:=⟨36,[(3,.ref 32),(5,.own 4),(13,.val 34),(14,.val 3),(15,.val 3)],[((.exit 0),[(5,.own 4)]),(.ret,[(2,.own 4),(4,.val 4)])],[16,17,18,7,19,20,21,22,23,24,25,9,26,27,28,29,30,31,32,33,34,35,36,37,38,39,40,41,42,44,45,43,46,47,48,11,10,12,49,50,51,2,4,52,53,54,55,5,56,57,15],hzI⟩
theorem uzZ:azi ([ozK]:List (CutSpec tb)) (azf 36 Tryz.f140)=[(60,.loop (azf 60 Tryz.f140))]:=by kernel_rfl
theorem sz3:azm Tryz.prog tb Tryz.f140.ntmps (.loop (azf 36 Tryz.f140)) ozJ:=azz mixed (by kernel_rfl) jz5 rfl uzZ (.cons rfl sz4 rfl .nil) fzH (fun back x=>by kernel_rfl) rfl
def gzL (x:List Arg):Option (List (Bool)×Val×Bool) :=
 obnd (hzI ({Kind:=0,N:={M:=0,S:=0},S:=[],B:=false,E:=0},[],x,(↑x.length:Int),0)) fun y =>
  osum y (fun y=>some (y.1,{Kind:=0,N:={M:=0,S:=0},S:=[],B:=false,E:=0},decide (0<(↑(List.length y.1):Int)))) fun y=>some (y.1.fst,y.2,y.1.snd)
def tzX:FSpec tb:=⟨[(0,.val 34)],[(0,.own 4),(1,.val 32),(2,.val 4)],gzL⟩
theorem zzW:azi ([ozJ]:List (CutSpec tb)) (azA Tryz.f140)=[(36,.loop (azf 36 Tryz.f140))]:=by kernel_rfl
theorem uz1:azd Tryz.prog tb 140 tzX:=azL mixed Tryz.func140 (by kernel_rfl) jz5 rfl zzW (.cons rfl sz3 rfl .nil) (fun x=>by kernel_rfl)
def bzY (back:List Bool×Bool×Int×Int→Option ((Unit)⊕(Int)))(x:List Bool×Bool×Int×Int):Option ((Unit)⊕(Int)) :=
 brn (decide (x.2.2.snd<x.2.2.fst))
  (obnd (idx x.fst x.2.2.snd) fun y=>brn (decide (x.2.fst=y)) (some (Sum.inr x.2.2.2)) (back (x.fst,x.2.fst,x.2.2.fst,IntKind.i64.wrap (x.2.2.snd+1))))
  (some (Sum.inl PUnit.unit))
def dzL:List Bool×Bool×Int×Int→Option ((Unit)⊕(Int)):=iter bzY big
def gzF:CutSpec tb:=⟨28,[(0,.val 147),(1,.val 4),(7,.val 3),(8,.val 3)],[((.exit 0),[]),(.ret,[(4,.val 3)])],[9,10,5,11,12,13,14,15,16,17,4,18,8],dzL⟩
theorem kzr:azi ([]:List (CutSpec tb)) (azf 28 Tryz.f217)=[]:=by kernel_rfl
theorem jzM:azm Tryz.prog tb Tryz.f217.ntmps (.loop (azf 28 Tryz.f217)) gzF:=azz mixed (by kernel_rfl) .nil rfl kzr .nil bzY (fun back x=>by kernel_rfl) rfl
def ezG (x:List Bool×Bool):Option (Int) :=
 obnd (dzL (x.fst,x.snd,(↑x.fst.length:Int),0)) fun y=>osum y (fun y=>some (-1)) fun y=>some y
def mz5:FSpec tb:=⟨[(0,.val 147),(1,.val 4)],[(0,.val 3)],ezG⟩
theorem lzU:azi ([gzF]:List (CutSpec tb)) (azA Tryz.f217)=[(28,.loop (azf 28 Tryz.f217))]:=by kernel_rfl
theorem kzs:azd Tryz.prog tb 217 mz5:=azL mixed Tryz.func217 (by kernel_rfl) .nil rfl lzU (.cons rfl jzM rfl .nil) (fun x=>by kernel_rfl)
def azY (x:List Bool×Bool):Option (Bool) :=
 obnd (ezG x) fun y=>some (decide (0≤y))
def gzE:FSpec tb:=⟨[(0,.val 147),(1,.val 4)],[(0,.val 4)],azY⟩
theorem izS:azd Tryz.prog tb 141 gzE:=azo mixed Tryz.func141 (by kernel_rfl) (.cons kzs .nil) rfl (fun x=>by kernel_rfl)
def bzS (x:Bool):Option (Val) :=
 some {Kind:=3,N:={M:=0,S:=0},S:=[],B:=x,E:=0}
def jzh:FSpec tb:=⟨[(0,.val 4)],[(0,.val 32)],bzS⟩
theorem ez0:azd Tryz.prog tb 63 jzh:=azo mixed Tryz.func63 (by kernel_rfl) .nil rfl (fun x=>by kernel_rfl)
def czt (x:List UInt8):Option (Val) :=
 obnd (gzq x) fun y=>brn (!decide (y.snd=0)) (obnd (azn 15) fun y=>some y) (some {Kind:=2,N:={M:=0,S:=0},S:=x,B:=false,E:=0})
def nzm:FSpec tb:=⟨[(0,.val 9)],[(0,.val 32)],czt⟩
theorem jz4:azd Tryz.prog tb 83 nzm:=azo mixed Tryz.func83 (by kernel_rfl) (.cons nzQ (.cons azJ .nil)) rfl (fun x=>by kernel_rfl)
abbrev AzX:List (Nat×FSpec tb):=[(85,izd)]
theorem jzf:azv Tryz.prog tb AzX:=(.cons czf .nil)
def ezZ (back:Val×List (Dec)×Arg×List Val×Int×Int→Option (((List (Dec))×Val)⊕((List (Dec)×Bool)×Val)))(x:Val×List (Dec)×Arg×List Val×Int×Int):Option (((List (Dec))×Val)⊕((List (Dec)×Bool)×Val)) :=
 brn (decide (x.2.2.2.2.snd<x.2.2.2.2.fst))
  (obnd (idx x.2.2.2.fst x.2.2.2.2.snd) fun y =>
   brn x.2.2.fst.Area
    (brn (!decide (y.Kind=1))
     (brn (!decide (y.Kind=4)) (back (x.fst,x.2.fst,x.2.2.fst,x.2.2.2.fst,x.2.2.2.2.fst,IntKind.i64.wrap (x.2.2.2.2.snd+1)))
      (obnd (az4 y) fun y =>
       brn (!y.2.snd) (some (Sum.inr (([],false),y.2.fst)))
        (obnd (app 16 x.2.fst [y.fst]) fun zs=>back (x.fst,zs,x.2.2.fst,x.2.2.2.fst,x.2.2.2.2.fst,IntKind.i64.wrap (x.2.2.2.2.snd+1)))))
     (obnd (az4 y) fun y =>
      brn (!y.2.snd) (some (Sum.inr (([],false),y.2.fst)))
       (obnd (app 16 x.2.fst [y.fst]) fun zs=>back (x.fst,zs,x.2.2.fst,x.2.2.2.fst,x.2.2.2.2.fst,IntKind.i64.wrap (x.2.2.2.2.snd+1)))))
    (obnd (az4 y) fun y =>
     brn (!y.2.snd) (some (Sum.inr (([],false),y.2.fst)))
      (obnd (app 16 x.2.fst [y.fst]) fun zs=>back (x.fst,zs,x.2.2.fst,x.2.2.2.fst,x.2.2.2.2.fst,IntKind.i64.wrap (x.2.2.2.2.snd+1)))))
  (some (Sum.inl (x.2.fst,x.fst)))
def jzg:Val×List (Dec)×Arg×List Val×Int×Int→Option (((List (Dec))×Val)⊕((List (Dec)×Bool)×Val)):=iter ezZ big
def nzk:CutSpec tb:=⟨60,[(3,.ref 32),(5,.own 30),(7,.ro 48),(20,.val 46),(21,.val 3),(22,.val 3)],[((.exit 2),[(5,.own 30)]),(.ret,[(2,.own 30),(4,.val 4)])],[23,24,25,9,26,27,28,29,30,31,32,33,34,35,36,37,39,40,38,41,42,43,10,11,12,44,45,46,2,4,47,48,49,50,5,51,22],jzg⟩
theorem sz0:azi ([]:List (CutSpec tb)) (azf 60 Tryz.f145)=[]:=by kernel_rfl
theorem rzB:azm Tryz.prog tb Tryz.f145.ntmps (.loop (azf 60 Tryz.f145)) nzk:=azz mixed (by kernel_rfl) jzf rfl sz0 .nil ezZ (fun back x=>by kernel_rfl) rfl
def ezY (back:Val×List (Dec)×List Arg×Int×Int→Option (((List (Dec))×Val)⊕((List (Dec)×Bool)×Val)))(x:Val×List (Dec)×List Arg×Int×Int):Option (((List (Dec))×Val)⊕((List (Dec)×Bool)×Val)) :=
 brn (decide (x.2.2.2.snd<x.2.2.2.fst))
  (obnd (idx x.2.2.fst x.2.2.2.snd) fun y =>
   obnd (jzg (x.fst,x.2.fst,y,y.L,(↑y.L.length:Int),0)) fun y =>
    osum y (fun y=>back (y.2,y.1,x.2.2.fst,x.2.2.2.fst,IntKind.i64.wrap (x.2.2.2.snd+1))) fun y=>some (Sum.inr (y.1,y.2)))
  (some (Sum.inl (x.2.fst,x.fst)))
def gzS:Val×List (Dec)×List Arg×Int×Int→Option (((List (Dec))×Val)⊕((List (Dec)×Bool)×Val)):=iter ezY big
def nzj:CutSpec tb:=⟨36,[(3,.ref 32),(5,.own 30),(13,.val 34),(14,.val 3),(15,.val 3)],[((.exit 0),[(5,.own 30)]),(.ret,[(2,.own 30),(4,.val 4)])],[16,17,18,7,19,20,21,22,23,24,25,9,26,27,28,29,30,31,32,33,34,35,36,37,39,40,38,41,42,43,10,11,12,44,45,46,2,4,47,48,49,50,5,51,52,15],gzS⟩
theorem szZ:azi ([nzk]:List (CutSpec tb)) (azf 36 Tryz.f145)=[(60,.loop (azf 60 Tryz.f145))]:=by kernel_rfl
theorem rzA:azm Tryz.prog tb Tryz.f145.ntmps (.loop (azf 36 Tryz.f145)) nzj:=azz mixed (by kernel_rfl) jzf rfl szZ (.cons rfl rzB rfl .nil) ezY (fun back x=>by kernel_rfl) rfl
def jze (x:List Arg):Option (List (Dec)×Val×Bool) :=
 obnd (gzS ({Kind:=0,N:={M:=0,S:=0},S:=[],B:=false,E:=0},[],x,(↑x.length:Int),0)) fun y =>
  osum y (fun y=>some (y.1,{Kind:=0,N:={M:=0,S:=0},S:=[],B:=false,E:=0},true)) fun y=>some (y.1.fst,y.2,y.1.snd)
def rzz:FSpec tb:=⟨[(0,.val 34)],[(0,.own 30),(1,.val 32),(2,.val 4)],jze⟩
theorem yzp:azi ([nzj]:List (CutSpec tb)) (azA Tryz.f145)=[(36,.loop (azf 36 Tryz.f145))]:=by kernel_rfl
theorem sz1:azd Tryz.prog tb 145 rzz:=azL mixed Tryz.func145 (by kernel_rfl) jzf rfl yzp (.cons rfl rzA rfl .nil) (fun x=>by kernel_rfl)
abbrev fzo:List (Nat×FSpec tb):=[(34,gzZ)]
theorem czp:azv Tryz.prog tb fzo:=(.cons fzq .nil)
def azU (back:List Dec×Unit×Dec×Int→Option ((Unit)×Dec))(x:List Dec×Unit×Dec×Int):Option ((Unit)×Dec) :=
 brn (decide (x.2.2.snd<(↑x.fst.length:Int)))
  (obnd (idx x.fst x.2.2.snd) fun y =>
   obnd (czS (y,x.2.2.fst)) fun y =>
    brn (decide (y<0)) (obnd (idx x.fst x.2.2.snd) fun y=>back (x.fst,(),y,IntKind.i64.wrap (x.2.2.snd+1)))
     (back (x.fst,(),x.2.2.fst,IntKind.i64.wrap (x.2.2.snd+1))))
  (some ((),x.2.2.fst))
def bzA:List Dec×Unit×Dec×Int→Option ((Unit)×Dec):=iter azU big
def czq:CutSpec tb:=⟨52,[(0,.val 226),(1,.fnp 34 0),(5,.ref 30),(6,.val 3)],[((.exit 0),[])],[14,15,16,17,20,21,22,23,24,25,26,27,28,29,30,31,18,19,6],bzA⟩
theorem ezr:azi ([]:List (CutSpec tb)) (azf 52 Tryz.f146)=[]:=by kernel_rfl
theorem ezf:azm Tryz.prog tb Tryz.f146.ntmps (.loop (azf 52 Tryz.f146)) czq:=azz mixed (by kernel_rfl) czp rfl ezr .nil azU (fun back x=>by kernel_rfl) rfl
def bzh (x:List Dec×Unit):Option (Dec) :=
 brn (decide ((↑x.fst.length:Int)<1)) none (obnd (idx x.fst 0) fun y=>obnd (bzA (x.fst,(),y,1)) fun y=>some y.2)
def czB:FSpec tb:=⟨[(0,.val 226),(1,.fnp 34 0)],[(0,.val 30)],bzh⟩
theorem fzb:azi ([czq]:List (CutSpec tb)) (azA Tryz.f146)=[(52,.loop (azf 52 Tryz.f146))]:=by kernel_rfl
theorem ezs:azd Tryz.prog tb 146 czB:=azL mixed Tryz.func146 (by kernel_rfl) czp rfl fzb (.cons rfl ezf rfl .nil) (fun x=>by kernel_rfl)
abbrev fzn:List (Nat×FSpec tb):=[(34,gzZ)]
theorem czn:azv Tryz.prog tb fzn:=(.cons fzq .nil)
def azT (back:List Dec×Unit×Dec×Int→Option ((Unit)×Dec))(x:List Dec×Unit×Dec×Int):Option ((Unit)×Dec) :=
 brn (decide (x.2.2.snd<(↑x.fst.length:Int)))
  (obnd (idx x.fst x.2.2.snd) fun y =>
   obnd (czS (y,x.2.2.fst)) fun y =>
    brn (decide (0<y)) (obnd (idx x.fst x.2.2.snd) fun y=>back (x.fst,(),y,IntKind.i64.wrap (x.2.2.snd+1)))
     (back (x.fst,(),x.2.2.fst,IntKind.i64.wrap (x.2.2.snd+1))))
  (some ((),x.2.2.fst))
def bzz:List Dec×Unit×Dec×Int→Option ((Unit)×Dec):=iter azT big
def czo:CutSpec tb:=⟨52,[(0,.val 226),(1,.fnp 34 0),(5,.ref 30),(6,.val 3)],[((.exit 0),[])],[14,15,16,17,20,21,22,23,24,25,26,27,28,29,30,31,18,19,6],bzz⟩
theorem ezp:azi ([]:List (CutSpec tb)) (azf 52 Tryz.f147)=[]:=by kernel_rfl
theorem eze:azm Tryz.prog tb Tryz.f147.ntmps (.loop (azf 52 Tryz.f147)) czo:=azz mixed (by kernel_rfl) czn rfl ezp .nil azT (fun back x=>by kernel_rfl) rfl
def azZ (x:List Dec×Unit):Option (Dec) :=
 brn (decide ((↑x.fst.length:Int)<1)) none (obnd (idx x.fst 0) fun y=>obnd (bzz (x.fst,(),y,1)) fun y=>some y.2)
def czA:FSpec tb:=⟨[(0,.val 226),(1,.fnp 34 0)],[(0,.val 30)],azZ⟩
theorem fza:azi ([czo]:List (CutSpec tb)) (azA Tryz.f147)=[(52,.loop (azf 52 Tryz.f147))]:=by kernel_rfl
theorem ezq:azd Tryz.prog tb 147 czA:=azL mixed Tryz.func147 (by kernel_rfl) czn rfl fza (.cons rfl eze rfl .nil) (fun x=>by kernel_rfl)
abbrev fun_manyG:List (Nat×FSpec tb):=[(137,czg),(32,dzW),(139,rzr),(64,gz7),(140,tzX),(141,gzE),(63,jzh),(142,qzc),(143,fz3),(144,kzy),(83,nzm),(145,rzz),(146,czB),(86,mzi),(147,czA),(33,pzz),(87,uzt),(36,pzy)]
theorem fzF:azv Tryz.prog tb fun_manyG:=(.cons dzJ (.cons azJ (.cons szX (.cons fzs (.cons uz1 (.cons izS (.cons ez0 (.cons nzU (.cons izc (.consK izs (.cons jz4 (.cons sz1 (.cons ezs (.cons dzG (.cons ezq (.cons cz4 (.cons qzh (.cons ize .nil))))))))))))))))))
def gz9 (back:List (UInt8)×Val×Unit×List Val×Int×Int→Option (((List (UInt8))×(Val×Unit))⊕((List (UInt8))×(Val×Unit))))(x:List (UInt8)×Val×Unit×List Val×Int×Int):Option (((List (UInt8))×(Val×Unit))⊕((List (UInt8))×(Val×Unit))) :=
 brn (decide (x.2.2.2.2.snd<x.2.2.2.2.fst))
  (obnd (idx x.2.2.2.fst x.2.2.2.2.snd) fun y =>
   obnd (cz2 y) fun y =>
    brn (!y.2.snd) (some (Sum.inr (x.fst,y.2.fst,())))
     (obnd (czl (x.fst,(),y.fst)) fun y=>back (y.1.fst,x.2.fst,(),x.2.2.2.fst,x.2.2.2.2.fst,IntKind.i64.wrap (x.2.2.2.2.snd+1))))
  (some (Sum.inl (x.fst,x.2.fst,())))
def mzg:List (UInt8)×Val×Unit×List Val×Int×Int→Option (((List (UInt8))×(Val×Unit))⊕((List (UInt8))×(Val×Unit))):=iter gz9 big
def rzx:CutSpec tb:=⟨172,[(8589934600,.own 5),(4,.ref 32),(8,.box 229638146),(71,.val 46),(72,.val 3),(73,.val 3)],[((.exit 4),[(8589934600,.own 5)]),(.ret,[(8589934600,.own 5)])],[74,75,76,12,78,79,77,80,81,82,14,13,15,83,84,85,86,87,88,73],mzg⟩
theorem yzm:azi ([]:List (CutSpec tb)) (azf 172 Tryz.f60)=[]:=by kernel_rfl
theorem wzF:azm Tryz.prog tb Tryz.f60.ntmps (.loop (azf 172 Tryz.f60)) rzx:=azz mixed (by kernel_rfl) fzF rfl yzm .nil gz9 (fun back x=>by kernel_rfl) rfl
def gz8 (back:List (UInt8)×Val×Unit×List Arg×Int×Int→Option (((List (UInt8))×(Val×Unit))⊕((List (UInt8))×(Val×Unit))))(x:List (UInt8)×Val×Unit×List Arg×Int×Int):Option (((List (UInt8))×(Val×Unit))⊕((List (UInt8))×(Val×Unit))) :=
 brn (decide (x.2.2.2.2.snd<x.2.2.2.2.fst))
  (obnd (idx x.2.2.2.fst x.2.2.2.2.snd) fun y =>
   obnd (mzg (x.fst,x.2.fst,(),y.L,(↑y.L.length:Int),0)) fun y =>
    osum y (fun y=>back (y.1,y.2.fst,(),x.2.2.2.fst,x.2.2.2.2.fst,IntKind.i64.wrap (x.2.2.2.2.snd+1))) fun y=>some (Sum.inr (y.1,y.2.fst,())))
  (some (Sum.inl (x.fst,x.2.fst,())))
def jzd:List (UInt8)×Val×Unit×List Arg×Int×Int→Option (((List (UInt8))×(Val×Unit))⊕((List (UInt8))×(Val×Unit))):=iter gz8 big
def rzw:CutSpec tb:=⟨148,[(8589934600,.own 5),(4,.ref 32),(8,.box 229638146),(64,.val 34),(65,.val 3),(66,.val 3)],[((.exit 2),[(8589934600,.own 5)]),(.ret,[(8589934600,.own 5)])],[67,68,69,10,70,71,72,73,74,75,76,12,78,79,77,80,81,82,14,13,15,83,84,85,86,87,88,89,66],jzd⟩
theorem yzl:azi ([rzx]:List (CutSpec tb)) (azf 148 Tryz.f60)=[(172,.loop (azf 172 Tryz.f60))]:=by kernel_rfl
theorem wzE:azm Tryz.prog tb Tryz.f60.ntmps (.loop (azf 148 Tryz.f60)) rzw:=azz mixed (by kernel_rfl) fzF rfl yzl (.cons rfl wzF rfl .nil) gz8 (fun back x=>by kernel_rfl) rfl
def czV (x:Int×List Arg×Val×Int):Option (((Unit)×Val)⊕((Unit)×Val)) :=
 brn (decide (x.2.2.snd=3)) (obnd (iz8 x.2.fst) fun y=>obnd (bzs y) fun y=>some (Sum.inr ((),y)))
  (brn (decide (x.2.2.snd=11))
   (brn (decide (x.2.2.snd=11))
    (obnd (gzL x.2.fst) fun y =>
     brn (!y.2.snd)
      (brn (!decide (y.2.fst.Kind=4)) (obnd (azn 15) fun y=>some (Sum.inr ((),y)))
       (brn (!y.2.snd) (some (Sum.inr ((),y.2.fst)))
        (obnd (azY (y.fst,decide (x.fst=12))) fun y=>obnd (bzS (decide (y=decide (x.fst=12)))) fun y=>some (Sum.inr ((),y)))))
      (brn (!y.2.snd) (some (Sum.inr ((),y.2.fst)))
       (obnd (azY (y.fst,decide (x.fst=12))) fun y=>obnd (bzS (decide (y=decide (x.fst=12)))) fun y=>some (Sum.inr ((),y)))))
    (brn (decide (x.2.2.snd=18))
     (obnd (jzd ([],x.2.2.fst,(),x.2.fst,(↑x.2.fst.length:Int),0)) fun y =>
      osum y (fun y=>obnd (gzI (y.1,())) fun y=>obnd (czt y.1) fun y=>some (Sum.inr ((),y))) fun y=>some (Sum.inr ((),y.2.fst)))
     (some (Sum.inl ((),x.2.2.fst)))))
   (brn (decide (x.2.2.snd=12))
    (obnd (gzL x.2.fst) fun y =>
     brn (!y.2.snd)
      (brn (!decide (y.2.fst.Kind=4)) (obnd (azn 15) fun y=>some (Sum.inr ((),y)))
       (brn (!y.2.snd) (some (Sum.inr ((),y.2.fst)))
        (obnd (azY (y.fst,decide (x.fst=12))) fun y=>obnd (bzS (decide (y=decide (x.fst=12)))) fun y=>some (Sum.inr ((),y)))))
      (brn (!y.2.snd) (some (Sum.inr ((),y.2.fst)))
       (obnd (azY (y.fst,decide (x.fst=12))) fun y=>obnd (bzS (decide (y=decide (x.fst=12)))) fun y=>some (Sum.inr ((),y)))))
    (brn (decide (x.2.2.snd=18))
     (obnd (jzd ([],x.2.2.fst,(),x.2.fst,(↑x.2.fst.length:Int),0)) fun y =>
      osum y (fun y=>obnd (gzI (y.1,())) fun y=>obnd (czt y.1) fun y=>some (Sum.inr ((),y))) fun y=>some (Sum.inr ((),y.2.fst)))
     (some (Sum.inl ((),x.2.2.fst))))))
def rzu:CutSpec tb:=⟨43,[(0,.val 3),(1,.val 34),(4,.ref 32),(26,.val 3)],[(.normal,[]),(.ret,[])],[28,27,29,30,31,33,32,34,36,37,35,38,39,40,6,5,7,42,43,44,45,46,47,48,41,49,51,52,50,53,54,55,56,57,58,59,60,61,63,62,8,64,65,66,67,68,69,10,70,71,72,73,74,75,76,12,78,79,77,80,81,82,14,13,15,83,84,85,86,87,88,89,90,91],czV⟩
theorem yzj:azi ([rzw]:List (CutSpec tb)) (azD 43 Tryz.f60)=[(148,.loop (azf 148 Tryz.f60))]:=by kernel_rfl
theorem wzC:azm Tryz.prog tb Tryz.f60.ntmps (azD 43 Tryz.f60) rzu:=czF mixed (by kernel_rfl) fzF rfl yzj (.cons rfl wzE rfl .nil) (fun x=>by kernel_rfl)
def dzn (x:Int×Val×List Dec):Option (((Unit)×Val)⊕((Unit)×Val)) :=
 brn (decide (x.fst=1))
  (brn (decide (0<(↑x.2.snd.length:Int))) (obnd (bzh (x.2.snd,())) fun y=>obnd (az3 (y,0)) fun y=>some (Sum.inr ((),y)))
   (brn (decide (x.fst=2))
    (brn (decide (0<(↑x.2.snd.length:Int))) (obnd (azZ (x.2.snd,())) fun y=>obnd (az3 (y,0)) fun y=>some (Sum.inr ((),y)))
     (brn (decide (x.fst=1)) (obnd (bzs 0) fun y=>some (Sum.inr ((),y)))
      (brn (decide (x.fst=2)) (obnd (bzs 0) fun y=>some (Sum.inr ((),y))) (some (Sum.inl ((),x.2.fst))))))
    (brn (decide (x.fst=1)) (obnd (bzs 0) fun y=>some (Sum.inr ((),y)))
     (brn (decide (x.fst=2)) (obnd (bzs 0) fun y=>some (Sum.inr ((),y))) (some (Sum.inl ((),x.2.fst)))))))
  (brn (decide (x.fst=2))
   (brn (decide (0<(↑x.2.snd.length:Int))) (obnd (azZ (x.2.snd,())) fun y=>obnd (az3 (y,0)) fun y=>some (Sum.inr ((),y)))
    (brn (decide (x.fst=1)) (obnd (bzs 0) fun y=>some (Sum.inr ((),y)))
     (brn (decide (x.fst=2)) (obnd (bzs 0) fun y=>some (Sum.inr ((),y))) (some (Sum.inl ((),x.2.fst))))))
   (brn (decide (x.fst=1)) (obnd (bzs 0) fun y=>some (Sum.inr ((),y)))
    (brn (decide (x.fst=2)) (obnd (bzs 0) fun y=>some (Sum.inr ((),y))) (some (Sum.inl ((),x.2.fst))))))
def rzv:CutSpec tb:=⟨267,[(0,.val 3),(4,.ref 32),(16,.val 226)],[(.normal,[]),(.ret,[])],[102,103,104,105,106,107,108,101,109,110,111,113,114,115,116,117,118,119,112,120,121,122,124,125,126,127,128,129,123,130],dzn⟩
theorem yzk:azi ([]:List (CutSpec tb)) (azD 267 Tryz.f60)=[]:=by kernel_rfl
theorem wzD:azm Tryz.prog tb Tryz.f60.ntmps (azD 267 Tryz.f60) rzv:=czF mixed (by kernel_rfl) fzF rfl yzk .nil (fun x=>by kernel_rfl)
def hza (back:Val×Dec×List Dec×Int×Int→Option (((Unit)×(Val×Dec))⊕((Unit)×(Val×Dec))))(x:Val×Dec×List Dec×Int×Int):Option (((Unit)×(Val×Dec))⊕((Unit)×(Val×Dec))) :=
 brn (decide (x.2.2.2.snd<x.2.2.2.fst))
  (obnd (idx x.2.2.fst x.2.2.2.snd) fun y =>
   obnd (jz0 (x.2.fst,y)) fun y =>
    brn (!decide (y.snd=0)) (obnd (az3 y) fun y_1=>some (Sum.inr ((),y_1,y.fst))) (back (x.fst,y.fst,x.2.2.fst,x.2.2.2.fst,IntKind.i64.wrap (x.2.2.2.snd+1))))
  (some (Sum.inl ((),x.fst,x.2.fst)))
def mzh:Val×Dec×List Dec×Int×Int→Option (((Unit)×(Val×Dec))⊕((Unit)×(Val×Dec))):=iter hza big
def rzy:CutSpec tb:=⟨332,[(4,.ref 32),(19,.ref 30),(132,.val 226),(133,.val 3),(134,.val 3)],[((.exit 7),[]),(.ret,[])],[135,136,137,22,139,140,141,138,142,143,20,144,145,146,147,148,149,134],mzh⟩
theorem yzn:azi ([]:List (CutSpec tb)) (azf 332 Tryz.f60)=[]:=by kernel_rfl
theorem wzG:azm Tryz.prog tb Tryz.f60.ntmps (.loop (azf 332 Tryz.f60)) rzy:=azz mixed (by kernel_rfl) fzF rfl yzn .nil hza (fun back x=>by kernel_rfl) rfl
def bzi (x:Int×List Arg):Option (Val) :=
 obnd (az7 (x.snd,())) fun y =>
  brn y (obnd (azn 15) fun y=>some y)
   (obnd (czV (x.fst,x.snd,{Kind:=0,N:={M:=0,S:=0},S:=[],B:=false,E:=0},x.fst)) fun y =>
    osum y
     (fun y =>
      obnd (jze x.snd) fun y_1 =>
       brn (!y_1.2.snd) (some y_1.2.fst)
        (obnd (dzn (x.fst,y.2,y_1.fst)) fun y =>
         osum y
          (fun y =>
           obnd (bzr 0) fun y_2 =>
            obnd (mzh (y.2,y_2,y_1.fst,(↑(List.length y_1.fst):Int),0)) fun y =>
             osum y
              (fun y =>
               brn (decide (x.fst=0)) (obnd (az3 (y.2.snd,0)) fun y=>some y)
                (obnd (bzr (↑(List.length y_1.fst):Int)) fun y_3=>obnd (dzE (y.2.snd,y_3)) fun y=>obnd (az3 y) fun y=>some y))
              fun y=>some y.2.fst)
          fun y=>some y.2))
     fun y=>some y.2)
def zzd:FSpec tb:=⟨[(0,.val 3),(1,.val 34)],[(0,.val 32)],bzi⟩
theorem Czr:azi ([rzu,rzv,rzy]:List (CutSpec tb)) (azA Tryz.f60)=[(43,azD 43 Tryz.f60),(267,azD 267 Tryz.f60),(332,.loop (azf 332 Tryz.f60))]:=by kernel_rfl
theorem yzo:azd Tryz.prog tb 60 zzd:=azL mixed Tryz.func60 (by kernel_rfl) fzF rfl Czr (.cons rfl wzC rfl (.cons rfl wzD rfl (.cons rfl wzG rfl .nil))) (fun x=>by kernel_rfl)
def izi (x:Arg):Option (Bool) :=
 brn x.Area (some true) (some (bif decide ((↑x.L.length:Int)=1)then false else true))
def qzz:FSpec tb:=⟨[(0,.val 48)],[(0,.val 4)],izi⟩
theorem rzG:azd Tryz.prog tb 150 qzz:=azo mixed Tryz.func150 (by kernel_rfl) .nil rfl (fun x=>by kernel_rfl)
abbrev ezE:List (Nat×FSpec tb):=[(150,qzz)]
theorem bz9:azv Tryz.prog tb ezE:=(.cons rzG .nil)
def azO (back:List Arg×Unit×Int×Int→Option ((Unit)⊕(Int)))(x:List Arg×Unit×Int×Int):Option ((Unit)⊕(Int)) :=
 brn (decide (x.2.2.snd<x.2.2.fst))
  (obnd (idx x.fst x.2.2.snd) fun y=>obnd (izi y) fun y=>brn y (some (Sum.inr x.2.2.2)) (back (x.fst,(),x.2.2.fst,IntKind.i64.wrap (x.2.2.snd+1))))
  (some (Sum.inl PUnit.unit))
def bzn:List Arg×Unit×Int×Int→Option ((Unit)⊕(Int)):=iter azO big
def cza:CutSpec tb:=⟨28,[(0,.val 34),(1,.fnp 150 0),(7,.val 3),(8,.val 3)],[((.exit 0),[]),(.ret,[(4,.val 3)])],[9,10,5,11,12,13,14,15,16,17,4,18,8],bzn⟩
theorem dzP:azi ([]:List (CutSpec tb)) (azf 28 Tryz.f216)=[]:=by kernel_rfl
theorem dzK:azm Tryz.prog tb Tryz.f216.ntmps (.loop (azf 28 Tryz.f216)) cza:=azz mixed (by kernel_rfl) bz9 rfl dzP .nil azO (fun back x=>by kernel_rfl) rfl
def bzy (x:List Arg×Unit):Option (Int) :=
 obnd (bzn (x.fst,(),(↑x.fst.length:Int),0)) fun y=>osum y (fun y=>some (-1)) fun y=>some y
def ezF:FSpec tb:=⟨[(0,.val 34),(1,.fnp 150 0)],[(0,.val 3)],bzy⟩
theorem ezo:azi ([cza]:List (CutSpec tb)) (azA Tryz.f216)=[(28,.loop (azf 28 Tryz.f216))]:=by kernel_rfl
theorem dzQ:azd Tryz.prog tb 216 ezF:=azL mixed Tryz.func216 (by kernel_rfl) bz9 rfl ezo (.cons rfl dzK rfl .nil) (fun x=>by kernel_rfl)
def bzm (x:List Arg×Unit):Option (Bool) :=
 obnd (bzy (x.fst,())) fun y=>some (decide (0≤y))
def ezb:FSpec tb:=⟨[(0,.val 34),(1,.fnp 150 0)],[(0,.val 4)],bzm⟩
theorem dzv:azd Tryz.prog tb 137 ezb:=azo mixed Tryz.func137 (by kernel_rfl) (.cons dzQ .nil) rfl (fun x=>by kernel_rfl)
def dzY (x:List Arg):Option (Bool) :=
 obnd (bzm (x,())) fun y=>some (bif y then false else true)
def tzW:FSpec tb:=⟨[(0,.val 34)],[(0,.val 4)],dzY⟩
theorem izz:azd Tryz.prog tb 62 tzW:=azo mixed Tryz.func62 (by kernel_rfl) (.cons dzv .nil) rfl (fun x=>by kernel_rfl)
def jzc (x:List Arg):Option (Val) :=
 obnd (idx x 0) fun y =>
  brn (!y.Area) (obnd (azn 15) fun y=>some y)
   (obnd (sub x 1 (↑x.length:Int)) fun z =>
    obnd (dzY z) fun y =>
     brn (!y) (obnd (azn 15) fun y=>some y)
      (obnd (idx x 1) fun y =>
       obnd (idx y.L 0) fun y =>
        obnd (az4 y) fun y =>
         brn (!y.2.snd) (some y.2.fst)
          (brn (!decide (y.fst.S=0)) (obnd (azn 15) fun y=>some y)
           (brn (decide (y.fst.M<1)) (obnd (azn 23) fun y=>some y)
            (obnd (idx x 0) fun y_1 =>
             brn (decide ((↑y_1.L.length:Int)<y.fst.M)) (obnd (azn 23) fun y=>some y)
              (obnd (idx x 0) fun y_2=>obnd (idx y_2.L (IntKind.i64.wrap (y.fst.M-1))) fun y=>some y))))))
def AzW:FSpec tb:=⟨[(0,.val 34)],[(0,.val 32)],jzc⟩
theorem szY:azd Tryz.prog tb 148 AzW:=azo mixed Tryz.func148 (by kernel_rfl) (.cons izz (.cons azJ (.cons czf .nil))) rfl (fun x=>by kernel_rfl)
def bzw (x:Arg):Option (Val) :=
 brn x.Area (obnd (azn 15) fun y=>some y) (brn (!decide ((↑x.L.length:Int)=1)) (obnd (azn 15) fun y=>some y) (obnd (idx x.L 0) fun y=>some y))
def Czu:FSpec tb:=⟨[(0,.val 48)],[(0,.val 32)],bzw⟩
theorem uzY:azd Tryz.prog tb 149 Czu:=azo mixed Tryz.func149 (by kernel_rfl) (.cons azJ .nil) rfl (fun x=>by kernel_rfl)
def bzj (x:Int×List Arg):Option (Val) :=
 brn (decide (x.fst=24)) (obnd (jzc x.snd) fun y=>some y)
  (obnd (sub x.snd 0 1) fun z =>
   obnd (dzY z) fun y =>
    brn (!y) (obnd (azn 15) fun y=>some y)
     (obnd (idx x.snd 0) fun y =>
      obnd (idx y.L 0) fun y =>
       brn (decide (x.fst=23)) (brn (decide (y.Kind=4)) (obnd (idx x.snd 1) fun y=>obnd (bzw y) fun y=>some y) (some y))
        (brn (decide (x.fst=10))
         (obnd (bzV y) fun y =>
          brn (!y.2.snd) (some y.2.fst)
           (brn y.fst (obnd (idx x.snd 1) fun y=>obnd (bzw y) fun y=>some y)
            (brn (decide ((↑x.snd.length:Int)=2)) (obnd (bzS false) fun y=>some y) (obnd (idx x.snd 2) fun y=>obnd (bzw y) fun y=>some y))))
         (obnd (az4 y) fun y =>
          brn (!y.2.snd) (some y.2.fst)
           (brn (!decide (y.fst.S=0)) (obnd (azn 15) fun y=>some y)
            (brn (decide (y.fst.M<1)) (obnd (azn 15) fun y=>some y)
             (brn (decide ((↑x.snd.length:Int)≤y.fst.M)) (obnd (azn 15) fun y=>some y)
              (obnd (idx x.snd y.fst.M) fun y=>obnd (bzw y) fun y=>some y))))))))
def tzU:FSpec tb:=⟨[(0,.val 3),(1,.val 34)],[(0,.val 32)],bzj⟩
theorem uzT:azd Tryz.prog tb 61 tzU:=azo mixed Tryz.func61 (by kernel_rfl) (.cons szY (.cons izz (.cons azJ (.cons uzY (.cons jzJ (.cons ez0 (.cons czf .nil))))))) rfl (fun x=>by kernel_rfl)
def fzG (back:Int×Dec→Option (((Unit)×Dec)⊕((Int×Bool)×Dec)))(x:Int×Dec):Option (((Unit)×Dec)⊕((Int×Bool)×Dec)) :=
 brn (decide (x.snd.S<x.fst))
  (brn (!decide (IntKind.i64.wrap ((IntKind.i64.wrap (x.snd.M*10)).tdiv 10)=x.snd.M)) (some (Sum.inr ((0,false),x.snd)))
   (back (x.fst,{M:=IntKind.i64.wrap (x.snd.M*10),S:=IntKind.i64.wrap (x.snd.S+1)})))
  (some (Sum.inl ((),x.snd)))
def jz3:Int×Dec→Option (((Unit)×Dec)⊕((Int×Bool)×Dec)):=iter fzG big
def ozI:CutSpec tb:=⟨20,[(1,.val 3),(2,.ref 30)],[((.exit 0),[]),(.ret,[(4,.val 2),(5,.val 4)])],[6,7,8,9,14,15,16,17,18,19,20,4,5,21,22,23,24,10,11,12,13],jz3⟩
theorem uzW:azi ([]:List (CutSpec tb)) (azf 20 Tryz.f219)=[]:=by kernel_rfl
theorem sz2:azm Tryz.prog tb Tryz.f219.ntmps (.loop (azf 20 Tryz.f219)) ozI:=azz mixed (by kernel_rfl) .nil rfl uzW .nil fzG (fun back x=>by kernel_rfl) rfl
def hz5 (x:Dec×Int):Option (Int×Bool) :=
 obnd (jz3 (x.snd,x.fst)) fun y=>osum y (fun y=>some (y.2.M,true)) fun y=>some y.1
def Czt:FSpec tb:=⟨[(0,.val 30),(1,.val 3)],[(0,.val 2),(1,.val 4)],hz5⟩
theorem zzV:azi ([ozI]:List (CutSpec tb)) (azA Tryz.f219)=[(20,.loop (azf 20 Tryz.f219))]:=by kernel_rfl
theorem uzX:azd Tryz.prog tb 219 Czt:=azL mixed Tryz.func219 (by kernel_rfl) .nil rfl zzV (.cons rfl sz2 rfl .nil) (fun x=>by kernel_rfl)
def nzl (x:Dec×Dec):Option (Val) :=
 brn (decide (x.snd.M=0)) (obnd (azn 7) fun y=>some y)
  (obnd (hz5 (x.fst,bif decide (x.fst.S<x.snd.S)then x.snd.S else x.fst.S)) fun y =>
   obnd (hz5 (x.snd,bif decide (x.fst.S<x.snd.S)then x.snd.S else x.fst.S)) fun y_1 =>
    brn (!y.snd) (obnd (azn 36) fun y=>some y)
     (brn (!y_1.snd) (obnd (azn 36) fun y=>some y)
      (brn (decide (y_1.fst=0)) none
       (brn (!decide (Int.tmod y.fst y_1.fst=0))
        (brn (!decide (decide (Int.tmod y.fst y_1.fst<0)=decide (y_1.fst<0)))
         (obnd (fz5 {M:=IntKind.i64.wrap (Int.tmod y.fst y_1.fst+y_1.fst),S:=bif decide (x.fst.S<x.snd.S)then x.snd.S else x.fst.S}) fun y =>
          obnd (az3 (y,0)) fun y=>some y)
         (obnd (fz5 {M:=Int.tmod y.fst y_1.fst,S:=bif decide (x.fst.S<x.snd.S)then x.snd.S else x.fst.S}) fun y=>obnd (az3 (y,0)) fun y=>some y))
        (obnd (fz5 {M:=Int.tmod y.fst y_1.fst,S:=bif decide (x.fst.S<x.snd.S)then x.snd.S else x.fst.S}) fun y=>obnd (az3 (y,0)) fun y=>some y)))))
def zzf:FSpec tb:=⟨[(0,.val 30),(1,.val 30)],[(0,.val 32)],nzl⟩
theorem yzs:azd Tryz.prog tb 152 zzf:=azo mixed Tryz.func152 (by kernel_rfl) (.cons azJ (.cons uzX (.cons xz3 (.cons dzG .nil)))) rfl (fun x=>by kernel_rfl)
abbrev zzU:List (Nat×FSpec tb):=[(85,izd),(33,pzz),(34,gzZ),(35,uzx),(86,mzi),(64,gz7),(151,vz8),(152,zzf),(32,dzW),(153,wze)]
theorem mzk:azv Tryz.prog tb zzU:=(.cons czf (.cons cz4 (.cons fzq (.cons lzf (.cons dzG (.cons fzs (.cons vz9 (.cons yzs (.cons azJ (.cons wzf .nil))))))))))
def ezi (back:Val×List (Dec)×List Val×Int×Int→Option (((List (Dec))×Val)⊕((Unit)×Val)))(x:Val×List (Dec)×List Val×Int×Int):Option (((List (Dec))×Val)⊕((Unit)×Val)) :=
 brn (decide (x.2.2.2.snd<x.2.2.2.fst))
  (obnd (idx x.2.2.fst x.2.2.2.snd) fun y =>
   obnd (az4 y) fun y =>
    brn (!y.2.snd) (some (Sum.inr ((),y.2.fst))) (obnd (app 16 x.2.fst [y.fst]) fun zs=>back (x.fst,zs,x.2.2.fst,x.2.2.2.fst,IntKind.i64.wrap (x.2.2.2.snd+1))))
  (some (Sum.inl (x.2.fst,x.fst)))
def izy:Val×List (Dec)×List Val×Int×Int→Option (((List (Dec))×Val)⊕((Unit)×Val)):=iter ezi big
def mzl:CutSpec tb:=⟨36,[(4,.ref 32),(5,.own 30),(12,.val 46),(13,.val 3),(14,.val 3)],[((.exit 0),[(5,.own 30)]),(.ret,[])],[15,16,17,7,19,20,18,21,22,23,8,9,10,24,25,26,27,28,29,30,5,31,14],izy⟩
theorem rzE:azi ([]:List (CutSpec tb)) (azf 36 Tryz.f66)=[]:=by kernel_rfl
theorem qzT:azm Tryz.prog tb Tryz.f66.ntmps (.loop (azf 36 Tryz.f66)) mzl:=azz mixed (by kernel_rfl) mzk rfl rzE .nil ezi (fun back x=>by kernel_rfl) rfl
def bzp (x:Int×List Val):Option (Val) :=
 obnd (izy ({Kind:=0,N:={M:=0,S:=0},S:=[],B:=false,E:=0},[],x.snd,(↑x.snd.length:Int),0)) fun y =>
  osum y
   (fun y =>
    obnd (idx y.1 0) fun y_1 =>
     obnd (bzr 0) fun y_2 =>
      obnd (czS (y_1,y_2)) fun y_3 =>
       brn (decide (x.fst=5))
        (brn (decide (y_3<0)) (obnd (bzr 0) fun y_4=>obnd (idx y.1 0) fun y=>obnd (gzd (y_4,y)) fun y=>obnd (az3 y) fun y=>some y)
         (obnd (idx y.1 0) fun y=>obnd (az3 (y,0)) fun y=>some y))
        (brn (decide (x.fst=6)) (obnd (bzs y_3) fun y=>some y)
         (brn (decide (x.fst=7)) (obnd (idx y.1 0) fun y=>obnd (gzc y) fun y=>obnd (az3 y) fun y=>some y)
          (brn (decide (x.fst=8)) (obnd (idx y.1 0) fun y_4=>obnd (idx y.1 1) fun y=>obnd (nzl (y_4,y)) fun y=>some y)
           (obnd (idx y.1 1) fun y_4 =>
            brn (!decide (y_4.S=0)) (obnd (azn 36) fun y=>some y)
             (obnd (idx y.1 0) fun y_5=>obnd (idx y.1 1) fun y=>obnd (dzS (y_5,y.M)) fun y=>obnd (az3 y) fun y=>some y))))))
   fun y=>some y.2
def qzy:FSpec tb:=⟨[(0,.val 3),(1,.val 46)],[(0,.val 32)],bzp⟩
theorem wzL:azi ([mzl]:List (CutSpec tb)) (azA Tryz.f66)=[(36,.loop (azf 36 Tryz.f66))]:=by kernel_rfl
theorem rzF:azd Tryz.prog tb 66 qzy:=azL mixed Tryz.func66 (by kernel_rfl) mzk rfl wzL (.cons rfl qzT rfl .nil) (fun x=>by kernel_rfl)
abbrev Dzp:List (Nat×FSpec tb):=[(220,dzM),(144,kzy)]
theorem qzu:azv Tryz.prog tb Dzp:=(.cons ezy (.consK izs .nil))
def gzw (back:List (UInt8)×Bool×Unit×((List UInt8×Nat))→Option ((List (UInt8))×(Unit×((List UInt8×Nat)))))(x:List (UInt8)×Bool×Unit×((List UInt8×Nat))):Option ((List (UInt8))×(Unit×((List UInt8×Nat)))) :=
 brn (decide (x.2.2.snd.snd<x.2.2.snd.fst.length))
  (brn x.2.fst
   (brn (decide (97≤(↑(rune x.2.2.snd.fst x.2.2.snd.snd).fst:Int)))
    (brn (decide ((↑(rune x.2.2.snd.fst x.2.2.snd.snd).fst:Int)≤122))
     (obnd (azw (x.fst,(),IntKind.i32.wrap ((↑(rune x.2.2.snd.fst x.2.2.snd.snd).fst:Int)+-32))) fun y =>
      back (y.1.fst,x.2.fst,(),x.2.2.snd.fst,x.2.2.snd.snd+(rune x.2.2.snd.fst x.2.2.snd.snd).snd))
     (brn (!x.2.fst)
      (brn (decide (65≤(↑(rune x.2.2.snd.fst x.2.2.snd.snd).fst:Int)))
       (brn (decide ((↑(rune x.2.2.snd.fst x.2.2.snd.snd).fst:Int)≤90))
        (obnd (azw (x.fst,(),IntKind.i32.wrap ((↑(rune x.2.2.snd.fst x.2.2.snd.snd).fst:Int)+32))) fun y =>
         back (y.1.fst,x.2.fst,(),x.2.2.snd.fst,x.2.2.snd.snd+(rune x.2.2.snd.fst x.2.2.snd.snd).snd))
        (obnd (azw (x.fst,(),(↑(rune x.2.2.snd.fst x.2.2.snd.snd).fst:Int))) fun y =>
         back (y.1.fst,x.2.fst,(),x.2.2.snd.fst,x.2.2.snd.snd+(rune x.2.2.snd.fst x.2.2.snd.snd).snd)))
       (obnd (azw (x.fst,(),(↑(rune x.2.2.snd.fst x.2.2.snd.snd).fst:Int))) fun y =>
        back (y.1.fst,x.2.fst,(),x.2.2.snd.fst,x.2.2.snd.snd+(rune x.2.2.snd.fst x.2.2.snd.snd).snd)))
      (obnd (azw (x.fst,(),(↑(rune x.2.2.snd.fst x.2.2.snd.snd).fst:Int))) fun y =>
       back (y.1.fst,x.2.fst,(),x.2.2.snd.fst,x.2.2.snd.snd+(rune x.2.2.snd.fst x.2.2.snd.snd).snd))))
    (brn (!x.2.fst)
     (brn (decide (65≤(↑(rune x.2.2.snd.fst x.2.2.snd.snd).fst:Int)))
      (brn (decide ((↑(rune x.2.2.snd.fst x.2.2.snd.snd).fst:Int)≤90))
       (obnd (azw (x.fst,(),IntKind.i32.wrap ((↑(rune x.2.2.snd.fst x.2.2.snd.snd).fst:Int)+32))) fun y =>
        back (y.1.fst,x.2.fst,(),x.2.2.snd.fst,x.2.2.snd.snd+(rune x.2.2.snd.fst x.2.2.snd.snd).snd))
       (obnd (azw (x.fst,(),(↑(rune x.2.2.snd.fst x.2.2.snd.snd).fst:Int))) fun y =>
        back (y.1.fst,x.2.fst,(),x.2.2.snd.fst,x.2.2.snd.snd+(rune x.2.2.snd.fst x.2.2.snd.snd).snd)))
      (obnd (azw (x.fst,(),(↑(rune x.2.2.snd.fst x.2.2.snd.snd).fst:Int))) fun y =>
       back (y.1.fst,x.2.fst,(),x.2.2.snd.fst,x.2.2.snd.snd+(rune x.2.2.snd.fst x.2.2.snd.snd).snd)))
     (obnd (azw (x.fst,(),(↑(rune x.2.2.snd.fst x.2.2.snd.snd).fst:Int))) fun y =>
      back (y.1.fst,x.2.fst,(),x.2.2.snd.fst,x.2.2.snd.snd+(rune x.2.2.snd.fst x.2.2.snd.snd).snd))))
   (brn (!x.2.fst)
    (brn (decide (65≤(↑(rune x.2.2.snd.fst x.2.2.snd.snd).fst:Int)))
     (brn (decide ((↑(rune x.2.2.snd.fst x.2.2.snd.snd).fst:Int)≤90))
      (obnd (azw (x.fst,(),IntKind.i32.wrap ((↑(rune x.2.2.snd.fst x.2.2.snd.snd).fst:Int)+32))) fun y =>
       back (y.1.fst,x.2.fst,(),x.2.2.snd.fst,x.2.2.snd.snd+(rune x.2.2.snd.fst x.2.2.snd.snd).snd))
      (obnd (azw (x.fst,(),(↑(rune x.2.2.snd.fst x.2.2.snd.snd).fst:Int))) fun y =>
       back (y.1.fst,x.2.fst,(),x.2.2.snd.fst,x.2.2.snd.snd+(rune x.2.2.snd.fst x.2.2.snd.snd).snd)))
     (obnd (azw (x.fst,(),(↑(rune x.2.2.snd.fst x.2.2.snd.snd).fst:Int))) fun y =>
      back (y.1.fst,x.2.fst,(),x.2.2.snd.fst,x.2.2.snd.snd+(rune x.2.2.snd.fst x.2.2.snd.snd).snd)))
    (obnd (azw (x.fst,(),(↑(rune x.2.2.snd.fst x.2.2.snd.snd).fst:Int))) fun y =>
     back (y.1.fst,x.2.fst,(),x.2.2.snd.fst,x.2.2.snd.snd+(rune x.2.2.snd.fst x.2.2.snd.snd).snd))))
  (some (x.fst,(),x.2.2.snd))
def lzj:List (UInt8)×Bool×Unit×((List UInt8×Nat))→Option ((List (UInt8))×(Unit×((List UInt8×Nat)))):=iter gzw big
def qzv:CutSpec tb:=⟨36,[(8589934597,.own 5),(1,.val 4),(5,.box 229638146),(9,.iter)],[((.exit 0),[(8589934597,.own 5)])],[10,11,12,7,14,15,16,17,18,19,20,21,22,13,23,24,26,27,28,29,30,31,32,33,34,35,25,36,37,38,39],lzj⟩
theorem wzA:azi ([]:List (CutSpec tb)) (azf 36 Tryz.f154)=[]:=by kernel_rfl
theorem uzS:azm Tryz.prog tb Tryz.f154.ntmps (.loop (azf 36 Tryz.f154)) qzv:=azz mixed (by kernel_rfl) qzu rfl wzA .nil gzw (fun back x=>by kernel_rfl) rfl
def iz7 (x:List UInt8×Bool):Option (List UInt8) :=
 obnd (lzj ([],x.snd,(),x.fst,0)) fun y=>obnd (gzI (y.1,())) fun y=>some y.1
def wzz:FSpec tb:=⟨[(0,.val 9),(1,.val 4)],[(0,.val 9)],iz7⟩
theorem AzU:azi ([qzv]:List (CutSpec tb)) (azA Tryz.f154)=[(36,.loop (azf 36 Tryz.f154))]:=by kernel_rfl
theorem wzB:azd Tryz.prog tb 154 wzz:=azL mixed Tryz.func154 (by kernel_rfl) qzu rfl AzU (.cons rfl uzS rfl .nil) (fun x=>by kernel_rfl)
def gzK (x:Val×Int):Option (Int×Val×Bool) :=
 obnd (az4 x.fst) fun y =>
  brn (!y.2.snd) (some (0,y.2.fst,false))
   (brn (!decide (y.fst.S=0)) (obnd (azn 15) fun y=>some (0,y,false))
    (brn (decide (y.fst.M<x.snd)) (obnd (azn 15) fun y=>some (0,y,false))
     (some (y.fst.M,{Kind:=0,N:={M:=0,S:=0},S:=[],B:=false,E:=0},true))))
def tzT:FSpec tb:=⟨[(0,.val 32),(1,.val 2)],[(0,.val 2),(1,.val 32),(2,.val 4)],gzK⟩
theorem uzR:azd Tryz.prog tb 155 tzT:=azo mixed Tryz.func155 (by kernel_rfl) (.cons czf (.cons azJ .nil)) rfl (fun x=>by kernel_rfl)
abbrev fun_partG:List (Nat×FSpec tb):=[(220,dzM),(144,kzy)]
theorem rzC:azv Tryz.prog tb fun_partG:=(.cons ezy (.consK izs .nil))
def hze (back:List (UInt8)×Int×Int×Unit×Int×((List UInt8×Nat))→Option ((List (UInt8))×(Unit×((List UInt8×Nat)))))(x:List (UInt8)×Int×Int×Unit×Int×((List UInt8×Nat))):Option ((List (UInt8))×(Unit×((List UInt8×Nat)))) :=
 brn (decide (x.2.2.2.2.snd.snd<x.2.2.2.2.snd.fst.length))
  (brn (decide (x.2.fst≤x.2.2.2.2.fst))
   (brn (decide (IntKind.i64.wrap (x.2.2.2.2.fst-x.2.fst)<x.2.2.fst))
    (obnd (azw (x.fst,(),(↑(rune x.2.2.2.2.snd.fst x.2.2.2.2.snd.snd).fst:Int))) fun y =>
     back (y.1.fst,x.2.fst,x.2.2.fst,(),IntKind.i64.wrap (x.2.2.2.2.fst+1),x.2.2.2.2.snd.fst,x.2.2.2.2.snd.snd+(rune x.2.2.2.2.snd.fst x.2.2.2.2.snd.snd).snd))
    (back (x.fst,x.2.fst,x.2.2.fst,(),IntKind.i64.wrap (x.2.2.2.2.fst+1),x.2.2.2.2.snd.fst,x.2.2.2.2.snd.snd+(rune x.2.2.2.2.snd.fst x.2.2.2.2.snd.snd).snd)))
   (back (x.fst,x.2.fst,x.2.2.fst,(),IntKind.i64.wrap (x.2.2.2.2.fst+1),x.2.2.2.2.snd.fst,x.2.2.2.2.snd.snd+(rune x.2.2.2.2.snd.fst x.2.2.2.2.snd.snd).snd)))
  (some (x.fst,(),x.2.2.2.2.snd))
def mzj:List (UInt8)×Int×Int×Unit×Int×((List UInt8×Nat))→Option ((List (UInt8))×(Unit×((List UInt8×Nat)))):=iter hze big
def rzD:CutSpec tb:=⟨44,[(8589934599,.own 5),(1,.val 2),(2,.val 2),(7,.box 229638146),(8,.val 2),(12,.iter)],[((.exit 0),[(8589934599,.own 5)])],[13,14,15,10,16,17,18,19,20,21,22,23,24,25,26,27,28,29,8],mzj⟩
theorem yzq:azi ([]:List (CutSpec tb)) (azf 44 Tryz.f156)=[]:=by kernel_rfl
theorem wzH:azm Tryz.prog tb Tryz.f156.ntmps (.loop (azf 44 Tryz.f156)) rzD:=azz mixed (by kernel_rfl) rzC rfl yzq .nil hze (fun back x=>by kernel_rfl) rfl
def hzb (x:List UInt8×Int×Int):Option (List UInt8) :=
 obnd (mzj ([],x.2.fst,x.2.snd,(),0,x.fst,0)) fun y=>obnd (gzI (y.1,())) fun y=>some y.1
def zze:FSpec tb:=⟨[(0,.val 9),(1,.val 2),(2,.val 2)],[(0,.val 9)],hzb⟩
theorem Czs:azi ([rzD]:List (CutSpec tb)) (azA Tryz.f156)=[(44,.loop (azf 44 Tryz.f156))]:=by kernel_rfl
theorem yzr:azd Tryz.prog tb 156 zze:=azL mixed Tryz.func156 (by kernel_rfl) rzC rfl Czs (.cons rfl wzH rfl .nil) (fun x=>by kernel_rfl)
abbrev Czw:List (Nat×FSpec tb):=[(142,qzc),(101,xzD),(64,gz7),(154,wzz),(83,nzm),(63,jzh),(155,tzT),(156,zze),(32,dzW),(157,nzR),(1099511627844,mutS)]
theorem jz7:azv Tryz.prog tb Czw:=(.cons nzU (.cons nzQ (.cons fzs (.cons wzB (.cons jz4 (.cons ez0 (.cons uzR (.cons yzr (.cons azJ (.cons jzE (.consK mut_sound .nil)))))))))))
def czk (x:Int×List Val×Val×List UInt8×Int):Option (((Unit)×Val)⊕((Unit)×Val)) :=
 brn (decide (x.2.2.2.snd=14)) (obnd (gzq x.2.2.2.fst) fun y=>obnd (bzs y.fst) fun y=>some (Sum.inr ((),y)))
  (brn (decide (x.2.2.2.snd=19))
   (brn (decide (x.2.2.2.snd=19)) (obnd (iz7 (x.2.2.2.fst,decide (x.fst=19))) fun y=>obnd (czt y) fun y=>some (Sum.inr ((),y)))
    (brn (decide (x.2.2.2.snd=26))
     (obnd (idx x.2.fst 1) fun y =>
      obnd (cz2 y) fun y=>brn (!y.2.snd) (some (Sum.inr ((),y.2.fst))) (obnd (bzS (decide (x.2.2.2.fst=y.fst))) fun y=>some (Sum.inr ((),y))))
     (some (Sum.inl ((),x.2.2.fst)))))
   (brn (decide (x.2.2.2.snd=20)) (obnd (iz7 (x.2.2.2.fst,decide (x.fst=19))) fun y=>obnd (czt y) fun y=>some (Sum.inr ((),y)))
    (brn (decide (x.2.2.2.snd=26))
     (obnd (idx x.2.fst 1) fun y =>
      obnd (cz2 y) fun y=>brn (!y.2.snd) (some (Sum.inr ((),y.2.fst))) (obnd (bzS (decide (x.2.2.2.fst=y.fst))) fun y=>some (Sum.inr ((),y))))
     (some (Sum.inl ((),x.2.2.fst))))))
def ozL:CutSpec tb:=⟨51,[(0,.val 3),(1,.val 46),(4,.ref 32),(5,.val 9),(33,.val 3)],[(.normal,[]),(.ret,[])],[35,34,37,38,36,39,40,8,9,41,42,44,43,45,46,47,48,49,50,52,51,54,55,56,57,53,58,59,60,11,10,12,61,62,63,64,65,66,67],czk⟩
theorem uz2:azi ([]:List (CutSpec tb)) (azD 51 Tryz.f67)=[]:=by kernel_rfl
theorem sz5:azm Tryz.prog tb Tryz.f67.ntmps (azD 51 Tryz.f67) ozL:=czF mixed (by kernel_rfl) jz7 rfl uz2 .nil (fun x=>by kernel_rfl)
def fzJ (back:Int×Val×List (Int)×List Val×Int×Int→Option (((List (Int))×Val)⊕((Unit)×Val)))(x:Int×Val×List (Int)×List Val×Int×Int):Option (((List (Int))×Val)⊕((Unit)×Val)) :=
 brn (decide (x.2.2.2.2.snd<x.2.2.2.2.fst))
  (obnd (idx x.2.2.2.fst x.2.2.2.2.snd) fun y =>
   brn (decide (x.fst=17))
    (brn (decide (x.2.2.2.2.snd=0))
     (obnd (gzK (y,1)) fun y =>
      brn (!y.2.snd) (some (Sum.inr ((),y.2.fst)))
       (obnd (inb x.2.2.fst.length x.2.2.2.2.snd) fun k =>
        obnd (nth x.2.2.fst k) fun y_1=>back (x.fst,x.2.fst,x.2.2.fst.set k y.fst,x.2.2.2.fst,x.2.2.2.2.fst,IntKind.i64.wrap (x.2.2.2.2.snd+1))))
     (obnd (gzK (y,0)) fun y =>
      brn (!y.2.snd) (some (Sum.inr ((),y.2.fst)))
       (obnd (inb x.2.2.fst.length x.2.2.2.2.snd) fun k =>
        obnd (nth x.2.2.fst k) fun y_1=>back (x.fst,x.2.fst,x.2.2.fst.set k y.fst,x.2.2.2.fst,x.2.2.2.2.fst,IntKind.i64.wrap (x.2.2.2.2.snd+1)))))
    (obnd (gzK (y,0)) fun y =>
     brn (!y.2.snd) (some (Sum.inr ((),y.2.fst)))
      (obnd (inb x.2.2.fst.length x.2.2.2.2.snd) fun k =>
       obnd (nth x.2.2.fst k) fun y_1=>back (x.fst,x.2.fst,x.2.2.fst.set k y.fst,x.2.2.2.fst,x.2.2.2.2.fst,IntKind.i64.wrap (x.2.2.2.2.snd+1)))))
  (some (Sum.inl (x.2.2.fst,x.2.fst)))
def jz8:Int×Val×List (Int)×List Val×Int×Int→Option (((List (Int))×Val)⊕((Unit)×Val)):=iter fzJ big
def ozM:CutSpec tb:=⟨156,[(0,.val 3),(4,.ref 32),(13,.wr 2),(70,.val 46),(71,.val 3),(72,.val 3)],[((.exit 1),[(13,.own 2)]),(.ret,[])],[73,74,75,76,15,14,16,77,78,79,80,81,82,84,85,86,83,87,88,89,18,17,19,90,91,92,93,94,95,96,97,72],jz8⟩
theorem uz3:azi ([]:List (CutSpec tb)) (azf 156 Tryz.f67)=[]:=by kernel_rfl
theorem sz6:azm Tryz.prog tb Tryz.f67.ntmps (.loop (azf 156 Tryz.f67)) ozM:=azz mixed (by kernel_rfl) jz7 rfl uz3 .nil fzJ (fun back x=>by kernel_rfl) rfl
def bzM (x:Int×List Val):Option (Val) :=
 obnd (idx x.snd 0) fun y =>
  obnd (cz2 y) fun y =>
   brn (!y.2.snd) (some y.2.fst)
    (obnd (czk (x.fst,x.snd,{Kind:=0,N:={M:=0,S:=0},S:=[],B:=false,E:=0},y.fst,x.fst)) fun y_1 =>
     osum y_1
      (fun y_2 =>
       obnd (sub x.snd 1 (↑x.snd.length:Int)) fun z =>
        obnd (jz8 (x.fst,y_2.2,[1,1],z,(↑z.length:Int),0)) fun y_3 =>
         osum y_3
          (fun y_4 =>
           brn (decide (x.fst=15)) (obnd (idx y_4.1 0) fun y_5=>obnd (hzb (y.fst,0,y_5)) fun y=>obnd (czt y) fun y=>some y)
            (brn (decide (x.fst=16))
             (obnd (bif (List.length y.fst).ble 70368744177664 then some (dzu y.fst (List.length y.fst) 0)else none) fun rs =>
              obnd (idx y_4.1 0) fun y_5 =>
               obnd (idx y_4.1 0) fun y_6 =>
                obnd (hzb (y.fst,bif decide (IntKind.i64.wrap ((↑rs.length:Int)-y_5)<0)then 0 else IntKind.i64.wrap ((↑rs.length:Int)-y_5),y_6))
                 fun y=>obnd (czt y) fun y=>some y)
             (brn (decide (x.fst=17))
              (obnd (idx y_4.1 0) fun y_5 =>
               obnd (idx y_4.1 1) fun y_6=>obnd (hzb (y.fst,IntKind.i64.wrap (y_5-1),y_6)) fun y=>obnd (czt y) fun y=>some y)
              (obnd (gzq y.fst) fun y_5 =>
               brn (decide (y_5.fst=0)) (obnd (czt []) fun y=>some y)
                (obnd (idx y_4.1 0) fun y_6 =>
                 brn (decide (y_5.fst=0)) none
                  (brn (decide (IntKind.i64.wrap (Int.tdiv 1000 y_5.fst)<y_6)) (obnd (azn 15) fun y=>some y)
                   (obnd (idx y_4.1 0) fun y_7=>obnd (bz5 (y.fst,y_7)) fun y=>obnd (czt y) fun y=>some y)))))))
          fun y=>some y.2)
      fun y=>some y.2)
def tzY:FSpec tb:=⟨[(0,.val 3),(1,.val 46)],[(0,.val 32)],bzM⟩
theorem zzX:azi ([ozL,ozM]:List (CutSpec tb)) (azA Tryz.f67)=[(51,azD 51 Tryz.f67),(156,.loop (azf 156 Tryz.f67))]:=by kernel_rfl
theorem uz4:azd Tryz.prog tb 67 tzY:=azL mixed Tryz.func67 (by kernel_rfl) jz7 rfl zzX (.cons rfl sz5 rfl (.cons rfl sz6 rfl .nil)) (fun x=>by kernel_rfl)
abbrev Dzo:List (Nat×FSpec tb):=[(59,AzT),(32,dzW),(60,zzd),(61,tzU),(62,tzW),(63,jzh),(64,gz7),(65,qzb),(66,qzy),(67,tzY)]
theorem gzt:azv Tryz.prog tb Dzo:=(.cons qzt (.cons azJ (.cons yzo (.cons uzT (.cons izz (.cons ez0 (.cons fzs (.cons jzJ (.cons rzF (.cons uz4 .nil))))))))))
def bzC (x:Int×List Arg×Val×Int×Bool):Option (((Unit)×Val)⊕((Unit)×Val)) :=
 brn x.2.2.2.snd (obnd (bzi (x.fst,x.2.fst)) fun y=>some (Sum.inr ((),y)))
  (brn (decide (x.2.2.2.fst=10))
   (brn (decide (x.2.2.2.fst=10)) (obnd (bzj (x.fst,x.2.fst)) fun y=>some (Sum.inr ((),y)))
    (brn (decide (x.2.2.2.fst=28)) (obnd (azn 42) fun y=>some (Sum.inr ((),y))) (some (Sum.inl ((),x.2.2.fst)))))
   (brn (decide (x.2.2.2.fst=23))
    (brn (decide (x.2.2.2.fst=23)) (obnd (bzj (x.fst,x.2.fst)) fun y=>some (Sum.inr ((),y)))
     (brn (decide (x.2.2.2.fst=28)) (obnd (azn 42) fun y=>some (Sum.inr ((),y))) (some (Sum.inl ((),x.2.2.fst)))))
    (brn (decide (x.2.2.2.fst=24))
     (brn (decide (x.2.2.2.fst=24)) (obnd (bzj (x.fst,x.2.fst)) fun y=>some (Sum.inr ((),y)))
      (brn (decide (x.2.2.2.fst=28)) (obnd (azn 42) fun y=>some (Sum.inr ((),y))) (some (Sum.inl ((),x.2.2.fst)))))
     (brn (decide (x.2.2.2.fst=25)) (obnd (bzj (x.fst,x.2.fst)) fun y=>some (Sum.inr ((),y)))
      (brn (decide (x.2.2.2.fst=28)) (obnd (azn 42) fun y=>some (Sum.inr ((),y))) (some (Sum.inl ((),x.2.2.fst))))))))
def qzp:CutSpec tb:=⟨114,[(0,.val 3),(1,.val 34),(4,.ref 32),(42,.val 3),(43,.val 4)],[(.normal,[]),(.ret,[])],[52,53,54,56,55,57,58,59,60,61,62,64,63,65],bzC⟩
theorem wzt:azi ([]:List (CutSpec tb)) (azD 114 Tryz.f19)=[]:=by kernel_rfl
theorem uzL:azm Tryz.prog tb Tryz.f19.ntmps (azD 114 Tryz.f19) qzp:=czF mixed (by kernel_rfl) gzt rfl wzt .nil (fun x=>by kernel_rfl)
def dzF (x:Int×List Arg×Val×Int):Option (((Unit)×Val)⊕((Unit)×Val)) :=
 brn (decide (x.2.2.snd=0))
  (obnd (bzC (x.fst,x.2.fst,x.2.2.fst,x.2.2.snd,decide (x.2.2.snd=0))) fun y=>osum y (fun y=>some (Sum.inl ((),y.2))) fun y=>some (Sum.inr ((),y.2)))
  (brn (decide (x.2.2.snd=1))
   (obnd (bzC (x.fst,x.2.fst,x.2.2.fst,x.2.2.snd,decide (x.2.2.snd=1))) fun y=>osum y (fun y=>some (Sum.inl ((),y.2))) fun y=>some (Sum.inr ((),y.2)))
   (brn (decide (x.2.2.snd=2))
    (obnd (bzC (x.fst,x.2.fst,x.2.2.fst,x.2.2.snd,decide (x.2.2.snd=2))) fun y=>osum y (fun y=>some (Sum.inl ((),y.2))) fun y=>some (Sum.inr ((),y.2)))
    (brn (decide (x.2.2.snd=3))
     (obnd (bzC (x.fst,x.2.fst,x.2.2.fst,x.2.2.snd,decide (x.2.2.snd=3))) fun y=>osum y (fun y=>some (Sum.inl ((),y.2))) fun y=>some (Sum.inr ((),y.2)))
     (brn (decide (x.2.2.snd=4))
      (obnd (bzC (x.fst,x.2.fst,x.2.2.fst,x.2.2.snd,decide (x.2.2.snd=4))) fun y =>
       osum y (fun y=>some (Sum.inl ((),y.2))) fun y=>some (Sum.inr ((),y.2)))
      (brn (decide (x.2.2.snd=11))
       (obnd (bzC (x.fst,x.2.fst,x.2.2.fst,x.2.2.snd,decide (x.2.2.snd=11))) fun y =>
        osum y (fun y=>some (Sum.inl ((),y.2))) fun y=>some (Sum.inr ((),y.2)))
       (brn (decide (x.2.2.snd=12))
        (obnd (bzC (x.fst,x.2.fst,x.2.2.fst,x.2.2.snd,decide (x.2.2.snd=12))) fun y =>
         osum y (fun y=>some (Sum.inl ((),y.2))) fun y=>some (Sum.inr ((),y.2)))
        (obnd (bzC (x.fst,x.2.fst,x.2.2.fst,x.2.2.snd,decide (x.2.2.snd=18))) fun y =>
         osum y (fun y=>some (Sum.inl ((),y.2))) fun y=>some (Sum.inr ((),y.2)))))))))
def qzo:CutSpec tb:=⟨51,[(0,.val 3),(1,.val 34),(4,.ref 32),(42,.val 3)],[(.normal,[]),(.ret,[])],[44,43,45,46,47,48,49,50,51,52,53,54,56,55,57,58,59,60,61,62,64,63,65],dzF⟩
theorem wzs:azi ([qzp]:List (CutSpec tb)) (azD 51 Tryz.f19)=[(114,azD 114 Tryz.f19)]:=by kernel_rfl
theorem uzK:azm Tryz.prog tb Tryz.f19.ntmps (azD 51 Tryz.f19) qzo:=czF mixed (by kernel_rfl) gzt rfl wzs (.cons rfl uzL rfl .nil) (fun x=>by kernel_rfl)
def gzu (back:List (Val)×List Arg×Int×Int→Option (List (Val)))(x:List (Val)×List Arg×Int×Int):Option (List (Val)) :=
 brn (decide (x.2.2.snd<x.2.2.fst))
  (obnd (idx x.2.fst x.2.2.snd) fun y=>obnd (idx y.L 0) fun y=>obnd (app 56 x.fst [y]) fun zs=>back (zs,x.2.fst,x.2.2.fst,IntKind.i64.wrap (x.2.2.snd+1))) (some x.1)
def gzv:List (Val)×List Arg×Int×Int→Option (List (Val)):=iter gzu big
def qzr:CutSpec tb:=⟨212,[(6,.own 32),(70,.val 34),(71,.val 3),(72,.val 3)],[((.exit 1),[(6,.own 32)])],[73,74,75,8,76,77,78,79,80,81,82,6,83,72],gzv⟩
theorem wzv:azi ([]:List (CutSpec tb)) (azf 212 Tryz.f19)=[]:=by kernel_rfl
theorem uzN:azm Tryz.prog tb Tryz.f19.ntmps (.loop (azf 212 Tryz.f19)) qzr:=azz mixed (by kernel_rfl) gzt rfl wzv .nil gzu (fun back x=>by kernel_rfl) rfl
def czy (x:Int×Val×List Val×Int):Option (((Unit)×Val)⊕((Unit)×Val)) :=
 brn (decide (x.2.2.snd=21)) (obnd (idx x.2.2.fst 0) fun y=>obnd (bzS (decide (y.Kind=0))) fun y=>some (Sum.inr ((),y)))
  (brn (decide (x.2.2.snd=22)) (obnd (idx x.2.2.fst 0) fun y=>obnd (bzS (decide (y.Kind=4))) fun y=>some (Sum.inr ((),y)))
   (brn (decide (x.2.2.snd=29))
    (obnd (idx x.2.2.fst 0) fun y =>
     obnd (bzs (fzK keq3 0 y.Kind (hzM keq3 4 16 (hzM keq3 3 4 (hzM keq3 2 2 (hzM keq3 1 1 (hzM keq3 0 1 [])))))))
      fun y=>some (Sum.inr ((),y)))
    (brn (decide (x.2.2.snd=13))
     (obnd (idx x.2.2.fst 0) fun y=>obnd (bzV y) fun y=>brn (!y.2.snd) (some (Sum.inr ((),y.2.fst))) (obnd (bzS !y.fst) fun y=>some (Sum.inr ((),y))))
     (brn (decide (x.2.2.snd=5)) (brn (decide (x.2.2.snd=5)) (obnd (bzp (x.fst,x.2.2.fst)) fun y=>some (Sum.inr ((),y))) (some (Sum.inl ((),x.2.fst))))
      (brn (decide (x.2.2.snd=6)) (brn (decide (x.2.2.snd=6)) (obnd (bzp (x.fst,x.2.2.fst)) fun y=>some (Sum.inr ((),y))) (some (Sum.inl ((),x.2.fst))))
       (brn (decide (x.2.2.snd=7)) (brn (decide (x.2.2.snd=7)) (obnd (bzp (x.fst,x.2.2.fst)) fun y=>some (Sum.inr ((),y))) (some (Sum.inl ((),x.2.fst))))
        (brn (decide (x.2.2.snd=8)) (brn (decide (x.2.2.snd=8)) (obnd (bzp (x.fst,x.2.2.fst)) fun y=>some (Sum.inr ((),y))) (some (Sum.inl ((),x.2.fst))))
         (brn (decide (x.2.2.snd=9)) (obnd (bzp (x.fst,x.2.2.fst)) fun y=>some (Sum.inr ((),y))) (some (Sum.inl ((),x.2.fst)))))))))))
def qzq:CutSpec tb:=⟨251,[(0,.val 3),(4,.ref 32),(6,.val 46),(84,.val 3)],[(.normal,[]),(.ret,[])],[86,85,87,88,89,90,91,92,94,93,95,96,97,98,99,100,102,101,103,104,105,106,107,108,109,110,112,111,114,115,116,117,113,118,119,120,10,9,11,121,122,123,124,125,126,128,127,129,130,131,132,133,134,135],czy⟩
theorem wzu:azi ([]:List (CutSpec tb)) (azD 251 Tryz.f19)=[]:=by kernel_rfl
theorem uzM:azm Tryz.prog tb Tryz.f19.ntmps (azD 251 Tryz.f19) qzq:=czF mixed (by kernel_rfl) gzt rfl wzu .nil (fun x=>by kernel_rfl)
def bzR (x:Int×List Arg):Option (Val) :=
 obnd (gz6 ()) fun y =>
  brn (decide (x.fst<0)) (obnd (azn 15) fun y=>some y)
   (brn (decide ((↑(List.length y):Int)≤x.fst)) (obnd (azn 15) fun y=>some y)
    (obnd (idx y x.fst) fun y_1 =>
     brn (decide ((↑x.snd.length:Int)<y_1.lo)) (obnd (azn 15) fun y=>some y)
      (obnd (idx y x.fst) fun y =>
       brn (decide (y.hi<(↑x.snd.length:Int))) (obnd (azn 15) fun y=>some y)
        (obnd (dzF (x.fst,x.snd,{Kind:=0,N:={M:=0,S:=0},S:=[],B:=false,E:=0},x.fst)) fun y =>
         osum y
          (fun y =>
           obnd (dzY x.snd) fun y_2 =>
            brn (!y_2) (obnd (azn 15) fun y=>some y)
             (obnd (gzv ([],x.snd,(↑x.snd.length:Int),0)) fun y_3 =>
              obnd (czy (x.fst,y.2,y_3,x.fst)) fun y=>osum y (fun y=>obnd (bzM (x.fst,y_3)) fun y=>some y) fun y=>some y.2))
          fun y=>some y.2))))
def wzr:FSpec tb:=⟨[(0,.val 3),(1,.val 34)],[(0,.val 32)],bzR⟩
theorem AzS:azi ([qzo,qzr,qzq]:List (CutSpec tb)) (azA Tryz.f19)=[(51,azD 51 Tryz.f19),(212,.loop (azf 212 Tryz.f19)),(251,azD 251 Tryz.f19)]:=by kernel_rfl
theorem wzw:azd Tryz.prog tb 19 wzr:=azL mixed Tryz.func19 (by kernel_rfl) gzt rfl AzS (.cons rfl uzK rfl (.cons rfl uzN rfl (.cons rfl uzM rfl .nil))) (fun x=>by kernel_rfl)
abbrev Dzq:List (Nat×FSpec tb):=[(32,dzW),(33,pzz),(37,uzu),(86,mzi),(36,pzy)]
theorem qzw:azv Tryz.prog tb Dzq:=(.cons azJ (.cons cz4 (.cons qzi (.cons dzG (.cons ize .nil)))))
def gzx (back:Dec×Val×Dec×Int×Int→Option (((Unit)×(Val×Dec))⊕((Unit)×(Val×Dec))))(x:Dec×Val×Dec×Int×Int):Option (((Unit)×(Val×Dec))⊕((Unit)×(Val×Dec))) :=
 brn (decide (x.2.2.2.snd<x.2.2.2.fst))
  (obnd (fzh (x.2.2.fst,x.fst)) fun y =>
   brn (!decide (y.snd=0)) (obnd (az3 y) fun y_1=>some (Sum.inr ((),y_1,y.fst))) (back (x.fst,x.2.fst,y.fst,x.2.2.2.fst,IntKind.i64.wrap (x.2.2.2.snd+1))))
  (some (Sum.inl ((),x.2.fst,x.2.2.fst)))
def lzk:Dec×Val×Dec×Int×Int→Option (((Unit)×(Val×Dec))⊕((Unit)×(Val×Dec))):=iter gzx big
def qzx:CutSpec tb:=⟨52,[(2,.ro 30),(4,.ref 32),(5,.ref 30),(27,.val 2),(28,.val 2)],[((.exit 0),[]),(.ret,[])],[29,31,32,33,30,34,35,6,36,37,38,39,40,41,28],lzk⟩
theorem wzJ:azi ([]:List (CutSpec tb)) (azf 52 Tryz.f88)=[]:=by kernel_rfl
theorem uzV:azm Tryz.prog tb Tryz.f88.ntmps (.loop (azf 52 Tryz.f88)) qzx:=azz mixed (by kernel_rfl) qzw rfl wzJ .nil gzx (fun back x=>by kernel_rfl) rfl
def lzL (x:Dec×Dec):Option (Val) :=
 brn (!decide (x.snd.S=0)) (obnd (azn 36) fun y=>some y)
  (brn (decide (x.snd.M < -64)) (obnd (azn 36) fun y=>some y)
   (brn (decide (64<x.snd.M)) (obnd (azn 36) fun y=>some y)
    (obnd (bzr 1) fun y =>
     obnd
      (lzk
       (x.fst,{Kind:=0,N:={M:=0,S:=0},S:=[],B:=false,E:=0},y,
        bif decide (x.snd.M<IntKind.i64.wrap (0-x.snd.M))then IntKind.i64.wrap (0-x.snd.M)else x.snd.M,0))
      fun y =>
      osum y
       (fun y =>
        brn (decide (x.snd.M<0)) (obnd (bzr 1) fun y_1=>obnd (dzE (y_1,y.2.snd)) fun y=>obnd (az3 y) fun y=>some y)
         (obnd (az3 (y.2.snd,0)) fun y=>some y))
       fun y=>some y.2.fst)))
def wzI:FSpec tb:=⟨[(0,.val 30),(1,.val 30)],[(0,.val 32)],lzL⟩
theorem AzY:azi ([qzx]:List (CutSpec tb)) (azA Tryz.f88)=[(52,.loop (azf 52 Tryz.f88))]:=by kernel_rfl
theorem wzK:azd Tryz.prog tb 88 wzI:=azL mixed Tryz.func88 (by kernel_rfl) qzw rfl AzY (.cons rfl uzV rfl .nil) (fun x=>by kernel_rfl)
abbrev Czq:List (Nat×FSpec tb):=[(32,dzW),(84,zzF),(83,nzm),(27,szh),(63,jzh),(85,izd),(87,uzt),(86,mzi),(35,uzx),(37,uzu),(36,pzy),(88,wzI)]
theorem ozG:azv Tryz.prog tb Czq:=(.cons azJ (.cons pzk (.cons jz4 (.cons tzF (.cons ez0 (.cons czf (.cons qzh (.cons dzG (.cons lzf (.cons qzi (.cons ize (.cons wzK .nil))))))))))))
def jz2 (x:Int×Val×Val×Val):Option (((Unit)×Val)⊕((Unit)×Val)) :=
 brn (decide (x.2.fst.Kind=4)) (some (Sum.inr ((),x.2.fst)))
  (brn (decide (x.2.2.fst.Kind=4)) (some (Sum.inr ((),x.2.2.fst)))
   (brn (decide (x.fst<1)) (obnd (azn 15) fun y=>some (Sum.inr ((),y)))
    (brn (decide (12<x.fst)) (obnd (azn 15) fun y=>some (Sum.inr ((),y)))
     (brn (decide (x.fst=6))
      (obnd (cz8 x.2.fst) fun y=>obnd (cz8 x.2.2.fst) fun y_1=>obnd (cat y y_1) fun z=>obnd (czt z) fun y=>some (Sum.inr ((),y)))
      (brn (decide (6<x.fst))
       (obnd (azN (x.2.fst,x.2.2.fst)) fun y =>
        obnd (idx [decide (y=0),!decide (y=0),decide (y<0),decide (y≤0),decide (0<y),decide (0≤y)] (IntKind.i64.wrap (x.fst-7))) fun y =>
         obnd (bzS y) fun y=>some (Sum.inr ((),y)))
       (some (Sum.inl ((),x.2.2.snd))))))))
def ozH:CutSpec tb:=⟨19,[(0,.val 3),(4,.ro 32),(5,.ro 32),(6,.ref 32)],[(.normal,[]),(.ret,[])],[13,14,15,12,16,18,19,20,17,21,23,24,25,26,27,28,22,29,31,32,30,33,34,35,36,37,38,40,41,39,42,43,44,7,45,46,47,48,49,50,51,52,53,54,55,56,57,58,59,60,61,62],jz2⟩
theorem uzO:azi ([]:List (CutSpec tb)) (azD 19 Tryz.f30)=[]:=by kernel_rfl
theorem szU:azm Tryz.prog tb Tryz.f30.ntmps (azD 19 Tryz.f30) ozH:=czF mixed (by kernel_rfl) ozG rfl uzO .nil (fun x=>by kernel_rfl)
def kzI (x:Int×Val×Val):Option (Val) :=
 obnd (jz2 (x.fst,x.2.fst,x.2.snd,{Kind:=0,N:={M:=0,S:=0},S:=[],B:=false,E:=0})) fun y =>
  osum y
   (fun y =>
    obnd (az4 x.2.fst) fun y =>
     brn (!y.2.snd) (some y.2.fst)
      (obnd (az4 x.2.snd) fun y_1 =>
       brn (!y_1.2.snd) (some y_1.2.fst)
        (brn (decide (x.fst=1)) (obnd (jz0 (y.fst,y_1.fst)) fun y=>obnd (az3 y) fun y=>some y)
         (brn (decide (x.fst=2)) (obnd (gzd (y.fst,y_1.fst)) fun y=>obnd (az3 y) fun y=>some y)
          (brn (decide (x.fst=3)) (obnd (fzh (y.fst,y_1.fst)) fun y=>obnd (az3 y) fun y=>some y)
           (brn (decide (x.fst=4)) (obnd (dzE (y.fst,y_1.fst)) fun y=>obnd (az3 y) fun y=>some y)
            (obnd (lzL (y.fst,y_1.fst)) fun y=>some y)))))))
   fun y=>some y.2
def tzS:FSpec tb:=⟨[(0,.val 3),(1,.val 32),(2,.val 32)],[(0,.val 32)],kzI⟩
theorem zzT:azi ([ozH]:List (CutSpec tb)) (azA Tryz.f30)=[(19,azD 19 Tryz.f30)]:=by kernel_rfl
theorem uzP:azd Tryz.prog tb 30 tzS:=azL mixed Tryz.func30 (by kernel_rfl) ozG rfl zzT (.cons rfl szU rfl .nil) (fun x=>by kernel_rfl)
def lzK (x:Int×Val):Option (Val) :=
 brn (decide (x.fst=2)) (some x.snd)
  (brn (!decide (x.fst=1))
   (brn (!decide (x.fst=3)) (obnd (azn 15) fun y=>some y)
    (obnd (az4 x.snd) fun y =>
     brn (!y.2.snd) (some y.2.fst)
      (brn (decide (x.fst=1)) (obnd (bzr 0) fun y_1=>obnd (gzd (y_1,y.fst)) fun y=>obnd (az3 y) fun y=>some y)
       (obnd (bzr 100) fun y_1=>obnd (dzE (y.fst,y_1)) fun y=>obnd (az3 y) fun y=>some y))))
   (obnd (az4 x.snd) fun y =>
    brn (!y.2.snd) (some y.2.fst)
     (brn (decide (x.fst=1)) (obnd (bzr 0) fun y_1=>obnd (gzd (y_1,y.fst)) fun y=>obnd (az3 y) fun y=>some y)
      (obnd (bzr 100) fun y_1=>obnd (dzE (y.fst,y_1)) fun y=>obnd (az3 y) fun y=>some y))))
def wzx:FSpec tb:=⟨[(0,.val 3),(1,.val 32)],[(0,.val 32)],lzK⟩
theorem wzy:azd Tryz.prog tb 40 wzx:=azo mixed Tryz.func40 (by kernel_rfl) (.cons azJ (.cons czf (.cons cz4 (.cons lzf (.cons dzG (.cons ize .nil)))))) rfl (fun x=>by kernel_rfl)
set_option linter.unusedVariables false
end Go.Proofs.YtdgpkbnnljblmaaGreatDoor
/- Y1 -/
namespace Go.Proofs.YtdgpkbnnljblmaaGreatDoor
open Go Go.Ev Go.Lib
def v0:Val:=⟨0,⟨0,0⟩,[],false,0⟩
theorem czC (e:Int):azn e=some (vE e):=rfl
def okA (l:List Arg):Prop:=l.length≤40∧∀a∈l,a.L.length≤5000∧∀v∈a.L,okW v
def badA (a:Arg):Bool:=!a.Area&&!decide (a.L.length=1)
def badB (a:Arg):Bool:=a.Area||!decide (a.L.length=1)
theorem many1_is (a:Arg):kzJ a=some (badA a):=by
 unfold kzJ badA;cases a.Area with
 | true=>rfl
 | false =>
  simp only[Bool.not_false,azc,Bool.true_and];by_cases h:a.L.length=1<;>simp[h]<;>omega
theorem DzX (a:Arg):izi a=some (badB a):=by
 unfold izi badB;cases a.Area with
 | true=>rfl
 | false =>
  simp only[azb,Bool.false_or];by_cases h:a.L.length=1<;>simp[h]<;>omega
theorem gzs {l:List Arg}(hl:l.length≤1000):az7 (l,())=some (l.any badA):=by
 unfold az7 bzF;have this:bzv (l,(),(l.length:Int),0)=some ((fun(r:Option Nat)=>match r with|some i=>.inr (i:Int)|none=>.inl ()) _):=nzf (F:=azQ) (fun i=>(l,(),(l.length:Int),(i:Int))) (fun r=>match r with|some i=>.inr (i:Int)|none=>.inl ()) l badA (by omega)
  (fun back i hi=>by
   unfold azQ;simp only;rw[ltT hi,azc,idxG hi,aza,many1_is,aza,wr1 (by omega)];cases badA l[i]<;>rfl)
  (fun back=>by
   unfold azQ;simp only;rw[ltF,azb])
 simp only;rw[this,aza,←nzW];cases l.findIdx? badA with
 | none=>rfl
 | some i =>
  simp only[osum,aza,Option.isSome_some];rw[dT0 (by omega)]
theorem zzx {l:List Arg}(hl:l.length≤1000):dzY l=some (!l.any badB):=by
 unfold dzY bzm bzy;have this:bzn (l,(),(l.length:Int),0)=some ((fun(r:Option Nat)=>match r with|some i=>.inr (i:Int)|none=>.inl ()) _):=nzf (F:=azO) (fun i=>(l,(),(l.length:Int),(i:Int))) (fun r=>match r with|some i=>.inr (i:Int)|none=>.inl ()) l badB (by omega)
  (fun back i hi=>by
   unfold azO;simp only;rw[ltT hi,azc,idxG hi,aza,DzX,aza,wr1 (by omega)];cases badB l[i]<;>rfl)
  (fun back=>by
   unfold azO;simp only;rw[ltF,azb])
 simp only;rw[this,aza,←nzW];cases l.findIdx? badB with
 | none=>rfl
 | some i =>
  simp only[osum,aza,Option.isSome_some];rw[dT0 (show(0:Int)≤(i:Int) by omega)];rfl
end Go.Proofs.YtdgpkbnnljblmaaGreatDoor