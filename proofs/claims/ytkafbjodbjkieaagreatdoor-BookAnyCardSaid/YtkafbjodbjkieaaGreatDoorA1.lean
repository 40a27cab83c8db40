import Derived.Test.YtkafbjodbjkieaaGreatDoorU1
set_option linter.unusedVariables false
set_option maxRecDepth 400000
/- A1 -/
namespace Go.Proofs.YtkafbjodbjkieaaGreatDoor
open Go Go.Ev
open Go.IntKind (i64 u64 u8 i32 u32 i16 u16)
set_option maxRecDepth 100000
noncomputable section
def Mzw (x:Int):Option (Dec):=some (Dec.mk x 0)
def dec_IntS:Fq:=⟨[(0,.val 2)],[(0,.val 83)],Mzw⟩
theorem Lzw:A0 65 dec_IntS:=A1 Tryz.func65 .nil
def jzm (x:List Row):Option (List (Row)):=app 24 [] x
def czT:Fq:=⟨[(0,.val 97)],[(0,.own 174)],jzm⟩
theorem ozx:∀x,evFn Tryz.prog tb [] [] Tryz.f106 czT.ins czT.outs x=czT.f x:=fun x=>Eq.trans (by kernel_rfl) (rzY 24 x)
theorem nzb:A0 106 czT:=A1 Tryz.func106 .nil (hJ:=ozx)
def GzX (x:Cell2×Cell):Option (Bool):=brn (bif false then !(decide (x.1.At.Row=x.2.Row)&&decide (x.1.At.Col=x.2.Col))else decide (x.1.At.Row=x.2.Row)&&decide (x.1.At.Col=x.2.Col)) (some x.1.4) (some false)
def GzY:Fq:=⟨[(0,.val 108),(1,.ro 80)],[(0,.val 4)],GzX⟩
theorem GzZ:A0 168 GzY:=A1 Tryz.func168 .nil
abbrev jzx:List (Nat×Fq):=[(168,GzY)]
theorem dzW:azk Tryz.prog tb (jzx):=(.cons GzZ .nil)
def dzX (back:Cell×List Cell2×Unit×Int×Int->Option ((Unit)⊕(Int)))(x:Cell×List Cell2×Unit×Int×Int):Option ((Unit)⊕(Int)):=brn (decide (x.2.2.2.2<x.2.2.2.1)) (obnd (idx x.2.1 x.2.2.2.2) fun y=>obnd (GzX (Cell2.mk y.At y.XF y.V y.Has (aze y.E),x.1)) fun y=>brn y (some (Sum.inr x.2.2.2.2)) (back (x.1,x.2.1,(),x.2.2.2.1,i64.wrap (x.2.2.2.2+1)))) (some (Sum.inl PUnit.unit))
def dzY:=iter dzX big
def izE:Cq:=⟨28,[(4294967297,.ro 80),(0,.val 98),(1,.fnp 168 1),(7,.val 3),(8,.val 3)],[(.exit 0,[]),(.ret,[(4,.val 3)])],rg 8 11 [4,5],dzY,none⟩
theorem hzE:A3 Tryz.f167 28 izE:=A4 dzW .nil dzX
def ezp (x:Cell×List Cell2×Unit):Option (Int):=obnd (dzY (x.1,x.2.1,(),(↑x.2.1.length:Int),0)) fun y=>osum y (fun y=>some (-1)) fun y=>some y
def jzy:Fq:=⟨[(4294967297,.ro 80),(0,.val 98),(1,.fnp 168 1)],[(0,.val 3)],ezp⟩
theorem hz9:A0 167 jzy:=A2 Tryz.func167 dzW (.cons hzE .nil)
def Mzn (x:List Cell2×Cell):Option (Expr×Bool):=obnd (ezp (x.2,x.1,())) fun y=>brn (decide (y<0)) (some (Expr.mk 0 (Val.mk 0 (Dec.mk 0 0) [] false 0) (Area.mk (Ref.mk 0 0 false false) (Ref.mk 0 0 false false)) 0 0 [],false)) (obnd (idx x.1 y) fun y=>some (aze y.E,true))
def Mzo:Fq:=⟨[(0,.val 98),(1,.val 80)],[(0,.val 90),(1,.val 4)],Mzn⟩
theorem Lzs:A0 107 Mzo:=A1 Tryz.func107 (.cons hz9 .nil)
def nz1 (x:Int):Option (Bool):=some (bif decide (x=x)then false else true)
def Jzc:Fq:=⟨[(0,.val 3)],[(0,.val 4)],nz1⟩
theorem zz5:A0 178 Jzc:=A1 Tryz.func178 .nil
def dzM (x:Int×Int):Option (Int):=obnd (nz1 x.1) fun y=>obnd (nz1 x.2) fun y_1=>brn y (brn y_1 (some 0) (some (-1))) (brn y_1 (some 1) (brn (decide (x.1<x.2)) (some (-1)) (brn (decide (x.2<x.1)) (some 1) (some 0))))
def Fzq:Fq:=⟨[(0,.val 3),(1,.val 3)],[(0,.val 3)],dzM⟩
theorem lzi:A0 122 Fzq:=A1 Tryz.func122 (.cons zz5 .nil)
def lzj (back:Int×List Int×Int×Int->Option ((Unit)⊕(Int)))(x:Int×List Int×Int×Int):Option ((Unit)⊕(Int)):=brn (decide (x.2.2.2<x.2.2.1)) (obnd (idx x.2.1 x.2.2.2) fun y=>brn (!decide (y=x.1)) (some (Sum.inr y)) (back (x.1,x.2.1,x.2.2.1,i64.wrap (x.2.2.2+1)))) (some (Sum.inl PUnit.unit))
def rzl:=iter lzj big
def Jzb:Cq:=⟨36,[(3,.val 3),(6,.val 23),(7,.val 3),(8,.val 3)],[(.exit 0,[]),(.ret,[(2,.val 3)])],rg 8 9 [2,5],rzl,none⟩
theorem Dzk:A3 Tryz.f121 36 Jzb:=A4 .nil .nil lzj
def mzW (x:List Int):Option (Int):=obnd (rzl (0,x,(↑x.length:Int),0)) fun y=>osum y (fun y=>some 0) fun y=>some y
def Oza:Fq:=⟨[(0,.val 23)],[(0,.val 3)],mzW⟩
theorem pzy:A0 121 Oza:=A2 Tryz.func121 .nil (.cons Dzk .nil)
def nzS (x:Group×Group):Option (Int):=obnd (dzM (x.1.A.Row,x.2.A.Row)) fun y=>obnd (dzM (x.1.A.Col,x.2.A.Col)) fun y_1=>obnd (mzW [y,y_1]) fun y=>some y
def vze:Fq:=⟨[(0,.val 141),(1,.val 141)],[(0,.val 3)],nzS⟩
theorem tzr:A0 109 vze:=A1 Tryz.func109 (.cons lzi (.cons pzy .nil))
abbrev izF:List (Nat×Fq):=[(109,vze)]
theorem czj:azk Tryz.prog tb (izF):=(.cons tzr .nil)
def dzF (back:List (Group)×Int×Unit×Int->Option (List (Group)))(x:List (Group)×Int×Unit×Int):Option (List (Group)):=brn (decide (x.2.1<x.2.2.2)) (obnd (inb x.1.length x.2.2.2) fun k=>obnd (nth x.1 (0+k)) fun y=>obnd (inb x.1.length (i64.wrap (x.2.2.2-1))) fun k=>obnd (nth x.1 (0+k)) fun y_1=>obnd (nzS (Group.mk y.Array y.A y.B (aze y.E),Group.mk y_1.Array y_1.A y_1.B (aze y_1.E))) fun y=>brn (decide (y<0)) (obnd (inb x.1.length (i64.wrap (x.2.2.2-1))) fun k=>obnd (nth x.1 (0+k)) fun y=>obnd (inb x.1.length x.2.2.2) fun k=>obnd (nth x.1 (0+k)) fun y_2=>obnd (inb x.1.length x.2.2.2) fun k=>obnd (nth x.1 (0+k)) fun y_3=>obnd (inb (x.1.set (0+k) (Group.mk y.Array y.A y.B (aze y.E))).length (i64.wrap (x.2.2.2-1))) fun k_1=>obnd (nth (x.1.set (0+k) (Group.mk y.Array y.A y.B (aze y.E))) (0+k_1)) fun y_4=>back ((x.1.set (0+k) (Group.mk y.Array y.A y.B (aze y.E))).set (0+k_1) (Group.mk y_2.Array y_2.A y_2.B (aze y_2.E)),x.2.1,(),i64.wrap (x.2.2.2-1))) (some x.1)) (some x.1)
def dzG:=iter dzF big
def hzH:Cq:=⟨44,[(0,.wr 141),(1,.val 3),(3,.fnp 109 0),(9,.val 3)],[(.exit 2,[(0,.wr 141)])],rg 18 35 [9],dzG,none⟩
theorem gzA:A3 Tryz.f203 44 hzH:=A4 czj .nil dzF
def dzD (back:List (Group)×Int×Int×Unit×Int->Option (List (Group)))(x:List (Group)×Int×Int×Unit×Int):Option (List (Group)):=brn (decide (x.2.2.2.2<x.2.2.1)) (obnd (dzG (x.1,x.2.1,(),x.2.2.2.2)) fun y=>back (y,x.2.1,x.2.2.1,(),i64.wrap (x.2.2.2.2+1))) (some x.1)
def dzE:=iter dzD big
def hzG:Cq:=⟨20,[(0,.wr 141),(1,.val 3),(2,.val 3),(3,.fnp 109 0),(8,.val 3)],[(.exit 0,[(0,.wr 141)])],rg 12 41 [8,9],dzE,none⟩
theorem gzz:A3 Tryz.f203 20 hzG:=A4 czj (.cons gzA .nil) dzD
def czC (x:List (Group)×Int×Int×Unit):Option (List (Group)):=obnd (dzE (x.1,x.2.1,x.2.2.1,(),i64.wrap (x.2.1+1))) fun y=>some y
def dz0:Fq:=⟨[(0,.wr 141),(1,.val 3),(2,.val 3),(3,.fnp 109 0)],[(4503599627403264,.wr 141)],czC⟩
theorem gzS:A0 203 dz0:=A2 Tryz.func203 czj (.cons gzz .nil)
def jz9 (_:List Group×Int×Int×Int×Unit):Option (Unit):=none
def ezL:Fq:=⟨[(0,.val 99),(1,.val 3),(2,.val 3),(3,.val 3),(4,.fnp 109 0)],[],jz9⟩
theorem izK:azw Tryz.prog tb 204 ezL:=PzU (fzs Tryz.func204 (by kernel_rfl))
abbrev kzQ:List (Nat×Fq):=[(203,dz0),(204,ezL)]
theorem bz2:azk Tryz.prog tb (kzQ):=(.cons gzS (.cons izK .nil))
def ezF (back:List (Group)×Int×Unit×Int×Int×Int->Option (Int×List (Group)))(x:List (Group)×Int×Unit×Int×Int×Int):Option (Int×List (Group)):=brn (decide (x.2.2.2.2.2<=x.2.1)) (obnd (czC (x.1,x.2.2.2.2.1,x.2.2.2.2.2,())) fun y=>back (y,x.2.1,(),x.2.2.2.1,x.2.2.2.2.2,i64.wrap (x.2.2.2.2.2+x.2.2.2.1))) (some (x.2.2.2.2.1,x.1))
def ezG:=iter ezF big
def jzY:Cq:=⟨28,[(0,.wr 141),(1,.val 3),(2,.fnp 109 0),(6,.val 3),(7,.val 3),(8,.val 3)],[(.exit 0,[(7,.val 3),(0,.wr 141)])],rg 11 12 [7,8],ezG,none⟩
theorem izZ:A3 Tryz.f169 28 jzY:=A4 bz2 .nil ezF
def ezJ (back:List (Group)×Int×Unit×Int×Int×Int->Option (Int×List (Group)))(x:List (Group)×Int×Unit×Int×Int×Int):Option (Int×List (Group)):=brn (decide (x.2.2.2.2.2<=x.2.1)) none (some (x.2.2.2.2.1,x.1))
def ezK:=iter ezJ big
def jz0:Cq:=⟨84,[(0,.wr 141),(1,.val 3),(2,.fnp 109 0),(6,.val 3),(7,.val 3),(8,.val 3)],[(.exit 4,[(7,.val 3),(0,.wr 141)])],rg 33 16 [7,8],ezK,none⟩
theorem iz1:A3 Tryz.f169 84 jz0:=A4 bz2 .nil ezJ
def ezH (back:List (Group)×Int×Unit×Int->Option (List (Group)))(x:List (Group)×Int×Unit×Int):Option (List (Group)):=brn (decide (x.2.2.2<x.2.1)) (obnd (ezK (x.1,x.2.1,(),x.2.2.2,0,i64.wrap (2*x.2.2.2))) fun y=>brn (decide (i64.wrap (y.1+x.2.2.2)<x.2.1)) none (back (y.2,x.2.1,(),i64.wrap (x.2.2.2*2)))) (some x.1)
def ezI:=iter ezH big
def jzZ:Cq:=⟨68,[(0,.wr 141),(1,.val 3),(2,.fnp 109 0),(6,.val 3)],[(.exit 2,[(0,.wr 141)])],rg 28 35 (rg 6 4 []),ezI,none⟩
theorem iz0:A3 Tryz.f169 68 jzZ:=A4 bz2 (.cons iz1 .nil) ezH
def ez7 (x:List (Group)×Int×Unit):Option (List (Group)):=obnd (ezG (x.1,x.2.1,(),20,0,20)) fun y=>obnd (czC (y.2,y.1,x.2.1,())) fun y=>obnd (ezI (y,x.2.1,(),20)) fun y=>some y
def kzR:Fq:=⟨[(0,.wr 141),(1,.val 3),(2,.fnp 109 0)],[(4503599627403264,.wr 141)],ez7⟩
theorem jzd:A0 169 kzR:=A2 Tryz.func169 bz2 (.cons izZ (.cons iz0 .nil))
def dzj (x:List (Group)×Unit):Option (List (Group)):=obnd (ez7 (x.1,(↑x.1.length:Int),())) fun y=>some y
def dzk:Fq:=⟨[(0,.wr 141),(1,.fnp 109 0)],[(4503599627403264,.wr 141)],dzj⟩
theorem fzI:A0 108 dzk:=A1 Tryz.func108 (.cons jzd .nil)
def kzL (x:Group×Cell):Option (Bool):=brn (decide (x.1.A.Row<=x.2.Row)) (brn (decide (x.2.Row<=x.1.B.Row)) (brn (decide (x.1.A.Col<=x.2.Col)) (some (decide (x.2.Col<=x.1.B.Col))) (some false)) (some false)) (some false)
def zzl:Fq:=⟨[(0,.val 141),(1,.val 80)],[(0,.val 4)],kzL⟩
theorem nzr:A0 48 zzl:=A1 Tryz.func48 .nil
def pzJ (x:Group×Cell2):Option (Bool):=obnd (kzL (Group.mk x.1.Array x.1.A x.1.B (aze x.1.E),x.2.At)) fun y=>some y
def vzf:Fq:=⟨[(0,.val 141),(1,.ro 108)],[(0,.val 4)],pzJ⟩
theorem xz3:A0 170 vzf:=A1 Tryz.func170 (.cons nzr .nil)
abbrev gzN:List (Nat×Fq):=[(170,vzf)]
theorem dzc:azk Tryz.prog tb (gzN):=(.cons xz3 .nil)
def azX (back:Cell2×List Group×Unit×Int×Int->Option ((Unit)⊕(Int)))(x:Cell2×List Group×Unit×Int×Int):Option ((Unit)⊕(Int)):=brn (decide (x.2.2.2.2<x.2.2.2.1)) (obnd (idx x.2.1 x.2.2.2.2) fun y=>obnd (pzJ (Group.mk y.Array y.A y.B (aze y.E),Cell2.mk x.1.At x.1.XF x.1.V x.1.Has (aze x.1.E))) fun y=>brn y (some (Sum.inr x.2.2.2.2)) (back (Cell2.mk x.1.At x.1.XF x.1.V x.1.Has (aze x.1.E),x.2.1,(),x.2.2.2.1,i64.wrap (x.2.2.2.2+1)))) (some (Sum.inl PUnit.unit))
def bz0:=iter azX big
def gzl:Cq:=⟨28,[(4294967297,.ro 108),(0,.val 99),(1,.fnp 170 1),(7,.val 3),(8,.val 3)],[(.exit 0,[]),(.ret,[(4,.val 3)])],rg 8 11 [4,5],bz0,none⟩
theorem fzG:A3 Tryz.f190 28 gzl:=A4 dzc .nil azX
def cze (x:Cell2×List Group×Unit):Option (Int):=obnd (bz0 (Cell2.mk x.1.At x.1.XF x.1.V x.1.Has (aze x.1.E),x.2.1,(),(↑x.2.1.length:Int),0)) fun y=>osum y (fun y=>some (-1)) fun y=>some y
def gzO:Fq:=⟨[(4294967297,.ro 108),(0,.val 99),(1,.fnp 170 1)],[(0,.val 3)],cze⟩
theorem fzR:A0 190 gzO:=A2 Tryz.func190 dzc (.cons fzG .nil)
def bzr (x:Cell2×List Group×Unit):Option (Bool):=obnd (cze (Cell2.mk x.1.At x.1.XF x.1.V x.1.Has (aze x.1.E),x.2.1,())) fun y=>some (decide (0<=y))
def cz9:Fq:=⟨[(4294967297,.ro 108),(0,.val 99),(1,.fnp 170 1)],[(0,.val 4)],bzr⟩
theorem fzn:A0 143 cz9:=A1 Tryz.func143 (.cons fzR .nil)
def dzP (x:List Member):Option (List Member):=some x
def gzo:Fq:=⟨[(0,.val 297)],[(0,.val 336)],dzP⟩
theorem kzP:A0 206 gzo:=A1 Tryz.func206 .nil
abbrev ez6:List (Nat×Fq):=[(1099511627787,mutS)]
theorem ezx:azk Tryz.prog tb (ez6):=(.consK kzv .nil)
def az4 (y:Member)(x:List (Member)×Unit×List Member):Option (List (Member)×Unit×List Member):=obnd (app 168 x.1 [Member.mk y.At (aze y.E)]) fun zs=>some (zs,(),x.2.2)
def cz0 (x:List (Member)×Unit×List Member):Option ((List (Member))×Unit):=some (x.1,())
def bzZ (x:List (Member)×Unit×List Member):List (Member):=x.2.2
def czZ (x:List (Member)×Unit×List Member):Option ((List (Member))×Unit):=obnd (jzI az4 (bzZ x) x) cz0
def az3:Cq:=⟨30,[(4294967298,.wr 299),(2,.box 1),(6,.val 336)],[(.normal,[(4294967298,.wr 299)])],rg 8 4 [5],czZ,none⟩
theorem jzw:BzK Tryz.f232.ntmps az3 [(7,.val 299)] #[7] (CzM (czK 30 Tryz.f232)) (CzN (czK 30 Tryz.f232))=true:=by kernel_rfl
theorem iz8:∀y x,xzf Tryz.prog tb ez6 (CzM (czK 30 Tryz.f232)) (CzN (czK 30 Tryz.f232)) [(7,.val 299)] az3.ins az3.al y x=az4 y x:=fun y x=>by kernel_rfl
theorem izD (xs:List (Member))(i:Int)(ys:List (Member)):pzk Tryz.prog tb (tzF [.sl 299 xs] [5,6] [.sl 299 xs,.int .i64 xs.length]) [(7,.val 299)] (lbOf Tryz.f224) 7 0 i ys =
 brn (decide (i<(↑xs.length:Int))) (obnd (idx xs i) fun y=>some (Sum.inl (i64.wrap (i+1),ys++[Member.mk y.At (aze y.E)]))) (some (Sum.inr ys)):=by kernel_rfl
theorem izY:∀(x:List (Member)×Unit×List Member) y,az3.J x=some y->∃c,(mzb Tryz.prog tb az3.ins x).env 6=some (.c (.d c))/\∀g w v,tb.inv g w->RepD Tryz.prog tb g w c v->szj Tryz.prog tb g w [(7,.val 299)] (bzZ x) v:=fun x y hy=>⟨.itf 224 none 299 x.2.2,by kernel_rfl,fun g w v hi hv=>MzU mixed hv (r0:=r0Of Tryz.f224) (b:=lbOf Tryz.f224) Tryz.func224 (by kernel_rfl) (by kernel_rfl) (by kernel_rfl) hi (by kernel_rfl) (by kernel_rfl) [5,6] (by kernel_rfl) (by kernel_rfl) (i0:=0) (cs:=[.sl 299 x.2.2,.int .i64 x.2.2.length]) (by kernel_rfl) (vals_loop (rep_len hv) fun i ys=>(izD _ i ys).trans (by simp only[azj];try rfl))⟩
theorem izX:czW Tryz.prog tb Tryz.f232.ntmps (czK 30 Tryz.f232) az3:=FzT (p:=[(7,.val 299)]) mixed jzw ezx rfl bzZ izY az4 iz8 cz0 (fun x=>by kernel_rfl) (fun _ _ h=>h)
def cz8 (x:List (Member)×List Member):Option (List (Member)):=obnd (czZ (x.1,(),x.2)) fun y=>some y.1
def kzN:Fq:=⟨[(0,.wr 299),(1,.val 336)],[(0,.wr 299)],cz8⟩
theorem iz9:A0 232 kzN:=A2 Tryz.func232 ezx (.cons izX .nil)
def gzh (x:List Member):Option (List (Member)):=obnd (cz8 ([],x)) fun y=>some y
def qzY:Fq:=⟨[(0,.val 336)],[(0,.wr 299)],gzh⟩
theorem ozy:A0 222 qzY:=A1 Tryz.func222 (.cons iz9 .nil)
def gzg (x:Member×Member):Option (Int):=obnd (dzM (x.1.At.Col,x.2.At.Col)) fun y=>obnd (dzM (x.1.At.Row,x.2.At.Row)) fun y_1=>obnd (mzW [y,y_1]) fun y=>some y
def qzT:Fq:=⟨[(0,.val 299),(1,.val 299)],[(0,.val 3)],gzg⟩
theorem qzU:A0 207 qzT:=A1 Tryz.func207 (.cons lzi (.cons pzy .nil))
abbrev hzf:List (Nat×Fq):=[(207,qzT)]
theorem bz4:azk Tryz.prog tb (hzf):=(.cons qzU .nil)
def az0 (back:List (Member)×Int×Unit×Int->Option (List (Member)))(x:List (Member)×Int×Unit×Int):Option (List (Member)):=brn (decide (x.2.1<x.2.2.2)) (obnd (inb x.1.length x.2.2.2) fun k=>obnd (nth x.1 (0+k)) fun y=>obnd (inb x.1.length (i64.wrap (x.2.2.2-1))) fun k=>obnd (nth x.1 (0+k)) fun y_1=>obnd (gzg (Member.mk y.At (aze y.E),Member.mk y_1.At (aze y_1.E))) fun y=>brn (decide (y<0)) (obnd (inb x.1.length (i64.wrap (x.2.2.2-1))) fun k=>obnd (nth x.1 (0+k)) fun y=>obnd (inb x.1.length x.2.2.2) fun k=>obnd (nth x.1 (0+k)) fun y_2=>obnd (inb x.1.length x.2.2.2) fun k=>obnd (nth x.1 (0+k)) fun y_3=>obnd (inb (x.1.set (0+k) (Member.mk y.At (aze y.E))).length (i64.wrap (x.2.2.2-1))) fun k_1=>obnd (nth (x.1.set (0+k) (Member.mk y.At (aze y.E))) (0+k_1)) fun y_4=>back ((x.1.set (0+k) (Member.mk y.At (aze y.E))).set (0+k_1) (Member.mk y_2.At (aze y_2.E)),x.2.1,(),i64.wrap (x.2.2.2-1))) (some x.1)) (some x.1)
def bz5:=iter az0 big
def gzv:Cq:=⟨44,[(0,.wr 299),(1,.val 3),(3,.fnp 207 0),(9,.val 3)],[(.exit 2,[(0,.wr 299)])],rg 18 35 [9],bz5,none⟩
theorem fzV:A3 Tryz.f236 44 gzv:=A4 bz4 .nil az0
def azF (back:List (Member)×Int×Int×Unit×Int->Option (List (Member)))(x:List (Member)×Int×Int×Unit×Int):Option (List (Member)):=brn (decide (x.2.2.2.2<x.2.2.1)) (obnd (bz5 (x.1,x.2.1,(),x.2.2.2.2)) fun y=>back (y,x.2.1,x.2.2.1,(),i64.wrap (x.2.2.2.2+1))) (some x.1)
def bzv:=iter azF big
def gzu:Cq:=⟨20,[(0,.wr 299),(1,.val 3),(2,.val 3),(3,.fnp 207 0),(8,.val 3)],[(.exit 0,[(0,.wr 299)])],rg 12 41 [8,9],bzv,none⟩
theorem fzU:A3 Tryz.f236 20 gzu:=A4 bz4 (.cons fzV .nil) azF
def az6 (x:List (Member)×Int×Int×Unit):Option (List (Member)):=obnd (bzv (x.1,x.2.1,x.2.2.1,(),i64.wrap (x.2.1+1))) fun y=>some y
def dzx:Fq:=⟨[(0,.wr 299),(1,.val 3),(2,.val 3),(3,.fnp 207 0)],[(4503599627403264,.wr 299)],az6⟩
theorem fzX:A0 236 dzx:=A2 Tryz.func236 bz4 (.cons fzU .nil)
def az9 (back:List (Member)×Int×Int×Int×Int->Option (List (Member)))(x:List (Member)×Int×Int×Int×Int):Option (List (Member)):=brn (decide (x.2.2.2.2<x.2.2.2.1)) (obnd (inb x.1.length (i64.wrap (x.2.2.1+x.2.2.2.2))) fun k=>obnd (nth x.1 (0+k)) fun y=>obnd (inb x.1.length (i64.wrap (x.2.1+x.2.2.2.2))) fun k=>obnd (nth x.1 (0+k)) fun y_1=>obnd (inb x.1.length (i64.wrap (x.2.1+x.2.2.2.2))) fun k=>obnd (nth x.1 (0+k)) fun y_2=>obnd (inb (x.1.set (0+k) (Member.mk y.At (aze y.E))).length (i64.wrap (x.2.2.1+x.2.2.2.2))) fun k_1=>obnd (nth (x.1.set (0+k) (Member.mk y.At (aze y.E))) (0+k_1)) fun y_3=>back ((x.1.set (0+k) (Member.mk y.At (aze y.E))).set (0+k_1) (Member.mk y_1.At (aze y_1.E)),x.2.1,x.2.2.1,x.2.2.2.1,i64.wrap (x.2.2.2.2+1))) (some x.1)
def czk:=iter az9 big
def hzM:Cq:=⟨20,[(0,.wr 299),(1,.val 3),(2,.val 3),(3,.val 3),(10,.val 3)],[(.exit 0,[(0,.wr 299)])],rg 10 28 [],czk,none⟩
theorem gzB:A3 Tryz.f239 20 hzM:=A4 .nil .nil az9
def azU (x:List (Member)×Int×Int×Int×Unit):Option (List (Member)):=obnd (czk (x.1,x.2.1,x.2.2.1,x.2.2.2.1,0)) fun y=>some y
def dz2:Fq:=⟨[(0,.wr 299),(1,.val 3),(2,.val 3),(3,.val 3),(4,.fnp 207 0)],[(4503599627403264,.wr 299)],azU⟩
theorem gzT:A0 239 dz2:=A2 Tryz.func239 .nil (.cons gzB .nil)
abbrev jzz:List (Nat×Fq):=[(239,dz2)]
theorem dz1:azk Tryz.prog tb (jzz):=(.cons gzT .nil)
def bzj (back:List (Member)×Int×Unit×Int×Int->Option (Int×List (Member)))(x:List (Member)×Int×Unit×Int×Int):Option (Int×List (Member)):=brn (!decide (x.2.2.2.1=x.2.2.2.2)) (brn (decide (x.2.2.2.2<x.2.2.2.1)) (obnd (azU (x.1,i64.wrap (x.2.1-x.2.2.2.1),x.2.1,x.2.2.2.2,())) fun y=>back (y,x.2.1,(),i64.wrap (x.2.2.2.1-x.2.2.2.2),x.2.2.2.2)) (obnd (azU (x.1,i64.wrap (x.2.1-x.2.2.2.1),i64.wrap (i64.wrap (x.2.1+x.2.2.2.2)-x.2.2.2.1),x.2.2.2.1,())) fun y=>back (y,x.2.1,(),x.2.2.2.1,i64.wrap (x.2.2.2.2-x.2.2.2.1)))) (some (x.2.2.2.1,x.1))
def czD:=iter bzj big
def izG:Cq:=⟨28,[(0,.wr 299),(2,.val 3),(4,.fnp 207 0),(10,.val 3),(11,.val 3)],[(.exit 0,[(10,.val 3),(0,.wr 299)])],rg 18 32 [10,11],czD,none⟩
theorem hzI:A3 Tryz.f238 28 izG:=A4 dz1 .nil bzj
def bzU (x:List (Member)×Int×Int×Int×Unit):Option (List (Member)):=obnd (czD (x.1,x.2.2.1,(),i64.wrap (x.2.2.1-x.2.1),i64.wrap (x.2.2.2.1-x.2.2.1))) fun y=>obnd (azU (y.2,i64.wrap (x.2.2.1-y.1),x.2.2.1,y.1,())) fun y=>some y
def ezq:Fq:=⟨[(0,.wr 299),(1,.val 3),(2,.val 3),(3,.val 3),(4,.fnp 207 0)],[(4503599627403264,.wr 299)],bzU⟩
theorem izf:A0 238 ezq:=A2 Tryz.func238 dz1 (.cons hzI .nil)
def azi (self:List (Member)×Int×Int×Int×Unit->Option (List (Member))):FSpec tb:=⟨[(0,.wr 299),(1,.val 3),(2,.val 3),(3,.val 3),(4,.fnp 207 0)],[(4503599627403264,.wr 299)],self⟩
abbrev azr (self:List (Member)×Int×Int×Int×Unit->Option (List (Member))):List (Nat×Fq):=[(207,qzT),(238,ezq),(237,(azi self))]
theorem azv (self:List (Member)×Int×Int×Int×Unit->Option (List (Member)))(hself:azw Tryz.prog tb 237 (azi self)):azk Tryz.prog tb (azr self):=(.cons qzU (.cons izf (.cons hself .nil)))
def azN (self:List (Member)×Int×Int×Int×Unit->Option (List (Member)))(back:List (Member)×Int×Unit×Int×Int->Option (Int×List (Member)))(x:List (Member)×Int×Unit×Int×Int):Option (Int×List (Member)):=brn (decide (x.2.2.2.1<x.2.2.2.2)) (obnd (inb x.1.length (i64.wrap ((u64.wrap (i64.wrap (x.2.2.2.1+x.2.2.2.2))).fdiv 2))) fun k=>obnd (nth x.1 (0+k)) fun y=>obnd (inb x.1.length x.2.1) fun k=>obnd (nth x.1 (0+k)) fun y_1=>obnd (gzg (Member.mk y.At (aze y.E),Member.mk y_1.At (aze y_1.E))) fun y=>brn (decide (y<0)) (back (x.1,x.2.1,(),i64.wrap (i64.wrap ((u64.wrap (i64.wrap (x.2.2.2.1+x.2.2.2.2))).fdiv 2)+1),x.2.2.2.2)) (back (x.1,x.2.1,(),x.2.2.2.1,i64.wrap ((u64.wrap (i64.wrap (x.2.2.2.1+x.2.2.2.2))).fdiv 2)))) (some (x.2.2.2.1,x.1))
def bzI (self:List (Member)×Int×Int×Int×Unit->Option (List (Member))):List (Member)×Int×Unit×Int×Int->Option (Int×List (Member)):=iter (azN self) big
def bzb (self:List (Member)×Int×Int×Int×Unit->Option (List (Member))):CutSpec tb:=⟨36,[(0,.wr 299),(1,.val 3),(4,.fnp 207 0),(10,.val 3),(11,.val 3)],[(.exit 0,[(10,.val 3),(0,.wr 299)])],[31,32,33,34,35,36,37,38,39,12,40,41,42,43,44,45,46,47,48,49,50,51,52,10,53,11],(bzI self),none⟩
theorem hzk (self:List (Member)×Int×Int×Int×Unit->Option (List (Member))):∀back x,gzD Tryz.prog tb (azr self) [] (czv 36 Tryz.f237) (bzb self).ins (bzb self).outs back x=azN self back x:=fun back x=>by kernel_rfl
theorem hzQ (self:List (Member)×Int×Int×Int×Unit->Option (List (Member))):cutB Tryz.f237.ntmps (bzb self) (czv 36 Tryz.f237)=true:=by kernel_rfl
theorem gzX (self:List (Member)×Int×Int×Int×Unit->Option (List (Member)))(hself:azw Tryz.prog tb 237 (azi self)):A3 Tryz.f237 36 (bzb self):=A4 (azv self hself) .nil (azN self) (hb:=(hzQ self)) (hF:=(hzk self))
def azO (self:List (Member)×Int×Int×Int×Unit->Option (List (Member)))(back:List (Member)×Int×Int->Option (List (Member)))(x:List (Member)×Int×Int):Option (List (Member)):=brn (decide (x.2.2<i64.wrap (x.2.1-1))) (obnd (inb x.1.length (i64.wrap (x.2.2+1))) fun k=>obnd (nth x.1 (0+k)) fun y=>obnd (inb x.1.length x.2.2) fun k=>obnd (nth x.1 (0+k)) fun y_1=>obnd (inb x.1.length x.2.2) fun k=>obnd (nth x.1 (0+k)) fun y_2=>obnd (inb (x.1.set (0+k) (Member.mk y.At (aze y.E))).length (i64.wrap (x.2.2+1))) fun k_1=>obnd (nth (x.1.set (0+k) (Member.mk y.At (aze y.E))) (0+k_1)) fun y_3=>back ((x.1.set (0+k) (Member.mk y.At (aze y.E))).set (0+k_1) (Member.mk y_1.At (aze y_1.E)),x.2.1,i64.wrap (x.2.2+1))) (some x.1)
def bzJ (self:List (Member)×Int×Int×Int×Unit->Option (List (Member))):List (Member)×Int×Int->Option (List (Member)):=iter (azO self) big
def bzc (self:List (Member)×Int×Int×Int×Unit->Option (List (Member))):CutSpec tb:=⟨84,[(0,.wr 299),(10,.val 3),(13,.val 3)],[(.exit 2,[(0,.wr 299)])],[55,56,57,58,61,62,63,64,65,66,67,68,69,70,71,72,73,74,75,76,59,60,13],(bzJ self),none⟩
theorem hzm (self:List (Member)×Int×Int×Int×Unit->Option (List (Member))):∀back x,gzD Tryz.prog tb (azr self) [] (czv 84 Tryz.f237) (bzc self).ins (bzc self).outs back x=azO self back x:=fun back x=>by kernel_rfl
theorem hzR (self:List (Member)×Int×Int×Int×Unit->Option (List (Member))):cutB Tryz.f237.ntmps (bzc self) (czv 84 Tryz.f237)=true:=by kernel_rfl
theorem gzY (self:List (Member)×Int×Int×Int×Unit->Option (List (Member)))(hself:azw Tryz.prog tb 237 (azi self)):A3 Tryz.f237 84 (bzc self):=A4 (azv self hself) .nil (azO self) (hb:=(hzR self)) (hF:=(hzm self))
def azP (self:List (Member)×Int×Int×Int×Unit->Option (List (Member)))(back:List (Member)×Int×Unit×Int×Int->Option (Int×List (Member)))(x:List (Member)×Int×Unit×Int×Int):Option (Int×List (Member)):=brn (decide (x.2.2.2.1<x.2.2.2.2)) (obnd (inb x.1.length x.2.1) fun k=>obnd (nth x.1 (0+k)) fun y=>obnd (inb x.1.length (i64.wrap ((u64.wrap (i64.wrap (x.2.2.2.1+x.2.2.2.2))).fdiv 2))) fun k=>obnd (nth x.1 (0+k)) fun y_1=>obnd (gzg (Member.mk y.At (aze y.E),Member.mk y_1.At (aze y_1.E))) fun y=>brn (!decide (y<0)) (back (x.1,x.2.1,(),i64.wrap (i64.wrap ((u64.wrap (i64.wrap (x.2.2.2.1+x.2.2.2.2))).fdiv 2)+1),x.2.2.2.2)) (back (x.1,x.2.1,(),x.2.2.2.1,i64.wrap ((u64.wrap (i64.wrap (x.2.2.2.1+x.2.2.2.2))).fdiv 2)))) (some (x.2.2.2.1,x.1))
def bzK (self:List (Member)×Int×Int×Int×Unit->Option (List (Member))):List (Member)×Int×Unit×Int×Int->Option (Int×List (Member)):=iter (azP self) big
def bzd (self:List (Member)×Int×Int×Int×Unit->Option (List (Member))):CutSpec tb:=⟨132,[(0,.wr 299),(2,.val 3),(4,.fnp 207 0),(14,.val 3),(15,.val 3)],[(.exit 4,[(14,.val 3),(0,.wr 299)])],[83,84,85,86,87,88,89,90,91,16,92,93,94,95,96,97,98,99,100,101,102,103,104,105,14,106,15],(bzK self),none⟩
theorem hzn (self:List (Member)×Int×Int×Int×Unit->Option (List (Member))):∀back x,gzD Tryz.prog tb (azr self) [] (czv 132 Tryz.f237) (bzd self).ins (bzd self).outs back x=azP self back x:=fun back x=>by kernel_rfl
theorem hzS (self:List (Member)×Int×Int×Int×Unit->Option (List (Member))):cutB Tryz.f237.ntmps (bzd self) (czv 132 Tryz.f237)=true:=by kernel_rfl
theorem gzZ (self:List (Member)×Int×Int×Int×Unit->Option (List (Member)))(hself:azw Tryz.prog tb 237 (azi self)):A3 Tryz.f237 132 (bzd self):=A4 (azv self hself) .nil (azP self) (hb:=(hzS self)) (hF:=(hzn self))
def azQ (self:List (Member)×Int×Int×Int×Unit->Option (List (Member)))(back:List (Member)×Int×Int->Option (List (Member)))(x:List (Member)×Int×Int):Option (List (Member)):=brn (decide (x.2.1<x.2.2)) (obnd (inb x.1.length (i64.wrap (x.2.2-1))) fun k=>obnd (nth x.1 (0+k)) fun y=>obnd (inb x.1.length x.2.2) fun k=>obnd (nth x.1 (0+k)) fun y_1=>obnd (inb x.1.length x.2.2) fun k=>obnd (nth x.1 (0+k)) fun y_2=>obnd (inb (x.1.set (0+k) (Member.mk y.At (aze y.E))).length (i64.wrap (x.2.2-1))) fun k_1=>obnd (nth (x.1.set (0+k) (Member.mk y.At (aze y.E))) (0+k_1)) fun y_3=>back ((x.1.set (0+k) (Member.mk y.At (aze y.E))).set (0+k_1) (Member.mk y_1.At (aze y_1.E)),x.2.1,i64.wrap (x.2.2-1))) (some x.1)
def bzL (self:List (Member)×Int×Int×Int×Unit->Option (List (Member))):List (Member)×Int×Int->Option (List (Member)):=iter (azQ self) big
def bze (self:List (Member)×Int×Int×Int×Unit->Option (List (Member))):CutSpec tb:=⟨180,[(0,.wr 299),(14,.val 3),(17,.val 3)],[(.exit 6,[(0,.wr 299)])],[108,109,110,113,114,115,116,117,118,119,120,121,122,123,124,125,126,127,128,111,112,17],(bzL self),none⟩
theorem hzo (self:List (Member)×Int×Int×Int×Unit->Option (List (Member))):∀back x,gzD Tryz.prog tb (azr self) [] (czv 180 Tryz.f237) (bze self).ins (bze self).outs back x=azQ self back x:=fun back x=>by kernel_rfl
theorem hzT (self:List (Member)×Int×Int×Int×Unit->Option (List (Member))):cutB Tryz.f237.ntmps (bze self) (czv 180 Tryz.f237)=true:=by kernel_rfl
theorem gz0 (self:List (Member)×Int×Int×Int×Unit->Option (List (Member)))(hself:azw Tryz.prog tb 237 (azi self)):A3 Tryz.f237 180 (bze self):=A4 (azv self hself) .nil (azQ self) (hb:=(hzT self)) (hF:=(hzo self))
def azK (self:List (Member)×Int×Int×Int×Unit->Option (List (Member)))(x:Int×Int×Int×Int×Int×Bool):Option (Int×Int):=brn x.2.2.2.2.2 (some (i64.wrap (x.2.2.2.2.1-x.2.2.1),x.2.2.2.1)) (some (x.1,x.2.1))
def azJ (self:List (Member)×Int×Int×Int×Unit->Option (List (Member))):CutSpec tb:=⟨234,[(1,.val 3),(2,.val 3),(3,.val 3),(18,.val 3),(19,.val 3),(140,.val 4)],[(.normal,[(20,.val 3),(21,.val 3)])],[141,142,143,20,144,21,145,146],(azK self),none⟩
theorem hzg (self:List (Member)×Int×Int×Int×Unit->Option (List (Member))):∀x,tzy Tryz.prog tb (azr self) [] (czK 234 Tryz.f237) (azJ self).ins (azJ self).outs x=(azJ self).J x:=fun x=>by kernel_rfl
theorem hzN (self:List (Member)×Int×Int×Int×Unit->Option (List (Member))):cutB Tryz.f237.ntmps (azJ self) (czK 234 Tryz.f237)=true:=by kernel_rfl
theorem gzU (self:List (Member)×Int×Int×Int×Unit->Option (List (Member)))(hself:azw Tryz.prog tb 237 (azi self)):A5 Tryz.f237 234 (azJ self):=A6 (azv self hself) .nil (hb:=(hzN self)) (hJ:=(hzg self))
def azR (self:List (Member)×Int×Int×Int×Unit->Option (List (Member)))(back:List (Member)×Unit×Int×Int×Int->Option (Int×List (Member)))(x:List (Member)×Unit×Int×Int×Int):Option (Int×List (Member)):=brn (decide (x.2.2.1<x.2.2.2.1)) (obnd (inb x.1.length (i64.wrap (x.2.2.2.2-i64.wrap ((u64.wrap (i64.wrap (x.2.2.1+x.2.2.2.1))).fdiv 2)))) fun k=>obnd (nth x.1 (0+k)) fun y=>obnd (inb x.1.length (i64.wrap ((u64.wrap (i64.wrap (x.2.2.1+x.2.2.2.1))).fdiv 2))) fun k=>obnd (nth x.1 (0+k)) fun y_1=>obnd (gzg (Member.mk y.At (aze y.E),Member.mk y_1.At (aze y_1.E))) fun y=>brn (!decide (y<0)) (back (x.1,(),i64.wrap (i64.wrap ((u64.wrap (i64.wrap (x.2.2.1+x.2.2.2.1))).fdiv 2)+1),x.2.2.2)) (back (x.1,(),x.2.2.1,i64.wrap ((u64.wrap (i64.wrap (x.2.2.1+x.2.2.2.1))).fdiv 2),x.2.2.2.2))) (some (x.2.2.1,x.1))
def czs (self:List (Member)×Int×Int×Int×Unit->Option (List (Member))):List (Member)×Unit×Int×Int×Int->Option (Int×List (Member)):=iter (azR self) big
def bzf (self:List (Member)×Int×Int×Int×Unit->Option (List (Member))):CutSpec tb:=⟨276,[(0,.wr 299),(4,.fnp 207 0),(20,.val 3),(21,.val 3),(22,.val 3)],[(.exit 8,[(20,.val 3),(0,.wr 299)])],[149,150,151,152,153,154,155,156,157,23,158,159,160,161,162,163,164,165,166,167,168,169,170,171,172,173,20,174,21],(czs self),none⟩
theorem hzp (self:List (Member)×Int×Int×Int×Unit->Option (List (Member))):∀back x,gzD Tryz.prog tb (azr self) [] (czv 276 Tryz.f237) (bzf self).ins (bzf self).outs back x=azR self back x:=fun back x=>by kernel_rfl
theorem hzU (self:List (Member)×Int×Int×Int×Unit->Option (List (Member))):cutB Tryz.f237.ntmps (bzf self) (czv 276 Tryz.f237)=true:=by kernel_rfl
theorem gz1 (self:List (Member)×Int×Int×Int×Unit->Option (List (Member)))(hself:azw Tryz.prog tb 237 (azi self)):A3 Tryz.f237 276 (bzf self):=A4 (azv self hself) .nil (azR self) (hb:=(hzU self)) (hF:=(hzp self))
def bza (self:List (Member)×Int×Int×Int×Unit->Option (List (Member)))(x:Int×Int×Int):Option (Bool):=brn (decide (x.2.1<x.1)) (some (decide (x.1<x.2.2))) (some false)
def azL (self:List (Member)×Int×Int×Int×Unit->Option (List (Member))):CutSpec tb:=⟨320,[(2,.val 3),(20,.val 3),(24,.val 3)],[(.normal,[(185,.val 4)])],[178,179,180,181,182,183,184,185],(bza self),none⟩
theorem hzh (self:List (Member)×Int×Int×Int×Unit->Option (List (Member))):∀x,tzy Tryz.prog tb (azr self) [] (czK 320 Tryz.f237) (azL self).ins (azL self).outs x=(azL self).J x:=fun x=>by kernel_rfl
theorem hzO (self:List (Member)×Int×Int×Int×Unit->Option (List (Member))):cutB Tryz.f237.ntmps (azL self) (czK 320 Tryz.f237)=true:=by kernel_rfl
theorem gzV (self:List (Member)×Int×Int×Int×Unit->Option (List (Member)))(hself:azw Tryz.prog tb 237 (azi self)):A5 Tryz.f237 320 (azL self):=A6 (azv self hself) .nil (hb:=(hzO self)) (hJ:=(hzh self))
def bzH (self:List (Member)×Int×Int×Int×Unit->Option (List (Member)))(x:List (Member)×Int×Unit×Int×Int×Bool):Option (List (Member)):=brn x.2.2.2.2.2 (obnd (bzU (x.1,x.2.2.2.1,x.2.1,x.2.2.2.2.1,())) fun y=>some y) (some x.1)
def azM (self:List (Member)×Int×Int×Int×Unit->Option (List (Member))):CutSpec tb:=⟨330,[(0,.wr 299),(2,.val 3),(4,.fnp 207 0),(20,.val 3),(24,.val 3),(185,.val 4)],[(.normal,[(0,.wr 299)])],[186,187,188,189,190,191],(bzH self),none⟩
theorem hzj (self:List (Member)×Int×Int×Int×Unit->Option (List (Member))):∀x,tzy Tryz.prog tb (azr self) [] (czK 330 Tryz.f237) (azM self).ins (azM self).outs x=(azM self).J x:=fun x=>by kernel_rfl
theorem hzP (self:List (Member)×Int×Int×Int×Unit->Option (List (Member))):cutB Tryz.f237.ntmps (azM self) (czK 330 Tryz.f237)=true:=by kernel_rfl
theorem gzW (self:List (Member)×Int×Int×Int×Unit->Option (List (Member)))(hself:azw Tryz.prog tb 237 (azi self)):A5 Tryz.f237 330 (azM self):=A6 (azv self hself) .nil (hb:=(hzP self)) (hJ:=(hzj self))
def azs (self:List (Member)×Int×Int×Int×Unit->Option (List (Member)))(x:List (Member)×Int×Int×Int×Unit):Option (List (Member)):=brn (decide (i64.wrap (x.2.2.1-x.2.1)=1)) (obnd ((bzI self) (x.1,x.2.1,(),x.2.2.1,x.2.2.2.1)) fun y=>obnd ((bzJ self) (y.2,y.1,x.2.1)) fun y=>some y) (brn (decide (i64.wrap (x.2.2.2.1-x.2.2.1)=1)) (obnd ((bzK self) (x.1,x.2.2.1,(),x.2.1,x.2.2.1)) fun y=>obnd ((bzL self) (y.2,y.1,x.2.2.1)) fun y=>some y) (obnd ((azK self) (x.2.1,x.2.2.1,x.2.2.2.1,i64.wrap ((u64.wrap (i64.wrap (x.2.1+x.2.2.2.1))).fdiv 2),i64.wrap (i64.wrap ((u64.wrap (i64.wrap (x.2.1+x.2.2.2.1))).fdiv 2)+x.2.2.1),decide (i64.wrap ((u64.wrap (i64.wrap (x.2.1+x.2.2.2.1))).fdiv 2)<x.2.2.1))) fun y=>obnd ((czs self) (x.1,(),y.1,y.2,i64.wrap (i64.wrap (i64.wrap ((u64.wrap (i64.wrap (x.2.1+x.2.2.2.1))).fdiv 2)+x.2.2.1)-1))) fun y=>obnd ((bza self) (x.2.2.1,y.1,i64.wrap (i64.wrap (i64.wrap ((u64.wrap (i64.wrap (x.2.1+x.2.2.2.1))).fdiv 2)+x.2.2.1)-y.1))) fun y_1=>obnd ((bzH self) (y.2,x.2.2.1,(),y.1,i64.wrap (i64.wrap (i64.wrap ((u64.wrap (i64.wrap (x.2.1+x.2.2.2.1))).fdiv 2)+x.2.2.1)-y.1),y_1)) fun y_2=>brn (decide (x.2.1<y.1)) (brn (decide (y.1<i64.wrap ((u64.wrap (i64.wrap (x.2.1+x.2.2.2.1))).fdiv 2))) (obnd (self (y_2,x.2.1,y.1,i64.wrap ((u64.wrap (i64.wrap (x.2.1+x.2.2.2.1))).fdiv 2),())) fun y_3=>brn (decide (i64.wrap ((u64.wrap (i64.wrap (x.2.1+x.2.2.2.1))).fdiv 2)<i64.wrap (i64.wrap (i64.wrap ((u64.wrap (i64.wrap (x.2.1+x.2.2.2.1))).fdiv 2)+x.2.2.1)-y.1))) (brn (decide (i64.wrap (i64.wrap (i64.wrap ((u64.wrap (i64.wrap (x.2.1+x.2.2.2.1))).fdiv 2)+x.2.2.1)-y.1)<x.2.2.2.1)) (obnd (self (y_3,i64.wrap ((u64.wrap (i64.wrap (x.2.1+x.2.2.2.1))).fdiv 2),i64.wrap (i64.wrap (i64.wrap ((u64.wrap (i64.wrap (x.2.1+x.2.2.2.1))).fdiv 2)+x.2.2.1)-y.1),x.2.2.2.1,())) fun y=>some y) (some y_3)) (some y_3)) (brn (decide (i64.wrap ((u64.wrap (i64.wrap (x.2.1+x.2.2.2.1))).fdiv 2)<i64.wrap (i64.wrap (i64.wrap ((u64.wrap (i64.wrap (x.2.1+x.2.2.2.1))).fdiv 2)+x.2.2.1)-y.1))) (brn (decide (i64.wrap (i64.wrap (i64.wrap ((u64.wrap (i64.wrap (x.2.1+x.2.2.2.1))).fdiv 2)+x.2.2.1)-y.1)<x.2.2.2.1)) (obnd (self (y_2,i64.wrap ((u64.wrap (i64.wrap (x.2.1+x.2.2.2.1))).fdiv 2),i64.wrap (i64.wrap (i64.wrap ((u64.wrap (i64.wrap (x.2.1+x.2.2.2.1))).fdiv 2)+x.2.2.1)-y.1),x.2.2.2.1,())) fun y=>some y) (some y_2)) (some y_2))) (brn (decide (i64.wrap ((u64.wrap (i64.wrap (x.2.1+x.2.2.2.1))).fdiv 2)<i64.wrap (i64.wrap (i64.wrap ((u64.wrap (i64.wrap (x.2.1+x.2.2.2.1))).fdiv 2)+x.2.2.1)-y.1))) (brn (decide (i64.wrap (i64.wrap (i64.wrap ((u64.wrap (i64.wrap (x.2.1+x.2.2.2.1))).fdiv 2)+x.2.2.1)-y.1)<x.2.2.2.1)) (obnd (self (y_2,i64.wrap ((u64.wrap (i64.wrap (x.2.1+x.2.2.2.1))).fdiv 2),i64.wrap (i64.wrap (i64.wrap ((u64.wrap (i64.wrap (x.2.1+x.2.2.2.1))).fdiv 2)+x.2.2.1)-y.1),x.2.2.2.1,())) fun y=>some y) (some y_2)) (some y_2))))
theorem izj (self:List (Member)×Int×Int×Int×Unit->Option (List (Member))):∀x,evFn Tryz.prog tb (azr self) [(bzb self),(bzc self),(bzd self),(bze self),(azJ self),(bzf self),(azL self),(azM self)] Tryz.f237 (azi (azs self)).ins (azi (azs self)).outs x=(azi (azs self)).f x:=fun x=>by kernel_rfl
theorem izL (self:List (Member)×Int×Int×Int×Unit->Option (List (Member))):fnK Tryz.f237 (azi (azs self)).ins (azi (azs self)).outs=true:=by kernel_rfl
theorem hzV (self:List (Member)×Int×Int×Int×Unit->Option (List (Member)))(hself:azw Tryz.prog tb 237 (azi self)):A0 237 (azi (azs self)):=A2 Tryz.func237 (azv self hself) (.cons (gzX self hself) (.cons (gzY self hself) (.cons (gzZ self hself) (.cons (gz0 self hself) (.cons (gzU self hself) (.cons (gz1 self hself) (.cons (gzV self hself) (.cons (gzW self hself) .nil)))))))) (hk:=(izL self)) (hJ:=(izj self))
def bzn:=iter azs big
def eze:Fq:=azi bzn
theorem hzq:azw Tryz.prog tb 237 eze:=pzh (fzs Tryz.func237 (by kernel_rfl)) hzV
abbrev jzA:List (Nat×Fq):=[(236,dzx),(237,eze)]
theorem bzP:azk Tryz.prog tb (jzA):=(.cons fzX (.cons hzq .nil))
def bzk (back:List (Member)×Int×Unit×Int×Int×Int->Option (Int×List (Member)))(x:List (Member)×Int×Unit×Int×Int×Int):Option (Int×List (Member)):=brn (decide (x.2.2.2.2.2<=x.2.1)) (obnd (az6 (x.1,x.2.2.2.2.1,x.2.2.2.2.2,())) fun y=>back (y,x.2.1,(),x.2.2.2.1,x.2.2.2.2.2,i64.wrap (x.2.2.2.2.2+x.2.2.2.1))) (some (x.2.2.2.2.1,x.1))
def czE:=iter bzk big
def izH:Cq:=⟨28,[(0,.wr 299),(1,.val 3),(2,.fnp 207 0),(6,.val 3),(7,.val 3),(8,.val 3)],[(.exit 0,[(7,.val 3),(0,.wr 299)])],rg 11 12 [7,8],czE,none⟩
theorem hzJ:A3 Tryz.f233 28 izH:=A4 bzP .nil bzk
def bzm (back:List (Member)×Int×Unit×Int×Int×Int->Option (Int×List (Member)))(x:List (Member)×Int×Unit×Int×Int×Int):Option (Int×List (Member)):=brn (decide (x.2.2.2.2.2<=x.2.1)) (obnd (bzn (x.1,x.2.2.2.2.1,i64.wrap (x.2.2.2.2.1+x.2.2.2.1),x.2.2.2.2.2,())) fun y=>back (y,x.2.1,(),x.2.2.2.1,x.2.2.2.2.2,i64.wrap (x.2.2.2.2.2+i64.wrap (2*x.2.2.2.1)))) (some (x.2.2.2.2.1,x.1))
def czG:=iter bzm big
def izJ:Cq:=⟨84,[(0,.wr 299),(1,.val 3),(2,.fnp 207 0),(6,.val 3),(7,.val 3),(8,.val 3)],[(.exit 4,[(7,.val 3),(0,.wr 299)])],rg 33 16 [7,8],czG,none⟩
theorem hzL:A3 Tryz.f233 84 izJ:=A4 bzP .nil bzm
def bzl (back:List (Member)×Int×Unit×Int->Option (List (Member)))(x:List (Member)×Int×Unit×Int):Option (List (Member)):=brn (decide (x.2.2.2<x.2.1)) (obnd (czG (x.1,x.2.1,(),x.2.2.2,0,i64.wrap (2*x.2.2.2))) fun y=>brn (decide (i64.wrap (y.1+x.2.2.2)<x.2.1)) (obnd (bzn (y.2,y.1,i64.wrap (y.1+x.2.2.2),x.2.1,())) fun y=>back (y,x.2.1,(),i64.wrap (x.2.2.2*2))) (back (y.2,x.2.1,(),i64.wrap (x.2.2.2*2)))) (some x.1)
def czF:=iter bzl big
def izI:Cq:=⟨68,[(0,.wr 299),(1,.val 3),(2,.fnp 207 0),(6,.val 3)],[(.exit 2,[(0,.wr 299)])],rg 28 35 (rg 6 4 []),czF,none⟩
theorem hzK:A3 Tryz.f233 68 izI:=A4 bzP (.cons hzL .nil) bzl
def czV (x:List (Member)×Int×Unit):Option (List (Member)):=obnd (czE (x.1,x.2.1,(),20,0,20)) fun y=>obnd (az6 (y.2,y.1,x.2.1,())) fun y=>obnd (czF (y,x.2.1,(),20)) fun y=>some y
def jzB:Fq:=⟨[(0,.wr 299),(1,.val 3),(2,.fnp 207 0)],[(4503599627403264,.wr 299)],czV⟩
theorem izg:A0 233 jzB:=A2 Tryz.func233 bzP (.cons hzJ (.cons hzK .nil))
def bzi (x:List (Member)×Unit):Option (List (Member)):=obnd (czV (x.1,(↑x.1.length:Int),())) fun y=>some y
def fzJ:Fq:=⟨[(0,.wr 299),(1,.fnp 207 0)],[(4503599627403264,.wr 299)],bzi⟩
theorem ezW:A0 223 fzJ:=A1 Tryz.func223 (.cons izg .nil)
def bzO (x:List Member×Unit):Option (List (Member)):=obnd (gzh x.1) fun y=>obnd (bzi (y,())) fun y=>some y
def dzZ:Fq:=⟨[(0,.val 336),(1,.fnp 207 0)],[(0,.own 299)],bzO⟩
theorem gzR:A0 205 dzZ:=A1 Tryz.func205 (.cons ozy (.cons ezW .nil))
def czm (x:List Expr):Option (List Expr):=some x
def hz8:Fq:=⟨[(0,.val 35)],[(0,.val 304)],czm⟩
theorem lz1:A0 173 hz8:=A1 Tryz.func173 .nil
abbrev Hzg:List (Nat×Fq):=[(173,hz8),(1099511627786,mutS),(1099511627801,mutS),(1099511627819,mutS)]
theorem pzd:azk Tryz.prog tb (Hzg):=(.cons lz1 (.consK kzv (.consK kzv (.consK kzv .nil))))
def kzd (y:Int×Expr)(x:List (Node2)×Unit×Node2×List Expr):Option (List (Node2)×Unit×Node2×List Expr):=obnd (app 160 x.1 [Node2.mk (aze y.2) (i64.wrap (x.2.2.1.deep+1))]) fun zs=>some (zs,(),Node2.mk (aze x.2.2.1.e) x.2.2.1.deep,x.2.2.2)
def szL (x:List (Node2)×Unit×Node2×List Expr):Option ((List (Node2))×Unit):=some (x.1,())
def pze (x:List (Node2)×Unit×Node2×List Expr):List (Int×Expr):=(revs x.2.2.2)
def mzw (x:List (Node2)×Unit×Node2×List Expr):Option ((List (Node2))×Unit):=obnd (jzI kzd (pze x) x) szL
def gzx:Cq:=⟨86,[(4294967300,.wr 231),(4,.box 1),(5,.ro 231),(33,.val 304)],[(.normal,[(4294967300,.wr 231)])],rg 36 8 [7],mzw,none⟩
theorem Jzo:BzK Tryz.f115.ntmps gzx [(34,.val 3),(35,.val 90)] #[34,35] (CzM (czK 86 Tryz.f115)) (CzN (czK 86 Tryz.f115))=true:=by kernel_rfl
theorem Hzi:∀y x,xzf Tryz.prog tb Hzg (CzM (czK 86 Tryz.f115)) (CzN (czK 86 Tryz.f115)) [(34,.val 3),(35,.val 90)] gzx.ins gzx.al y x=kzd y x:=fun y x=>by kernel_rfl
theorem Dzo (xs:List (Expr))(i:Int)(ys:List (Int×Expr)):pzk Tryz.prog tb (tzF [.sl 90 xs] [] []) [(34,.val 3),(35,.val 90)] (lbOf Tryz.f209) 3 0 i ys =
 brn (decide (0<=i)) (obnd (idx xs i) fun y=>some (Sum.inl (i64.wrap (i-1),ys++[(i,aze y)]))) (some (Sum.inr ys)):=by kernel_rfl
theorem Fzw:∀(x:List (Node2)×Unit×Node2×List Expr) y,gzx.J x=some y->∃c,(mzb Tryz.prog tb gzx.ins x).env 33=some (.c (.d c))/\∀g w v,tb.inv g w->RepD Tryz.prog tb g w c v->szj Tryz.prog tb g w [(34,.val 3),(35,.val 90)] (pze x) v:=fun x y hy=>⟨.itf 209 none 90 x.2.2.2,by kernel_rfl,fun g w v hi hv=>MzU mixed hv (r0:=r0Of Tryz.f209) (b:=lbOf Tryz.f209) Tryz.func209 (by kernel_rfl) (by kernel_rfl) (by kernel_rfl) hi (by kernel_rfl) (by kernel_rfl) [] (by kernel_rfl) (by kernel_rfl) (i0:=i64.wrap ((x.2.2.2.length:Int)-1)) (cs:=[]) (by kernel_rfl) (back_loop (rep_len hv) fun i ys=>(Dzo _ i ys).trans (by simp only[azj];try rfl))⟩
theorem uzo:czW Tryz.prog tb Tryz.f115.ntmps (czK 86 Tryz.f115) gzx:=FzT (p:=[(34,.val 3),(35,.val 90)]) mixed Jzo pzd rfl pze Fzw kzd Hzi szL (fun x=>by kernel_rfl) (fun _ _ h=>h)
def izm (back:List (Node2)×List (Node2)×Unit->Option ((List (Node2)×List (Node2))×Unit))(x:List (Node2)×List (Node2)×Unit):Option ((List (Node2)×List (Node2))×Unit):=brn (decide ((↑x.1.length:Int)=0)) (some ((x.1,x.2.1),())) (obnd (inb x.1.length (i64.wrap ((↑x.1.length:Int)-1))) fun k=>obnd (nth x.1 (0+k)) fun y=>obnd (sub x.1 0 (i64.wrap ((↑x.1.length:Int)-1))) fun zs=>obnd (app 160 x.2.1 [Node2.mk (aze y.e) y.deep]) fun zs_1=>obnd (czm y.e.Kids) fun y_1=>obnd (mzw (zs,(),Node2.mk (aze y.e) y.deep,y_1)) fun y=>obnd (back (y.1,zs_1,())) fun y=>some (y.1,()))
def vzI:=iter izm big
def Hzj:Cq:=⟨33,[(4294967300,.wr 231),(3,.own 231),(4,.box 1)],[(.ret,[(4294967300,.own 231),(2,.own 231)])],rg 36 8 (rg 11 23 [2,3,5,7]),vzI,none⟩
theorem Dzp:bz8 ([gzx]:List (CutSpec tb)) (oz3 (czh 21 Tryz.f115) 0)=[(86,czK 86 Tryz.f115)]:=by kernel_rfl
theorem Az3:cz1 Tryz.prog tb Tryz.f115.ntmps (czh 21 Tryz.f115) 0 Hzj:=yzF fun self hself=>nzy mixed (by kernel_rfl) (by kernel_rfl) pzd rfl Dzp (.cons rfl uzo rfl .nil) (.cons hself rfl .nil) (fun x=>by kernel_rfl)
def pzf (x:Expr):Option ((Unit)⊕(List (Node2))):=obnd (inb [Node2.mk (aze x) 1].length (i64.wrap ((↑[Node2.mk (aze x) 1].length:Int)-1))) fun k=>obnd (nth [Node2.mk (aze x) 1] (0+k)) fun y=>obnd (sub [Node2.mk (aze x) 1] 0 (i64.wrap ((↑[Node2.mk (aze x) 1].length:Int)-1))) fun zs=>obnd (app 160 [] [Node2.mk (aze y.e) y.deep]) fun zs_1=>obnd (czm y.e.Kids) fun y_1=>obnd (mzw (zs,(),Node2.mk (aze y.e) y.deep,y_1)) fun y=>obnd (vzI (y.1,zs_1,())) fun y=>some (Sum.inr y.1.2)
def Lzy:Cq:=⟨21,[(1,.ro 90)],[(.normal,[]),(.ret,[(2,.own 231)])],rg 36 8 (rg 7 27 (rg 2 4 [])),pzf,none⟩
theorem Hzk:bz8 ([gzx]:List (CutSpec tb)) (czh 21 Tryz.f115)=[(86,czK 86 Tryz.f115)]:=by kernel_rfl
theorem Fzx:czW Tryz.prog tb Tryz.f115.ntmps (.scope (czh 21 Tryz.f115)) Lzy:=rzJ mixed (by kernel_rfl) pzd rfl Hzk (.cons rfl uzo rfl .nil) (.cons Az3 rfl .nil) (fun x=>by kernel_rfl)
def nz5 (x:Expr):Option (List (Node2)):=obnd (pzf (aze x)) fun y=>osum y (fun y=>none) fun y=>some y
def Hzh:Fq:=⟨[(0,.val 90)],[(0,.own 231)],nz5⟩
theorem vzJ:A0 115 Hzh:=A2 Tryz.func115 pzd (.cons Fzx .nil)
def nzx (x:Node2×Node2):Option (Bool):=brn (decide (x.1.deep=x.2.deep)) (brn (decide (x.1.e.Kind=x.2.e.Kind)) (brn (bif false then !(decide (x.1.e.V.Kind=x.2.e.V.Kind)&&(decide (x.1.e.V.N.M=x.2.e.V.N.M)&&(decide (x.1.e.V.N.S=x.2.e.V.N.S)&&(decide (x.1.e.V.S=x.2.e.V.S)&&(decide (x.1.e.V.B=x.2.e.V.B)&&decide (x.1.e.V.E=x.2.e.V.E))))))else decide (x.1.e.V.Kind=x.2.e.V.Kind)&&(decide (x.1.e.V.N.M=x.2.e.V.N.M)&&(decide (x.1.e.V.N.S=x.2.e.V.N.S)&&(decide (x.1.e.V.S=x.2.e.V.S)&&(decide (x.1.e.V.B=x.2.e.V.B)&&decide (x.1.e.V.E=x.2.e.V.E)))))) (brn (bif false then !(decide (x.1.e.A.A.Row=x.2.e.A.A.Row)&&(decide (x.1.e.A.A.Col=x.2.e.A.A.Col)&&(decide (x.1.e.A.A.RelRow=x.2.e.A.A.RelRow)&&(decide (x.1.e.A.A.RelCol=x.2.e.A.A.RelCol)&&(decide (x.1.e.A.B.Row=x.2.e.A.B.Row)&&(decide (x.1.e.A.B.Col=x.2.e.A.B.Col)&&(decide (x.1.e.A.B.RelRow=x.2.e.A.B.RelRow)&&decide (x.1.e.A.B.RelCol=x.2.e.A.B.RelCol))))))))else decide (x.1.e.A.A.Row=x.2.e.A.A.Row)&&(decide (x.1.e.A.A.Col=x.2.e.A.A.Col)&&(decide (x.1.e.A.A.RelRow=x.2.e.A.A.RelRow)&&(decide (x.1.e.A.A.RelCol=x.2.e.A.A.RelCol)&&(decide (x.1.e.A.B.Row=x.2.e.A.B.Row)&&(decide (x.1.e.A.B.Col=x.2.e.A.B.Col)&&(decide (x.1.e.A.B.RelRow=x.2.e.A.B.RelRow)&&decide (x.1.e.A.B.RelCol=x.2.e.A.B.RelCol)))))))) (brn (decide (x.1.e.Sheet=x.2.e.Sheet)) (brn (decide (x.1.e.Op=x.2.e.Op)) (some (decide ((↑x.1.e.Kids.length:Int)=(↑x.2.e.Kids.length:Int)))) (some false)) (some false)) (some false)) (some false)) (some false)) (some false)
def Az1:Fq:=⟨[(0,.val 231),(1,.val 231)],[(0,.val 4)],nzx⟩
theorem Dzm:A0 164 Az1:=A1 Tryz.func164 .nil
abbrev ezT:List (Nat×Fq):=[(164,Az1)]
theorem czn:azk Tryz.prog tb (ezT):=(.cons Dzm .nil)
def azC (back:List Node2×Unit×List Node2×Int×Int->Option ((Unit)⊕(Bool)))(x:List Node2×Unit×List Node2×Int×Int):Option ((Unit)⊕(Bool)):=brn (decide (x.2.2.2.2<x.2.2.2.1)) (obnd (idx x.2.2.1 x.2.2.2.2) fun y=>obnd (idx x.1 x.2.2.2.2) fun y_1=>obnd (nzx (Node2.mk (aze y.e) y.deep,Node2.mk (aze y_1.e) y_1.deep)) fun y=>brn (!y) (some (Sum.inr false)) (back (x.1,(),x.2.2.1,x.2.2.2.1,i64.wrap (x.2.2.2.2+1)))) (some (Sum.inl PUnit.unit))
def bzy:=iter azC big
def ezB:Cq:=⟨44,[(1,.val 227),(2,.fnp 164 0),(15,.val 227),(16,.val 3),(17,.val 3)],[(.exit 0,[]),(.ret,[(6,.val 4)])],rg 17 15 (rg 6 4 []),bzy,none⟩
theorem ezm:A3 Tryz.f163 44 ezB:=A4 czn .nil azC
def bzF (x:List Node2×List Node2×Unit):Option (Bool):=brn (!decide ((↑x.1.length:Int)=(↑x.2.1.length:Int))) (some false) (obnd (bzy (x.2.1,(),x.1,(↑x.1.length:Int),0)) fun y=>osum y (fun y=>some true) fun y=>some y)
def ezU:Fq:=⟨[(0,.val 227),(1,.val 227),(2,.fnp 164 0)],[(0,.val 4)],bzF⟩
theorem ezo:A0 163 ezU:=A2 Tryz.func163 czn (.cons ezm .nil)
def iz2 (x:Expr×Expr):Option (Bool):=obnd (nz5 (aze x.1)) fun y=>obnd (nz5 (aze x.2)) fun y_1=>obnd (bzF (y,y_1,())) fun y=>some y
def tzB:Fq:=⟨[(0,.val 90),(1,.val 90)],[(0,.val 4)],iz2⟩
theorem izl:A0 94 tzB:=A1 Tryz.func94 (.cons vzJ (.cons ezo .nil))
def sz2 (x:Group×Member):Option (Bool):=obnd (kzL (Group.mk x.1.Array x.1.A x.1.B (aze x.1.E),x.2.At)) fun y=>some y
def zzZ:Fq:=⟨[(0,.val 141),(1,.ro 299)],[(0,.val 4)],sz2⟩
theorem Czr:A0 208 zzZ:=A1 Tryz.func208 (.cons nzr .nil)
abbrev izc:List (Nat×Fq):=[(208,zzZ)]
theorem dzr:azk Tryz.prog tb (izc):=(.cons Czr .nil)
def az2 (back:Member×List Group×Unit×Int×Int->Option ((Unit)⊕(Int)))(x:Member×List Group×Unit×Int×Int):Option ((Unit)⊕(Int)):=brn (decide (x.2.2.2.2<x.2.2.2.1)) (obnd (idx x.2.1 x.2.2.2.2) fun y=>obnd (sz2 (Group.mk y.Array y.A y.B (aze y.E),Member.mk x.1.At (aze x.1.E))) fun y=>brn y (some (Sum.inr x.2.2.2.2)) (back (Member.mk x.1.At (aze x.1.E),x.2.1,(),x.2.2.2.1,i64.wrap (x.2.2.2.2+1)))) (some (Sum.inl PUnit.unit))
def czd:=iter az2 big
def gzM:Cq:=⟨28,[(4294967297,.ro 299),(0,.val 99),(1,.fnp 208 1),(7,.val 3),(8,.val 3)],[(.exit 0,[]),(.ret,[(4,.val 3)])],rg 8 11 [4,5],czd,none⟩
theorem gzk:A3 Tryz.f190 28 gzM:=A4 dzr .nil az2
def czr (x:Member×List Group×Unit):Option (Int):=obnd (czd (Member.mk x.1.At (aze x.1.E),x.2.1,(),(↑x.2.1.length:Int),0)) fun y=>osum y (fun y=>some (-1)) fun y=>some y
def izd:Fq:=⟨[(4294967297,.ro 299),(0,.val 99),(1,.fnp 208 1)],[(0,.val 3)],czr⟩
theorem gzs:A0 190 izd:=A2 Tryz.func190 dzr (.cons gzk .nil)
def bzA (x:Member×List Group×Unit):Option (Bool):=obnd (czr (Member.mk x.1.At (aze x.1.E),x.2.1,())) fun y=>some (decide (0<=y))
def dzp:Fq:=⟨[(4294967297,.ro 299),(0,.val 99),(1,.fnp 208 1)],[(0,.val 4)],bzA⟩
theorem fzQ:A0 143 dzp:=A1 Tryz.func143 (.cons gzs .nil)
abbrev Ez8:List (Nat×Fq):=[(206,gzo),(205,dzZ),(94,tzB),(143,dzp)]
theorem fzE:azk Tryz.prog tb (Ez8):=(.cons kzP (.cons gzR (.cons izl (.cons fzQ .nil))))
def lzX (back:List Group×List (Member)×List Member×Int×Int->Option (List (Member)))(x:List Group×List (Member)×List Member×Int×Int):Option (List (Member)):=brn (decide (x.2.2.2.2<x.2.2.2.1)) (obnd (idx x.2.2.1 x.2.2.2.2) fun y=>obnd (bzA (Member.mk y.At (aze y.E),x.1,())) fun y_1=>brn (!y_1) (obnd (app 168 x.2.1 [Member.mk y.At (aze y.E)]) fun zs=>back (x.1,zs,x.2.2.1,x.2.2.2.1,i64.wrap (x.2.2.2.2+1))) (back (x.1,x.2.1,x.2.2.1,x.2.2.2.1,i64.wrap (x.2.2.2.2+1)))) (some x.2.1)
def rzL:=iter lzX big
def jzu:Cq:=⟨116,[(5,.val 99),(6,.own 299),(93,.val 297),(94,.val 3),(95,.val 3)],[(.exit 0,[(6,.own 299)])],rg 95 13 [6,10],rzL,none⟩
theorem kz8:A3 Tryz.f171 116 jzu:=A4 fzE .nil lzX
def hza (x:List Member×List (Group)×List (Member)):Option (List (Group)×List (Member)):=obnd (rzL (x.2.1,x.2.2,x.1,(↑x.1.length:Int),0)) fun y=>some (x.2.1,y)
def Gzn:Cq:=⟨105,[(0,.val 297),(5,.own 141),(6,.own 299)],[(.ret,[(2,.own 141),(3,.own 299)])],rg 93 17 [2,3,6,10],hza,none⟩
theorem Czs:bz8 ([jzu]:List (CutSpec tb)) (oz3 (czh 21 Tryz.f171) 0)=[(116,.loop (czv 116 Tryz.f171))]:=by kernel_rfl
theorem qz8:cz1 Tryz.prog tb Tryz.f171.ntmps (czh 21 Tryz.f171) 0 Gzn:=nzy mixed (by kernel_rfl) (by kernel_rfl) fzE rfl Czs (.cons rfl kz8 rfl .nil) .nil (fun x=>by kernel_rfl)
def fzF (x:List Member×Int×Int):Option (Bool):=brn (decide (x.2.2<(↑x.1.length:Int))) (brn (decide (i64.wrap (x.2.2-x.2.1)<1024)) (obnd (idx x.1 x.2.2) fun y=>obnd (idx x.1 (i64.wrap (x.2.2-1))) fun y_1=>obnd (idx x.1 x.2.1) fun y_2=>brn (bif false then !(decide (y.At.Row=i64.wrap (y_1.At.Row+1))&&decide (y.At.Col=y_2.At.Col))else decide (y.At.Row=i64.wrap (y_1.At.Row+1))&&decide (y.At.Col=y_2.At.Col)) (obnd (idx x.1 x.2.2) fun y=>obnd (idx x.1 x.2.1) fun y_3=>obnd (iz2 (aze y.E,aze y_3.E)) fun y=>some y) (some false)) (some false)) (some false)
def lzV:Cq:=⟨64,[(4,.val 297),(7,.val 3),(8,.val 3)],[(.normal,[(65,.val 4)])],rg 20 46 [],(fzF),none⟩
theorem ozS:A5 Tryz.f171 64 lzV:=A6 fzE .nil
def jzU (outer:List Member×List Member×List (Group)×List (Member)×Int->Option (List (Group)×List (Member)))(back:List Member×List Member×List (Group)×List (Member)×Int×Int->Option (List (Group)×List (Member)))(x:List Member×List Member×List (Group)×List (Member)×Int×Int):Option (List (Group)×List (Member)):=obnd (fzF (x.2.1,x.2.2.2.2)) fun y=>brn y (obnd (back (x.1,x.2.1,x.2.2.1,x.2.2.2.1,x.2.2.2.2.1,i64.wrap (x.2.2.2.2.2+1))) fun y=>some y) (brn (decide (1<i64.wrap (x.2.2.2.2.2-x.2.2.2.2.1))) (obnd (idx x.2.1 x.2.2.2.2.1) fun y=>obnd (idx x.2.1 (i64.wrap (x.2.2.2.2.2-1))) fun y_1=>obnd (idx x.2.1 x.2.2.2.2.1) fun y_2=>obnd (app 192 x.2.2.1 [Group.mk false y.At y_1.At (aze y_2.E)]) fun zs=>obnd (outer (x.1,x.2.1,zs,x.2.2.2.1,x.2.2.2.2.2)) fun y=>some y) (obnd (outer (x.1,x.2.1,x.2.2.1,x.2.2.2.1,x.2.2.2.2.2)) fun y=>some y))
def jzV (outer:List Member×List Member×List (Group)×List (Member)×Int->Option (List (Group)×List (Member))):List Member×List Member×List (Group)×List (Member)×Int×Int->Option (List (Group)×List (Member)):=iter (jzU outer) big
def mzp (outer:List Member×List Member×List (Group)×List (Member)×Int->Option (List (Group)×List (Member))):CutSpec tb:=⟨65,[(0,.val 297),(4,.val 297),(5,.own 141),(6,.own 299),(7,.val 3),(8,.val 3)],[(.ret,[(2,.own 141),(3,.own 299)])],[20,21,22,23,24,25,26,27,28,29,30,31,32,33,34,35,36,37,38,39,40,41,42,43,44,45,46,47,48,49,50,51,52,53,54,55,56,57,58,59,60,61,62,63,64,65,66,67,8,68,69,70,71,72,73,74,75,76,77,78,79,80,81,82,83,84,85,86,87,88,89,90,91,5,92,7,93,94,95,96,97,98,10,99,100,101,102,103,104,105,106,6,107,108,109,2,3,14,15,16,17,18,19],(jzV outer),none⟩
theorem Czu (outer:List Member×List Member×List (Group)×List (Member)×Int->Option (List (Group)×List (Member))):∀back x,xzg Tryz.prog tb Ez8 [lzV,jzu] [(1,(⟨49,[(0,.val 297),(4,.val 297),(5,.own 141),(6,.own 299),(7,.val 3)],[(.ret,[(2,.own 141),(3,.own 299)])],(rg 14 96 (rg 5 4 [2,3,10])),outer,none⟩:CutSpec tb)),(2,(⟨65,[(0,.val 297),(4,.val 297),(5,.own 141),(6,.own 299),(7,.val 3),(8,.val 3)],[(.ret,[(2,.own 141),(3,.own 299)])],[20,21,22,23,24,25,26,27,28,29,30,31,32,33,34,35,36,37,38,39,40,41,42,43,44,45,46,47,48,49,50,51,52,53,54,55,56,57,58,59,60,61,62,63,64,65,66,67,8,68,69,70,71,72,73,74,75,76,77,78,79,80,81,82,83,84,85,86,87,88,89,90,91,5,92,7,93,94,95,96,97,98,10,99,100,101,102,103,104,105,106,6,107,108,109,2,3,14,15,16,17,18,19],back,none⟩:CutSpec tb))] (oz3 (czh 21 Tryz.f171) 2) (mzp outer).ins (mzp outer).outs x=jzU outer back x:=fun back x=>by kernel_rfl
theorem Ezo (outer:List Member×List Member×List (Group)×List (Member)×Int->Option (List (Group)×List (Member))):cutB Tryz.f171.ntmps (mzp outer) (oz3 (czh 21 Tryz.f171) 2)=true:=by kernel_rfl
theorem Czv:bz8 ([lzV,jzu]:List (CutSpec tb)) (oz3 (czh 21 Tryz.f171) 2)=[(64,czK 64 Tryz.f171),(116,.loop (czv 116 Tryz.f171))]:=by kernel_rfl
theorem rza (outer:List Member×List Member×List (Group)×List (Member)×Int->Option (List (Group)×List (Member)))(hout:cz1 Tryz.prog tb Tryz.f171.ntmps (czh 21 Tryz.f171) 1 (⟨49,[(0,.val 297),(4,.val 297),(5,.own 141),(6,.own 299),(7,.val 3)],[(.ret,[(2,.own 141),(3,.own 299)])],(rg 14 96 (rg 5 4 [2,3,10])),outer,none⟩:CutSpec tb)):cz1 Tryz.prog tb Tryz.f171.ntmps (czh 21 Tryz.f171) 2 (mzp outer):=yzF fun self hself=>nzy mixed (by kernel_rfl) (Ezo outer) fzE rfl Czv (.cons rfl ozS rfl (.cons rfl kz8 rfl .nil)) (.cons hout rfl (.cons hself rfl .nil)) (Czu outer self)
def lzW (x:List Member×List (Group)×Int×Int×Bool):Option (List (Group)):=brn x.2.2.2.2 (obnd (idx x.1 x.2.2.1) fun y=>obnd (idx x.1 (i64.wrap (x.2.2.2.1-1))) fun y_1=>obnd (idx x.1 x.2.2.1) fun y_2=>obnd (app 192 x.2.1 [Group.mk false y.At y_1.At (aze y_2.E)]) fun zs=>some zs) (some x.2.1)
def rzK:Cq:=⟨90,[(4,.val 297),(5,.own 141),(7,.val 3),(8,.val 3),(71,.val 4)],[(.normal,[(5,.own 141)])],rg 72 20 [5],(lzW),none⟩
theorem tzq:A5 Tryz.f171 90 rzK:=A6 fzE .nil
def mzo (back:List Member×List Member×List (Group)×List (Member)×Int->Option (List (Group)×List (Member)))(x:List Member×List Member×List (Group)×List (Member)×Int):Option (List (Group)×List (Member)):=brn (decide (x.2.2.2.2=(↑x.2.1.length:Int))) (obnd (hza (x.1,x.2.2.1,x.2.2.2.1)) fun y=>some y) (obnd (fzF (x.2.1,x.2.2.2.2,i64.wrap (x.2.2.2.2+1))) fun y=>brn y (obnd (jzV back (x.1,x.2.1,x.2.2.1,x.2.2.2.1,x.2.2.2.2,i64.wrap (i64.wrap (x.2.2.2.2+1)+1))) fun y=>some y) (obnd (lzW (x.2.1,x.2.2.1,x.2.2.2.2,i64.wrap (x.2.2.2.2+1),decide (1<i64.wrap (i64.wrap (x.2.2.2.2+1)-x.2.2.2.2)))) fun y=>obnd (back (x.1,x.2.1,y,x.2.2.2.1,i64.wrap (x.2.2.2.2+1))) fun y=>some y))
def ezw:=iter mzo big
def Gzo:Cq:=⟨49,[(0,.val 297),(4,.val 297),(5,.own 141),(6,.own 299),(7,.val 3)],[(.ret,[(2,.own 141),(3,.own 299)])],rg 14 96 (rg 5 4 [2,3,10]),ezw,none⟩
theorem Czt:bz8 ([lzV,rzK,jzu]:List (CutSpec tb)) (oz3 (czh 21 Tryz.f171) 1)=[(64,czK 64 Tryz.f171),(90,czK 90 Tryz.f171),(116,.loop (czv 116 Tryz.f171))]:=by kernel_rfl
theorem qz9:cz1 Tryz.prog tb Tryz.f171.ntmps (czh 21 Tryz.f171) 1 Gzo:=yzF fun self hself=>nzy mixed (by kernel_rfl) (by kernel_rfl) fzE rfl Czt (.cons rfl ozS rfl (.cons rfl tzq rfl (.cons rfl kz8 rfl .nil))) (.cons hself rfl (.cons (rza self hself) rfl (.cons qz8 rfl .nil))) (fun x=>by kernel_rfl)
def rzM (x:List Member):Option ((Unit)⊕(List (Group)×List (Member))):=obnd (dzP x) fun y=>obnd (bzO (y,())) fun y=>brn (decide (0=(↑(List.length y):Int))) (obnd (hza (x,[],[])) fun y=>some (Sum.inr y)) (obnd (fzF (y,0,1)) fun y_1=>brn y_1 (obnd (jzV ezw (x,y,[],[],0,2)) fun y=>some (Sum.inr y)) (obnd (lzW (y,[],0,1,decide (1<1))) fun y_2=>obnd (ezw (x,y,y_2,[],1)) fun y=>some (Sum.inr y)))
def Kzr:Cq:=⟨21,[(0,.val 297)],[(.normal,[]),(.ret,[(2,.own 141),(3,.own 299)])],rg 10 100 (rg 2 7 []),rzM,none⟩
theorem Gzp:bz8 ([lzV,rzK,jzu]:List (CutSpec tb)) (czh 21 Tryz.f171)=[(64,czK 64 Tryz.f171),(90,czK 90 Tryz.f171),(116,.loop (czv 116 Tryz.f171))]:=by kernel_rfl
theorem Ezp:czW Tryz.prog tb Tryz.f171.ntmps (.scope (czh 21 Tryz.f171)) Kzr:=rzJ mixed (by kernel_rfl) fzE rfl Gzp (.cons rfl ozS rfl (.cons rfl tzq rfl (.cons rfl kz8 rfl .nil))) (.cons qz9 rfl (.cons (rza ezw qz9) rfl (.cons qz8 rfl .nil))) (fun x=>by kernel_rfl)
def oz4 (x:List Member):Option (List (Group)×List (Member)):=obnd (rzM x) fun y=>osum y (fun y=>none) fun y=>some y
def Ez9:Fq:=⟨[(0,.val 297)],[(0,.own 141),(1,.own 299)],oz4⟩
theorem Gzq:A0 171 Ez9:=A2 Tryz.func171 fzE (.cons Ezp .nil)
abbrev Kzs:List (Nat×Fq):=[(143,cz9),(171,Ez9)]
theorem tzs:azk Tryz.prog tb (Kzs):=(.cons fzn (.cons Gzq .nil))
def izV (back:List Group×List (Member)×List Cell2×Int×Int->Option (List (Member)))(x:List Group×List (Member)×List Cell2×Int×Int):Option (List (Member)):=brn (decide (x.2.2.2.2<x.2.2.2.1)) (obnd (idx x.2.2.1 x.2.2.2.2) fun y=>brn y.Has (obnd (bzr (Cell2.mk y.At y.XF y.V y.Has (aze y.E),x.1,())) fun y_1=>brn (!y_1) (obnd (app 168 x.2.1 [Member.mk y.At (aze y.E)]) fun zs=>back (x.1,zs,x.2.2.1,x.2.2.2.1,i64.wrap (x.2.2.2.2+1))) (back (x.1,x.2.1,x.2.2.1,x.2.2.2.1,i64.wrap (x.2.2.2.2+1)))) (back (x.1,x.2.1,x.2.2.1,x.2.2.2.1,i64.wrap (x.2.2.2.2+1)))) (some x.2.1)
def ozT:=iter izV big
def Ezr:Cq:=⟨36,[(1,.val 99),(5,.own 299),(10,.val 98),(11,.val 3),(12,.val 3)],[(.exit 0,[(5,.own 299)])],rg 12 21 [5,7],ozT,none⟩
theorem zzm:A3 Tryz.f110 36 Ezr:=A4 tzs .nil izV
def jzv (x:List Cell2×List Group):Option (List (Group)):=obnd (ozT (x.2,[],x.1,(↑x.1.length:Int),0)) fun y=>obnd (oz4 y) fun y=>some y.1
def rzN:Fq:=⟨[(0,.val 98),(1,.val 99)],[(0,.own 141)],jzv⟩
theorem rzb:A0 110 rzN:=A2 Tryz.func110 tzs (.cons zzm .nil)
abbrev Mzp:List (Nat×Fq):=[(106,czT),(107,Mzo),(108,dzk),(110,rzN),(1099511627841,mutS)]
theorem nze:azk Tryz.prog tb (Mzp):=(.cons nzb (.cons Lzs (.cons fzI (.cons rzb (.consK kzv .nil)))))
def vzA (back:List (Cell2)×Sheet×List Cell2×Int×Int->Option ((List (Cell2))×Sheet))(x:List (Cell2)×Sheet×List Cell2×Int×Int):Option ((List (Cell2))×Sheet):=brn (decide (x.2.2.2.2<x.2.2.2.1)) (obnd (idx x.2.2.1 x.2.2.2.2) fun y=>brn y.Has (obnd (app 240 x.1 [Cell2.mk y.At y.XF y.V y.Has (aze y.E)]) fun zs=>back (zs,Sheet.mk x.2.1.Rows zs x.2.1.Groups,x.2.2.1,x.2.2.2.1,i64.wrap (x.2.2.2.2+1))) (brn (!decide (y.V.Kind=0)) (obnd (app 240 x.1 [Cell2.mk y.At y.XF y.V y.Has (aze y.E)]) fun zs=>back (zs,Sheet.mk x.2.1.Rows zs x.2.1.Groups,x.2.2.1,x.2.2.2.1,i64.wrap (x.2.2.2.2+1))) (brn (!decide (y.XF=0)) (obnd (app 240 x.1 [Cell2.mk y.At y.XF y.V y.Has (aze y.E)]) fun zs=>back (zs,Sheet.mk x.2.1.Rows zs x.2.1.Groups,x.2.2.1,x.2.2.2.1,i64.wrap (x.2.2.2.2+1))) (back (x.1,Sheet.mk x.2.1.Rows x.1 x.2.1.Groups,x.2.2.1,x.2.2.2.1,i64.wrap (x.2.2.2.2+1)))))) (some (x.1,Sheet.mk x.2.1.Rows x.1 x.2.1.Groups))
def vzB:=iter vzA big
def Gz1:Cq:=⟨36,[(8589934595,.own 108),(3,.ref 101),(16,.val 98),(17,.val 3),(18,.val 3)],[(.exit 0,[(8589934595,.own 108)])],rg 18 24 [5],vzB,none⟩
theorem AzN:A3 Tryz.f57 36 Gz1:=A4 nze .nil vzA
def vzC (back:Sheet×List (Group)×List Group×Int×Int->Option (List (Group)))(x:Sheet×List (Group)×List Group×Int×Int):Option (List (Group)):=brn (decide (x.2.2.2.2<x.2.2.2.1)) (obnd (idx x.2.2.1 x.2.2.2.2) fun y=>brn y.Array (obnd (Mzn (x.1.Cells,y.A)) fun y_1=>brn y_1.2 (obnd (app 192 x.2.1 [Group.mk y.Array y.A y.B (aze y_1.1)]) fun zs=>back (x.1,zs,x.2.2.1,x.2.2.2.1,i64.wrap (x.2.2.2.2+1))) (obnd (app 192 x.2.1 [Group.mk y.Array y.A y.B (aze y.E)]) fun zs=>back (x.1,zs,x.2.2.1,x.2.2.2.1,i64.wrap (x.2.2.2.2+1)))) (back (x.1,x.2.1,x.2.2.1,x.2.2.2.1,i64.wrap (x.2.2.2.2+1)))) (some x.2.1)
def vzD:=iter vzC big
def Gz2:Cq:=⟨92,[(1,.ro 101),(6,.wr 141),(43,.val 99),(44,.val 3),(45,.val 3)],[(.exit 2,[(6,.wr 141)])],rg 45 22 (rg 8 3 [6]),vzD,none⟩
theorem AzO:A3 Tryz.f57 92 Gz2:=A4 nze .nil vzC
def vzz (x:List (Cell2)×Sheet×List (Group)):Option ((List (Cell2))×Sheet):=obnd (jzv (x.1,x.2.2)) fun y=>obnd (app 192 x.2.2 y) fun zs=>some (x.1,Sheet.mk x.2.1.Rows x.1 zs)
def Gz0:Cq:=⟨160,[(8589934595,.own 108),(3,.ref 101),(6,.own 141)],[(.normal,[(8589934595,.own 108)])],rg 69 7 [],(vzz),none⟩
theorem AzM:A5 Tryz.f57 160 Gz0:=A6 nze .nil
def AzK (x:Sheet):Option (Sheet):=obnd (jzm x.Rows) fun y=>obnd (vzB ([],Sheet.mk y [] [],x.Cells,(↑x.Cells.length:Int),0)) fun y=>obnd (vzD (x,[],x.Groups,(↑x.Groups.length:Int),0)) fun y_1=>obnd (dzj (y_1,())) fun y_2=>obnd (vzz (y.1,Sheet.mk y.2.Rows y.1 y.2.Groups,y_2)) fun y=>some (Sheet.mk y.2.Rows y.1 y.2.Groups)
def AzL:Fq:=⟨[(0,.val 101)],[(0,.val 101)],AzK⟩
theorem Dzh:A0 57 AzL:=A2 Tryz.func57 nze (.cons AzN (.cons AzO (.cons AzM .nil)))
def kzM (back:List (List UInt8)×List Cell2×Int×Int->Option (List (List UInt8)))(x:List (List UInt8)×List Cell2×Int×Int):Option (List (List UInt8)):=brn (decide (x.2.2.2<x.2.2.1)) (obnd (idx x.2.1 x.2.2.2) fun y=>brn (!y.Has) (brn (decide (y.V.Kind=2)) (obnd (app 16 x.1 [y.V.S]) fun zs=>back (zs,x.2.1,x.2.2.1,i64.wrap (x.2.2.2+1))) (back (x.1,x.2.1,x.2.2.1,i64.wrap (x.2.2.2+1)))) (back (x.1,x.2.1,x.2.2.1,i64.wrap (x.2.2.2+1)))) (some x.1)
def qzW:=iter kzM big
def IzN:Cq:=⟨36,[(3,.own 9),(7,.val 98),(8,.val 3),(9,.val 3)],[(.exit 0,[(3,.own 9)])],rg 9 20 [3,5],qzW,none⟩
theorem Czy:A3 Tryz.f82 36 IzN:=A4 .nil .nil kzM
def qzV (x:Sheet):Option (List (List UInt8)):=obnd (qzW ([],x.Cells,(↑x.Cells.length:Int),0)) fun y=>some y
def Czx:Fq:=⟨[(0,.val 101)],[(0,.own 9)],qzV⟩
theorem Ezs:A0 82 Czx:=A2 Tryz.func82 .nil (.cons Czy .nil)
def kzh (back:List (Int)×((List UInt8×Nat))->Option ((List (Int))×((List UInt8×Nat))))(x:List (Int)×((List UInt8×Nat))):Option ((List (Int))×((List UInt8×Nat))):=brn (decide (x.2.2<x.2.1.length)) (brn (decide ((↑(rune x.2.1 x.2.2).1:Int)<65536)) (obnd (app 8 x.1 [i64.wrap (↑(rune x.2.1 x.2.2).1:Int)]) fun zs=>back (zs,x.2.1,x.2.2+(rune x.2.1 x.2.2).2)) (obnd (app 8 x.1 [i64.wrap (55296+i64.wrap ((i32.wrap ((↑(rune x.2.1 x.2.2).1:Int)-65536)).fdiv 1024)),i64.wrap (56320+i64.wrap (bz7 BinOp.and i32 (i32.wrap ((↑(rune x.2.1 x.2.2).1:Int)-65536)) 1023))]) fun zs=>back (zs,x.2.1,x.2.2+(rune x.2.1 x.2.2).2))) (some x)
def pzs:=iter kzh big
def Lz9:Cq:=⟨36,[(3,.own 3),(7,.iter)],[(.exit 0,[(3,.own 3)])],rg 8 23 [3,5],pzs,none⟩
theorem GzD:A3 Tryz.f130 36 Lz9:=A4 .nil .nil kzh
def kzV (x:List UInt8):Option (List (Int)):=obnd (pzs ([],x,0)) fun y=>some y.1
def IzW:Fq:=⟨[(0,.val 9)],[(0,.own 3)],kzV⟩
theorem wzk:A0 130 IzW:=A2 Tryz.func130 .nil (.cons GzD .nil)
def jze (x:List UInt8):Option (Int×Int):=obnd (some (Lib.validD x)) fun y=>brn (!y) (some (0,2)) (obnd (kzV x) fun y=>brn (decide (1000<(↑(List.length y):Int))) (some (0,4)) (some ((↑(List.length y):Int),0)))
def ozC:Fq:=⟨[(0,.val 9)],[(0,.val 3),(1,.val 44)],jze⟩
theorem izy:A0 75 ozC:=A1 Tryz.func75 (.cons wzW (.cons wzk .nil))
abbrev PzS:List (Nat×Fq):=[(75,ozC)]
theorem pzr:azk Tryz.prog tb (PzS):=(.cons izy .nil)
def nzs (x:List (List UInt8)×Table×Int):Option ((List (List UInt8)×List (Int)×Int)×Table):=some (([],[],x.2.2),Table.mk [] 0)
def IzQ:Cq:=⟨153,[(4294967298,.own 9),(2,.ref 36),(4,.val 44)],[(.ret,[(4294967298,.own 9),(3,.own 3),(4,.val 44)])],[58,59,3,4],nzs,none⟩
theorem Ezv:bz8 ([]:List (CutSpec tb)) (oz3 (czh 21 Tryz.f83) 0)=[]:=by kernel_rfl
theorem CzA:cz1 Tryz.prog tb Tryz.f83.ntmps (czh 21 Tryz.f83) 0 IzQ:=nzy mixed (by kernel_rfl) (by kernel_rfl) pzr rfl Ezv .nil .nil (fun x=>by kernel_rfl)
def mzS (back:List (List UInt8)×Table×List (Int)×(List (List UInt8×Int))×List (List UInt8)×Int×Int->Option (((List (List UInt8)×List (Int))×(Table×(List (List UInt8×Int))))⊕((List (List UInt8)×Int)×(Table×(List (List UInt8×Int))))))(x:List (List UInt8)×Table×List (Int)×(List (List UInt8×Int))×List (List UInt8)×Int×Int):Option (((List (List UInt8)×List (Int))×(Table×(List (List UInt8×Int))))⊕((List (List UInt8)×Int)×(Table×(List (List UInt8×Int))))):=brn (decide (x.2.2.2.2.2.2<x.2.2.2.2.2.1)) (obnd (idx x.2.2.2.2.1 x.2.2.2.2.2.2) fun y=>obnd (jze y) fun y_1=>brn (!decide (y_1.2=0)) (some (Sum.inr ((x.1,y_1.2),Table.mk x.1 x.2.1.Uses,x.2.2.2.1))) (brn (!kz0 keq9 y x.2.2.2.1) (obnd (app 16 x.1 [y]) fun zs=>obnd (app 8 x.2.2.1 [(↑x.1.length:Int)]) fun zs_1=>back (zs,Table.mk zs x.2.1.Uses,zs_1,kz1 keq9 y (↑x.1.length:Int) x.2.2.2.1,x.2.2.2.2.1,x.2.2.2.2.2.1,i64.wrap (x.2.2.2.2.2.2+1))) (obnd (app 8 x.2.2.1 [ezS keq9 0 y x.2.2.2.1]) fun zs=>back (x.1,Table.mk x.1 x.2.1.Uses,zs,x.2.2.2.1,x.2.2.2.2.1,x.2.2.2.2.2.1,i64.wrap (x.2.2.2.2.2.2+1))))) (some (Sum.inl ((x.1,x.2.2.1),Table.mk x.1 x.2.1.Uses,x.2.2.2.1)))
def sz4:=iter mzS big
def zz0:Cq:=⟨36,[(4294967298,.own 9),(2,.ref 36),(3,.own 3),(5,.mp 9 3),(11,.val 22),(12,.val 3),(13,.val 3)],[(.exit 0,[(4294967298,.own 9),(3,.own 3)]),((.goto 0),[(4294967298,.own 9),(4,.val 44)])],rg 13 36 (rg 7 3 [3,4]),sz4,none⟩
theorem Gzv:A3 Tryz.f83 36 zz0:=A4 pzr .nil mzS
def sz5 (x:List (List UInt8)×List (List UInt8)×Table×List (Int)):Option (((List (List UInt8))×Table)⊕((List (List UInt8)×List (Int)×Int)×Table)):=obnd (sz4 (x.1,Table.mk x.1 x.2.2.1.Uses,x.2.2.2,[],x.2.1,(↑x.2.1.length:Int),0)) fun y=>osum y (fun y=>brn (decide (1024<(↑(List.length y.1.1):Int))) (obnd (nzs (y.1.1,Table.mk y.1.1 y.2.1.Uses,4)) fun y=>some (Sum.inr ((y.1.1,y.1.2),Table.mk y.1.1 y.2.Uses))) (some (Sum.inr ((y.1.1,y.1.2,0),Table.mk y.1.1 (↑x.2.1.length:Int))))) fun y=>obnd (nzs (y.1.1,Table.mk y.1.1 y.2.1.Uses,y.1.2)) fun y=>some (Sum.inr ((y.1.1,y.1.2),Table.mk y.1.1 y.2.Uses))
def Lz5:Cq:=⟨21,[(4294967298,.own 9),(0,.val 22),(2,.ref 36),(3,.own 3)],[(.normal,[(4294967298,.own 9)]),(.ret,[(4294967298,.own 9),(3,.own 3),(4,.val 44)])],rg 7 53 (rg 3 3 []),sz5,none⟩
theorem IzR:bz8 ([zz0]:List (CutSpec tb)) (czh 21 Tryz.f83)=[(36,.loop (czv 36 Tryz.f83))]:=by kernel_rfl
theorem Gzw:czW Tryz.prog tb Tryz.f83.ntmps (.scope (czh 21 Tryz.f83)) Lz5:=rzJ mixed (by kernel_rfl) pzr rfl IzR (.cons rfl Gzv rfl .nil) (.cons CzA rfl .nil) (fun x=>by kernel_rfl)
def tzZ (x:List (List UInt8)):Option (Table×List (Int)×Int):=obnd (sz5 ([],x,Table.mk [] 0,[])) fun y=>osum y (fun y=>none) fun y=>some (Table.mk y.1.1 y.2.Uses,y.1.2)
def IzP:Fq:=⟨[(0,.val 22)],[(0,.val 36),(1,.own 3),(2,.val 44)],tzZ⟩
theorem IzS:A0 83 IzP:=A2 Tryz.func83 pzr (.cons Gzw .nil)
abbrev Nz5:List (Nat×Fq):=[(82,Czx),(83,IzP)]
theorem wz5:azk Tryz.prog tb (Nz5):=(.cons Ezs (.cons IzS .nil))
def lzh (back:List (List UInt8)×List Sheet×Int×Int->Option (List (List UInt8)))(x:List (List UInt8)×List Sheet×Int×Int):Option (List (List UInt8)):=brn (decide (x.2.2.2<x.2.2.1)) (obnd (idx x.2.1 x.2.2.2) fun y=>obnd (qzV y) fun y=>obnd (app 16 x.1 y) fun zs=>back (zs,x.2.1,x.2.2.1,i64.wrap (x.2.2.2+1))) (some x.1)
def rzk:=iter lzh big
def Iz9:Cq:=⟨36,[(4,.own 9),(10,.val 40),(11,.val 3),(12,.val 3)],[(.exit 0,[(4,.own 9)])],rg 12 9 [4,6],rzk,none⟩
theorem Dzg:A3 Tryz.f36 36 Iz9:=A4 wz5 .nil lzh
def jzh (x:List Sheet):Option (Table×Int):=obnd (rzk ([],x,(↑x.length:Int),0)) fun y=>obnd (tzZ y) fun y=>some (y.1,y.2.2)
def wzp:Fq:=⟨[(0,.val 40)],[(0,.val 36),(1,.val 44)],jzh⟩
theorem uzg:A0 36 wzp:=A2 Tryz.func36 wz5 (.cons Dzg .nil)
def dze (back:List (List UInt8)×List UInt8×Int×Int->Option ((Unit)⊕(Int)))(x:List (List UInt8)×List UInt8×Int×Int):Option ((Unit)⊕(Int)):=brn (decide (x.2.2.2<x.2.2.1)) (obnd (idx x.1 x.2.2.2) fun y=>brn (decide (x.2.1=y)) (some (Sum.inr x.2.2.2)) (back (x.1,x.2.1,x.2.2.1,i64.wrap (x.2.2.2+1)))) (some (Sum.inl PUnit.unit))
def gzn:=iter dze big
def qz0:Cq:=⟨28,[(0,.val 22),(1,.val 9),(7,.val 3),(8,.val 3)],[(.exit 0,[]),(.ret,[(4,.val 3)])],rg 8 11 [4,5],gzn,none⟩
theorem oz8:A3 Tryz.f182 28 qz0:=A4 .nil .nil dze
def ize (x:List (List UInt8)×List UInt8):Option (Int):=obnd (gzn (x.1,x.2,(↑x.1.length:Int),0)) fun y=>osum y (fun y=>some (-1)) fun y=>some y
def szE:Fq:=⟨[(0,.val 22),(1,.val 9)],[(0,.val 3)],ize⟩
theorem pzL:A0 182 szE:=A2 Tryz.func182 .nil (.cons oz8 .nil)
def ezk (x:List (List UInt8)×List UInt8):Option (Bool):=obnd (ize x) fun y=>some (decide (0<=y))
def kzO:Fq:=⟨[(0,.val 22),(1,.val 9)],[(0,.val 4)],ezk⟩
theorem ozz:A0 128 kzO:=A1 Tryz.func128 (.cons pzL .nil)
abbrev Dzu:List (Nat×Fq):=[(75,ozC),(128,kzO)]
theorem qzc:azk Tryz.prog tb (Dzu):=(.cons izy (.cons ozz .nil))
def fz6 (back:List (List UInt8)×List (List UInt8)×Int×Int->Option ((Unit)⊕(Int)))(x:List (List UInt8)×List (List UInt8)×Int×Int):Option ((Unit)⊕(Int)):=brn (decide (x.2.2.2<x.2.2.1)) (obnd (idx x.2.1 x.2.2.2) fun y=>obnd (jze y) fun y_1=>brn (!decide (y_1.2=0)) (some (Sum.inr 3)) (brn (decide (y_1.1<1)) (some (Sum.inr 3)) (brn (decide (31<y_1.1)) (some (Sum.inr 3)) (obnd (sub x.1 0 x.2.2.2) fun z=>obnd (ezk (z,y)) fun y=>brn y (some (Sum.inr 7)) (back (x.1,x.2.1,x.2.2.1,i64.wrap (x.2.2.2+1))))))) (some (Sum.inl PUnit.unit))
def mzc:=iter fz6 big
def yzC:Cq:=⟨28,[(0,.val 22),(7,.val 22),(8,.val 3),(9,.val 3)],[(.exit 0,[]),(.ret,[(2,.val 44)])],rg 9 26 (rg 2 5 []),mzc,none⟩
theorem vzn:A3 Tryz.f74 28 yzC:=A4 qzc .nil fz6
def kzY (x:List (List UInt8)):Option (Int):=obnd (mzc (x,x,(↑x.length:Int),0)) fun y=>osum y (fun y=>some 0) fun y=>some y
def tzb:Fq:=⟨[(0,.val 22)],[(0,.val 44)],kzY⟩
theorem wzt:A0 74 tzb:=A2 Tryz.func74 qzc (.cons vzn .nil)
def zzD (x:Node2):Option (Bool):=some (decide (16<x.deep))
def zzE:Fq:=⟨[(0,.val 231)],[(0,.val 4)],zzD⟩
theorem Az0:A0 117 zzE:=A1 Tryz.func117 .nil
abbrev jzb:List (Nat×Fq):=[(117,zzE)]
theorem dzR:azk Tryz.prog tb (jzb):=(.cons Az0 .nil)
def bzg (back:List Node2×Unit×Int×Int->Option ((Unit)⊕(Int)))(x:List Node2×Unit×Int×Int):Option ((Unit)⊕(Int)):=brn (decide (x.2.2.2<x.2.2.1)) (obnd (idx x.1 x.2.2.2) fun y=>obnd (zzD (Node2.mk (aze y.e) y.deep)) fun y=>brn y (some (Sum.inr x.2.2.2)) (back (x.1,(),x.2.2.1,i64.wrap (x.2.2.2+1)))) (some (Sum.inl PUnit.unit))
def czt:=iter bzg big
def izi:Cq:=⟨28,[(0,.val 227),(1,.fnp 117 0),(7,.val 3),(8,.val 3)],[(.exit 0,[]),(.ret,[(4,.val 3)])],rg 8 11 [4,5],czt,none⟩
theorem hzb:A3 Tryz.f174 28 izi:=A4 dzR .nil bzg
def czJ (x:List Node2×Unit):Option (Int):=obnd (czt (x.1,(),(↑x.1.length:Int),0)) fun y=>osum y (fun y=>some (-1)) fun y=>some y
def jzc:Fq:=⟨[(0,.val 227),(1,.fnp 117 0)],[(0,.val 3)],czJ⟩
theorem hzF:A0 174 jzc:=A2 Tryz.func174 dzR (.cons hzb .nil)
def bzN (x:List Node2×Unit):Option (Bool):=obnd (czJ (x.1,())) fun y=>some (decide (0<=y))
def dzQ:Fq:=⟨[(0,.val 227),(1,.fnp 117 0)],[(0,.val 4)],bzN⟩
theorem gzy:A0 116 dzQ:=A1 Tryz.func116 (.cons hzF .nil)
def dzT (x:Int×Int×Int):Option (Bool):=brn (decide (x.2.1<=x.1)) (some (decide (x.1<=x.2.2))) (some false)
def Az4:Fq:=⟨[(0,.val 3),(1,.val 3),(2,.val 3)],[(0,.val 4)],dzT⟩
theorem ozG:A0 120 Az4:=A1 Tryz.func120 .nil
def Az2 (x:Expr):Option (Expr):=brn (decide (x.Kind=1)) (some (Expr.mk x.Kind x.V (Area.mk (Ref.mk 0 0 false false) (Ref.mk 0 0 false false)) 0 0 [])) (brn (decide (x.Kind=2)) (some (Expr.mk x.Kind (Val.mk 0 (Dec.mk 0 0) [] false 0) (Area.mk x.A.A (Ref.mk 0 0 false false)) 0 0 [])) (brn (decide (x.Kind=3)) (some (Expr.mk x.Kind (Val.mk 0 (Dec.mk 0 0) [] false 0) x.A 0 0 [])) (brn (decide (x.Kind=4)) (some (Expr.mk x.Kind (Val.mk 0 (Dec.mk 0 0) [] false 0) (Area.mk x.A.A (Ref.mk 0 0 false false)) x.Sheet 0 [])) (brn (decide (x.Kind=5)) (some (Expr.mk x.Kind (Val.mk 0 (Dec.mk 0 0) [] false 0) x.A x.Sheet 0 [])) (brn (decide (x.Kind=6)) (some (Expr.mk x.Kind (Val.mk 0 (Dec.mk 0 0) [] false 0) (Area.mk (Ref.mk 0 0 false false) (Ref.mk 0 0 false false)) 0 x.Op [])) (brn (decide (x.Kind=7)) (brn (decide (x.Kind=7)) (some (Expr.mk x.Kind (Val.mk 0 (Dec.mk 0 0) [] false 0) (Area.mk (Ref.mk 0 0 false false) (Ref.mk 0 0 false false)) 0 x.Op x.Kids)) (some (Expr.mk x.Kind (Val.mk 0 (Dec.mk 0 0) [] false 0) (Area.mk (Ref.mk 0 0 false false) (Ref.mk 0 0 false false)) 0 0 x.Kids))) (brn (decide (x.Kind=8)) (brn (decide (x.Kind=8)) (some (Expr.mk x.Kind (Val.mk 0 (Dec.mk 0 0) [] false 0) (Area.mk (Ref.mk 0 0 false false) (Ref.mk 0 0 false false)) 0 x.Op x.Kids)) (some (Expr.mk x.Kind (Val.mk 0 (Dec.mk 0 0) [] false 0) (Area.mk (Ref.mk 0 0 false false) (Ref.mk 0 0 false false)) 0 0 x.Kids))) (brn (decide (x.Kind=9)) (some (Expr.mk x.Kind (Val.mk 0 (Dec.mk 0 0) [] false 0) (Area.mk (Ref.mk 0 0 false false) (Ref.mk 0 0 false false)) 0 x.Op x.Kids)) (some (Expr.mk x.Kind (Val.mk 0 (Dec.mk 0 0) [] false 0) (Area.mk (Ref.mk 0 0 false false) (Ref.mk 0 0 false false)) 0 0 x.Kids))))))))))
def expr_ownS:Fq:=⟨[(0,.val 90)],[(0,.val 90)],Az2⟩
theorem Jzn:A0 210 expr_ownS:=A1 Tryz.func210 .nil
def wzr (x:Expr):Option (Bool):=obnd (Az2 (aze x)) fun y=>brn (bif false then !(decide (y.V.Kind=x.V.Kind)&&(decide (y.V.N.M=x.V.N.M)&&(decide (y.V.N.S=x.V.N.S)&&(decide (y.V.S=x.V.S)&&(decide (y.V.B=x.V.B)&&decide (y.V.E=x.V.E))))))else decide (y.V.Kind=x.V.Kind)&&(decide (y.V.N.M=x.V.N.M)&&(decide (y.V.N.S=x.V.N.S)&&(decide (y.V.S=x.V.S)&&(decide (y.V.B=x.V.B)&&decide (y.V.E=x.V.E)))))) (brn (bif false then !(decide (y.A.A.Row=x.A.A.Row)&&(decide (y.A.A.Col=x.A.A.Col)&&(decide (y.A.A.RelRow=x.A.A.RelRow)&&(decide (y.A.A.RelCol=x.A.A.RelCol)&&(decide (y.A.B.Row=x.A.B.Row)&&(decide (y.A.B.Col=x.A.B.Col)&&(decide (y.A.B.RelRow=x.A.B.RelRow)&&decide (y.A.B.RelCol=x.A.B.RelCol))))))))else decide (y.A.A.Row=x.A.A.Row)&&(decide (y.A.A.Col=x.A.A.Col)&&(decide (y.A.A.RelRow=x.A.A.RelRow)&&(decide (y.A.A.RelCol=x.A.A.RelCol)&&(decide (y.A.B.Row=x.A.B.Row)&&(decide (y.A.B.Col=x.A.B.Col)&&(decide (y.A.B.RelRow=x.A.B.RelRow)&&decide (y.A.B.RelCol=x.A.B.RelCol)))))))) (brn (decide (y.Sheet=x.Sheet)) (brn (decide (y.Op=x.Op)) (some (decide ((↑y.Kids.length:Int)=(↑x.Kids.length:Int)))) (some false)) (some false)) (some false)) (some false)
def Ozr:Fq:=⟨[(0,.val 90)],[(0,.val 4)],wzr⟩
theorem Fzv:A0 175 Ozr:=A1 Tryz.func175 (.cons Jzn .nil)
def zzu (x:Int):Option (Val):=some (Val.mk 4 (Dec.mk 0 0) [] false x)
def PzW:Fq:=⟨[(0,.val 3)],[(0,.val 85)],zzu⟩
theorem Iz0:A0 172 PzW:=A1 Tryz.func172 .nil
def pzM (x:Val):Option (Val):=brn (decide (x.Kind=1)) (some (Val.mk 1 x.N [] false 0)) (brn (decide (x.Kind=2)) (some (Val.mk 2 (Dec.mk 0 0) x.S false 0)) (brn (decide (x.Kind=3)) (some (Val.mk 3 (Dec.mk 0 0) [] x.B 0)) (brn (decide (x.Kind=4)) (obnd (zzu x.E) fun y=>some y) (some (Val.mk x.Kind (Dec.mk 0 0) [] false 0)))))
def val_ownS:Fq:=⟨[(0,.val 85)],[(0,.val 85)],pzM⟩
theorem Mza:A0 112 val_ownS:=A1 Tryz.func112 (.cons Iz0 .nil)
def yzu (x:Dec):Option (Int):=brn (decide (x.S<0)) (some 1) (brn (decide (9<x.S)) (some 1) (brn (decide (0<x.S)) (brn (decide (x.M.tmod 10=0)) (some 1) (some 0)) (some 0)))
def Oz1:Fq:=⟨[(0,.val 83)],[(0,.val 44)],yzu⟩
theorem Gz9:A0 113 Oz1:=A1 Tryz.func113 .nil
def CzD (x:Int):Option (List UInt8):=brn (decide (x=0)) (some (U8s [35,78,85,76,76,33])) (brn (decide (x=7)) (some (U8s [35,68,73,86,47,48,33])) (brn (decide (x=15)) (some (U8s [35,86,65,76,85,69,33])) (brn (decide (x=23)) (some (U8s [35,82,69,70,33])) (brn (decide (x=29)) (some (U8s [35,78,65,77,69,63])) (brn (decide (x=36)) (some (U8s [35,78,85,77,33])) (brn (decide (x=42)) (some [35,78,47,65]) (some [])))))))
def val_nameS:Fq:=⟨[(0,.val 3)],[(0,.val 9)],CzD⟩
theorem KzB:A0 114 val_nameS:=A1 Tryz.func114 .nil
def qz4 (x:Val):Option (Int):=brn (decide (x.Kind<0)) (some 1) (brn (decide (4<x.Kind)) (some 1) (obnd (pzM x) fun y=>brn (bif true then !(decide (x.Kind=y.Kind)&&(decide (x.N.M=y.N.M)&&(decide (x.N.S=y.N.S)&&(decide (x.S=y.S)&&(decide (x.B=y.B)&&decide (x.E=y.E))))))else decide (x.Kind=y.Kind)&&(decide (x.N.M=y.N.M)&&(decide (x.N.S=y.N.S)&&(decide (x.S=y.S)&&(decide (x.B=y.B)&&decide (x.E=y.E)))))) (some 1) (brn (decide (x.Kind=1)) (obnd (yzu x.N) fun y=>some y) (brn (decide (x.Kind=2)) (obnd (jze x.S) fun y=>some y.2) (brn (decide (x.Kind=4)) (obnd (CzD x.E) fun y=>brn (decide (y=[])) (some 1) (some 0)) (some 0))))))
def PzV:Fq:=⟨[(0,.val 85)],[(0,.val 44)],qz4⟩
theorem wzl:A0 59 PzV:=A1 Tryz.func59 (.cons Mza (.cons Gz9 (.cons izy (.cons KzB .nil))))
def lz6 (x:Cell):Option (Bool):=brn (decide (0<=x.Row)) (brn (decide (x.Row<65536)) (brn (decide (0<=x.Col)) (some (decide (x.Col<256))) (some false)) (some false)) (some false)
def Czi:Fq:=⟨[(0,.val 80)],[(0,.val 4)],lz6⟩
theorem ozq:A0 111 Czi:=A1 Tryz.func111 .nil
def ozp (x:Ref):Option (Int):=obnd (lz6 (Cell.mk x.Row x.Col)) fun y=>brn (!y) (some 12) (some 0)
def PzK:Fq:=⟨[(0,.val 86)],[(0,.val 44)],ozp⟩
theorem IzE:A0 211 PzK:=A1 Tryz.func211 (.cons ozq .nil)
def lzU (x:Area):Option (Int):=obnd (ozp x.A) fun y=>obnd (ozp x.B) fun y_1=>some (bif decide (y<y_1)then y_1 else y)
def Kzp:Fq:=⟨[(0,.val 88)],[(0,.val 44)],lzU⟩
theorem Azx:A0 176 Kzp:=A1 Tryz.func176 (.cons IzE .nil)
def qza (x:Expr):Option (Bool):=brn (decide (x.Kind=6)) (obnd (dzT (x.Op,0,1023)) fun y=>some y) (brn (decide (x.Kind=7)) (obnd (dzT (x.Op,1,3)) fun y=>brn y (some (decide ((↑x.Kids.length:Int)=1))) (some false)) (brn (decide (x.Kind=8)) (obnd (dzT (x.Op,1,12)) fun y=>brn y (some (decide ((↑x.Kids.length:Int)=2))) (some false)) (brn (decide (x.Kind=9)) (obnd (dzT (x.Op,0,29)) fun y=>brn y (some (decide ((↑x.Kids.length:Int)<=30))) (some false)) (brn (decide (x.Kind=10)) (some (decide ((↑x.Kids.length:Int)=1))) (some true)))))
def MzG:Fq:=⟨[(0,.val 90)],[(0,.val 4)],qza⟩
theorem Dzn:A0 177 MzG:=A1 Tryz.func177 (.cons ozG .nil)
def qzb (x:Expr):Option (Int):=obnd (dzT (x.Kind,1,10)) fun y=>brn (!y) (some 1) (obnd (wzr (aze x)) fun y=>brn (!y) (some 1) (brn (decide (x.Kind=1)) (obnd (qz4 x.V) fun y=>brn (!decide (y=0)) (some y) (brn (decide (x.V.Kind=0)) (some 1) (obnd (lzU x.A) fun y=>brn (!decide (y=0)) (some y) (obnd (dzT (x.Sheet,0,7)) fun y=>brn (!y) (some 1) (obnd (qza (aze x)) fun y=>brn (!y) (some 1) (some 0)))))) (obnd (lzU x.A) fun y=>brn (!decide (y=0)) (some y) (obnd (dzT (x.Sheet,0,7)) fun y=>brn (!y) (some 1) (obnd (qza (aze x)) fun y=>brn (!y) (some 1) (some 0))))))
def Hze:Fq:=⟨[(0,.val 90)],[(0,.val 44)],qzb⟩
theorem Hzf:A0 118 Hze:=A1 Tryz.func118 (.cons ozG (.cons Fzv (.cons wzl (.cons Azx (.cons Dzn .nil)))))
abbrev Ozo:List (Nat×Fq):=[(115,Hzh),(116,dzQ),(118,Hze)]
theorem xzh:azk Tryz.prog tb (Ozo):=(.cons vzJ (.cons gzy (.cons Hzf .nil)))
def lzm (back:List Node2×Int×Int->Option ((Unit)⊕(Int)))(x:List Node2×Int×Int):Option ((Unit)⊕(Int)):=brn (decide (x.2.2<x.2.1)) (obnd (idx x.1 x.2.2) fun y=>obnd (qzb (aze y.e)) fun y=>brn (!decide (y=0)) (some (Sum.inr y)) (back (x.1,x.2.1,i64.wrap (x.2.2+1)))) (some (Sum.inl PUnit.unit))
def nz4:=iter lzm big
def Jzk:Cq:=⟨68,[(14,.val 227),(15,.val 3),(16,.val 3)],[(.exit 0,[]),(.ret,[(2,.val 44)])],rg 16 11 [2,5,6],nz4,none⟩
theorem Dzl:A3 Tryz.f60 68 Jzk:=A4 xzh .nil lzm
def rz1 (x:Expr):Option (Int):=obnd (nz5 (aze x)) fun y=>obnd (bzN (y,())) fun y_1=>brn y_1 (some 11) (brn (decide (1024<(↑(List.length y):Int))) (some 4) (obnd (nz4 (y,(↑(List.length y):Int),0)) fun y=>osum y (fun y=>some 0) fun y=>some y))
def Ozp:Fq:=⟨[(0,.val 90)],[(0,.val 44)],rz1⟩
theorem Fzt:A0 60 Ozp:=A2 Tryz.func60 xzh (.cons Dzl .nil)
def bzR (x:List UInt8):Option (List (UInt8)):=app 1 [] x
def dzL:Fq:=⟨[(0,.val 178)],[(0,.own 5)],bzR⟩
theorem tzX:∀x,evFn Tryz.prog tb [] [] Tryz.f186 dzL.ins dzL.outs x=dzL.f x:=fun x=>Eq.trans (by kernel_rfl) (rzY 1 x)
theorem ezQ:A0 186 dzL:=A1 Tryz.func186 .nil (hJ:=tzX)
abbrev le_putG:List (Nat×Fq):=[(186,dzL)]
theorem HzR:azk Tryz.prog tb (le_putG):=(.cons ezQ .nil)
def qzn (back:List (UInt8)×Int×Int×Int->Option (List (UInt8)))(x:List (UInt8)×Int×Int×Int):Option (List (UInt8)):=brn (decide (x.2.2.2<x.2.2.1)) (brn (decide (i64.wrap (8*x.2.2.2)<0)) none (obnd (app 1 x.1 [UInt8.ofNat (u8.wrap (x.2.1.fdiv (2^min (i64.wrap (8*x.2.2.2)).toNat 64))).toNat]) fun zs=>back (zs,x.2.1,x.2.2.1,i64.wrap (x.2.2.2+1)))) (some x.1)
def yzQ:=iter qzn big
def Pzx:Cq:=⟨36,[(0,.own 5),(1,.val 276),(10,.val 3),(11,.val 3)],[(.exit 0,[(0,.own 5)])],rg 11 12 [0,7],yzQ,none⟩
theorem LzQ:A3 Tryz.f187 36 Pzx:=A4 HzR .nil qzn
def tz6 (x:List UInt8×Int×Int):Option (List (UInt8)):=obnd (bzR x.1) fun y=>obnd (yzQ (y,x.2.1,x.2.2,0)) fun y=>some y
def le_putS:Fq:=⟨[(0,.val 178),(1,.val 276),(2,.val 3)],[(0,.own 5)],tz6⟩
theorem uzE:A0 187 le_putS:=A2 Tryz.func187 HzR (.cons LzQ .nil)
def Bzx (x:List UInt8×Int):Option (List (UInt8)):=obnd (tz6 (x.1,u64.wrap x.2,8)) fun y=>some y
def le_Put64S:Fq:=⟨[(0,.val 178),(1,.val 2)],[(0,.own 5)],Bzx⟩
theorem JzP:A0 234 le_Put64S:=A1 Tryz.func234 (.cons uzE .nil)
def jza (x:List UInt8):Option (List (UInt8)):=app 1 [] x
def ezj:Fq:=⟨[(0,.val 178)],[(0,.wr 5)],jza⟩
theorem szC:∀x,evFn Tryz.prog tb [(1099511627781,mutS),(1099511627783,mutS)] [] Tryz.f186 ezj.ins ezj.outs x=ezj.f x:=fun x=>Eq.trans (by kernel_rfl) (rzY 1 x)
theorem qzX:A0 186 ezj:=A1 Tryz.func186 (.consK kzv (.consK kzv .nil)) (hJ:=szC)
def ozB (back:((List UInt8×Nat))->Option (((Unit)×((List UInt8×Nat)))⊕((Bool)×((List UInt8×Nat)))))(x:((List UInt8×Nat))):Option (((Unit)×((List UInt8×Nat)))⊕((Bool)×((List UInt8×Nat)))):=brn (decide (x.2<x.1.length)) (brn (decide (255<(↑(rune x.1 x.2).1:Int))) (some (Sum.inr (false,x.1,x.2+(rune x.1 x.2).2))) (back (x.1,x.2+(rune x.1 x.2).2))) (some (Sum.inl ((),x)))
def rzS:=iter ozB big
def Kzz:Cq:=⟨28,[(6,.iter)],[(.exit 0,[]),(.ret,[(2,.val 4)])],rg 7 5 [2,4],rzS,none⟩
theorem Ezy:A3 Tryz.f227 28 Kzz:=A4 .nil .nil ozB
def sze (x:List UInt8):Option (Bool):=obnd (rzS (x,0)) fun y=>osum y (fun y=>some true) fun y=>some y.1
def Fzf:Fq:=⟨[(0,.val 9)],[(0,.val 4)],sze⟩
theorem GzC:A0 227 Fzf:=A2 Tryz.func227 .nil (.cons Ezy .nil)
abbrev str_PutG:List (Nat×Fq):=[(186,ezj),(75,ozC),(227,Fzf),(130,IzW),(1099511627808,mutS)]
theorem Fzg:azk Tryz.prog tb (str_PutG):=(.cons qzX (.cons izy (.cons GzC (.cons wzk (.consK kzv .nil)))))
def pza (back:List (UInt8)×Bool×List Int×Int×Int->Option (List (UInt8)))(x:List (UInt8)×Bool×List Int×Int×Int):Option (List (UInt8)):=brn (decide (x.2.2.2.2<x.2.2.2.1)) (obnd (idx x.2.2.1 x.2.2.2.2) fun y=>obnd (app 1 x.1 [UInt8.ofNat (u8.wrap y).toNat]) fun zs=>brn (!x.2.1) (obnd (app 1 zs [UInt8.ofNat (u8.wrap (Int.fdiv y 256)).toNat]) fun zs=>back (zs,x.2.1,x.2.2.1,x.2.2.2.1,i64.wrap (x.2.2.2.2+1))) (back (zs,x.2.1,x.2.2.1,x.2.2.2.1,i64.wrap (x.2.2.2.2+1)))) (some x.1)
def szf:=iter pza big
def OzT:Cq:=⟨92,[(6,.own 5),(9,.val 4),(40,.val 23),(41,.val 3),(42,.val 3)],[(.exit 0,[(6,.own 5)])],rg 42 18 [6,11],szf,none⟩
theorem KzA:A3 Tryz.f215 92 OzT:=A4 Fzg .nil pza
def vzk (x:List UInt8×List UInt8):Option (List (UInt8)×Int):=obnd (jza x.1) fun y=>obnd (jze x.2) fun y_1=>brn (!decide (y_1.2=0)) (some (y,y_1.2)) (obnd (sze x.2) fun y_2=>obnd (app 1 y [UInt8.ofNat (u8.wrap y_1.1).toNat,UInt8.ofNat (u8.wrap (Int.fdiv y_1.1 256)).toNat,UInt8.ofNat 1]) fun zs=>brn y_2 (obnd (inb zs.length (i64.wrap ((↑zs.length:Int)-1))) fun k=>obnd (nth zs (0+k)) fun y=>obnd (kzV x.2) fun y=>obnd (szf (zs.set (0+k) (UInt8.ofNat 0),y_2,y,(↑(List.length y):Int),0)) fun y=>some (y,0)) (obnd (kzV x.2) fun y=>obnd (szf (zs,y_2,y,(↑(List.length y):Int),0)) fun y=>some (y,0)))
def NzV:Fq:=⟨[(0,.val 178),(1,.val 9)],[(0,.own 5),(1,.val 44)],vzk⟩
theorem zz1:A0 215 NzV:=A2 Tryz.func215 Fzg (.cons KzA .nil)
def pzl (x:List (UInt8)×Val):Option (List (UInt8)):=brn (decide (x.2.Kind=1)) (obnd (app 1 x.1 [UInt8.ofNat 31]) fun zs=>obnd (Bzx (zs,x.2.N.M)) fun y=>obnd (app 1 y [UInt8.ofNat (u8.wrap x.2.N.S).toNat]) fun zs=>some zs) (brn (decide (x.2.Kind=2)) (obnd (app 1 x.1 [UInt8.ofNat 23]) fun zs=>obnd (vzk (zs,x.2.S)) fun y=>some y.1) (brn (decide (x.2.Kind=3)) (brn x.2.B (obnd (app 1 x.1 [UInt8.ofNat 29,UInt8.ofNat 1]) fun zs=>some zs) (obnd (app 1 x.1 [UInt8.ofNat 29,UInt8.ofNat 0]) fun zs=>some zs)) (obnd (app 1 x.1 [UInt8.ofNat 28,UInt8.ofNat (u8.wrap x.2.E).toNat]) fun zs=>some zs)))
def LzS:Fq:=⟨[(0,.own 5),(1,.val 85)],[(0,.own 5)],pzl⟩
theorem BzJ:A0 225 LzS:=A1 Tryz.func225 (.cons JzP (.cons zz1 .nil))
def nzG (back:List (UInt8)×List Ref×Int×Int->Option (List (UInt8)))(x:List (UInt8)×List Ref×Int×Int):Option (List (UInt8)):=brn (decide (x.2.2.2<x.2.2.1)) (obnd (idx x.2.1 x.2.2.2) fun y=>brn y.RelRow (brn y.RelCol (obnd (app 1 x.1 [UInt8.ofNat (u8.wrap y.Row).toNat,UInt8.ofNat (u8.wrap (y.Row.fdiv 256)).toNat,UInt8.ofNat (u8.wrap y.Col).toNat,UInt8.ofNat 3]) fun zs=>back (zs,x.2.1,x.2.2.1,i64.wrap (x.2.2.2+1))) (obnd (app 1 x.1 [UInt8.ofNat (u8.wrap y.Row).toNat,UInt8.ofNat (u8.wrap (y.Row.fdiv 256)).toNat,UInt8.ofNat (u8.wrap y.Col).toNat,UInt8.ofNat 1]) fun zs=>back (zs,x.2.1,x.2.2.1,i64.wrap (x.2.2.2+1)))) (brn y.RelCol (obnd (app 1 x.1 [UInt8.ofNat (u8.wrap y.Row).toNat,UInt8.ofNat (u8.wrap (y.Row.fdiv 256)).toNat,UInt8.ofNat (u8.wrap y.Col).toNat,UInt8.ofNat 2]) fun zs=>back (zs,x.2.1,x.2.2.1,i64.wrap (x.2.2.2+1))) (obnd (app 1 x.1 [UInt8.ofNat (u8.wrap y.Row).toNat,UInt8.ofNat (u8.wrap (y.Row.fdiv 256)).toNat,UInt8.ofNat (u8.wrap y.Col).toNat,UInt8.ofNat 0]) fun zs=>back (zs,x.2.1,x.2.2.1,i64.wrap (x.2.2.2+1))))) (some x.1)
def uzJ:=iter nzG big
def Nzw:Cq:=⟨28,[(0,.own 5),(8,.val 363),(9,.val 3),(10,.val 3)],[(.exit 0,[(0,.own 5)])],rg 10 27 [0,6,7],uzJ,none⟩
theorem Hz4:A3 Tryz.f226 28 Nzw:=A4 .nil .nil nzG
def nzF (x:List (UInt8)×List Ref):Option (List (UInt8)):=obnd (uzJ (x.1,x.2,(↑x.2.length:Int),0)) fun y=>some y
def ptg_refsS:Fq:=⟨[(0,.own 5),(1,.val 363)],[(0,.own 5)],nzF⟩
theorem JzW:A0 226 ptg_refsS:=A2 Tryz.func226 .nil (.cons Hz4 .nil)
def tzN (x:List (UInt8)×Expr):Option (List (UInt8)):=brn (decide (x.2.Kind=1)) (obnd (pzl (x.1,x.2.V)) fun y=>some y) (brn (decide (x.2.Kind=2)) (obnd (app 1 x.1 [UInt8.ofNat 36]) fun zs=>obnd (nzF (zs,[x.2.A.A])) fun y=>some y) (brn (decide (x.2.Kind=3)) (obnd (app 1 x.1 [UInt8.ofNat 37]) fun zs=>obnd (nzF (zs,[x.2.A.A,x.2.A.B])) fun y=>some y) (brn (decide (x.2.Kind=4)) (obnd (app 1 x.1 [UInt8.ofNat 58,UInt8.ofNat (u8.wrap x.2.Sheet).toNat]) fun zs=>obnd (nzF (zs,[x.2.A.A])) fun y=>some y) (brn (decide (x.2.Kind=5)) (obnd (app 1 x.1 [UInt8.ofNat 59,UInt8.ofNat (u8.wrap x.2.Sheet).toNat]) fun zs=>obnd (nzF (zs,[x.2.A.A,x.2.A.B])) fun y=>some y) (brn (decide (x.2.Kind=6)) (obnd (app 1 x.1 [UInt8.ofNat 35,UInt8.ofNat (u8.wrap x.2.Op).toNat,UInt8.ofNat (u8.wrap (x.2.Op.fdiv 256)).toNat]) fun zs=>some zs) (brn (decide (x.2.Kind=7)) (obnd (idx [UInt8.ofNat 19,UInt8.ofNat 18,UInt8.ofNat 20] (i64.wrap (x.2.Op-1))) fun y=>obnd (app 1 x.1 [UInt8.ofNat (↑(UInt8.toNat y):Int).toNat]) fun zs=>some zs) (brn (decide (x.2.Kind=8)) (obnd (app 1 x.1 [UInt8.ofNat (u8.wrap (2+u8.wrap x.2.Op)).toNat]) fun zs=>some zs) (brn (decide (x.2.Kind=9)) (obnd (app 1 x.1 [UInt8.ofNat 34,UInt8.ofNat (u8.wrap (↑x.2.Kids.length:Int)).toNat,UInt8.ofNat (u8.wrap x.2.Op).toNat]) fun zs=>some zs) (obnd (app 1 x.1 [UInt8.ofNat 21]) fun zs=>some zs)))))))))
def Hz5:Fq:=⟨[(0,.own 5),(1,.val 90)],[(0,.own 5)],tzN⟩
theorem Hz6:A0 214 Hz5:=A1 Tryz.func214 (.cons BzJ (.cons JzW .nil))
def jzH (self:List (UInt8)×Expr->Option (List (UInt8))):FSpec tb:=⟨[(0,.own 5),(1,.val 90)],[(0,.own 5)],self⟩
abbrev FzS (self:List (UInt8)×Expr->Option (List (UInt8))):List (Nat×Fq):=[(184,(jzH self)),(214,Hz5)]
theorem EzU (self:List (UInt8)×Expr->Option (List (UInt8)))(hself:azw Tryz.prog tb 184 (jzH self)):azk Tryz.prog tb (FzS self):=(.cons hself (.cons Hz6 .nil))
def mzZ (self:List (UInt8)×Expr->Option (List (UInt8)))(back:List (UInt8)×List Expr×Int×Int->Option (List (UInt8)))(x:List (UInt8)×List Expr×Int×Int):Option (List (UInt8)):=brn (decide (x.2.2.2<x.2.2.1)) (obnd (idx x.2.1 x.2.2.2) fun y=>obnd (self (x.1,aze y)) fun y=>back (y,x.2.1,x.2.2.1,i64.wrap (x.2.2.2+1))) (some x.1)
def wzu (self:List (UInt8)×Expr->Option (List (UInt8))):List (UInt8)×List Expr×Int×Int->Option (List (UInt8)):=iter (mzZ self) big
def oz1 (self:List (UInt8)×Expr->Option (List (UInt8))):CutSpec tb:=⟨28,[(0,.own 5),(8,.val 35),(9,.val 3),(10,.val 3)],[(.exit 0,[(0,.own 5)])],[11,12,13,6,14,15,16,0,17,10],(wzu self),none⟩
theorem LzT (self:List (UInt8)×Expr->Option (List (UInt8))):∀back x,gzD Tryz.prog tb (FzS self) [] (czv 28 Tryz.f184) (oz1 self).ins (oz1 self).outs back x=mzZ self back x:=fun back x=>by kernel_rfl
theorem Nzu (self:List (UInt8)×Expr->Option (List (UInt8))):cutB Tryz.f184.ntmps (oz1 self) (czv 28 Tryz.f184)=true:=by kernel_rfl
theorem JzV (self:List (UInt8)×Expr->Option (List (UInt8)))(hself:azw Tryz.prog tb 184 (jzH self)):A3 Tryz.f184 28 (oz1 self):=A4 (EzU self hself) .nil (mzZ self) (hb:=(Nzu self)) (hF:=(LzT self))
def jzG (self:List (UInt8)×Expr->Option (List (UInt8)))(x:List (UInt8)×Expr):Option (List (UInt8)):=obnd ((wzu self) (x.1,x.2.Kids,(↑x.2.Kids.length:Int),0)) fun y=>obnd (tzN (y,aze x.2)) fun y=>some y
theorem PzH (self:List (UInt8)×Expr->Option (List (UInt8))):∀x,evFn Tryz.prog tb (FzS self) [(oz1 self)] Tryz.f184 (jzH (jzG self)).ins (jzH (jzG self)).outs x=(jzH (jzG self)).f x:=fun x=>by kernel_rfl
theorem ptg_put_k (self:List (UInt8)×Expr->Option (List (UInt8))):fnK Tryz.f184 (jzH (jzG self)).ins (jzH (jzG self)).outs=true:=by kernel_rfl
theorem Nzv (self:List (UInt8)×Expr->Option (List (UInt8)))(hself:azw Tryz.prog tb 184 (jzH self)):A0 184 (jzH (jzG self)):=A2 Tryz.func184 (EzU self hself) (.cons (JzV self hself) .nil) (hk:=(ptg_put_k self)) (hJ:=(PzH self))
def FzR:=iter jzG big
def ptg_putS:Fq:=jzH FzR
theorem LzU:azw Tryz.prog tb 184 ptg_putS:=pzh (fzs Tryz.func184 (by kernel_rfl)) Nzv
def mzY (x:Expr):Option (List (UInt8)×Int):=obnd (rz1 (aze x)) fun y=>brn (!decide (y=0)) (some ([],y)) (obnd (FzR ([],aze x)) fun y=>brn (decide (4096<(↑(List.length y):Int))) (some ([],4)) (some (y,0)))
def EzT:Fq:=⟨[(0,.val 90)],[(0,.own 5),(1,.val 44)],mzY⟩
theorem pzz:A0 131 EzT:=A1 Tryz.func131 (.cons Fzt (.cons LzU .nil))
def fz5 (self:Expr->Option (List (Expr))):FSpec tb:=⟨[(0,.val 90)],[(0,.own 90)],self⟩
abbrev yzy (self:Expr->Option (List (Expr))):List (Nat×Fq):=[(120,Az4),(62,(fz5 self))]
theorem zzF (self:Expr->Option (List (Expr)))(hself:azw Tryz.prog tb 62 (fz5 self)):azk Tryz.prog tb (yzy self):=(.cons ozG (.cons hself .nil))
def kzc (self:Expr->Option (List (Expr)))(back:List (Expr)×List Expr×Int×Int->Option (List (Expr)))(x:List (Expr)×List Expr×Int×Int):Option (List (Expr)):=brn (decide (x.2.2.2<x.2.2.1)) (obnd (idx x.2.1 x.2.2.2) fun y=>obnd (self (aze y)) fun y=>obnd (app 152 x.1 y) fun zs=>back (zs,x.2.1,x.2.2.1,i64.wrap (x.2.2.2+1))) (some x.1)
def szJ (self:Expr->Option (List (Expr))):List (Expr)×List Expr×Int×Int->Option (List (Expr)):=iter (kzc self) big
def mzv (self:Expr->Option (List (Expr))):CutSpec tb:=⟨52,[(3,.own 90),(12,.val 35),(13,.val 3),(14,.val 3)],[(.exit 0,[(3,.own 90)])],[15,16,17,5,18,19,20,21,3,22,14],(szJ self),none⟩
theorem Hzc (self:Expr->Option (List (Expr))):∀back x,gzD Tryz.prog tb (yzy self) [] (czv 52 Tryz.f62) (mzv self).ins (mzv self).outs back x=kzc self back x:=fun back x=>by kernel_rfl
theorem Jzl (self:Expr->Option (List (Expr))):cutB Tryz.f62.ntmps (mzv self) (czv 52 Tryz.f62)=true:=by kernel_rfl
theorem Fzu (self:Expr->Option (List (Expr)))(hself:azw Tryz.prog tb 62 (fz5 self)):A3 Tryz.f62 52 (mzv self):=A4 (zzF self hself) .nil (kzc self) (hb:=(Jzl self)) (hF:=(Hzc self))
def fz4 (self:Expr->Option (List (Expr)))(x:Expr):Option (List (Expr)):=obnd (dzT (x.Kind,2,6)) fun y=>brn y (some [aze x]) (obnd ((szJ self) ([],x.Kids,(↑x.Kids.length:Int),0)) fun y=>some y)
theorem MzF (self:Expr->Option (List (Expr))):∀x,evFn Tryz.prog tb (yzy self) [(mzv self)] Tryz.f62 (fz5 (fz4 self)).ins (fz5 (fz4 self)).outs x=(fz5 (fz4 self)).f x:=fun x=>by kernel_rfl
theorem Ozq (self:Expr->Option (List (Expr))):fnK Tryz.f62 (fz5 (fz4 self)).ins (fz5 (fz4 self)).outs=true:=by kernel_rfl
theorem Jzm (self:Expr->Option (List (Expr)))(hself:azw Tryz.prog tb 62 (fz5 self)):A0 62 (fz5 (fz4 self)):=A2 Tryz.func62 (zzF self hself) (.cons (Fzu self hself) .nil) (hk:=(Ozq self)) (hJ:=(MzF self))
def yzx:=iter fz4 big
def Oz9:Fq:=fz5 yzx
theorem Hzd:azw Tryz.prog tb 62 Oz9:=pzh (fzs Tryz.func62 (by kernel_rfl)) Jzm
def ozH (x:Expr):Option (Bool):=some (decide (x.Kind=6))
def tza:Fq:=⟨[(0,.val 90)],[(0,.val 4)],ozH⟩
theorem wzs:A0 132 tza:=A1 Tryz.func132 .nil
abbrev iza:List (Nat×Fq):=[(132,tza)]
theorem dzq:azk Tryz.prog tb (iza):=(.cons wzs .nil)
def az1 (back:List Expr×Unit×Int×Int->Option ((Unit)⊕(Int)))(x:List Expr×Unit×Int×Int):Option ((Unit)⊕(Int)):=brn (decide (x.2.2.2<x.2.2.1)) (obnd (idx x.1 x.2.2.2) fun y=>obnd (ozH (aze y)) fun y=>brn y (some (Sum.inr x.2.2.2)) (back (x.1,(),x.2.2.1,i64.wrap (x.2.2.2+1)))) (some (Sum.inl PUnit.unit))
def czc:=iter az1 big
def gzL:Cq:=⟨28,[(0,.val 35),(1,.fnp 132 0),(7,.val 3),(8,.val 3)],[(.exit 0,[]),(.ret,[(4,.val 3)])],rg 8 11 [4,5],czc,none⟩
theorem gzj:A3 Tryz.f119 28 gzL:=A4 dzq .nil az1
def czq (x:List Expr×Unit):Option (Int):=obnd (czc (x.1,(),(↑x.1.length:Int),0)) fun y=>osum y (fun y=>some (-1)) fun y=>some y
def izb:Fq:=⟨[(0,.val 35),(1,.fnp 132 0)],[(0,.val 3)],czq⟩
theorem gzr:A0 119 izb:=A2 Tryz.func119 dzq (.cons gzj .nil)
def bzz (x:List Expr×Unit):Option (Bool):=obnd (czq (x.1,())) fun y=>some (decide (0<=y))
def gzK:Fq:=⟨[(0,.val 35),(1,.fnp 132 0)],[(0,.val 4)],bzz⟩
theorem fzP:A0 61 gzK:=A1 Tryz.func61 (.cons gzr .nil)
def nzg (x:Expr):Option (Int):=obnd (mzY (aze x)) fun y=>brn (!decide (y.2=0)) (some y.2) (obnd (yzx (aze x)) fun y=>obnd (bzz (y,())) fun y=>brn y (some 3) (some 0))
def vzL:Fq:=⟨[(0,.val 90)],[(0,.val 44)],nzg⟩
theorem yzB:A0 76 vzL:=A1 Tryz.func76 (.cons pzz (.cons Hzd (.cons fzP .nil)))
abbrev PzT:List (Nat×Fq):=[(75,ozC)]
theorem sz6:azk Tryz.prog tb (PzT):=(.cons izy .nil)
def mzT (back:List (List UInt8)×Int×Int->Option ((Unit)⊕(Int)))(x:List (List UInt8)×Int×Int):Option ((Unit)⊕(Int)):=brn (decide (x.2.2<x.2.1)) (obnd (idx x.1 x.2.2) fun y=>obnd (jze y) fun y=>brn (!decide (y.2=0)) (some (Sum.inr y.2)) (back (x.1,x.2.1,i64.wrap (x.2.2+1)))) (some (Sum.inl PUnit.unit))
def sz7:=iter mzT big
def Lz6:Cq:=⟨52,[(16,.val 22),(17,.val 3),(18,.val 3)],[(.exit 0,[]),(.ret,[(2,.val 44)])],rg 18 13 (rg 5 3 [2]),sz7,none⟩
theorem Gzx:A3 Tryz.f133 52 Lz6:=A4 sz6 .nil mzT
def mzU (back:(List (List UInt8×Bool))×List (List UInt8)×Int×Int->Option (((Unit)×(List (List UInt8×Bool)))⊕((Int)×(List (List UInt8×Bool)))))(x:(List (List UInt8×Bool))×List (List UInt8)×Int×Int):Option (((Unit)×(List (List UInt8×Bool)))⊕((Int)×(List (List UInt8×Bool)))):=brn (decide (x.2.2.2<x.2.2.1)) (obnd (idx x.2.1 x.2.2.2) fun y=>brn (ezS keq9 false y x.1) (some (Sum.inr (7,x.1))) (back (kz1 keq9 y true x.1,x.2.1,x.2.2.1,i64.wrap (x.2.2.2+1)))) (some (Sum.inl ((),x.1)))
def sz8:=iter mzU big
def Lz7:Cq:=⟨108,[(3,.mp 9 4),(32,.val 22),(33,.val 3),(34,.val 3)],[(.exit 2,[]),(.ret,[(2,.val 44)])],rg 34 10 [2,9],sz8,none⟩
theorem Gzy:A3 Tryz.f133 108 Lz7:=A4 sz6 .nil mzU
def tz0 (x:Table):Option (Int):=brn (decide (1024<(↑x.Texts.length:Int))) (some 4) (obnd (sz7 (x.Texts,(↑x.Texts.length:Int),0)) fun y=>osum y (fun y=>obnd (sz8 ([],x.Texts,(↑x.Texts.length:Int),0)) fun y=>osum y (fun y=>brn (decide (x.Uses<(↑x.Texts.length:Int))) (some 1) (brn (decide (2147483647<x.Uses)) (some 1) (some 0))) fun y=>some y.1) fun y=>some y)
def IzT:Fq:=⟨[(0,.val 36)],[(0,.val 44)],tz0⟩
theorem IzU:A0 133 IzT:=A2 Tryz.func133 sz6 (.cons Gzx (.cons Gzy .nil))
def lz5 (x:List UInt8×Int):Option (List (UInt8)×Int):=brn (decide (x.2<0)) (obnd (bzR x.1) fun y=>some (y,1)) (brn (decide (4294967295<x.2)) (obnd (bzR x.1) fun y=>some (y,1)) (obnd (tz6 (x.1,u64.wrap x.2,4)) fun y=>some (y,0)))
def Bzw:Fq:=⟨[(0,.val 178),(1,.val 2)],[(0,.own 5),(1,.val 44)],lz5⟩
theorem xzp:A0 136 Bzw:=A1 Tryz.func136 (.cons ezQ (.cons uzE .nil))
def kzT (x:List (UInt8)×List (Int)×Maker×Int):Option ((List (UInt8)×List (Int)×Bool)×Maker):=brn (decide (i64.wrap (i64.wrap ((↑x.1.length:Int)-x.2.2.1.part)+x.2.2.2)<=224)) (some ((x.1,x.2.1,false),Maker.mk x.1 x.2.1 x.2.2.1.part)) (obnd (app 8 x.2.1 [(↑x.1.length:Int)]) fun zs=>some ((x.1,zs,true),Maker.mk x.1 zs (↑x.1.length:Int)))
def wzh:Fq:=⟨[(4294967296,.own 5),(8589934592,.own 3),(0,.ref 249),(1,.val 3)],[(4295000064,.own 5),(8589967360,.own 3),(0,.val 4)],kzT⟩
theorem zzp:A0 216 wzh:=A1 Tryz.func216 .nil
def kza (x:List UInt8×Int):Option ((Int×List UInt8)):=brn (decide (x.2<1)) none (some (x.2,x.1))
def ozF:Fq:=⟨[(0,.val 178),(1,.val 3)],[(0,.val 347)],kza⟩
theorem rzP:A0 217 ozF:=A1 Tryz.func217 .nil
abbrev wzi:List (Nat×Fq):=[(215,NzV),(216,wzh),(217,ozF)]
theorem szG:azk Tryz.prog tb (wzi):=(.cons zz1 (.cons zzp (.cons rzP .nil)))
def fzL (y:List UInt8)(x:List (UInt8)×List (Int)×Maker×List UInt8×Int×(Int×List UInt8)):Option (List (UInt8)×List (Int)×Maker×List UInt8×Int×(Int×List UInt8)):=obnd (kzT (x.1,x.2.1,Maker.mk x.1 x.2.1 x.2.2.1.part,x.2.2.2.2.1)) fun y_1=>brn y_1.1.2.2 (obnd (idx x.2.2.2.1 2) fun y_2=>obnd (app 1 y_1.1.1 [UInt8.ofNat (↑(UInt8.toNat y_2):Int).toNat]) fun zs=>obnd (app 1 zs y) fun zs=>some (zs,y_1.1.2.1,Maker.mk zs y_1.1.2.1 y_1.2.part,x.2.2.2.1,x.2.2.2.2)) (obnd (app 1 y_1.1.1 y) fun zs=>some (zs,y_1.1.2.1,Maker.mk zs y_1.1.2.1 y_1.2.part,x.2.2.2.1,x.2.2.2.2))
def nzX (x:List (UInt8)×List (Int)×Maker×List UInt8×Int×(Int×List UInt8)):Option ((List (UInt8)×List (Int))×Maker):=some ((x.1,x.2.1),Maker.mk x.1 x.2.1 x.2.2.1.part)
def kzU (x:List (UInt8)×List (Int)×Maker×List UInt8×Int×(Int×List UInt8)):List (List UInt8):=(Gz7 x.2.2.2.2.2.1.toNat x.2.2.2.2.2.2)
def nzW (x:List (UInt8)×List (Int)×Maker×List UInt8×Int×(Int×List UInt8)):Option ((List (UInt8)×List (Int))×Maker):=bif wz9 x.2.2.2.2.2.1 x.2.2.2.2.2.2 then obnd (jzI fzL (kzU x) x) nzX else none
def fzK:Cq:=⟨70,[(4294967296,.own 5),(8589934592,.own 3),(0,.ref 249),(5,.ro 178),(8,.ro 3),(40,.val 347)],[(.normal,[(4294967296,.own 5),(8589934592,.own 3)])],rg 42 24 [9],nzW,some (2,0)⟩
theorem AzD:BzK Tryz.f185.ntmps fzK [(41,.val 178)] #[41] (CzM (czK 70 Tryz.f185)) (CzN (czK 70 Tryz.f185))=true:=by kernel_rfl
theorem zzq:∀y x,xzf Tryz.prog tb wzi (CzM (czK 70 Tryz.f185)) (CzN (czK 70 Tryz.f185)) [(41,.val 178)] fzK.ins fzK.al y x=fzL y x:=fun y x=>by kernel_rfl
theorem wzV (k:Int)(xs:List (UInt8))(i:Int)(ys:List (List UInt8)):pzk Tryz.prog tb (tzF [.sl 5 xs,.int .i64 k] [] []) [(41,.val 178)] (lbOf Tryz.f228) 4 0 i ys=brn (decide (i<(xs.length:Int))) (obnd (sub xs i xs.length) fun z=>obnd (sub3 xs i (i64.wrap (i+bif decide ((z.length:Int)<k)then(z.length:Int)else k)) (i64.wrap (i+bif decide ((z.length:Int)<k)then(z.length:Int)else k))) fun z=>some (.inl (i64.wrap (i+k),ys++[z]))) (some (.inr ys)):=by kernel_rfl
theorem yzb:∀(x:List (UInt8)×List (Int)×Maker×List UInt8×Int×(Int×List UInt8)) y,fzK.J x=some y->∃c,(mzb Tryz.prog tb fzK.ins x).env 40=some (.c (.d c))/\∀g w v,tb.inv g w->RepD Tryz.prog tb g w c v->szj Tryz.prog tb g w [(41,.val 178)] (kzU x) v:=fun x y hy=>⟨.itf 228 (some x.2.2.2.2.2.1) 5 x.2.2.2.2.2.2,by kernel_rfl,fun g w v hi hv=>iter_itf2 mixed hv (r0:=r0Of Tryz.f228) (b:=lbOf Tryz.f228) Tryz.func228 (by kernel_rfl) (by kernel_rfl) (by kernel_rfl) hi (by kernel_rfl) (by kernel_rfl) [] (by kernel_rfl) (by kernel_rfl) (i0:=0) (cs:=[]) (by kernel_rfl) (OzZ (Mzh hy).1 fun i ys=>wzV _ _ i ys)⟩
theorem yza:czW Tryz.prog tb Tryz.f185.ntmps (czK 70 Tryz.f185) fzK:=FzT (p:=[(41,.val 178)]) mixed AzD szG rfl kzU yzb fzL zzq nzX (fun x=>by kernel_rfl) (fun _ _ h=>(Mzh h).2)
def nzt (x:List (UInt8)×List (Int)×Maker×List UInt8):Option ((List (UInt8)×List (Int)×Int)×Maker):=obnd (vzk ([],x.2.2.2)) fun y=>obnd (kzT (x.1,x.2.1,Maker.mk x.1 x.2.1 x.2.2.1.part,3)) fun y_1=>obnd (sub y.1 0 3) fun z=>obnd (app 1 y_1.1.1 z) fun zs=>obnd (idx y.1 2) fun y_2=>obnd (sub y.1 3 (↑(List.length y.1):Int)) fun z=>obnd (kza (z,i64.wrap (1+i64.wrap (↑(UInt8.toNat y_2):Int)))) fun y_3=>obnd (nzW (zs,y_1.1.2.1,Maker.mk zs y_1.1.2.1 y_1.2.part,y.1,i64.wrap (1+i64.wrap (↑(UInt8.toNat y_2):Int)),y_3)) fun y=>some ((y.1.1,y.1.2,(↑(List.length y_1.1.1):Int)),Maker.mk y.1.1 y.1.2 y.2.part)
def wzj:Fq:=⟨[(4294967296,.own 5),(8589934592,.own 3),(0,.ref 249),(1,.val 9)],[(4295000064,.own 5),(8589967360,.own 3),(0,.val 3)],nzt⟩
theorem zzr:A0 185 wzj:=A2 Tryz.func185 szG (.cons yza .nil)
abbrev sst_madeG:List (Nat×Fq):=[(136,Bzw),(185,wzj)]
theorem CzC:azk Tryz.prog tb (sst_madeG):=(.cons xzp (.cons zzr .nil))
def nzV (back:List (UInt8)×List (Int)×Maker×List (Int)×List (List UInt8)×Int×Int->Option ((List (UInt8)×List (Int)×List (Int))×Maker))(x:List (UInt8)×List (Int)×Maker×List (Int)×List (List UInt8)×Int×Int):Option ((List (UInt8)×List (Int)×List (Int))×Maker):=brn (decide (x.2.2.2.2.2.2<x.2.2.2.2.2.1)) (obnd (idx x.2.2.2.2.1 x.2.2.2.2.2.2) fun y=>obnd (nzt (x.1,x.2.1,Maker.mk x.1 x.2.1 x.2.2.1.part,y)) fun y=>obnd (app 8 x.2.2.2.1 [y.1.2.2]) fun zs=>back (y.1.1,y.1.2.1,Maker.mk y.1.1 y.1.2.1 y.2.part,zs,x.2.2.2.2.1,x.2.2.2.2.2.1,i64.wrap (x.2.2.2.2.2.2+1))) (some ((x.1,x.2.1,x.2.2.2.1),Maker.mk x.1 x.2.1 x.2.2.1.part))
def vzj:=iter nzV big
def NzU:Cq:=⟨60,[(4294967300,.own 5),(8589934596,.own 3),(4,.ref 249),(5,.own 3),(26,.val 22),(27,.val 3),(28,.val 3)],[(.exit 0,[(4294967300,.own 5),(8589934596,.own 3),(5,.own 3)])],rg 28 10 [5,7],vzj,none⟩
theorem IzV:A3 Tryz.f134 60 NzU:=A4 CzC .nil nzV
def wzg (x:Table):Option (Maker×List (Int)):=obnd (lz5 ([],x.Uses)) fun y=>obnd (lz5 (y.1,(↑x.Texts.length:Int))) fun y=>obnd (vzj (y.1,[],Maker.mk y.1 [] 0,[],x.Texts,(↑x.Texts.length:Int),0)) fun y=>some (Maker.mk y.1.1 y.1.2.1 y.2.part,y.1.2.2)
def Lzl:Fq:=⟨[(0,.val 36)],[(0,.val 249),(1,.own 3)],wzg⟩
theorem Kzy:A0 134 Lzl:=A2 Tryz.func134 CzC (.cons IzV .nil)
def qzw (x:Unit):Option (Int):=some 4
def Izb:Cq:=⟨185,[],[(.ret,[(2,.val 44)])],[2],qzw,none⟩
theorem DzI:bz8 ([]:List (CutSpec tb)) (oz3 (czh 21 Tryz.f135) 0)=[]:=by kernel_rfl
theorem BzM:cz1 Tryz.prog tb Tryz.f135.ntmps (czh 21 Tryz.f135) 0 Izb:=nzy mixed (by kernel_rfl) (by kernel_rfl) .nil rfl DzI .nil .nil (fun x=>by kernel_rfl)
def mzI (back:Rec×Int×List Int×Int×Int->Option ((Unit)⊕(Int)))(x:Rec×Int×List Int×Int×Int):Option ((Unit)⊕(Int)):=brn (decide (x.2.2.2.2<x.2.2.2.1)) (obnd (idx x.2.2.1 x.2.2.2.2) fun y=>brn (decide (y<=x.2.1)) (some (Sum.inr 6)) (brn (decide ((↑x.1.Data.length:Int)<=y)) (some (Sum.inr 6)) (back (x.1,y,x.2.2.1,x.2.2.2.1,i64.wrap (x.2.2.2.2+1))))) (some (Sum.inl PUnit.unit))
def szU:=iter mzI big
def zzO:Cq:=⟨68,[(1,.ro 180),(3,.val 3),(26,.val 23),(27,.val 3),(28,.val 3)],[(.exit 0,[]),(.ret,[(2,.val 44)])],rg 28 16 [2,3,5],szU,none⟩
theorem FzV:A3 Tryz.f135 68 zzO:=A4 .nil .nil mzI
def mzJ (back:Int×List Int×Int×Int->Option ((Int)⊕(Unit)))(x:Int×List Int×Int×Int):Option ((Int)⊕(Unit)):=brn (decide (x.2.2.2<x.2.2.1)) (obnd (idx x.2.1 x.2.2.2) fun y=>brn (decide (224<i64.wrap (y-x.1))) (some (Sum.inr PUnit.unit)) (back (y,x.2.1,x.2.2.1,i64.wrap (x.2.2.2+1)))) (some (Sum.inl x.1))
def szV:=iter mzJ big
def zzP:Cq:=⟨132,[(3,.val 3),(45,.val 23),(46,.val 3),(47,.val 3)],[(.exit 2,[(3,.val 3)]),((.goto 0),[])],rg 47 10 [3,7],szV,none⟩
theorem FzW:A3 Tryz.f135 132 zzP:=A4 .nil .nil mzJ
def szW (x:Rec):Option ((Unit)⊕(Int)):=brn (decide (x.Type_<0)) (some (Sum.inr 1)) (brn (decide (65535<x.Type_)) (some (Sum.inr 1)) (brn (decide (x.Type_=60)) (some (Sum.inr 1)) (brn (decide (65536<(↑x.Data.length:Int))) (some (Sum.inr 4)) (obnd (szU (x,0,x.Cuts,(↑x.Cuts.length:Int),0)) fun y=>osum y (fun y=>obnd (szV (0,x.Cuts,(↑x.Cuts.length:Int),0)) fun y=>osum y (fun y=>brn (decide (i64.wrap ((↑x.Data.length:Int)-y)<=224)) (some (Sum.inr 0)) (some (Sum.inr 4))) fun y=>obnd (qzw ()) fun y=>some (Sum.inr y)) fun y=>some (Sum.inr y)))))
def LzV:Cq:=⟨21,[(1,.ro 180)],[(.normal,[]),(.ret,[(2,.val 44)])],rg 7 56 [2,3,5],szW,none⟩
theorem Izc:bz8 ([zzO,zzP]:List (CutSpec tb)) (czh 21 Tryz.f135)=[(68,.loop (czv 68 Tryz.f135)),(132,.loop (czv 132 Tryz.f135))]:=by kernel_rfl
theorem FzX:czW Tryz.prog tb Tryz.f135.ntmps (.scope (czh 21 Tryz.f135)) LzV:=rzJ mixed (by kernel_rfl) .nil rfl Izc (.cons rfl FzV rfl (.cons rfl FzW rfl .nil)) (.cons BzM rfl .nil) (fun x=>by kernel_rfl)
def tzO (x:Rec):Option (Int):=obnd (szW x) fun y=>osum y (fun y=>none) fun y=>some y
def Iza:Fq:=⟨[(0,.val 180)],[(0,.val 44)],tzO⟩
theorem Izd:A0 135 Iza:=A2 Tryz.func135 .nil (.cons FzX .nil)
abbrev rec_CutG:List (Nat×Fq):=[(186,dzL)]
theorem EzY:azk Tryz.prog tb (rec_CutG):=(.cons ezQ .nil)
def rz6 (back:List (Int)×Rec×Rec×Int->Option ((List (Int))×Rec))(x:List (Int)×Rec×Rec×Int):Option ((List (Int))×Rec):=brn (decide (x.2.2.2<(↑x.2.1.Data.length:Int))) (obnd (app 8 x.1 [x.2.2.2]) fun zs=>back (zs,x.2.1,Rec.mk x.2.2.1.Type_ x.2.2.1.Data zs x.2.2.1.At,i64.wrap (x.2.2.2+224))) (some (x.1,Rec.mk x.2.2.1.Type_ x.2.2.1.Data x.1 x.2.2.1.At))
def wzv:=iter rz6 big
def OzG:Cq:=⟨36,[(12884901891,.own 3),(1,.ro 180),(3,.ref 180),(4,.val 3)],[(.exit 0,[(12884901891,.own 3)])],rg 13 13 [4],wzv,none⟩
theorem JzX:A3 Tryz.f137 36 OzG:=A4 EzY .nil rz6
def uzM (x:Rec):Option (Rec):=obnd (bzR x.Data) fun y=>obnd (wzv ([],x,Rec.mk x.Type_ y [] x.At,224)) fun y=>some (Rec.mk y.2.Type_ y.2.Data y.1 y.2.At)
def FzY:Fq:=⟨[(0,.val 180)],[(0,.val 180)],uzM⟩
theorem zzQ:A0 137 FzY:=A2 Tryz.func137 EzY (.cons JzX .nil)
abbrev OzQ:List (Nat×Fq):=[(133,IzT),(134,Lzl),(135,Iza),(136,Bzw),(137,FzY)]
theorem ozA:azk Tryz.prog tb (OzQ):=(.cons IzU (.cons Kzy (.cons Izd (.cons xzp (.cons zzQ .nil)))))
def mzs (x:Rec×Rec×Int):Option ((Int)×(Rec×Rec)):=some (x.2.2,Rec.mk 0 [] [] 0,Rec.mk 0 [] [] 0)
def Gzz:Cq:=⟨145,[(2,.ref 180),(3,.ref 180),(4,.val 44)],[(.ret,[(4,.val 44)])],rg 51 3 [4],mzs,none⟩
theorem CzB:bz8 ([]:List (CutSpec tb)) (oz3 (czh 21 Tryz.f77) 0)=[]:=by kernel_rfl
theorem AzC:cz1 Tryz.prog tb Tryz.f77.ntmps (czh 21 Tryz.f77) 0 Gzz:=nzy mixed (by kernel_rfl) (by kernel_rfl) ozA rfl CzB .nil .nil (fun x=>by kernel_rfl)
def lz0 (back:Rec×List Int×Int×Int->Option ((Unit)×Rec))(x:Rec×List Int×Int×Int):Option ((Unit)×Rec):=brn (decide (x.2.2.2<x.2.2.1)) (obnd (idx x.2.1 x.2.2.2) fun y=>brn (decide (x.2.2.2.tmod 8=0)) (obnd (lz5 (x.1.Data,y)) fun y=>back (Rec.mk x.1.Type_ y.1 x.1.Cuts x.1.At,x.2.1,x.2.2.1,i64.wrap (x.2.2.2+1))) (back (x.1,x.2.1,x.2.2.1,i64.wrap (x.2.2.2+1)))) (some ((),x.1))
def rzQ:=iter lz0 big
def xz9:Cq:=⟨100,[(3,.ref 180),(29,.val 23),(30,.val 3),(31,.val 3)],[(.exit 0,[])],rg 31 17 [7,8],rzQ,none⟩
theorem Ezw:A3 Tryz.f77 100 xz9:=A4 ozA .nil lz0
def rzR (x:Table×Rec×Rec):Option (((Unit)×(Rec×Rec))⊕((Int)×(Rec×Rec))):=obnd (tz0 x.1) fun y=>brn (!decide (y=0)) (obnd (mzs (x.2.1,x.2.2,y)) fun y=>some (Sum.inr (y.1,y.2))) (obnd (wzg x.1) fun y=>obnd (tzO (Rec.mk 252 y.1.b y.1.cuts 0)) fun y_1=>brn (!decide (y_1=0)) (obnd (mzs (Rec.mk 252 y.1.b y.1.cuts 0,x.2.2,y_1)) fun y=>some (Sum.inr (y.1,y.2))) (obnd (rzQ (Rec.mk 255 [UInt8.ofNat 8,UInt8.ofNat 0] [] 0,y.2,(↑(List.length y.2):Int),0)) fun y_2=>obnd (uzM y_2.2) fun y_3=>some (Sum.inr (0,Rec.mk 252 y.1.b y.1.cuts 0,y_3))))
def Kzx:Cq:=⟨21,[(1,.ro 36),(2,.ref 180),(3,.ref 180)],[(.normal,[]),(.ret,[(4,.val 44)])],rg 4 50 [],rzR,none⟩
theorem GzA:bz8 ([xz9]:List (CutSpec tb)) (czh 21 Tryz.f77)=[(100,.loop (czv 100 Tryz.f77))]:=by kernel_rfl
theorem Ezx:czW Tryz.prog tb Tryz.f77.ntmps (.scope (czh 21 Tryz.f77)) Kzx:=rzJ mixed (by kernel_rfl) ozA rfl GzA (.cons rfl Ezw rfl .nil) (.cons AzC rfl .nil) (fun x=>by kernel_rfl)
def oz9 (x:Table):Option (Rec×Rec×Int):=obnd (rzR (x,Rec.mk 0 [] [] 0,Rec.mk 0 [] [] 0)) fun y=>osum y (fun y=>none) fun y=>some (y.2.1,y.2.2,y.1)
def Fze:Fq:=⟨[(0,.val 36)],[(0,.val 180),(1,.val 180),(2,.val 44)],oz9⟩
theorem GzB:A0 77 Fze:=A2 Tryz.func77 ozA (.cons Ezx .nil)
def Bzv (x:List UInt8×Int):Option (List (UInt8)×Int):=brn (decide (x.2<0)) (obnd (bzR x.1) fun y=>some (y,1)) (brn (decide (65535<x.2)) (obnd (bzR x.1) fun y=>some (y,1)) (obnd (tz6 (x.1,u64.wrap x.2,2)) fun y=>some (y,0)))
def Kz6:Fq:=⟨[(0,.val 178),(1,.val 3)],[(0,.own 5),(1,.val 44)],Bzv⟩
theorem JzO:A0 138 Kz6:=A1 Tryz.func138 (.cons ezQ (.cons uzE .nil))
abbrev Lzu:List (Nat×Fq):=[(138,Kz6),(111,Czi),(137,FzY)]
theorem uzi:azk Tryz.prog tb (Lzu):=(.cons JzO (.cons ozq (.cons zzQ .nil)))
def jzC (back:Rec×List (UInt8)×List Place×Int×Int->Option (((List (UInt8))×Rec)⊕((Int)×Rec)))(x:Rec×List (UInt8)×List Place×Int×Int):Option (((List (UInt8))×Rec)⊕((Int)×Rec)):=brn (decide (x.2.2.2.2<x.2.2.2.1)) (obnd (idx x.2.2.1 x.2.2.2.2) fun y=>brn (decide (y.Sheet<0)) (some (Sum.inr (12,Rec.mk 0 [] [] 0))) (brn (decide (8<=y.Sheet)) (some (Sum.inr (12,Rec.mk 0 [] [] 0))) (obnd (lz6 y.At) fun y_1=>brn (!y_1) (some (Sum.inr (12,Rec.mk 0 [] [] 0))) (obnd (app 1 x.2.1 [UInt8.ofNat (u8.wrap y.Sheet).toNat,UInt8.ofNat (u8.wrap y.At.Row).toNat,UInt8.ofNat (u8.wrap (y.At.Row.fdiv 256)).toNat,UInt8.ofNat (u8.wrap y.At.Col).toNat]) fun zs=>back (x.1,zs,x.2.2.1,x.2.2.2.1,i64.wrap (x.2.2.2.2+1)))))) (some (Sum.inl (x.2.1,x.1)))
def pzw:=iter jzC big
def Fzp:Cq:=⟨52,[(2,.ref 180),(4,.own 5),(18,.val 37),(19,.val 3),(20,.val 3)],[(.exit 0,[(4,.own 5)]),(.ret,[(3,.val 44)])],rg 20 39 [3,4,7],pzw,none⟩
theorem zz4:A3 Tryz.f78 52 Fzp:=A4 uzi .nil jzC
def mzu (x:List Place):Option (Rec×Int):=brn (decide (4096<(↑x.length:Int))) (some (Rec.mk 0 [] [] 0,4)) (obnd (Bzv ([],(↑x.length:Int))) fun y=>obnd (pzw (Rec.mk 0 [] [] 0,y.1,x,(↑x.length:Int),0)) fun y=>osum y (fun y=>obnd (uzM (Rec.mk 6247 y.1 [] 0)) fun y=>some (y,0)) fun y=>some (y.2,y.1))
def zzB:Fq:=⟨[(0,.val 37)],[(0,.val 180),(1,.val 44)],mzu⟩
theorem AzS:A0 78 zzB:=A2 Tryz.func78 uzi (.cons zz4 .nil)
abbrev Ozu:List (Nat×Fq):=[(74,tzb),(75,ozC),(76,vzL),(77,Fze),(78,zzB)]
theorem lzn:azk Tryz.prog tb (Ozu):=(.cons wzt (.cons izy (.cons yzB (.cons GzB (.cons AzS .nil)))))
def rzp (x:Globals):Option (Bool):=brn (decide ((↑x.Sheets.length:Int)<1)) (some true) (brn (decide (8<(↑x.Sheets.length:Int))) (some true) (brn (decide (64<(↑x.Formats.length:Int))) (some true) (brn (decide (256<(↑x.XFs.length:Int))) (some true) (some (decide (1024<(↑x.Names.length:Int)))))))
def Jzr:Cq:=⟨16,[(1,.ro 39)],[(.normal,[(45,.val 4)])],rg 18 28 [],(rzp),none⟩
theorem Dzq:A5 Tryz.f34 16 Jzr:=A6 lzn .nil
def lzo (back:List (List UInt8)×Int×Int->Option ((Unit)⊕(Int)))(x:List (List UInt8)×Int×Int):Option ((Unit)⊕(Int)):=brn (decide (x.2.2<x.2.1)) (obnd (idx x.1 x.2.2) fun y=>obnd (jze y) fun y=>brn (!decide (y.2=0)) (some (Sum.inr y.2)) (back (x.1,x.2.1,i64.wrap (x.2.2+1)))) (some (Sum.inl PUnit.unit))
def rzq:=iter lzo big
def Jzs:Cq:=⟨68,[(53,.val 22),(54,.val 3),(55,.val 3)],[(.exit 0,[]),(.ret,[(2,.val 44)])],rg 55 13 (rg 5 3 [2]),rzq,none⟩
theorem Dzr:A3 Tryz.f34 68 Jzs:=A4 lzn .nil lzo
def lzp (back:Globals×List Int×Int×Int->Option ((Unit)⊕(Int)))(x:Globals×List Int×Int×Int):Option ((Unit)⊕(Int)):=brn (decide (x.2.2.2<x.2.2.1)) (obnd (idx x.2.1 x.2.2.2) fun y=>brn (decide (y<0)) (some (Sum.inr 1)) (brn (decide ((bif decide ((↑x.1.Formats.length:Int)<1)then 1 else(↑x.1.Formats.length:Int))<=y)) (some (Sum.inr 1)) (back (x.1,x.2.1,x.2.2.1,i64.wrap (x.2.2.2+1))))) (some (Sum.inl PUnit.unit))
def rzr:=iter lzp big
def Jzt:Cq:=⟨124,[(1,.ro 39),(69,.val 23),(70,.val 3),(71,.val 3)],[(.exit 2,[]),(.ret,[(2,.val 44)])],rg 71 15 [2,9],rzr,none⟩
theorem Dzs:A3 Tryz.f34 124 Jzt:=A4 lzn .nil lzp
def lzq (back:List Expr×Int×Int->Option ((Unit)⊕(Int)))(x:List Expr×Int×Int):Option ((Unit)⊕(Int)):=brn (decide (x.2.2<x.2.1)) (obnd (idx x.1 x.2.2) fun y=>obnd (nzg (aze y)) fun y=>brn (!decide (y=0)) (some (Sum.inr y)) (back (x.1,x.2.1,i64.wrap (x.2.2+1)))) (some (Sum.inl PUnit.unit))
def rzs:=iter lzq big
def Jzu:Cq:=⟨172,[(87,.val 35),(88,.val 3),(89,.val 3)],[(.exit 4,[]),(.ret,[(2,.val 44)])],rg 89 10 [2,11,12],rzs,none⟩
theorem Dzt:A3 Tryz.f34 172 Jzu:=A4 lzn .nil lzq
def rz3 (x:Globals):Option (Int):=obnd (rzp x) fun y=>brn y (some 4) (obnd (kzY x.Sheets) fun y=>brn (!decide (y=0)) (some y) (obnd (rzq (x.Formats,(↑x.Formats.length:Int),0)) fun y=>osum y (fun y=>obnd (rzr (x,x.XFs,(↑x.XFs.length:Int),0)) fun y=>osum y (fun y=>obnd (rzs (x.Names,(↑x.Names.length:Int),0)) fun y=>osum y (fun y=>brn (decide ((↑x.Texts.Texts.length:Int)=0)) (brn (!decide (x.Texts.Uses=0)) (some 1) (obnd (oz9 x.Texts) fun y=>brn (!decide (y.2.2=0)) (some y.2.2) (obnd (mzu x.Chain) fun y=>some y.2))) (obnd (oz9 x.Texts) fun y=>brn (!decide (y.2.2=0)) (some y.2.2) (obnd (mzu x.Chain) fun y=>some y.2))) fun y=>some y) fun y=>some y) fun y=>some y))
def EzN:Fq:=⟨[(0,.val 39)],[(0,.val 44)],rz3⟩
theorem Fzz:A0 34 EzN:=A2 Tryz.func34 lzn (.cons Dzq (.cons Dzr (.cons Dzs (.cons Dzt .nil))))
def gzJ (back:List Row×List Row×Int×Int->Option ((Unit)⊕(Int)))(x:List Row×List Row×Int×Int):Option ((Unit)⊕(Int)):=brn (decide (x.2.2.2<x.2.2.1)) (obnd (idx x.2.1 x.2.2.2) fun y=>brn (decide (y.Row<0)) (some (Sum.inr 12)) (brn (decide (65536<=y.Row)) (some (Sum.inr 12)) (brn (decide (y.Height<0)) (some (Sum.inr 1)) (brn (decide (32767<y.Height)) (some (Sum.inr 1)) (brn (decide (0<x.2.2.2)) (obnd (idx x.1 (i64.wrap (x.2.2.2-1))) fun y_1=>brn (decide (y.Row<=y_1.Row)) (some (Sum.inr 6)) (back (x.1,x.2.1,x.2.2.1,i64.wrap (x.2.2.2+1)))) (back (x.1,x.2.1,x.2.2.1,i64.wrap (x.2.2.2+1)))))))) (some (Sum.inl PUnit.unit))
def mz9:=iter gzJ big
def AzA:Cq:=⟨44,[(0,.val 97),(8,.val 97),(9,.val 3),(10,.val 3)],[(.exit 0,[]),(.ret,[(2,.val 44)])],rg 10 38 (rg 2 3 []),mz9,none⟩
theorem wzT:A3 Tryz.f79 44 AzA:=A4 .nil .nil gzJ
def mzq (x:List Row):Option (Int):=brn (decide (4096<(↑x.length:Int))) (some 4) (obnd (mz9 (x,x,(↑x.length:Int),0)) fun y=>osum y (fun y=>some 0) fun y=>some y)
def Gzs:Fq:=⟨[(0,.val 97)],[(0,.val 44)],mzq⟩
theorem xz4:A0 79 Gzs:=A2 Tryz.func79 .nil (.cons wzT .nil)
def pz5 (x:Cell2):Option (Int):=obnd (lz6 x.At) fun y=>brn (!y) (some 12) (brn (decide (x.XF<0)) (some 1) (brn (decide (255<x.XF)) (some 1) (obnd (qz4 x.V) fun y=>brn (!decide (y=0)) (some y) (brn (!x.Has) (obnd (iz2 (aze x.E,Expr.mk 0 (Val.mk 0 (Dec.mk 0 0) [] false 0) (Area.mk (Ref.mk 0 0 false false) (Ref.mk 0 0 false false)) 0 0 [])) fun y=>brn (!y) (some 1) (some 0)) (obnd (mzY (aze x.E)) fun y=>brn (!decide (y.2=0)) (some y.2) (brn (decide (x.V.Kind=0)) (some 1) (some 0)))))))
def AzQ:Fq:=⟨[(0,.val 108)],[(0,.val 44)],pz5⟩
theorem Dzi:A0 139 AzQ:=A1 Tryz.func139 (.cons ozq (.cons wzl (.cons izl (.cons pzz .nil))))
def pz6 (x:Cell×Cell):Option (Int):=obnd (dzM (x.1.Row,x.2.Row)) fun y=>obnd (dzM (x.1.Col,x.2.Col)) fun y_1=>obnd (mzW [y,y_1]) fun y=>some y
def AzR:Fq:=⟨[(0,.val 80),(1,.val 80)],[(0,.val 3)],pz6⟩
theorem Dzj:A0 140 AzR:=A1 Tryz.func140 (.cons lzi (.cons pzy .nil))
abbrev Gz5:List (Nat×Fq):=[(139,AzQ),(140,AzR)]
theorem szn:azk Tryz.prog tb (Gz5):=(.cons Dzi (.cons Dzj .nil))
def hzX (back:List Cell2×List Cell2×Int×Int->Option ((Unit)⊕(Int)))(x:List Cell2×List Cell2×Int×Int):Option ((Unit)⊕(Int)):=brn (decide (x.2.2.2<x.2.2.1)) (obnd (idx x.2.1 x.2.2.2) fun y=>obnd (pz5 (Cell2.mk y.At y.XF y.V y.Has (aze y.E))) fun y_1=>brn (!decide (y_1=0)) (some (Sum.inr y_1)) (brn (decide (0<x.2.2.2)) (obnd (idx x.1 (i64.wrap (x.2.2.2-1))) fun y_2=>obnd (pz6 (y_2.At,y.At)) fun y=>brn (decide (0<=y)) (some (Sum.inr 6)) (back (x.1,x.2.1,x.2.2.1,i64.wrap (x.2.2.2+1)))) (back (x.1,x.2.1,x.2.2.1,i64.wrap (x.2.2.2+1))))) (some (Sum.inl PUnit.unit))
def nzw:=iter hzX big
def AzP:Cq:=⟨44,[(0,.val 98),(9,.val 98),(10,.val 3),(11,.val 3)],[(.exit 0,[]),(.ret,[(2,.val 44)])],rg 11 25 (rg 2 4 []),nzw,none⟩
theorem wz8:A3 Tryz.f80 44 AzP:=A4 szn .nil hzX
def nzf (x:List Cell2):Option (Int):=brn (decide (4096<(↑x.length:Int))) (some 4) (obnd (nzw (x,x,(↑x.length:Int),0)) fun y=>osum y (fun y=>some 0) fun y=>some y)
def Gz6:Fq:=⟨[(0,.val 98)],[(0,.val 44)],nzf⟩
theorem yzr:A0 80 Gz6:=A2 Tryz.func80 szn (.cons wz8 .nil)
abbrev NzS:List (Nat×Fq):=[(111,Czi),(131,EzT)]
theorem wzf:azk Tryz.prog tb (NzS):=(.cons ozq (.cons pzz .nil))
def qzS (x:Group×Int×Int):Option ((Unit)⊕(Int)):=obnd (lz6 x.1.A) fun y=>brn (!y) (some (Sum.inr 12)) (obnd (lz6 x.1.B) fun y=>brn (!y) (some (Sum.inr 12)) (brn (decide (x.2.1<1)) (some (Sum.inr 12)) (brn (decide (x.2.2<1)) (some (Sum.inr 12)) (brn (decide (1024<i64.wrap (x.2.1*x.2.2))) (some (Sum.inr 13)) (brn (!x.1.Array) (brn (!decide (x.2.2=1)) (some (Sum.inr 13)) (brn (decide (x.2.1<2)) (some (Sum.inr 13)) (some (Sum.inl PUnit.unit)))) (some (Sum.inl PUnit.unit)))))))
def IzM:Cq:=⟨27,[(1,.ro 141),(3,.val 3),(4,.val 3)],[(.normal,[]),(.ret,[(2,.val 44)])],rg 23 37 [2],(qzS),none⟩
theorem Czq:A5 Tryz.f188 27 IzM:=A6 wzf .nil
def qzR (x:Group):Option (Int):=obnd (qzS (Group.mk x.Array x.A x.B (aze x.E),i64.wrap (i64.wrap (x.B.Row-x.A.Row)+1),i64.wrap (i64.wrap (x.B.Col-x.A.Col)+1))) fun y=>osum y (fun y=>obnd (mzY (aze x.E)) fun y=>some y.2) fun y=>some y
def Czp:Fq:=⟨[(0,.val 141)],[(0,.val 44)],qzR⟩
theorem Ezn:A0 188 Czp:=A2 Tryz.func188 wzf (.cons Czq .nil)
def ozt (x:Group×Group):Option (Bool):=brn (decide ((bif decide (x.1.A.Row<x.2.A.Row)then x.2.A.Row else x.1.A.Row)<=bif decide (x.2.B.Row<x.1.B.Row)then x.2.B.Row else x.1.B.Row)) (some (decide ((bif decide (x.1.A.Col<x.2.A.Col)then x.2.A.Col else x.1.A.Col)<=bif decide (x.2.B.Col<x.1.B.Col)then x.2.B.Col else x.1.B.Col))) (some false)
def xz2:Fq:=⟨[(0,.val 141),(1,.val 141)],[(0,.val 4)],ozt⟩
theorem Azz:A0 189 xz2:=A1 Tryz.func189 .nil
abbrev IzL:List (Nat×Fq):=[(188,Czp),(189,xz2)]
theorem kzK:azk Tryz.prog tb (IzL):=(.cons Ezn (.cons Azz .nil))
def hz4 (back:List Group×Int×Int->Option ((Unit)⊕(Int)))(x:List Group×Int×Int):Option ((Unit)⊕(Int)):=brn (decide (x.2.2<x.2.1)) (obnd (idx x.1 x.2.2) fun y=>obnd (qzR (Group.mk y.Array y.A y.B (aze y.E))) fun y=>brn (!decide (y=0)) (some (Sum.inr y)) (back (x.1,x.2.1,i64.wrap (x.2.2+1)))) (some (Sum.inl PUnit.unit))
def nzP:=iter hz4 big
def Czm:Cq:=⟨28,[(10,.val 99),(11,.val 3),(12,.val 3)],[(.exit 0,[]),(.ret,[(2,.val 44)])],rg 12 10 [2,4,5],nzP,none⟩
theorem xzZ:A3 Tryz.f141 28 Czm:=A4 kzK .nil hz4
def hz6 (back:Group×List Group×Int×Int->Option ((Unit)⊕(Int)))(x:Group×List Group×Int×Int):Option ((Unit)⊕(Int)):=brn (decide (x.2.2.2<x.2.2.1)) (obnd (idx x.2.1 x.2.2.2) fun y=>obnd (ozt (Group.mk x.1.Array x.1.A x.1.B (aze x.1.E),Group.mk y.Array y.A y.B (aze y.E))) fun y=>brn y (some (Sum.inr 13)) (back (Group.mk x.1.Array x.1.A x.1.B (aze x.1.E),x.2.1,x.2.2.1,i64.wrap (x.2.2.2+1)))) (some (Sum.inl PUnit.unit))
def nzR:=iter hz6 big
def Czo:Cq:=⟨108,[(7,.ro 141),(32,.val 99),(33,.val 3),(34,.val 3)],[(.exit 4,[]),(.ret,[(2,.val 44)])],rg 34 8 [2,9],nzR,none⟩
theorem xz1:A3 Tryz.f141 108 Czo:=A4 kzK .nil hz6
def hz5 (back:List Group×List Group×Int×Int->Option ((Unit)⊕(Int)))(x:List Group×List Group×Int×Int):Option ((Unit)⊕(Int)):=brn (decide (x.2.2.2<x.2.2.1)) (obnd (idx x.2.1 x.2.2.2) fun y=>obnd (sub x.1 (i64.wrap (x.2.2.2+1)) (↑x.1.length:Int)) fun z=>obnd (nzR (Group.mk y.Array y.A y.B (aze y.E),z,(↑z.length:Int),0)) fun y=>osum y (fun y=>back (x.1,x.2.1,x.2.2.1,i64.wrap (x.2.2.2+1))) fun y=>some (Sum.inr y)) (some (Sum.inl PUnit.unit))
def nzQ:=iter hz5 big
def Czn:Cq:=⟨84,[(0,.val 99),(22,.val 99),(23,.val 3),(24,.val 3)],[(.exit 2,[]),(.ret,[(2,.val 44)])],rg 24 19 [2,6,7,9],nzQ,none⟩
theorem xz0:A3 Tryz.f141 84 Czn:=A4 kzK (.cons xz1 .nil) hz5
def nzq (x:List Group):Option (Int):=obnd (nzP (x,(↑x.length:Int),0)) fun y=>osum y (fun y=>obnd (nzQ (x,x,(↑x.length:Int),0)) fun y=>osum y (fun y=>some 0) fun y=>some y) fun y=>some y
def wze:Fq:=⟨[(0,.val 99)],[(0,.val 44)],nzq⟩
theorem zzk:A0 141 wze:=A2 Tryz.func141 kzK (.cons xzZ (.cons xz0 .nil))
abbrev hze:List (Nat×Fq):=[(109,vze)]
theorem dzf:azk Tryz.prog tb (hze):=(.cons tzr .nil)
def azE (back:List Group×Unit×Int->Option ((Unit)⊕(Bool)))(x:List Group×Unit×Int):Option ((Unit)⊕(Bool)):=brn (decide (0<x.2.2)) (obnd (idx x.1 x.2.2) fun y=>obnd (idx x.1 (i64.wrap (x.2.2-1))) fun y_1=>obnd (nzS (Group.mk y.Array y.A y.B (aze y.E),Group.mk y_1.Array y_1.A y_1.B (aze y_1.E))) fun y=>brn (decide (y<0)) (some (Sum.inr false)) (back (x.1,(),i64.wrap (x.2.2-1)))) (some (Sum.inl PUnit.unit))
def bzu:=iter azE big
def gzt:Cq:=⟨28,[(0,.val 99),(1,.fnp 109 0),(5,.val 3)],[(.exit 0,[]),(.ret,[(4,.val 4)])],rg 9 16 [4,5],bzu,none⟩
theorem fzT:A3 Tryz.f142 28 gzt:=A4 dzf .nil azE
def bzC (x:List Group×Unit):Option (Bool):=obnd (bzu (x.1,(),i64.wrap ((↑x.1.length:Int)-1))) fun y=>osum y (fun y=>some true) fun y=>some y
def dzw:Fq:=⟨[(0,.val 99),(1,.fnp 109 0)],[(0,.val 4)],bzC⟩
theorem fzW:A0 142 dzw:=A2 Tryz.func142 dzf (.cons fzT .nil)
abbrev OzO:List (Nat×Fq):=[(48,zzl),(94,tzB)]
theorem xz5:azk Tryz.prog tb (OzO):=(.cons nzr (.cons izl .nil))
def lzY (back:Group×Int×List Cell2×Int×Int->Option (Int))(x:Group×Int×List Cell2×Int×Int):Option (Int):=brn (decide (x.2.2.2.2<x.2.2.2.1)) (obnd (idx x.2.2.1 x.2.2.2.2) fun y=>brn y.Has (obnd (kzL (Group.mk x.1.Array x.1.A x.1.B (aze x.1.E),y.At)) fun y_1=>brn y_1 (obnd (iz2 (aze y.E,aze x.1.E)) fun y=>brn y (back (Group.mk x.1.Array x.1.A x.1.B (aze x.1.E),i64.wrap (x.2.1+1),x.2.2.1,x.2.2.2.1,i64.wrap (x.2.2.2.2+1))) (back (Group.mk x.1.Array x.1.A x.1.B (aze x.1.E),x.2.1,x.2.2.1,x.2.2.2.1,i64.wrap (x.2.2.2.2+1)))) (back (Group.mk x.1.Array x.1.A x.1.B (aze x.1.E),x.2.1,x.2.2.1,x.2.2.2.1,i64.wrap (x.2.2.2.2+1)))) (back (Group.mk x.1.Array x.1.A x.1.B (aze x.1.E),x.2.1,x.2.2.1,x.2.2.2.1,i64.wrap (x.2.2.2.2+1)))) (some x.2.1)
def rzO:=iter lzY big
def Kzt:Cq:=⟨36,[(3,.ro 141),(5,.val 3),(8,.val 98),(9,.val 3),(10,.val 3)],[(.exit 0,[(5,.val 3)])],rg 10 22 [5,7],rzO,none⟩
theorem Ezt:A3 Tryz.f145 36 Kzt:=A4 xz5 .nil lzY
def szd (x:List Cell2×Group):Option (Bool):=obnd (rzO (Group.mk x.2.Array x.2.A x.2.B (aze x.2.E),0,x.1,(↑x.1.length:Int),0)) fun y=>some (decide (y=i64.wrap (i64.wrap (i64.wrap (x.2.B.Row-x.2.A.Row)+1)*i64.wrap (i64.wrap (x.2.B.Col-x.2.A.Col)+1))))
def OzP:Fq:=⟨[(0,.val 98),(1,.val 141)],[(0,.val 4)],szd⟩
theorem Gzt:A0 145 OzP:=A2 Tryz.func145 xz5 (.cons Ezt .nil)
def pzK (x:Group×Sheet):Option (Bool):=obnd (szd (x.2.Cells,Group.mk x.1.Array x.1.A x.1.B (aze x.1.E))) fun y=>some (bif y then false else true)
def vzg:Fq:=⟨[(0,.val 141),(1,.ro 101)],[(0,.val 4)],pzK⟩
theorem xz6:A0 144 vzg:=A1 Tryz.func144 (.cons Gzt .nil)
abbrev gzP:List (Nat×Fq):=[(144,vzg)]
theorem dzd:azk Tryz.prog tb (gzP):=(.cons xz6 .nil)
def azY (back:Sheet×List Group×Unit×Int×Int->Option ((Unit)⊕(Int)))(x:Sheet×List Group×Unit×Int×Int):Option ((Unit)⊕(Int)):=brn (decide (x.2.2.2.2<x.2.2.2.1)) (obnd (idx x.2.1 x.2.2.2.2) fun y=>obnd (pzK (Group.mk y.Array y.A y.B (aze y.E),x.1)) fun y=>brn y (some (Sum.inr x.2.2.2.2)) (back (x.1,x.2.1,(),x.2.2.2.1,i64.wrap (x.2.2.2.2+1)))) (some (Sum.inl PUnit.unit))
def bz1:=iter azY big
def gzm:Cq:=⟨28,[(4294967297,.ro 101),(0,.val 99),(1,.fnp 144 1),(7,.val 3),(8,.val 3)],[(.exit 0,[]),(.ret,[(4,.val 3)])],rg 8 11 [4,5],bz1,none⟩
theorem fzH:A3 Tryz.f190 28 gzm:=A4 dzd .nil azY
def czf (x:Sheet×List Group×Unit):Option (Int):=obnd (bz1 (x.1,x.2.1,(),(↑x.2.1.length:Int),0)) fun y=>osum y (fun y=>some (-1)) fun y=>some y
def gzQ:Fq:=⟨[(4294967297,.ro 101),(0,.val 99),(1,.fnp 144 1)],[(0,.val 3)],czf⟩
theorem fzS:A0 190 gzQ:=A2 Tryz.func190 dzd (.cons fzH .nil)
def azV (x:Sheet×List Group×Unit):Option (Bool):=obnd (czf (x.1,x.2.1,())) fun y=>some (decide (0<=y))
def dza:Fq:=⟨[(4294967297,.ro 101),(0,.val 99),(1,.fnp 144 1)],[(0,.val 4)],azV⟩
theorem fzo:A0 143 dza:=A1 Tryz.func143 (.cons fzS .nil)
def mzr (x:Group×Group):Option (Bool):=brn (decide (x.1.Array=x.2.Array)) (brn (bif false then !(decide (x.1.A.Row=x.2.A.Row)&&decide (x.1.A.Col=x.2.A.Col))else decide (x.1.A.Row=x.2.A.Row)&&decide (x.1.A.Col=x.2.A.Col)) (brn (bif false then !(decide (x.1.B.Row=x.2.B.Row)&&decide (x.1.B.Col=x.2.B.Col))else decide (x.1.B.Row=x.2.B.Row)&&decide (x.1.B.Col=x.2.B.Col)) (obnd (iz2 (aze x.1.E,aze x.2.E)) fun y=>some y) (some false)) (some false)) (some false)
def vzh:Fq:=⟨[(0,.val 141),(1,.val 141)],[(0,.val 4)],mzr⟩
theorem xz7:A0 100 vzh:=A1 Tryz.func100 (.cons izl .nil)
abbrev dzJ:List (Nat×Fq):=[(100,vzh)]
theorem bzS:azk Tryz.prog tb (dzJ):=(.cons xz7 .nil)
def azx (back:List Group×Unit×List Group×Int×Int->Option ((Unit)⊕(Bool)))(x:List Group×Unit×List Group×Int×Int):Option ((Unit)⊕(Bool)):=brn (decide (x.2.2.2.2<x.2.2.2.1)) (obnd (idx x.2.2.1 x.2.2.2.2) fun y=>obnd (idx x.1 x.2.2.2.2) fun y_1=>obnd (mzr (Group.mk y.Array y.A y.B (aze y.E),Group.mk y_1.Array y_1.A y_1.B (aze y_1.E))) fun y=>brn (!y) (some (Sum.inr false)) (back (x.1,(),x.2.2.1,x.2.2.2.1,i64.wrap (x.2.2.2.2+1)))) (some (Sum.inl PUnit.unit))
def az5:=iter azx big
def dzv:Cq:=⟨44,[(1,.val 99),(2,.fnp 100 0),(15,.val 99),(16,.val 3),(17,.val 3)],[(.exit 0,[]),(.ret,[(6,.val 4)])],rg 17 15 (rg 6 4 []),az5,none⟩
theorem dzi:A3 Tryz.f99 44 dzv:=A4 bzS .nil azx
def azq (x:List Group×List Group×Unit):Option (Bool):=brn (!decide ((↑x.1.length:Int)=(↑x.2.1.length:Int))) (some false) (obnd (az5 (x.2.1,(),x.1,(↑x.1.length:Int),0)) fun y=>osum y (fun y=>some true) fun y=>some y)
def bzW:Fq:=⟨[(0,.val 99),(1,.val 99),(2,.fnp 100 0)],[(0,.val 4)],azq⟩
theorem bzQ:A0 99 bzW:=A2 Tryz.func99 bzS (.cons dzi .nil)
abbrev Kzu:List (Nat×Fq):=[(141,wze),(142,dzw),(143,dza),(110,rzN),(99,bzW)]
theorem tzt:azk Tryz.prog tb (Kzu):=(.cons zzk (.cons fzW (.cons fzo (.cons rzb (.cons bzQ .nil)))))
def izW (back:Sheet×Int->Option (Int))(x:Sheet×Int):Option (Int):=brn (decide (x.2<(↑x.1.Groups.length:Int))) (obnd (idx x.1.Groups x.2) fun y=>brn y.Array (back (x.1,i64.wrap (x.2+1))) (some x.2)) (some x.2)
def ozU:=iter izW big
def Ezu:Cq:=⟨28,[(1,.ro 101),(3,.val 3)],[(.exit 0,[(3,.val 3)])],rg 5 15 [3],ozU,none⟩
theorem zzn:A3 Tryz.f81 28 Ezu:=A4 tzt .nil izW
def ozu (x:Sheet):Option (Bool):=obnd (ozU (x,0)) fun y=>obnd (sub x.Groups 0 y) fun z=>obnd (nzq z) fun y_1=>brn (!decide (y_1=0)) (some false) (obnd (bzC (z,())) fun y_2=>brn (!y_2) (some false) (obnd (azV (x,z,())) fun y_3=>brn y_3 (some false) (obnd (sub x.Groups y (↑x.Groups.length:Int)) fun z_1=>obnd (jzv (x.Cells,z)) fun y=>obnd (azq (z_1,y,())) fun y=>some y)))
def Kzv:Fq:=⟨[(0,.val 101)],[(0,.val 4)],ozu⟩
theorem AzB:A0 81 Kzv:=A2 Tryz.func81 tzt (.cons zzn .nil)
def hz7 (x:Sheet):Option (Int):=obnd (mzq x.Rows) fun y=>brn (!decide (y=0)) (some y) (obnd (nzf x.Cells) fun y=>brn (!decide (y=0)) (some y) (obnd (ozu x) fun y=>brn (!y) (some 13) (some 0)))
def Czw:Fq:=⟨[(0,.val 101)],[(0,.val 44)],hz7⟩
theorem Ezq:A0 35 Czw:=A1 Tryz.func35 (.cons xz4 (.cons yzr (.cons AzB .nil)))
def dzb (back:List (List UInt8)×List (List UInt8)×Int×Int->Option ((Unit)⊕(Bool)))(x:List (List UInt8)×List (List UInt8)×Int×Int):Option ((Unit)⊕(Bool)):=brn (decide (x.2.2.2<x.2.2.1)) (obnd (idx x.1 x.2.2.2) fun y=>obnd (idx x.2.1 x.2.2.2) fun y_1=>brn (!decide (y=y_1)) (some (Sum.inr false)) (back (x.1,x.2.1,x.2.2.1,i64.wrap (x.2.2.2+1)))) (some (Sum.inl PUnit.unit))
def gzi:=iter dzb big
def qzZ:Cq:=⟨44,[(0,.val 22),(1,.val 22),(12,.val 3),(13,.val 3)],[(.exit 0,[]),(.ret,[(4,.val 4)])],rg 13 13 [4,5],gzi,none⟩
theorem oz7:A3 Tryz.f37 44 qzZ:=A4 .nil .nil dzb
def bzt (x:List (List UInt8)×List (List UInt8)):Option (Bool):=brn (!decide ((↑x.1.length:Int)=(↑x.2.length:Int))) (some false) (obnd (gzi (x.1,x.2,(↑x.1.length:Int),0)) fun y=>osum y (fun y=>some true) fun y=>some y)
def lz7:Fq:=⟨[(0,.val 22),(1,.val 22)],[(0,.val 4)],bzt⟩
theorem jzX:A0 37 lz7:=A2 Tryz.func37 .nil (.cons oz7 .nil)
abbrev Nz3:List (Nat×Fq):=[(34,EzN),(35,Czw),(36,wzp),(37,lz7)]
theorem lzb:azk Tryz.prog tb (Nz3):=(.cons Fzz (.cons Ezq (.cons uzg (.cons jzX .nil))))
def lzd (back:Book×List Cell2×Int×Int->Option ((Unit)⊕(Int)))(x:Book×List Cell2×Int×Int):Option ((Unit)⊕(Int)):=brn (decide (x.2.2.2<x.2.2.1)) (obnd (idx x.2.1 x.2.2.2) fun y=>brn (decide ((bif decide ((↑x.1.Globals.XFs.length:Int)<1)then 1 else(↑x.1.Globals.XFs.length:Int))<=y.XF)) (some (Sum.inr 1)) (back (x.1,x.2.1,x.2.2.1,i64.wrap (x.2.2.2+1)))) (some (Sum.inl PUnit.unit))
def rzf:=iter lzd big
def Iz4:Cq:=⟨172,[(1,.ro 42),(59,.val 98),(60,.val 3),(61,.val 3)],[(.exit 2,[]),(.ret,[(2,.val 44)])],rg 61 13 [2,9],rzf,none⟩
theorem Dzb:A3 Tryz.f9 172 Iz4:=A4 lzb .nil lzd
def lzc (back:Book×List Sheet×Int×Int->Option ((Unit)⊕(Int)))(x:Book×List Sheet×Int×Int):Option ((Unit)⊕(Int)):=brn (decide (x.2.2.2<x.2.2.1)) (obnd (idx x.2.1 x.2.2.2) fun y=>obnd (rzf (x.1,y.Cells,(↑y.Cells.length:Int),0)) fun y=>osum y (fun y=>back (x.1,x.2.1,x.2.2.1,i64.wrap (x.2.2.2+1))) fun y=>some (Sum.inr y)) (some (Sum.inl PUnit.unit))
def jzo:=iter lzc big
def rze:Cq:=⟨148,[(1,.ro 42),(52,.val 40),(53,.val 3),(54,.val 3)],[(.exit 0,[]),(.ret,[(2,.val 44)])],rg 54 21 [2,7,9],jzo,none⟩
theorem sz9:A3 Tryz.f9 148 rze:=A4 lzb (.cons Dzb .nil) lzc
def gz2 (back:Book×Table×Int×Int->Option ((Int)×Table))(x:Book×Table×Int×Int):Option ((Int)×Table):=brn (decide (x.2.2.2<(↑x.1.Sheets.length:Int))) (obnd (idx x.1.Sheets x.2.2.2) fun y=>obnd (hz7 y) fun y=>brn (!decide (y=0)) (some (y,x.2.1)) (obnd (idx x.1.Sheets x.2.2.2) fun y=>obnd (back (x.1,x.2.1,i64.wrap (x.2.2.1+(↑y.Cells.length:Int)),i64.wrap (x.2.2.2+1))) fun y=>some (y.1,y.2))) (brn (decide (4096<x.2.2.1)) (some (4,x.2.1)) (obnd (jzo (x.1,x.1.Sheets,(↑x.1.Sheets.length:Int),0)) fun y=>osum y (fun y=>obnd (jzh x.1.Sheets) fun y=>brn (!decide (y.2=0)) (some (3,y.1)) (brn (!decide (y.1.Uses=x.1.Globals.Texts.Uses)) (some (3,y.1)) (obnd (bzt (y.1.Texts,x.1.Globals.Texts.Texts)) fun y_1=>brn (!y_1) (some (3,y.1)) (some (0,y.1))))) fun y=>some (y,x.2.1)))
def fzp:=iter gz2 big
def Fzj:Cq:=⟨73,[(1,.ro 42),(3,.ref 36),(4,.val 3),(5,.val 3)],[(.ret,[(2,.val 44)])],rg 24 78 [2,4,5,7,9],fzp,none⟩
theorem AzI:bz8 ([rze]:List (CutSpec tb)) (oz3 (czh 21 Tryz.f9) 0)=[(148,.loop (czv 148 Tryz.f9))]:=by kernel_rfl
theorem zz3:cz1 Tryz.prog tb Tryz.f9.ntmps (czh 21 Tryz.f9) 0 Fzj:=yzF fun self hself=>nzy mixed (by kernel_rfl) (by kernel_rfl) lzb rfl AzI (.cons rfl sz9 rfl .nil) (.cons hself rfl .nil) (fun x=>by kernel_rfl)
def rzg (x:Book):Option ((Unit)⊕(Int)):=obnd (rz3 x.Globals) fun y=>brn (!decide (y=0)) (some (Sum.inr y)) (brn (!decide ((↑x.Sheets.length:Int)=(↑x.Globals.Sheets.length:Int))) (some (Sum.inr 1)) (brn (decide (0<(↑x.Sheets.length:Int))) (obnd (idx x.Sheets 0) fun y=>obnd (hz7 y) fun y=>brn (!decide (y=0)) (some (Sum.inr y)) (obnd (idx x.Sheets 0) fun y=>obnd (fzp (x,Table.mk [] 0,i64.wrap (0+(↑y.Cells.length:Int)),1)) fun y=>some (Sum.inr y.1))) (obnd (jzo (x,x.Sheets,(↑x.Sheets.length:Int),0)) fun y=>osum y (fun y=>obnd (jzh x.Sheets) fun y=>brn (!decide (y.2=0)) (some (Sum.inr 3)) (brn (!decide (y.1.Uses=x.Globals.Texts.Uses)) (some (Sum.inr 3)) (obnd (bzt (y.1.Texts,x.Globals.Texts.Texts)) fun y=>brn (!y) (some (Sum.inr 3)) (some (Sum.inr 0))))) fun y=>some (Sum.inr y))))
def Iz5:Cq:=⟨21,[(1,.ro 42)],[(.normal,[]),(.ret,[(2,.val 44)])],rg 9 93 (rg 2 4 [7]),rzg,none⟩
theorem Fzk:bz8 ([rze]:List (CutSpec tb)) (czh 21 Tryz.f9)=[(148,.loop (czv 148 Tryz.f9))]:=by kernel_rfl
theorem Dzc:czW Tryz.prog tb Tryz.f9.ntmps (.scope (czh 21 Tryz.f9)) Iz5:=rzJ mixed (by kernel_rfl) lzb rfl Fzk (.cons rfl sz9 rfl .nil) (.cons zz3 rfl .nil) (fun x=>by kernel_rfl)
def jzg (x:Book):Option (Int):=obnd (rzg x) fun y=>osum y (fun y=>none) fun y=>some y
def rzV:Fq:=⟨[(0,.val 42)],[(0,.val 44)],jzg⟩
theorem pzv:A0 9 rzV:=A2 Tryz.func9 lzb (.cons Dzc .nil)
abbrev OzY:List (Nat×Fq):=[(57,AzL),(36,wzp),(9,rzV)]
theorem zzx:azk Tryz.prog tb (OzY):=(.cons Dzh (.cons uzg (.cons pzv .nil)))
def zzy (back:List (Sheet)×Book×List Sheet×Int×Int->Option ((List (Sheet))×Book))(x:List (Sheet)×Book×List Sheet×Int×Int):Option ((List (Sheet))×Book):=brn (decide (x.2.2.2.2<x.2.2.2.1)) (obnd (idx x.2.2.1 x.2.2.2.2) fun y=>obnd (AzK y) fun y=>obnd (app 72 x.1 [y]) fun zs=>back (zs,Book.mk x.2.1.Globals zs,x.2.2.1,x.2.2.2.1,i64.wrap (x.2.2.2.2+1))) (some (x.1,Book.mk x.2.1.Globals x.1))
def zzz:=iter zzy big
def Lzr:Cq:=⟨36,[(34359738372,.own 101),(4,.ref 42),(14,.val 40),(15,.val 3),(16,.val 3)],[(.exit 0,[(34359738372,.own 101)])],rg 16 12 [6],zzz,none⟩
theorem Fzl:A3 Tryz.f21 36 Lzr:=A4 zzx .nil zzy
def GzU (x:Book):Option (Book×Int):=obnd (zzz ([],Book.mk x.Globals [],x.Sheets,(↑x.Sheets.length:Int),0)) fun y=>obnd (jzh y.1) fun y_1=>brn (!decide (y_1.2=0)) (some (Book.mk (Globals.mk [] [] [] [] (Table.mk [] 0) []) [],y_1.2)) (obnd (jzg (Book.mk (Globals.mk y.2.Globals.Sheets y.2.Globals.Formats y.2.Globals.XFs y.2.Globals.Names y_1.1 y.2.Globals.Chain) y.1)) fun y_2=>brn (!decide (y_2=0)) (some (Book.mk (Globals.mk [] [] [] [] (Table.mk [] 0) []) [],y_2)) (some (Book.mk (Globals.mk y.2.Globals.Sheets y.2.Globals.Formats y.2.Globals.XFs y.2.Globals.Names y_1.1 y.2.Globals.Chain) y.1,0)))
def GzV:Fq:=⟨[(0,.val 42)],[(0,.val 42),(1,.val 44)],GzU⟩
theorem GzW:A0 21 GzV:=A2 Tryz.func21 zzx (.cons Fzl .nil)
abbrev Nz4:List (Nat×Fq):=[(48,zzl)]
theorem nz0:azk Tryz.prog tb (Nz4):=(.cons nzr .nil)
def lzg (back:Cell2×Node×List Group×Int×Int->Option ((Unit)×Node))(x:Cell2×Node×List Group×Int×Int):Option ((Unit)×Node):=brn (decide (x.2.2.2.2<x.2.2.2.1)) (obnd (idx x.2.2.1 x.2.2.2.2) fun y=>brn y.Array (obnd (kzL (Group.mk y.Array y.A y.B (aze y.E),x.1.At)) fun y_1=>brn y_1 (back (Cell2.mk x.1.At x.1.XF x.1.V x.1.Has (aze x.1.E),Node.mk x.2.1.P y.A (aze x.2.1.E),x.2.2.1,x.2.2.2.1,i64.wrap (x.2.2.2.2+1))) (back (Cell2.mk x.1.At x.1.XF x.1.V x.1.Has (aze x.1.E),Node.mk x.2.1.P x.2.1.Base (aze x.2.1.E),x.2.2.1,x.2.2.2.1,i64.wrap (x.2.2.2.2+1)))) (back (Cell2.mk x.1.At x.1.XF x.1.V x.1.Has (aze x.1.E),Node.mk x.2.1.P x.2.1.Base (aze x.2.1.E),x.2.2.1,x.2.2.2.1,i64.wrap (x.2.2.2.2+1)))) (some ((),Node.mk x.2.1.P x.2.1.Base (aze x.2.1.E)))
def rzj:=iter lzg big
def Iz8:Cq:=⟨100,[(7,.ro 108),(8,.ref 92),(39,.val 99),(40,.val 3),(41,.val 3)],[(.exit 4,[])],rg 41 16 [10],rzj,none⟩
theorem Dzf:A3 Tryz.f13 100 Iz8:=A4 nz0 .nil lzg
def lzf (back:List (Node)×Int×Sheet×List Cell2×Int×Int->Option (List (Node)))(x:List (Node)×Int×Sheet×List Cell2×Int×Int):Option (List (Node)):=brn (decide (x.2.2.2.2.2<x.2.2.2.2.1)) (obnd (idx x.2.2.2.1 x.2.2.2.2.2) fun y=>brn (!y.Has) (back (x.1,x.2.1,x.2.2.1,x.2.2.2.1,x.2.2.2.2.1,i64.wrap (x.2.2.2.2.2+1))) (obnd (rzj (Cell2.mk y.At y.XF y.V y.Has (aze y.E),Node.mk (Place.mk x.2.1 y.At) y.At (aze y.E),x.2.2.1.Groups,(↑x.2.2.1.Groups.length:Int),0)) fun y=>obnd (app 192 x.1 [Node.mk y.2.P y.2.Base (aze y.2.E)]) fun zs=>back (zs,x.2.1,x.2.2.1,x.2.2.2.1,x.2.2.2.2.1,i64.wrap (x.2.2.2.2.2+1)))) (some x.1)
def rzi:=iter lzf big
def Iz7:Cq:=⟨60,[(3,.own 92),(4,.val 3),(5,.ro 101),(20,.val 98),(21,.val 3),(22,.val 3)],[(.exit 2,[(3,.own 92)])],rg 22 40 [3,7,8,10],rzi,none⟩
theorem Dze:A3 Tryz.f13 60 Iz7:=A4 nz0 (.cons Dzf .nil) lzf
def lze (back:List (Node)×List Sheet×Int×Int->Option (List (Node)))(x:List (Node)×List Sheet×Int×Int):Option (List (Node)):=brn (decide (x.2.2.2<x.2.2.1)) (obnd (idx x.2.1 x.2.2.2) fun y=>obnd (rzi (x.1,x.2.2.2,y,y.Cells,(↑y.Cells.length:Int),0)) fun y=>back (y,x.2.1,x.2.2.1,i64.wrap (x.2.2.2+1))) (some x.1)
def rzh:=iter lze big
def Iz6:Cq:=⟨36,[(3,.own 92),(12,.val 40),(13,.val 3),(14,.val 3)],[(.exit 0,[(3,.own 92)])],rg 14 49 (rg 3 3 [7,8,10]),rzh,none⟩
theorem Dzd:A3 Tryz.f13 36 Iz6:=A4 nz0 (.cons Dze .nil) lze
def ozW (x:Book):Option (List (Node)):=obnd (rzh ([],x.Sheets,(↑x.Sheets.length:Int),0)) fun y=>some y
def wzo:Fq:=⟨[(0,.val 42)],[(0,.own 92)],ozW⟩
theorem uzf:A0 13 wzo:=A2 Tryz.func13 nz0 (.cons Dzd .nil)
def fzi (x:List Expr):Option (List (Expr)):=app 152 [] x
def czS:Fq:=⟨[(0,.val 35)],[(0,.own 90)],fzi⟩
theorem ozw:∀x,evFn Tryz.prog tb [] [] Tryz.f53 czS.ins czS.outs x=czS.f x:=fun x=>Eq.trans (by kernel_rfl) (rzY 152 x)
theorem nza:A0 53 czS:=A1 Tryz.func53 .nil (hJ:=ozw)
abbrev book_EnvG:List (Nat×Fq):=[(53,czS)]
theorem uzc:azk Tryz.prog tb (book_EnvG):=(.cons nza .nil)
def nzv (back:List (Slot)×Env×Int×List Cell2×Int×Int->Option ((List (Slot))×Env))(x:List (Slot)×Env×Int×List Cell2×Int×Int):Option ((List (Slot))×Env):=brn (decide (x.2.2.2.2.2<x.2.2.2.2.1)) (obnd (idx x.2.2.2.1 x.2.2.2.2.2) fun y=>brn (!decide (y.V.Kind=0)) (obnd (app 80 x.1 [Slot.mk (Place.mk x.2.2.1 y.At) y.V]) fun zs=>back (zs,Env.mk x.2.1.Sheets zs x.2.1.Names,x.2.2.1,x.2.2.2.1,x.2.2.2.2.1,i64.wrap (x.2.2.2.2.2+1))) (back (x.1,Env.mk x.2.1.Sheets x.1 x.2.1.Names,x.2.2.1,x.2.2.2.1,x.2.2.2.2.1,i64.wrap (x.2.2.2.2.2+1)))) (some (x.1,Env.mk x.2.1.Sheets x.1 x.2.1.Names))
def uze:=iter nzv big
def Mzm:Cq:=⟨60,[(8589934595,.own 106),(3,.ref 60),(4,.val 3),(21,.val 98),(22,.val 3),(23,.val 3)],[(.exit 2,[(8589934595,.own 106)])],rg 23 21 [7],uze,none⟩
theorem GzT:A3 Tryz.f17 60 Mzm:=A4 uzc .nil nzv
def nzu (back:List (Slot)×Env×List Sheet×Int×Int->Option ((List (Slot))×Env))(x:List (Slot)×Env×List Sheet×Int×Int):Option ((List (Slot))×Env):=brn (decide (x.2.2.2.2<x.2.2.2.1)) (obnd (idx x.2.2.1 x.2.2.2.2) fun y=>obnd (uze (x.1,Env.mk x.2.1.Sheets x.1 x.2.1.Names,x.2.2.2.2,y.Cells,(↑y.Cells.length:Int),0)) fun y=>back (y.1,Env.mk y.2.Sheets y.1 y.2.Names,x.2.2.1,x.2.2.2.1,i64.wrap (x.2.2.2.2+1))) (some (x.1,Env.mk x.2.1.Sheets x.1 x.2.1.Names))
def uzd:=iter nzu big
def Mzl:Cq:=⟨36,[(8589934595,.own 106),(3,.ref 60),(13,.val 40),(14,.val 3),(15,.val 3)],[(.exit 0,[(8589934595,.own 106)])],rg 15 30 [4,5,7],uzd,none⟩
theorem GzS:A3 Tryz.f17 36 Mzl:=A4 uzc (.cons GzT .nil) nzu
def szm (x:Book):Option (Env):=obnd (uzd ([],Env.mk (↑x.Sheets.length:Int) [] [],x.Sheets,(↑x.Sheets.length:Int),0)) fun y=>obnd (fzi x.Globals.Names) fun y_1=>some (Env.mk y.2.Sheets y.1 y_1)
def AzJ:Fq:=⟨[(0,.val 42)],[(0,.val 60)],szm⟩
theorem wz4:A0 17 AzJ:=A2 Tryz.func17 uzc (.cons GzS .nil)
def ezD (back:List Int×List Int×Int×Int->Option ((Unit)⊕(Bool)))(x:List Int×List Int×Int×Int):Option ((Unit)⊕(Bool)):=brn (decide (x.2.2.2<x.2.2.1)) (obnd (idx x.1 x.2.2.2) fun y=>obnd (idx x.2.1 x.2.2.2) fun y_1=>brn (!decide (y=y_1)) (some (Sum.inr false)) (back (x.1,x.2.1,x.2.2.1,i64.wrap (x.2.2.2+1)))) (some (Sum.inl PUnit.unit))
def jzW:=iter ezD big
def vzi:Cq:=⟨44,[(0,.val 23),(1,.val 23),(12,.val 3),(13,.val 3)],[(.exit 0,[]),(.ret,[(4,.val 4)])],rg 13 13 [4,5],jzW,none⟩
theorem szD:A3 Tryz.f92 44 vzi:=A4 .nil .nil ezD
def izw (x:List Int×List Int):Option (Bool):=brn (!decide ((↑x.1.length:Int)=(↑x.2.length:Int))) (some false) (obnd (jzW (x.1,x.2,(↑x.1.length:Int),0)) fun y=>osum y (fun y=>some true) fun y=>some y)
def xz8:Fq:=⟨[(0,.val 23),(1,.val 23)],[(0,.val 4)],izw⟩
theorem sz3:A0 92 xz8:=A2 Tryz.func92 .nil (.cons szD .nil)
abbrev ez8:List (Nat×Fq):=[(94,tzB)]
theorem czy:azk Tryz.prog tb (ez8):=(.cons izl .nil)
def azD (back:List Expr×Unit×List Expr×Int×Int->Option ((Unit)⊕(Bool)))(x:List Expr×Unit×List Expr×Int×Int):Option ((Unit)⊕(Bool)):=brn (decide (x.2.2.2.2<x.2.2.2.1)) (obnd (idx x.2.2.1 x.2.2.2.2) fun y=>obnd (idx x.1 x.2.2.2.2) fun y_1=>obnd (iz2 (aze y,aze y_1)) fun y=>brn (!y) (some (Sum.inr false)) (back (x.1,(),x.2.2.1,x.2.2.2.1,i64.wrap (x.2.2.2.2+1)))) (some (Sum.inl PUnit.unit))
def bzB:=iter azD big
def ezR:Cq:=⟨44,[(1,.val 35),(2,.fnp 94 0),(15,.val 35),(16,.val 3),(17,.val 3)],[(.exit 0,[]),(.ret,[(6,.val 4)])],rg 17 15 (rg 6 4 []),bzB,none⟩
theorem ezr:A3 Tryz.f93 44 ezR:=A4 czy .nil azD
def az7 (x:List Expr×List Expr×Unit):Option (Bool):=brn (!decide ((↑x.1.length:Int)=(↑x.2.1.length:Int))) (some false) (obnd (bzB (x.2.1,(),x.1,(↑x.1.length:Int),0)) fun y=>osum y (fun y=>some true) fun y=>some y)
def ez9:Fq:=⟨[(0,.val 35),(1,.val 35),(2,.fnp 94 0)],[(0,.val 4)],az7⟩
theorem ezA:A0 93 ez9:=A2 Tryz.func93 czy (.cons ezr .nil)
def czo (back:List Place×List Place×Int×Int->Option ((Unit)⊕(Bool)))(x:List Place×List Place×Int×Int):Option ((Unit)⊕(Bool)):=brn (decide (x.2.2.2<x.2.2.1)) (obnd (idx x.1 x.2.2.2) fun y=>obnd (idx x.2.1 x.2.2.2) fun y_1=>brn (bif true then !(decide (y.Sheet=y_1.Sheet)&&(decide (y.At.Row=y_1.At.Row)&&decide (y.At.Col=y_1.At.Col)))else decide (y.Sheet=y_1.Sheet)&&(decide (y.At.Row=y_1.At.Row)&&decide (y.At.Col=y_1.At.Col))) (some (Sum.inr false)) (back (x.1,x.2.1,x.2.2.1,i64.wrap (x.2.2.2+1)))) (some (Sum.inl PUnit.unit))
def ezC:=iter czo big
def nzT:Cq:=⟨44,[(0,.val 37),(1,.val 37),(12,.val 3),(13,.val 3)],[(.exit 0,[]),(.ret,[(4,.val 4)])],rg 13 13 [4,5],ezC,none⟩
theorem mzQ:A3 Tryz.f95 44 nzT:=A4 .nil .nil czo
def dzB (x:List Place×List Place):Option (Bool):=brn (!decide ((↑x.1.length:Int)=(↑x.2.length:Int))) (some false) (obnd (ezC (x.1,x.2,(↑x.1.length:Int),0)) fun y=>osum y (fun y=>some true) fun y=>some y)
def oz5:Fq:=⟨[(0,.val 37),(1,.val 37)],[(0,.val 4)],dzB⟩
theorem nzc:A0 95 oz5:=A2 Tryz.func95 .nil (.cons mzQ .nil)
def tzD (x:Globals×Globals):Option (Bool):=obnd (bzt (x.1.Sheets,x.2.Sheets)) fun y=>brn y (obnd (bzt (x.1.Formats,x.2.Formats)) fun y=>brn y (obnd (izw (x.1.XFs,x.2.XFs)) fun y=>brn y (obnd (az7 (x.1.Names,x.2.Names,())) fun y=>brn y (obnd (bzt (x.1.Texts.Texts,x.2.Texts.Texts)) fun y=>brn y (brn (decide (x.1.Texts.Uses=x.2.Texts.Uses)) (obnd (dzB (x.1.Chain,x.2.Chain)) fun y=>some y) (some false)) (some false)) (some false)) (some false)) (some false)) (some false)
def Pzj:Fq:=⟨[(0,.val 39),(1,.val 39)],[(0,.val 4)],tzD⟩
theorem Hzn:A0 43 Pzj:=A1 Tryz.func43 (.cons jzX (.cons sz3 (.cons ezA (.cons nzc .nil))))
def czp (back:List Row×List Row×Int×Int->Option ((Unit)⊕(Bool)))(x:List Row×List Row×Int×Int):Option ((Unit)⊕(Bool)):=brn (decide (x.2.2.2<x.2.2.1)) (obnd (idx x.1 x.2.2.2) fun y=>obnd (idx x.2.1 x.2.2.2) fun y_1=>brn (bif true then !(decide (y.Row=y_1.Row)&&(decide (y.Height=y_1.Height)&&decide (y.Hidden=y_1.Hidden)))else decide (y.Row=y_1.Row)&&(decide (y.Height=y_1.Height)&&decide (y.Hidden=y_1.Hidden))) (some (Sum.inr false)) (back (x.1,x.2.1,x.2.2.1,i64.wrap (x.2.2.2+1)))) (some (Sum.inl PUnit.unit))
def ezE:=iter czp big
def nzU:Cq:=⟨44,[(0,.val 97),(1,.val 97),(12,.val 3),(13,.val 3)],[(.exit 0,[]),(.ret,[(4,.val 4)])],rg 13 13 [4,5],ezE,none⟩
theorem mzR:A3 Tryz.f96 44 nzU:=A4 .nil .nil czp
def dzC (x:List Row×List Row):Option (Bool):=brn (!decide ((↑x.1.length:Int)=(↑x.2.length:Int))) (some false) (obnd (ezE (x.1,x.2,(↑x.1.length:Int),0)) fun y=>osum y (fun y=>some true) fun y=>some y)
def oz6:Fq:=⟨[(0,.val 97),(1,.val 97)],[(0,.val 4)],dzC⟩
theorem nzd:A0 96 oz6:=A2 Tryz.func96 .nil (.cons mzR .nil)
def rzX (x:Cell2×Cell2):Option (Bool):=brn (bif false then !(decide (x.1.At.Row=x.2.At.Row)&&decide (x.1.At.Col=x.2.At.Col))else decide (x.1.At.Row=x.2.At.Row)&&decide (x.1.At.Col=x.2.At.Col)) (brn (decide (x.1.XF=x.2.XF)) (brn (bif false then !(decide (x.1.V.Kind=x.2.V.Kind)&&(decide (x.1.V.N.M=x.2.V.N.M)&&(decide (x.1.V.N.S=x.2.V.N.S)&&(decide (x.1.V.S=x.2.V.S)&&(decide (x.1.V.B=x.2.V.B)&&decide (x.1.V.E=x.2.V.E))))))else decide (x.1.V.Kind=x.2.V.Kind)&&(decide (x.1.V.N.M=x.2.V.N.M)&&(decide (x.1.V.N.S=x.2.V.N.S)&&(decide (x.1.V.S=x.2.V.S)&&(decide (x.1.V.B=x.2.V.B)&&decide (x.1.V.E=x.2.V.E)))))) (brn (decide (x.1.Has=x.2.Has)) (obnd (iz2 (aze x.1.E,aze x.2.E)) fun y=>some y) (some false)) (some false)) (some false)) (some false)
def EzF:Fq:=⟨[(0,.val 108),(1,.val 108)],[(0,.val 4)],rzX⟩
theorem Fzm:A0 98 EzF:=A1 Tryz.func98 (.cons izl .nil)
abbrev ezy:List (Nat×Fq):=[(98,EzF)]
theorem czg:azk Tryz.prog tb (ezy):=(.cons Fzm .nil)
def azB (back:List Cell2×Unit×List Cell2×Int×Int->Option ((Unit)⊕(Bool)))(x:List Cell2×Unit×List Cell2×Int×Int):Option ((Unit)⊕(Bool)):=brn (decide (x.2.2.2.2<x.2.2.2.1)) (obnd (idx x.2.2.1 x.2.2.2.2) fun y=>obnd (idx x.1 x.2.2.2.2) fun y_1=>obnd (rzX (Cell2.mk y.At y.XF y.V y.Has (aze y.E),Cell2.mk y_1.At y_1.XF y_1.V y_1.Has (aze y_1.E))) fun y=>brn (!y) (some (Sum.inr false)) (back (x.1,(),x.2.2.1,x.2.2.2.1,i64.wrap (x.2.2.2.2+1)))) (some (Sum.inl PUnit.unit))
def bzs:=iter azB big
def ezl:Cq:=⟨44,[(1,.val 98),(2,.fnp 98 0),(15,.val 98),(16,.val 3),(17,.val 3)],[(.exit 0,[]),(.ret,[(6,.val 4)])],rg 17 15 (rg 6 4 []),bzs,none⟩
theorem dzV:A3 Tryz.f97 44 ezl:=A4 czg .nil azB
def azW (x:List Cell2×List Cell2×Unit):Option (Bool):=brn (!decide ((↑x.1.length:Int)=(↑x.2.1.length:Int))) (some false) (obnd (bzs (x.2.1,(),x.1,(↑x.1.length:Int),0)) fun y=>osum y (fun y=>some true) fun y=>some y)
def ezz:Fq:=⟨[(0,.val 98),(1,.val 98),(2,.fnp 98 0)],[(0,.val 4)],azW⟩
theorem dz9:A0 97 ezz:=A2 Tryz.func97 czg (.cons dzV .nil)
def szc (x:Sheet×Sheet):Option (Bool):=obnd (dzC (x.1.Rows,x.2.Rows)) fun y=>brn y (obnd (azW (x.1.Cells,x.2.Cells,())) fun y=>brn y (obnd (azq (x.1.Groups,x.2.Groups,())) fun y=>some y) (some false)) (some false)
def Fza:Fq:=⟨[(0,.val 101),(1,.val 101)],[(0,.val 4)],szc⟩
theorem Gzr:A0 45 Fza:=A1 Tryz.func45 (.cons nzd (.cons dz9 (.cons bzQ .nil)))
abbrev ezg:List (Nat×Fq):=[(45,Fza)]
theorem bz3:azk Tryz.prog tb (ezg):=(.cons Gzr .nil)
def azy (back:List Sheet×Unit×List Sheet×Int×Int->Option ((Unit)⊕(Bool)))(x:List Sheet×Unit×List Sheet×Int×Int):Option ((Unit)⊕(Bool)):=brn (decide (x.2.2.2.2<x.2.2.2.1)) (obnd (idx x.2.2.1 x.2.2.2.2) fun y=>obnd (idx x.1 x.2.2.2.2) fun y_1=>obnd (szc (y,y_1)) fun y=>brn (!y) (some (Sum.inr false)) (back (x.1,(),x.2.2.1,x.2.2.2.1,i64.wrap (x.2.2.2.2+1)))) (some (Sum.inl PUnit.unit))
def bzh:=iter azy big
def dzS:Cq:=⟨44,[(1,.val 40),(2,.fnp 45 0),(15,.val 40),(16,.val 3),(17,.val 3)],[(.exit 0,[]),(.ret,[(6,.val 4)])],rg 17 15 (rg 6 4 []),bzh,none⟩
theorem dzH:A3 Tryz.f44 44 dzS:=A4 bz3 .nil azy
def azI (x:List Sheet×List Sheet×Unit):Option (Bool):=brn (!decide ((↑x.1.length:Int)=(↑x.2.1.length:Int))) (some false) (obnd (bzh (x.2.1,(),x.1,(↑x.1.length:Int),0)) fun y=>osum y (fun y=>some true) fun y=>some y)
def ezh:Fq:=⟨[(0,.val 40),(1,.val 40),(2,.fnp 45 0)],[(0,.val 4)],azI⟩
theorem dzK:A0 44 ezh:=A2 Tryz.func44 bz3 (.cons dzH .nil)
def mza (x:Book×Book):Option (Bool):=obnd (tzD (x.1.Globals,x.2.Globals)) fun y=>brn y (obnd (azI (x.1.Sheets,x.2.Sheets,())) fun y=>some y) (some false)
def yzp:Fq:=⟨[(0,.val 42),(1,.val 42)],[(0,.val 4)],mza⟩
theorem vzy:A0 11 yzp:=A1 Tryz.func11 (.cons Hzn (.cons dzK .nil))
end
end Go.Proofs.YtkafbjodbjkieaaGreatDoor