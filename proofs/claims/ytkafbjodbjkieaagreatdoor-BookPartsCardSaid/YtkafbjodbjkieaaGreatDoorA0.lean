import Derived.Test.YtkafbjodbjkieaaGreatDoorU1
set_option linter.unusedVariables false
set_option maxRecDepth 400000
/- A1 -/
namespace Go.Proofs.YtkafbjodbjkieaaGreatDoor
open Go Go.Ev
open Go.IntKind (i64 u64 u8 i32 u32 i16 u16)
set_option maxRecDepth 100000
noncomputable section
def KzC (x:Int):Option (Dec):=some (Dec.mk x 0)
def dec_IntS:Fq:=⟨[(0,.val 2)],[(0,.val 83)],KzC⟩
theorem JzM:A0 65 dec_IntS:=A1 Tryz.func65 .nil
def fzg (x:List Row):Option (List (Row)):=app 24 [] x
def cz2:Fq:=⟨[(0,.val 97)],[(0,.own 174)],fzg⟩
theorem nz5:∀x,evFn Tryz.prog tb [] [] Tryz.f106 cz2.ins cz2.outs x=cz2.f x:=fun x=>Eq.trans (by kernel_rfl) (rzm 24 x)
theorem mzR:A0 106 cz2:=A1 Tryz.func106 .nil (hJ:=nz5)
def xzh (x:Cell2×Cell):Option (Bool):=brn (bif false then !(decide (x.1.At.Row=x.2.Row)&&decide (x.1.At.Col=x.2.Col))else decide (x.1.At.Row=x.2.Row)&&decide (x.1.At.Col=x.2.Col)) (some x.1.4) (some false)
def Fzg:Fq:=⟨[(0,.val 108),(1,.ro 80)],[(0,.val 4)],xzh⟩
theorem Fzh:A0 168 Fzg:=A1 Tryz.func168 .nil
abbrev jzk:List (Nat×Fq):=[(168,Fzg)]
theorem dz6:azk Tryz.prog tb (jzk):=(.cons Fzh .nil)
def bzo (back:Cell×List Cell2×Unit×Int×Int->Option ((Unit)⊕(Int)))(x:Cell×List Cell2×Unit×Int×Int):Option ((Unit)⊕(Int)):=brn (decide (x.2.2.2.2<x.2.2.2.1)) (obnd (idx x.2.1 x.2.2.2.2) fun y=>obnd (xzh (Cell2.mk y.At y.XF y.V y.Has (azf y.E),x.1)) fun y=>brn y (some (Sum.inr x.2.2.2.2)) (back (x.1,x.2.1,(),x.2.2.2.1,i64.wrap (x.2.2.2.2+1)))) (some (Sum.inl PUnit.unit))
def czL:=iter bzo big
def izy:Cq:=⟨28,[(4294967297,.ro 80),(0,.val 98),(1,.fnp 168 1),(7,.val 3),(8,.val 3)],[(.exit 0,[]),(.ret,[(4,.val 3)])],rg 8 11 [4,5],czL,none⟩
theorem hzy:A3 Tryz.f167 28 izy:=A4 dz6 .nil bzo
def cz4 (x:Cell×List Cell2×Unit):Option (Int):=obnd (czL (x.1,x.2.1,(),(↑x.2.1.length:Int),0)) fun y=>osum y (fun y=>some (-1)) fun y=>some y
def jzl:Fq:=⟨[(4294967297,.ro 80),(0,.val 98),(1,.fnp 168 1)],[(0,.val 3)],cz4⟩
theorem hz5:A0 167 jzl:=A2 Tryz.func167 dz6 (.cons hzy .nil)
def xzg (x:List Cell2×Cell):Option (Expr×Bool):=obnd (cz4 (x.2,x.1,())) fun y=>brn (decide (y<0)) (some (Expr.mk 0 (Val.mk 0 (Dec.mk 0 0) [] false 0) (Area.mk (Ref.mk 0 0 false false) (Ref.mk 0 0 false false)) 0 0 [],false)) (obnd (idx x.1 y) fun y=>some (azf y.E,true))
def Kzv:Fq:=⟨[(0,.val 98),(1,.val 80)],[(0,.val 90),(1,.val 4)],xzg⟩
theorem JzI:A0 107 Kzv:=A1 Tryz.func107 (.cons hz5 .nil)
def nzE (x:Int):Option (Bool):=some (bif decide (x=x)then false else true)
def HzC:Fq:=⟨[(0,.val 3)],[(0,.val 4)],nzE⟩
theorem yzO:A0 178 HzC:=A1 Tryz.func178 .nil
def dzV (x:Int×Int):Option (Int):=obnd (nzE x.1) fun y=>obnd (nzE x.2) fun y_1=>brn y (brn y_1 (some 0) (some (-1))) (brn y_1 (some 1) (brn (decide (x.1<x.2)) (some (-1)) (brn (decide (x.2<x.1)) (some 1) (some 0))))
def DzU:Fq:=⟨[(0,.val 3),(1,.val 3)],[(0,.val 3)],dzV⟩
theorem kz3:A0 122 DzU:=A1 Tryz.func122 (.cons yzO .nil)
def kz4 (back:Int×List Int×Int×Int->Option ((Unit)⊕(Int)))(x:Int×List Int×Int×Int):Option ((Unit)⊕(Int)):=brn (decide (x.2.2.2<x.2.2.1)) (obnd (idx x.2.1 x.2.2.2) fun y=>brn (!decide (y=x.1)) (some (Sum.inr y)) (back (x.1,x.2.1,x.2.2.1,i64.wrap (x.2.2.2+1)))) (some (Sum.inl PUnit.unit))
def qzI:=iter kz4 big
def HzB:Cq:=⟨36,[(3,.val 3),(6,.val 23),(7,.val 3),(8,.val 3)],[(.exit 0,[]),(.ret,[(2,.val 3)])],rg 8 9 [2,5],qzI,none⟩
theorem BzY:A3 Tryz.f121 36 HzB:=A4 .nil .nil kz4
def mzB (x:List Int):Option (Int):=obnd (qzI (0,x,(↑x.length:Int),0)) fun y=>osum y (fun y=>some 0) fun y=>some y
def Mzd:Fq:=⟨[(0,.val 23)],[(0,.val 3)],mzB⟩
theorem oz1:A0 121 Mzd:=A2 Tryz.func121 .nil (.cons BzY .nil)
def nzu (x:Group×Group):Option (Int):=obnd (dzV (x.1.A.Row,x.2.A.Row)) fun y=>obnd (dzV (x.1.A.Col,x.2.A.Col)) fun y_1=>obnd (mzB [y,y_1]) fun y=>some y
def uzd:Fq:=⟨[(0,.val 141),(1,.val 141)],[(0,.val 3)],nzu⟩
theorem szA:A0 109 uzd:=A1 Tryz.func109 (.cons kz3 (.cons oz1 .nil))
abbrev izz:List (Nat×Fq):=[(109,uzd)]
theorem czt:azk Tryz.prog tb (izz):=(.cons szA .nil)
def czu (back:List (Group)×Int×Unit×Int->Option (List (Group)))(x:List (Group)×Int×Unit×Int):Option (List (Group)):=brn (decide (x.2.1<x.2.2.2)) (obnd (inb x.1.length x.2.2.2) fun k=>obnd (nth x.1 (0+k)) fun y=>obnd (inb x.1.length (i64.wrap (x.2.2.2-1))) fun k=>obnd (nth x.1 (0+k)) fun y_1=>obnd (nzu (Group.mk y.Array y.A y.B (azf y.E),Group.mk y_1.Array y_1.A y_1.B (azf y_1.E))) fun y=>brn (decide (y<0)) (obnd (inb x.1.length (i64.wrap (x.2.2.2-1))) fun k=>obnd (nth x.1 (0+k)) fun y=>obnd (inb x.1.length x.2.2.2) fun k=>obnd (nth x.1 (0+k)) fun y_2=>obnd (inb x.1.length x.2.2.2) fun k=>obnd (nth x.1 (0+k)) fun y_3=>obnd (inb (x.1.set (0+k) (Group.mk y.Array y.A y.B (azf y.E))).length (i64.wrap (x.2.2.2-1))) fun k_1=>obnd (nth (x.1.set (0+k) (Group.mk y.Array y.A y.B (azf y.E))) (0+k_1)) fun y_4=>back ((x.1.set (0+k) (Group.mk y.Array y.A y.B (azf y.E))).set (0+k_1) (Group.mk y_2.Array y_2.A y_2.B (azf y_2.E)),x.2.1,(),i64.wrap (x.2.2.2-1))) (some x.1)) (some x.1)
def czv:=iter czu big
def hzB:Cq:=⟨44,[(0,.wr 141),(1,.val 3),(3,.fnp 109 0),(9,.val 3)],[(.exit 2,[(0,.wr 141)])],rg 18 35 [9],czv,none⟩
theorem gzt:A3 Tryz.f203 44 hzB:=A4 czt .nil czu
def azC (back:List (Group)×Int×Int×Unit×Int->Option (List (Group)))(x:List (Group)×Int×Int×Unit×Int):Option (List (Group)):=brn (decide (x.2.2.2.2<x.2.2.1)) (obnd (czv (x.1,x.2.1,(),x.2.2.2.2)) fun y=>back (y,x.2.1,x.2.2.1,(),i64.wrap (x.2.2.2.2+1))) (some x.1)
def bzN:=iter azC big
def hzA:Cq:=⟨20,[(0,.wr 141),(1,.val 3),(2,.val 3),(3,.fnp 109 0),(8,.val 3)],[(.exit 0,[(0,.wr 141)])],rg 12 41 [8,9],bzN,none⟩
theorem gzs:A3 Tryz.f203 20 hzA:=A4 czt (.cons gzt .nil) azC
def azF (x:List (Group)×Int×Int×Unit):Option (List (Group)):=obnd (bzN (x.1,x.2.1,x.2.2.1,(),i64.wrap (x.2.1+1))) fun y=>some y
def dz8:Fq:=⟨[(0,.wr 141),(1,.val 3),(2,.val 3),(3,.fnp 109 0)],[(4503599627403264,.wr 141)],azF⟩
theorem gzJ:A0 203 dz8:=A2 Tryz.func203 czt (.cons gzs .nil)
def jzW (_:List Group×Int×Int×Int×Unit):Option (Unit):=none
def ezN:Fq:=⟨[(0,.val 99),(1,.val 3),(2,.val 3),(3,.val 3),(4,.fnp 109 0)],[],jzW⟩
theorem izE:azy Tryz.prog tb 204 ezN:=NzU (gzl Tryz.func204 (by kernel_rfl))
abbrev kzC:List (Nat×Fq):=[(203,dz8),(204,ezN)]
theorem cza:azk Tryz.prog tb (kzC):=(.cons gzJ (.cons izE .nil))
def azL (back:List (Group)×Int×Unit×Int×Int×Int->Option (Int×List (Group)))(x:List (Group)×Int×Unit×Int×Int×Int):Option (Int×List (Group)):=brn (decide (x.2.2.2.2.2<=x.2.1)) (obnd (azF (x.1,x.2.2.2.2.1,x.2.2.2.2.2,())) fun y=>back (y,x.2.1,(),x.2.2.2.1,x.2.2.2.2.2,i64.wrap (x.2.2.2.2.2+x.2.2.2.1))) (some (x.2.2.2.2.1,x.1))
def czb:=iter azL big
def jzM:Cq:=⟨28,[(0,.wr 141),(1,.val 3),(2,.fnp 109 0),(6,.val 3),(7,.val 3),(8,.val 3)],[(.exit 0,[(7,.val 3),(0,.wr 141)])],rg 11 12 [7,8],czb,none⟩
theorem izO:A3 Tryz.f169 28 jzM:=A4 cza .nil azL
def ezL (back:List (Group)×Int×Unit×Int×Int×Int->Option (Int×List (Group)))(x:List (Group)×Int×Unit×Int×Int×Int):Option (Int×List (Group)):=brn (decide (x.2.2.2.2.2<=x.2.1)) none (some (x.2.2.2.2.1,x.1))
def ezM:=iter ezL big
def jzO:Cq:=⟨84,[(0,.wr 141),(1,.val 3),(2,.fnp 109 0),(6,.val 3),(7,.val 3),(8,.val 3)],[(.exit 4,[(7,.val 3),(0,.wr 141)])],rg 33 16 [7,8],ezM,none⟩
theorem izQ:A3 Tryz.f169 84 jzO:=A4 cza .nil ezL
def dzc (back:List (Group)×Int×Unit×Int->Option (List (Group)))(x:List (Group)×Int×Unit×Int):Option (List (Group)):=brn (decide (x.2.2.2<x.2.1)) (obnd (ezM (x.1,x.2.1,(),x.2.2.2,0,i64.wrap (2*x.2.2.2))) fun y=>brn (decide (i64.wrap (y.1+x.2.2.2)<x.2.1)) none (back (y.2,x.2.1,(),i64.wrap (x.2.2.2*2)))) (some x.1)
def dzd:=iter dzc big
def jzN:Cq:=⟨68,[(0,.wr 141),(1,.val 3),(2,.fnp 109 0),(6,.val 3)],[(.exit 2,[(0,.wr 141)])],rg 28 35 (rg 6 4 []),dzd,none⟩
theorem izP:A3 Tryz.f169 68 jzN:=A4 cza (.cons izQ .nil) dzc
def dzr (x:List (Group)×Int×Unit):Option (List (Group)):=obnd (czb (x.1,x.2.1,(),20,0,20)) fun y=>obnd (azF (y.2,y.1,x.2.1,())) fun y=>obnd (dzd (y,x.2.1,(),20)) fun y=>some y
def kzD:Fq:=⟨[(0,.wr 141),(1,.val 3),(2,.fnp 109 0)],[(4503599627403264,.wr 141)],dzr⟩
theorem iz2:A0 169 kzD:=A2 Tryz.func169 cza (.cons izO (.cons izP .nil))
def bzC (x:List (Group)×Unit):Option (List (Group)):=obnd (dzr (x.1,(↑x.1.length:Int),())) fun y=>some y
def dzv:Fq:=⟨[(0,.wr 141),(1,.fnp 109 0)],[(4503599627403264,.wr 141)],bzC⟩
theorem fzw:A0 108 dzv:=A1 Tryz.func108 (.cons iz2 .nil)
def kzx (x:Group×Cell):Option (Bool):=brn (decide (x.1.A.Row<=x.2.Row)) (brn (decide (x.2.Row<=x.1.B.Row)) (brn (decide (x.1.A.Col<=x.2.Col)) (some (decide (x.2.Col<=x.1.B.Col))) (some false)) (some false)) (some false)
def xz7:Fq:=⟨[(0,.val 141),(1,.val 80)],[(0,.val 4)],kzx⟩
theorem mz4:A0 48 xz7:=A1 Tryz.func48 .nil
def pzb (x:Group×Cell2):Option (Bool):=obnd (kzx (Group.mk x.1.Array x.1.A x.1.B (azf x.1.E),x.2.At)) fun y=>some y
def uze:Fq:=⟨[(0,.val 141),(1,.ro 108)],[(0,.val 4)],pzb⟩
theorem wzT:A0 170 uze:=A1 Tryz.func170 (.cons mz4 .nil)
abbrev gzE:List (Nat×Fq):=[(170,uze)]
theorem dzo:azk Tryz.prog tb (gzE):=(.cons wzT .nil)
def az3 (back:Cell2×List Group×Unit×Int×Int->Option ((Unit)⊕(Int)))(x:Cell2×List Group×Unit×Int×Int):Option ((Unit)⊕(Int)):=brn (decide (x.2.2.2.2<x.2.2.2.1)) (obnd (idx x.2.1 x.2.2.2.2) fun y=>obnd (pzb (Group.mk y.Array y.A y.B (azf y.E),Cell2.mk x.1.At x.1.XF x.1.V x.1.Has (azf x.1.E))) fun y=>brn y (some (Sum.inr x.2.2.2.2)) (back (Cell2.mk x.1.At x.1.XF x.1.V x.1.Has (azf x.1.E),x.2.1,(),x.2.2.2.1,i64.wrap (x.2.2.2.2+1)))) (some (Sum.inl PUnit.unit))
def bz8:=iter az3 big
def fz9:Cq:=⟨28,[(4294967297,.ro 108),(0,.val 99),(1,.fnp 170 1),(7,.val 3),(8,.val 3)],[(.exit 0,[]),(.ret,[(4,.val 3)])],rg 8 11 [4,5],bz8,none⟩
theorem fzu:A3 Tryz.f190 28 fz9:=A4 dzo .nil az3
def czo (x:Cell2×List Group×Unit):Option (Int):=obnd (bz8 (Cell2.mk x.1.At x.1.XF x.1.V x.1.Has (azf x.1.E),x.2.1,(),(↑x.2.1.length:Int),0)) fun y=>osum y (fun y=>some (-1)) fun y=>some y
def gzF:Fq:=⟨[(4294967297,.ro 108),(0,.val 99),(1,.fnp 170 1)],[(0,.val 3)],czo⟩
theorem fzF:A0 190 gzF:=A2 Tryz.func190 dzo (.cons fzu .nil)
def bzx (x:Cell2×List Group×Unit):Option (Bool):=obnd (czo (Cell2.mk x.1.At x.1.XF x.1.V x.1.Has (azf x.1.E),x.2.1,())) fun y=>some (decide (0<=y))
def dzl:Fq:=⟨[(4294967297,.ro 108),(0,.val 99),(1,.fnp 170 1)],[(0,.val 4)],bzx⟩
theorem fzl:A0 143 dzl:=A1 Tryz.func143 (.cons fzF .nil)
def dzZ (x:List Member):Option (List Member):=some x
def gzc:Fq:=⟨[(0,.val 297)],[(0,.val 336)],dzZ⟩
theorem kzB:A0 206 gzc:=A1 Tryz.func206 .nil
abbrev ez4:List (Nat×Fq):=[(1099511627787,mutS)]
theorem ezD:azk Tryz.prog tb (ez4):=(.consK hzV .nil)
def az9 (y:Member)(x:List (Member)×Unit×List Member):Option (List (Member)×Unit×List Member):=obnd (app 168 x.1 [Member.mk y.At (azf y.E)]) fun zs=>some (zs,(),x.2.2)
def dzb (x:List (Member)×Unit×List Member):Option ((List (Member))×Unit):=some (x.1,())
def bz7 (x:List (Member)×Unit×List Member):List (Member):=x.2.2
def dza (x:List (Member)×Unit×List Member):Option ((List (Member))×Unit):=obnd (jzx az9 (bz7 x) x) dzb
def az8:Cq:=⟨30,[(4294967298,.wr 299),(2,.box 1),(6,.val 336)],[(.normal,[(4294967298,.wr 299)])],rg 8 4 [5],dza,none⟩
theorem jzj:Azs Tryz.f232.ntmps az8 [(7,.val 299)] #[7] (Bzp (czT 30 Tryz.f232)) (Bzq (czT 30 Tryz.f232))=true:=by kernel_rfl
theorem izX:∀y x,wzd Tryz.prog tb ez4 (Bzp (czT 30 Tryz.f232)) (Bzq (czT 30 Tryz.f232)) [(7,.val 299)] az8.ins az8.al y x=az9 y x:=fun y x=>by kernel_rfl
theorem izx (xs:List (Member))(i:Int)(ys:List (Member)):ozQ Tryz.prog tb (szO [.sl 299 xs] [5,6] [.sl 299 xs,.int .i64 xs.length]) [(7,.val 299)] (lbOf Tryz.f224) 7 0 i ys =
 brn (decide (i<(↑xs.length:Int))) (obnd (idx xs i) fun y=>some (Sum.inl (i64.wrap (i+1),ys++[Member.mk y.At (azf y.E)]))) (some (Sum.inr ys)):=by kernel_rfl
theorem izN:∀(x:List (Member)×Unit×List Member) y,az8.J x=some y->∃c,(lzT Tryz.prog tb az8.ins x).env 6=some (.c (.d c))/\∀g w v,tb.inv g w->RepD Tryz.prog tb g w c v->rzD Tryz.prog tb g w [(7,.val 299)] (bz7 x) v:=fun x y hy=>⟨.itf 224 none 299 x.2.2,by kernel_rfl,fun g w v hi hv=>Kz0 mixed hv (r0:=r0Of Tryz.f224) (b:=lbOf Tryz.f224) Tryz.func224 (by kernel_rfl) (by kernel_rfl) (by kernel_rfl) hi (by kernel_rfl) (by kernel_rfl) [5,6] (by kernel_rfl) (by kernel_rfl) (i0:=0) (cs:=[.sl 299 x.2.2,.int .i64 x.2.2.length]) (by kernel_rfl) (vals_loop (rep_len hv) fun i ys=>(izx _ i ys).trans (by simp only[azj];try rfl))⟩
theorem izM:cz6 Tryz.prog tb Tryz.f232.ntmps (czT 30 Tryz.f232) az8:=Ezl (p:=[(7,.val 299)]) mixed jzj ezD rfl bz7 izN az9 izX dzb (fun x=>by kernel_rfl) (fun _ _ h=>h)
def dzk (x:List (Member)×List Member):Option (List (Member)):=obnd (dza (x.1,(),x.2)) fun y=>some y.1
def kzz:Fq:=⟨[(0,.wr 299),(1,.val 336)],[(0,.wr 299)],dzk⟩
theorem izY:A0 232 kzz:=A2 Tryz.func232 ezD (.cons izM .nil)
def fz5 (x:List Member):Option (List (Member)):=obnd (dzk ([],x)) fun y=>some y
def qzr:Fq:=⟨[(0,.val 336)],[(0,.wr 299)],fz5⟩
theorem nz6:A0 222 qzr:=A1 Tryz.func222 (.cons izY .nil)
def fz4 (x:Member×Member):Option (Int):=obnd (dzV (x.1.At.Col,x.2.At.Col)) fun y=>obnd (dzV (x.1.At.Row,x.2.At.Row)) fun y_1=>obnd (mzB [y,y_1]) fun y=>some y
def qzm:Fq:=⟨[(0,.val 299),(1,.val 299)],[(0,.val 3)],fz4⟩
theorem qzn:A0 207 qzm:=A1 Tryz.func207 (.cons kz3 (.cons oz1 .nil))
abbrev gz5:List (Nat×Fq):=[(207,qzm)]
theorem czd:azk Tryz.prog tb (gz5):=(.cons qzn .nil)
def az5 (back:List (Member)×Int×Unit×Int->Option (List (Member)))(x:List (Member)×Int×Unit×Int):Option (List (Member)):=brn (decide (x.2.1<x.2.2.2)) (obnd (inb x.1.length x.2.2.2) fun k=>obnd (nth x.1 (0+k)) fun y=>obnd (inb x.1.length (i64.wrap (x.2.2.2-1))) fun k=>obnd (nth x.1 (0+k)) fun y_1=>obnd (fz4 (Member.mk y.At (azf y.E),Member.mk y_1.At (azf y_1.E))) fun y=>brn (decide (y<0)) (obnd (inb x.1.length (i64.wrap (x.2.2.2-1))) fun k=>obnd (nth x.1 (0+k)) fun y=>obnd (inb x.1.length x.2.2.2) fun k=>obnd (nth x.1 (0+k)) fun y_2=>obnd (inb x.1.length x.2.2.2) fun k=>obnd (nth x.1 (0+k)) fun y_3=>obnd (inb (x.1.set (0+k) (Member.mk y.At (azf y.E))).length (i64.wrap (x.2.2.2-1))) fun k_1=>obnd (nth (x.1.set (0+k) (Member.mk y.At (azf y.E))) (0+k_1)) fun y_4=>back ((x.1.set (0+k) (Member.mk y.At (azf y.E))).set (0+k_1) (Member.mk y_2.At (azf y_2.E)),x.2.1,(),i64.wrap (x.2.2.2-1))) (some x.1)) (some x.1)
def cze:=iter az5 big
def gzj:Cq:=⟨44,[(0,.wr 299),(1,.val 3),(3,.fnp 207 0),(9,.val 3)],[(.exit 2,[(0,.wr 299)])],rg 18 35 [9],cze,none⟩
theorem fzJ:A3 Tryz.f236 44 gzj:=A4 czd .nil az5
def azI (back:List (Member)×Int×Int×Unit×Int->Option (List (Member)))(x:List (Member)×Int×Int×Unit×Int):Option (List (Member)):=brn (decide (x.2.2.2.2<x.2.2.1)) (obnd (cze (x.1,x.2.1,(),x.2.2.2.2)) fun y=>back (y,x.2.1,x.2.2.1,(),i64.wrap (x.2.2.2.2+1))) (some x.1)
def bzB:=iter azI big
def gzi:Cq:=⟨20,[(0,.wr 299),(1,.val 3),(2,.val 3),(3,.fnp 207 0),(8,.val 3)],[(.exit 0,[(0,.wr 299)])],rg 12 41 [8,9],bzB,none⟩
theorem fzI:A3 Tryz.f236 20 gzi:=A4 czd (.cons fzJ .nil) azI
def bzb (x:List (Member)×Int×Int×Unit):Option (List (Member)):=obnd (bzB (x.1,x.2.1,x.2.2.1,(),i64.wrap (x.2.1+1))) fun y=>some y
def dzJ:Fq:=⟨[(0,.wr 299),(1,.val 3),(2,.val 3),(3,.fnp 207 0)],[(4503599627403264,.wr 299)],bzb⟩
theorem fzL:A0 236 dzJ:=A2 Tryz.func236 czd (.cons fzI .nil)
def bze (back:List (Member)×Int×Int×Int×Int->Option (List (Member)))(x:List (Member)×Int×Int×Int×Int):Option (List (Member)):=brn (decide (x.2.2.2.2<x.2.2.2.1)) (obnd (inb x.1.length (i64.wrap (x.2.2.1+x.2.2.2.2))) fun k=>obnd (nth x.1 (0+k)) fun y=>obnd (inb x.1.length (i64.wrap (x.2.1+x.2.2.2.2))) fun k=>obnd (nth x.1 (0+k)) fun y_1=>obnd (inb x.1.length (i64.wrap (x.2.1+x.2.2.2.2))) fun k=>obnd (nth x.1 (0+k)) fun y_2=>obnd (inb (x.1.set (0+k) (Member.mk y.At (azf y.E))).length (i64.wrap (x.2.2.1+x.2.2.2.2))) fun k_1=>obnd (nth (x.1.set (0+k) (Member.mk y.At (azf y.E))) (0+k_1)) fun y_3=>back ((x.1.set (0+k) (Member.mk y.At (azf y.E))).set (0+k_1) (Member.mk y_1.At (azf y_1.E)),x.2.1,x.2.2.1,x.2.2.2.1,i64.wrap (x.2.2.2.2+1))) (some x.1)
def czw:=iter bze big
def hzG:Cq:=⟨20,[(0,.wr 299),(1,.val 3),(2,.val 3),(3,.val 3),(10,.val 3)],[(.exit 0,[(0,.wr 299)])],rg 10 28 [],czw,none⟩
theorem gzu:A3 Tryz.f239 20 hzG:=A4 .nil .nil bze
def azZ (x:List (Member)×Int×Int×Int×Unit):Option (List (Member)):=obnd (czw (x.1,x.2.1,x.2.2.1,x.2.2.2.1,0)) fun y=>some y
def eza:Fq:=⟨[(0,.wr 299),(1,.val 3),(2,.val 3),(3,.val 3),(4,.fnp 207 0)],[(4503599627403264,.wr 299)],azZ⟩
theorem gzK:A0 239 eza:=A2 Tryz.func239 .nil (.cons gzu .nil)
abbrev jzm:List (Nat×Fq):=[(239,eza)]
theorem dz9:azk Tryz.prog tb (jzm):=(.cons gzK .nil)
def bzp (back:List (Member)×Int×Unit×Int×Int->Option (Int×List (Member)))(x:List (Member)×Int×Unit×Int×Int):Option (Int×List (Member)):=brn (!decide (x.2.2.2.1=x.2.2.2.2)) (brn (decide (x.2.2.2.2<x.2.2.2.1)) (obnd (azZ (x.1,i64.wrap (x.2.1-x.2.2.2.1),x.2.1,x.2.2.2.2,())) fun y=>back (y,x.2.1,(),i64.wrap (x.2.2.2.1-x.2.2.2.2),x.2.2.2.2)) (obnd (azZ (x.1,i64.wrap (x.2.1-x.2.2.2.1),i64.wrap (i64.wrap (x.2.1+x.2.2.2.2)-x.2.2.2.1),x.2.2.2.1,())) fun y=>back (y,x.2.1,(),x.2.2.2.1,i64.wrap (x.2.2.2.2-x.2.2.2.1)))) (some (x.2.2.2.1,x.1))
def czM:=iter bzp big
def izA:Cq:=⟨28,[(0,.wr 299),(2,.val 3),(4,.fnp 207 0),(10,.val 3),(11,.val 3)],[(.exit 0,[(10,.val 3),(0,.wr 299)])],rg 18 32 [10,11],czM,none⟩
theorem hzC:A3 Tryz.f238 28 izA:=A4 dz9 .nil bzp
def bz3 (x:List (Member)×Int×Int×Int×Unit):Option (List (Member)):=obnd (czM (x.1,x.2.2.1,(),i64.wrap (x.2.2.1-x.2.1),i64.wrap (x.2.2.2.1-x.2.2.1))) fun y=>obnd (azZ (y.2,i64.wrap (x.2.2.1-y.1),x.2.2.1,y.1,())) fun y=>some y
def ezw:Fq:=⟨[(0,.wr 299),(1,.val 3),(2,.val 3),(3,.val 3),(4,.fnp 207 0)],[(4503599627403264,.wr 299)],bz3⟩
theorem izb:A0 238 ezw:=A2 Tryz.func238 dz9 (.cons hzC .nil)
def azi (self:List (Member)×Int×Int×Int×Unit->Option (List (Member))):FSpec tb:=⟨[(0,.wr 299),(1,.val 3),(2,.val 3),(3,.val 3),(4,.fnp 207 0)],[(4503599627403264,.wr 299)],self⟩
abbrev azr (self:List (Member)×Int×Int×Int×Unit->Option (List (Member))):List (Nat×Fq):=[(207,qzm),(238,ezw),(237,(azi self))]
theorem azv (self:List (Member)×Int×Int×Int×Unit->Option (List (Member)))(hself:azy Tryz.prog tb 237 (azi self)):azk Tryz.prog tb (azr self):=(.cons qzn (.cons izb (.cons hself .nil)))
def azR (self:List (Member)×Int×Int×Int×Unit->Option (List (Member)))(back:List (Member)×Int×Unit×Int×Int->Option (Int×List (Member)))(x:List (Member)×Int×Unit×Int×Int):Option (Int×List (Member)):=brn (decide (x.2.2.2.1<x.2.2.2.2)) (obnd (inb x.1.length (i64.wrap ((u64.wrap (i64.wrap (x.2.2.2.1+x.2.2.2.2))).fdiv 2))) fun k=>obnd (nth x.1 (0+k)) fun y=>obnd (inb x.1.length x.2.1) fun k=>obnd (nth x.1 (0+k)) fun y_1=>obnd (fz4 (Member.mk y.At (azf y.E),Member.mk y_1.At (azf y_1.E))) fun y=>brn (decide (y<0)) (back (x.1,x.2.1,(),i64.wrap (i64.wrap ((u64.wrap (i64.wrap (x.2.2.2.1+x.2.2.2.2))).fdiv 2)+1),x.2.2.2.2)) (back (x.1,x.2.1,(),x.2.2.2.1,i64.wrap ((u64.wrap (i64.wrap (x.2.2.2.1+x.2.2.2.2))).fdiv 2)))) (some (x.2.2.2.1,x.1))
def bzP (self:List (Member)×Int×Int×Int×Unit->Option (List (Member))):List (Member)×Int×Unit×Int×Int->Option (Int×List (Member)):=iter (azR self) big
def bzg (self:List (Member)×Int×Int×Int×Unit->Option (List (Member))):CutSpec tb:=⟨36,[(0,.wr 299),(1,.val 3),(4,.fnp 207 0),(10,.val 3),(11,.val 3)],[(.exit 0,[(10,.val 3),(0,.wr 299)])],[31,32,33,34,35,36,37,38,39,12,40,41,42,43,44,45,46,47,48,49,50,51,52,10,53,11],(bzP self),none⟩
theorem gz9 (self:List (Member)×Int×Int×Int×Unit->Option (List (Member))):∀back x,gzw Tryz.prog tb (azr self) [] (czH 36 Tryz.f237) (bzg self).ins (bzg self).outs back x=azR self back x:=fun back x=>by kernel_rfl
theorem hzK (self:List (Member)×Int×Int×Int×Unit->Option (List (Member))):cutB Tryz.f237.ntmps (bzg self) (czH 36 Tryz.f237)=true:=by kernel_rfl
theorem gzO (self:List (Member)×Int×Int×Int×Unit->Option (List (Member)))(hself:azy Tryz.prog tb 237 (azi self)):A3 Tryz.f237 36 (bzg self):=A4 (azv self hself) .nil (azR self) (hb:=(hzK self)) (hF:=(gz9 self))
def azS (self:List (Member)×Int×Int×Int×Unit->Option (List (Member)))(back:List (Member)×Int×Int->Option (List (Member)))(x:List (Member)×Int×Int):Option (List (Member)):=brn (decide (x.2.2<i64.wrap (x.2.1-1))) (obnd (inb x.1.length (i64.wrap (x.2.2+1))) fun k=>obnd (nth x.1 (0+k)) fun y=>obnd (inb x.1.length x.2.2) fun k=>obnd (nth x.1 (0+k)) fun y_1=>obnd (inb x.1.length x.2.2) fun k=>obnd (nth x.1 (0+k)) fun y_2=>obnd (inb (x.1.set (0+k) (Member.mk y.At (azf y.E))).length (i64.wrap (x.2.2+1))) fun k_1=>obnd (nth (x.1.set (0+k) (Member.mk y.At (azf y.E))) (0+k_1)) fun y_3=>back ((x.1.set (0+k) (Member.mk y.At (azf y.E))).set (0+k_1) (Member.mk y_1.At (azf y_1.E)),x.2.1,i64.wrap (x.2.2+1))) (some x.1)
def bzQ (self:List (Member)×Int×Int×Int×Unit->Option (List (Member))):List (Member)×Int×Int->Option (List (Member)):=iter (azS self) big
def bzh (self:List (Member)×Int×Int×Int×Unit->Option (List (Member))):CutSpec tb:=⟨84,[(0,.wr 299),(10,.val 3),(13,.val 3)],[(.exit 2,[(0,.wr 299)])],[55,56,57,58,61,62,63,64,65,66,67,68,69,70,71,72,73,74,75,76,59,60,13],(bzQ self),none⟩
theorem hza (self:List (Member)×Int×Int×Int×Unit->Option (List (Member))):∀back x,gzw Tryz.prog tb (azr self) [] (czH 84 Tryz.f237) (bzh self).ins (bzh self).outs back x=azS self back x:=fun back x=>by kernel_rfl
theorem hzL (self:List (Member)×Int×Int×Int×Unit->Option (List (Member))):cutB Tryz.f237.ntmps (bzh self) (czH 84 Tryz.f237)=true:=by kernel_rfl
theorem gzP (self:List (Member)×Int×Int×Int×Unit->Option (List (Member)))(hself:azy Tryz.prog tb 237 (azi self)):A3 Tryz.f237 84 (bzh self):=A4 (azv self hself) .nil (azS self) (hb:=(hzL self)) (hF:=(hza self))
def azT (self:List (Member)×Int×Int×Int×Unit->Option (List (Member)))(back:List (Member)×Int×Unit×Int×Int->Option (Int×List (Member)))(x:List (Member)×Int×Unit×Int×Int):Option (Int×List (Member)):=brn (decide (x.2.2.2.1<x.2.2.2.2)) (obnd (inb x.1.length x.2.1) fun k=>obnd (nth x.1 (0+k)) fun y=>obnd (inb x.1.length (i64.wrap ((u64.wrap (i64.wrap (x.2.2.2.1+x.2.2.2.2))).fdiv 2))) fun k=>obnd (nth x.1 (0+k)) fun y_1=>obnd (fz4 (Member.mk y.At (azf y.E),Member.mk y_1.At (azf y_1.E))) fun y=>brn (!decide (y<0)) (back (x.1,x.2.1,(),i64.wrap (i64.wrap ((u64.wrap (i64.wrap (x.2.2.2.1+x.2.2.2.2))).fdiv 2)+1),x.2.2.2.2)) (back (x.1,x.2.1,(),x.2.2.2.1,i64.wrap ((u64.wrap (i64.wrap (x.2.2.2.1+x.2.2.2.2))).fdiv 2)))) (some (x.2.2.2.1,x.1))
def bzR (self:List (Member)×Int×Int×Int×Unit->Option (List (Member))):List (Member)×Int×Unit×Int×Int->Option (Int×List (Member)):=iter (azT self) big
def bzi (self:List (Member)×Int×Int×Int×Unit->Option (List (Member))):CutSpec tb:=⟨132,[(0,.wr 299),(2,.val 3),(4,.fnp 207 0),(14,.val 3),(15,.val 3)],[(.exit 4,[(14,.val 3),(0,.wr 299)])],[83,84,85,86,87,88,89,90,91,16,92,93,94,95,96,97,98,99,100,101,102,103,104,105,14,106,15],(bzR self),none⟩
theorem hzb (self:List (Member)×Int×Int×Int×Unit->Option (List (Member))):∀back x,gzw Tryz.prog tb (azr self) [] (czH 132 Tryz.f237) (bzi self).ins (bzi self).outs back x=azT self back x:=fun back x=>by kernel_rfl
theorem hzM (self:List (Member)×Int×Int×Int×Unit->Option (List (Member))):cutB Tryz.f237.ntmps (bzi self) (czH 132 Tryz.f237)=true:=by kernel_rfl
theorem gzQ (self:List (Member)×Int×Int×Int×Unit->Option (List (Member)))(hself:azy Tryz.prog tb 237 (azi self)):A3 Tryz.f237 132 (bzi self):=A4 (azv self hself) .nil (azT self) (hb:=(hzM self)) (hF:=(hzb self))
def azU (self:List (Member)×Int×Int×Int×Unit->Option (List (Member)))(back:List (Member)×Int×Int->Option (List (Member)))(x:List (Member)×Int×Int):Option (List (Member)):=brn (decide (x.2.1<x.2.2)) (obnd (inb x.1.length (i64.wrap (x.2.2-1))) fun k=>obnd (nth x.1 (0+k)) fun y=>obnd (inb x.1.length x.2.2) fun k=>obnd (nth x.1 (0+k)) fun y_1=>obnd (inb x.1.length x.2.2) fun k=>obnd (nth x.1 (0+k)) fun y_2=>obnd (inb (x.1.set (0+k) (Member.mk y.At (azf y.E))).length (i64.wrap (x.2.2-1))) fun k_1=>obnd (nth (x.1.set (0+k) (Member.mk y.At (azf y.E))) (0+k_1)) fun y_3=>back ((x.1.set (0+k) (Member.mk y.At (azf y.E))).set (0+k_1) (Member.mk y_1.At (azf y_1.E)),x.2.1,i64.wrap (x.2.2-1))) (some x.1)
def bzS (self:List (Member)×Int×Int×Int×Unit->Option (List (Member))):List (Member)×Int×Int->Option (List (Member)):=iter (azU self) big
def bzj (self:List (Member)×Int×Int×Int×Unit->Option (List (Member))):CutSpec tb:=⟨180,[(0,.wr 299),(14,.val 3),(17,.val 3)],[(.exit 6,[(0,.wr 299)])],[108,109,110,113,114,115,116,117,118,119,120,121,122,123,124,125,126,127,128,111,112,17],(bzS self),none⟩
theorem hze (self:List (Member)×Int×Int×Int×Unit->Option (List (Member))):∀back x,gzw Tryz.prog tb (azr self) [] (czH 180 Tryz.f237) (bzj self).ins (bzj self).outs back x=azU self back x:=fun back x=>by kernel_rfl
theorem hzN (self:List (Member)×Int×Int×Int×Unit->Option (List (Member))):cutB Tryz.f237.ntmps (bzj self) (czH 180 Tryz.f237)=true:=by kernel_rfl
theorem gzR (self:List (Member)×Int×Int×Int×Unit->Option (List (Member)))(hself:azy Tryz.prog tb 237 (azi self)):A3 Tryz.f237 180 (bzj self):=A4 (azv self hself) .nil (azU self) (hb:=(hzN self)) (hF:=(hze self))
def azO (self:List (Member)×Int×Int×Int×Unit->Option (List (Member)))(x:Int×Int×Int×Int×Int×Bool):Option (Int×Int):=brn x.2.2.2.2.2 (some (i64.wrap (x.2.2.2.2.1-x.2.2.1),x.2.2.2.1)) (some (x.1,x.2.1))
def azN (self:List (Member)×Int×Int×Int×Unit->Option (List (Member))):CutSpec tb:=⟨234,[(1,.val 3),(2,.val 3),(3,.val 3),(18,.val 3),(19,.val 3),(140,.val 4)],[(.normal,[(20,.val 3),(21,.val 3)])],[141,142,143,20,144,21,145,146],(azO self),none⟩
theorem gz6 (self:List (Member)×Int×Int×Int×Unit->Option (List (Member))):∀x,szG Tryz.prog tb (azr self) [] (czT 234 Tryz.f237) (azN self).ins (azN self).outs x=(azN self).J x:=fun x=>by kernel_rfl
theorem hzH (self:List (Member)×Int×Int×Int×Unit->Option (List (Member))):cutB Tryz.f237.ntmps (azN self) (czT 234 Tryz.f237)=true:=by kernel_rfl
theorem gzL (self:List (Member)×Int×Int×Int×Unit->Option (List (Member)))(hself:azy Tryz.prog tb 237 (azi self)):A5 Tryz.f237 234 (azN self):=A6 (azv self hself) .nil (hb:=(hzH self)) (hJ:=(gz6 self))
def azV (self:List (Member)×Int×Int×Int×Unit->Option (List (Member)))(back:List (Member)×Unit×Int×Int×Int->Option (Int×List (Member)))(x:List (Member)×Unit×Int×Int×Int):Option (Int×List (Member)):=brn (decide (x.2.2.1<x.2.2.2.1)) (obnd (inb x.1.length (i64.wrap (x.2.2.2.2-i64.wrap ((u64.wrap (i64.wrap (x.2.2.1+x.2.2.2.1))).fdiv 2)))) fun k=>obnd (nth x.1 (0+k)) fun y=>obnd (inb x.1.length (i64.wrap ((u64.wrap (i64.wrap (x.2.2.1+x.2.2.2.1))).fdiv 2))) fun k=>obnd (nth x.1 (0+k)) fun y_1=>obnd (fz4 (Member.mk y.At (azf y.E),Member.mk y_1.At (azf y_1.E))) fun y=>brn (!decide (y<0)) (back (x.1,(),i64.wrap (i64.wrap ((u64.wrap (i64.wrap (x.2.2.1+x.2.2.2.1))).fdiv 2)+1),x.2.2.2)) (back (x.1,(),x.2.2.1,i64.wrap ((u64.wrap (i64.wrap (x.2.2.1+x.2.2.2.1))).fdiv 2),x.2.2.2.2))) (some (x.2.2.1,x.1))
def czE (self:List (Member)×Int×Int×Int×Unit->Option (List (Member))):List (Member)×Unit×Int×Int×Int->Option (Int×List (Member)):=iter (azV self) big
def bzk (self:List (Member)×Int×Int×Int×Unit->Option (List (Member))):CutSpec tb:=⟨276,[(0,.wr 299),(4,.fnp 207 0),(20,.val 3),(21,.val 3),(22,.val 3)],[(.exit 8,[(20,.val 3),(0,.wr 299)])],[149,150,151,152,153,154,155,156,157,23,158,159,160,161,162,163,164,165,166,167,168,169,170,171,172,173,20,174,21],(czE self),none⟩
theorem hzf (self:List (Member)×Int×Int×Int×Unit->Option (List (Member))):∀back x,gzw Tryz.prog tb (azr self) [] (czH 276 Tryz.f237) (bzk self).ins (bzk self).outs back x=azV self back x:=fun back x=>by kernel_rfl
theorem hzO (self:List (Member)×Int×Int×Int×Unit->Option (List (Member))):cutB Tryz.f237.ntmps (bzk self) (czH 276 Tryz.f237)=true:=by kernel_rfl
theorem gzS (self:List (Member)×Int×Int×Int×Unit->Option (List (Member)))(hself:azy Tryz.prog tb 237 (azi self)):A3 Tryz.f237 276 (bzk self):=A4 (azv self hself) .nil (azV self) (hb:=(hzO self)) (hF:=(hzf self))
def bzf (self:List (Member)×Int×Int×Int×Unit->Option (List (Member)))(x:Int×Int×Int):Option (Bool):=brn (decide (x.2.1<x.1)) (some (decide (x.1<x.2.2))) (some false)
def azP (self:List (Member)×Int×Int×Int×Unit->Option (List (Member))):CutSpec tb:=⟨320,[(2,.val 3),(20,.val 3),(24,.val 3)],[(.normal,[(185,.val 4)])],[178,179,180,181,182,183,184,185],(bzf self),none⟩
theorem gz7 (self:List (Member)×Int×Int×Int×Unit->Option (List (Member))):∀x,szG Tryz.prog tb (azr self) [] (czT 320 Tryz.f237) (azP self).ins (azP self).outs x=(azP self).J x:=fun x=>by kernel_rfl
theorem hzI (self:List (Member)×Int×Int×Int×Unit->Option (List (Member))):cutB Tryz.f237.ntmps (azP self) (czT 320 Tryz.f237)=true:=by kernel_rfl
theorem gzM (self:List (Member)×Int×Int×Int×Unit->Option (List (Member)))(hself:azy Tryz.prog tb 237 (azi self)):A5 Tryz.f237 320 (azP self):=A6 (azv self hself) .nil (hb:=(hzI self)) (hJ:=(gz7 self))
def bzO (self:List (Member)×Int×Int×Int×Unit->Option (List (Member)))(x:List (Member)×Int×Unit×Int×Int×Bool):Option (List (Member)):=brn x.2.2.2.2.2 (obnd (bz3 (x.1,x.2.2.2.1,x.2.1,x.2.2.2.2.1,())) fun y=>some y) (some x.1)
def azQ (self:List (Member)×Int×Int×Int×Unit->Option (List (Member))):CutSpec tb:=⟨330,[(0,.wr 299),(2,.val 3),(4,.fnp 207 0),(20,.val 3),(24,.val 3),(185,.val 4)],[(.normal,[(0,.wr 299)])],[186,187,188,189,190,191],(bzO self),none⟩
theorem gz8 (self:List (Member)×Int×Int×Int×Unit->Option (List (Member))):∀x,szG Tryz.prog tb (azr self) [] (czT 330 Tryz.f237) (azQ self).ins (azQ self).outs x=(azQ self).J x:=fun x=>by kernel_rfl
theorem hzJ (self:List (Member)×Int×Int×Int×Unit->Option (List (Member))):cutB Tryz.f237.ntmps (azQ self) (czT 330 Tryz.f237)=true:=by kernel_rfl
theorem gzN (self:List (Member)×Int×Int×Int×Unit->Option (List (Member)))(hself:azy Tryz.prog tb 237 (azi self)):A5 Tryz.f237 330 (azQ self):=A6 (azv self hself) .nil (hb:=(hzJ self)) (hJ:=(gz8 self))
def azs (self:List (Member)×Int×Int×Int×Unit->Option (List (Member)))(x:List (Member)×Int×Int×Int×Unit):Option (List (Member)):=brn (decide (i64.wrap (x.2.2.1-x.2.1)=1)) (obnd ((bzP self) (x.1,x.2.1,(),x.2.2.1,x.2.2.2.1)) fun y=>obnd ((bzQ self) (y.2,y.1,x.2.1)) fun y=>some y) (brn (decide (i64.wrap (x.2.2.2.1-x.2.2.1)=1)) (obnd ((bzR self) (x.1,x.2.2.1,(),x.2.1,x.2.2.1)) fun y=>obnd ((bzS self) (y.2,y.1,x.2.2.1)) fun y=>some y) (obnd ((azO self) (x.2.1,x.2.2.1,x.2.2.2.1,i64.wrap ((u64.wrap (i64.wrap (x.2.1+x.2.2.2.1))).fdiv 2),i64.wrap (i64.wrap ((u64.wrap (i64.wrap (x.2.1+x.2.2.2.1))).fdiv 2)+x.2.2.1),decide (i64.wrap ((u64.wrap (i64.wrap (x.2.1+x.2.2.2.1))).fdiv 2)<x.2.2.1))) fun y=>obnd ((czE self) (x.1,(),y.1,y.2,i64.wrap (i64.wrap (i64.wrap ((u64.wrap (i64.wrap (x.2.1+x.2.2.2.1))).fdiv 2)+x.2.2.1)-1))) fun y=>obnd ((bzf self) (x.2.2.1,y.1,i64.wrap (i64.wrap (i64.wrap ((u64.wrap (i64.wrap (x.2.1+x.2.2.2.1))).fdiv 2)+x.2.2.1)-y.1))) fun y_1=>obnd ((bzO self) (y.2,x.2.2.1,(),y.1,i64.wrap (i64.wrap (i64.wrap ((u64.wrap (i64.wrap (x.2.1+x.2.2.2.1))).fdiv 2)+x.2.2.1)-y.1),y_1)) fun y_2=>brn (decide (x.2.1<y.1)) (brn (decide (y.1<i64.wrap ((u64.wrap (i64.wrap (x.2.1+x.2.2.2.1))).fdiv 2))) (obnd (self (y_2,x.2.1,y.1,i64.wrap ((u64.wrap (i64.wrap (x.2.1+x.2.2.2.1))).fdiv 2),())) fun y_3=>brn (decide (i64.wrap ((u64.wrap (i64.wrap (x.2.1+x.2.2.2.1))).fdiv 2)<i64.wrap (i64.wrap (i64.wrap ((u64.wrap (i64.wrap (x.2.1+x.2.2.2.1))).fdiv 2)+x.2.2.1)-y.1))) (brn (decide (i64.wrap (i64.wrap (i64.wrap ((u64.wrap (i64.wrap (x.2.1+x.2.2.2.1))).fdiv 2)+x.2.2.1)-y.1)<x.2.2.2.1)) (obnd (self (y_3,i64.wrap ((u64.wrap (i64.wrap (x.2.1+x.2.2.2.1))).fdiv 2),i64.wrap (i64.wrap (i64.wrap ((u64.wrap (i64.wrap (x.2.1+x.2.2.2.1))).fdiv 2)+x.2.2.1)-y.1),x.2.2.2.1,())) fun y=>some y) (some y_3)) (some y_3)) (brn (decide (i64.wrap ((u64.wrap (i64.wrap (x.2.1+x.2.2.2.1))).fdiv 2)<i64.wrap (i64.wrap (i64.wrap ((u64.wrap (i64.wrap (x.2.1+x.2.2.2.1))).fdiv 2)+x.2.2.1)-y.1))) (brn (decide (i64.wrap (i64.wrap (i64.wrap ((u64.wrap (i64.wrap (x.2.1+x.2.2.2.1))).fdiv 2)+x.2.2.1)-y.1)<x.2.2.2.1)) (obnd (self (y_2,i64.wrap ((u64.wrap (i64.wrap (x.2.1+x.2.2.2.1))).fdiv 2),i64.wrap (i64.wrap (i64.wrap ((u64.wrap (i64.wrap (x.2.1+x.2.2.2.1))).fdiv 2)+x.2.2.1)-y.1),x.2.2.2.1,())) fun y=>some y) (some y_2)) (some y_2))) (brn (decide (i64.wrap ((u64.wrap (i64.wrap (x.2.1+x.2.2.2.1))).fdiv 2)<i64.wrap (i64.wrap (i64.wrap ((u64.wrap (i64.wrap (x.2.1+x.2.2.2.1))).fdiv 2)+x.2.2.1)-y.1))) (brn (decide (i64.wrap (i64.wrap (i64.wrap ((u64.wrap (i64.wrap (x.2.1+x.2.2.2.1))).fdiv 2)+x.2.2.1)-y.1)<x.2.2.2.1)) (obnd (self (y_2,i64.wrap ((u64.wrap (i64.wrap (x.2.1+x.2.2.2.1))).fdiv 2),i64.wrap (i64.wrap (i64.wrap ((u64.wrap (i64.wrap (x.2.1+x.2.2.2.1))).fdiv 2)+x.2.2.1)-y.1),x.2.2.2.1,())) fun y=>some y) (some y_2)) (some y_2))))
theorem izf (self:List (Member)×Int×Int×Int×Unit->Option (List (Member))):∀x,evFn Tryz.prog tb (azr self) [(bzg self),(bzh self),(bzi self),(bzj self),(azN self),(bzk self),(azP self),(azQ self)] Tryz.f237 (azi (azs self)).ins (azi (azs self)).outs x=(azi (azs self)).f x:=fun x=>by kernel_rfl
theorem izF (self:List (Member)×Int×Int×Int×Unit->Option (List (Member))):fnK Tryz.f237 (azi (azs self)).ins (azi (azs self)).outs=true:=by kernel_rfl
theorem hzP (self:List (Member)×Int×Int×Int×Unit->Option (List (Member)))(hself:azy Tryz.prog tb 237 (azi self)):A0 237 (azi (azs self)):=A2 Tryz.func237 (azv self hself) (.cons (gzO self hself) (.cons (gzP self hself) (.cons (gzQ self hself) (.cons (gzR self hself) (.cons (gzL self hself) (.cons (gzS self hself) (.cons (gzM self hself) (.cons (gzN self hself) .nil)))))))) (hk:=(izF self)) (hJ:=(izf self))
def bzt:=iter azs big
def ezl:Fq:=azi bzt
theorem hzg:azy Tryz.prog tb 237 ezl:=pzI (gzl Tryz.func237 (by kernel_rfl)) hzP
abbrev jzn:List (Nat×Fq):=[(236,dzJ),(237,ezl)]
theorem bzX:azk Tryz.prog tb (jzn):=(.cons fzL (.cons hzg .nil))
def bzq (back:List (Member)×Int×Unit×Int×Int×Int->Option (Int×List (Member)))(x:List (Member)×Int×Unit×Int×Int×Int):Option (Int×List (Member)):=brn (decide (x.2.2.2.2.2<=x.2.1)) (obnd (bzb (x.1,x.2.2.2.2.1,x.2.2.2.2.2,())) fun y=>back (y,x.2.1,(),x.2.2.2.1,x.2.2.2.2.2,i64.wrap (x.2.2.2.2.2+x.2.2.2.1))) (some (x.2.2.2.2.1,x.1))
def czN:=iter bzq big
def izB:Cq:=⟨28,[(0,.wr 299),(1,.val 3),(2,.fnp 207 0),(6,.val 3),(7,.val 3),(8,.val 3)],[(.exit 0,[(7,.val 3),(0,.wr 299)])],rg 11 12 [7,8],czN,none⟩
theorem hzD:A3 Tryz.f233 28 izB:=A4 bzX .nil bzq
def bzs (back:List (Member)×Int×Unit×Int×Int×Int->Option (Int×List (Member)))(x:List (Member)×Int×Unit×Int×Int×Int):Option (Int×List (Member)):=brn (decide (x.2.2.2.2.2<=x.2.1)) (obnd (bzt (x.1,x.2.2.2.2.1,i64.wrap (x.2.2.2.2.1+x.2.2.2.1),x.2.2.2.2.2,())) fun y=>back (y,x.2.1,(),x.2.2.2.1,x.2.2.2.2.2,i64.wrap (x.2.2.2.2.2+i64.wrap (2*x.2.2.2.1)))) (some (x.2.2.2.2.1,x.1))
def czP:=iter bzs big
def izD:Cq:=⟨84,[(0,.wr 299),(1,.val 3),(2,.fnp 207 0),(6,.val 3),(7,.val 3),(8,.val 3)],[(.exit 4,[(7,.val 3),(0,.wr 299)])],rg 33 16 [7,8],czP,none⟩
theorem hzF:A3 Tryz.f233 84 izD:=A4 bzX .nil bzs
def bzr (back:List (Member)×Int×Unit×Int->Option (List (Member)))(x:List (Member)×Int×Unit×Int):Option (List (Member)):=brn (decide (x.2.2.2<x.2.1)) (obnd (czP (x.1,x.2.1,(),x.2.2.2,0,i64.wrap (2*x.2.2.2))) fun y=>brn (decide (i64.wrap (y.1+x.2.2.2)<x.2.1)) (obnd (bzt (y.2,y.1,i64.wrap (y.1+x.2.2.2),x.2.1,())) fun y=>back (y,x.2.1,(),i64.wrap (x.2.2.2*2))) (back (y.2,x.2.1,(),i64.wrap (x.2.2.2*2)))) (some x.1)
def czO:=iter bzr big
def izC:Cq:=⟨68,[(0,.wr 299),(1,.val 3),(2,.fnp 207 0),(6,.val 3)],[(.exit 2,[(0,.wr 299)])],rg 28 35 (rg 6 4 []),czO,none⟩
theorem hzE:A3 Tryz.f233 68 izC:=A4 bzX (.cons hzF .nil) bzr
def cz5 (x:List (Member)×Int×Unit):Option (List (Member)):=obnd (czN (x.1,x.2.1,(),20,0,20)) fun y=>obnd (bzb (y.2,y.1,x.2.1,())) fun y=>obnd (czO (y,x.2.1,(),20)) fun y=>some y
def jzo:Fq:=⟨[(0,.wr 299),(1,.val 3),(2,.fnp 207 0)],[(4503599627403264,.wr 299)],cz5⟩
theorem izc:A0 233 jzo:=A2 Tryz.func233 bzX (.cons hzD (.cons hzE .nil))
def bzn (x:List (Member)×Unit):Option (List (Member)):=obnd (cz5 (x.1,(↑x.1.length:Int),())) fun y=>some y
def fzx:Fq:=⟨[(0,.wr 299),(1,.fnp 207 0)],[(4503599627403264,.wr 299)],bzn⟩
theorem ezY:A0 223 fzx:=A1 Tryz.func223 (.cons izc .nil)
def bzW (x:List Member×Unit):Option (List (Member)):=obnd (fz5 x.1) fun y=>obnd (bzn (y,())) fun y=>some y
def dz7:Fq:=⟨[(0,.val 336),(1,.fnp 207 0)],[(0,.own 299)],bzW⟩
theorem gzI:A0 205 dz7:=A1 Tryz.func205 (.cons nz6 (.cons ezY .nil))
def czy (x:List Expr):Option (List Expr):=some x
def hz4:Fq:=⟨[(0,.val 35)],[(0,.val 304)],czy⟩
theorem lzK:A0 173 hz4:=A1 Tryz.func173 .nil
abbrev Fzy:List (Nat×Fq):=[(173,hz4),(1099511627786,mutS),(1099511627801,mutS),(1099511627819,mutS)]
theorem ozG:azk Tryz.prog tb (Fzy):=(.cons lzK (.consK hzV (.consK hzV (.consK hzV .nil))))
def jz0 (y:Int×Expr)(x:List (Node2)×Unit×Node2×List Expr):Option (List (Node2)×Unit×Node2×List Expr):=obnd (app 160 x.1 [Node2.mk (azf y.2) (i64.wrap (x.2.2.1.deep+1))]) fun zs=>some (zs,(),Node2.mk (azf x.2.2.1.e) x.2.2.1.deep,x.2.2.2)
def rz3 (x:List (Node2)×Unit×Node2×List Expr):Option ((List (Node2))×Unit):=some (x.1,())
def ozH (x:List (Node2)×Unit×Node2×List Expr):List (Int×Expr):=(revs x.2.2.2)
def mzh (x:List (Node2)×Unit×Node2×List Expr):Option ((List (Node2))×Unit):=obnd (jzx jz0 (ozH x) x) rz3
def gzm:Cq:=⟨86,[(4294967300,.wr 231),(4,.box 1),(5,.ro 231),(33,.val 304)],[(.normal,[(4294967300,.wr 231)])],rg 36 8 [7],mzh,none⟩
theorem HzN:Azs Tryz.f115.ntmps gzm [(34,.val 3),(35,.val 90)] #[34,35] (Bzp (czT 86 Tryz.f115)) (Bzq (czT 86 Tryz.f115))=true:=by kernel_rfl
theorem FzA:∀y x,wzd Tryz.prog tb Fzy (Bzp (czT 86 Tryz.f115)) (Bzq (czT 86 Tryz.f115)) [(34,.val 3),(35,.val 90)] gzm.ins gzm.al y x=jz0 y x:=fun y x=>by kernel_rfl
theorem Bz2 (xs:List (Expr))(i:Int)(ys:List (Int×Expr)):ozQ Tryz.prog tb (szO [.sl 90 xs] [] []) [(34,.val 3),(35,.val 90)] (lbOf Tryz.f209) 3 0 i ys =
 brn (decide (0<=i)) (obnd (idx xs i) fun y=>some (Sum.inl (i64.wrap (i-1),ys++[(i,azf y)]))) (some (Sum.inr ys)):=by kernel_rfl
theorem Dz0:∀(x:List (Node2)×Unit×Node2×List Expr) y,gzm.J x=some y->∃c,(lzT Tryz.prog tb gzm.ins x).env 33=some (.c (.d c))/\∀g w v,tb.inv g w->RepD Tryz.prog tb g w c v->rzD Tryz.prog tb g w [(34,.val 3),(35,.val 90)] (ozH x) v:=fun x y hy=>⟨.itf 209 none 90 x.2.2.2,by kernel_rfl,fun g w v hi hv=>Kz0 mixed hv (r0:=r0Of Tryz.f209) (b:=lbOf Tryz.f209) Tryz.func209 (by kernel_rfl) (by kernel_rfl) (by kernel_rfl) hi (by kernel_rfl) (by kernel_rfl) [] (by kernel_rfl) (by kernel_rfl) (i0:=i64.wrap ((x.2.2.2.length:Int)-1)) (cs:=[]) (by kernel_rfl) (back_loop (rep_len hv) fun i ys=>(Bz2 _ i ys).trans (by simp only[azj];try rfl))⟩
theorem tzu:cz6 Tryz.prog tb Tryz.f115.ntmps (czT 86 Tryz.f115) gzm:=Ezl (p:=[(34,.val 3),(35,.val 90)]) mixed HzN ozG rfl ozH Dz0 jz0 FzA rz3 (fun x=>by kernel_rfl) (fun _ _ h=>h)
def izi (back:List (Node2)×List (Node2)×Unit->Option ((List (Node2)×List (Node2))×Unit))(x:List (Node2)×List (Node2)×Unit):Option ((List (Node2)×List (Node2))×Unit):=brn (decide ((↑x.1.length:Int)=0)) (some ((x.1,x.2.1),())) (obnd (inb x.1.length (i64.wrap ((↑x.1.length:Int)-1))) fun k=>obnd (nth x.1 (0+k)) fun y=>obnd (sub x.1 0 (i64.wrap ((↑x.1.length:Int)-1))) fun zs=>obnd (app 160 x.2.1 [Node2.mk (azf y.e) y.deep]) fun zs_1=>obnd (czy y.e.Kids) fun y_1=>obnd (mzh (zs,(),Node2.mk (azf y.e) y.deep,y_1)) fun y=>obnd (back (y.1,zs_1,())) fun y=>some (y.1,()))
def uzE:=iter izi big
def FzB:Cq:=⟨33,[(4294967300,.wr 231),(3,.own 231),(4,.box 1)],[(.ret,[(4294967300,.own 231),(2,.own 231)])],rg 36 8 (rg 11 23 [2,3,5,7]),uzE,none⟩
theorem Bz3:czh ([gzm]:List (CutSpec tb)) (ozv (czr 21 Tryz.f115) 0)=[(86,czT 86 Tryz.f115)]:=by kernel_rfl
theorem zzO:dze Tryz.prog tb Tryz.f115.ntmps (czr 21 Tryz.f115) 0 FzB:=xzx fun self hself=>nzb mixed (by kernel_rfl) (by kernel_rfl) ozG rfl Bz3 (.cons rfl tzu rfl .nil) (.cons hself rfl .nil) (fun x=>by kernel_rfl)
def ozI (x:Expr):Option ((Unit)⊕(List (Node2))):=obnd (inb [Node2.mk (azf x) 1].length (i64.wrap ((↑[Node2.mk (azf x) 1].length:Int)-1))) fun k=>obnd (nth [Node2.mk (azf x) 1] (0+k)) fun y=>obnd (sub [Node2.mk (azf x) 1] 0 (i64.wrap ((↑[Node2.mk (azf x) 1].length:Int)-1))) fun zs=>obnd (app 160 [] [Node2.mk (azf y.e) y.deep]) fun zs_1=>obnd (czy y.e.Kids) fun y_1=>obnd (mzh (zs,(),Node2.mk (azf y.e) y.deep,y_1)) fun y=>obnd (uzE (y.1,zs_1,())) fun y=>some (Sum.inr y.1.2)
def JzO:Cq:=⟨21,[(1,.ro 90)],[(.normal,[]),(.ret,[(2,.own 231)])],rg 36 8 (rg 7 27 (rg 2 4 [])),ozI,none⟩
theorem FzC:czh ([gzm]:List (CutSpec tb)) (czr 21 Tryz.f115)=[(86,czT 86 Tryz.f115)]:=by kernel_rfl
theorem Dz1:cz6 Tryz.prog tb Tryz.f115.ntmps (.scope (czr 21 Tryz.f115)) JzO:=qz4 mixed (by kernel_rfl) ozG rfl FzC (.cons rfl tzu rfl .nil) (.cons zzO rfl .nil) (fun x=>by kernel_rfl)
def nzI (x:Expr):Option (List (Node2)):=obnd (ozI (azf x)) fun y=>osum y (fun y=>none) fun y=>some y
def Fzz:Fq:=⟨[(0,.val 90)],[(0,.own 231)],nzI⟩
theorem uzF:A0 115 Fzz:=A2 Tryz.func115 ozG (.cons Dz1 .nil)
def nza (x:Node2×Node2):Option (Bool):=brn (decide (x.1.deep=x.2.deep)) (brn (decide (x.1.e.Kind=x.2.e.Kind)) (brn (bif false then !(decide (x.1.e.V.Kind=x.2.e.V.Kind)&&(decide (x.1.e.V.N.M=x.2.e.V.N.M)&&(decide (x.1.e.V.N.S=x.2.e.V.N.S)&&(decide (x.1.e.V.S=x.2.e.V.S)&&(decide (x.1.e.V.B=x.2.e.V.B)&&decide (x.1.e.V.E=x.2.e.V.E))))))else decide (x.1.e.V.Kind=x.2.e.V.Kind)&&(decide (x.1.e.V.N.M=x.2.e.V.N.M)&&(decide (x.1.e.V.N.S=x.2.e.V.N.S)&&(decide (x.1.e.V.S=x.2.e.V.S)&&(decide (x.1.e.V.B=x.2.e.V.B)&&decide (x.1.e.V.E=x.2.e.V.E)))))) (brn (bif false then !(decide (x.1.e.A.A.Row=x.2.e.A.A.Row)&&(decide (x.1.e.A.A.Col=x.2.e.A.A.Col)&&(decide (x.1.e.A.A.RelRow=x.2.e.A.A.RelRow)&&(decide (x.1.e.A.A.RelCol=x.2.e.A.A.RelCol)&&(decide (x.1.e.A.B.Row=x.2.e.A.B.Row)&&(decide (x.1.e.A.B.Col=x.2.e.A.B.Col)&&(decide (x.1.e.A.B.RelRow=x.2.e.A.B.RelRow)&&decide (x.1.e.A.B.RelCol=x.2.e.A.B.RelCol))))))))else decide (x.1.e.A.A.Row=x.2.e.A.A.Row)&&(decide (x.1.e.A.A.Col=x.2.e.A.A.Col)&&(decide (x.1.e.A.A.RelRow=x.2.e.A.A.RelRow)&&(decide (x.1.e.A.A.RelCol=x.2.e.A.A.RelCol)&&(decide (x.1.e.A.B.Row=x.2.e.A.B.Row)&&(decide (x.1.e.A.B.Col=x.2.e.A.B.Col)&&(decide (x.1.e.A.B.RelRow=x.2.e.A.B.RelRow)&&decide (x.1.e.A.B.RelCol=x.2.e.A.B.RelCol)))))))) (brn (decide (x.1.e.Sheet=x.2.e.Sheet)) (brn (decide (x.1.e.Op=x.2.e.Op)) (some (decide ((↑x.1.e.Kids.length:Int)=(↑x.2.e.Kids.length:Int)))) (some false)) (some false)) (some false)) (some false)) (some false)) (some false)
def zzM:Fq:=⟨[(0,.val 231),(1,.val 231)],[(0,.val 4)],nza⟩
theorem Bz0:A0 164 zzM:=A1 Tryz.func164 .nil
abbrev ezV:List (Nat×Fq):=[(164,zzM)]
theorem czz:azk Tryz.prog tb (ezV):=(.cons Bz0 .nil)
def azD (back:List Node2×Unit×List Node2×Int×Int->Option ((Unit)⊕(Bool)))(x:List Node2×Unit×List Node2×Int×Int):Option ((Unit)⊕(Bool)):=brn (decide (x.2.2.2.2<x.2.2.2.1)) (obnd (idx x.2.2.1 x.2.2.2.2) fun y=>obnd (idx x.1 x.2.2.2.2) fun y_1=>obnd (nza (Node2.mk (azf y.e) y.deep,Node2.mk (azf y_1.e) y_1.deep)) fun y=>brn (!y) (some (Sum.inr false)) (back (x.1,(),x.2.2.1,x.2.2.2.1,i64.wrap (x.2.2.2.2+1)))) (some (Sum.inl PUnit.unit))
def bzE:=iter azD big
def ezH:Cq:=⟨44,[(1,.val 227),(2,.fnp 164 0),(15,.val 227),(16,.val 3),(17,.val 3)],[(.exit 0,[]),(.ret,[(6,.val 4)])],rg 17 15 (rg 6 4 []),bzE,none⟩
theorem ezt:A3 Tryz.f163 44 ezH:=A4 czz .nil azD
def bzM (x:List Node2×List Node2×Unit):Option (Bool):=brn (!decide ((↑x.1.length:Int)=(↑x.2.1.length:Int))) (some false) (obnd (bzE (x.2.1,(),x.1,(↑x.1.length:Int),0)) fun y=>osum y (fun y=>some true) fun y=>some y)
def ezW:Fq:=⟨[(0,.val 227),(1,.val 227),(2,.fnp 164 0)],[(0,.val 4)],bzM⟩
theorem ezv:A0 163 ezW:=A2 Tryz.func163 czz (.cons ezt .nil)
def izR (x:Expr×Expr):Option (Bool):=obnd (nzI (azf x.1)) fun y=>obnd (nzI (azf x.2)) fun y_1=>obnd (bzM (y,y_1,())) fun y=>some y
def szJ:Fq:=⟨[(0,.val 90),(1,.val 90)],[(0,.val 4)],izR⟩
theorem izh:A0 94 szJ:=A1 Tryz.func94 (.cons uzF (.cons ezv .nil))
def szf (x:Group×Member):Option (Bool):=obnd (kzx (Group.mk x.1.Array x.1.A x.1.B (azf x.1.E),x.2.At)) fun y=>some y
def yzI:Fq:=⟨[(0,.val 141),(1,.ro 299)],[(0,.val 4)],szf⟩
theorem Az4:A0 208 yzI:=A1 Tryz.func208 (.cons mz4 .nil)
abbrev hz8:List (Nat×Fq):=[(208,yzI)]
theorem dzD:azk Tryz.prog tb (hz8):=(.cons Az4 .nil)
def az7 (back:Member×List Group×Unit×Int×Int->Option ((Unit)⊕(Int)))(x:Member×List Group×Unit×Int×Int):Option ((Unit)⊕(Int)):=brn (decide (x.2.2.2.2<x.2.2.2.1)) (obnd (idx x.2.1 x.2.2.2.2) fun y=>obnd (szf (Group.mk y.Array y.A y.B (azf y.E),Member.mk x.1.At (azf x.1.E))) fun y=>brn y (some (Sum.inr x.2.2.2.2)) (back (Member.mk x.1.At (azf x.1.E),x.2.1,(),x.2.2.2.1,i64.wrap (x.2.2.2.2+1)))) (some (Sum.inl PUnit.unit))
def czn:=iter az7 big
def gzD:Cq:=⟨28,[(4294967297,.ro 299),(0,.val 99),(1,.fnp 208 1),(7,.val 3),(8,.val 3)],[(.exit 0,[]),(.ret,[(4,.val 3)])],rg 8 11 [4,5],czn,none⟩
theorem fz8:A3 Tryz.f190 28 gzD:=A4 dzD .nil az7
def czD (x:Member×List Group×Unit):Option (Int):=obnd (czn (Member.mk x.1.At (azf x.1.E),x.2.1,(),(↑x.2.1.length:Int),0)) fun y=>osum y (fun y=>some (-1)) fun y=>some y
def hz9:Fq:=⟨[(4294967297,.ro 299),(0,.val 99),(1,.fnp 208 1)],[(0,.val 3)],czD⟩
theorem gzg:A0 190 hz9:=A2 Tryz.func190 dzD (.cons fz8 .nil)
def bzG (x:Member×List Group×Unit):Option (Bool):=obnd (czD (Member.mk x.1.At (azf x.1.E),x.2.1,())) fun y=>some (decide (0<=y))
def dzB:Fq:=⟨[(4294967297,.ro 299),(0,.val 99),(1,.fnp 208 1)],[(0,.val 4)],bzG⟩
theorem fzE:A0 143 dzB:=A1 Tryz.func143 (.cons gzg .nil)
abbrev DzB:List (Nat×Fq):=[(206,gzc),(205,dz7),(94,szJ),(143,dzB)]
theorem fzs:azk Tryz.prog tb (DzB):=(.cons kzB (.cons gzI (.cons izh (.cons fzE .nil))))
def lzG (back:List Group×List (Member)×List Member×Int×Int->Option (List (Member)))(x:List Group×List (Member)×List Member×Int×Int):Option (List (Member)):=brn (decide (x.2.2.2.2<x.2.2.2.1)) (obnd (idx x.2.2.1 x.2.2.2.2) fun y=>obnd (bzG (Member.mk y.At (azf y.E),x.1,())) fun y_1=>brn (!y_1) (obnd (app 168 x.2.1 [Member.mk y.At (azf y.E)]) fun zs=>back (x.1,zs,x.2.2.1,x.2.2.2.1,i64.wrap (x.2.2.2.2+1))) (back (x.1,x.2.1,x.2.2.1,x.2.2.2.1,i64.wrap (x.2.2.2.2+1)))) (some x.2.1)
def qz6:=iter lzG big
def jzh:Cq:=⟨116,[(5,.val 99),(6,.own 299),(93,.val 297),(94,.val 3),(95,.val 3)],[(.exit 0,[(6,.own 299)])],rg 95 13 [6,10],qz6,none⟩
theorem kzW:A3 Tryz.f171 116 jzh:=A4 fzs .nil lzG
def gz2 (x:List Member×List (Group)×List (Member)):Option (List (Group)×List (Member)):=obnd (qz6 (x.2.1,x.2.2,x.1,(↑x.1.length:Int),0)) fun y=>some (x.2.1,y)
def EzL:Cq:=⟨105,[(0,.val 297),(5,.own 141),(6,.own 299)],[(.ret,[(2,.own 141),(3,.own 299)])],rg 93 17 [2,3,6,10],gz2,none⟩
theorem Az5:czh ([jzh]:List (CutSpec tb)) (ozv (czr 21 Tryz.f171) 0)=[(116,.loop (czH 116 Tryz.f171))]:=by kernel_rfl
theorem qzx:dze Tryz.prog tb Tryz.f171.ntmps (czr 21 Tryz.f171) 0 EzL:=nzb mixed (by kernel_rfl) (by kernel_rfl) fzs rfl Az5 (.cons rfl kzW rfl .nil) .nil (fun x=>by kernel_rfl)
def fzt (x:List Member×Int×Int):Option (Bool):=brn (decide (x.2.2<(↑x.1.length:Int))) (brn (decide (i64.wrap (x.2.2-x.2.1)<1024)) (obnd (idx x.1 x.2.2) fun y=>obnd (idx x.1 (i64.wrap (x.2.2-1))) fun y_1=>obnd (idx x.1 x.2.1) fun y_2=>brn (bif false then !(decide (y.At.Row=i64.wrap (y_1.At.Row+1))&&decide (y.At.Col=y_2.At.Col))else decide (y.At.Row=i64.wrap (y_1.At.Row+1))&&decide (y.At.Col=y_2.At.Col)) (obnd (idx x.1 x.2.2) fun y=>obnd (idx x.1 x.2.1) fun y_3=>obnd (izR (azf y.E,azf y_3.E)) fun y=>some y) (some false)) (some false)) (some false)
def lzE:Cq:=⟨64,[(4,.val 297),(7,.val 3),(8,.val 3)],[(.normal,[(65,.val 4)])],rg 20 46 [],(fzt),none⟩
theorem ozl:A5 Tryz.f171 64 lzE:=A6 fzs .nil
def jzI (outer:List Member×List Member×List (Group)×List (Member)×Int->Option (List (Group)×List (Member)))(back:List Member×List Member×List (Group)×List (Member)×Int×Int->Option (List (Group)×List (Member)))(x:List Member×List Member×List (Group)×List (Member)×Int×Int):Option (List (Group)×List (Member)):=obnd (fzt (x.2.1,x.2.2.2.2)) fun y=>brn y (obnd (back (x.1,x.2.1,x.2.2.1,x.2.2.2.1,x.2.2.2.2.1,i64.wrap (x.2.2.2.2.2+1))) fun y=>some y) (brn (decide (1<i64.wrap (x.2.2.2.2.2-x.2.2.2.2.1))) (obnd (idx x.2.1 x.2.2.2.2.1) fun y=>obnd (idx x.2.1 (i64.wrap (x.2.2.2.2.2-1))) fun y_1=>obnd (idx x.2.1 x.2.2.2.2.1) fun y_2=>obnd (app 192 x.2.2.1 [Group.mk false y.At y_1.At (azf y_2.E)]) fun zs=>obnd (outer (x.1,x.2.1,zs,x.2.2.2.1,x.2.2.2.2.2)) fun y=>some y) (obnd (outer (x.1,x.2.1,x.2.2.1,x.2.2.2.1,x.2.2.2.2.2)) fun y=>some y))
def jzJ (outer:List Member×List Member×List (Group)×List (Member)×Int->Option (List (Group)×List (Member))):List Member×List Member×List (Group)×List (Member)×Int×Int->Option (List (Group)×List (Member)):=iter (jzI outer) big
def lz8 (outer:List Member×List Member×List (Group)×List (Member)×Int->Option (List (Group)×List (Member))):CutSpec tb:=⟨65,[(0,.val 297),(4,.val 297),(5,.own 141),(6,.own 299),(7,.val 3),(8,.val 3)],[(.ret,[(2,.own 141),(3,.own 299)])],[20,21,22,23,24,25,26,27,28,29,30,31,32,33,34,35,36,37,38,39,40,41,42,43,44,45,46,47,48,49,50,51,52,53,54,55,56,57,58,59,60,61,62,63,64,65,66,67,8,68,69,70,71,72,73,74,75,76,77,78,79,80,81,82,83,84,85,86,87,88,89,90,91,5,92,7,93,94,95,96,97,98,10,99,100,101,102,103,104,105,106,6,107,108,109,2,3,14,15,16,17,18,19],(jzJ outer),none⟩
theorem Az7 (outer:List Member×List Member×List (Group)×List (Member)×Int->Option (List (Group)×List (Member))):∀back x,wze Tryz.prog tb DzB [lzE,jzh] [(1,(⟨49,[(0,.val 297),(4,.val 297),(5,.own 141),(6,.own 299),(7,.val 3)],[(.ret,[(2,.own 141),(3,.own 299)])],(rg 14 96 (rg 5 4 [2,3,10])),outer,none⟩:CutSpec tb)),(2,(⟨65,[(0,.val 297),(4,.val 297),(5,.own 141),(6,.own 299),(7,.val 3),(8,.val 3)],[(.ret,[(2,.own 141),(3,.own 299)])],[20,21,22,23,24,25,26,27,28,29,30,31,32,33,34,35,36,37,38,39,40,41,42,43,44,45,46,47,48,49,50,51,52,53,54,55,56,57,58,59,60,61,62,63,64,65,66,67,8,68,69,70,71,72,73,74,75,76,77,78,79,80,81,82,83,84,85,86,87,88,89,90,91,5,92,7,93,94,95,96,97,98,10,99,100,101,102,103,104,105,106,6,107,108,109,2,3,14,15,16,17,18,19],back,none⟩:CutSpec tb))] (ozv (czr 21 Tryz.f171) 2) (lz8 outer).ins (lz8 outer).outs x=jzI outer back x:=fun back x=>by kernel_rfl
theorem CzQ (outer:List Member×List Member×List (Group)×List (Member)×Int->Option (List (Group)×List (Member))):cutB Tryz.f171.ntmps (lz8 outer) (ozv (czr 21 Tryz.f171) 2)=true:=by kernel_rfl
theorem Az8:czh ([lzE,jzh]:List (CutSpec tb)) (ozv (czr 21 Tryz.f171) 2)=[(64,czT 64 Tryz.f171),(116,.loop (czH 116 Tryz.f171))]:=by kernel_rfl
theorem qzz (outer:List Member×List Member×List (Group)×List (Member)×Int->Option (List (Group)×List (Member)))(hout:dze Tryz.prog tb Tryz.f171.ntmps (czr 21 Tryz.f171) 1 (⟨49,[(0,.val 297),(4,.val 297),(5,.own 141),(6,.own 299),(7,.val 3)],[(.ret,[(2,.own 141),(3,.own 299)])],(rg 14 96 (rg 5 4 [2,3,10])),outer,none⟩:CutSpec tb)):dze Tryz.prog tb Tryz.f171.ntmps (czr 21 Tryz.f171) 2 (lz8 outer):=xzx fun self hself=>nzb mixed (by kernel_rfl) (CzQ outer) fzs rfl Az8 (.cons rfl ozl rfl (.cons rfl kzW rfl .nil)) (.cons hout rfl (.cons hself rfl .nil)) (Az7 outer self)
def lzF (x:List Member×List (Group)×Int×Int×Bool):Option (List (Group)):=brn x.2.2.2.2 (obnd (idx x.1 x.2.2.1) fun y=>obnd (idx x.1 (i64.wrap (x.2.2.2.1-1))) fun y_1=>obnd (idx x.1 x.2.2.1) fun y_2=>obnd (app 192 x.2.1 [Group.mk false y.At y_1.At (azf y_2.E)]) fun zs=>some zs) (some x.2.1)
def qz5:Cq:=⟨90,[(4,.val 297),(5,.own 141),(7,.val 3),(8,.val 3),(71,.val 4)],[(.normal,[(5,.own 141)])],rg 72 20 [5],(lzF),none⟩
theorem szz:A5 Tryz.f171 90 qz5:=A6 fzs .nil
def lz7 (back:List Member×List Member×List (Group)×List (Member)×Int->Option (List (Group)×List (Member)))(x:List Member×List Member×List (Group)×List (Member)×Int):Option (List (Group)×List (Member)):=brn (decide (x.2.2.2.2=(↑x.2.1.length:Int))) (obnd (gz2 (x.1,x.2.2.1,x.2.2.2.1)) fun y=>some y) (obnd (fzt (x.2.1,x.2.2.2.2,i64.wrap (x.2.2.2.2+1))) fun y=>brn y (obnd (jzJ back (x.1,x.2.1,x.2.2.1,x.2.2.2.1,x.2.2.2.2,i64.wrap (i64.wrap (x.2.2.2.2+1)+1))) fun y=>some y) (obnd (lzF (x.2.1,x.2.2.1,x.2.2.2.2,i64.wrap (x.2.2.2.2+1),decide (1<i64.wrap (i64.wrap (x.2.2.2.2+1)-x.2.2.2.2)))) fun y=>obnd (back (x.1,x.2.1,y,x.2.2.2.1,i64.wrap (x.2.2.2.2+1))) fun y=>some y))
def ezC:=iter lz7 big
def EzM:Cq:=⟨49,[(0,.val 297),(4,.val 297),(5,.own 141),(6,.own 299),(7,.val 3)],[(.ret,[(2,.own 141),(3,.own 299)])],rg 14 96 (rg 5 4 [2,3,10]),ezC,none⟩
theorem Az6:czh ([lzE,qz5,jzh]:List (CutSpec tb)) (ozv (czr 21 Tryz.f171) 1)=[(64,czT 64 Tryz.f171),(90,czT 90 Tryz.f171),(116,.loop (czH 116 Tryz.f171))]:=by kernel_rfl
theorem qzy:dze Tryz.prog tb Tryz.f171.ntmps (czr 21 Tryz.f171) 1 EzM:=xzx fun self hself=>nzb mixed (by kernel_rfl) (by kernel_rfl) fzs rfl Az6 (.cons rfl ozl rfl (.cons rfl szz rfl (.cons rfl kzW rfl .nil))) (.cons hself rfl (.cons (qzz self hself) rfl (.cons qzx rfl .nil))) (fun x=>by kernel_rfl)
def qz7 (x:List Member):Option ((Unit)⊕(List (Group)×List (Member))):=obnd (dzZ x) fun y=>obnd (bzW (y,())) fun y=>brn (decide (0=(↑(List.length y):Int))) (obnd (gz2 (x,[],[])) fun y=>some (Sum.inr y)) (obnd (fzt (y,0,1)) fun y_1=>brn y_1 (obnd (jzJ ezC (x,y,[],[],0,2)) fun y=>some (Sum.inr y)) (obnd (lzF (y,[],0,1,decide (1<1))) fun y_2=>obnd (ezC (x,y,y_2,[],1)) fun y=>some (Sum.inr y)))
def IzI:Cq:=⟨21,[(0,.val 297)],[(.normal,[]),(.ret,[(2,.own 141),(3,.own 299)])],rg 10 100 (rg 2 7 []),qz7,none⟩
theorem EzN:czh ([lzE,qz5,jzh]:List (CutSpec tb)) (czr 21 Tryz.f171)=[(64,czT 64 Tryz.f171),(90,czT 90 Tryz.f171),(116,.loop (czH 116 Tryz.f171))]:=by kernel_rfl
theorem CzR:cz6 Tryz.prog tb Tryz.f171.ntmps (.scope (czr 21 Tryz.f171)) IzI:=qz4 mixed (by kernel_rfl) fzs rfl EzN (.cons rfl ozl rfl (.cons rfl szz rfl (.cons rfl kzW rfl .nil))) (.cons qzy rfl (.cons (qzz ezC qzy) rfl (.cons qzx rfl .nil))) (fun x=>by kernel_rfl)
def ozw (x:List Member):Option (List (Group)×List (Member)):=obnd (qz7 x) fun y=>osum y (fun y=>none) fun y=>some y
def DzC:Fq:=⟨[(0,.val 297)],[(0,.own 141),(1,.own 299)],ozw⟩
theorem EzO:A0 171 DzC:=A2 Tryz.func171 fzs (.cons CzR .nil)
abbrev IzJ:List (Nat×Fq):=[(143,dzl),(171,DzC)]
theorem szB:azk Tryz.prog tb (IzJ):=(.cons fzl (.cons EzO .nil))
def izK (back:List Group×List (Member)×List Cell2×Int×Int->Option (List (Member)))(x:List Group×List (Member)×List Cell2×Int×Int):Option (List (Member)):=brn (decide (x.2.2.2.2<x.2.2.2.1)) (obnd (idx x.2.2.1 x.2.2.2.2) fun y=>brn y.Has (obnd (bzx (Cell2.mk y.At y.XF y.V y.Has (azf y.E),x.1,())) fun y_1=>brn (!y_1) (obnd (app 168 x.2.1 [Member.mk y.At (azf y.E)]) fun zs=>back (x.1,zs,x.2.2.1,x.2.2.2.1,i64.wrap (x.2.2.2.2+1))) (back (x.1,x.2.1,x.2.2.1,x.2.2.2.1,i64.wrap (x.2.2.2.2+1)))) (back (x.1,x.2.1,x.2.2.1,x.2.2.2.1,i64.wrap (x.2.2.2.2+1)))) (some x.2.1)
def ozm:=iter izK big
def CzT:Cq:=⟨36,[(1,.val 99),(5,.own 299),(10,.val 98),(11,.val 3),(12,.val 3)],[(.exit 0,[(5,.own 299)])],rg 12 21 [5,7],ozm,none⟩
theorem xz8:A3 Tryz.f110 36 CzT:=A4 szB .nil izK
def jzi (x:List Cell2×List Group):Option (List (Group)):=obnd (ozm (x.2,[],x.1,(↑x.1.length:Int),0)) fun y=>obnd (ozw y) fun y=>some y.1
def qz8:Fq:=⟨[(0,.val 98),(1,.val 99)],[(0,.own 141)],jzi⟩
theorem qzA:A0 110 qz8:=A2 Tryz.func110 szB (.cons xz8 .nil)
abbrev Kzw:List (Nat×Fq):=[(106,cz2),(107,Kzv),(108,dzv),(110,qz8),(1099511627841,mutS)]
theorem mzU:azk Tryz.prog tb (Kzw):=(.cons mzR (.cons JzI (.cons fzw (.cons qzA (.consK hzV .nil)))))
def jz7 (back:List (Cell2)×Sheet×List Cell2×Int×Int->Option ((List (Cell2))×Sheet))(x:List (Cell2)×Sheet×List Cell2×Int×Int):Option ((List (Cell2))×Sheet):=brn (decide (x.2.2.2.2<x.2.2.2.1)) (obnd (idx x.2.2.1 x.2.2.2.2) fun y=>brn y.Has (obnd (app 240 x.1 [Cell2.mk y.At y.XF y.V y.Has (azf y.E)]) fun zs=>back (zs,Sheet.mk x.2.1.Rows zs x.2.1.Groups,x.2.2.1,x.2.2.2.1,i64.wrap (x.2.2.2.2+1))) (brn (!decide (y.V.Kind=0)) (obnd (app 240 x.1 [Cell2.mk y.At y.XF y.V y.Has (azf y.E)]) fun zs=>back (zs,Sheet.mk x.2.1.Rows zs x.2.1.Groups,x.2.2.1,x.2.2.2.1,i64.wrap (x.2.2.2.2+1))) (brn (!decide (y.XF=0)) (obnd (app 240 x.1 [Cell2.mk y.At y.XF y.V y.Has (azf y.E)]) fun zs=>back (zs,Sheet.mk x.2.1.Rows zs x.2.1.Groups,x.2.2.1,x.2.2.2.1,i64.wrap (x.2.2.2.2+1))) (back (x.1,Sheet.mk x.2.1.Rows x.1 x.2.1.Groups,x.2.2.1,x.2.2.2.1,i64.wrap (x.2.2.2.2+1)))))) (some (x.1,Sheet.mk x.2.1.Rows x.1 x.2.1.Groups))
def pzx:=iter jz7 big
def Fzj:Cq:=⟨36,[(8589934595,.own 108),(3,.ref 101),(16,.val 98),(17,.val 3),(18,.val 3)],[(.exit 0,[(8589934595,.own 108)])],rg 18 24 [5],pzx,none⟩
theorem zzx:A3 Tryz.f57 36 Fzj:=A4 mzU .nil jz7
def jz8 (back:Sheet×List (Group)×List Group×Int×Int->Option (List (Group)))(x:Sheet×List (Group)×List Group×Int×Int):Option (List (Group)):=brn (decide (x.2.2.2.2<x.2.2.2.1)) (obnd (idx x.2.2.1 x.2.2.2.2) fun y=>brn y.Array (obnd (xzg (x.1.Cells,y.A)) fun y_1=>brn y_1.2 (obnd (app 192 x.2.1 [Group.mk y.Array y.A y.B (azf y_1.1)]) fun zs=>back (x.1,zs,x.2.2.1,x.2.2.2.1,i64.wrap (x.2.2.2.2+1))) (obnd (app 192 x.2.1 [Group.mk y.Array y.A y.B (azf y.E)]) fun zs=>back (x.1,zs,x.2.2.1,x.2.2.2.1,i64.wrap (x.2.2.2.2+1)))) (back (x.1,x.2.1,x.2.2.1,x.2.2.2.1,i64.wrap (x.2.2.2.2+1)))) (some x.2.1)
def pzy:=iter jz8 big
def Fzk:Cq:=⟨92,[(1,.ro 101),(6,.wr 141),(43,.val 99),(44,.val 3),(45,.val 3)],[(.exit 2,[(6,.wr 141)])],rg 45 22 (rg 8 3 [6]),pzy,none⟩
theorem zzy:A3 Tryz.f57 92 Fzk:=A4 mzU .nil jz8
def pzw (x:List (Cell2)×Sheet×List (Group)):Option ((List (Cell2))×Sheet):=obnd (jzi (x.1,x.2.2)) fun y=>obnd (app 192 x.2.2 y) fun zs=>some (x.1,Sheet.mk x.2.1.Rows x.1 zs)
def Fzi:Cq:=⟨160,[(8589934595,.own 108),(3,.ref 101),(6,.own 141)],[(.normal,[(8589934595,.own 108)])],rg 69 7 [],(pzw),none⟩
theorem zzw:A5 Tryz.f57 160 Fzi:=A6 mzU .nil
def pzv (x:Sheet):Option (Sheet):=obnd (fzg x.Rows) fun y=>obnd (pzx ([],Sheet.mk y [] [],x.Cells,(↑x.Cells.length:Int),0)) fun y=>obnd (pzy (x,[],x.Groups,(↑x.Groups.length:Int),0)) fun y_1=>obnd (bzC (y_1,())) fun y_2=>obnd (pzw (y.1,Sheet.mk y.2.Rows y.1 y.2.Groups,y_2)) fun y=>some (Sheet.mk y.2.Rows y.1 y.2.Groups)
def zzv:Fq:=⟨[(0,.val 101)],[(0,.val 101)],pzv⟩
theorem BzV:A0 57 zzv:=A2 Tryz.func57 mzU (.cons zzx (.cons zzy (.cons zzw .nil)))
def kzy (back:List (List UInt8)×List Cell2×Int×Int->Option (List (List UInt8)))(x:List (List UInt8)×List Cell2×Int×Int):Option (List (List UInt8)):=brn (decide (x.2.2.2<x.2.2.1)) (obnd (idx x.2.1 x.2.2.2) fun y=>brn (!y.Has) (brn (decide (y.V.Kind=2)) (obnd (app 16 x.1 [y.V.S]) fun zs=>back (zs,x.2.1,x.2.2.1,i64.wrap (x.2.2.2+1))) (back (x.1,x.2.1,x.2.2.1,i64.wrap (x.2.2.2+1)))) (back (x.1,x.2.1,x.2.2.1,i64.wrap (x.2.2.2+1)))) (some x.1)
def qzp:=iter kzy big
def Gz7:Cq:=⟨36,[(3,.own 9),(7,.val 98),(8,.val 3),(9,.val 3)],[(.exit 0,[(3,.own 9)])],rg 9 20 [3,5],qzp,none⟩
theorem Bzb:A3 Tryz.f82 36 Gz7:=A4 .nil .nil kzy
def qzo (x:Sheet):Option (List (List UInt8)):=obnd (qzp ([],x.Cells,(↑x.Cells.length:Int),0)) fun y=>some y
def Bza:Fq:=⟨[(0,.val 101)],[(0,.own 9)],qzo⟩
theorem CzU:A0 82 Bza:=A2 Tryz.func82 .nil (.cons Bzb .nil)
def jz4 (back:List (Int)×((List UInt8×Nat))->Option ((List (Int))×((List UInt8×Nat))))(x:List (Int)×((List UInt8×Nat))):Option ((List (Int))×((List UInt8×Nat))):=brn (decide (x.2.2<x.2.1.length)) (brn (decide ((↑(rune x.2.1 x.2.2).1:Int)<65536)) (obnd (app 8 x.1 [i64.wrap (↑(rune x.2.1 x.2.2).1:Int)]) fun zs=>back (zs,x.2.1,x.2.2+(rune x.2.1 x.2.2).2)) (obnd (app 8 x.1 [i64.wrap (55296+i64.wrap ((i32.wrap ((↑(rune x.2.1 x.2.2).1:Int)-65536)).fdiv 1024)),i64.wrap (56320+i64.wrap (czg BinOp.and i32 (i32.wrap ((↑(rune x.2.1 x.2.2).1:Int)-65536)) 1023))]) fun zs=>back (zs,x.2.1,x.2.2+(rune x.2.1 x.2.2).2))) (some x)
def ozY:=iter jz4 big
def Kzk:Cq:=⟨36,[(3,.own 3),(7,.iter)],[(.exit 0,[(3,.own 3)])],rg 8 23 [3,5],ozY,none⟩
theorem Ez0:A3 Tryz.f130 36 Kzk:=A4 .nil .nil jz4
def kzH (x:List UInt8):Option (List (Int)):=obnd (ozY ([],x,0)) fun y=>some y.1
def Hzg:Fq:=⟨[(0,.val 9)],[(0,.own 3)],kzH⟩
theorem vzc:A0 130 Hzg:=A2 Tryz.func130 .nil (.cons Ez0 .nil)
def iz3 (x:List UInt8):Option (Int×Int):=obnd (some (Lib.validD x)) fun y=>brn (!y) (some (0,2)) (obnd (kzH x) fun y=>brn (decide (1000<(↑(List.length y):Int))) (some (0,4)) (some ((↑(List.length y):Int),0)))
def oza:Fq:=⟨[(0,.val 9)],[(0,.val 3),(1,.val 44)],iz3⟩
theorem izs:A0 75 oza:=A1 Tryz.func75 (.cons vzP (.cons vzc .nil))
abbrev NzS:List (Nat×Fq):=[(75,oza)]
theorem ozX:azk Tryz.prog tb (NzS):=(.cons izs .nil)
def mz5 (x:List (List UInt8)×Table×Int):Option ((List (List UInt8)×List (Int)×Int)×Table):=some (([],[],x.2.2),Table.mk [] 0)
def Hza:Cq:=⟨153,[(4294967298,.own 9),(2,.ref 36),(4,.val 44)],[(.ret,[(4294967298,.own 9),(3,.own 3),(4,.val 44)])],[58,59,3,4],mz5,none⟩
theorem CzX:czh ([]:List (CutSpec tb)) (ozv (czr 21 Tryz.f83) 0)=[]:=by kernel_rfl
theorem Bzd:dze Tryz.prog tb Tryz.f83.ntmps (czr 21 Tryz.f83) 0 Hza:=nzb mixed (by kernel_rfl) (by kernel_rfl) ozX rfl CzX .nil .nil (fun x=>by kernel_rfl)
def mzy (back:List (List UInt8)×Table×List (Int)×(List (List UInt8×Int))×List (List UInt8)×Int×Int->Option (((List (List UInt8)×List (Int))×(Table×(List (List UInt8×Int))))⊕((List (List UInt8)×Int)×(Table×(List (List UInt8×Int))))))(x:List (List UInt8)×Table×List (Int)×(List (List UInt8×Int))×List (List UInt8)×Int×Int):Option (((List (List UInt8)×List (Int))×(Table×(List (List UInt8×Int))))⊕((List (List UInt8)×Int)×(Table×(List (List UInt8×Int))))):=brn (decide (x.2.2.2.2.2.2<x.2.2.2.2.2.1)) (obnd (idx x.2.2.2.2.1 x.2.2.2.2.2.2) fun y=>obnd (iz3 y) fun y_1=>brn (!decide (y_1.2=0)) (some (Sum.inr ((x.1,y_1.2),Table.mk x.1 x.2.1.Uses,x.2.2.2.1))) (brn (!kzO keq9 y x.2.2.2.1) (obnd (app 16 x.1 [y]) fun zs=>obnd (app 8 x.2.2.1 [(↑x.1.length:Int)]) fun zs_1=>back (zs,Table.mk zs x.2.1.Uses,zs_1,kzP keq9 y (↑x.1.length:Int) x.2.2.2.1,x.2.2.2.2.1,x.2.2.2.2.2.1,i64.wrap (x.2.2.2.2.2.2+1))) (obnd (app 8 x.2.2.1 [ezU keq9 0 y x.2.2.2.1]) fun zs=>back (x.1,Table.mk x.1 x.2.1.Uses,zs,x.2.2.2.1,x.2.2.2.2.1,x.2.2.2.2.2.1,i64.wrap (x.2.2.2.2.2.2+1))))) (some (Sum.inl ((x.1,x.2.2.1),Table.mk x.1 x.2.1.Uses,x.2.2.2.1)))
def szh:=iter mzy big
def yzJ:Cq:=⟨36,[(4294967298,.own 9),(2,.ref 36),(3,.own 3),(5,.mp 9 3),(11,.val 22),(12,.val 3),(13,.val 3)],[(.exit 0,[(4294967298,.own 9),(3,.own 3)]),((.goto 0),[(4294967298,.own 9),(4,.val 44)])],rg 13 36 (rg 7 3 [3,4]),szh,none⟩
theorem EzS:A3 Tryz.f83 36 yzJ:=A4 ozX .nil mzy
def szi (x:List (List UInt8)×List (List UInt8)×Table×List (Int)):Option (((List (List UInt8))×Table)⊕((List (List UInt8)×List (Int)×Int)×Table)):=obnd (szh (x.1,Table.mk x.1 x.2.2.1.Uses,x.2.2.2,[],x.2.1,(↑x.2.1.length:Int),0)) fun y=>osum y (fun y=>brn (decide (1024<(↑(List.length y.1.1):Int))) (obnd (mz5 (y.1.1,Table.mk y.1.1 y.2.1.Uses,4)) fun y=>some (Sum.inr ((y.1.1,y.1.2),Table.mk y.1.1 y.2.Uses))) (some (Sum.inr ((y.1.1,y.1.2,0),Table.mk y.1.1 (↑x.2.1.length:Int))))) fun y=>obnd (mz5 (y.1.1,Table.mk y.1.1 y.2.1.Uses,y.1.2)) fun y=>some (Sum.inr ((y.1.1,y.1.2),Table.mk y.1.1 y.2.Uses))
def Kzg:Cq:=⟨21,[(4294967298,.own 9),(0,.val 22),(2,.ref 36),(3,.own 3)],[(.normal,[(4294967298,.own 9)]),(.ret,[(4294967298,.own 9),(3,.own 3),(4,.val 44)])],rg 7 53 (rg 3 3 []),szi,none⟩
theorem Hzb:czh ([yzJ]:List (CutSpec tb)) (czr 21 Tryz.f83)=[(36,.loop (czH 36 Tryz.f83))]:=by kernel_rfl
theorem EzT:cz6 Tryz.prog tb Tryz.f83.ntmps (.scope (czr 21 Tryz.f83)) Kzg:=qz4 mixed (by kernel_rfl) ozX rfl Hzb (.cons rfl EzS rfl .nil) (.cons Bzd rfl .nil) (fun x=>by kernel_rfl)
def sz9 (x:List (List UInt8)):Option (Table×List (Int)×Int):=obnd (szi ([],x,Table.mk [] 0,[])) fun y=>osum y (fun y=>none) fun y=>some (Table.mk y.1.1 y.2.Uses,y.1.2)
def Gz9:Fq:=⟨[(0,.val 22)],[(0,.val 36),(1,.own 3),(2,.val 44)],sz9⟩
theorem Hzc:A0 83 Gz9:=A2 Tryz.func83 ozX (.cons EzT .nil)
abbrev Lz8:List (Nat×Fq):=[(82,Bza),(83,Gz9)]
theorem vz3:azk Tryz.prog tb (Lz8):=(.cons CzU (.cons Hzc .nil))
def kz2 (back:List (List UInt8)×List Sheet×Int×Int->Option (List (List UInt8)))(x:List (List UInt8)×List Sheet×Int×Int):Option (List (List UInt8)):=brn (decide (x.2.2.2<x.2.2.1)) (obnd (idx x.2.1 x.2.2.2) fun y=>obnd (qzo y) fun y=>obnd (app 16 x.1 y) fun zs=>back (zs,x.2.1,x.2.2.1,i64.wrap (x.2.2.2+1))) (some x.1)
def qzH:=iter kz2 big
def Hzz:Cq:=⟨36,[(4,.own 9),(10,.val 40),(11,.val 3),(12,.val 3)],[(.exit 0,[(4,.own 9)])],rg 12 9 [4,6],qzH,none⟩
theorem BzU:A3 Tryz.f36 36 Hzz:=A4 vz3 .nil kz2
def ez9 (x:List Sheet):Option (Table×Int):=obnd (qzH ([],x,(↑x.length:Int),0)) fun y=>obnd (sz9 y) fun y=>some (y.1,y.2.2)
def vzg:Fq:=⟨[(0,.val 40)],[(0,.val 36),(1,.val 44)],ez9⟩
theorem tzn:A0 36 vzg:=A2 Tryz.func36 vz3 (.cons BzU .nil)
def dzq (back:List (List UInt8)×List UInt8×Int×Int->Option ((Unit)⊕(Int)))(x:List (List UInt8)×List UInt8×Int×Int):Option ((Unit)⊕(Int)):=brn (decide (x.2.2.2<x.2.2.1)) (obnd (idx x.1 x.2.2.2) fun y=>brn (decide (x.2.1=y)) (some (Sum.inr x.2.2.2)) (back (x.1,x.2.1,x.2.2.1,i64.wrap (x.2.2.2+1)))) (some (Sum.inl PUnit.unit))
def gzb:=iter dzq big
def qzt:Cq:=⟨28,[(0,.val 22),(1,.val 9),(7,.val 3),(8,.val 3)],[(.exit 0,[]),(.ret,[(4,.val 3)])],rg 8 11 [4,5],gzb,none⟩
theorem ozA:A3 Tryz.f182 28 qzt:=A4 .nil .nil dzq
def iza (x:List (List UInt8)×List UInt8):Option (Int):=obnd (gzb (x.1,x.2,(↑x.1.length:Int),0)) fun y=>osum y (fun y=>some (-1)) fun y=>some y
def rzW:Fq:=⟨[(0,.val 22),(1,.val 9)],[(0,.val 3)],iza⟩
theorem pzd:A0 182 rzW:=A2 Tryz.func182 .nil (.cons ozA .nil)
def ezr (x:List (List UInt8)×List UInt8):Option (Bool):=obnd (iza x) fun y=>some (decide (0<=y))
def kzA:Fq:=⟨[(0,.val 22),(1,.val 9)],[(0,.val 4)],ezr⟩
theorem nz7:A0 128 kzA:=A1 Tryz.func128 (.cons pzd .nil)
abbrev Bz8:List (Nat×Fq):=[(75,oza),(128,kzA)]
theorem pzJ:azk Tryz.prog tb (Bz8):=(.cons izs (.cons nz7 .nil))
def fzS (back:List (List UInt8)×List (List UInt8)×Int×Int->Option ((Unit)⊕(Int)))(x:List (List UInt8)×List (List UInt8)×Int×Int):Option ((Unit)⊕(Int)):=brn (decide (x.2.2.2<x.2.2.1)) (obnd (idx x.2.1 x.2.2.2) fun y=>obnd (iz3 y) fun y_1=>brn (!decide (y_1.2=0)) (some (Sum.inr 3)) (brn (decide (y_1.1<1)) (some (Sum.inr 3)) (brn (decide (31<y_1.1)) (some (Sum.inr 3)) (obnd (sub x.1 0 x.2.2.2) fun z=>obnd (ezr (z,y)) fun y=>brn y (some (Sum.inr 7)) (back (x.1,x.2.1,x.2.2.1,i64.wrap (x.2.2.2+1))))))) (some (Sum.inl PUnit.unit))
def lzU:=iter fzS big
def xzv:Cq:=⟨28,[(0,.val 22),(7,.val 22),(8,.val 3),(9,.val 3)],[(.exit 0,[]),(.ret,[(2,.val 44)])],rg 9 26 (rg 2 5 []),lzU,none⟩
theorem uzn:A3 Tryz.f74 28 xzv:=A4 pzJ .nil fzS
def kzM (x:List (List UInt8)):Option (Int):=obnd (lzU (x,x,(↑x.length:Int),0)) fun y=>osum y (fun y=>some 0) fun y=>some y
def szo:Fq:=⟨[(0,.val 22)],[(0,.val 44)],kzM⟩
theorem vzk:A0 74 szo:=A2 Tryz.func74 pzJ (.cons uzn .nil)
def yzn (x:Node2):Option (Bool):=some (decide (16<x.deep))
def yzo:Fq:=⟨[(0,.val 231)],[(0,.val 4)],yzn⟩
theorem zzL:A0 117 yzo:=A1 Tryz.func117 .nil
abbrev iz0:List (Nat×Fq):=[(117,yzo)]
theorem dz1:azk Tryz.prog tb (iz0):=(.cons zzL .nil)
def bzl (back:List Node2×Unit×Int×Int->Option ((Unit)⊕(Int)))(x:List Node2×Unit×Int×Int):Option ((Unit)⊕(Int)):=brn (decide (x.2.2.2<x.2.2.1)) (obnd (idx x.1 x.2.2.2) fun y=>obnd (yzn (Node2.mk (azf y.e) y.deep)) fun y=>brn y (some (Sum.inr x.2.2.2)) (back (x.1,(),x.2.2.1,i64.wrap (x.2.2.2+1)))) (some (Sum.inl PUnit.unit))
def czF:=iter bzl big
def ize:Cq:=⟨28,[(0,.val 227),(1,.fnp 117 0),(7,.val 3),(8,.val 3)],[(.exit 0,[]),(.ret,[(4,.val 3)])],rg 8 11 [4,5],czF,none⟩
theorem gz3:A3 Tryz.f174 28 ize:=A4 dz1 .nil bzl
def czS (x:List Node2×Unit):Option (Int):=obnd (czF (x.1,(),(↑x.1.length:Int),0)) fun y=>osum y (fun y=>some (-1)) fun y=>some y
def iz1:Fq:=⟨[(0,.val 227),(1,.fnp 117 0)],[(0,.val 3)],czS⟩
theorem hzz:A0 174 iz1:=A2 Tryz.func174 dz1 (.cons gz3 .nil)
def bzU (x:List Node2×Unit):Option (Bool):=obnd (czS (x.1,())) fun y=>some (decide (0<=y))
def dz0:Fq:=⟨[(0,.val 227),(1,.fnp 117 0)],[(0,.val 4)],bzU⟩
theorem gzr:A0 116 dz0:=A1 Tryz.func116 (.cons hzz .nil)
def dz3 (x:Int×Int×Int):Option (Bool):=brn (decide (x.2.1<=x.1)) (some (decide (x.1<=x.2.2))) (some false)
def zzP:Fq:=⟨[(0,.val 3),(1,.val 3),(2,.val 3)],[(0,.val 4)],dz3⟩
theorem ozf:A0 120 zzP:=A1 Tryz.func120 .nil
def zzN (x:Expr):Option (Expr):=brn (decide (x.Kind=1)) (some (Expr.mk x.Kind x.V (Area.mk (Ref.mk 0 0 false false) (Ref.mk 0 0 false false)) 0 0 [])) (brn (decide (x.Kind=2)) (some (Expr.mk x.Kind (Val.mk 0 (Dec.mk 0 0) [] false 0) (Area.mk x.A.A (Ref.mk 0 0 false false)) 0 0 [])) (brn (decide (x.Kind=3)) (some (Expr.mk x.Kind (Val.mk 0 (Dec.mk 0 0) [] false 0) x.A 0 0 [])) (brn (decide (x.Kind=4)) (some (Expr.mk x.Kind (Val.mk 0 (Dec.mk 0 0) [] false 0) (Area.mk x.A.A (Ref.mk 0 0 false false)) x.Sheet 0 [])) (brn (decide (x.Kind=5)) (some (Expr.mk x.Kind (Val.mk 0 (Dec.mk 0 0) [] false 0) x.A x.Sheet 0 [])) (brn (decide (x.Kind=6)) (some (Expr.mk x.Kind (Val.mk 0 (Dec.mk 0 0) [] false 0) (Area.mk (Ref.mk 0 0 false false) (Ref.mk 0 0 false false)) 0 x.Op [])) (brn (decide (x.Kind=7)) (brn (decide (x.Kind=7)) (some (Expr.mk x.Kind (Val.mk 0 (Dec.mk 0 0) [] false 0) (Area.mk (Ref.mk 0 0 false false) (Ref.mk 0 0 false false)) 0 x.Op x.Kids)) (some (Expr.mk x.Kind (Val.mk 0 (Dec.mk 0 0) [] false 0) (Area.mk (Ref.mk 0 0 false false) (Ref.mk 0 0 false false)) 0 0 x.Kids))) (brn (decide (x.Kind=8)) (brn (decide (x.Kind=8)) (some (Expr.mk x.Kind (Val.mk 0 (Dec.mk 0 0) [] false 0) (Area.mk (Ref.mk 0 0 false false) (Ref.mk 0 0 false false)) 0 x.Op x.Kids)) (some (Expr.mk x.Kind (Val.mk 0 (Dec.mk 0 0) [] false 0) (Area.mk (Ref.mk 0 0 false false) (Ref.mk 0 0 false false)) 0 0 x.Kids))) (brn (decide (x.Kind=9)) (some (Expr.mk x.Kind (Val.mk 0 (Dec.mk 0 0) [] false 0) (Area.mk (Ref.mk 0 0 false false) (Ref.mk 0 0 false false)) 0 x.Op x.Kids)) (some (Expr.mk x.Kind (Val.mk 0 (Dec.mk 0 0) [] false 0) (Area.mk (Ref.mk 0 0 false false) (Ref.mk 0 0 false false)) 0 0 x.Kids))))))))))
def expr_ownS:Fq:=⟨[(0,.val 90)],[(0,.val 90)],zzN⟩
theorem HzM:A0 210 expr_ownS:=A1 Tryz.func210 .nil
def vzi (x:Expr):Option (Bool):=obnd (zzN (azf x)) fun y=>brn (bif false then !(decide (y.V.Kind=x.V.Kind)&&(decide (y.V.N.M=x.V.N.M)&&(decide (y.V.N.S=x.V.N.S)&&(decide (y.V.S=x.V.S)&&(decide (y.V.B=x.V.B)&&decide (y.V.E=x.V.E))))))else decide (y.V.Kind=x.V.Kind)&&(decide (y.V.N.M=x.V.N.M)&&(decide (y.V.N.S=x.V.N.S)&&(decide (y.V.S=x.V.S)&&(decide (y.V.B=x.V.B)&&decide (y.V.E=x.V.E)))))) (brn (bif false then !(decide (y.A.A.Row=x.A.A.Row)&&(decide (y.A.A.Col=x.A.A.Col)&&(decide (y.A.A.RelRow=x.A.A.RelRow)&&(decide (y.A.A.RelCol=x.A.A.RelCol)&&(decide (y.A.B.Row=x.A.B.Row)&&(decide (y.A.B.Col=x.A.B.Col)&&(decide (y.A.B.RelRow=x.A.B.RelRow)&&decide (y.A.B.RelCol=x.A.B.RelCol))))))))else decide (y.A.A.Row=x.A.A.Row)&&(decide (y.A.A.Col=x.A.A.Col)&&(decide (y.A.A.RelRow=x.A.A.RelRow)&&(decide (y.A.A.RelCol=x.A.A.RelCol)&&(decide (y.A.B.Row=x.A.B.Row)&&(decide (y.A.B.Col=x.A.B.Col)&&(decide (y.A.B.RelRow=x.A.B.RelRow)&&decide (y.A.B.RelCol=x.A.B.RelCol)))))))) (brn (decide (y.Sheet=x.Sheet)) (brn (decide (y.Op=x.Op)) (some (decide ((↑y.Kids.length:Int)=(↑x.Kids.length:Int)))) (some false)) (some false)) (some false)) (some false)
def Mzu:Fq:=⟨[(0,.val 90)],[(0,.val 4)],vzi⟩
theorem DzZ:A0 175 Mzu:=A1 Tryz.func175 (.cons HzM .nil)
def yzg (x:Int):Option (Val):=some (Val.mk 4 (Dec.mk 0 0) [] false x)
def NzW:Fq:=⟨[(0,.val 3)],[(0,.val 85)],yzg⟩
theorem Hzn:A0 172 NzW:=A1 Tryz.func172 .nil
def pze (x:Val):Option (Val):=brn (decide (x.Kind=1)) (some (Val.mk 1 x.N [] false 0)) (brn (decide (x.Kind=2)) (some (Val.mk 2 (Dec.mk 0 0) x.S false 0)) (brn (decide (x.Kind=3)) (some (Val.mk 3 (Dec.mk 0 0) [] x.B 0)) (brn (decide (x.Kind=4)) (obnd (yzg x.E) fun y=>some y) (some (Val.mk x.Kind (Dec.mk 0 0) [] false 0)))))
def val_ownS:Fq:=⟨[(0,.val 85)],[(0,.val 85)],pze⟩
theorem Kzl:A0 112 val_ownS:=A1 Tryz.func112 (.cons Hzn .nil)
def xzm (x:Dec):Option (Int):=brn (decide (x.S<0)) (some 1) (brn (decide (9<x.S)) (some 1) (brn (decide (0<x.S)) (brn (decide (x.M.tmod 10=0)) (some 1) (some 0)) (some 0)))
def Mz1:Fq:=⟨[(0,.val 83)],[(0,.val 44)],xzm⟩
theorem Fzr:A0 113 Mz1:=A1 Tryz.func113 .nil
def Bzh (x:Int):Option (List UInt8):=brn (decide (x=0)) (some (U8s [35,78,85,76,76,33])) (brn (decide (x=7)) (some (U8s [35,68,73,86,47,48,33])) (brn (decide (x=15)) (some (U8s [35,86,65,76,85,69,33])) (brn (decide (x=23)) (some (U8s [35,82,69,70,33])) (brn (decide (x=29)) (some (U8s [35,78,65,77,69,63])) (brn (decide (x=36)) (some (U8s [35,78,85,77,33])) (brn (decide (x=42)) (some [35,78,47,65]) (some [])))))))
def val_nameS:Fq:=⟨[(0,.val 3)],[(0,.val 9)],Bzh⟩
theorem IzR:A0 114 val_nameS:=A1 Tryz.func114 .nil
def qzv (x:Val):Option (Int):=brn (decide (x.Kind<0)) (some 1) (brn (decide (4<x.Kind)) (some 1) (obnd (pze x) fun y=>brn (bif true then !(decide (x.Kind=y.Kind)&&(decide (x.N.M=y.N.M)&&(decide (x.N.S=y.N.S)&&(decide (x.S=y.S)&&(decide (x.B=y.B)&&decide (x.E=y.E))))))else decide (x.Kind=y.Kind)&&(decide (x.N.M=y.N.M)&&(decide (x.N.S=y.N.S)&&(decide (x.S=y.S)&&(decide (x.B=y.B)&&decide (x.E=y.E)))))) (some 1) (brn (decide (x.Kind=1)) (obnd (xzm x.N) fun y=>some y) (brn (decide (x.Kind=2)) (obnd (iz3 x.S) fun y=>some y.2) (brn (decide (x.Kind=4)) (obnd (Bzh x.E) fun y=>brn (decide (y=[])) (some 1) (some 0)) (some 0))))))
def NzV:Fq:=⟨[(0,.val 85)],[(0,.val 44)],qzv⟩
theorem vzd:A0 59 NzV:=A1 Tryz.func59 (.cons Kzl (.cons Fzr (.cons izs (.cons IzR .nil))))
def lzP (x:Cell):Option (Bool):=brn (decide (0<=x.Row)) (brn (decide (x.Row<65536)) (brn (decide (0<=x.Col)) (some (decide (x.Col<256))) (some false)) (some false)) (some false)
def AzW:Fq:=⟨[(0,.val 80)],[(0,.val 4)],lzP⟩
theorem nzY:A0 111 AzW:=A1 Tryz.func111 .nil
def nzX (x:Ref):Option (Int):=obnd (lzP (Cell.mk x.Row x.Col)) fun y=>brn (!y) (some 12) (some 0)
def NzL:Fq:=⟨[(0,.val 86)],[(0,.val 44)],nzX⟩
theorem GzW:A0 211 NzL:=A1 Tryz.func211 (.cons nzY .nil)
def lzD (x:Area):Option (Int):=obnd (nzX x.A) fun y=>obnd (nzX x.B) fun y_1=>some (bif decide (y<y_1)then y_1 else y)
def IzH:Fq:=⟨[(0,.val 88)],[(0,.val 44)],lzD⟩
theorem zzg:A0 176 IzH:=A1 Tryz.func176 (.cons GzW .nil)
def pzG (x:Expr):Option (Bool):=brn (decide (x.Kind=6)) (obnd (dz3 (x.Op,0,1023)) fun y=>some y) (brn (decide (x.Kind=7)) (obnd (dz3 (x.Op,1,3)) fun y=>brn y (some (decide ((↑x.Kids.length:Int)=1))) (some false)) (brn (decide (x.Kind=8)) (obnd (dz3 (x.Op,1,12)) fun y=>brn y (some (decide ((↑x.Kids.length:Int)=2))) (some false)) (brn (decide (x.Kind=9)) (obnd (dz3 (x.Op,0,29)) fun y=>brn y (some (decide ((↑x.Kids.length:Int)<=30))) (some false)) (brn (decide (x.Kind=10)) (some (decide ((↑x.Kids.length:Int)=1))) (some true)))))
def KzM:Fq:=⟨[(0,.val 90)],[(0,.val 4)],pzG⟩
theorem Bz1:A0 177 KzM:=A1 Tryz.func177 (.cons ozf .nil)
def pzH (x:Expr):Option (Int):=obnd (dz3 (x.Kind,1,10)) fun y=>brn (!y) (some 1) (obnd (vzi (azf x)) fun y=>brn (!y) (some 1) (brn (decide (x.Kind=1)) (obnd (qzv x.V) fun y=>brn (!decide (y=0)) (some y) (brn (decide (x.V.Kind=0)) (some 1) (obnd (lzD x.A) fun y=>brn (!decide (y=0)) (some y) (obnd (dz3 (x.Sheet,0,7)) fun y=>brn (!y) (some 1) (obnd (pzG (azf x)) fun y=>brn (!y) (some 1) (some 0)))))) (obnd (lzD x.A) fun y=>brn (!decide (y=0)) (some y) (obnd (dz3 (x.Sheet,0,7)) fun y=>brn (!y) (some 1) (obnd (pzG (azf x)) fun y=>brn (!y) (some 1) (some 0))))))
def Fzw:Fq:=⟨[(0,.val 90)],[(0,.val 44)],pzH⟩
theorem Fzx:A0 118 Fzw:=A1 Tryz.func118 (.cons ozf (.cons DzZ (.cons vzd (.cons zzg (.cons Bz1 .nil)))))
abbrev Mzr:List (Nat×Fq):=[(115,Fzz),(116,dz0),(118,Fzw)]
theorem wzf:azk Tryz.prog tb (Mzr):=(.cons uzF (.cons gzr (.cons Fzx .nil)))
def kz7 (back:List Node2×Int×Int->Option ((Unit)⊕(Int)))(x:List Node2×Int×Int):Option ((Unit)⊕(Int)):=brn (decide (x.2.2<x.2.1)) (obnd (idx x.1 x.2.2) fun y=>obnd (pzH (azf y.e)) fun y=>brn (!decide (y=0)) (some (Sum.inr y)) (back (x.1,x.2.1,i64.wrap (x.2.2+1)))) (some (Sum.inl PUnit.unit))
def nzH:=iter kz7 big
def HzJ:Cq:=⟨68,[(14,.val 227),(15,.val 3),(16,.val 3)],[(.exit 0,[]),(.ret,[(2,.val 44)])],rg 16 11 [2,5,6],nzH,none⟩
theorem BzZ:A3 Tryz.f60 68 HzJ:=A4 wzf .nil kz7
def rzp (x:Expr):Option (Int):=obnd (nzI (azf x)) fun y=>obnd (bzU (y,())) fun y_1=>brn y_1 (some 11) (brn (decide (1024<(↑(List.length y):Int))) (some 4) (obnd (nzH (y,(↑(List.length y):Int),0)) fun y=>osum y (fun y=>some 0) fun y=>some y))
def Mzs:Fq:=⟨[(0,.val 90)],[(0,.val 44)],rzp⟩
theorem DzX:A0 60 Mzs:=A2 Tryz.func60 wzf (.cons BzZ .nil)
def bz1 (x:List UInt8):Option (List (UInt8)):=app 1 [] x
def dzU:Fq:=⟨[(0,.val 178)],[(0,.own 5)],bz1⟩
theorem sz7:∀x,evFn Tryz.prog tb [] [] Tryz.f186 dzU.ins dzU.outs x=dzU.f x:=fun x=>Eq.trans (by kernel_rfl) (rzm 1 x)
theorem ezS:A0 186 dzU:=A1 Tryz.func186 .nil (hJ:=sz7)
abbrev le_putG:List (Nat×Fq):=[(186,dzU)]
theorem Gzb:azk Tryz.prog tb (le_putG):=(.cons ezS .nil)
def pzS (back:List (UInt8)×Int×Int×Int->Option (List (UInt8)))(x:List (UInt8)×Int×Int×Int):Option (List (UInt8)):=brn (decide (x.2.2.2<x.2.2.1)) (brn (decide (i64.wrap (8*x.2.2.2)<0)) none (obnd (app 1 x.1 [UInt8.ofNat (u8.wrap (x.2.1.fdiv (2^min (i64.wrap (8*x.2.2.2)).toNat 64))).toNat]) fun zs=>back (zs,x.2.1,x.2.2.1,i64.wrap (x.2.2.2+1)))) (some x.1)
def xzF:=iter pzS big
def Nzx:Cq:=⟨36,[(0,.own 5),(1,.val 276),(10,.val 3),(11,.val 3)],[(.exit 0,[(0,.own 5)])],rg 11 12 [0,7],xzF,none⟩
theorem Jz4:A3 Tryz.f187 36 Nzx:=A4 Gzb .nil pzS
def tzf (x:List UInt8×Int×Int):Option (List (UInt8)):=obnd (bz1 x.1) fun y=>obnd (xzF (y,x.2.1,x.2.2,0)) fun y=>some y
def le_putS:Fq:=⟨[(0,.val 178),(1,.val 276),(2,.val 3)],[(0,.own 5)],tzf⟩
theorem tzH:A0 187 le_putS:=A2 Tryz.func187 Gzb (.cons Jz4 .nil)
def Aze (x:List UInt8×Int):Option (List (UInt8)):=obnd (tzf (x.1,u64.wrap x.2,8)) fun y=>some y
def le_Put64S:Fq:=⟨[(0,.val 178),(1,.val 2)],[(0,.own 5)],Aze⟩
theorem Izb:A0 234 le_Put64S:=A1 Tryz.func234 (.cons tzH .nil)
def izZ (x:List UInt8):Option (List (UInt8)):=app 1 [] x
def ezq:Fq:=⟨[(0,.val 178)],[(0,.wr 5)],izZ⟩
theorem rzU:∀x,evFn Tryz.prog tb [(1099511627781,mutS),(1099511627783,mutS)] [] Tryz.f186 ezq.ins ezq.outs x=ezq.f x:=fun x=>Eq.trans (by kernel_rfl) (rzm 1 x)
theorem qzq:A0 186 ezq:=A1 Tryz.func186 (.consK hzV (.consK hzV .nil)) (hJ:=rzU)
def nz9 (back:((List UInt8×Nat))->Option (((Unit)×((List UInt8×Nat)))⊕((Bool)×((List UInt8×Nat)))))(x:((List UInt8×Nat))):Option (((Unit)×((List UInt8×Nat)))⊕((Bool)×((List UInt8×Nat)))):=brn (decide (x.2<x.1.length)) (brn (decide (255<(↑(rune x.1 x.2).1:Int))) (some (Sum.inr (false,x.1,x.2+(rune x.1 x.2).2))) (back (x.1,x.2+(rune x.1 x.2).2))) (some (Sum.inl ((),x)))
def rzd:=iter nz9 big
def IzP:Cq:=⟨28,[(6,.iter)],[(.exit 0,[]),(.ret,[(2,.val 4)])],rg 7 5 [2,4],rzd,none⟩
theorem Cz0:A3 Tryz.f227 28 IzP:=A4 .nil .nil nz9
def rzz (x:List UInt8):Option (Bool):=obnd (rzd (x,0)) fun y=>osum y (fun y=>some true) fun y=>some y.1
def DzI:Fq:=⟨[(0,.val 9)],[(0,.val 4)],rzz⟩
theorem EzZ:A0 227 DzI:=A2 Tryz.func227 .nil (.cons Cz0 .nil)
abbrev str_PutG:List (Nat×Fq):=[(186,ezq),(75,oza),(227,DzI),(130,Hzg),(1099511627808,mutS)]
theorem DzJ:azk Tryz.prog tb (str_PutG):=(.cons qzq (.cons izs (.cons EzZ (.cons vzc (.consK hzV .nil)))))
def ozC (back:List (UInt8)×Bool×List Int×Int×Int->Option (List (UInt8)))(x:List (UInt8)×Bool×List Int×Int×Int):Option (List (UInt8)):=brn (decide (x.2.2.2.2<x.2.2.2.1)) (obnd (idx x.2.2.1 x.2.2.2.2) fun y=>obnd (app 1 x.1 [UInt8.ofNat (u8.wrap y).toNat]) fun zs=>brn (!x.2.1) (obnd (app 1 zs [UInt8.ofNat (u8.wrap (Int.fdiv y 256)).toNat]) fun zs=>back (zs,x.2.1,x.2.2.1,x.2.2.2.1,i64.wrap (x.2.2.2.2+1))) (back (zs,x.2.1,x.2.2.1,x.2.2.2.1,i64.wrap (x.2.2.2.2+1)))) (some x.1)
def rzA:=iter ozC big
def MzU:Cq:=⟨92,[(6,.own 5),(9,.val 4),(40,.val 23),(41,.val 3),(42,.val 3)],[(.exit 0,[(6,.own 5)])],rg 42 18 [6,11],rzA,none⟩
theorem IzQ:A3 Tryz.f215 92 MzU:=A4 DzJ .nil ozC
def uzj (x:List UInt8×List UInt8):Option (List (UInt8)×Int):=obnd (izZ x.1) fun y=>obnd (iz3 x.2) fun y_1=>brn (!decide (y_1.2=0)) (some (y,y_1.2)) (obnd (rzz x.2) fun y_2=>obnd (app 1 y [UInt8.ofNat (u8.wrap y_1.1).toNat,UInt8.ofNat (u8.wrap (Int.fdiv y_1.1 256)).toNat,UInt8.ofNat 1]) fun zs=>brn y_2 (obnd (inb zs.length (i64.wrap ((↑zs.length:Int)-1))) fun k=>obnd (nth zs (0+k)) fun y=>obnd (kzH x.2) fun y=>obnd (rzA (zs.set (0+k) (UInt8.ofNat 0),y_2,y,(↑(List.length y):Int),0)) fun y=>some (y,0)) (obnd (kzH x.2) fun y=>obnd (rzA (zs,y_2,y,(↑(List.length y):Int),0)) fun y=>some (y,0)))
def LzX:Fq:=⟨[(0,.val 178),(1,.val 9)],[(0,.own 5),(1,.val 44)],uzj⟩
theorem yzK:A0 215 LzX:=A2 Tryz.func215 DzJ (.cons IzQ .nil)
def ozR (x:List (UInt8)×Val):Option (List (UInt8)):=brn (decide (x.2.Kind=1)) (obnd (app 1 x.1 [UInt8.ofNat 31]) fun zs=>obnd (Aze (zs,x.2.N.M)) fun y=>obnd (app 1 y [UInt8.ofNat (u8.wrap x.2.N.S).toNat]) fun zs=>some zs) (brn (decide (x.2.Kind=2)) (obnd (app 1 x.1 [UInt8.ofNat 23]) fun zs=>obnd (uzj (zs,x.2.S)) fun y=>some y.1) (brn (decide (x.2.Kind=3)) (brn x.2.B (obnd (app 1 x.1 [UInt8.ofNat 29,UInt8.ofNat 1]) fun zs=>some zs) (obnd (app 1 x.1 [UInt8.ofNat 29,UInt8.ofNat 0]) fun zs=>some zs)) (obnd (app 1 x.1 [UInt8.ofNat 28,UInt8.ofNat (u8.wrap x.2.E).toNat]) fun zs=>some zs)))
def Jz6:Fq:=⟨[(0,.own 5),(1,.val 85)],[(0,.own 5)],ozR⟩
theorem Azr:A0 225 Jz6:=A1 Tryz.func225 (.cons Izb (.cons yzK .nil))
def nzi (back:List (UInt8)×List Ref×Int×Int->Option (List (UInt8)))(x:List (UInt8)×List Ref×Int×Int):Option (List (UInt8)):=brn (decide (x.2.2.2<x.2.2.1)) (obnd (idx x.2.1 x.2.2.2) fun y=>brn y.RelRow (brn y.RelCol (obnd (app 1 x.1 [UInt8.ofNat (u8.wrap y.Row).toNat,UInt8.ofNat (u8.wrap (y.Row.fdiv 256)).toNat,UInt8.ofNat (u8.wrap y.Col).toNat,UInt8.ofNat 3]) fun zs=>back (zs,x.2.1,x.2.2.1,i64.wrap (x.2.2.2+1))) (obnd (app 1 x.1 [UInt8.ofNat (u8.wrap y.Row).toNat,UInt8.ofNat (u8.wrap (y.Row.fdiv 256)).toNat,UInt8.ofNat (u8.wrap y.Col).toNat,UInt8.ofNat 1]) fun zs=>back (zs,x.2.1,x.2.2.1,i64.wrap (x.2.2.2+1)))) (brn y.RelCol (obnd (app 1 x.1 [UInt8.ofNat (u8.wrap y.Row).toNat,UInt8.ofNat (u8.wrap (y.Row.fdiv 256)).toNat,UInt8.ofNat (u8.wrap y.Col).toNat,UInt8.ofNat 2]) fun zs=>back (zs,x.2.1,x.2.2.1,i64.wrap (x.2.2.2+1))) (obnd (app 1 x.1 [UInt8.ofNat (u8.wrap y.Row).toNat,UInt8.ofNat (u8.wrap (y.Row.fdiv 256)).toNat,UInt8.ofNat (u8.wrap y.Col).toNat,UInt8.ofNat 0]) fun zs=>back (zs,x.2.1,x.2.2.1,i64.wrap (x.2.2.2+1))))) (some x.1)
def tzM:=iter nzi big
def Lzy:Cq:=⟨28,[(0,.own 5),(8,.val 363),(9,.val 3),(10,.val 3)],[(.exit 0,[(0,.own 5)])],rg 10 27 [0,6,7],tzM,none⟩
theorem Gzo:A3 Tryz.f226 28 Lzy:=A4 .nil .nil nzi
def nzh (x:List (UInt8)×List Ref):Option (List (UInt8)):=obnd (tzM (x.1,x.2,(↑x.2.length:Int),0)) fun y=>some y
def ptg_refsS:Fq:=⟨[(0,.own 5),(1,.val 363)],[(0,.own 5)],nzh⟩
theorem Izh:A0 226 ptg_refsS:=A2 Tryz.func226 .nil (.cons Gzo .nil)
def szW (x:List (UInt8)×Expr):Option (List (UInt8)):=brn (decide (x.2.Kind=1)) (obnd (ozR (x.1,x.2.V)) fun y=>some y) (brn (decide (x.2.Kind=2)) (obnd (app 1 x.1 [UInt8.ofNat 36]) fun zs=>obnd (nzh (zs,[x.2.A.A])) fun y=>some y) (brn (decide (x.2.Kind=3)) (obnd (app 1 x.1 [UInt8.ofNat 37]) fun zs=>obnd (nzh (zs,[x.2.A.A,x.2.A.B])) fun y=>some y) (brn (decide (x.2.Kind=4)) (obnd (app 1 x.1 [UInt8.ofNat 58,UInt8.ofNat (u8.wrap x.2.Sheet).toNat]) fun zs=>obnd (nzh (zs,[x.2.A.A])) fun y=>some y) (brn (decide (x.2.Kind=5)) (obnd (app 1 x.1 [UInt8.ofNat 59,UInt8.ofNat (u8.wrap x.2.Sheet).toNat]) fun zs=>obnd (nzh (zs,[x.2.A.A,x.2.A.B])) fun y=>some y) (brn (decide (x.2.Kind=6)) (obnd (app 1 x.1 [UInt8.ofNat 35,UInt8.ofNat (u8.wrap x.2.Op).toNat,UInt8.ofNat (u8.wrap (x.2.Op.fdiv 256)).toNat]) fun zs=>some zs) (brn (decide (x.2.Kind=7)) (obnd (idx [UInt8.ofNat 19,UInt8.ofNat 18,UInt8.ofNat 20] (i64.wrap (x.2.Op-1))) fun y=>obnd (app 1 x.1 [UInt8.ofNat (↑(UInt8.toNat y):Int).toNat]) fun zs=>some zs) (brn (decide (x.2.Kind=8)) (obnd (app 1 x.1 [UInt8.ofNat (u8.wrap (2+u8.wrap x.2.Op)).toNat]) fun zs=>some zs) (brn (decide (x.2.Kind=9)) (obnd (app 1 x.1 [UInt8.ofNat 34,UInt8.ofNat (u8.wrap (↑x.2.Kids.length:Int)).toNat,UInt8.ofNat (u8.wrap x.2.Op).toNat]) fun zs=>some zs) (obnd (app 1 x.1 [UInt8.ofNat 21]) fun zs=>some zs)))))))))
def Gzp:Fq:=⟨[(0,.own 5),(1,.val 90)],[(0,.own 5)],szW⟩
theorem Gzq:A0 214 Gzp:=A1 Tryz.func214 (.cons Azr (.cons Izh .nil))
def jzw (self:List (UInt8)×Expr->Option (List (UInt8))):FSpec tb:=⟨[(0,.own 5),(1,.val 90)],[(0,.own 5)],self⟩
abbrev Ezk (self:List (UInt8)×Expr->Option (List (UInt8))):List (Nat×Fq):=[(184,(jzw self)),(214,Gzp)]
theorem Dzo (self:List (UInt8)×Expr->Option (List (UInt8)))(hself:azy Tryz.prog tb 184 (jzw self)):azk Tryz.prog tb (Ezk self):=(.cons hself (.cons Gzq .nil))
def mzF (self:List (UInt8)×Expr->Option (List (UInt8)))(back:List (UInt8)×List Expr×Int×Int->Option (List (UInt8)))(x:List (UInt8)×List Expr×Int×Int):Option (List (UInt8)):=brn (decide (x.2.2.2<x.2.2.1)) (obnd (idx x.2.1 x.2.2.2) fun y=>obnd (self (x.1,azf y)) fun y=>back (y,x.2.1,x.2.2.1,i64.wrap (x.2.2.2+1))) (some x.1)
def vzr (self:List (UInt8)×Expr->Option (List (UInt8))):List (UInt8)×List Expr×Int×Int->Option (List (UInt8)):=iter (mzF self) big
def ozt (self:List (UInt8)×Expr->Option (List (UInt8))):CutSpec tb:=⟨28,[(0,.own 5),(8,.val 35),(9,.val 3),(10,.val 3)],[(.exit 0,[(0,.own 5)])],[11,12,13,6,14,15,16,0,17,10],(vzr self),none⟩
theorem Jz7 (self:List (UInt8)×Expr->Option (List (UInt8))):∀back x,gzw Tryz.prog tb (Ezk self) [] (czH 28 Tryz.f184) (ozt self).ins (ozt self).outs back x=mzF self back x:=fun back x=>by kernel_rfl
theorem Lzw (self:List (UInt8)×Expr->Option (List (UInt8))):cutB Tryz.f184.ntmps (ozt self) (czH 28 Tryz.f184)=true:=by kernel_rfl
theorem Izg (self:List (UInt8)×Expr->Option (List (UInt8)))(hself:azy Tryz.prog tb 184 (jzw self)):A3 Tryz.f184 28 (ozt self):=A4 (Dzo self hself) .nil (mzF self) (hb:=(Lzw self)) (hF:=(Jz7 self))
def jzv (self:List (UInt8)×Expr->Option (List (UInt8)))(x:List (UInt8)×Expr):Option (List (UInt8)):=obnd ((vzr self) (x.1,x.2.Kids,(↑x.2.Kids.length:Int),0)) fun y=>obnd (szW (y,azf x.2)) fun y=>some y
theorem NzI (self:List (UInt8)×Expr->Option (List (UInt8))):∀x,evFn Tryz.prog tb (Ezk self) [(ozt self)] Tryz.f184 (jzw (jzv self)).ins (jzw (jzv self)).outs x=(jzw (jzv self)).f x:=fun x=>by kernel_rfl
theorem ptg_put_k (self:List (UInt8)×Expr->Option (List (UInt8))):fnK Tryz.f184 (jzw (jzv self)).ins (jzw (jzv self)).outs=true:=by kernel_rfl
theorem Lzx (self:List (UInt8)×Expr->Option (List (UInt8)))(hself:azy Tryz.prog tb 184 (jzw self)):A0 184 (jzw (jzv self)):=A2 Tryz.func184 (Dzo self hself) (.cons (Izg self hself) .nil) (hk:=(ptg_put_k self)) (hJ:=(NzI self))
def Ezj:=iter jzv big
def ptg_putS:Fq:=jzw Ezj
theorem Jz8:azy Tryz.prog tb 184 ptg_putS:=pzI (gzl Tryz.func184 (by kernel_rfl)) Lzx
def mzE (x:Expr):Option (List (UInt8)×Int):=obnd (rzp (azf x)) fun y=>brn (!decide (y=0)) (some ([],y)) (obnd (Ezj ([],azf x)) fun y=>brn (decide (4096<(↑(List.length y):Int))) (some ([],4)) (some (y,0)))
def Dzn:Fq:=⟨[(0,.val 90)],[(0,.own 5),(1,.val 44)],mzE⟩
theorem oz3:A0 131 Dzn:=A1 Tryz.func131 (.cons DzX (.cons Jz8 .nil))
def fzQ (self:Expr->Option (List (Expr))):FSpec tb:=⟨[(0,.val 90)],[(0,.own 90)],self⟩
abbrev xzq (self:Expr->Option (List (Expr))):List (Nat×Fq):=[(120,zzP),(62,(fzQ self))]
theorem yzp (self:Expr->Option (List (Expr)))(hself:azy Tryz.prog tb 62 (fzQ self)):azk Tryz.prog tb (xzq self):=(.cons ozf (.cons hself .nil))
def jzZ (self:Expr->Option (List (Expr)))(back:List (Expr)×List Expr×Int×Int->Option (List (Expr)))(x:List (Expr)×List Expr×Int×Int):Option (List (Expr)):=brn (decide (x.2.2.2<x.2.2.1)) (obnd (idx x.2.1 x.2.2.2) fun y=>obnd (self (azf y)) fun y=>obnd (app 152 x.1 y) fun zs=>back (zs,x.2.1,x.2.2.1,i64.wrap (x.2.2.2+1))) (some x.1)
def rz2 (self:Expr->Option (List (Expr))):List (Expr)×List Expr×Int×Int->Option (List (Expr)):=iter (jzZ self) big
def mzg (self:Expr->Option (List (Expr))):CutSpec tb:=⟨52,[(3,.own 90),(12,.val 35),(13,.val 3),(14,.val 3)],[(.exit 0,[(3,.own 90)])],[15,16,17,5,18,19,20,21,3,22,14],(rz2 self),none⟩
theorem Fzu (self:Expr->Option (List (Expr))):∀back x,gzw Tryz.prog tb (xzq self) [] (czH 52 Tryz.f62) (mzg self).ins (mzg self).outs back x=jzZ self back x:=fun back x=>by kernel_rfl
theorem HzK (self:Expr->Option (List (Expr))):cutB Tryz.f62.ntmps (mzg self) (czH 52 Tryz.f62)=true:=by kernel_rfl
theorem DzY (self:Expr->Option (List (Expr)))(hself:azy Tryz.prog tb 62 (fzQ self)):A3 Tryz.f62 52 (mzg self):=A4 (yzp self hself) .nil (jzZ self) (hb:=(HzK self)) (hF:=(Fzu self))
def fzP (self:Expr->Option (List (Expr)))(x:Expr):Option (List (Expr)):=obnd (dz3 (x.Kind,2,6)) fun y=>brn y (some [azf x]) (obnd ((rz2 self) ([],x.Kids,(↑x.Kids.length:Int),0)) fun y=>some y)
theorem KzL (self:Expr->Option (List (Expr))):∀x,evFn Tryz.prog tb (xzq self) [(mzg self)] Tryz.f62 (fzQ (fzP self)).ins (fzQ (fzP self)).outs x=(fzQ (fzP self)).f x:=fun x=>by kernel_rfl
theorem Mzt (self:Expr->Option (List (Expr))):fnK Tryz.f62 (fzQ (fzP self)).ins (fzQ (fzP self)).outs=true:=by kernel_rfl
theorem HzL (self:Expr->Option (List (Expr)))(hself:azy Tryz.prog tb 62 (fzQ self)):A0 62 (fzQ (fzP self)):=A2 Tryz.func62 (yzp self hself) (.cons (DzY self hself) .nil) (hk:=(Mzt self)) (hJ:=(KzL self))
def xzp:=iter fzP big
def Mz9:Fq:=fzQ xzp
theorem Fzv:azy Tryz.prog tb 62 Mz9:=pzI (gzl Tryz.func62 (by kernel_rfl)) HzL
def ozg (x:Expr):Option (Bool):=some (decide (x.Kind=6))
def szn:Fq:=⟨[(0,.val 90)],[(0,.val 4)],ozg⟩
theorem vzj:A0 132 szn:=A1 Tryz.func132 .nil
abbrev hz6:List (Nat×Fq):=[(132,szn)]
theorem dzC:azk Tryz.prog tb (hz6):=(.cons vzj .nil)
def az6 (back:List Expr×Unit×Int×Int->Option ((Unit)⊕(Int)))(x:List Expr×Unit×Int×Int):Option ((Unit)⊕(Int)):=brn (decide (x.2.2.2<x.2.2.1)) (obnd (idx x.1 x.2.2.2) fun y=>obnd (ozg (azf y)) fun y=>brn y (some (Sum.inr x.2.2.2)) (back (x.1,(),x.2.2.1,i64.wrap (x.2.2.2+1)))) (some (Sum.inl PUnit.unit))
def czm:=iter az6 big
def gzC:Cq:=⟨28,[(0,.val 35),(1,.fnp 132 0),(7,.val 3),(8,.val 3)],[(.exit 0,[]),(.ret,[(4,.val 3)])],rg 8 11 [4,5],czm,none⟩
theorem fz7:A3 Tryz.f119 28 gzC:=A4 dzC .nil az6
def czC (x:List Expr×Unit):Option (Int):=obnd (czm (x.1,(),(↑x.1.length:Int),0)) fun y=>osum y (fun y=>some (-1)) fun y=>some y
def hz7:Fq:=⟨[(0,.val 35),(1,.fnp 132 0)],[(0,.val 3)],czC⟩
theorem gzf:A0 119 hz7:=A2 Tryz.func119 dzC (.cons fz7 .nil)
def bzF (x:List Expr×Unit):Option (Bool):=obnd (czC (x.1,())) fun y=>some (decide (0<=y))
def gzB:Fq:=⟨[(0,.val 35),(1,.fnp 132 0)],[(0,.val 4)],bzF⟩
theorem fzD:A0 61 gzB:=A1 Tryz.func61 (.cons gzf .nil)
def mzW (x:Expr):Option (Int):=obnd (mzE (azf x)) fun y=>brn (!decide (y.2=0)) (some y.2) (obnd (xzp (azf x)) fun y=>obnd (bzF (y,())) fun y=>brn y (some 3) (some 0))
def uzH:Fq:=⟨[(0,.val 90)],[(0,.val 44)],mzW⟩
theorem xzu:A0 76 uzH:=A1 Tryz.func76 (.cons oz3 (.cons Fzv (.cons fzD .nil)))
abbrev NzT:List (Nat×Fq):=[(75,oza)]
theorem szj:azk Tryz.prog tb (NzT):=(.cons izs .nil)
def mzz (back:List (List UInt8)×Int×Int->Option ((Unit)⊕(Int)))(x:List (List UInt8)×Int×Int):Option ((Unit)⊕(Int)):=brn (decide (x.2.2<x.2.1)) (obnd (idx x.1 x.2.2) fun y=>obnd (iz3 y) fun y=>brn (!decide (y.2=0)) (some (Sum.inr y.2)) (back (x.1,x.2.1,i64.wrap (x.2.2+1)))) (some (Sum.inl PUnit.unit))
def szk:=iter mzz big
def Kzh:Cq:=⟨52,[(16,.val 22),(17,.val 3),(18,.val 3)],[(.exit 0,[]),(.ret,[(2,.val 44)])],rg 18 13 (rg 5 3 [2]),szk,none⟩
theorem EzU:A3 Tryz.f133 52 Kzh:=A4 szj .nil mzz
def mzA (back:(List (List UInt8×Bool))×List (List UInt8)×Int×Int->Option (((Unit)×(List (List UInt8×Bool)))⊕((Int)×(List (List UInt8×Bool)))))(x:(List (List UInt8×Bool))×List (List UInt8)×Int×Int):Option (((Unit)×(List (List UInt8×Bool)))⊕((Int)×(List (List UInt8×Bool)))):=brn (decide (x.2.2.2<x.2.2.1)) (obnd (idx x.2.1 x.2.2.2) fun y=>brn (ezU keq9 false y x.1) (some (Sum.inr (7,x.1))) (back (kzP keq9 y true x.1,x.2.1,x.2.2.1,i64.wrap (x.2.2.2+1)))) (some (Sum.inl ((),x.1)))
def szl:=iter mzA big
def Kzi:Cq:=⟨108,[(3,.mp 9 4),(32,.val 22),(33,.val 3),(34,.val 3)],[(.exit 2,[]),(.ret,[(2,.val 44)])],rg 34 10 [2,9],szl,none⟩
theorem EzV:A3 Tryz.f133 108 Kzi:=A4 szj .nil mzA
def tza (x:Table):Option (Int):=brn (decide (1024<(↑x.Texts.length:Int))) (some 4) (obnd (szk (x.Texts,(↑x.Texts.length:Int),0)) fun y=>osum y (fun y=>obnd (szl ([],x.Texts,(↑x.Texts.length:Int),0)) fun y=>osum y (fun y=>brn (decide (x.Uses<(↑x.Texts.length:Int))) (some 1) (brn (decide (2147483647<x.Uses)) (some 1) (some 0))) fun y=>some y.1) fun y=>some y)
def Hzd:Fq:=⟨[(0,.val 36)],[(0,.val 44)],tza⟩
theorem Hze:A0 133 Hzd:=A2 Tryz.func133 szj (.cons EzU (.cons EzV .nil))
def lzO (x:List UInt8×Int):Option (List (UInt8)×Int):=brn (decide (x.2<0)) (obnd (bz1 x.1) fun y=>some (y,1)) (brn (decide (4294967295<x.2)) (obnd (bz1 x.1) fun y=>some (y,1)) (obnd (tzf (x.1,u64.wrap x.2,4)) fun y=>some (y,0)))
def Azd:Fq:=⟨[(0,.val 178),(1,.val 2)],[(0,.own 5),(1,.val 44)],lzO⟩
theorem wzl:A0 136 Azd:=A1 Tryz.func136 (.cons ezS (.cons tzH .nil))
def kzF (x:List (UInt8)×List (Int)×Maker×Int):Option ((List (UInt8)×List (Int)×Bool)×Maker):=brn (decide (i64.wrap (i64.wrap ((↑x.1.length:Int)-x.2.2.1.part)+x.2.2.2)<=224)) (some ((x.1,x.2.1,false),Maker.mk x.1 x.2.1 x.2.2.1.part)) (obnd (app 8 x.2.1 [(↑x.1.length:Int)]) fun zs=>some ((x.1,zs,true),Maker.mk x.1 zs (↑x.1.length:Int)))
def uz9:Fq:=⟨[(4294967296,.own 5),(8589934592,.own 3),(0,.ref 249),(1,.val 3)],[(4295000064,.own 5),(8589967360,.own 3),(0,.val 4)],kzF⟩
theorem yzb:A0 216 uz9:=A1 Tryz.func216 .nil
def jzX (x:List UInt8×Int):Option ((Int×List UInt8)):=brn (decide (x.2<1)) none (some (x.2,x.1))
def oze:Fq:=⟨[(0,.val 178),(1,.val 3)],[(0,.val 347)],jzX⟩
theorem rza:A0 217 oze:=A1 Tryz.func217 .nil
abbrev vza:List (Nat×Fq):=[(215,LzX),(216,uz9),(217,oze)]
theorem rzY:azk Tryz.prog tb (vza):=(.cons yzK (.cons yzb (.cons rza .nil)))
def fzz (y:List UInt8)(x:List (UInt8)×List (Int)×Maker×List UInt8×Int×(Int×List UInt8)):Option (List (UInt8)×List (Int)×Maker×List UInt8×Int×(Int×List UInt8)):=obnd (kzF (x.1,x.2.1,Maker.mk x.1 x.2.1 x.2.2.1.part,x.2.2.2.2.1)) fun y_1=>brn y_1.1.2.2 (obnd (idx x.2.2.2.1 2) fun y_2=>obnd (app 1 y_1.1.1 [UInt8.ofNat (↑(UInt8.toNat y_2):Int).toNat]) fun zs=>obnd (app 1 zs y) fun zs=>some (zs,y_1.1.2.1,Maker.mk zs y_1.1.2.1 y_1.2.part,x.2.2.2.1,x.2.2.2.2)) (obnd (app 1 y_1.1.1 y) fun zs=>some (zs,y_1.1.2.1,Maker.mk zs y_1.1.2.1 y_1.2.part,x.2.2.2.1,x.2.2.2.2))
def nzz (x:List (UInt8)×List (Int)×Maker×List UInt8×Int×(Int×List UInt8)):Option ((List (UInt8)×List (Int))×Maker):=some ((x.1,x.2.1),Maker.mk x.1 x.2.1 x.2.2.1.part)
def kzG (x:List (UInt8)×List (Int)×Maker×List UInt8×Int×(Int×List UInt8)):List (List UInt8):=(Fzp x.2.2.2.2.2.1.toNat x.2.2.2.2.2.2)
def nzy (x:List (UInt8)×List (Int)×Maker×List UInt8×Int×(Int×List UInt8)):Option ((List (UInt8)×List (Int))×Maker):=bif vz7 x.2.2.2.2.2.1 x.2.2.2.2.2.2 then obnd (jzx fzz (kzG x) x) nzz else none
def fzy:Cq:=⟨70,[(4294967296,.own 5),(8589934592,.own 3),(0,.ref 249),(5,.ro 178),(8,.ro 3),(40,.val 347)],[(.normal,[(4294967296,.own 5),(8589934592,.own 3)])],rg 42 24 [9],nzy,some (2,0)⟩
theorem zzm:Azs Tryz.f185.ntmps fzy [(41,.val 178)] #[41] (Bzp (czT 70 Tryz.f185)) (Bzq (czT 70 Tryz.f185))=true:=by kernel_rfl
theorem yzc:∀y x,wzd Tryz.prog tb vza (Bzp (czT 70 Tryz.f185)) (Bzq (czT 70 Tryz.f185)) [(41,.val 178)] fzy.ins fzy.al y x=fzz y x:=fun y x=>by kernel_rfl
theorem vzO (k:Int)(xs:List (UInt8))(i:Int)(ys:List (List UInt8)):ozQ Tryz.prog tb (szO [.sl 5 xs,.int .i64 k] [] []) [(41,.val 178)] (lbOf Tryz.f228) 4 0 i ys=brn (decide (i<(xs.length:Int))) (obnd (sub xs i xs.length) fun z=>obnd (sub3 xs i (i64.wrap (i+bif decide ((z.length:Int)<k)then(z.length:Int)else k)) (i64.wrap (i+bif decide ((z.length:Int)<k)then(z.length:Int)else k))) fun z=>some (.inl (i64.wrap (i+k),ys++[z]))) (some (.inr ys)):=by kernel_rfl
theorem wz1:∀(x:List (UInt8)×List (Int)×Maker×List UInt8×Int×(Int×List UInt8)) y,fzy.J x=some y->∃c,(lzT Tryz.prog tb fzy.ins x).env 40=some (.c (.d c))/\∀g w v,tb.inv g w->RepD Tryz.prog tb g w c v->rzD Tryz.prog tb g w [(41,.val 178)] (kzG x) v:=fun x y hy=>⟨.itf 228 (some x.2.2.2.2.2.1) 5 x.2.2.2.2.2.2,by kernel_rfl,fun g w v hi hv=>iter_itf2 mixed hv (r0:=r0Of Tryz.f228) (b:=lbOf Tryz.f228) Tryz.func228 (by kernel_rfl) (by kernel_rfl) (by kernel_rfl) hi (by kernel_rfl) (by kernel_rfl) [] (by kernel_rfl) (by kernel_rfl) (i0:=0) (cs:=[]) (by kernel_rfl) (MzZ (Kzr hy).1 fun i ys=>vzO _ _ i ys)⟩
theorem wz0:cz6 Tryz.prog tb Tryz.f185.ntmps (czT 70 Tryz.f185) fzy:=Ezl (p:=[(41,.val 178)]) mixed zzm rzY rfl kzG wz1 fzz yzc nzz (fun x=>by kernel_rfl) (fun _ _ h=>(Kzr h).2)
def mz6 (x:List (UInt8)×List (Int)×Maker×List UInt8):Option ((List (UInt8)×List (Int)×Int)×Maker):=obnd (uzj ([],x.2.2.2)) fun y=>obnd (kzF (x.1,x.2.1,Maker.mk x.1 x.2.1 x.2.2.1.part,3)) fun y_1=>obnd (sub y.1 0 3) fun z=>obnd (app 1 y_1.1.1 z) fun zs=>obnd (idx y.1 2) fun y_2=>obnd (sub y.1 3 (↑(List.length y.1):Int)) fun z=>obnd (jzX (z,i64.wrap (1+i64.wrap (↑(UInt8.toNat y_2):Int)))) fun y_3=>obnd (nzy (zs,y_1.1.2.1,Maker.mk zs y_1.1.2.1 y_1.2.part,y.1,i64.wrap (1+i64.wrap (↑(UInt8.toNat y_2):Int)),y_3)) fun y=>some ((y.1.1,y.1.2,(↑(List.length y_1.1.1):Int)),Maker.mk y.1.1 y.1.2 y.2.part)
def vzb:Fq:=⟨[(4294967296,.own 5),(8589934592,.own 3),(0,.ref 249),(1,.val 9)],[(4295000064,.own 5),(8589967360,.own 3),(0,.val 3)],mz6⟩
theorem yzd:A0 185 vzb:=A2 Tryz.func185 rzY (.cons wz0 .nil)
abbrev sst_madeG:List (Nat×Fq):=[(136,Azd),(185,vzb)]
theorem Bzf:azk Tryz.prog tb (sst_madeG):=(.cons wzl (.cons yzd .nil))
def nzx (back:List (UInt8)×List (Int)×Maker×List (Int)×List (List UInt8)×Int×Int->Option ((List (UInt8)×List (Int)×List (Int))×Maker))(x:List (UInt8)×List (Int)×Maker×List (Int)×List (List UInt8)×Int×Int):Option ((List (UInt8)×List (Int)×List (Int))×Maker):=brn (decide (x.2.2.2.2.2.2<x.2.2.2.2.2.1)) (obnd (idx x.2.2.2.2.1 x.2.2.2.2.2.2) fun y=>obnd (mz6 (x.1,x.2.1,Maker.mk x.1 x.2.1 x.2.2.1.part,y)) fun y=>obnd (app 8 x.2.2.2.1 [y.1.2.2]) fun zs=>back (y.1.1,y.1.2.1,Maker.mk y.1.1 y.1.2.1 y.2.part,zs,x.2.2.2.2.1,x.2.2.2.2.2.1,i64.wrap (x.2.2.2.2.2.2+1))) (some ((x.1,x.2.1,x.2.2.2.1),Maker.mk x.1 x.2.1 x.2.2.1.part))
def uzi:=iter nzx big
def LzW:Cq:=⟨60,[(4294967300,.own 5),(8589934596,.own 3),(4,.ref 249),(5,.own 3),(26,.val 22),(27,.val 3),(28,.val 3)],[(.exit 0,[(4294967300,.own 5),(8589934596,.own 3),(5,.own 3)])],rg 28 10 [5,7],uzi,none⟩
theorem Hzf:A3 Tryz.f134 60 LzW:=A4 Bzf .nil nzx
def uz8 (x:Table):Option (Maker×List (Int)):=obnd (lzO ([],x.Uses)) fun y=>obnd (lzO (y.1,(↑x.Texts.length:Int))) fun y=>obnd (uzi (y.1,[],Maker.mk y.1 [] 0,[],x.Texts,(↑x.Texts.length:Int),0)) fun y=>some (Maker.mk y.1.1 y.1.2.1 y.2.part,y.1.2.2)
def JzC:Fq:=⟨[(0,.val 36)],[(0,.val 249),(1,.own 3)],uz8⟩
theorem IzO:A0 134 JzC:=A2 Tryz.func134 Bzf (.cons Hzf .nil)
def pz1 (x:Unit):Option (Int):=some 4
def Gzv:Cq:=⟨185,[],[(.ret,[(2,.val 44)])],[2],pz1,none⟩
theorem Cze:czh ([]:List (CutSpec tb)) (ozv (czr 21 Tryz.f135) 0)=[]:=by kernel_rfl
theorem Azu:dze Tryz.prog tb Tryz.f135.ntmps (czr 21 Tryz.f135) 0 Gzv:=nzb mixed (by kernel_rfl) (by kernel_rfl) .nil rfl Cze .nil .nil (fun x=>by kernel_rfl)
def mzq (back:Rec×Int×List Int×Int×Int->Option ((Unit)⊕(Int)))(x:Rec×Int×List Int×Int×Int):Option ((Unit)⊕(Int)):=brn (decide (x.2.2.2.2<x.2.2.2.1)) (obnd (idx x.2.2.1 x.2.2.2.2) fun y=>brn (decide (y<=x.2.1)) (some (Sum.inr 6)) (brn (decide ((↑x.1.Data.length:Int)<=y)) (some (Sum.inr 6)) (back (x.1,y,x.2.2.1,x.2.2.2.1,i64.wrap (x.2.2.2.2+1))))) (some (Sum.inl PUnit.unit))
def rz9:=iter mzq big
def yzx:Cq:=⟨68,[(1,.ro 180),(3,.val 3),(26,.val 23),(27,.val 3),(28,.val 3)],[(.exit 0,[]),(.ret,[(2,.val 44)])],rg 28 16 [2,3,5],rz9,none⟩
theorem Ezn:A3 Tryz.f135 68 yzx:=A4 .nil .nil mzq
def mzr (back:Int×List Int×Int×Int->Option ((Int)⊕(Unit)))(x:Int×List Int×Int×Int):Option ((Int)⊕(Unit)):=brn (decide (x.2.2.2<x.2.2.1)) (obnd (idx x.2.1 x.2.2.2) fun y=>brn (decide (224<i64.wrap (y-x.1))) (some (Sum.inr PUnit.unit)) (back (y,x.2.1,x.2.2.1,i64.wrap (x.2.2.2+1)))) (some (Sum.inl x.1))
def sza:=iter mzr big
def yzy:Cq:=⟨132,[(3,.val 3),(45,.val 23),(46,.val 3),(47,.val 3)],[(.exit 2,[(3,.val 3)]),((.goto 0),[])],rg 47 10 [3,7],sza,none⟩
theorem Ezo:A3 Tryz.f135 132 yzy:=A4 .nil .nil mzr
def szb (x:Rec):Option ((Unit)⊕(Int)):=brn (decide (x.Type_<0)) (some (Sum.inr 1)) (brn (decide (65535<x.Type_)) (some (Sum.inr 1)) (brn (decide (x.Type_=60)) (some (Sum.inr 1)) (brn (decide (65536<(↑x.Data.length:Int))) (some (Sum.inr 4)) (obnd (rz9 (x,0,x.Cuts,(↑x.Cuts.length:Int),0)) fun y=>osum y (fun y=>obnd (sza (0,x.Cuts,(↑x.Cuts.length:Int),0)) fun y=>osum y (fun y=>brn (decide (i64.wrap ((↑x.Data.length:Int)-y)<=224)) (some (Sum.inr 0)) (some (Sum.inr 4))) fun y=>obnd (pz1 ()) fun y=>some (Sum.inr y)) fun y=>some (Sum.inr y)))))
def Jz9:Cq:=⟨21,[(1,.ro 180)],[(.normal,[]),(.ret,[(2,.val 44)])],rg 7 56 [2,3,5],szb,none⟩
theorem Gzw:czh ([yzx,yzy]:List (CutSpec tb)) (czr 21 Tryz.f135)=[(68,.loop (czH 68 Tryz.f135)),(132,.loop (czH 132 Tryz.f135))]:=by kernel_rfl
theorem Ezp:cz6 Tryz.prog tb Tryz.f135.ntmps (.scope (czr 21 Tryz.f135)) Jz9:=qz4 mixed (by kernel_rfl) .nil rfl Gzw (.cons rfl Ezn rfl (.cons rfl Ezo rfl .nil)) (.cons Azu rfl .nil) (fun x=>by kernel_rfl)
def szX (x:Rec):Option (Int):=obnd (szb x) fun y=>osum y (fun y=>none) fun y=>some y
def Gzu:Fq:=⟨[(0,.val 180)],[(0,.val 44)],szX⟩
theorem Gzx:A0 135 Gzu:=A2 Tryz.func135 .nil (.cons Ezp .nil)
abbrev rec_CutG:List (Nat×Fq):=[(186,dzU)]
theorem Dzs:azk Tryz.prog tb (rec_CutG):=(.cons ezS .nil)
def rzs (back:List (Int)×Rec×Rec×Int->Option ((List (Int))×Rec))(x:List (Int)×Rec×Rec×Int):Option ((List (Int))×Rec):=brn (decide (x.2.2.2<(↑x.2.1.Data.length:Int))) (obnd (app 8 x.1 [x.2.2.2]) fun zs=>back (zs,x.2.1,Rec.mk x.2.2.1.Type_ x.2.2.1.Data zs x.2.2.1.At,i64.wrap (x.2.2.2+224))) (some (x.1,Rec.mk x.2.2.1.Type_ x.2.2.1.Data x.1 x.2.2.1.At))
def vzs:=iter rzs big
def MzI:Cq:=⟨36,[(12884901891,.own 3),(1,.ro 180),(3,.ref 180),(4,.val 3)],[(.exit 0,[(12884901891,.own 3)])],rg 13 13 [4],vzs,none⟩
theorem Izi:A3 Tryz.f137 36 MzI:=A4 Dzs .nil rzs
def tzP (x:Rec):Option (Rec):=obnd (bz1 x.Data) fun y=>obnd (vzs ([],x,Rec.mk x.Type_ y [] x.At,224)) fun y=>some (Rec.mk y.2.Type_ y.2.Data y.1 y.2.At)
def Ezq:Fq:=⟨[(0,.val 180)],[(0,.val 180)],tzP⟩
theorem yzz:A0 137 Ezq:=A2 Tryz.func137 Dzs (.cons Izi .nil)
abbrev MzR:List (Nat×Fq):=[(133,Hzd),(134,JzC),(135,Gzu),(136,Azd),(137,Ezq)]
theorem nz8:azk Tryz.prog tb (MzR):=(.cons Hze (.cons IzO (.cons Gzx (.cons wzl (.cons yzz .nil)))))
def mzb (x:Rec×Rec×Int):Option ((Int)×(Rec×Rec)):=some (x.2.2,Rec.mk 0 [] [] 0,Rec.mk 0 [] [] 0)
def EzW:Cq:=⟨145,[(2,.ref 180),(3,.ref 180),(4,.val 44)],[(.ret,[(4,.val 44)])],rg 51 3 [4],mzb,none⟩
theorem Bze:czh ([]:List (CutSpec tb)) (ozv (czr 21 Tryz.f77) 0)=[]:=by kernel_rfl
theorem zzl:dze Tryz.prog tb Tryz.f77.ntmps (czr 21 Tryz.f77) 0 EzW:=nzb mixed (by kernel_rfl) (by kernel_rfl) nz8 rfl Bze .nil .nil (fun x=>by kernel_rfl)
def lzJ (back:Rec×List Int×Int×Int->Option ((Unit)×Rec))(x:Rec×List Int×Int×Int):Option ((Unit)×Rec):=brn (decide (x.2.2.2<x.2.2.1)) (obnd (idx x.2.1 x.2.2.2) fun y=>brn (decide (x.2.2.2.tmod 8=0)) (obnd (lzO (x.1.Data,y)) fun y=>back (Rec.mk x.1.Type_ y.1 x.1.Cuts x.1.At,x.2.1,x.2.2.1,i64.wrap (x.2.2.2+1))) (back (x.1,x.2.1,x.2.2.1,i64.wrap (x.2.2.2+1)))) (some ((),x.1))
def rzb:=iter lzJ big
def wzZ:Cq:=⟨100,[(3,.ref 180),(29,.val 23),(30,.val 3),(31,.val 3)],[(.exit 0,[])],rg 31 17 [7,8],rzb,none⟩
theorem CzY:A3 Tryz.f77 100 wzZ:=A4 nz8 .nil lzJ
def rzc (x:Table×Rec×Rec):Option (((Unit)×(Rec×Rec))⊕((Int)×(Rec×Rec))):=obnd (tza x.1) fun y=>brn (!decide (y=0)) (obnd (mzb (x.2.1,x.2.2,y)) fun y=>some (Sum.inr (y.1,y.2))) (obnd (uz8 x.1) fun y=>obnd (szX (Rec.mk 252 y.1.b y.1.cuts 0)) fun y_1=>brn (!decide (y_1=0)) (obnd (mzb (Rec.mk 252 y.1.b y.1.cuts 0,x.2.2,y_1)) fun y=>some (Sum.inr (y.1,y.2))) (obnd (rzb (Rec.mk 255 [UInt8.ofNat 8,UInt8.ofNat 0] [] 0,y.2,(↑(List.length y.2):Int),0)) fun y_2=>obnd (tzP y_2.2) fun y_3=>some (Sum.inr (0,Rec.mk 252 y.1.b y.1.cuts 0,y_3))))
def IzN:Cq:=⟨21,[(1,.ro 36),(2,.ref 180),(3,.ref 180)],[(.normal,[]),(.ret,[(4,.val 44)])],rg 4 50 [],rzc,none⟩
theorem EzX:czh ([wzZ]:List (CutSpec tb)) (czr 21 Tryz.f77)=[(100,.loop (czH 100 Tryz.f77))]:=by kernel_rfl
theorem CzZ:cz6 Tryz.prog tb Tryz.f77.ntmps (.scope (czr 21 Tryz.f77)) IzN:=qz4 mixed (by kernel_rfl) nz8 rfl EzX (.cons rfl CzY rfl .nil) (.cons zzl rfl .nil) (fun x=>by kernel_rfl)
def ozB (x:Table):Option (Rec×Rec×Int):=obnd (rzc (x,Rec.mk 0 [] [] 0,Rec.mk 0 [] [] 0)) fun y=>osum y (fun y=>none) fun y=>some (y.2.1,y.2.2,y.1)
def DzH:Fq:=⟨[(0,.val 36)],[(0,.val 180),(1,.val 180),(2,.val 44)],ozB⟩
theorem EzY:A0 77 DzH:=A2 Tryz.func77 nz8 (.cons CzZ .nil)
def Azc (x:List UInt8×Int):Option (List (UInt8)×Int):=brn (decide (x.2<0)) (obnd (bz1 x.1) fun y=>some (y,1)) (brn (decide (65535<x.2)) (obnd (bz1 x.1) fun y=>some (y,1)) (obnd (tzf (x.1,u64.wrap x.2,2)) fun y=>some (y,0)))
def Jzn:Fq:=⟨[(0,.val 178),(1,.val 3)],[(0,.own 5),(1,.val 44)],Azc⟩
theorem Iza:A0 138 Jzn:=A1 Tryz.func138 (.cons ezS (.cons tzH .nil))
abbrev JzK:List (Nat×Fq):=[(138,Jzn),(111,AzW),(137,Ezq)]
theorem tzo:azk Tryz.prog tb (JzK):=(.cons Iza (.cons nzY (.cons yzz .nil)))
def jzp (back:Rec×List (UInt8)×List Place×Int×Int->Option (((List (UInt8))×Rec)⊕((Int)×Rec)))(x:Rec×List (UInt8)×List Place×Int×Int):Option (((List (UInt8))×Rec)⊕((Int)×Rec)):=brn (decide (x.2.2.2.2<x.2.2.2.1)) (obnd (idx x.2.2.1 x.2.2.2.2) fun y=>brn (decide (y.Sheet<0)) (some (Sum.inr (12,Rec.mk 0 [] [] 0))) (brn (decide (8<=y.Sheet)) (some (Sum.inr (12,Rec.mk 0 [] [] 0))) (obnd (lzP y.At) fun y_1=>brn (!y_1) (some (Sum.inr (12,Rec.mk 0 [] [] 0))) (obnd (app 1 x.2.1 [UInt8.ofNat (u8.wrap y.Sheet).toNat,UInt8.ofNat (u8.wrap y.At.Row).toNat,UInt8.ofNat (u8.wrap (y.At.Row.fdiv 256)).toNat,UInt8.ofNat (u8.wrap y.At.Col).toNat]) fun zs=>back (x.1,zs,x.2.2.1,x.2.2.2.1,i64.wrap (x.2.2.2.2+1)))))) (some (Sum.inl (x.2.1,x.1)))
def oz0:=iter jzp big
def DzT:Cq:=⟨52,[(2,.ref 180),(4,.own 5),(18,.val 37),(19,.val 3),(20,.val 3)],[(.exit 0,[(4,.own 5)]),(.ret,[(3,.val 44)])],rg 20 39 [3,4,7],oz0,none⟩
theorem yzN:A3 Tryz.f78 52 DzT:=A4 tzo .nil jzp
def mzf (x:List Place):Option (Rec×Int):=brn (decide (4096<(↑x.length:Int))) (some (Rec.mk 0 [] [] 0,4)) (obnd (Azc ([],(↑x.length:Int))) fun y=>obnd (oz0 (Rec.mk 0 [] [] 0,y.1,x,(↑x.length:Int),0)) fun y=>osum y (fun y=>obnd (tzP (Rec.mk 6247 y.1 [] 0)) fun y=>some (y,0)) fun y=>some (y.2,y.1))
def yzl:Fq:=⟨[(0,.val 37)],[(0,.val 180),(1,.val 44)],mzf⟩
theorem zzC:A0 78 yzl:=A2 Tryz.func78 tzo (.cons yzN .nil)
abbrev Mzx:List (Nat×Fq):=[(74,szo),(75,oza),(76,uzH),(77,DzH),(78,yzl)]
theorem kz8:azk Tryz.prog tb (Mzx):=(.cons vzk (.cons izs (.cons xzu (.cons EzY (.cons zzC .nil)))))
def gzV (x:Globals):Option (Bool):=brn (decide ((↑x.Sheets.length:Int)<1)) (some true) (brn (decide (8<(↑x.Sheets.length:Int))) (some true) (brn (decide (64<(↑x.Formats.length:Int))) (some true) (brn (decide (256<(↑x.XFs.length:Int))) (some true) (some (decide (1024<(↑x.Names.length:Int)))))))
def HzQ:Cq:=⟨16,[(1,.ro 39)],[(.normal,[(45,.val 4)])],rg 18 28 [],(gzV),none⟩
theorem Bz4:A5 Tryz.f34 16 HzQ:=A6 kz8 .nil
def kz9 (back:List (List UInt8)×Int×Int->Option ((Unit)⊕(Int)))(x:List (List UInt8)×Int×Int):Option ((Unit)⊕(Int)):=brn (decide (x.2.2<x.2.1)) (obnd (idx x.1 x.2.2) fun y=>obnd (iz3 y) fun y=>brn (!decide (y.2=0)) (some (Sum.inr y.2)) (back (x.1,x.2.1,i64.wrap (x.2.2+1)))) (some (Sum.inl PUnit.unit))
def qzM:=iter kz9 big
def HzR:Cq:=⟨68,[(53,.val 22),(54,.val 3),(55,.val 3)],[(.exit 0,[]),(.ret,[(2,.val 44)])],rg 55 13 (rg 5 3 [2]),qzM,none⟩
theorem Bz5:A3 Tryz.f34 68 HzR:=A4 kz8 .nil kz9
def lza (back:Globals×List Int×Int×Int->Option ((Unit)⊕(Int)))(x:Globals×List Int×Int×Int):Option ((Unit)⊕(Int)):=brn (decide (x.2.2.2<x.2.2.1)) (obnd (idx x.2.1 x.2.2.2) fun y=>brn (decide (y<0)) (some (Sum.inr 1)) (brn (decide ((bif decide ((↑x.1.Formats.length:Int)<1)then 1 else(↑x.1.Formats.length:Int))<=y)) (some (Sum.inr 1)) (back (x.1,x.2.1,x.2.2.1,i64.wrap (x.2.2.2+1))))) (some (Sum.inl PUnit.unit))
def qzN:=iter lza big
def HzS:Cq:=⟨124,[(1,.ro 39),(69,.val 23),(70,.val 3),(71,.val 3)],[(.exit 2,[]),(.ret,[(2,.val 44)])],rg 71 15 [2,9],qzN,none⟩
theorem Bz6:A3 Tryz.f34 124 HzS:=A4 kz8 .nil lza
def lzb (back:List Expr×Int×Int->Option ((Unit)⊕(Int)))(x:List Expr×Int×Int):Option ((Unit)⊕(Int)):=brn (decide (x.2.2<x.2.1)) (obnd (idx x.1 x.2.2) fun y=>obnd (mzW (azf y)) fun y=>brn (!decide (y=0)) (some (Sum.inr y)) (back (x.1,x.2.1,i64.wrap (x.2.2+1)))) (some (Sum.inl PUnit.unit))
def qzO:=iter lzb big
def HzT:Cq:=⟨172,[(87,.val 35),(88,.val 3),(89,.val 3)],[(.exit 4,[]),(.ret,[(2,.val 44)])],rg 89 10 [2,11,12],qzO,none⟩
theorem Bz7:A3 Tryz.f34 172 HzT:=A4 kz8 .nil lzb
def fza (x:Globals):Option (Int):=obnd (gzV x) fun y=>brn y (some 4) (obnd (kzM x.Sheets) fun y=>brn (!decide (y=0)) (some y) (obnd (qzM (x.Formats,(↑x.Formats.length:Int),0)) fun y=>osum y (fun y=>obnd (qzN (x,x.XFs,(↑x.XFs.length:Int),0)) fun y=>osum y (fun y=>obnd (qzO (x.Names,(↑x.Names.length:Int),0)) fun y=>osum y (fun y=>brn (decide ((↑x.Texts.Texts.length:Int)=0)) (brn (!decide (x.Texts.Uses=0)) (some 1) (obnd (ozB x.Texts) fun y=>brn (!decide (y.2.2=0)) (some y.2.2) (obnd (mzf x.Chain) fun y=>some y.2))) (obnd (ozB x.Texts) fun y=>brn (!decide (y.2.2=0)) (some y.2.2) (obnd (mzf x.Chain) fun y=>some y.2))) fun y=>some y) fun y=>some y) fun y=>some y))
def Dzg:Fq:=⟨[(0,.val 39)],[(0,.val 44)],fza⟩
theorem Dz3:A0 34 Dzg:=A2 Tryz.func34 kz8 (.cons Bz4 (.cons Bz5 (.cons Bz6 (.cons Bz7 .nil))))
def gzA (back:List Row×List Row×Int×Int->Option ((Unit)⊕(Int)))(x:List Row×List Row×Int×Int):Option ((Unit)⊕(Int)):=brn (decide (x.2.2.2<x.2.2.1)) (obnd (idx x.2.1 x.2.2.2) fun y=>brn (decide (y.Row<0)) (some (Sum.inr 12)) (brn (decide (65536<=y.Row)) (some (Sum.inr 12)) (brn (decide (y.Height<0)) (some (Sum.inr 1)) (brn (decide (32767<y.Height)) (some (Sum.inr 1)) (brn (decide (0<x.2.2.2)) (obnd (idx x.1 (i64.wrap (x.2.2.2-1))) fun y_1=>brn (decide (y.Row<=y_1.Row)) (some (Sum.inr 6)) (back (x.1,x.2.1,x.2.2.1,i64.wrap (x.2.2.2+1)))) (back (x.1,x.2.1,x.2.2.1,i64.wrap (x.2.2.2+1)))))))) (some (Sum.inl PUnit.unit))
def mzP:=iter gzA big
def zzj:Cq:=⟨44,[(0,.val 97),(8,.val 97),(9,.val 3),(10,.val 3)],[(.exit 0,[]),(.ret,[(2,.val 44)])],rg 10 38 (rg 2 3 []),mzP,none⟩
theorem vzM:A3 Tryz.f79 44 zzj:=A4 .nil .nil gzA
def lz9 (x:List Row):Option (Int):=brn (decide (4096<(↑x.length:Int))) (some 4) (obnd (mzP (x,x,(↑x.length:Int),0)) fun y=>osum y (fun y=>some 0) fun y=>some y)
def EzQ:Fq:=⟨[(0,.val 97)],[(0,.val 44)],lz9⟩
theorem wzU:A0 79 EzQ:=A2 Tryz.func79 .nil (.cons vzM .nil)
def pzA (x:Cell2):Option (Int):=obnd (lzP x.At) fun y=>brn (!y) (some 12) (brn (decide (x.XF<0)) (some 1) (brn (decide (255<x.XF)) (some 1) (obnd (qzv x.V) fun y=>brn (!decide (y=0)) (some y) (brn (!x.Has) (obnd (izR (azf x.E,Expr.mk 0 (Val.mk 0 (Dec.mk 0 0) [] false 0) (Area.mk (Ref.mk 0 0 false false) (Ref.mk 0 0 false false)) 0 0 [])) fun y=>brn (!y) (some 1) (some 0)) (obnd (mzE (azf x.E)) fun y=>brn (!decide (y.2=0)) (some y.2) (brn (decide (x.V.Kind=0)) (some 1) (some 0)))))))
def zzA:Fq:=⟨[(0,.val 108)],[(0,.val 44)],pzA⟩
theorem BzW:A0 139 zzA:=A1 Tryz.func139 (.cons nzY (.cons vzd (.cons izh (.cons oz3 .nil))))
def pzB (x:Cell×Cell):Option (Int):=obnd (dzV (x.1.Row,x.2.Row)) fun y=>obnd (dzV (x.1.Col,x.2.Col)) fun y_1=>obnd (mzB [y,y_1]) fun y=>some y
def zzB:Fq:=⟨[(0,.val 80),(1,.val 80)],[(0,.val 3)],pzB⟩
theorem BzX:A0 140 zzB:=A1 Tryz.func140 (.cons kz3 (.cons oz1 .nil))
abbrev Fzn:List (Nat×Fq):=[(139,zzA),(140,zzB)]
theorem rzG:azk Tryz.prog tb (Fzn):=(.cons BzW (.cons BzX .nil))
def hzS (back:List Cell2×List Cell2×Int×Int->Option ((Unit)⊕(Int)))(x:List Cell2×List Cell2×Int×Int):Option ((Unit)⊕(Int)):=brn (decide (x.2.2.2<x.2.2.1)) (obnd (idx x.2.1 x.2.2.2) fun y=>obnd (pzA (Cell2.mk y.At y.XF y.V y.Has (azf y.E))) fun y_1=>brn (!decide (y_1=0)) (some (Sum.inr y_1)) (brn (decide (0<x.2.2.2)) (obnd (idx x.1 (i64.wrap (x.2.2.2-1))) fun y_2=>obnd (pzB (y_2.At,y.At)) fun y=>brn (decide (0<=y)) (some (Sum.inr 6)) (back (x.1,x.2.1,x.2.2.1,i64.wrap (x.2.2.2+1)))) (back (x.1,x.2.1,x.2.2.1,i64.wrap (x.2.2.2+1))))) (some (Sum.inl PUnit.unit))
def mz9:=iter hzS big
def zzz:Cq:=⟨44,[(0,.val 98),(9,.val 98),(10,.val 3),(11,.val 3)],[(.exit 0,[]),(.ret,[(2,.val 44)])],rg 11 25 (rg 2 4 []),mz9,none⟩
theorem vz6:A3 Tryz.f80 44 zzz:=A4 rzG .nil hzS
def mzV (x:List Cell2):Option (Int):=brn (decide (4096<(↑x.length:Int))) (some 4) (obnd (mz9 (x,x,(↑x.length:Int),0)) fun y=>osum y (fun y=>some 0) fun y=>some y)
def Fzo:Fq:=⟨[(0,.val 98)],[(0,.val 44)],mzV⟩
theorem xzi:A0 80 Fzo:=A2 Tryz.func80 rzG (.cons vz6 .nil)
abbrev LzT:List (Nat×Fq):=[(111,AzW),(131,Dzn)]
theorem uz7:azk Tryz.prog tb (LzT):=(.cons nzY (.cons oz3 .nil))
def qzl (x:Group×Int×Int):Option ((Unit)⊕(Int)):=obnd (lzP x.1.A) fun y=>brn (!y) (some (Sum.inr 12)) (obnd (lzP x.1.B) fun y=>brn (!y) (some (Sum.inr 12)) (brn (decide (x.2.1<1)) (some (Sum.inr 12)) (brn (decide (x.2.2<1)) (some (Sum.inr 12)) (brn (decide (1024<i64.wrap (x.2.1*x.2.2))) (some (Sum.inr 13)) (brn (!x.1.Array) (brn (!decide (x.2.2=1)) (some (Sum.inr 13)) (brn (decide (x.2.1<2)) (some (Sum.inr 13)) (some (Sum.inl PUnit.unit)))) (some (Sum.inl PUnit.unit)))))))
def Gz5:Cq:=⟨27,[(1,.ro 141),(3,.val 3),(4,.val 3)],[(.normal,[]),(.ret,[(2,.val 44)])],rg 23 37 [2],(qzl),none⟩
theorem Az3:A5 Tryz.f188 27 Gz5:=A6 uz7 .nil
def qzk (x:Group):Option (Int):=obnd (qzl (Group.mk x.Array x.A x.B (azf x.E),i64.wrap (i64.wrap (x.B.Row-x.A.Row)+1),i64.wrap (i64.wrap (x.B.Col-x.A.Col)+1))) fun y=>osum y (fun y=>obnd (mzE (azf x.E)) fun y=>some y.2) fun y=>some y
def Az2:Fq:=⟨[(0,.val 141)],[(0,.val 44)],qzk⟩
theorem CzP:A0 188 Az2:=A2 Tryz.func188 uz7 (.cons Az3 .nil)
def nz1 (x:Group×Group):Option (Bool):=brn (decide ((bif decide (x.1.A.Row<x.2.A.Row)then x.2.A.Row else x.1.A.Row)<=bif decide (x.2.B.Row<x.1.B.Row)then x.2.B.Row else x.1.B.Row)) (some (decide ((bif decide (x.1.A.Col<x.2.A.Col)then x.2.A.Col else x.1.A.Col)<=bif decide (x.2.B.Col<x.1.B.Col)then x.2.B.Col else x.1.B.Col))) (some false)
def wzS:Fq:=⟨[(0,.val 141),(1,.val 141)],[(0,.val 4)],nz1⟩
theorem zzi:A0 189 wzS:=A1 Tryz.func189 .nil
abbrev Gz4:List (Nat×Fq):=[(188,Az2),(189,wzS)]
theorem kzw:azk Tryz.prog tb (Gz4):=(.cons CzP (.cons zzi .nil))
def hzY (back:List Group×Int×Int->Option ((Unit)⊕(Int)))(x:List Group×Int×Int):Option ((Unit)⊕(Int)):=brn (decide (x.2.2<x.2.1)) (obnd (idx x.1 x.2.2) fun y=>obnd (qzk (Group.mk y.Array y.A y.B (azf y.E))) fun y=>brn (!decide (y=0)) (some (Sum.inr y)) (back (x.1,x.2.1,i64.wrap (x.2.2+1)))) (some (Sum.inl PUnit.unit))
def nzr:=iter hzY big
def AzZ:Cq:=⟨28,[(10,.val 99),(11,.val 3),(12,.val 3)],[(.exit 0,[]),(.ret,[(2,.val 44)])],rg 12 10 [2,4,5],nzr,none⟩
theorem wzP:A3 Tryz.f141 28 AzZ:=A4 kzw .nil hzY
def hz0 (back:Group×List Group×Int×Int->Option ((Unit)⊕(Int)))(x:Group×List Group×Int×Int):Option ((Unit)⊕(Int)):=brn (decide (x.2.2.2<x.2.2.1)) (obnd (idx x.2.1 x.2.2.2) fun y=>obnd (nz1 (Group.mk x.1.Array x.1.A x.1.B (azf x.1.E),Group.mk y.Array y.A y.B (azf y.E))) fun y=>brn y (some (Sum.inr 13)) (back (Group.mk x.1.Array x.1.A x.1.B (azf x.1.E),x.2.1,x.2.2.1,i64.wrap (x.2.2.2+1)))) (some (Sum.inl PUnit.unit))
def nzt:=iter hz0 big
def Az1:Cq:=⟨108,[(7,.ro 141),(32,.val 99),(33,.val 3),(34,.val 3)],[(.exit 4,[]),(.ret,[(2,.val 44)])],rg 34 8 [2,9],nzt,none⟩
theorem wzR:A3 Tryz.f141 108 Az1:=A4 kzw .nil hz0
def hzZ (back:List Group×List Group×Int×Int->Option ((Unit)⊕(Int)))(x:List Group×List Group×Int×Int):Option ((Unit)⊕(Int)):=brn (decide (x.2.2.2<x.2.2.1)) (obnd (idx x.2.1 x.2.2.2) fun y=>obnd (sub x.1 (i64.wrap (x.2.2.2+1)) (↑x.1.length:Int)) fun z=>obnd (nzt (Group.mk y.Array y.A y.B (azf y.E),z,(↑z.length:Int),0)) fun y=>osum y (fun y=>back (x.1,x.2.1,x.2.2.1,i64.wrap (x.2.2.2+1))) fun y=>some (Sum.inr y)) (some (Sum.inl PUnit.unit))
def nzs:=iter hzZ big
def Az0:Cq:=⟨84,[(0,.val 99),(22,.val 99),(23,.val 3),(24,.val 3)],[(.exit 2,[]),(.ret,[(2,.val 44)])],rg 24 19 [2,6,7,9],nzs,none⟩
theorem wzQ:A3 Tryz.f141 84 Az0:=A4 kzw (.cons wzR .nil) hzZ
def mz3 (x:List Group):Option (Int):=obnd (nzr (x,(↑x.length:Int),0)) fun y=>osum y (fun y=>obnd (nzs (x,x,(↑x.length:Int),0)) fun y=>osum y (fun y=>some 0) fun y=>some y) fun y=>some y
def uz6:Fq:=⟨[(0,.val 99)],[(0,.val 44)],mz3⟩
theorem xz6:A0 141 uz6:=A2 Tryz.func141 kzw (.cons wzP (.cons wzQ .nil))
abbrev gz4:List (Nat×Fq):=[(109,uzd)]
theorem dzs:azk Tryz.prog tb (gz4):=(.cons szA .nil)
def azH (back:List Group×Unit×Int->Option ((Unit)⊕(Bool)))(x:List Group×Unit×Int):Option ((Unit)⊕(Bool)):=brn (decide (0<x.2.2)) (obnd (idx x.1 x.2.2) fun y=>obnd (idx x.1 (i64.wrap (x.2.2-1))) fun y_1=>obnd (nzu (Group.mk y.Array y.A y.B (azf y.E),Group.mk y_1.Array y_1.A y_1.B (azf y_1.E))) fun y=>brn (decide (y<0)) (some (Sum.inr false)) (back (x.1,(),i64.wrap (x.2.2-1)))) (some (Sum.inl PUnit.unit))
def bzA:=iter azH big
def gzh:Cq:=⟨28,[(0,.val 99),(1,.fnp 109 0),(5,.val 3)],[(.exit 0,[]),(.ret,[(4,.val 4)])],rg 9 16 [4,5],bzA,none⟩
theorem fzH:A3 Tryz.f142 28 gzh:=A4 dzs .nil azH
def bzJ (x:List Group×Unit):Option (Bool):=obnd (bzA (x.1,(),i64.wrap ((↑x.1.length:Int)-1))) fun y=>osum y (fun y=>some true) fun y=>some y
def dzI:Fq:=⟨[(0,.val 99),(1,.fnp 109 0)],[(0,.val 4)],bzJ⟩
theorem fzK:A0 142 dzI:=A2 Tryz.func142 dzs (.cons fzH .nil)
abbrev MzP:List (Nat×Fq):=[(48,xz7),(94,szJ)]
theorem wzV:azk Tryz.prog tb (MzP):=(.cons mz4 (.cons izh .nil))
def lzH (back:Group×Int×List Cell2×Int×Int->Option (Int))(x:Group×Int×List Cell2×Int×Int):Option (Int):=brn (decide (x.2.2.2.2<x.2.2.2.1)) (obnd (idx x.2.2.1 x.2.2.2.2) fun y=>brn y.Has (obnd (kzx (Group.mk x.1.Array x.1.A x.1.B (azf x.1.E),y.At)) fun y_1=>brn y_1 (obnd (izR (azf y.E,azf x.1.E)) fun y=>brn y (back (Group.mk x.1.Array x.1.A x.1.B (azf x.1.E),i64.wrap (x.2.1+1),x.2.2.1,x.2.2.2.1,i64.wrap (x.2.2.2.2+1))) (back (Group.mk x.1.Array x.1.A x.1.B (azf x.1.E),x.2.1,x.2.2.1,x.2.2.2.1,i64.wrap (x.2.2.2.2+1)))) (back (Group.mk x.1.Array x.1.A x.1.B (azf x.1.E),x.2.1,x.2.2.1,x.2.2.2.1,i64.wrap (x.2.2.2.2+1)))) (back (Group.mk x.1.Array x.1.A x.1.B (azf x.1.E),x.2.1,x.2.2.1,x.2.2.2.1,i64.wrap (x.2.2.2.2+1)))) (some x.2.1)
def qz9:=iter lzH big
def IzK:Cq:=⟨36,[(3,.ro 141),(5,.val 3),(8,.val 98),(9,.val 3),(10,.val 3)],[(.exit 0,[(5,.val 3)])],rg 10 22 [5,7],qz9,none⟩
theorem CzV:A3 Tryz.f145 36 IzK:=A4 wzV .nil lzH
def rzy (x:List Cell2×Group):Option (Bool):=obnd (qz9 (Group.mk x.2.Array x.2.A x.2.B (azf x.2.E),0,x.1,(↑x.1.length:Int),0)) fun y=>some (decide (y=i64.wrap (i64.wrap (i64.wrap (x.2.B.Row-x.2.A.Row)+1)*i64.wrap (i64.wrap (x.2.B.Col-x.2.A.Col)+1))))
def MzQ:Fq:=⟨[(0,.val 98),(1,.val 141)],[(0,.val 4)],rzy⟩
theorem EzR:A0 145 MzQ:=A2 Tryz.func145 wzV (.cons CzV .nil)
def pzc (x:Group×Sheet):Option (Bool):=obnd (rzy (x.2.Cells,Group.mk x.1.Array x.1.A x.1.B (azf x.1.E))) fun y=>some (bif y then false else true)
def uzf:Fq:=⟨[(0,.val 141),(1,.ro 101)],[(0,.val 4)],pzc⟩
theorem wzW:A0 144 uzf:=A1 Tryz.func144 (.cons EzR .nil)
abbrev gzG:List (Nat×Fq):=[(144,uzf)]
theorem dzp:azk Tryz.prog tb (gzG):=(.cons wzW .nil)
def az4 (back:Sheet×List Group×Unit×Int×Int->Option ((Unit)⊕(Int)))(x:Sheet×List Group×Unit×Int×Int):Option ((Unit)⊕(Int)):=brn (decide (x.2.2.2.2<x.2.2.2.1)) (obnd (idx x.2.1 x.2.2.2.2) fun y=>obnd (pzc (Group.mk y.Array y.A y.B (azf y.E),x.1)) fun y=>brn y (some (Sum.inr x.2.2.2.2)) (back (x.1,x.2.1,(),x.2.2.2.1,i64.wrap (x.2.2.2.2+1)))) (some (Sum.inl PUnit.unit))
def bz9:=iter az4 big
def gza:Cq:=⟨28,[(4294967297,.ro 101),(0,.val 99),(1,.fnp 144 1),(7,.val 3),(8,.val 3)],[(.exit 0,[]),(.ret,[(4,.val 3)])],rg 8 11 [4,5],bz9,none⟩
theorem fzv:A3 Tryz.f190 28 gza:=A4 dzp .nil az4
def czp (x:Sheet×List Group×Unit):Option (Int):=obnd (bz9 (x.1,x.2.1,(),(↑x.2.1.length:Int),0)) fun y=>osum y (fun y=>some (-1)) fun y=>some y
def gzH:Fq:=⟨[(4294967297,.ro 101),(0,.val 99),(1,.fnp 144 1)],[(0,.val 3)],czp⟩
theorem fzG:A0 190 gzH:=A2 Tryz.func190 dzp (.cons fzv .nil)
def az1 (x:Sheet×List Group×Unit):Option (Bool):=obnd (czp (x.1,x.2.1,())) fun y=>some (decide (0<=y))
def dzm:Fq:=⟨[(4294967297,.ro 101),(0,.val 99),(1,.fnp 144 1)],[(0,.val 4)],az1⟩
theorem fzm:A0 143 dzm:=A1 Tryz.func143 (.cons fzG .nil)
def mza (x:Group×Group):Option (Bool):=brn (decide (x.1.Array=x.2.Array)) (brn (bif false then !(decide (x.1.A.Row=x.2.A.Row)&&decide (x.1.A.Col=x.2.A.Col))else decide (x.1.A.Row=x.2.A.Row)&&decide (x.1.A.Col=x.2.A.Col)) (brn (bif false then !(decide (x.1.B.Row=x.2.B.Row)&&decide (x.1.B.Col=x.2.B.Col))else decide (x.1.B.Row=x.2.B.Row)&&decide (x.1.B.Col=x.2.B.Col)) (obnd (izR (azf x.1.E,azf x.2.E)) fun y=>some y) (some false)) (some false)) (some false)
def uzg:Fq:=⟨[(0,.val 141),(1,.val 141)],[(0,.val 4)],mza⟩
theorem wzX:A0 100 uzg:=A1 Tryz.func100 (.cons izh .nil)
abbrev dzR:List (Nat×Fq):=[(100,uzg)]
theorem bz2:azk Tryz.prog tb (dzR):=(.cons wzX .nil)
def azx (back:List Group×Unit×List Group×Int×Int->Option ((Unit)⊕(Bool)))(x:List Group×Unit×List Group×Int×Int):Option ((Unit)⊕(Bool)):=brn (decide (x.2.2.2.2<x.2.2.2.1)) (obnd (idx x.2.2.1 x.2.2.2.2) fun y=>obnd (idx x.1 x.2.2.2.2) fun y_1=>obnd (mza (Group.mk y.Array y.A y.B (azf y.E),Group.mk y_1.Array y_1.A y_1.B (azf y_1.E))) fun y=>brn (!y) (some (Sum.inr false)) (back (x.1,(),x.2.2.1,x.2.2.2.1,i64.wrap (x.2.2.2.2+1)))) (some (Sum.inl PUnit.unit))
def bza:=iter azx big
def dzH:Cq:=⟨44,[(1,.val 99),(2,.fnp 100 0),(15,.val 99),(16,.val 3),(17,.val 3)],[(.exit 0,[]),(.ret,[(6,.val 4)])],rg 17 15 (rg 6 4 []),bza,none⟩
theorem dzu:A3 Tryz.f99 44 dzH:=A4 bz2 .nil azx
def azq (x:List Group×List Group×Unit):Option (Bool):=brn (!decide ((↑x.1.length:Int)=(↑x.2.1.length:Int))) (some false) (obnd (bza (x.2.1,(),x.1,(↑x.1.length:Int),0)) fun y=>osum y (fun y=>some true) fun y=>some y)
def bz5:Fq:=⟨[(0,.val 99),(1,.val 99),(2,.fnp 100 0)],[(0,.val 4)],azq⟩
theorem bzY:A0 99 bz5:=A2 Tryz.func99 bz2 (.cons dzu .nil)
abbrev IzL:List (Nat×Fq):=[(141,uz6),(142,dzI),(143,dzm),(110,qz8),(99,bz5)]
theorem szC:azk Tryz.prog tb (IzL):=(.cons xz6 (.cons fzK (.cons fzm (.cons qzA (.cons bzY .nil)))))
def izL (back:Sheet×Int->Option (Int))(x:Sheet×Int):Option (Int):=brn (decide (x.2<(↑x.1.Groups.length:Int))) (obnd (idx x.1.Groups x.2) fun y=>brn y.Array (back (x.1,i64.wrap (x.2+1))) (some x.2)) (some x.2)
def ozn:=iter izL big
def CzW:Cq:=⟨28,[(1,.ro 101),(3,.val 3)],[(.exit 0,[(3,.val 3)])],rg 5 15 [3],ozn,none⟩
theorem xz9:A3 Tryz.f81 28 CzW:=A4 szC .nil izL
def nz2 (x:Sheet):Option (Bool):=obnd (ozn (x,0)) fun y=>obnd (sub x.Groups 0 y) fun z=>obnd (mz3 z) fun y_1=>brn (!decide (y_1=0)) (some false) (obnd (bzJ (z,())) fun y_2=>brn (!y_2) (some false) (obnd (az1 (x,z,())) fun y_3=>brn y_3 (some false) (obnd (sub x.Groups y (↑x.Groups.length:Int)) fun z_1=>obnd (jzi (x.Cells,z)) fun y=>obnd (azq (z_1,y,())) fun y=>some y)))
def IzM:Fq:=⟨[(0,.val 101)],[(0,.val 4)],nz2⟩
theorem zzk:A0 81 IzM:=A2 Tryz.func81 szC (.cons xz9 .nil)
def hz3 (x:Sheet):Option (Int):=obnd (lz9 x.Rows) fun y=>brn (!decide (y=0)) (some y) (obnd (mzV x.Cells) fun y=>brn (!decide (y=0)) (some y) (obnd (nz2 x) fun y=>brn (!y) (some 13) (some 0)))
def Az9:Fq:=⟨[(0,.val 101)],[(0,.val 44)],hz3⟩
theorem CzS:A0 35 Az9:=A1 Tryz.func35 (.cons wzU (.cons xzi (.cons zzk .nil)))
def dzn (back:List (List UInt8)×List (List UInt8)×Int×Int->Option ((Unit)⊕(Bool)))(x:List (List UInt8)×List (List UInt8)×Int×Int):Option ((Unit)⊕(Bool)):=brn (decide (x.2.2.2<x.2.2.1)) (obnd (idx x.1 x.2.2.2) fun y=>obnd (idx x.2.1 x.2.2.2) fun y_1=>brn (!decide (y=y_1)) (some (Sum.inr false)) (back (x.1,x.2.1,x.2.2.1,i64.wrap (x.2.2.2+1)))) (some (Sum.inl PUnit.unit))
def fz6:=iter dzn big
def qzs:Cq:=⟨44,[(0,.val 22),(1,.val 22),(12,.val 3),(13,.val 3)],[(.exit 0,[]),(.ret,[(4,.val 4)])],rg 13 13 [4,5],fz6,none⟩
theorem ozz:A3 Tryz.f37 44 qzs:=A4 .nil .nil dzn
def bzz (x:List (List UInt8)×List (List UInt8)):Option (Bool):=brn (!decide ((↑x.1.length:Int)=(↑x.2.length:Int))) (some false) (obnd (fz6 (x.1,x.2,(↑x.1.length:Int),0)) fun y=>osum y (fun y=>some true) fun y=>some y)
def lzQ:Fq:=⟨[(0,.val 22),(1,.val 22)],[(0,.val 4)],bzz⟩
theorem jzL:A0 37 lzQ:=A2 Tryz.func37 .nil (.cons ozz .nil)
abbrev Lz6:List (Nat×Fq):=[(34,Dzg),(35,Az9),(36,vzg),(37,lzQ)]
theorem kzZ:azk Tryz.prog tb (Lz6):=(.cons Dz3 (.cons CzS (.cons tzn (.cons jzL .nil))))
def kz1 (back:Book×List Cell2×Int×Int->Option ((Unit)⊕(Int)))(x:Book×List Cell2×Int×Int):Option ((Unit)⊕(Int)):=brn (decide (x.2.2.2<x.2.2.1)) (obnd (idx x.2.1 x.2.2.2) fun y=>brn (decide ((bif decide ((↑x.1.Globals.XFs.length:Int)<1)then 1 else(↑x.1.Globals.XFs.length:Int))<=y.XF)) (some (Sum.inr 1)) (back (x.1,x.2.1,x.2.2.1,i64.wrap (x.2.2.2+1)))) (some (Sum.inl PUnit.unit))
def qzF:=iter kz1 big
def Hzt:Cq:=⟨172,[(1,.ro 42),(59,.val 98),(60,.val 3),(61,.val 3)],[(.exit 2,[]),(.ret,[(2,.val 44)])],rg 61 13 [2,9],qzF,none⟩
theorem BzP:A3 Tryz.f9 172 Hzt:=A4 kzZ .nil kz1
def kz0 (back:Book×List Sheet×Int×Int->Option ((Unit)⊕(Int)))(x:Book×List Sheet×Int×Int):Option ((Unit)⊕(Int)):=brn (decide (x.2.2.2<x.2.2.1)) (obnd (idx x.2.1 x.2.2.2) fun y=>obnd (qzF (x.1,y.Cells,(↑y.Cells.length:Int),0)) fun y=>osum y (fun y=>back (x.1,x.2.1,x.2.2.1,i64.wrap (x.2.2.2+1))) fun y=>some (Sum.inr y)) (some (Sum.inl PUnit.unit))
def jzb:=iter kz0 big
def qzE:Cq:=⟨148,[(1,.ro 42),(52,.val 40),(53,.val 3),(54,.val 3)],[(.exit 0,[]),(.ret,[(2,.val 44)])],rg 54 21 [2,7,9],jzb,none⟩
theorem szm:A3 Tryz.f9 148 qzE:=A4 kzZ (.cons BzP .nil) kz0
def gzT (back:Book×Table×Int×Int->Option ((Int)×Table))(x:Book×Table×Int×Int):Option ((Int)×Table):=brn (decide (x.2.2.2<(↑x.1.Sheets.length:Int))) (obnd (idx x.1.Sheets x.2.2.2) fun y=>obnd (hz3 y) fun y=>brn (!decide (y=0)) (some (y,x.2.1)) (obnd (idx x.1.Sheets x.2.2.2) fun y=>obnd (back (x.1,x.2.1,i64.wrap (x.2.2.1+(↑y.Cells.length:Int)),i64.wrap (x.2.2.2+1))) fun y=>some (y.1,y.2))) (brn (decide (4096<x.2.2.1)) (some (4,x.2.1)) (obnd (jzb (x.1,x.1.Sheets,(↑x.1.Sheets.length:Int),0)) fun y=>osum y (fun y=>obnd (ez9 x.1.Sheets) fun y=>brn (!decide (y.2=0)) (some (3,y.1)) (brn (!decide (y.1.Uses=x.1.Globals.Texts.Uses)) (some (3,y.1)) (obnd (bzz (y.1.Texts,x.1.Globals.Texts.Texts)) fun y_1=>brn (!y_1) (some (3,y.1)) (some (0,y.1))))) fun y=>some (y,x.2.1)))
def fzn:=iter gzT big
def DzN:Cq:=⟨73,[(1,.ro 42),(3,.ref 36),(4,.val 3),(5,.val 3)],[(.ret,[(2,.val 44)])],rg 24 78 [2,4,5,7,9],fzn,none⟩
theorem zzq:czh ([qzE]:List (CutSpec tb)) (ozv (czr 21 Tryz.f9) 0)=[(148,.loop (czH 148 Tryz.f9))]:=by kernel_rfl
theorem yzM:dze Tryz.prog tb Tryz.f9.ntmps (czr 21 Tryz.f9) 0 DzN:=xzx fun self hself=>nzb mixed (by kernel_rfl) (by kernel_rfl) kzZ rfl zzq (.cons rfl szm rfl .nil) (.cons hself rfl .nil) (fun x=>by kernel_rfl)
def qzG (x:Book):Option ((Unit)⊕(Int)):=obnd (fza x.Globals) fun y=>brn (!decide (y=0)) (some (Sum.inr y)) (brn (!decide ((↑x.Sheets.length:Int)=(↑x.Globals.Sheets.length:Int))) (some (Sum.inr 1)) (brn (decide (0<(↑x.Sheets.length:Int))) (obnd (idx x.Sheets 0) fun y=>obnd (hz3 y) fun y=>brn (!decide (y=0)) (some (Sum.inr y)) (obnd (idx x.Sheets 0) fun y=>obnd (fzn (x,Table.mk [] 0,i64.wrap (0+(↑y.Cells.length:Int)),1)) fun y=>some (Sum.inr y.1))) (obnd (jzb (x,x.Sheets,(↑x.Sheets.length:Int),0)) fun y=>osum y (fun y=>obnd (ez9 x.Sheets) fun y=>brn (!decide (y.2=0)) (some (Sum.inr 3)) (brn (!decide (y.1.Uses=x.Globals.Texts.Uses)) (some (Sum.inr 3)) (obnd (bzz (y.1.Texts,x.Globals.Texts.Texts)) fun y=>brn (!y) (some (Sum.inr 3)) (some (Sum.inr 0))))) fun y=>some (Sum.inr y))))
def Hzu:Cq:=⟨21,[(1,.ro 42)],[(.normal,[]),(.ret,[(2,.val 44)])],rg 9 93 (rg 2 4 [7]),qzG,none⟩
theorem DzO:czh ([qzE]:List (CutSpec tb)) (czr 21 Tryz.f9)=[(148,.loop (czH 148 Tryz.f9))]:=by kernel_rfl
theorem BzQ:cz6 Tryz.prog tb Tryz.f9.ntmps (.scope (czr 21 Tryz.f9)) Hzu:=qz4 mixed (by kernel_rfl) kzZ rfl DzO (.cons rfl szm rfl .nil) (.cons yzM rfl .nil) (fun x=>by kernel_rfl)
def dzK (x:Book):Option (Int):=obnd (qzG x) fun y=>osum y (fun y=>none) fun y=>some y
def rzj:Fq:=⟨[(0,.val 42)],[(0,.val 44)],dzK⟩
theorem ozZ:A0 9 rzj:=A2 Tryz.func9 kzZ (.cons BzQ .nil)
abbrev MzY:List (Nat×Fq):=[(57,zzv),(36,vzg),(9,rzj)]
theorem yzj:azk Tryz.prog tb (MzY):=(.cons BzV (.cons tzn (.cons ozZ .nil)))
def mze (back:List (Sheet)×Book×List Sheet×Int×Int->Option ((List (Sheet))×Book))(x:List (Sheet)×Book×List Sheet×Int×Int):Option ((List (Sheet))×Book):=brn (decide (x.2.2.2.2<x.2.2.2.1)) (obnd (idx x.2.2.1 x.2.2.2.2) fun y=>obnd (pzv y) fun y=>obnd (app 72 x.1 [y]) fun zs=>back (zs,Book.mk x.2.1.Globals zs,x.2.2.1,x.2.2.2.1,i64.wrap (x.2.2.2.2+1))) (some (x.1,Book.mk x.2.1.Globals x.1))
def rz0:=iter mze big
def JzH:Cq:=⟨36,[(34359738372,.own 101),(4,.ref 42),(14,.val 40),(15,.val 3),(16,.val 3)],[(.exit 0,[(34359738372,.own 101)])],rg 16 12 [6],rz0,none⟩
theorem DzQ:A3 Tryz.f21 36 JzH:=A4 yzj .nil mze
def hzj (x:Book):Option (Book×Int):=obnd (rz0 ([],Book.mk x.Globals [],x.Sheets,(↑x.Sheets.length:Int),0)) fun y=>obnd (ez9 y.1) fun y_1=>brn (!decide (y_1.2=0)) (some (Book.mk (Globals.mk [] [] [] [] (Table.mk [] 0) []) [],y_1.2)) (obnd (dzK (Book.mk (Globals.mk y.2.Globals.Sheets y.2.Globals.Formats y.2.Globals.XFs y.2.Globals.Names y_1.1 y.2.Globals.Chain) y.1)) fun y_2=>brn (!decide (y_2=0)) (some (Book.mk (Globals.mk [] [] [] [] (Table.mk [] 0) []) [],y_2)) (some (Book.mk (Globals.mk y.2.Globals.Sheets y.2.Globals.Formats y.2.Globals.XFs y.2.Globals.Names y_1.1 y.2.Globals.Chain) y.1,0)))
def xzf:Fq:=⟨[(0,.val 42)],[(0,.val 42),(1,.val 44)],hzj⟩
theorem uzy:A0 21 xzf:=A2 Tryz.func21 yzj (.cons DzQ .nil)
abbrev Lz7:List (Nat×Fq):=[(48,xz7)]
theorem nzD:azk Tryz.prog tb (Lz7):=(.cons mz4 .nil)
def vz1 (back:Cell2×Node×List Group×Int×Int->Option ((Unit)×Node))(x:Cell2×Node×List Group×Int×Int):Option ((Unit)×Node):=brn (decide (x.2.2.2.2<x.2.2.2.1)) (obnd (idx x.2.2.1 x.2.2.2.2) fun y=>brn y.Array (obnd (kzx (Group.mk y.Array y.A y.B (azf y.E),x.1.At)) fun y_1=>brn y_1 (back (Cell2.mk x.1.At x.1.XF x.1.V x.1.Has (azf x.1.E),Node.mk x.2.1.P y.A (azf x.2.1.E),x.2.2.1,x.2.2.2.1,i64.wrap (x.2.2.2.2+1))) (back (Cell2.mk x.1.At x.1.XF x.1.V x.1.Has (azf x.1.E),Node.mk x.2.1.P x.2.1.Base (azf x.2.1.E),x.2.2.1,x.2.2.2.1,i64.wrap (x.2.2.2.2+1)))) (back (Cell2.mk x.1.At x.1.XF x.1.V x.1.Has (azf x.1.E),Node.mk x.2.1.P x.2.1.Base (azf x.2.1.E),x.2.2.1,x.2.2.2.1,i64.wrap (x.2.2.2.2+1)))) (some ((),Node.mk x.2.1.P x.2.1.Base (azf x.2.1.E)))
def vz2:=iter vz1 big
def Hzy:Cq:=⟨100,[(7,.ro 108),(8,.ref 92),(39,.val 99),(40,.val 3),(41,.val 3)],[(.exit 4,[])],rg 41 16 [10],vz2,none⟩
theorem BzT:A3 Tryz.f13 100 Hzy:=A4 nzD .nil vz1
def vzZ (back:List (Node)×Int×Sheet×List Cell2×Int×Int->Option (List (Node)))(x:List (Node)×Int×Sheet×List Cell2×Int×Int):Option (List (Node)):=brn (decide (x.2.2.2.2.2<x.2.2.2.2.1)) (obnd (idx x.2.2.2.1 x.2.2.2.2.2) fun y=>brn (!y.Has) (back (x.1,x.2.1,x.2.2.1,x.2.2.2.1,x.2.2.2.2.1,i64.wrap (x.2.2.2.2.2+1))) (obnd (vz2 (Cell2.mk y.At y.XF y.V y.Has (azf y.E),Node.mk (Place.mk x.2.1 y.At) y.At (azf y.E),x.2.2.1.Groups,(↑x.2.2.1.Groups.length:Int),0)) fun y=>obnd (app 192 x.1 [Node.mk y.2.P y.2.Base (azf y.2.E)]) fun zs=>back (zs,x.2.1,x.2.2.1,x.2.2.2.1,x.2.2.2.2.1,i64.wrap (x.2.2.2.2.2+1)))) (some x.1)
def vz0:=iter vzZ big
def Hzx:Cq:=⟨60,[(3,.own 92),(4,.val 3),(5,.ro 101),(20,.val 98),(21,.val 3),(22,.val 3)],[(.exit 2,[(3,.own 92)])],rg 22 40 [3,7,8,10],vz0,none⟩
theorem BzS:A3 Tryz.f13 60 Hzx:=A4 nzD (.cons BzT .nil) vzZ
def vzX (back:List (Node)×List Sheet×Int×Int->Option (List (Node)))(x:List (Node)×List Sheet×Int×Int):Option (List (Node)):=brn (decide (x.2.2.2<x.2.2.1)) (obnd (idx x.2.1 x.2.2.2) fun y=>obnd (vz0 (x.1,x.2.2.2,y,y.Cells,(↑y.Cells.length:Int),0)) fun y=>back (y,x.2.1,x.2.2.1,i64.wrap (x.2.2.2+1))) (some x.1)
def vzY:=iter vzX big
def Hzw:Cq:=⟨36,[(3,.own 92),(12,.val 40),(13,.val 3),(14,.val 3)],[(.exit 0,[(3,.own 92)])],rg 14 49 (rg 3 3 [7,8,10]),vzY,none⟩
theorem BzR:A3 Tryz.f13 36 Hzw:=A4 nzD (.cons BzS .nil) vzX
def Cz5 (x:Book):Option (List (Node)):=obnd (vzY ([],x.Sheets,(↑x.Sheets.length:Int),0)) fun y=>some y
def Cz6:Fq:=⟨[(0,.val 42)],[(0,.own 92)],Cz5⟩
theorem DzP:A0 13 Cz6:=A2 Tryz.func13 nzD (.cons BzR .nil)
def iz9 (x:List Expr):Option (List (Expr)):=app 152 [] x
def cz1:Fq:=⟨[(0,.val 35)],[(0,.own 90)],iz9⟩
theorem nz4:∀x,evFn Tryz.prog tb [] [] Tryz.f53 cz1.ins cz1.outs x=cz1.f x:=fun x=>Eq.trans (by kernel_rfl) (rzm 152 x)
theorem mzQ:A0 53 cz1:=A1 Tryz.func53 .nil (hJ:=nz4)
abbrev book_EnvG:List (Nat×Fq):=[(53,cz1)]
theorem tzm:azk Tryz.prog tb (book_EnvG):=(.cons mzQ .nil)
def zzt (back:List (Slot)×Env×Int×List Cell2×Int×Int->Option ((List (Slot))×Env))(x:List (Slot)×Env×Int×List Cell2×Int×Int):Option ((List (Slot))×Env):=brn (decide (x.2.2.2.2.2<x.2.2.2.2.1)) (obnd (idx x.2.2.2.1 x.2.2.2.2.2) fun y=>brn (!decide (y.V.Kind=0)) (obnd (app 80 x.1 [Slot.mk (Place.mk x.2.2.1 y.At) y.V]) fun zs=>back (zs,Env.mk x.2.1.Sheets zs x.2.1.Names,x.2.2.1,x.2.2.2.1,x.2.2.2.2.1,i64.wrap (x.2.2.2.2.2+1))) (back (x.1,Env.mk x.2.1.Sheets x.1 x.2.1.Names,x.2.2.1,x.2.2.2.1,x.2.2.2.2.1,i64.wrap (x.2.2.2.2.2+1)))) (some (x.1,Env.mk x.2.1.Sheets x.1 x.2.1.Names))
def zzu:=iter zzt big
def Kzu:Cq:=⟨60,[(8589934595,.own 106),(3,.ref 60),(4,.val 3),(21,.val 98),(22,.val 3),(23,.val 3)],[(.exit 2,[(8589934595,.own 106)])],rg 23 21 [7],zzu,none⟩
theorem Fzf:A3 Tryz.f17 60 Kzu:=A4 tzm .nil zzt
def zzr (back:List (Slot)×Env×List Sheet×Int×Int->Option ((List (Slot))×Env))(x:List (Slot)×Env×List Sheet×Int×Int):Option ((List (Slot))×Env):=brn (decide (x.2.2.2.2<x.2.2.2.1)) (obnd (idx x.2.2.1 x.2.2.2.2) fun y=>obnd (zzu (x.1,Env.mk x.2.1.Sheets x.1 x.2.1.Names,x.2.2.2.2,y.Cells,(↑y.Cells.length:Int),0)) fun y=>back (y.1,Env.mk y.2.Sheets y.1 y.2.Names,x.2.2.1,x.2.2.2.1,i64.wrap (x.2.2.2.2+1))) (some (x.1,Env.mk x.2.1.Sheets x.1 x.2.1.Names))
def zzs:=iter zzr big
def Kzt:Cq:=⟨36,[(8589934595,.own 106),(3,.ref 60),(13,.val 40),(14,.val 3),(15,.val 3)],[(.exit 0,[(8589934595,.own 106)])],rg 15 30 [4,5,7],zzs,none⟩
theorem Fze:A3 Tryz.f17 36 Kzt:=A4 tzm (.cons Fzf .nil) zzr
def IzZ (x:Book):Option (Env):=obnd (zzs ([],Env.mk (↑x.Sheets.length:Int) [] [],x.Sheets,(↑x.Sheets.length:Int),0)) fun y=>obnd (iz9 x.Globals.Names) fun y_1=>some (Env.mk y.2.Sheets y.1 y_1)
def Iz0:Fq:=⟨[(0,.val 42)],[(0,.val 60)],IzZ⟩
theorem Hzv:A0 17 Iz0:=A2 Tryz.func17 tzm (.cons Fze .nil)
def ezJ (back:List Int×List Int×Int×Int->Option ((Unit)⊕(Bool)))(x:List Int×List Int×Int×Int):Option ((Unit)⊕(Bool)):=brn (decide (x.2.2.2<x.2.2.1)) (obnd (idx x.1 x.2.2.2) fun y=>obnd (idx x.2.1 x.2.2.2) fun y_1=>brn (!decide (y=y_1)) (some (Sum.inr false)) (back (x.1,x.2.1,x.2.2.1,i64.wrap (x.2.2.2+1)))) (some (Sum.inl PUnit.unit))
def jzK:=iter ezJ big
def uzh:Cq:=⟨44,[(0,.val 23),(1,.val 23),(12,.val 3),(13,.val 3)],[(.exit 0,[]),(.ret,[(4,.val 4)])],rg 13 13 [4,5],jzK,none⟩
theorem rzV:A3 Tryz.f92 44 uzh:=A4 .nil .nil ezJ
def izq (x:List Int×List Int):Option (Bool):=brn (!decide ((↑x.1.length:Int)=(↑x.2.length:Int))) (some false) (obnd (jzK (x.1,x.2,(↑x.1.length:Int),0)) fun y=>osum y (fun y=>some true) fun y=>some y)
def wzY:Fq:=⟨[(0,.val 23),(1,.val 23)],[(0,.val 4)],izq⟩
theorem szg:A0 92 wzY:=A2 Tryz.func92 .nil (.cons rzV .nil)
abbrev ez5:List (Nat×Fq):=[(94,szJ)]
theorem czJ:azk Tryz.prog tb (ez5):=(.cons izh .nil)
def azE (back:List Expr×Unit×List Expr×Int×Int->Option ((Unit)⊕(Bool)))(x:List Expr×Unit×List Expr×Int×Int):Option ((Unit)⊕(Bool)):=brn (decide (x.2.2.2.2<x.2.2.2.1)) (obnd (idx x.2.2.1 x.2.2.2.2) fun y=>obnd (idx x.1 x.2.2.2.2) fun y_1=>obnd (izR (azf y,azf y_1)) fun y=>brn (!y) (some (Sum.inr false)) (back (x.1,(),x.2.2.1,x.2.2.2.1,i64.wrap (x.2.2.2.2+1)))) (some (Sum.inl PUnit.unit))
def bzI:=iter azE big
def ezT:Cq:=⟨44,[(1,.val 35),(2,.fnp 94 0),(15,.val 35),(16,.val 3),(17,.val 3)],[(.exit 0,[]),(.ret,[(6,.val 4)])],rg 17 15 (rg 6 4 []),bzI,none⟩
theorem ezx:A3 Tryz.f93 44 ezT:=A4 czJ .nil azE
def bzc (x:List Expr×List Expr×Unit):Option (Bool):=brn (!decide ((↑x.1.length:Int)=(↑x.2.1.length:Int))) (some false) (obnd (bzI (x.2.1,(),x.1,(↑x.1.length:Int),0)) fun y=>osum y (fun y=>some true) fun y=>some y)
def ez6:Fq:=⟨[(0,.val 35),(1,.val 35),(2,.fnp 94 0)],[(0,.val 4)],bzc⟩
theorem ezG:A0 93 ez6:=A2 Tryz.func93 czJ (.cons ezx .nil)
def czA (back:List Place×List Place×Int×Int->Option ((Unit)⊕(Bool)))(x:List Place×List Place×Int×Int):Option ((Unit)⊕(Bool)):=brn (decide (x.2.2.2<x.2.2.1)) (obnd (idx x.1 x.2.2.2) fun y=>obnd (idx x.2.1 x.2.2.2) fun y_1=>brn (bif true then !(decide (y.Sheet=y_1.Sheet)&&(decide (y.At.Row=y_1.At.Row)&&decide (y.At.Col=y_1.At.Col)))else decide (y.Sheet=y_1.Sheet)&&(decide (y.At.Row=y_1.At.Row)&&decide (y.At.Col=y_1.At.Col))) (some (Sum.inr false)) (back (x.1,x.2.1,x.2.2.1,i64.wrap (x.2.2.2+1)))) (some (Sum.inl PUnit.unit))
def ezI:=iter czA big
def nzv:Cq:=⟨44,[(0,.val 37),(1,.val 37),(12,.val 3),(13,.val 3)],[(.exit 0,[]),(.ret,[(4,.val 4)])],rg 13 13 [4,5],ezI,none⟩
theorem mzw:A3 Tryz.f95 44 nzv:=A4 .nil .nil czA
def dzN (x:List Place×List Place):Option (Bool):=brn (!decide ((↑x.1.length:Int)=(↑x.2.length:Int))) (some false) (obnd (ezI (x.1,x.2,(↑x.1.length:Int),0)) fun y=>osum y (fun y=>some true) fun y=>some y)
def ozx:Fq:=⟨[(0,.val 37),(1,.val 37)],[(0,.val 4)],dzN⟩
theorem mzS:A0 95 ozx:=A2 Tryz.func95 .nil (.cons mzw .nil)
def szM (x:Globals×Globals):Option (Bool):=obnd (bzz (x.1.Sheets,x.2.Sheets)) fun y=>brn y (obnd (bzz (x.1.Formats,x.2.Formats)) fun y=>brn y (obnd (izq (x.1.XFs,x.2.XFs)) fun y=>brn y (obnd (bzc (x.1.Names,x.2.Names,())) fun y=>brn y (obnd (bzz (x.1.Texts.Texts,x.2.Texts.Texts)) fun y=>brn y (brn (decide (x.1.Texts.Uses=x.2.Texts.Uses)) (obnd (dzN (x.1.Chain,x.2.Chain)) fun y=>some y) (some false)) (some false)) (some false)) (some false)) (some false)) (some false)
def Nzj:Fq:=⟨[(0,.val 39),(1,.val 39)],[(0,.val 4)],szM⟩
theorem FzF:A0 43 Nzj:=A1 Tryz.func43 (.cons jzL (.cons szg (.cons ezG (.cons mzS .nil))))
def czB (back:List Row×List Row×Int×Int->Option ((Unit)⊕(Bool)))(x:List Row×List Row×Int×Int):Option ((Unit)⊕(Bool)):=brn (decide (x.2.2.2<x.2.2.1)) (obnd (idx x.1 x.2.2.2) fun y=>obnd (idx x.2.1 x.2.2.2) fun y_1=>brn (bif true then !(decide (y.Row=y_1.Row)&&(decide (y.Height=y_1.Height)&&decide (y.Hidden=y_1.Hidden)))else decide (y.Row=y_1.Row)&&(decide (y.Height=y_1.Height)&&decide (y.Hidden=y_1.Hidden))) (some (Sum.inr false)) (back (x.1,x.2.1,x.2.2.1,i64.wrap (x.2.2.2+1)))) (some (Sum.inl PUnit.unit))
def ezK:=iter czB big
def nzw:Cq:=⟨44,[(0,.val 97),(1,.val 97),(12,.val 3),(13,.val 3)],[(.exit 0,[]),(.ret,[(4,.val 4)])],rg 13 13 [4,5],ezK,none⟩
theorem mzx:A3 Tryz.f96 44 nzw:=A4 .nil .nil czB
def dzO (x:List Row×List Row):Option (Bool):=brn (!decide ((↑x.1.length:Int)=(↑x.2.length:Int))) (some false) (obnd (ezK (x.1,x.2,(↑x.1.length:Int),0)) fun y=>osum y (fun y=>some true) fun y=>some y)
def ozy:Fq:=⟨[(0,.val 97),(1,.val 97)],[(0,.val 4)],dzO⟩
theorem mzT:A0 96 ozy:=A2 Tryz.func96 .nil (.cons mzx .nil)
def rzl (x:Cell2×Cell2):Option (Bool):=brn (bif false then !(decide (x.1.At.Row=x.2.At.Row)&&decide (x.1.At.Col=x.2.At.Col))else decide (x.1.At.Row=x.2.At.Row)&&decide (x.1.At.Col=x.2.At.Col)) (brn (decide (x.1.XF=x.2.XF)) (brn (bif false then !(decide (x.1.V.Kind=x.2.V.Kind)&&(decide (x.1.V.N.M=x.2.V.N.M)&&(decide (x.1.V.N.S=x.2.V.N.S)&&(decide (x.1.V.S=x.2.V.S)&&(decide (x.1.V.B=x.2.V.B)&&decide (x.1.V.E=x.2.V.E))))))else decide (x.1.V.Kind=x.2.V.Kind)&&(decide (x.1.V.N.M=x.2.V.N.M)&&(decide (x.1.V.N.S=x.2.V.N.S)&&(decide (x.1.V.S=x.2.V.S)&&(decide (x.1.V.B=x.2.V.B)&&decide (x.1.V.E=x.2.V.E)))))) (brn (decide (x.1.Has=x.2.Has)) (obnd (izR (azf x.1.E,azf x.2.E)) fun y=>some y) (some false)) (some false)) (some false)) (some false)
def Cz8:Fq:=⟨[(0,.val 108),(1,.val 108)],[(0,.val 4)],rzl⟩
theorem DzR:A0 98 Cz8:=A1 Tryz.func98 (.cons izh .nil)
abbrev ezE:List (Nat×Fq):=[(98,Cz8)]
theorem czq:azk Tryz.prog tb (ezE):=(.cons DzR .nil)
def azB (back:List Cell2×Unit×List Cell2×Int×Int->Option ((Unit)⊕(Bool)))(x:List Cell2×Unit×List Cell2×Int×Int):Option ((Unit)⊕(Bool)):=brn (decide (x.2.2.2.2<x.2.2.2.1)) (obnd (idx x.2.2.1 x.2.2.2.2) fun y=>obnd (idx x.1 x.2.2.2.2) fun y_1=>obnd (rzl (Cell2.mk y.At y.XF y.V y.Has (azf y.E),Cell2.mk y_1.At y_1.XF y_1.V y_1.Has (azf y_1.E))) fun y=>brn (!y) (some (Sum.inr false)) (back (x.1,(),x.2.2.1,x.2.2.2.1,i64.wrap (x.2.2.2.2+1)))) (some (Sum.inl PUnit.unit))
def bzy:=iter azB big
def ezs:Cq:=⟨44,[(1,.val 98),(2,.fnp 98 0),(15,.val 98),(16,.val 3),(17,.val 3)],[(.exit 0,[]),(.ret,[(6,.val 4)])],rg 17 15 (rg 6 4 []),bzy,none⟩
theorem dz5:A3 Tryz.f97 44 ezs:=A4 czq .nil azB
def az2 (x:List Cell2×List Cell2×Unit):Option (Bool):=brn (!decide ((↑x.1.length:Int)=(↑x.2.1.length:Int))) (some false) (obnd (bzy (x.2.1,(),x.1,(↑x.1.length:Int),0)) fun y=>osum y (fun y=>some true) fun y=>some y)
def ezF:Fq:=⟨[(0,.val 98),(1,.val 98),(2,.fnp 98 0)],[(0,.val 4)],az2⟩
theorem ezh:A0 97 ezF:=A2 Tryz.func97 czq (.cons dz5 .nil)
def rzx (x:Sheet×Sheet):Option (Bool):=obnd (dzO (x.1.Rows,x.2.Rows)) fun y=>brn y (obnd (az2 (x.1.Cells,x.2.Cells,())) fun y=>brn y (obnd (azq (x.1.Groups,x.2.Groups,())) fun y=>some y) (some false)) (some false)
def DzD:Fq:=⟨[(0,.val 101),(1,.val 101)],[(0,.val 4)],rzx⟩
theorem EzP:A0 45 DzD:=A1 Tryz.func45 (.cons mzT (.cons ezh (.cons bzY .nil)))
abbrev ezn:List (Nat×Fq):=[(45,DzD)]
theorem czc:azk Tryz.prog tb (ezn):=(.cons EzP .nil)
def azz (back:List Sheet×Unit×List Sheet×Int×Int->Option ((Unit)⊕(Bool)))(x:List Sheet×Unit×List Sheet×Int×Int):Option ((Unit)⊕(Bool)):=brn (decide (x.2.2.2.2<x.2.2.2.1)) (obnd (idx x.2.2.1 x.2.2.2.2) fun y=>obnd (idx x.1 x.2.2.2.2) fun y_1=>obnd (rzx (y,y_1)) fun y=>brn (!y) (some (Sum.inr false)) (back (x.1,(),x.2.2.1,x.2.2.2.1,i64.wrap (x.2.2.2.2+1)))) (some (Sum.inl PUnit.unit))
def bzm:=iter azz big
def dz2:Cq:=⟨44,[(1,.val 40),(2,.fnp 45 0),(15,.val 40),(16,.val 3),(17,.val 3)],[(.exit 0,[]),(.ret,[(6,.val 4)])],rg 17 15 (rg 6 4 []),bzm,none⟩
theorem dzP:A3 Tryz.f44 44 dz2:=A4 czc .nil azz
def azM (x:List Sheet×List Sheet×Unit):Option (Bool):=brn (!decide ((↑x.1.length:Int)=(↑x.2.1.length:Int))) (some false) (obnd (bzm (x.2.1,(),x.1,(↑x.1.length:Int),0)) fun y=>osum y (fun y=>some true) fun y=>some y)
def ezo:Fq:=⟨[(0,.val 40),(1,.val 40),(2,.fnp 45 0)],[(0,.val 4)],azM⟩
theorem dzS:A0 44 ezo:=A2 Tryz.func44 czc (.cons dzP .nil)
def jz6 (x:Book×Book):Option (Bool):=obnd (szM (x.1.Globals,x.2.Globals)) fun y=>brn y (obnd (azM (x.1.Sheets,x.2.Sheets,())) fun y=>some y) (some false)
def xze:Fq:=⟨[(0,.val 42),(1,.val 42)],[(0,.val 4)],jz6⟩
theorem uzx:A0 11 xze:=A1 Tryz.func11 (.cons FzF (.cons dzS .nil))
end
set_option maxRecDepth 100000
noncomputable section
def fzU (self:Expr×Int×Int×Int->Option ((Bool)×Int)):FSpec tb:=⟨[(0,.val 76),(1,.val 3),(2,.val 3),(3,.ref 3)],[(0,.val 4)],self⟩
abbrev xzz (self:Expr×Int×Int×Int->Option ((Bool)×Int)):List (Nat×Fq):=[(123,(fzU self))]
theorem yzr (self:Expr×Int×Int×Int->Option ((Bool)×Int))(hself:azy Tryz.prog tb 123 (fzU self)):azk Tryz.prog tb (xzz self):=(.cons hself .nil)
def jz2 (self:Expr×Int×Int×Int->Option ((Bool)×Int))(back:Int×Int×Int×Expr×Int->Option (((Unit)×Int)⊕((Bool)×Int)))(x:Int×Int×Int×Expr×Int):Option (((Unit)×Int)⊕((Bool)×Int)):=brn (decide (x.2.2.2.2<(↑x.2.2.2.1.Kids.length:Int))) (obnd (idx x.2.2.2.1.Kids x.2.2.2.2) fun y=>obnd (self (azf y,i64.wrap (x.1-1),x.2.1,x.2.2.1)) fun y=>brn (!y.1) (some (Sum.inr (false,y.2))) (back (x.1,x.2.1,y.2,azf x.2.2.2.1,i64.wrap (x.2.2.2.2+1)))) (some (Sum.inl ((),x.2.2.1)))
def rz4 (self:Expr×Int×Int×Int->Option ((Bool)×Int)):Int×Int×Int×Expr×Int->Option (((Unit)×Int)⊕((Bool)×Int)):=iter (jz2 self) big
def mzj (self:Expr×Int×Int×Int->Option ((Bool)×Int)):CutSpec tb:=⟨52,[(1,.val 3),(2,.val 3),(3,.ref 3),(4,.ro 76),(9,.val 3)],[(.exit 0,[]),(.ret,[(8,.val 4)])],[32,33,34,35,36,39,40,41,42,43,44,45,46,47,48,49,8,37,38,9],(rz4 self),none⟩
theorem FzP (self:Expr×Int×Int×Int->Option ((Bool)×Int)):∀back x,gzw Tryz.prog tb (xzz self) [] (czH 52 Tryz.f123) (mzj self).ins (mzj self).outs back x=jz2 self back x:=fun back x=>by kernel_rfl
theorem Hz1 (self:Expr×Int×Int×Int->Option ((Bool)×Int)):cutB Tryz.f123.ntmps (mzj self) (czH 52 Tryz.f123)=true:=by kernel_rfl
theorem Dz7 (self:Expr×Int×Int×Int->Option ((Bool)×Int))(hself:azy Tryz.prog tb 123 (fzU self)):A3 Tryz.f123 52 (mzj self):=A4 (yzr self hself) .nil (jz2 self) (hb:=(Hz1 self)) (hF:=(FzP self))
def fzT (self:Expr×Int×Int×Int->Option ((Bool)×Int))(x:Expr×Int×Int×Int):Option ((Bool)×Int):=brn (decide (x.2.1=0)) (some (false,i64.wrap (x.2.2.2+1))) (brn (decide (x.2.2.1<i64.wrap (x.2.2.2+1))) (some (false,i64.wrap (x.2.2.2+1))) (brn (decide (3000<(↑x.1.V.S.length:Int))) (some (false,i64.wrap (x.2.2.2+1))) (obnd ((rz4 self) (x.2.1,x.2.2.1,i64.wrap (x.2.2.2+1),azf x.1,0)) fun y=>osum y (fun y=>some (true,y.2)) fun y=>some (y.1,y.2))))
theorem Kz5 (self:Expr×Int×Int×Int->Option ((Bool)×Int)):∀x,evFn Tryz.prog tb (xzz self) [(mzj self)] Tryz.f123 (fzU (fzT self)).ins (fzU (fzT self)).outs x=(fzU (fzT self)).f x:=fun x=>by kernel_rfl
theorem MzC (self:Expr×Int×Int×Int->Option ((Bool)×Int)):fnK Tryz.f123 (fzU (fzT self)).ins (fzU (fzT self)).outs=true:=by kernel_rfl
theorem Hz2 (self:Expr×Int×Int×Int->Option ((Bool)×Int))(hself:azy Tryz.prog tb 123 (fzU self)):A0 123 (fzU (fzT self)):=A2 Tryz.func123 (yzr self hself) (.cons (Dz7 self hself) .nil) (hk:=(MzC self)) (hJ:=(Kz5 self))
def xzy:=iter fzT big
def Nzq:Fq:=fzU xzy
theorem FzQ:azy Tryz.prog tb 123 Nzq:=pzI (gzl Tryz.func123 (by kernel_rfl)) Hz2
def kzd (x:Expr×Int):Option (Bool):=obnd (xzy (azf x.1,40,x.2,0)) fun y=>some y.1
def szQ:Fq:=⟨[(0,.val 76),(1,.val 3)],[(0,.val 4)],kzd⟩
theorem pzK:A0 66 szQ:=A1 Tryz.func66 (.cons FzQ .nil)
abbrev Nzv:List (Nat×Fq):=[(66,szQ)]
theorem mzm:azk Tryz.prog tb (Nzv):=(.cons pzK .nil)
def gzn (back:Globals×Int×Int->Option (Int))(x:Globals×Int×Int):Option (Int):=brn (decide (x.2.2<(↑x.1.Sheets.length:Int))) (obnd (idx x.1.Sheets x.2.2) fun y=>back (x.1,i64.wrap (x.2.1+(↑(List.length y):Int)),i64.wrap (x.2.2+1))) (some x.2.1)
def ozL:=iter gzn big
def JzV:Cq:=⟨52,[(1,.ro 29),(3,.val 3),(4,.val 3)],[(.exit 0,[(3,.val 3)])],rg 43 15 [3,4],ozL,none⟩
theorem Eza:A3 Tryz.f30 52 JzV:=A4 mzm .nil gzn
def gzo (back:Globals×Int×Int->Option (Int))(x:Globals×Int×Int):Option (Int):=brn (decide (x.2.2<(↑x.1.Formats.length:Int))) (obnd (idx x.1.Formats x.2.2) fun y=>back (x.1,i64.wrap (x.2.1+(↑(List.length y):Int)),i64.wrap (x.2.2+1))) (some x.2.1)
def ozM:=iter gzo big
def JzW:Cq:=⟨84,[(1,.ro 29),(3,.val 3),(5,.val 3)],[(.exit 2,[(3,.val 3)])],rg 58 15 [3,5],ozM,none⟩
theorem Ezb:A3 Tryz.f30 84 JzW:=A4 mzm .nil gzo
def gzp (back:Globals×Int×Int->Option (Int))(x:Globals×Int×Int):Option (Int):=brn (decide (x.2.2<(↑x.1.Texts.Texts.length:Int))) (obnd (idx x.1.Texts.Texts x.2.2) fun y=>back (x.1,i64.wrap (x.2.1+(↑(List.length y):Int)),i64.wrap (x.2.2+1))) (some x.2.1)
def ozN:=iter gzp big
def JzX:Cq:=⟨116,[(1,.ro 29),(3,.val 3),(6,.val 3)],[(.exit 4,[(3,.val 3)])],rg 73 17 [3,6],ozN,none⟩
theorem Ezc:A3 Tryz.f30 116 JzX:=A4 mzm .nil gzp
def gzq (back:Globals×Int->Option ((Unit)⊕(Bool)))(x:Globals×Int):Option ((Unit)⊕(Bool)):=brn (decide (x.2<(↑x.1.Names.length:Int))) (obnd (idx x.1.Names x.2) fun y=>obnd (kzd (azf y,100)) fun y=>brn (!y) (some (Sum.inr false)) (back (x.1,i64.wrap (x.2+1)))) (some (Sum.inl PUnit.unit))
def ozO:=iter gzq big
def JzY:Cq:=⟨148,[(1,.ro 29),(7,.val 3)],[(.exit 6,[]),(.ret,[(2,.val 4)])],rg 90 14 [2,7],ozO,none⟩
theorem Ezd:A3 Tryz.f30 148 JzY:=A4 mzm .nil gzq
def lzV (x:Globals):Option (Bool):=brn (decide (20<(↑x.Sheets.length:Int))) (some false) (brn (decide (100<(↑x.Formats.length:Int))) (some false) (brn (decide (400<(↑x.XFs.length:Int))) (some false) (brn (decide (30<(↑x.Names.length:Int))) (some false) (brn (decide (60<(↑x.Texts.Texts.length:Int))) (some false) (brn (decide (200<(↑x.Chain.length:Int))) (some false) (obnd (ozL (x,0,0)) fun y=>obnd (ozM (x,y,0)) fun y=>obnd (ozN (x,y,0)) fun y=>obnd (ozO (x,0)) fun y_1=>osum y_1 (fun y_2=>some (decide (y<20000))) fun y=>some y))))))
def Fz0:Fq:=⟨[(0,.val 29)],[(0,.val 4)],lzV⟩
theorem Fz1:A0 30 Fz0:=A2 Tryz.func30 mzm (.cons Eza (.cons Ezb (.cons Ezc (.cons Ezd .nil))))
abbrev Nzt:List (Nat×Fq):=[(66,szQ)]
theorem yzt:azk Tryz.prog tb (Nzt):=(.cons pzK .nil)
def mzl (back:List Cell2×Int->Option ((Unit)⊕(Bool)))(x:List Cell2×Int):Option ((Unit)⊕(Bool)):=brn (decide (x.2<(↑x.1.length:Int))) (obnd (idx x.1 x.2) fun y=>obnd (kzd (azf y.E,60)) fun y=>brn (!y) (some (Sum.inr false)) (obnd (idx x.1 x.2) fun y=>brn (decide (3000<(↑y.V.S.length:Int))) (some (Sum.inr false)) (back (x.1,i64.wrap (x.2+1))))) (some (Sum.inl PUnit.unit))
def rz6:=iter mzl big
def JzU:Cq:=⟨44,[(0,.val 117),(3,.val 3)],[(.exit 0,[]),(.ret,[(2,.val 4)])],rg 7 23 [2,3],rz6,none⟩
theorem Dz9:A3 Tryz.f67 44 JzU:=A4 yzt .nil mzl
def szS (x:List Cell2):Option (Bool):=brn (decide (120<(↑x.length:Int))) (some false) (obnd (rz6 (x,0)) fun y=>osum y (fun y=>some true) fun y=>some y)
def Nzu:Fq:=⟨[(0,.val 117)],[(0,.val 4)],szS⟩
theorem FzV:A0 67 Nzu:=A2 Tryz.func67 yzt (.cons Dz9 .nil)
abbrev Nzr:List (Nat×Fq):=[(66,szQ)]
theorem yzs:azk Tryz.prog tb (Nzr):=(.cons pzK .nil)
def mzk (back:List Group×Int->Option ((Unit)⊕(Bool)))(x:List Group×Int):Option ((Unit)⊕(Bool)):=brn (decide (x.2<(↑x.1.length:Int))) (obnd (idx x.1 x.2) fun y=>obnd (kzd (azf y.E,60)) fun y=>brn (!y) (some (Sum.inr false)) (back (x.1,i64.wrap (x.2+1)))) (some (Sum.inl PUnit.unit))
def rz5:=iter mzk big
def JzT:Cq:=⟨44,[(0,.val 118),(3,.val 3)],[(.exit 0,[]),(.ret,[(2,.val 4)])],rg 7 13 [2,3],rz5,none⟩
theorem Dz8:A3 Tryz.f68 44 JzT:=A4 yzs .nil mzk
def szR (x:List Group):Option (Bool):=brn (decide (20<(↑x.length:Int))) (some false) (obnd (rz5 (x,0)) fun y=>osum y (fun y=>some true) fun y=>some y)
def Nzs:Fq:=⟨[(0,.val 118)],[(0,.val 4)],szR⟩
theorem FzT:A0 68 Nzs:=A2 Tryz.func68 yzs (.cons Dz8 .nil)
def szT (x:Sheet):Option (Bool):=brn (decide ((↑x.Rows.length:Int)<=60)) (obnd (szS x.Cells) fun y=>brn y (obnd (szR x.Groups) fun y=>some y) (some false)) (some false)
def FzX:Fq:=⟨[(0,.val 120)],[(0,.val 4)],szT⟩
theorem FzY:A0 31 FzX:=A1 Tryz.func31 (.cons FzV (.cons FzT .nil))
abbrev Nzw:List (Nat×Fq):=[(30,Fz0),(31,FzX)]
theorem yzu:azk Tryz.prog tb (Nzw):=(.cons Fz1 (.cons FzY .nil))
def mzn (back:Book×Int->Option ((Unit)⊕(Bool)))(x:Book×Int):Option ((Unit)⊕(Bool)):=brn (decide (x.2<(↑x.1.Sheets.length:Int))) (obnd (idx x.1.Sheets x.2) fun y=>obnd (szT y) fun y=>brn (!y) (some (Sum.inr false)) (back (x.1,i64.wrap (x.2+1)))) (some (Sum.inl PUnit.unit))
def rz7:=iter mzn big
def JzZ:Cq:=⟨44,[(1,.ro 32),(3,.val 3)],[(.exit 0,[]),(.ret,[(2,.val 4)])],rg 14 14 [2,3],rz7,none⟩
theorem Ezf:A3 Tryz.f7 44 JzZ:=A4 yzu .nil mzn
def pzR (x:Book):Option (Bool):=obnd (lzV x.Globals) fun y=>brn (!y) (some false) (brn (decide (12<(↑x.Sheets.length:Int))) (some false) (obnd (rz7 (x,0)) fun y=>osum y (fun y=>some true) fun y=>some y))
def Fz2:Fq:=⟨[(0,.val 32)],[(0,.val 4)],pzR⟩
theorem Fz3:A0 7 Fz2:=A2 Tryz.func7 yzu (.cons Ezf .nil)
def Lzd (x:Dec):Option (Dec):=some x
def law4_ToS:Fq:=⟨[(0,.val 68)],[(0,.val 83)],Lzd⟩
theorem Jz1:A0 212 law4_ToS:=A1 Tryz.func212 .nil
def tzG (x:Val):Option (Val):=obnd (Lzd x.N) fun y=>some (Val.mk x.Kind y x.S x.B x.E)
def Lzh:Fq:=⟨[(0,.val 70)],[(0,.val 85)],tzG⟩
theorem yzv:A0 179 Lzh:=A1 Tryz.func179 (.cons Jz1 .nil)
def Ezh (x:Ref):Option (Ref):=some x
def law8_ToS:Fq:=⟨[(0,.val 72)],[(0,.val 86)],Ezh⟩
theorem Jz3:A0 213 law8_ToS:=A1 Tryz.func213 .nil
def tzF (x:Area):Option (Area):=obnd (Ezh x.A) fun y=>obnd (Ezh x.B) fun y_1=>some (Area.mk y y_1)
def Azb:Fq:=⟨[(0,.val 74)],[(0,.val 88)],tzF⟩
theorem Czd:A0 180 Azb:=A1 Tryz.func180 (.cons Jz3 .nil)
def pzo (self:Expr->Option (Expr)):FSpec tb:=⟨[(0,.val 76)],[(0,.val 90)],self⟩
abbrev law10_ToG (self:Expr->Option (Expr)):List (Nat×Fq):=[(179,Lzh),(180,Azb),(124,(pzo self))]
theorem zzY (self:Expr->Option (Expr))(hself:azy Tryz.prog tb 124 (pzo self)):azk Tryz.prog tb (law10_ToG self):=(.cons yzv (.cons Czd (.cons hself .nil)))
def nzc (self:Expr->Option (Expr))(back:List (Expr)×Expr×Expr×Int->Option ((List (Expr))×Expr))(x:List (Expr)×Expr×Expr×Int):Option ((List (Expr))×Expr):=brn (decide (x.2.2.2<(↑x.2.1.Kids.length:Int))) (obnd (idx x.2.1.Kids x.2.2.2) fun y=>obnd (self (azf y)) fun y=>obnd (app 152 x.1 [azf y]) fun zs=>back (zs,azf x.2.1,Expr.mk x.2.2.1.Kind x.2.2.1.V x.2.2.1.A x.2.2.1.Sheet x.2.2.1.Op zs,i64.wrap (x.2.2.2+1))) (some (x.1,Expr.mk x.2.2.1.Kind x.2.2.1.V x.2.2.1.A x.2.2.1.Sheet x.2.2.1.Op x.1))
def tzA (self:Expr->Option (Expr)):List (Expr)×Expr×Expr×Int->Option ((List (Expr))×Expr):=iter (nzc self) big
def Kz4 (self:Expr->Option (Expr)):CutSpec tb:=⟨36,[(77309411331,.own 90),(1,.ro 76),(3,.ref 90),(4,.val 3)],[(.exit 0,[(77309411331,.own 90)])],[18,19,20,21,22,25,26,27,28,29,30,31,32,33,34,35,23,24,4],(tzA self),none⟩
theorem FzO (self:Expr->Option (Expr))(hself:azy Tryz.prog tb 124 (pzo self)):A3 Tryz.f124 36 (Kz4 self):=A4 (zzY self hself) .nil (nzc self)
def pzn (self:Expr->Option (Expr))(x:Expr):Option (Expr):=obnd (tzG x.V) fun y=>obnd (tzF x.A) fun y_1=>obnd ((tzA self) ([],azf x,Expr.mk x.Kind y y_1 x.Sheet x.Op [],0)) fun y=>some (Expr.mk y.2.Kind y.2.V y.2.A y.2.Sheet y.2.Op y.1)
theorem JzR (self:Expr->Option (Expr))(hself:azy Tryz.prog tb 124 (pzo self)):A0 124 (pzo (pzn self)):=A2 Tryz.func124 (zzY self hself) (.cons (FzO self hself) .nil)
def rzJ:=iter pzn big
def Jzh:Fq:=pzo rzJ
theorem qzR:azy Tryz.prog tb 124 Jzh:=pzI (gzl Tryz.func124 (by kernel_rfl)) JzR
abbrev Kz2:List (Nat×Fq):=[(124,Jzh)]
theorem uzL:azk Tryz.prog tb (Kz2):=(.cons qzR .nil)
def kze (back:List Expr×List (Expr)×Int->Option (List (Expr)))(x:List Expr×List (Expr)×Int):Option (List (Expr)):=brn (decide (x.2.2<(↑x.1.length:Int))) (obnd (idx x.1 x.2.2) fun y=>obnd (rzJ (azf y)) fun y=>obnd (app 152 x.2.1 [azf y]) fun zs=>back (x.1,zs,i64.wrap (x.2.2+1))) (some x.2.1)
def pzM:=iter kze big
def FzN:Cq:=⟨36,[(0,.val 24),(3,.own 90),(4,.val 3)],[(.exit 0,[(3,.own 90)])],rg 3 16 [],pzM,none⟩
theorem zzX:A3 Tryz.f69 36 FzN:=A4 uzL .nil kze
def pzL (x:List Expr):Option (List (Expr)):=obnd (pzM (x,[],0)) fun y=>some y
def Kz3:Fq:=⟨[(0,.val 24)],[(0,.own 90)],pzL⟩
theorem Bz9:A0 69 Kz3:=A2 Tryz.func69 uzL (.cons zzX .nil)
def xzD (x:Table):Option (Table):=obnd (app 16 [] x.Texts) fun zs=>some (Table.mk zs x.Uses)
def law7_ToS:Fq:=⟨[(0,.val 26)],[(0,.val 36)],xzD⟩
theorem Jz2:A0 70 law7_ToS:=A1 Tryz.func70 .nil
def hzU (x:Cell):Option (Cell):=some x
def Lze:Fq:=⟨[(0,.val 64)],[(0,.val 80)],hzU⟩
theorem ozh:A0 181 Lze:=A1 Tryz.func181 .nil
def qzS (x:Place):Option (Place):=obnd (hzU x.At) fun y=>some (Place.mk x.Sheet y)
def wzi:Fq:=⟨[(0,.val 66)],[(0,.val 82)],qzS⟩
theorem yzP:A0 125 wzi:=A1 Tryz.func125 (.cons ozh .nil)
abbrev FzR:List (Nat×Fq):=[(125,wzi)]
theorem rzK:azk Tryz.prog tb (FzR):=(.cons yzP .nil)
def hzT (back:List Place×List (Place)×Int->Option (List (Place)))(x:List Place×List (Place)×Int):Option (List (Place)):=brn (decide (x.2.2<(↑x.1.length:Int))) (obnd (idx x.1 x.2.2) fun y=>obnd (qzS y) fun y=>obnd (app 24 x.2.1 [y]) fun zs=>back (x.1,zs,i64.wrap (x.2.2+1))) (some x.2.1)
def nzd:=iter hzT big
def zzZ:Cq:=⟨36,[(0,.val 27),(3,.own 82),(4,.val 3)],[(.exit 0,[(3,.own 82)])],rg 3 16 [],nzd,none⟩
theorem wzj:A3 Tryz.f71 36 zzZ:=A4 rzK .nil hzT
def mzX (x:List Place):Option (List (Place)):=obnd (nzd (x,[],0)) fun y=>some y
def FzS:Fq:=⟨[(0,.val 27)],[(0,.own 82)],mzX⟩
theorem xzA:A0 71 FzS:=A2 Tryz.func71 rzK (.cons wzj .nil)
def uzP (x:Globals):Option (Globals):=obnd (app 16 [] x.Sheets) fun zs=>obnd (app 16 [] x.Formats) fun zs_1=>obnd (app 8 [] x.XFs) fun zs_2=>obnd (pzL x.Names) fun y=>obnd (xzD x.Texts) fun y_1=>obnd (mzX x.Chain) fun y_2=>some (Globals.mk zs zs_1 zs_2 y y_1 y_2)
def Jzl:Fq:=⟨[(0,.val 29)],[(0,.val 39)],uzP⟩
theorem Hz6:A0 32 Jzl:=A1 Tryz.func32 (.cons Bz9 (.cons Jz2 (.cons xzA .nil)))
def zz5 (x:Cell2):Option (Cell2):=obnd (hzU x.At) fun y=>obnd (tzG x.V) fun y_1=>obnd (rzJ (azf x.E)) fun y_2=>some (Cell2.mk y x.XF y_1 x.Has (azf y_2))
def Jzj:Fq:=⟨[(0,.val 131)],[(0,.val 108)],zz5⟩
theorem Hz4:A0 126 Jzj:=A1 Tryz.func126 (.cons ozh (.cons yzv (.cons qzR .nil)))
abbrev Kz9:List (Nat×Fq):=[(126,Jzj)]
theorem uzN:azk Tryz.prog tb (Kz9):=(.cons Hz4 .nil)
def kzg (back:List Cell2×List (Cell2)×Int->Option (List (Cell2)))(x:List Cell2×List (Cell2)×Int):Option (List (Cell2)):=brn (decide (x.2.2<(↑x.1.length:Int))) (obnd (idx x.1 x.2.2) fun y=>obnd (zz5 (Cell2.mk y.At y.XF y.V y.Has (azf y.E))) fun y=>obnd (app 240 x.2.1 [Cell2.mk y.At y.XF y.V y.Has (azf y.E)]) fun zs=>back (x.1,zs,i64.wrap (x.2.2+1))) (some x.2.1)
def pzQ:=iter kzg big
def FzW:Cq:=⟨36,[(0,.val 117),(3,.own 108),(4,.val 3)],[(.exit 0,[(3,.own 108)])],rg 3 16 [],pzQ,none⟩
theorem zz4:A3 Tryz.f72 36 FzW:=A4 uzN .nil kzg
def pzP (x:List Cell2):Option (List (Cell2)):=obnd (pzQ (x,[],0)) fun y=>some y
def zz3:Fq:=⟨[(0,.val 117)],[(0,.own 108)],pzP⟩
theorem Czb:A0 72 zz3:=A2 Tryz.func72 uzN (.cons zz4 .nil)
def zz2 (x:Group):Option (Group):=obnd (hzU x.A) fun y=>obnd (hzU x.B) fun y_1=>obnd (rzJ (azf x.E)) fun y_2=>some (Group.mk x.Array y y_1 (azf y_2))
def Jzi:Fq:=⟨[(0,.val 145)],[(0,.val 141)],zz2⟩
theorem Hz3:A0 127 Jzi:=A1 Tryz.func127 (.cons ozh (.cons qzR .nil))
abbrev Kz8:List (Nat×Fq):=[(127,Jzi)]
theorem uzM:azk Tryz.prog tb (Kz8):=(.cons Hz3 .nil)
def kzf (back:List Group×List (Group)×Int->Option (List (Group)))(x:List Group×List (Group)×Int):Option (List (Group)):=brn (decide (x.2.2<(↑x.1.length:Int))) (obnd (idx x.1 x.2.2) fun y=>obnd (zz2 (Group.mk y.Array y.A y.B (azf y.E))) fun y=>obnd (app 192 x.2.1 [Group.mk y.Array y.A y.B (azf y.E)]) fun zs=>back (x.1,zs,i64.wrap (x.2.2+1))) (some x.2.1)
def pzO:=iter kzf big
def FzU:Cq:=⟨36,[(0,.val 118),(3,.own 141),(4,.val 3)],[(.exit 0,[(3,.own 141)])],rg 3 16 [],pzO,none⟩
theorem zz1:A3 Tryz.f73 36 FzU:=A4 uzM .nil kzf
def pzN (x:List Group):Option (List (Group)):=obnd (pzO (x,[],0)) fun y=>some y
def zz0:Fq:=⟨[(0,.val 118)],[(0,.own 141)],pzN⟩
theorem Cza:A0 73 zz0:=A2 Tryz.func73 uzM (.cons zz1 .nil)
abbrev law20_ToG:List (Nat×Fq):=[(72,zz3),(73,zz0)]
theorem zz6:azk Tryz.prog tb (law20_ToG):=(.cons Czb (.cons Cza .nil))
def nze (back:List (Row)×Sheet×Sheet×Int->Option ((List (Row))×Sheet))(x:List (Row)×Sheet×Sheet×Int):Option ((List (Row))×Sheet):=brn (decide (x.2.2.2<(↑x.2.1.Rows.length:Int))) (obnd (idx x.2.1.Rows x.2.2.2) fun y=>obnd (idx x.2.1.Rows x.2.2.2) fun y_1=>obnd (idx x.2.1.Rows x.2.2.2) fun y_2=>obnd (app 24 x.1 [Row.mk y.Row y_1.Height y_2.Hidden]) fun zs=>back (zs,x.2.1,Sheet.mk zs x.2.2.1.Cells x.2.2.1.Groups,i64.wrap (x.2.2.2+1))) (some (x.1,Sheet.mk x.1 x.2.2.1.Cells x.2.2.1.Groups))
def tzB:=iter nze big
def Lza:Cq:=⟨36,[(4294967299,.own 174),(1,.ro 120),(3,.ref 101),(4,.val 3)],[(.exit 0,[(4294967299,.own 174)])],rg 12 31 [4],tzB,none⟩
theorem FzZ:A3 Tryz.f33 36 Lza:=A4 zz6 .nil nze
def uzO (x:Sheet):Option (Sheet):=obnd (pzP x.Cells) fun y=>obnd (pzN x.Groups) fun y_1=>obnd (tzB ([],x,Sheet.mk [] y y_1,0)) fun y=>some (Sheet.mk y.1 y.2.Cells y.2.Groups)
def Jzk:Fq:=⟨[(0,.val 120)],[(0,.val 101)],uzO⟩
theorem Hz5:A0 33 Jzk:=A2 Tryz.func33 zz6 (.cons FzZ .nil)
abbrev law22_ToG:List (Nat×Fq):=[(32,Jzl),(33,Jzk)]
theorem zz8:azk Tryz.prog tb (law22_ToG):=(.cons Hz6 (.cons Hz5 .nil))
def nzf (back:List (Sheet)×Book×Book×Int->Option ((List (Sheet))×Book))(x:List (Sheet)×Book×Book×Int):Option ((List (Sheet))×Book):=brn (decide (x.2.2.2<(↑x.2.1.Sheets.length:Int))) (obnd (idx x.2.1.Sheets x.2.2.2) fun y=>obnd (uzO y) fun y=>obnd (app 72 x.1 [y]) fun zs=>back (zs,x.2.1,Book.mk x.2.2.1.Globals zs,i64.wrap (x.2.2.2+1))) (some (x.1,Book.mk x.2.2.1.Globals x.1))
def tzD:=iter nzf big
def Lzb:Cq:=⟨36,[(34359738371,.own 101),(1,.ro 32),(3,.ref 42),(4,.val 3)],[(.exit 0,[(34359738371,.own 101)])],rg 9 18 [4],tzD,none⟩
theorem Fz4:A3 Tryz.f8 36 Lzb:=A4 zz8 .nil nzf
def uzQ (x:Book):Option (Book):=obnd (uzP x.Globals) fun y=>obnd (tzD ([],x,Book.mk y [],0)) fun y=>some (Book.mk y.2.Globals y.1)
def Jzm:Fq:=⟨[(0,.val 32)],[(0,.val 42)],uzQ⟩
theorem Hz7:A0 8 Jzm:=A2 Tryz.func8 zz8 (.cons Fz4 .nil)
def nzU (x:Int×Int×Int):Option ((Int×Int×Int)⊕(List (Int)×Bool)):=brn (decide (x.1<128)) (some (Sum.inl (x.2.1,x.1,x.2.2))) (brn (decide (194<=x.1)) (brn (decide (x.1<224)) (some (Sum.inl (1,czg BinOp.and i64 x.1 31,128))) (brn (decide (224<=x.1)) (brn (decide (x.1<240)) (some (Sum.inl (2,czg BinOp.and i64 x.1 15,2048))) (brn (decide (240<=x.1)) (brn (decide (x.1<245)) (some (Sum.inl (3,czg BinOp.and i64 x.1 7,65536))) (some (Sum.inr ([],false)))) (some (Sum.inr ([],false))))) (brn (decide (240<=x.1)) (brn (decide (x.1<245)) (some (Sum.inl (3,czg BinOp.and i64 x.1 7,65536))) (some (Sum.inr ([],false)))) (some (Sum.inr ([],false)))))) (brn (decide (224<=x.1)) (brn (decide (x.1<240)) (some (Sum.inl (2,czg BinOp.and i64 x.1 15,2048))) (brn (decide (240<=x.1)) (brn (decide (x.1<245)) (some (Sum.inl (3,czg BinOp.and i64 x.1 7,65536))) (some (Sum.inr ([],false)))) (some (Sum.inr ([],false))))) (brn (decide (240<=x.1)) (brn (decide (x.1<245)) (some (Sum.inl (3,czg BinOp.and i64 x.1 7,65536))) (some (Sum.inr ([],false)))) (some (Sum.inr ([],false))))))
def IzC:Cq:=⟨83,[(6,.val 3),(7,.val 3),(9,.val 3)],[(.normal,[(7,.val 3),(8,.val 3),(9,.val 3)]),(.ret,[(2,.own 3),(3,.val 4)])],rg 20 31 (rg 7 3 [2,3]),(nzU),none⟩
theorem CzK:A5 Tryz.f146 83 IzC:=A6 .nil .nil
def lzA (back:List UInt8×Int×Int×Int×Int->Option ((Int)⊕(List (Int)×Bool)))(x:List UInt8×Int×Int×Int×Int):Option ((Int)⊕(List (Int)×Bool)):=brn (decide (x.2.2.2.2<=x.2.2.1)) (obnd (idx x.1 (i64.wrap (x.2.1+x.2.2.2.2))) fun y=>brn (!decide (czg BinOp.and i64 (i64.wrap (↑y.toNat:Int)) 192=128)) (some (Sum.inr ([],false))) (back (x.1,x.2.1,x.2.2.1,czg BinOp.or i64 (i64.wrap (x.2.2.2.1*64)) (czg BinOp.and i64 (i64.wrap (↑y.toNat:Int)) 63),i64.wrap (x.2.2.2.2+1)))) (some (Sum.inl x.2.2.2.1))
def lzB:=iter lzA big
def IzE:Cq:=⟨220,[(0,.val 9),(5,.val 3),(7,.val 3),(8,.val 3),(10,.val 3)],[(.exit 3,[(8,.val 3)]),(.ret,[(2,.own 3),(3,.val 4)])],rg 57 19 [2,3,8,10,11],lzB,none⟩
theorem CzM:A3 Tryz.f146 220 IzE:=A4 .nil .nil lzA
def nzT (x:List UInt8×List (Int)×Int):Option ((List (Int)×Int)⊕(List (Int)×Bool)):=obnd (idx x.1 x.2.2) fun y=>obnd (nzU (i64.wrap (↑y.toNat:Int),0,0)) fun y=>osum y (fun y=>brn (decide (i64.wrap ((↑x.1.length:Int)-x.2.2)<=y.1)) (some (Sum.inr ([],false))) (obnd (lzB (x.1,x.2.2,y.1,y.2.1,1)) fun y_1=>osum y_1 (fun y_2=>brn (decide (y_2<y.2.2)) (some (Sum.inr ([],false))) (brn (decide (55296<=y_2)) (brn (decide (y_2<57344)) (some (Sum.inr ([],false))) (brn (decide (1114111<y_2)) (some (Sum.inr ([],false))) (obnd (app 8 x.2.1 [y_2]) fun zs=>some (Sum.inl (zs,i64.wrap (i64.wrap (x.2.2+y.1)+1)))))) (brn (decide (1114111<y_2)) (some (Sum.inr ([],false))) (obnd (app 8 x.2.1 [y_2]) fun zs=>some (Sum.inl (zs,i64.wrap (i64.wrap (x.2.2+y.1)+1))))))) fun y=>some (Sum.inr y))) fun y=>some (Sum.inr y)
def IzB:Cq:=⟨43,[(0,.val 9),(4,.own 3),(5,.val 3)],[(.normal,[(4,.own 3),(5,.val 3)]),(.ret,[(2,.own 3),(3,.val 4)])],rg 16 83 (rg 2 10 []),(nzT),none⟩
theorem CzJ:A5 Tryz.f146 43 IzB:=A6 .nil (.cons CzK (.cons CzM .nil))
def nzV (back:List UInt8×List (Int)×Int->Option ((List (Int))⊕(List (Int)×Bool)))(x:List UInt8×List (Int)×Int):Option ((List (Int))⊕(List (Int)×Bool)):=brn (decide (x.2.2<(↑x.1.length:Int))) (obnd (nzT (x.1,x.2)) fun y=>osum y (fun y=>back (x.1,y)) fun y=>some (Sum.inr y)) (some (Sum.inl x.2.1))
def qz3:=iter nzV big
def IzD:Cq:=⟨36,[(0,.val 9),(4,.own 3),(5,.val 3)],[(.exit 0,[(4,.own 3)]),(.ret,[(2,.own 3),(3,.val 4)])],rg 2 97 [],qz3,none⟩
theorem CzL:A3 Tryz.f146 36 IzD:=A4 .nil (.cons CzJ .nil) nzV
def kzL (x:List UInt8):Option (List (Int)×Bool):=obnd (qz3 (x,[],0)) fun y=>osum y (fun y=>some (y,true)) fun y=>some y
def rzu:Fq:=⟨[(0,.val 9)],[(0,.own 3),(1,.val 4)],kzL⟩
theorem lz6:A0 146 rzu:=A2 Tryz.func146 .nil (.cons CzL .nil)
def gz0 (back:List Int×List (Int)×Int->Option (List (Int)))(x:List Int×List (Int)×Int):Option (List (Int)):=brn (decide (x.2.2<(↑x.1.length:Int))) (obnd (idx x.1 x.2.2) fun y=>brn (decide (y<65536)) (obnd (idx x.1 x.2.2) fun y=>obnd (app 8 x.2.1 [y]) fun zs=>back (x.1,zs,i64.wrap (x.2.2+1))) (obnd (idx x.1 x.2.2) fun y=>obnd (app 8 x.2.1 [czg BinOp.or i64 55296 ((i64.wrap (y-65536)).fdiv 1024),czg BinOp.or i64 56320 (czg BinOp.and i64 (i64.wrap (y-65536)) 1023)]) fun zs=>back (x.1,zs,i64.wrap (x.2.2+1)))) (some x.2.1)
def nzW:=iter gz0 big
def IzF:Cq:=⟨36,[(0,.val 23),(3,.own 3),(4,.val 3)],[(.exit 0,[(3,.own 3)])],rg 3 35 [],nzW,none⟩
theorem CzO:A3 Tryz.f147 36 IzF:=A4 .nil .nil gz0
def iz8 (x:List Int):Option (List (Int)):=obnd (nzW (x,[],0)) fun y=>some y
def vzK:Fq:=⟨[(0,.val 23)],[(0,.own 3)],iz8⟩
theorem pza:A0 147 vzK:=A2 Tryz.func147 .nil (.cons CzO .nil)
def hzu (x:List UInt8):Option (Int×Int):=obnd (kzL x) fun y=>brn (!y.2) (some (0,2)) (obnd (iz8 y.1) fun y=>brn (decide (1000<(↑(List.length y):Int))) (some (0,4)) (some ((↑(List.length y):Int),0)))
def mzH:Fq:=⟨[(0,.val 9)],[(0,.val 3),(1,.val 3)],hzu⟩
theorem jzF:A0 84 mzH:=A1 Tryz.func84 (.cons lz6 (.cons pza .nil))
def lzg (self:Expr->Option (Int)):FSpec tb:=⟨[(0,.val 76)],[(0,.val 3)],self⟩
abbrev LzC (self:Expr->Option (Int)):List (Nat×Fq):=[(191,(lzg self))]
theorem uz0 (self:Expr->Option (Int))(hself:azy Tryz.prog tb 191 (lzg self)):azk Tryz.prog tb (LzC self):=(.cons hself .nil)
def kzj (self:Expr->Option (Int))(back:Expr×Int×Int->Option (Int))(x:Expr×Int×Int):Option (Int):=brn (decide (x.2.2<(↑x.1.Kids.length:Int))) (obnd (idx x.1.Kids x.2.2) fun y=>obnd (self (azf y)) fun y=>brn (decide (x.2.1<y)) (back (azf x.1,y,i64.wrap (x.2.2+1))) (back (azf x.1,x.2.1,i64.wrap (x.2.2+1)))) (some x.2.1)
def pz4 (self:Expr->Option (Int)):Expr×Int×Int->Option (Int):=iter (kzj self) big
def GzB (self:Expr->Option (Int)):CutSpec tb:=⟨36,[(1,.ro 76),(3,.val 3),(4,.val 3)],[(.exit 0,[(3,.val 3)])],[6,7,8,9,10,13,14,15,16,17,18,5,19,20,21,22,3,11,12,4],(pz4 self),none⟩
theorem Azx (self:Expr->Option (Int))(hself:azy Tryz.prog tb 191 (lzg self)):A3 Tryz.f191 36 (GzB self):=A4 (uz0 self hself) .nil (kzj self)
def lzf (self:Expr->Option (Int))(x:Expr):Option (Int):=obnd ((pz4 self) (azf x,0,0)) fun y=>some (i64.wrap (y+1))
theorem Ezt (self:Expr->Option (Int))(hself:azy Tryz.prog tb 191 (lzg self)):A0 191 (lzg (lzf self)):=A2 Tryz.func191 (uz0 self hself) (.cons (Azx self hself) .nil)
def tzS:=iter lzf big
def LzD:Fq:=lzg tzS
theorem Czg:azy Tryz.prog tb 191 LzD:=pzI (gzl Tryz.func191 (by kernel_rfl)) Ezt
def lze (self:Expr->Option (Int)):FSpec tb:=⟨[(0,.val 76)],[(0,.val 3)],self⟩
abbrev LzA (self:Expr->Option (Int)):List (Nat×Fq):=[(192,(lze self))]
theorem uzZ (self:Expr->Option (Int))(hself:azy Tryz.prog tb 192 (lze self)):azk Tryz.prog tb (LzA self):=(.cons hself .nil)
def kzi (self:Expr->Option (Int))(back:Expr×Int×Int->Option (Int))(x:Expr×Int×Int):Option (Int):=brn (decide (x.2.2<(↑x.1.Kids.length:Int))) (obnd (idx x.1.Kids x.2.2) fun y=>obnd (self (azf y)) fun y=>back (azf x.1,i64.wrap (x.2.1+y),i64.wrap (x.2.2+1))) (some x.2.1)
def pz3 (self:Expr->Option (Int)):Expr×Int×Int->Option (Int):=iter (kzi self) big
def GzA (self:Expr->Option (Int)):CutSpec tb:=⟨36,[(1,.ro 76),(3,.val 3),(4,.val 3)],[(.exit 0,[(3,.val 3)])],[5,6,7,8,9,12,13,14,15,16,17,18,19,3,10,11,4],(pz3 self),none⟩
theorem Azw (self:Expr->Option (Int))(hself:azy Tryz.prog tb 192 (lze self)):A3 Tryz.f192 36 (GzA self):=A4 (uzZ self hself) .nil (kzi self)
def lzd (self:Expr->Option (Int))(x:Expr):Option (Int):=obnd ((pz3 self) (azf x,1,0)) fun y=>some y
theorem Ezs (self:Expr->Option (Int))(hself:azy Tryz.prog tb 192 (lze self)):A0 192 (lze (lzd self)):=A2 Tryz.func192 (uzZ self hself) (.cons (Azw self hself) .nil)
def tzR:=iter lzd big
def LzB:Fq:=lze tzR
theorem Czf:azy Tryz.prog tb 192 LzB:=pzI (gzl Tryz.func192 (by kernel_rfl)) Ezs
def lzl (x:Int):Option (Bool×Int×Bool×Bool×Int):=brn (decide (x=1)) (some (true,0,false,false,0)) (brn (decide (x=2)) (some (false,1,false,false,0)) (brn (decide (x=3)) (some (false,2,false,false,0)) (brn (decide (x=4)) (some (false,1,true,false,0)) (brn (decide (x=5)) (some (false,2,true,false,0)) (brn (decide (x=6)) (some (false,0,false,true,0)) (brn (decide (x=7)) (some (false,0,false,true,1)) (brn (decide (x=8)) (some (false,0,false,true,2)) (brn (decide (x=9)) (some (false,0,false,true,-1)) (some (false,0,false,false,1))))))))))
def AzB:Fq:=⟨[(0,.val 3)],[(0,.val 4),(1,.val 3),(2,.val 4),(3,.val 4),(4,.val 3)],lzl⟩
theorem Czo:A0 229 AzB:=A1 Tryz.func229 .nil
def jzg (x:Dec):Option (Int):=brn (decide (x.S<0)) (some 1) (brn (decide (9<x.S)) (some 1) (brn (decide (0<x.S)) (brn (decide (x.M.tmod 10=0)) (some 1) (some 0)) (some 0)))
def wzJ:Fq:=⟨[(0,.val 68)],[(0,.val 3)],jzg⟩
theorem zzb:A0 219 wzJ:=A1 Tryz.func219 .nil
def qzU (x:Int):Option (List UInt8):=brn (decide (x=0)) (some (U8s [35,78,85,76,76,33])) (brn (decide (x=7)) (some (U8s [35,68,73,86,47,48,33])) (brn (decide (x=15)) (some (U8s [35,86,65,76,85,69,33])) (brn (decide (x=23)) (some (U8s [35,82,69,70,33])) (brn (decide (x=29)) (some (U8s [35,78,65,77,69,63])) (brn (decide (x=36)) (some (U8s [35,78,85,77,33])) (brn (decide (x=42)) (some [35,78,47,65]) (some [])))))))
def wzu:Fq:=⟨[(0,.val 3)],[(0,.val 9)],qzU⟩
theorem yzX:A0 220 wzu:=A1 Tryz.func220 .nil
abbrev Gzz:List (Nat×Fq):=[(219,wzJ),(84,mzH),(220,wzu)]
theorem rzM:azk Tryz.prog tb (Gzz):=(.cons zzb (.cons jzF (.cons yzX .nil)))
def ezA (x:Val):Option (Bool):=brn (!decide (x.Kind=1)) (brn (bif true then !(decide (x.N.M=0)&&decide (x.N.S=0))else decide (x.N.M=0)&&decide (x.N.S=0)) (some true) (brn (!decide (x.Kind=2)) (brn (!decide (x.S=[])) (some true) (brn (!decide (x.Kind=3)) (brn x.B (some true) (brn (!decide (x.Kind=4)) (some (bif decide (x.E=0)then false else true)) (some false))) (brn (!decide (x.Kind=4)) (some (bif decide (x.E=0)then false else true)) (some false)))) (brn (!decide (x.Kind=3)) (brn x.B (some true) (brn (!decide (x.Kind=4)) (some (bif decide (x.E=0)then false else true)) (some false))) (brn (!decide (x.Kind=4)) (some (bif decide (x.E=0)then false else true)) (some false))))) (brn (!decide (x.Kind=2)) (brn (!decide (x.S=[])) (some true) (brn (!decide (x.Kind=3)) (brn x.B (some true) (brn (!decide (x.Kind=4)) (some (bif decide (x.E=0)then false else true)) (some false))) (brn (!decide (x.Kind=4)) (some (bif decide (x.E=0)then false else true)) (some false)))) (brn (!decide (x.Kind=3)) (brn x.B (some true) (brn (!decide (x.Kind=4)) (some (bif decide (x.E=0)then false else true)) (some false))) (brn (!decide (x.Kind=4)) (some (bif decide (x.E=0)then false else true)) (some false))))
def Azv:Cq:=⟨32,[(1,.ro 70)],[(.normal,[(50,.val 4)])],rg 13 38 [],(ezA),none⟩
theorem wzt:A5 Tryz.f198 32 Azv:=A6 rzM .nil
def dzL (x:Val):Option (Int):=brn (decide (x.Kind<0)) (some 1) (brn (decide (4<x.Kind)) (some 1) (obnd (ezA x) fun y=>brn y (some 1) (brn (decide (x.Kind=1)) (obnd (jzg x.N) fun y=>some y) (brn (decide (x.Kind=2)) (obnd (hzu x.S) fun y=>some y.2) (brn (decide (x.Kind=4)) (obnd (qzU x.E) fun y=>brn (decide (y=[])) (some 1) (some 0)) (some 0))))))
def uzY:Fq:=⟨[(0,.val 70)],[(0,.val 3)],dzL⟩
theorem pz2:A0 198 uzY:=A2 Tryz.func198 rzM (.cons wzt .nil)
def fzb (x:Cell):Option (Bool):=brn (decide (0<=x.Row)) (brn (decide (x.Row<65536)) (brn (decide (0<=x.Col)) (some (decide (x.Col<256))) (some false)) (some false)) (some false)
def Dzt:Fq:=⟨[(0,.val 64)],[(0,.val 4)],fzb⟩
theorem lzZ:A0 197 Dzt:=A1 Tryz.func197 .nil
def izk (x:Ref):Option (Int):=obnd (fzb (Cell.mk x.Row x.Col)) fun y=>brn (!y) (some 12) (some 0)
def Gzy:Fq:=⟨[(0,.val 72)],[(0,.val 3)],izk⟩
theorem xzM:A0 235 Gzy:=A1 Tryz.func235 (.cons lzZ .nil)
def cz9 (x:Area):Option (Int):=obnd (izk x.A) fun y=>brn (!decide (y=0)) (some 12) (obnd (izk x.B) fun y=>some y)
def tzQ:Fq:=⟨[(0,.val 74)],[(0,.val 3)],cz9⟩
theorem wzr:A0 230 tzQ:=A1 Tryz.func230 (.cons xzM .nil)
abbrev MzJ:List (Nat×Fq):=[(229,AzB),(198,uzY),(230,tzQ)]
theorem jze:azk Tryz.prog tb (MzJ):=(.cons Czo (.cons pz2 (.cons wzr .nil)))
def jzf (x:Expr):Option (Bool):=brn (decide (x.Kind<1)) (some true) (some (decide (10<x.Kind)))
def Izj:Cq:=⟨16,[(1,.ro 76)],[(.normal,[(18,.val 4)])],rg 11 8 [],(jzf),none⟩
theorem Czi:A5 Tryz.f218 16 Izj:=A6 jze .nil
def lzi (x:Expr×Bool×Int×Bool×Bool×Int):Option (Bool):=brn (!x.2.1) (brn (bif true then !(decide (x.1.V.Kind=0)&&(decide (x.1.V.N.M=0)&&(decide (x.1.V.N.S=0)&&(decide (x.1.V.S=[])&&(decide (x.1.V.B=false)&&decide (x.1.V.E=0))))))else decide (x.1.V.Kind=0)&&(decide (x.1.V.N.M=0)&&(decide (x.1.V.N.S=0)&&(decide (x.1.V.S=[])&&(decide (x.1.V.B=false)&&decide (x.1.V.E=0)))))) (some true) (brn (decide (x.2.2.1<1)) (brn (bif true then !(decide (x.1.A.A.Row=0)&&(decide (x.1.A.A.Col=0)&&(decide (x.1.A.A.RelRow=false)&&decide (x.1.A.A.RelCol=false))))else decide (x.1.A.A.Row=0)&&(decide (x.1.A.A.Col=0)&&(decide (x.1.A.A.RelRow=false)&&decide (x.1.A.A.RelCol=false)))) (some true) (brn (decide (x.2.2.1<2)) (brn (bif true then !(decide (x.1.A.B.Row=0)&&(decide (x.1.A.B.Col=0)&&(decide (x.1.A.B.RelRow=false)&&decide (x.1.A.B.RelCol=false))))else decide (x.1.A.B.Row=0)&&(decide (x.1.A.B.Col=0)&&(decide (x.1.A.B.RelRow=false)&&decide (x.1.A.B.RelCol=false)))) (some true) (brn (!x.2.2.2.1) (brn (!decide (x.1.Sheet=0)) (some true) (brn (!x.2.2.2.2.1) (brn (!decide (x.1.Op=0)) (some true) (brn (decide (x.2.2.2.2.2=0)) (some (decide (0<(↑x.1.Kids.length:Int)))) (some false))) (brn (decide (x.2.2.2.2.2=0)) (some (decide (0<(↑x.1.Kids.length:Int)))) (some false)))) (brn (!x.2.2.2.2.1) (brn (!decide (x.1.Op=0)) (some true) (brn (decide (x.2.2.2.2.2=0)) (some (decide (0<(↑x.1.Kids.length:Int)))) (some false))) (brn (decide (x.2.2.2.2.2=0)) (some (decide (0<(↑x.1.Kids.length:Int)))) (some false))))) (brn (!x.2.2.2.1) (brn (!decide (x.1.Sheet=0)) (some true) (brn (!x.2.2.2.2.1) (brn (!decide (x.1.Op=0)) (some true) (brn (decide (x.2.2.2.2.2=0)) (some (decide (0<(↑x.1.Kids.length:Int)))) (some false))) (brn (decide (x.2.2.2.2.2=0)) (some (decide (0<(↑x.1.Kids.length:Int)))) (some false)))) (brn (!x.2.2.2.2.1) (brn (!decide (x.1.Op=0)) (some true) (brn (decide (x.2.2.2.2.2=0)) (some (decide (0<(↑x.1.Kids.length:Int)))) (some false))) (brn (decide (x.2.2.2.2.2=0)) (some (decide (0<(↑x.1.Kids.length:Int)))) (some false)))))) (brn (decide (x.2.2.1<2)) (brn (bif true then !(decide (x.1.A.B.Row=0)&&(decide (x.1.A.B.Col=0)&&(decide (x.1.A.B.RelRow=false)&&decide (x.1.A.B.RelCol=false))))else decide (x.1.A.B.Row=0)&&(decide (x.1.A.B.Col=0)&&(decide (x.1.A.B.RelRow=false)&&decide (x.1.A.B.RelCol=false)))) (some true) (brn (!x.2.2.2.1) (brn (!decide (x.1.Sheet=0)) (some true) (brn (!x.2.2.2.2.1) (brn (!decide (x.1.Op=0)) (some true) (brn (decide (x.2.2.2.2.2=0)) (some (decide (0<(↑x.1.Kids.length:Int)))) (some false))) (brn (decide (x.2.2.2.2.2=0)) (some (decide (0<(↑x.1.Kids.length:Int)))) (some false)))) (brn (!x.2.2.2.2.1) (brn (!decide (x.1.Op=0)) (some true) (brn (decide (x.2.2.2.2.2=0)) (some (decide (0<(↑x.1.Kids.length:Int)))) (some false))) (brn (decide (x.2.2.2.2.2=0)) (some (decide (0<(↑x.1.Kids.length:Int)))) (some false))))) (brn (!x.2.2.2.1) (brn (!decide (x.1.Sheet=0)) (some true) (brn (!x.2.2.2.2.1) (brn (!decide (x.1.Op=0)) (some true) (brn (decide (x.2.2.2.2.2=0)) (some (decide (0<(↑x.1.Kids.length:Int)))) (some false))) (brn (decide (x.2.2.2.2.2=0)) (some (decide (0<(↑x.1.Kids.length:Int)))) (some false)))) (brn (!x.2.2.2.2.1) (brn (!decide (x.1.Op=0)) (some true) (brn (decide (x.2.2.2.2.2=0)) (some (decide (0<(↑x.1.Kids.length:Int)))) (some false))) (brn (decide (x.2.2.2.2.2=0)) (some (decide (0<(↑x.1.Kids.length:Int)))) (some false))))))) (brn (decide (x.2.2.1<1)) (brn (bif true then !(decide (x.1.A.A.Row=0)&&(decide (x.1.A.A.Col=0)&&(decide (x.1.A.A.RelRow=false)&&decide (x.1.A.A.RelCol=false))))else decide (x.1.A.A.Row=0)&&(decide (x.1.A.A.Col=0)&&(decide (x.1.A.A.RelRow=false)&&decide (x.1.A.A.RelCol=false)))) (some true) (brn (decide (x.2.2.1<2)) (brn (bif true then !(decide (x.1.A.B.Row=0)&&(decide (x.1.A.B.Col=0)&&(decide (x.1.A.B.RelRow=false)&&decide (x.1.A.B.RelCol=false))))else decide (x.1.A.B.Row=0)&&(decide (x.1.A.B.Col=0)&&(decide (x.1.A.B.RelRow=false)&&decide (x.1.A.B.RelCol=false)))) (some true) (brn (!x.2.2.2.1) (brn (!decide (x.1.Sheet=0)) (some true) (brn (!x.2.2.2.2.1) (brn (!decide (x.1.Op=0)) (some true) (brn (decide (x.2.2.2.2.2=0)) (some (decide (0<(↑x.1.Kids.length:Int)))) (some false))) (brn (decide (x.2.2.2.2.2=0)) (some (decide (0<(↑x.1.Kids.length:Int)))) (some false)))) (brn (!x.2.2.2.2.1) (brn (!decide (x.1.Op=0)) (some true) (brn (decide (x.2.2.2.2.2=0)) (some (decide (0<(↑x.1.Kids.length:Int)))) (some false))) (brn (decide (x.2.2.2.2.2=0)) (some (decide (0<(↑x.1.Kids.length:Int)))) (some false))))) (brn (!x.2.2.2.1) (brn (!decide (x.1.Sheet=0)) (some true) (brn (!x.2.2.2.2.1) (brn (!decide (x.1.Op=0)) (some true) (brn (decide (x.2.2.2.2.2=0)) (some (decide (0<(↑x.1.Kids.length:Int)))) (some false))) (brn (decide (x.2.2.2.2.2=0)) (some (decide (0<(↑x.1.Kids.length:Int)))) (some false)))) (brn (!x.2.2.2.2.1) (brn (!decide (x.1.Op=0)) (some true) (brn (decide (x.2.2.2.2.2=0)) (some (decide (0<(↑x.1.Kids.length:Int)))) (some false))) (brn (decide (x.2.2.2.2.2=0)) (some (decide (0<(↑x.1.Kids.length:Int)))) (some false)))))) (brn (decide (x.2.2.1<2)) (brn (bif true then !(decide (x.1.A.B.Row=0)&&(decide (x.1.A.B.Col=0)&&(decide (x.1.A.B.RelRow=false)&&decide (x.1.A.B.RelCol=false))))else decide (x.1.A.B.Row=0)&&(decide (x.1.A.B.Col=0)&&(decide (x.1.A.B.RelRow=false)&&decide (x.1.A.B.RelCol=false)))) (some true) (brn (!x.2.2.2.1) (brn (!decide (x.1.Sheet=0)) (some true) (brn (!x.2.2.2.2.1) (brn (!decide (x.1.Op=0)) (some true) (brn (decide (x.2.2.2.2.2=0)) (some (decide (0<(↑x.1.Kids.length:Int)))) (some false))) (brn (decide (x.2.2.2.2.2=0)) (some (decide (0<(↑x.1.Kids.length:Int)))) (some false)))) (brn (!x.2.2.2.2.1) (brn (!decide (x.1.Op=0)) (some true) (brn (decide (x.2.2.2.2.2=0)) (some (decide (0<(↑x.1.Kids.length:Int)))) (some false))) (brn (decide (x.2.2.2.2.2=0)) (some (decide (0<(↑x.1.Kids.length:Int)))) (some false))))) (brn (!x.2.2.2.1) (brn (!decide (x.1.Sheet=0)) (some true) (brn (!x.2.2.2.2.1) (brn (!decide (x.1.Op=0)) (some true) (brn (decide (x.2.2.2.2.2=0)) (some (decide (0<(↑x.1.Kids.length:Int)))) (some false))) (brn (decide (x.2.2.2.2.2=0)) (some (decide (0<(↑x.1.Kids.length:Int)))) (some false)))) (brn (!x.2.2.2.2.1) (brn (!decide (x.1.Op=0)) (some true) (brn (decide (x.2.2.2.2.2=0)) (some (decide (0<(↑x.1.Kids.length:Int)))) (some false))) (brn (decide (x.2.2.2.2.2=0)) (some (decide (0<(↑x.1.Kids.length:Int)))) (some false))))))
def Izk:Cq:=⟨40,[(1,.ro 76),(3,.val 4),(4,.val 3),(5,.val 4),(6,.val 4),(7,.val 3)],[(.normal,[(85,.val 4)])],rg 28 58 [],(lzi),none⟩
theorem Czj:A5 Tryz.f218 40 Izk:=A6 jze .nil
def eze (x:Expr×Bool):Option (Bool):=brn x.2 (brn (decide (x.1.Sheet<0)) (some true) (some (decide (8<=x.1.Sheet)))) (some false)
def Izl:Cq:=⟨120,[(1,.ro 76),(5,.val 4)],[(.normal,[(115,.val 4)])],rg 105 11 [],(eze),none⟩
theorem Czk:A5 Tryz.f218 120 Izl:=A6 jze .nil
def ezf (x:Int×Int×Int):Option (Int×Int):=brn (decide (x.2.2=6)) (some (x.1,1023)) (brn (decide (x.2.2=7)) (some (1,3)) (brn (decide (x.2.2=8)) (some (1,12)) (brn (decide (x.2.2=9)) (some (x.1,29)) (some (x.1,x.2.1)))))
def Izm:Cq:=⟨163,[(9,.val 3),(10,.val 3),(117,.val 3)],[(.normal,[(9,.val 3),(10,.val 3)])],rg 118 8 [9,10],(ezf),none⟩
theorem Czl:A5 Tryz.f218 163 Izm:=A6 jze .nil
def czI (x:Expr×Int×Int×Int):Option (Bool):=brn (decide (x.1.Op<x.2.2.1)) (some true) (brn (decide (x.2.2.2<x.1.Op)) (some true) (brn (decide (0<x.2.1)) (brn (!decide ((↑x.1.Kids.length:Int)=x.2.1)) (some true) (some (decide (30<(↑x.1.Kids.length:Int))))) (some (decide (30<(↑x.1.Kids.length:Int))))))
def Izn:Cq:=⟨240,[(1,.ro 76),(7,.val 3),(9,.val 3),(10,.val 3)],[(.normal,[(152,.val 4)])],rg 126 27 [],(czI),none⟩
theorem Czm:A5 Tryz.f218 240 Izn:=A6 jze .nil
def fze (x:Expr):Option (Int):=obnd (jzf (azf x)) fun y=>brn y (some 1) (obnd (lzl x.Kind) fun y=>obnd (lzi (azf x,y.1,y.2.1,y.2.2.1,y.2.2.2)) fun y_1=>brn y_1 (some 1) (brn y.1 (obnd (dzL x.V) fun y_2=>brn (!decide (y_2=0)) (some y_2) (brn (decide (x.V.Kind=0)) (some 1) (brn (decide (0<y.2.1)) (obnd (cz9 x.A) fun y_3=>brn (!decide (y_3=0)) (some 12) (obnd (eze (azf x,y.2.2.1)) fun y_4=>brn y_4 (some 1) (obnd (ezf (0,0,x.Kind)) fun y_5=>obnd (czI (azf x,y.2.2.2.2,y_5)) fun y=>brn y (some 1) (some 0)))) (obnd (eze (azf x,y.2.2.1)) fun y_3=>brn y_3 (some 1) (obnd (ezf (0,0,x.Kind)) fun y_4=>obnd (czI (azf x,y.2.2.2.2,y_4)) fun y=>brn y (some 1) (some 0)))))) (brn (decide (0<y.2.1)) (obnd (cz9 x.A) fun y_2=>brn (!decide (y_2=0)) (some 12) (obnd (eze (azf x,y.2.2.1)) fun y_3=>brn y_3 (some 1) (obnd (ezf (0,0,x.Kind)) fun y_4=>obnd (czI (azf x,y.2.2.2.2,y_4)) fun y=>brn y (some 1) (some 0)))) (obnd (eze (azf x,y.2.2.1)) fun y_2=>brn y_2 (some 1) (obnd (ezf (0,0,x.Kind)) fun y_3=>obnd (czI (azf x,y.2.2.2.2,y_3)) fun y=>brn y (some 1) (some 0))))))
def Dzv:Fq:=⟨[(0,.val 76)],[(0,.val 3)],fze⟩
theorem Ezw:A0 218 Dzv:=A2 Tryz.func218 jze (.cons Czi (.cons Czj (.cons Czk (.cons Czl (.cons Czm .nil)))))
def lzk (self:Expr->Option (Int)):FSpec tb:=⟨[(0,.val 76)],[(0,.val 3)],self⟩
abbrev LzF (self:Expr->Option (Int)):List (Nat×Fq):=[(218,Dzv),(193,(lzk self))]
theorem uz1 (self:Expr->Option (Int))(hself:azy Tryz.prog tb 193 (lzk self)):azk Tryz.prog tb (LzF self):=(.cons Ezw (.cons hself .nil))
def kzl (self:Expr->Option (Int))(back:Expr×Int×Int->Option (Int))(x:Expr×Int×Int):Option (Int):=brn (decide (x.2.2<(↑x.1.Kids.length:Int))) (brn (decide (x.2.1=0)) (obnd (idx x.1.Kids x.2.2) fun y=>obnd (self (azf y)) fun y=>back (azf x.1,y,i64.wrap (x.2.2+1))) (some x.2.1)) (some x.2.1)
def pz6 (self:Expr->Option (Int)):Expr×Int×Int->Option (Int):=iter (kzl self) big
def GzF (self:Expr->Option (Int)):CutSpec tb:=⟨36,[(1,.ro 76),(3,.val 3),(4,.val 3)],[(.exit 0,[(3,.val 3)])],[7,8,9,10,11,12,13,14,15,18,19,20,21,22,23,3,16,17,4],(pz6 self),none⟩
theorem Azz (self:Expr->Option (Int))(hself:azy Tryz.prog tb 193 (lzk self)):A3 Tryz.f193 36 (GzF self):=A4 (uz1 self hself) .nil (kzl self)
def lzj (self:Expr->Option (Int))(x:Expr):Option (Int):=obnd (fze (azf x)) fun y=>obnd ((pz6 self) (azf x,y,0)) fun y=>some y
theorem Ezx (self:Expr->Option (Int))(hself:azy Tryz.prog tb 193 (lzk self)):A0 193 (lzk (lzj self)):=A2 Tryz.func193 (uz1 self hself) (.cons (Azz self hself) .nil)
def tzT:=iter lzj big
def LzG:Fq:=lzk tzT
theorem Czn:azy Tryz.prog tb 193 LzG:=pzI (gzl Tryz.func193 (by kernel_rfl)) Ezx
def lzY (x:Expr):Option (Int):=obnd (tzS (azf x)) fun y=>brn (decide (16<y)) (some 11) (obnd (tzR (azf x)) fun y=>brn (decide (1024<y)) (some 4) (obnd (tzT (azf x)) fun y=>some y))
def Ezr:Fq:=⟨[(0,.val 76)],[(0,.val 3)],lzY⟩
theorem wzs:A0 148 Ezr:=A1 Tryz.func148 (.cons Czg (.cons Czf (.cons Czn .nil)))
def kzt (back:Int×Int×List (UInt8)×Int->Option (List (UInt8)))(x:Int×Int×List (UInt8)×Int):Option (List (UInt8)):=brn (decide (x.2.2.2<x.2.1)) (brn (decide (u64.wrap (i64.wrap (8*x.2.2.2))<0)) none (obnd (app 1 x.2.2.1 [UInt8.ofNat (u8.wrap (x.1.fdiv (2^min (u64.wrap (i64.wrap (8*x.2.2.2))).toNat 64))).toNat]) fun zs=>back (x.1,x.2.1,zs,i64.wrap (x.2.2.2+1)))) (some x.2.2.1)
def qzf:=iter kzt big
def GzR:Cq:=⟨36,[(1,.val 276),(2,.val 3),(7,.own 5),(8,.val 3)],[(.exit 0,[(7,.own 5)])],rg 12 14 [7,8],qzf,none⟩
theorem AzQ:A3 Tryz.f152 36 GzR:=A4 .nil .nil kzt
def czx (x:List UInt8×Int×Int):Option (List (UInt8)):=obnd (app 1 [] x.1) fun zs=>obnd (qzf (x.2.1,x.2.2,zs,0)) fun y=>some y
def lzz:Fq:=⟨[(0,.val 178),(1,.val 276),(2,.val 3)],[(0,.own 5)],czx⟩
theorem gze:A0 152 lzz:=A2 Tryz.func152 .nil (.cons AzQ .nil)
abbrev LzJ:List (Nat×Fq):=[(146,rzu)]
theorem uz3:azk Tryz.prog tb (LzJ):=(.cons lz6 .nil)
def kzs (back:List Int×Bool×Int->Option (Bool))(x:List Int×Bool×Int):Option (Bool):=brn (decide (x.2.2<(↑x.1.length:Int))) (brn x.2.1 (obnd (idx x.1 x.2.2) fun y=>back (x.1,decide (y<256),i64.wrap (x.2.2+1))) (back (x.1,false,i64.wrap (x.2.2+1)))) (some x.2.1)
def qze:=iter kzs big
def GzQ:Cq:=⟨36,[(3,.val 23),(4,.val 4),(5,.val 3)],[(.exit 0,[(4,.val 4)])],rg 11 14 [4,5],qze,none⟩
theorem AzP:A3 Tryz.f196 36 GzQ:=A4 uz3 .nil kzs
def nzn (x:List UInt8):Option (Bool):=obnd (kzL x) fun y=>obnd (qze (y.1,y.2,0)) fun y=>some y
def tz5:Fq:=⟨[(0,.val 9)],[(0,.val 4)],nzn⟩
theorem szy:A0 196 tz5:=A2 Tryz.func196 uz3 (.cons AzP .nil)
abbrev LzK:List (Nat×Fq):=[(84,mzH),(152,lzz),(146,rzu),(147,vzK),(196,tz5)]
theorem uz4:azk Tryz.prog tb (LzK):=(.cons jzF (.cons gze (.cons lz6 (.cons pza (.cons szy .nil)))))
def kzu (back:List (UInt8)×List Int×Bool×Int->Option (List (UInt8)))(x:List (UInt8)×List Int×Bool×Int):Option (List (UInt8)):=brn (decide (x.2.2.2<(↑x.2.1.length:Int))) (obnd (idx x.2.1 x.2.2.2) fun y=>obnd (app 1 x.1 [UInt8.ofNat (u8.wrap y).toNat]) fun zs=>brn (!x.2.2.1) (obnd (idx x.2.1 x.2.2.2) fun y=>obnd (app 1 zs [UInt8.ofNat (u8.wrap (Int.fdiv y 256)).toNat]) fun zs=>back (zs,x.2.1,x.2.2.1,i64.wrap (x.2.2.2+1))) (back (zs,x.2.1,x.2.2.1,i64.wrap (x.2.2.2+1)))) (some x.1)
def mzZ:=iter kzu big
def GzS:Cq:=⟨108,[(8,.own 5),(11,.val 23),(12,.val 4),(13,.val 3)],[(.exit 0,[(8,.own 5)])],rg 45 25 [8,13],mzZ,none⟩
theorem AzS:A3 Tryz.f194 108 GzS:=A4 uz4 .nil kzu
def qzg (x:List UInt8×List UInt8):Option (List (UInt8)×Int):=obnd (hzu x.2) fun y=>brn (!decide (y.2=0)) (obnd (app 1 [] x.1) fun zs=>some (zs,y.2)) (obnd (czx (x.1,u64.wrap y.1,2)) fun y=>obnd (kzL x.2) fun y_1=>obnd (iz8 y_1.1) fun y_2=>obnd (nzn x.2) fun y_3=>brn y_3 (obnd (app 1 y [UInt8.ofNat 0]) fun zs=>obnd (mzZ (zs,y_2,y_3,0)) fun y=>some (y,0)) (obnd (app 1 y [UInt8.ofNat 1]) fun zs=>obnd (mzZ (zs,y_2,y_3,0)) fun y=>some (y,0)))
def AzR:Fq:=⟨[(0,.val 178),(1,.val 9)],[(0,.own 5),(1,.val 3)],qzg⟩
theorem CzI:A0 194 AzR:=A2 Tryz.func194 uz4 (.cons AzS .nil)
def fzk (x:List UInt8×Ref):Option (List (UInt8)):=brn x.2.RelRow (brn x.2.RelCol (obnd (czx (x.1,u64.wrap x.2.Row,2)) fun y=>obnd (app 1 y [UInt8.ofNat (u8.wrap x.2.Col).toNat,UInt8.ofNat 3]) fun zs=>some zs) (obnd (czx (x.1,u64.wrap x.2.Row,2)) fun y=>obnd (app 1 y [UInt8.ofNat (u8.wrap x.2.Col).toNat,UInt8.ofNat 1]) fun zs=>some zs)) (brn x.2.RelCol (obnd (czx (x.1,u64.wrap x.2.Row,2)) fun y=>obnd (app 1 y [UInt8.ofNat (u8.wrap x.2.Col).toNat,UInt8.ofNat 2]) fun zs=>some zs) (obnd (czx (x.1,u64.wrap x.2.Row,2)) fun y=>obnd (app 1 y [UInt8.ofNat (u8.wrap x.2.Col).toNat,UInt8.ofNat 0]) fun zs=>some zs))
def yzB:Fq:=⟨[(0,.val 178),(1,.val 72)],[(0,.own 5)],fzk⟩
theorem AzA:A0 195 yzB:=A1 Tryz.func195 (.cons gze .nil)
def fzY (self:List (UInt8)×Expr->Option (List (UInt8))):FSpec tb:=⟨[(0,.own 5),(1,.val 76)],[(0,.own 5)],self⟩
abbrev xzO (self:List (UInt8)×Expr->Option (List (UInt8))):List (Nat×Fq):=[(149,(fzY self)),(152,lzz),(194,AzR),(195,yzB)]
theorem yzA (self:List (UInt8)×Expr->Option (List (UInt8)))(hself:azy Tryz.prog tb 149 (fzY self)):azk Tryz.prog tb (xzO self):=(.cons hself (.cons gze (.cons CzI (.cons AzA .nil))))
def jz3 (self:List (UInt8)×Expr->Option (List (UInt8)))(back:List (UInt8)×Expr×Int->Option (List (UInt8)))(x:List (UInt8)×Expr×Int):Option (List (UInt8)):=brn (decide (x.2.2<(↑x.2.1.Kids.length:Int))) (obnd (idx x.2.1.Kids x.2.2) fun y=>obnd (self (x.1,azf y)) fun y=>back (y,azf x.2.1,i64.wrap (x.2.2+1))) (some x.1)
def ozS (self:List (UInt8)×Expr->Option (List (UInt8))):List (UInt8)×Expr×Int->Option (List (UInt8)):=iter (jz3 self) big
def mzs (self:List (UInt8)×Expr->Option (List (UInt8))):CutSpec tb:=⟨28,[(0,.own 5),(3,.ro 76),(5,.val 3)],[(.exit 0,[(0,.own 5)])],[8,9,10,11,12,15,16,17,18,19,20,21,0,13,14,5],(ozS self),none⟩
theorem GzG (self:List (UInt8)×Expr->Option (List (UInt8))):∀back x,gzw Tryz.prog tb (xzO self) [] (czH 28 Tryz.f149) (mzs self).ins (mzs self).outs back x=jz3 self back x:=fun back x=>by kernel_rfl
theorem Izo (self:List (UInt8)×Expr->Option (List (UInt8))):cutB Tryz.f149.ntmps (mzs self) (czH 28 Tryz.f149)=true:=by kernel_rfl
theorem Ezy (self:List (UInt8)×Expr->Option (List (UInt8)))(hself:azy Tryz.prog tb 149 (fzY self)):A3 Tryz.f149 28 (mzs self):=A4 (yzA self hself) .nil (jz3 self) (hb:=(Izo self)) (hF:=(GzG self))
def fzj (self:List (UInt8)×Expr->Option (List (UInt8)))(x:List (UInt8)×Expr):Option (List (UInt8)):=obnd ((ozS self) (x.1,azf x.2,0)) fun y=>brn (decide (x.2.Kind=1)) (brn (decide (x.2.V.Kind=1)) (obnd (app 1 y [UInt8.ofNat 31]) fun zs=>obnd (czx (zs,u64.wrap x.2.V.N.M,8)) fun y=>obnd (app 1 y [UInt8.ofNat (u8.wrap x.2.V.N.S).toNat]) fun zs=>some zs) (brn (decide (x.2.V.Kind=2)) (obnd (app 1 y [UInt8.ofNat 23]) fun zs=>obnd (qzg (zs,x.2.V.S)) fun y=>some y.1) (brn (decide (x.2.V.Kind=3)) (brn x.2.V.B (obnd (app 1 y [UInt8.ofNat 29,UInt8.ofNat 1]) fun zs=>some zs) (obnd (app 1 y [UInt8.ofNat 29,UInt8.ofNat 0]) fun zs=>some zs)) (obnd (app 1 y [UInt8.ofNat 28,UInt8.ofNat (u8.wrap x.2.V.E).toNat]) fun zs=>some zs)))) (brn (decide (x.2.Kind=2)) (obnd (app 1 y [UInt8.ofNat 36]) fun zs=>obnd (fzk (zs,x.2.A.A)) fun y=>some y) (brn (decide (x.2.Kind=3)) (obnd (app 1 y [UInt8.ofNat 37]) fun zs=>obnd (fzk (zs,x.2.A.A)) fun y=>obnd (fzk (y,x.2.A.B)) fun y=>some y) (brn (decide (x.2.Kind=4)) (obnd (app 1 y [UInt8.ofNat 58,UInt8.ofNat (u8.wrap x.2.Sheet).toNat]) fun zs=>obnd (fzk (zs,x.2.A.A)) fun y=>some y) (brn (decide (x.2.Kind=5)) (obnd (app 1 y [UInt8.ofNat 59,UInt8.ofNat (u8.wrap x.2.Sheet).toNat]) fun zs=>obnd (fzk (zs,x.2.A.A)) fun y=>obnd (fzk (y,x.2.A.B)) fun y=>some y) (brn (decide (x.2.Kind=6)) (obnd (app 1 y [UInt8.ofNat 35]) fun zs=>obnd (czx (zs,u64.wrap x.2.Op,2)) fun y=>some y) (brn (decide (x.2.Kind=7)) (obnd (idx [19,18,20] (i64.wrap (x.2.Op-1))) fun y_1=>obnd (app 1 y [UInt8.ofNat (u8.wrap y_1).toNat]) fun zs=>some zs) (brn (decide (x.2.Kind=8)) (obnd (app 1 y [UInt8.ofNat (u8.wrap (i64.wrap (2+x.2.Op))).toNat]) fun zs=>some zs) (brn (decide (x.2.Kind=9)) (obnd (app 1 y [UInt8.ofNat 34,UInt8.ofNat (u8.wrap (↑x.2.Kids.length:Int)).toNat,UInt8.ofNat (u8.wrap x.2.Op).toNat]) fun zs=>some zs) (obnd (app 1 y [UInt8.ofNat 21]) fun zs=>some zs)))))))))
theorem LzH (self:List (UInt8)×Expr->Option (List (UInt8))):∀x,evFn Tryz.prog tb (xzO self) [(mzs self)] Tryz.f149 (fzY (fzj self)).ins (fzY (fzj self)).outs x=(fzY (fzj self)).f x:=fun x=>by kernel_rfl
theorem MzK (self:List (UInt8)×Expr->Option (List (UInt8))):fnK Tryz.f149 (fzY (fzj self)).ins (fzY (fzj self)).outs=true:=by kernel_rfl
theorem Izp (self:List (UInt8)×Expr->Option (List (UInt8)))(hself:azy Tryz.prog tb 149 (fzY self)):A0 149 (fzY (fzj self)):=A2 Tryz.func149 (yzA self hself) (.cons (Ezy self hself) .nil) (hk:=(MzK self)) (hJ:=(LzH self))
def xzN:=iter fzj big
def NzK:Fq:=fzY xzN
theorem GzH:azy Tryz.prog tb 149 NzK:=pzI (gzl Tryz.func149 (by kernel_rfl)) Izp
def izv (x:Expr):Option (List (UInt8)×Int):=obnd (lzY (azf x)) fun y=>brn (!decide (y=0)) (some ([],y)) (obnd (xzN ([],azf x)) fun y=>brn (decide (4096<(↑(List.length y):Int))) (some ([],4)) (some (y,0)))
def szc:Fq:=⟨[(0,.val 76)],[(0,.own 5),(1,.val 3)],izv⟩
theorem nzj:A0 85 szc:=A1 Tryz.func85 (.cons wzs (.cons GzH .nil))
def fzd (self:Expr->Option (List (Expr))):FSpec tb:=⟨[(0,.val 76)],[(0,.own 76)],self⟩
abbrev vzu (self:Expr->Option (List (Expr))):List (Nat×Fq):=[(86,(fzd self))]
theorem wzv (self:Expr->Option (List (Expr)))(hself:azy Tryz.prog tb 86 (fzd self)):azk Tryz.prog tb (vzu self):=(.cons hself .nil)
def jzd (self:Expr->Option (List (Expr)))(back:Expr×List (Expr)×Int->Option (List (Expr)))(x:Expr×List (Expr)×Int):Option (List (Expr)):=brn (decide (x.2.2<(↑x.1.Kids.length:Int))) (obnd (idx x.1.Kids x.2.2) fun y=>obnd (self (azf y)) fun y=>obnd (app 152 x.2.1 y) fun zs=>back (azf x.1,zs,i64.wrap (x.2.2+1))) (some x.2.1)
def nzN (self:Expr->Option (List (Expr))):Expr×List (Expr)×Int->Option (List (Expr)):=iter (jzd self) big
def lzh (self:Expr->Option (List (Expr))):CutSpec tb:=⟨52,[(1,.ro 76),(3,.own 76),(4,.val 3)],[(.exit 0,[(3,.own 76)])],[15,16,17,18,19,22,23,24,25,26,27,28,29,3,20,21,4],(nzN self),none⟩
theorem Ezu (self:Expr->Option (List (Expr))):∀back x,gzw Tryz.prog tb (vzu self) [] (czH 52 Tryz.f86) (lzh self).ins (lzh self).outs back x=jzd self back x:=fun back x=>by kernel_rfl
theorem GzC (self:Expr->Option (List (Expr))):cutB Tryz.f86.ntmps (lzh self) (czH 52 Tryz.f86)=true:=by kernel_rfl
theorem Czh (self:Expr->Option (List (Expr)))(hself:azy Tryz.prog tb 86 (fzd self)):A3 Tryz.f86 52 (lzh self):=A4 (wzv self hself) .nil (jzd self) (hb:=(GzC self)) (hF:=(Ezu self))
def fzc (self:Expr->Option (List (Expr)))(x:Expr):Option (List (Expr)):=brn (decide (2<=x.Kind)) (brn (decide (x.Kind<=6)) (some [azf x]) (obnd ((nzN self) (azf x,[],0)) fun y=>some y)) (obnd ((nzN self) (azf x,[],0)) fun y=>some y)
theorem Kza (self:Expr->Option (List (Expr))):∀x,evFn Tryz.prog tb (vzu self) [(lzh self)] Tryz.f86 (fzd (fzc self)).ins (fzd (fzc self)).outs x=(fzd (fzc self)).f x:=fun x=>by kernel_rfl
theorem LzE (self:Expr->Option (List (Expr))):fnK Tryz.f86 (fzd (fzc self)).ins (fzd (fzc self)).outs=true:=by kernel_rfl
theorem GzD (self:Expr->Option (List (Expr)))(hself:azy Tryz.prog tb 86 (fzd self)):A0 86 (fzd (fzc self)):=A2 Tryz.func86 (wzv self hself) (.cons (Czh self hself) .nil) (hk:=(LzE self)) (hJ:=(Kza self))
def vzt:=iter fzc big
def Dzu:Fq:=fzd vzt
theorem Ezv:azy Tryz.prog tb 86 Dzu:=pzI (gzl Tryz.func86 (by kernel_rfl)) GzD
abbrev EzI:List (Nat×Fq):=[(84,mzH)]
theorem jzS:azk Tryz.prog tb (EzI):=(.cons jzF .nil)
def dzy (back:Table×Int->Option ((Unit)⊕(Int)))(x:Table×Int):Option ((Unit)⊕(Int)):=brn (decide (x.2<(↑x.1.Texts.length:Int))) (obnd (idx x.1.Texts x.2) fun y=>obnd (hzu y) fun y=>brn (!decide (y.2=0)) (some (Sum.inr y.2)) (back (x.1,i64.wrap (x.2+1)))) (some (Sum.inl PUnit.unit))
def jzT:=iter dzy big
def zzd:Cq:=⟨44,[(1,.ro 26),(3,.val 3)],[(.exit 0,[]),(.ret,[(2,.val 3)])],rg 12 19 (rg 2 4 []),jzT,none⟩
theorem vzG:A3 Tryz.f150 44 zzd:=A4 jzS .nil dzy
def dzA (back:Table×Int×Int->Option ((Unit)⊕(Int)))(x:Table×Int×Int):Option ((Unit)⊕(Int)):=brn (decide (x.2.2<x.2.1)) (obnd (idx x.1.Texts x.2.2) fun y=>obnd (idx x.1.Texts x.2.1) fun y_1=>brn (decide (y=y_1)) (some (Sum.inr 7)) (back (x.1,x.2.1,i64.wrap (x.2.2+1)))) (some (Sum.inl PUnit.unit))
def jzV:=iter dzA big
def zzf:Cq:=⟨116,[(1,.ro 26),(6,.val 3),(7,.val 3)],[(.exit 4,[]),(.ret,[(2,.val 3)])],rg 38 16 [2,7],jzV,none⟩
theorem vzI:A3 Tryz.f150 116 zzf:=A4 jzS .nil dzA
def dzz (back:Table×Int->Option ((Unit)⊕(Int)))(x:Table×Int):Option ((Unit)⊕(Int)):=brn (decide (x.2<(↑x.1.Texts.length:Int))) (obnd (jzV (x.1,x.2,0)) fun y=>osum y (fun y=>back (x.1,i64.wrap (x.2+1))) fun y=>some (Sum.inr y)) (some (Sum.inl PUnit.unit))
def jzU:=iter dzz big
def zze:Cq:=⟨92,[(1,.ro 26),(6,.val 3)],[(.exit 2,[]),(.ret,[(2,.val 3)])],rg 31 23 [2,6,7],jzU,none⟩
theorem vzH:A3 Tryz.f150 92 zze:=A4 jzS (.cons vzI .nil) dzz
def gzZ (x:Table):Option (Int):=brn (decide (1024<(↑x.Texts.length:Int))) (some 4) (obnd (jzT (x,0)) fun y=>osum y (fun y=>obnd (jzU (x,0)) fun y=>osum y (fun y=>brn (decide (x.Uses<(↑x.Texts.length:Int))) (some 1) (brn (decide (2147483647<x.Uses)) (some 1) (some 0))) fun y=>some y) fun y=>some y)
def tz3:Fq:=⟨[(0,.val 26)],[(0,.val 3)],gzZ⟩
theorem wzL:A0 150 tz3:=A2 Tryz.func150 jzS (.cons vzG (.cons vzH .nil))
abbrev LzL:List (Nat×Fq):=[(152,lzz),(146,rzu),(147,vzK),(196,tz5)]
theorem qzh:azk Tryz.prog tb (LzL):=(.cons gze (.cons lz6 (.cons pza (.cons szy .nil))))
def ez1 (back:List (UInt8)×List (Int)×Int×List Int×Int×Int->Option (List (UInt8)×List (Int)×Int))(x:List (UInt8)×List (Int)×Int×List Int×Int×Int):Option (List (UInt8)×List (Int)×Int):=brn (decide (x.2.2.2.2.2<(↑x.2.2.2.1.length:Int))) (brn (decide (224<i64.wrap (i64.wrap ((↑x.1.length:Int)-x.2.2.1)+x.2.2.2.2.1))) (obnd (app 8 x.2.1 [(↑x.1.length:Int)]) fun zs=>obnd (app 1 x.1 [UInt8.ofNat (u8.wrap (i64.wrap (x.2.2.2.2.1-1))).toNat]) fun zs_1=>obnd (idx x.2.2.2.1 x.2.2.2.2.2) fun y=>obnd (app 1 zs_1 [UInt8.ofNat (u8.wrap y).toNat]) fun zs_2=>brn (decide (x.2.2.2.2.1=2)) (obnd (idx x.2.2.2.1 x.2.2.2.2.2) fun y=>obnd (app 1 zs_2 [UInt8.ofNat (u8.wrap (Int.fdiv y 256)).toNat]) fun zs_3=>back (zs_3,zs,(↑x.1.length:Int),x.2.2.2.1,x.2.2.2.2.1,i64.wrap (x.2.2.2.2.2+1))) (back (zs_2,zs,(↑x.1.length:Int),x.2.2.2.1,x.2.2.2.2.1,i64.wrap (x.2.2.2.2.2+1)))) (obnd (idx x.2.2.2.1 x.2.2.2.2.2) fun y=>obnd (app 1 x.1 [UInt8.ofNat (u8.wrap y).toNat]) fun zs=>brn (decide (x.2.2.2.2.1=2)) (obnd (idx x.2.2.2.1 x.2.2.2.2.2) fun y=>obnd (app 1 zs [UInt8.ofNat (u8.wrap (Int.fdiv y 256)).toNat]) fun zs=>back (zs,x.2.1,x.2.2.1,x.2.2.2.1,x.2.2.2.2.1,i64.wrap (x.2.2.2.2.2+1))) (back (zs,x.2.1,x.2.2.1,x.2.2.2.1,x.2.2.2.2.1,i64.wrap (x.2.2.2.2.2+1))))) (some (x.1,x.2.1,x.2.2.1))
def ezp:=iter ez1 big
def GzU:Cq:=⟨164,[(5,.own 5),(6,.own 3),(8,.val 3),(12,.val 23),(13,.val 3),(14,.val 3)],[(.exit 2,[(5,.own 5),(6,.own 3),(8,.val 3)])],rg 79 45 [5,6,8,14],ezp,none⟩
theorem AzV:A3 Tryz.f151 164 GzU:=A4 qzh .nil ez1
def ez0 (back:Table×List (UInt8)×List (Int)×List (Int)×Int×Int->Option (List (UInt8)×List (Int)×List (Int)))(x:Table×List (UInt8)×List (Int)×List (Int)×Int×Int):Option (List (UInt8)×List (Int)×List (Int)):=brn (decide (x.2.2.2.2.2<(↑x.1.Texts.length:Int))) (obnd (idx x.1.Texts x.2.2.2.2.2) fun y=>obnd (kzL y) fun y=>obnd (iz8 y.1) fun y=>obnd (idx x.1.Texts x.2.2.2.2.2) fun y_1=>obnd (nzn y_1) fun y_2=>brn y_2 (brn (decide (224<i64.wrap (i64.wrap ((↑x.2.1.length:Int)-x.2.2.2.2.1)+3))) (obnd (app 8 x.2.2.1 [(↑x.2.1.length:Int)]) fun zs=>obnd (app 8 x.2.2.2.1 [(↑x.2.1.length:Int)]) fun zs_1=>obnd (app 1 x.2.1 [UInt8.ofNat (u8.wrap (↑(List.length y):Int)).toNat,UInt8.ofNat (u8.wrap ((↑(List.length y):Int).fdiv 256)).toNat,UInt8.ofNat 0]) fun zs_2=>obnd (ezp (zs_2,zs,(↑x.2.1.length:Int),y,1,0)) fun y=>back (x.1,y.1,y.2.1,zs_1,y.2.2,i64.wrap (x.2.2.2.2.2+1))) (obnd (app 8 x.2.2.2.1 [(↑x.2.1.length:Int)]) fun zs=>obnd (app 1 x.2.1 [UInt8.ofNat (u8.wrap (↑(List.length y):Int)).toNat,UInt8.ofNat (u8.wrap ((↑(List.length y):Int).fdiv 256)).toNat,UInt8.ofNat 0]) fun zs_1=>obnd (ezp (zs_1,x.2.2.1,x.2.2.2.2.1,y,1,0)) fun y=>back (x.1,y.1,y.2.1,zs,y.2.2,i64.wrap (x.2.2.2.2.2+1)))) (brn (decide (224<i64.wrap (i64.wrap ((↑x.2.1.length:Int)-x.2.2.2.2.1)+3))) (obnd (app 8 x.2.2.1 [(↑x.2.1.length:Int)]) fun zs=>obnd (app 8 x.2.2.2.1 [(↑x.2.1.length:Int)]) fun zs_1=>obnd (app 1 x.2.1 [UInt8.ofNat (u8.wrap (↑(List.length y):Int)).toNat,UInt8.ofNat (u8.wrap ((↑(List.length y):Int).fdiv 256)).toNat,UInt8.ofNat 1]) fun zs_2=>obnd (ezp (zs_2,zs,(↑x.2.1.length:Int),y,2,0)) fun y=>back (x.1,y.1,y.2.1,zs_1,y.2.2,i64.wrap (x.2.2.2.2.2+1))) (obnd (app 8 x.2.2.2.1 [(↑x.2.1.length:Int)]) fun zs=>obnd (app 1 x.2.1 [UInt8.ofNat (u8.wrap (↑(List.length y):Int)).toNat,UInt8.ofNat (u8.wrap ((↑(List.length y):Int).fdiv 256)).toNat,UInt8.ofNat 1]) fun zs_1=>obnd (ezp (zs_1,x.2.2.1,x.2.2.2.2.1,y,2,0)) fun y=>back (x.1,y.1,y.2.1,zs,y.2.2,i64.wrap (x.2.2.2.2.2+1))))) (some (x.2.1,x.2.2.1,x.2.2.2.1))
def mz0:=iter ez0 big
def GzT:Cq:=⟨60,[(1,.ro 26),(5,.own 5),(6,.own 3),(7,.own 3),(8,.val 3),(9,.val 3)],[(.exit 0,[(5,.own 5),(6,.own 3),(7,.own 3)])],rg 24 100 (rg 5 10 []),mz0,none⟩
theorem AzU:A3 Tryz.f151 60 GzT:=A4 qzh (.cons AzV .nil) ez0
def lzC (x:Table):Option (List (UInt8)×List (Int)×List (Int)):=obnd (czx ([],u64.wrap x.Uses,4)) fun y=>obnd (czx (y,u64.wrap (↑x.Texts.length:Int),4)) fun y=>obnd (mz0 (x,y,[],[],0,0)) fun y=>some (y.1,y.2)
def AzT:Fq:=⟨[(0,.val 26)],[(0,.own 5),(1,.own 3),(2,.own 3)],lzC⟩
theorem CzN:A0 151 AzT:=A2 Tryz.func151 qzh (.cons AzU .nil)
def ezj (back:Rec×Int×Int->Option ((Unit)⊕(Int)))(x:Rec×Int×Int):Option ((Unit)⊕(Int)):=brn (decide (x.2.2<(↑x.1.Cuts.length:Int))) (obnd (idx x.1.Cuts x.2.2) fun y=>brn (decide (y<=x.2.1)) (some (Sum.inr 6)) (obnd (idx x.1.Cuts x.2.2) fun y=>brn (decide ((↑x.1.Data.length:Int)<=y)) (some (Sum.inr 6)) (obnd (idx x.1.Cuts x.2.2) fun y=>back (x.1,y,i64.wrap (x.2.2+1))))) (some (Sum.inl PUnit.unit))
def kzT:=iter ezj big
def CzF:Cq:=⟨68,[(1,.ro 196),(3,.val 3),(4,.val 3)],[(.exit 0,[]),(.ret,[(2,.val 3)])],rg 23 30 (rg 2 3 []),kzT,none⟩
theorem xzX:A3 Tryz.f153 68 CzF:=A4 .nil .nil ezj
def ezk (back:Rec×Int×Int->Option ((Int)⊕(Int)))(x:Rec×Int×Int):Option ((Int)⊕(Int)):=brn (decide (x.2.2<(↑x.1.Cuts.length:Int))) (obnd (idx x.1.Cuts x.2.2) fun y=>brn (decide (224<i64.wrap (y-x.2.1))) (some (Sum.inr 4)) (obnd (idx x.1.Cuts x.2.2) fun y=>back (x.1,y,i64.wrap (x.2.2+1)))) (some (Sum.inl x.2.1))
def kzU:=iter ezk big
def CzG:Cq:=⟨124,[(1,.ro 196),(3,.val 3),(5,.val 3)],[(.exit 2,[(3,.val 3)]),(.ret,[(2,.val 3)])],rg 53 20 [2,3,5],kzU,none⟩
theorem xzY:A3 Tryz.f153 124 CzG:=A4 .nil .nil ezk
def ezR (x:Rec):Option (Int):=brn (decide (x.Type_<0)) (some 1) (brn (decide (65535<x.Type_)) (some 1) (brn (decide (x.Type_=60)) (some 1) (brn (decide (65536<(↑x.Data.length:Int))) (some 4) (obnd (kzT (x,0,0)) fun y=>osum y (fun y=>obnd (kzU (x,0,0)) fun y=>osum y (fun y=>brn (decide (224<i64.wrap ((↑x.Data.length:Int)-y))) (some 4) (some 0)) fun y=>some y) fun y=>some y))))
def wzK:Fq:=⟨[(0,.val 196)],[(0,.val 3)],ezR⟩
theorem zzc:A0 153 wzK:=A2 Tryz.func153 .nil (.cons xzX (.cons xzY .nil))
def mzY (back:List (Int)×Rec×Int->Option ((List (Int))×Rec))(x:List (Int)×Rec×Int):Option ((List (Int))×Rec):=brn (decide (x.2.2<(↑x.2.1.Data.length:Int))) (obnd (app 8 x.1 [x.2.2]) fun zs=>back (zs,Rec.mk x.2.1.Type_ x.2.1.Data zs x.2.1.At,i64.wrap (x.2.2+224))) (some (x.1,Rec.mk x.2.1.Type_ x.2.1.Data x.1 x.2.1.At))
def qzc:=iter mzY big
def GzP:Cq:=⟨36,[(12884901889,.own 3),(1,.ref 196),(3,.val 3)],[(.exit 0,[(12884901889,.own 3)])],rg 5 13 [3],qzc,none⟩
theorem AzO:A3 Tryz.f154 36 GzP:=A4 .nil .nil mzY
def lzy (x:Rec):Option (Rec):=obnd (qzc ([],Rec.mk x.Type_ x.Data [] x.At,224)) fun y=>some (Rec.mk y.2.Type_ y.2.Data y.1 y.2.At)
def tz4:Fq:=⟨[(0,.val 196)],[(0,.val 196)],lzy⟩
theorem szw:A0 154 tz4:=A2 Tryz.func154 .nil (.cons AzO .nil)
abbrev CzH:List (Nat×Fq):=[(150,tz3),(151,AzT),(152,lzz),(153,wzK),(154,tz4)]
theorem qzd:azk Tryz.prog tb (CzH):=(.cons wzL (.cons CzN (.cons gze (.cons zzc (.cons szw .nil)))))
def izV (back:List Int×List (UInt8)×Int->Option (List (UInt8)))(x:List Int×List (UInt8)×Int):Option (List (UInt8)):=brn (decide (x.2.2<(↑x.1.length:Int))) (obnd (idx x.1 x.2.2) fun y=>obnd (czx (x.2.1,u64.wrap y,4)) fun y=>back (x.1,y,i64.wrap (x.2.2+8))) (some x.2.1)
def izW:=iter izV big
def xzZ:Cq:=⟨68,[(8,.val 23),(9,.own 5),(10,.val 3)],[(.exit 0,[(9,.own 5)])],rg 26 13 [9,10],izW,none⟩
theorem uzu:A3 Tryz.f87 68 xzZ:=A4 qzd .nil izV
def ezX (x:Table):Option (Rec×Rec×Int):=obnd (gzZ x) fun y=>brn (!decide (y=0)) (some (Rec.mk 0 [] [] 0,Rec.mk 0 [] [] 0,y)) (obnd (lzC x) fun y=>obnd (czx ([],8,2)) fun y_1=>obnd (izW (y.2.2,y_1,0)) fun y_2=>obnd (ezR (Rec.mk 252 y.1 y.2.1 0)) fun y_3=>brn (!decide (y_3=0)) (some (Rec.mk 0 [] [] 0,Rec.mk 0 [] [] 0,y_3)) (obnd (lzy (Rec.mk 255 y_2 [] 0)) fun y_4=>some (Rec.mk 252 y.1 y.2.1 0,y_4,0)))
def szx:Fq:=⟨[(0,.val 26)],[(0,.val 196),(1,.val 196),(2,.val 3)],ezX⟩
theorem vzJ:A0 87 szx:=A2 Tryz.func87 qzd (.cons uzu .nil)
def gzW (x:Place×Int):Option (Bool):=brn (decide (0<=x.1.Sheet)) (brn (decide (x.1.Sheet<x.2)) (obnd (fzb x.1.At) fun y=>some y) (some false)) (some false)
def tzY:Fq:=⟨[(0,.val 66),(1,.val 3)],[(0,.val 4)],gzW⟩
theorem wzB:A0 155 tzY:=A1 Tryz.func155 (.cons lzZ .nil)
abbrev AzD:List (Nat×Fq):=[(152,lzz),(155,tzY),(154,tz4)]
theorem pzs:azk Tryz.prog tb (AzD):=(.cons gze (.cons wzB (.cons szw .nil)))
def dzf (back:List Place×Rec×List (UInt8)×Int->Option (((List (UInt8))×Rec)⊕((Int)×Rec)))(x:List Place×Rec×List (UInt8)×Int):Option (((List (UInt8))×Rec)⊕((Int)×Rec)):=brn (decide (x.2.2.2<(↑x.1.length:Int))) (obnd (idx x.1 x.2.2.2) fun y=>obnd (gzW (y,8)) fun y=>brn (!y) (some (Sum.inr (12,Rec.mk 0 [] [] 0))) (obnd (idx x.1 x.2.2.2) fun y=>obnd (app 1 x.2.2.1 [UInt8.ofNat (u8.wrap y.Sheet).toNat]) fun zs=>obnd (idx x.1 x.2.2.2) fun y=>obnd (czx (zs,u64.wrap y.At.Row,2)) fun y=>obnd (idx x.1 x.2.2.2) fun y_1=>obnd (app 1 y [UInt8.ofNat (u8.wrap y_1.At.Col).toNat]) fun zs=>back (x.1,x.2.1,zs,i64.wrap (x.2.2.2+1)))) (some (Sum.inl (x.2.2.1,x.2.1)))
def izn:=iter dzf big
def wzA:Cq:=⟨52,[(0,.val 27),(2,.ref 196),(4,.own 5),(5,.val 3)],[(.exit 0,[(4,.own 5)]),(.ret,[(3,.val 3)])],rg 14 39 (rg 3 3 []),izn,none⟩
theorem tzX:A3 Tryz.f88 52 wzA:=A4 pzs .nil dzf
def ezB (x:List Place):Option (Rec×Int):=brn (decide (4096<(↑x.length:Int))) (some (Rec.mk 0 [] [] 0,4)) (obnd (czx ([],u64.wrap (↑x.length:Int),2)) fun y=>obnd (izn (x,Rec.mk 0 [] [] 0,y,0)) fun y=>osum y (fun y=>obnd (lzy (Rec.mk 6247 y.1 [] 0)) fun y=>some (y,0)) fun y=>some (y.2,y.1))
def rzP:Fq:=⟨[(0,.val 27)],[(0,.val 196),(1,.val 3)],ezB⟩
theorem uzq:A0 88 rzP:=A2 Tryz.func88 pzs (.cons tzX .nil)
abbrev yz4:List (Nat×Fq):=[(84,mzH),(85,szc),(86,Dzu),(87,szx),(88,rzP)]
theorem czU:azk Tryz.prog tb (yz4):=(.cons jzF (.cons nzj (.cons Ezv (.cons vzJ (.cons uzq .nil)))))
def ezg (x:Globals):Option (Bool):=brn (decide ((↑x.Sheets.length:Int)<1)) (some true) (brn (decide (8<(↑x.Sheets.length:Int))) (some true) (brn (decide (64<(↑x.Formats.length:Int))) (some true) (brn (decide (256<(↑x.XFs.length:Int))) (some true) (some (decide (1024<(↑x.Names.length:Int)))))))
def vzx:Cq:=⟨16,[(1,.ro 29)],[(.normal,[(46,.val 4)])],rg 19 28 [],(ezg),none⟩
theorem szZ:A5 Tryz.f38 16 vzx:=A6 czU .nil
def czW (back:Globals×Int×Int->Option ((Unit)⊕(Int)))(x:Globals×Int×Int):Option ((Unit)⊕(Int)):=brn (decide (x.2.2<x.2.1)) (obnd (idx x.1.Sheets x.2.2) fun y=>obnd (idx x.1.Sheets x.2.1) fun y_1=>brn (decide (y=y_1)) (some (Sum.inr 7)) (back (x.1,x.2.1,i64.wrap (x.2.2+1)))) (some (Sum.inl PUnit.unit))
def hzn:=iter czW big
def vzz:Cq:=⟨92,[(1,.ro 29),(3,.val 3),(6,.val 3)],[(.exit 2,[]),(.ret,[(2,.val 3)])],rg 73 16 [2,6],hzn,none⟩
theorem sz1:A3 Tryz.f38 92 vzz:=A4 czU .nil czW
def czV (back:Globals×Int->Option ((Unit)⊕(Int)))(x:Globals×Int):Option ((Unit)⊕(Int)):=brn (decide (x.2<(↑x.1.Sheets.length:Int))) (obnd (idx x.1.Sheets x.2) fun y=>obnd (hzu y) fun y=>brn (!decide (y.2=0)) (some (Sum.inr 3)) (brn (decide (y.1<1)) (some (Sum.inr 3)) (brn (decide (31<y.1)) (some (Sum.inr 3)) (obnd (hzn (x.1,x.2,0)) fun y=>osum y (fun y=>back (x.1,i64.wrap (x.2+1))) fun y=>some (Sum.inr y))))) (some (Sum.inl PUnit.unit))
def hzm:=iter czV big
def vzy:Cq:=⟨44,[(1,.ro 29),(3,.val 3)],[(.exit 0,[]),(.ret,[(2,.val 3)])],rg 47 42 (rg 2 5 []),hzm,none⟩
theorem sz0:A3 Tryz.f38 44 vzy:=A4 czU (.cons sz1 .nil) czV
def czX (back:Globals×Int->Option ((Unit)⊕(Int)))(x:Globals×Int):Option ((Unit)⊕(Int)):=brn (decide (x.2<(↑x.1.Formats.length:Int))) (obnd (idx x.1.Formats x.2) fun y=>obnd (hzu y) fun y=>brn (!decide (y.2=0)) (some (Sum.inr y.2)) (back (x.1,i64.wrap (x.2+1)))) (some (Sum.inl PUnit.unit))
def hzo:=iter czX big
def vzA:Cq:=⟨132,[(1,.ro 29),(7,.val 3)],[(.exit 4,[]),(.ret,[(2,.val 3)])],rg 89 19 (rg 7 3 [2]),hzo,none⟩
theorem sz2:A3 Tryz.f38 132 vzA:=A4 czU .nil czX
def czY (back:Globals×Int->Option ((Unit)⊕(Int)))(x:Globals×Int):Option ((Unit)⊕(Int)):=brn (decide (x.2<(↑x.1.XFs.length:Int))) (obnd (idx x.1.XFs x.2) fun y=>brn (decide (y<0)) (some (Sum.inr 1)) (obnd (idx x.1.XFs x.2) fun y=>brn (decide ((↑x.1.Formats.length:Int)<=y)) (obnd (idx x.1.XFs x.2) fun y=>brn (!decide (y=0)) (some (Sum.inr 1)) (back (x.1,i64.wrap (x.2+1)))) (back (x.1,i64.wrap (x.2+1))))) (some (Sum.inl PUnit.unit))
def hzp:=iter czY big
def vzB:Cq:=⟨180,[(1,.ro 29),(10,.val 3)],[(.exit 6,[]),(.ret,[(2,.val 3)])],rg 108 32 [2,10],hzp,none⟩
theorem sz3:A3 Tryz.f38 180 vzB:=A4 czU .nil czY
def cz0 (back:List Expr×Int->Option ((Unit)⊕(Int)))(x:List Expr×Int):Option ((Unit)⊕(Int)):=brn (decide (x.2<(↑x.1.length:Int))) (obnd (idx x.1 x.2) fun y=>brn (decide (y.Kind=6)) (some (Sum.inr 3)) (back (x.1,i64.wrap (x.2+1)))) (some (Sum.inl PUnit.unit))
def hzt:=iter cz0 big
def vzD:Cq:=⟨276,[(14,.val 24),(15,.val 3)],[(.exit 10,[]),(.ret,[(2,.val 3)])],rg 165 12 [2,15],hzt,none⟩
theorem sz5:A3 Tryz.f38 276 vzD:=A4 czU .nil cz0
def czZ (back:Globals×Int->Option ((Unit)⊕(Int)))(x:Globals×Int):Option ((Unit)⊕(Int)):=brn (decide (x.2<(↑x.1.Names.length:Int))) (obnd (idx x.1.Names x.2) fun y=>obnd (izv (azf y)) fun y=>brn (!decide (y.2=0)) (some (Sum.inr y.2)) (obnd (idx x.1.Names x.2) fun y=>obnd (vzt (azf y)) fun y=>obnd (hzt (y,0)) fun y=>osum y (fun y=>back (x.1,i64.wrap (x.2+1))) fun y=>some (Sum.inr y))) (some (Sum.inl PUnit.unit))
def hzq:=iter czZ big
def vzC:Cq:=⟨220,[(1,.ro 29),(11,.val 3)],[(.exit 8,[]),(.ret,[(2,.val 3)])],rg 140 37 (rg 11 5 [2]),hzq,none⟩
theorem sz4:A3 Tryz.f38 220 vzC:=A4 czU (.cons sz5 .nil) czZ
def dzx (x:Globals):Option (Int):=obnd (ezg x) fun y=>brn y (some 4) (obnd (hzm (x,0)) fun y=>osum y (fun y=>obnd (hzo (x,0)) fun y=>osum y (fun y=>obnd (hzp (x,0)) fun y=>osum y (fun y=>obnd (hzq (x,0)) fun y=>osum y (fun y=>brn (decide ((↑x.Texts.Texts.length:Int)=0)) (brn (!decide (x.Texts.Uses=0)) (some 1) (obnd (ezX x.Texts) fun y=>brn (!decide (y.2.2=0)) (some y.2.2) (obnd (ezB x.Chain) fun y=>some y.2))) (obnd (ezX x.Texts) fun y=>brn (!decide (y.2.2=0)) (some y.2.2) (obnd (ezB x.Chain) fun y=>some y.2))) fun y=>some y) fun y=>some y) fun y=>some y) fun y=>some y)
def qzw:Fq:=⟨[(0,.val 29)],[(0,.val 3)],dzx⟩
theorem tz1:A0 38 qzw:=A2 Tryz.func38 czU (.cons szZ (.cons sz0 (.cons sz2 (.cons sz3 (.cons sz4 .nil)))))
def izl (self:Expr×Expr->Option (Bool)):FSpec tb:=⟨[(0,.val 76),(1,.val 76)],[(0,.val 4)],self⟩
abbrev GzE (self:Expr×Expr->Option (Bool)):List (Nat×Fq):=[(20,(izl self))]
theorem rzN (self:Expr×Expr->Option (Bool))(hself:azy Tryz.prog tb 20 (izl self)):azk Tryz.prog tb (GzE self):=(.cons hself .nil)
def dzQ (self:Expr×Expr->Option (Bool))(back:Expr×Expr×Int->Option ((Unit)⊕(Bool)))(x:Expr×Expr×Int):Option ((Unit)⊕(Bool)):=brn (decide (x.2.2<(↑x.1.Kids.length:Int))) (obnd (idx x.1.Kids x.2.2) fun y=>obnd (idx x.2.1.Kids x.2.2) fun y_1=>obnd (self (azf y,azf y_1)) fun y=>brn (!y) (some (Sum.inr false)) (back (azf x.1,azf x.2.1,i64.wrap (x.2.2+1)))) (some (Sum.inl PUnit.unit))
def kzk (self:Expr×Expr->Option (Bool)):Expr×Expr×Int->Option ((Unit)⊕(Bool)):=iter (dzQ self) big
def Azy (self:Expr×Expr->Option (Bool)):CutSpec tb:=⟨44,[(2,.ro 76),(3,.ro 76),(5,.val 3)],[(.exit 0,[]),(.ret,[(4,.val 4)])],[48,49,50,51,52,55,56,57,58,59,60,61,62,63,64,65,66,4,53,54,5],(kzk self),none⟩
theorem wzw (self:Expr×Expr->Option (Bool))(hself:azy Tryz.prog tb 20 (izl self)):A3 Tryz.f20 44 (Azy self):=A4 (rzN self hself) .nil (dzQ self)
def dzM (self:Expr×Expr->Option (Bool))(x:Expr×Expr):Option (Bool):=brn (!decide (x.1.Kind=x.2.Kind)) (some false) (brn (bif true then !(decide (x.1.V.Kind=x.2.V.Kind)&&(decide (x.1.V.N.M=x.2.V.N.M)&&(decide (x.1.V.N.S=x.2.V.N.S)&&(decide (x.1.V.S=x.2.V.S)&&(decide (x.1.V.B=x.2.V.B)&&decide (x.1.V.E=x.2.V.E))))))else decide (x.1.V.Kind=x.2.V.Kind)&&(decide (x.1.V.N.M=x.2.V.N.M)&&(decide (x.1.V.N.S=x.2.V.N.S)&&(decide (x.1.V.S=x.2.V.S)&&(decide (x.1.V.B=x.2.V.B)&&decide (x.1.V.E=x.2.V.E)))))) (some false) (brn (bif true then !(decide (x.1.A.A.Row=x.2.A.A.Row)&&(decide (x.1.A.A.Col=x.2.A.A.Col)&&(decide (x.1.A.A.RelRow=x.2.A.A.RelRow)&&(decide (x.1.A.A.RelCol=x.2.A.A.RelCol)&&(decide (x.1.A.B.Row=x.2.A.B.Row)&&(decide (x.1.A.B.Col=x.2.A.B.Col)&&(decide (x.1.A.B.RelRow=x.2.A.B.RelRow)&&decide (x.1.A.B.RelCol=x.2.A.B.RelCol))))))))else decide (x.1.A.A.Row=x.2.A.A.Row)&&(decide (x.1.A.A.Col=x.2.A.A.Col)&&(decide (x.1.A.A.RelRow=x.2.A.A.RelRow)&&(decide (x.1.A.A.RelCol=x.2.A.A.RelCol)&&(decide (x.1.A.B.Row=x.2.A.B.Row)&&(decide (x.1.A.B.Col=x.2.A.B.Col)&&(decide (x.1.A.B.RelRow=x.2.A.B.RelRow)&&decide (x.1.A.B.RelCol=x.2.A.B.RelCol)))))))) (some false) (brn (!decide (x.1.Sheet=x.2.Sheet)) (some false) (brn (!decide (x.1.Op=x.2.Op)) (some false) (brn (!decide ((↑x.1.Kids.length:Int)=(↑x.2.Kids.length:Int))) (some false) (obnd ((kzk self) (azf x.1,azf x.2,0)) fun y=>osum y (fun y=>some true) fun y=>some y))))))
theorem yzY (self:Expr×Expr->Option (Bool))(hself:azy Tryz.prog tb 20 (izl self)):A0 20 (izl (dzM self)):=A2 Tryz.func20 (rzN self hself) (.cons (wzw self hself) .nil)
def fzX:=iter dzM big
def pz5:Fq:=izl fzX
theorem izT:azy Tryz.prog tb 20 pz5:=pzI (gzl Tryz.func20 (by kernel_rfl)) yzY
def bzZ (x:Cell2):Option (Int):=obnd (fzb x.At) fun y=>brn (!y) (some 12) (brn (decide (x.XF<0)) (some 1) (brn (decide (255<x.XF)) (some 1) (obnd (dzL x.V) fun y=>brn (!decide (y=0)) (some y) (brn (!x.Has) (obnd (fzX (azf x.E,Expr.mk 0 (Val.mk 0 (Dec.mk 0 0) [] false 0) (Area.mk (Ref.mk 0 0 false false) (Ref.mk 0 0 false false)) 0 0 [])) fun y=>brn (!y) (some 1) (some 0)) (obnd (izv (azf x.E)) fun y=>brn (!decide (y.2=0)) (some y.2) (brn (decide (x.V.Kind=0)) (some 1) (some 0)))))))
def tz0:Fq:=⟨[(0,.val 131)],[(0,.val 3)],bzZ⟩
theorem wzE:A0 156 tz0:=A1 Tryz.func156 (.cons lzZ (.cons pz2 (.cons izT (.cons nzj .nil))))
def nzl (x:Cell×Cell):Option (Bool):=brn (decide (x.1.Row<x.2.Row)) (some true) (brn (decide (x.1.Row=x.2.Row)) (some (decide (x.1.Col<x.2.Col))) (some false))
def tz2:Fq:=⟨[(0,.val 64),(1,.val 64)],[(0,.val 4)],nzl⟩
theorem szu:A0 157 tz2:=A1 Tryz.func157 .nil
abbrev Czw:List (Nat×Fq):=[(156,tz0),(157,tz2)]
theorem pz8:azk Tryz.prog tb (Czw):=(.cons wzE (.cons szu .nil))
def az0 (back:List Cell2×Int->Option ((Unit)⊕(Int)))(x:List Cell2×Int):Option ((Unit)⊕(Int)):=brn (decide (x.2<(↑x.1.length:Int))) (obnd (idx x.1 x.2) fun y=>obnd (bzZ (Cell2.mk y.At y.XF y.V y.Has (azf y.E))) fun y=>brn (!decide (y=0)) (some (Sum.inr y)) (brn (decide (0<x.2)) (obnd (idx x.1 (i64.wrap (x.2-1))) fun y=>obnd (idx x.1 x.2) fun y_1=>obnd (nzl (y.At,y_1.At)) fun y=>brn (!y) (some (Sum.inr 6)) (back (x.1,i64.wrap (x.2+1)))) (back (x.1,i64.wrap (x.2+1))))) (some (Sum.inl PUnit.unit))
def dzY:=iter az0 big
def xzQ:Cq:=⟨44,[(0,.val 117),(3,.val 3)],[(.exit 0,[]),(.ret,[(2,.val 3)])],rg 8 31 (rg 2 3 []),dzY,none⟩
theorem uzr:A3 Tryz.f89 44 xzQ:=A4 pz8 .nil az0
def bz0 (x:List Cell2):Option (Int):=brn (decide (4096<(↑x.length:Int))) (some 4) (obnd (dzY (x,0)) fun y=>osum y (fun y=>some 0) fun y=>some y)
def szq:Fq:=⟨[(0,.val 117)],[(0,.val 3)],bz0⟩
theorem vzw:A0 89 szq:=A2 Tryz.func89 pz8 (.cons uzr .nil)
def jzA (back:List Group×List (Group)×Int->Option (List (Group)))(x:List Group×List (Group)×Int):Option (List (Group)):=brn (decide (x.2.2<(↑x.1.length:Int))) (obnd (idx x.1 x.2.2) fun y=>brn y.Array (obnd (idx x.1 x.2.2) fun y=>obnd (app 192 x.2.1 [Group.mk y.Array y.A y.B (azf y.E)]) fun zs=>back (x.1,zs,i64.wrap (x.2.2+1))) (back (x.1,x.2.1,i64.wrap (x.2.2+1)))) (some x.2.1)
def oz6:=iter jzA big
def EzC:Cq:=⟨36,[(0,.val 118),(3,.own 145),(4,.val 3)],[(.exit 0,[(3,.own 145)])],rg 3 20 [],oz6,none⟩
theorem yz2:A3 Tryz.f158 36 EzC:=A4 .nil .nil jzA
def ozT (x:List Group):Option (List (Group)):=obnd (oz6 (x,[],0)) fun y=>some y
def yzD:Fq:=⟨[(0,.val 118)],[(0,.own 145)],ozT⟩
theorem AzF:A0 158 yzD:=A2 Tryz.func158 .nil (.cons yz2 .nil)
abbrev Czp:List (Nat×Fq):=[(197,Dzt),(85,szc)]
theorem pz7:azk Tryz.prog tb (Czp):=(.cons lzZ (.cons nzj .nil))
def izU (x:Group):Option (Bool):=obnd (fzb x.A) fun y=>brn (!y) (some true) (obnd (fzb x.B) fun y=>brn (!y) (some true) (brn (decide (x.B.Row<x.A.Row)) (some true) (some (decide (x.B.Col<x.A.Col)))))
def xzP:Cq:=⟨16,[(1,.ro 145)],[(.normal,[(32,.val 4)])],rg 5 28 [],(izU),none⟩
theorem uzo:A5 Tryz.f199 16 xzP:=A6 pz7 .nil
def kzR (x:Group):Option (Int):=obnd (izU (Group.mk x.Array x.A x.B (azf x.E))) fun y=>brn y (some 12) (brn (decide (1024<i64.wrap (i64.wrap (i64.wrap (x.B.Row-x.A.Row)+1)*i64.wrap (i64.wrap (x.B.Col-x.A.Col)+1)))) (some 13) (brn (!x.Array) (brn (!decide (x.A.Col=x.B.Col)) (some 13) (brn (decide (x.A.Row=x.B.Row)) (some 13) (obnd (izv (azf x.E)) fun y=>some y.2))) (obnd (izv (azf x.E)) fun y=>some y.2)))
def szp:Fq:=⟨[(0,.val 145)],[(0,.val 3)],kzR⟩
theorem vzv:A0 199 szp:=A2 Tryz.func199 pz7 (.cons uzo .nil)
def nzO (x:Group×Group):Option (Bool):=brn (decide (x.1.A.Row<=x.2.B.Row)) (brn (decide (x.2.A.Row<=x.1.B.Row)) (brn (decide (x.1.A.Col<=x.2.B.Col)) (some (decide (x.2.A.Col<=x.1.B.Col))) (some false)) (some false)) (some false)
def wzC:Fq:=⟨[(0,.val 145),(1,.val 145)],[(0,.val 4)],nzO⟩
theorem yz1:A0 200 wzC:=A1 Tryz.func200 .nil
abbrev AzC:List (Nat×Fq):=[(199,szp),(200,wzC)]
theorem izm:azk Tryz.prog tb (AzC):=(.cons vzv (.cons yz1 .nil))
def fzp (back:List Group×Int->Option ((Unit)⊕(Int)))(x:List Group×Int):Option ((Unit)⊕(Int)):=brn (decide (x.2<(↑x.1.length:Int))) (obnd (idx x.1 x.2) fun y=>obnd (kzR (Group.mk y.Array y.A y.B (azf y.E))) fun y=>brn (!decide (y=0)) (some (Sum.inr y)) (back (x.1,i64.wrap (x.2+1)))) (some (Sum.inl PUnit.unit))
def lzm:=iter fzp big
def wzx:Cq:=⟨28,[(0,.val 118),(3,.val 3)],[(.exit 0,[]),(.ret,[(2,.val 3)])],rg 7 14 (rg 2 3 []),lzm,none⟩
theorem tzU:A3 Tryz.f159 28 wzx:=A4 izm .nil fzp
def fzr (back:List Group×Int×Int->Option ((Unit)⊕(Int)))(x:List Group×Int×Int):Option ((Unit)⊕(Int)):=brn (decide (x.2.2<x.2.1)) (obnd (idx x.1 x.2.1) fun y=>obnd (idx x.1 x.2.2) fun y_1=>obnd (nzO (Group.mk y.Array y.A y.B (azf y.E),Group.mk y_1.Array y_1.A y_1.B (azf y_1.E))) fun y=>brn y (some (Sum.inr 13)) (back (x.1,x.2.1,i64.wrap (x.2.2+1)))) (some (Sum.inl PUnit.unit))
def lzo:=iter fzr big
def wzz:Cq:=⟨100,[(0,.val 118),(5,.val 3),(6,.val 3)],[(.exit 4,[]),(.ret,[(2,.val 3)])],rg 27 14 [2,6],lzo,none⟩
theorem tzW:A3 Tryz.f159 100 wzz:=A4 izm .nil fzr
def fzq (back:List Group×Int->Option ((Unit)⊕(Int)))(x:List Group×Int):Option ((Unit)⊕(Int)):=brn (decide (x.2<(↑x.1.length:Int))) (obnd (lzo (x.1,x.2,0)) fun y=>osum y (fun y=>back (x.1,i64.wrap (x.2+1))) fun y=>some (Sum.inr y)) (some (Sum.inl PUnit.unit))
def lzn:=iter fzq big
def wzy:Cq:=⟨76,[(0,.val 118),(5,.val 3)],[(.exit 2,[]),(.ret,[(2,.val 3)])],rg 21 20 [2,5,6],lzn,none⟩
theorem tzV:A3 Tryz.f159 76 wzy:=A4 izm (.cons tzW .nil) fzq
def kzm (x:List Group):Option (Int):=obnd (lzm (x,0)) fun y=>osum y (fun y=>obnd (lzn (x,0)) fun y=>osum y (fun y=>some 0) fun y=>some y) fun y=>some y
def rzO:Fq:=⟨[(0,.val 118)],[(0,.val 3)],kzm⟩
theorem uzp:A0 159 rzO:=A2 Tryz.func159 izm (.cons tzU (.cons tzV .nil))
def jzz (back:Group×List (Member)×Int×Int->Option (List (Member)))(x:Group×List (Member)×Int×Int):Option (List (Member)):=brn (decide (x.2.2.2<=x.1.B.Col)) (obnd (app 168 x.2.1 [Member.mk (Cell.mk x.2.2.1 x.2.2.2) (azf x.1.E)]) fun zs=>back (Group.mk x.1.Array x.1.A x.1.B (azf x.1.E),zs,x.2.2.1,i64.wrap (x.2.2.2+1))) (some x.2.1)
def lz0:=iter jzz big
def EzA:Cq:=⟨60,[(1,.ro 145),(3,.own 288),(4,.val 3),(5,.val 3)],[(.exit 2,[(3,.own 288)])],rg 19 16 [3,5],lz0,none⟩
theorem yz0:A3 Tryz.f160 60 EzA:=A4 .nil .nil jzz
def jzy (back:Group×List (Member)×Int->Option (List (Member)))(x:Group×List (Member)×Int):Option (List (Member)):=brn (decide (x.2.2<=x.1.B.Row)) (obnd (lz0 (Group.mk x.1.Array x.1.A x.1.B (azf x.1.E),x.2.1,x.2.2,x.1.A.Col)) fun y=>back (Group.mk x.1.Array x.1.A x.1.B (azf x.1.E),y,i64.wrap (x.2.2+1))) (some x.2.1)
def oz5:=iter jzy big
def Ezz:Cq:=⟨36,[(1,.ro 145),(3,.own 288),(4,.val 3)],[(.exit 0,[(3,.own 288)])],rg 9 26 (rg 3 3 []),oz5,none⟩
theorem yzZ:A3 Tryz.f160 36 Ezz:=A4 .nil (.cons yz0 .nil) jzy
def mzt (x:Group):Option (List (Member)):=obnd (oz5 (Group.mk x.Array x.A x.B (azf x.E),[],x.A.Row)) fun y=>some y
def yzC:Fq:=⟨[(0,.val 145)],[(0,.own 288)],mzt⟩
theorem AzE:A0 160 yzC:=A2 Tryz.func160 .nil (.cons yzZ .nil)
def jzB (back:List Cell2×Cell×Int->Option ((Unit)⊕(Int)))(x:List Cell2×Cell×Int):Option ((Unit)⊕(Int)):=brn (decide (x.2.2<(↑x.1.length:Int))) (obnd (idx x.1 x.2.2) fun y=>brn (bif false then !(decide (y.At.Row=x.2.1.Row)&&decide (y.At.Col=x.2.1.Col))else decide (y.At.Row=x.2.1.Row)&&decide (y.At.Col=x.2.1.Col)) (some (Sum.inr x.2.2)) (back (x.1,x.2.1,i64.wrap (x.2.2+1)))) (some (Sum.inl PUnit.unit))
def oz7:=iter jzB big
def EzD:Cq:=⟨28,[(0,.val 117),(3,.ro 64),(5,.val 3)],[(.exit 0,[]),(.ret,[(4,.val 3)])],rg 4 16 [],oz7,none⟩
theorem yz3:A3 Tryz.f161 28 EzD:=A4 .nil .nil jzB
def ozU (x:List Cell2×Cell):Option (Int):=obnd (oz7 (x.1,x.2,0)) fun y=>osum y (fun y=>some (-1)) fun y=>some y
def yzE:Fq:=⟨[(0,.val 117),(1,.val 64)],[(0,.val 3)],ozU⟩
theorem AzG:A0 161 yzE:=A2 Tryz.func161 .nil (.cons yz3 .nil)
def szY (x:Group×Cell):Option (Bool):=brn (decide (x.1.A.Row<=x.2.Row)) (brn (decide (x.2.Row<=x.1.B.Row)) (brn (decide (x.1.A.Col<=x.2.Col)) (some (decide (x.2.Col<=x.1.B.Col))) (some false)) (some false)) (some false)
def GzI:Fq:=⟨[(0,.val 145),(1,.val 64)],[(0,.val 4)],szY⟩
theorem GzJ:A0 103 GzI:=A1 Tryz.func103 .nil
abbrev Izx:List (Nat×Fq):=[(103,GzI)]
theorem szv:azk Tryz.prog tb (Izx):=(.cons GzJ .nil)
def izJ (back:List Group×Cell×Int->Option ((Unit)⊕(Bool)))(x:List Group×Cell×Int):Option ((Unit)⊕(Bool)):=brn (decide (x.2.2<(↑x.1.length:Int))) (obnd (idx x.1 x.2.2) fun y=>brn y.Array (obnd (idx x.1 x.2.2) fun y=>obnd (szY (Group.mk y.Array y.A y.B (azf y.E),x.2.1)) fun y=>brn y (some (Sum.inr true)) (back (x.1,x.2.1,i64.wrap (x.2.2+1)))) (back (x.1,x.2.1,i64.wrap (x.2.2+1)))) (some (Sum.inl PUnit.unit))
def ozk:=iter izJ big
def CzB:Cq:=⟨28,[(0,.val 118),(3,.ro 64),(5,.val 3)],[(.exit 0,[]),(.ret,[(4,.val 4)])],rg 4 21 [],ozk,none⟩
theorem xzW:A3 Tryz.f201 28 CzB:=A4 szv .nil izJ
def nzR (x:List Group×Cell):Option (Bool):=obnd (ozk (x.1,x.2,0)) fun y=>osum y (fun y=>some false) fun y=>some y
def wzI:Fq:=⟨[(0,.val 118),(1,.val 64)],[(0,.val 4)],nzR⟩
theorem zza:A0 201 wzI:=A2 Tryz.func201 szv (.cons xzW .nil)
abbrev MzL:List (Nat×Fq):=[(20,pz5),(1099511627792,mutS)]
theorem gzX:azk Tryz.prog tb (MzL):=(.cons izT (.consK hzV .nil))
def lzq (back:List Member×Int×List (Int)×Int->Option (List (Int)))(x:List Member×Int×List (Int)×Int):Option (List (Int)):=brn (decide (x.2.2.2<(↑x.1.length:Int))) (obnd (idx x.1 x.2.2.2) fun y=>brn (decide (y.At.Col=x.2.1)) (obnd (app 8 x.2.2.1 [x.2.2.2]) fun zs=>back (x.1,x.2.1,zs,i64.wrap (x.2.2.2+1))) (back (x.1,x.2.1,x.2.2.1,i64.wrap (x.2.2.2+1)))) (some x.2.2.1)
def nzP:=iter lzq big
def Izr:Cq:=⟨76,[(0,.val 284),(6,.val 3),(7,.own 3),(8,.val 3)],[(.exit 2,[(7,.own 3)])],rg 21 18 [7,8],nzP,none⟩
theorem Czr:A3 Tryz.f202 76 Izr:=A4 gzX .nil lzq
def lzs (back:List Member×List Int×Int×Int->Option (Int))(x:List Member×List Int×Int×Int):Option (Int):=brn (decide (i64.wrap (x.2.2.1+x.2.2.2)<(↑x.2.1.length:Int))) (brn (decide (x.2.2.2<1024)) (obnd (idx x.2.1 (i64.wrap (x.2.2.1+x.2.2.2))) fun y=>obnd (idx x.1 y) fun y=>obnd (idx x.2.1 x.2.2.1) fun y_1=>obnd (idx x.1 y_1) fun y_2=>brn (decide (y.At.Row=i64.wrap (y_2.At.Row+x.2.2.2))) (obnd (idx x.2.1 (i64.wrap (x.2.2.1+x.2.2.2))) fun y=>obnd (idx x.1 y) fun y=>obnd (idx x.2.1 x.2.2.1) fun y_3=>obnd (idx x.1 y_3) fun y_4=>obnd (fzX (azf y.E,azf y_4.E)) fun y=>brn y (back (x.1,x.2.1,x.2.2.1,i64.wrap (x.2.2.2+1))) (some x.2.2.2)) (some x.2.2.2)) (some x.2.2.2)) (some x.2.2.2)
def nzQ:=iter lzs big
def Izt:Cq:=⟨132,[(0,.val 284),(7,.val 23),(9,.val 3),(10,.val 3)],[(.exit 6,[(10,.val 3)])],rg 43 58 [10],nzQ,none⟩
theorem Czt:A3 Tryz.f202 132 Izt:=A4 gzX .nil lzs
def lzt (back:List (Bool)×List Int×Int×Int×Int->Option (List (Bool)))(x:List (Bool)×List Int×Int×Int×Int):Option (List (Bool)):=brn (decide (x.2.2.2.2<i64.wrap (x.2.2.1+x.2.2.2.1))) (obnd (idx x.2.1 x.2.2.2.2) fun y=>obnd (inb x.1.length y) fun k=>obnd (nth x.1 (0+k)) fun y=>back (x.1.set (0+k) true,x.2.1,x.2.2.1,x.2.2.2.1,i64.wrap (x.2.2.2.2+1))) (some x.1)
def qzX:=iter lzt big
def Izu:Cq:=⟨164,[(5,.wr 4),(7,.val 23),(9,.val 3),(10,.val 3),(11,.val 3)],[(.exit 8,[(5,.wr 4)])],rg 104 13 [11],qzX,none⟩
theorem Czu:A3 Tryz.f202 164 Izu:=A4 gzX .nil lzt
def lzr (back:List Member×List (Group)×List (Bool)×List Int×Int->Option (List (Group)×List (Bool)))(x:List Member×List (Group)×List (Bool)×List Int×Int):Option (List (Group)×List (Bool)):=brn (decide (x.2.2.2.2<(↑x.2.2.2.1.length:Int))) (obnd (nzQ (x.1,x.2.2.2.1,x.2.2.2.2,1)) fun y=>brn (decide (1<y)) (obnd (qzX (x.2.2.1,x.2.2.2.1,x.2.2.2.2,y,x.2.2.2.2)) fun y_1=>obnd (idx x.2.2.2.1 x.2.2.2.2) fun y_2=>obnd (idx x.1 y_2) fun y_3=>obnd (idx x.2.2.2.1 (i64.wrap (i64.wrap (x.2.2.2.2+y)-1))) fun y_4=>obnd (idx x.1 y_4) fun y_5=>obnd (idx x.2.2.2.1 x.2.2.2.2) fun y_6=>obnd (idx x.1 y_6) fun y_7=>obnd (app 192 x.2.1 [Group.mk false y_3.At y_5.At (azf y_7.E)]) fun zs=>back (x.1,zs,y_1,x.2.2.2.1,i64.wrap (x.2.2.2.2+y))) (back (x.1,x.2.1,x.2.2.1,x.2.2.2.1,i64.wrap (x.2.2.2.2+y)))) (some (x.2.1,x.2.2.1))
def qzW:=iter lzr big
def Izs:Cq:=⟨116,[(0,.val 284),(4,.own 145),(5,.wr 4),(7,.val 23),(9,.val 3)],[(.exit 4,[(4,.own 145),(5,.wr 4)])],rg 39 112 (rg 9 3 [4]),qzW,none⟩
theorem Czs:A3 Tryz.f202 116 Izs:=A4 gzX (.cons Czt (.cons Czu .nil)) lzr
def lzp (back:List Member×List (Group)×List (Bool)×Int->Option (List (Group)×List (Bool)))(x:List Member×List (Group)×List (Bool)×Int):Option (List (Group)×List (Bool)):=brn (decide (x.2.2.2<256)) (obnd (nzP (x.1,x.2.2.2,[],0)) fun y=>obnd (qzW (x.1,x.2.1,x.2.2.1,y,0)) fun y=>back (x.1,y.1,y.2,i64.wrap (x.2.2.2+1))) (some (x.2.1,x.2.2.1))
def qzV:=iter lzp big
def Izq:Cq:=⟨44,[(0,.val 284),(4,.own 145),(5,.wr 4),(6,.val 3)],[(.exit 0,[(4,.own 145),(5,.own 4)])],rg 17 134 (rg 6 6 [4]),qzV,none⟩
theorem Czq:A3 Tryz.f202 44 Izq:=A4 gzX (.cons Czr (.cons Czs .nil)) lzp
def lzu (back:List Member×List Bool×List (Member)×Int->Option (List (Member)))(x:List Member×List Bool×List (Member)×Int):Option (List (Member)):=brn (decide (x.2.2.2<(↑x.1.length:Int))) (obnd (idx x.2.1 x.2.2.2) fun y=>brn (!y) (obnd (idx x.1 x.2.2.2) fun y=>obnd (app 168 x.2.2.1 [Member.mk y.At (azf y.E)]) fun zs=>back (x.1,x.2.1,zs,i64.wrap (x.2.2.2+1))) (back (x.1,x.2.1,x.2.2.1,i64.wrap (x.2.2.2+1)))) (some x.2.2.1)
def qzY:=iter lzu big
def Izv:Cq:=⟨220,[(0,.val 284),(5,.val 350),(12,.own 288),(13,.val 3)],[(.exit 10,[(12,.own 288)])],rg 151 18 [12,13],qzY,none⟩
theorem Czv:A3 Tryz.f202 220 Izv:=A4 gzX .nil lzu
def rzt (x:List Member):Option (List (Group)×List (Member)):=obnd (tzI 1 false (↑x.length:Int) (↑x.length:Int)) fun xs=>obnd (qzV (x,[],xs,0)) fun y=>obnd (qzY (x,y.2,[],0)) fun y_1=>some (y.1,y_1)
def Dzw:Fq:=⟨[(0,.val 284)],[(0,.own 145),(1,.own 288)],rzt⟩
theorem EzB:A0 202 Dzw:=A2 Tryz.func202 gzX (.cons Czq (.cons Czv .nil))
abbrev Izw:List (Nat×Fq):=[(201,wzI),(202,Dzw)]
theorem szs:azk Tryz.prog tb (Izw):=(.cons zza (.cons EzB .nil))
def izH (back:List Cell2×List Group×List (Member)×Int->Option (List (Member)))(x:List Cell2×List Group×List (Member)×Int):Option (List (Member)):=brn (decide (x.2.2.2<(↑x.1.length:Int))) (obnd (idx x.1 x.2.2.2) fun y=>brn y.Has (obnd (idx x.1 x.2.2.2) fun y=>obnd (nzR (x.2.1,y.At)) fun y=>brn (!y) (obnd (idx x.1 x.2.2.2) fun y=>obnd (idx x.1 x.2.2.2) fun y_1=>obnd (app 168 x.2.2.1 [Member.mk y.At (azf y_1.E)]) fun zs=>back (x.1,x.2.1,zs,i64.wrap (x.2.2.2+1))) (back (x.1,x.2.1,x.2.2.1,i64.wrap (x.2.2.2+1)))) (back (x.1,x.2.1,x.2.2.1,i64.wrap (x.2.2.2+1)))) (some x.2.2.1)
def ozi:=iter izH big
def Czz:Cq:=⟨36,[(0,.val 117),(1,.val 118),(5,.own 288),(6,.val 3)],[(.exit 0,[(5,.own 288)])],rg 9 35 [5,6],ozi,none⟩
theorem xzS:A3 Tryz.f162 36 Czz:=A4 szs .nil izH
def qzZ (x:List Cell2×List Group):Option (List (Group)):=obnd (ozi (x.1,x.2,[],0)) fun y=>obnd (rzt y) fun y=>obnd (app 192 [] x.2) fun zs=>obnd (app 192 zs y.1) fun zs=>some zs
def wzF:Fq:=⟨[(0,.val 117),(1,.val 118)],[(0,.own 145)],qzZ⟩
theorem yz5:A0 162 wzF:=A2 Tryz.func162 szs (.cons xzS .nil)
def lz1 (x:Group×Group):Option (Bool):=brn (decide (x.1.Array=x.2.Array)) (brn (bif false then !(decide (x.1.A.Row=x.2.A.Row)&&decide (x.1.A.Col=x.2.A.Col))else decide (x.1.A.Row=x.2.A.Row)&&decide (x.1.A.Col=x.2.A.Col)) (brn (bif false then !(decide (x.1.B.Row=x.2.B.Row)&&decide (x.1.B.Col=x.2.B.Col))else decide (x.1.B.Row=x.2.B.Row)&&decide (x.1.B.Col=x.2.B.Col)) (obnd (fzX (azf x.1.E,azf x.2.E)) fun y=>some y) (some false)) (some false)) (some false)
def tzZ:Fq:=⟨[(0,.val 145),(1,.val 145)],[(0,.val 4)],lz1⟩
theorem wzD:A0 102 tzZ:=A1 Tryz.func102 (.cons izT .nil)
abbrev Kzb:List (Nat×Fq):=[(158,yzD),(159,rzO),(157,tz2),(160,yzC),(161,yzE),(20,pz5),(162,wzF),(102,tzZ)]
theorem lz4:azk Tryz.prog tb (Kzb):=(.cons AzF (.cons uzp (.cons szu (.cons AzE (.cons AzG (.cons izT (.cons yz5 (.cons wzD .nil))))))))
def jzD (back:Sheet×List Group×Int×List Member×Int->Option ((Unit)⊕(Bool)))(x:Sheet×List Group×Int×List Member×Int):Option ((Unit)⊕(Bool)):=brn (decide (x.2.2.2.2<(↑x.2.2.2.1.length:Int))) (obnd (idx x.2.2.2.1 x.2.2.2.2) fun y=>obnd (ozU (x.1.Cells,y.At)) fun y=>brn (decide (y<0)) (some (Sum.inr false)) (obnd (idx x.1.Cells y) fun y_1=>brn (!y_1.Has) (some (Sum.inr false)) (obnd (idx x.1.Cells y) fun y=>obnd (idx x.2.1 x.2.2.1) fun y_2=>obnd (fzX (azf y.E,azf y_2.E)) fun y=>brn (!y) (some (Sum.inr false)) (back (x.1,x.2.1,x.2.2.1,x.2.2.2.1,i64.wrap (x.2.2.2.2+1)))))) (some (Sum.inl PUnit.unit))
def lz5:=iter jzD big
def EzF:Cq:=⟨100,[(1,.ro 120),(3,.val 118),(4,.val 3),(5,.val 284),(6,.val 3)],[(.exit 2,[]),(.ret,[(2,.val 4)])],rg 44 40 [2,6,7],lz5,none⟩
theorem yz8:A3 Tryz.f90 100 EzF:=A4 lz4 .nil jzD
def jzC (back:Sheet×List Group×Int->Option ((Unit)⊕(Bool)))(x:Sheet×List Group×Int):Option ((Unit)⊕(Bool)):=brn (decide (x.2.2<(↑x.2.1.length:Int))) (brn (decide (0<x.2.2)) (obnd (idx x.2.1 (i64.wrap (x.2.2-1))) fun y=>obnd (idx x.2.1 x.2.2) fun y_1=>obnd (nzl (y.A,y_1.A)) fun y=>brn (!y) (some (Sum.inr false)) (obnd (idx x.2.1 x.2.2) fun y=>obnd (mzt (Group.mk y.Array y.A y.B (azf y.E))) fun y=>obnd (lz5 (x.1,x.2.1,x.2.2,y,0)) fun y=>osum y (fun y=>back (x.1,x.2.1,i64.wrap (x.2.2+1))) fun y=>some (Sum.inr y))) (obnd (idx x.2.1 x.2.2) fun y=>obnd (mzt (Group.mk y.Array y.A y.B (azf y.E))) fun y=>obnd (lz5 (x.1,x.2.1,x.2.2,y,0)) fun y=>osum y (fun y=>back (x.1,x.2.1,i64.wrap (x.2.2+1))) fun y=>some (Sum.inr y))) (some (Sum.inl PUnit.unit))
def oz8:=iter jzC big
def EzE:Cq:=⟨52,[(1,.ro 120),(3,.val 118),(4,.val 3)],[(.exit 0,[]),(.ret,[(2,.val 4)])],rg 16 68 (rg 4 4 [2]),oz8,none⟩
theorem yz7:A3 Tryz.f90 52 EzE:=A4 lz4 (.cons yz8 .nil) jzC
def jzE (back:Sheet×List Group×Int->Option ((Unit)⊕(Bool)))(x:Sheet×List Group×Int):Option ((Unit)⊕(Bool)):=brn (decide (x.2.2<(↑x.2.1.length:Int))) (obnd (idx x.2.1 x.2.2) fun y=>obnd (idx x.1.Groups x.2.2) fun y_1=>obnd (lz1 (Group.mk y.Array y.A y.B (azf y.E),Group.mk y_1.Array y_1.A y_1.B (azf y_1.E))) fun y=>brn (!y) (some (Sum.inr false)) (back (x.1,x.2.1,i64.wrap (x.2.2+1)))) (some (Sum.inl PUnit.unit))
def oz9:=iter jzE big
def EzG:Cq:=⟨172,[(1,.ro 120),(8,.val 118),(9,.val 3)],[(.exit 4,[]),(.ret,[(2,.val 4)])],rg 94 17 [2,9],oz9,none⟩
theorem yz9:A3 Tryz.f90 172 EzG:=A4 lz4 .nil jzE
def ozV (x:Sheet):Option (Bool):=obnd (ozT x.Groups) fun y=>obnd (kzm y) fun y_1=>brn (!decide (y_1=0)) (some false) (obnd (oz8 (x,y,0)) fun y_2=>osum y_2 (fun y_3=>obnd (qzZ (x.Cells,y)) fun y=>brn (!decide ((↑(List.length y):Int)=(↑x.Groups.length:Int))) (some false) (obnd (oz9 (x,y,0)) fun y=>osum y (fun y=>some true) fun y=>some y)) fun y=>some y)
def yzF:Fq:=⟨[(0,.val 120)],[(0,.val 4)],ozV⟩
theorem AzN:A0 90 yzF:=A2 Tryz.func90 lz4 (.cons yz7 (.cons yz9 .nil))
abbrev Czx:List (Nat×Fq):=[(89,szq),(90,yzF)]
theorem pz9:azk Tryz.prog tb (Czx):=(.cons vzw (.cons AzN .nil))
def fzZ (back:Sheet×Int->Option ((Unit)⊕(Int)))(x:Sheet×Int):Option ((Unit)⊕(Int)):=brn (decide (x.2<(↑x.1.Rows.length:Int))) (obnd (idx x.1.Rows x.2) fun y=>brn (decide (y.Row<0)) (some (Sum.inr 12)) (brn (decide (65536<=y.Row)) (some (Sum.inr 12)) (brn (decide (y.Height<0)) (some (Sum.inr 1)) (brn (decide (32767<y.Height)) (some (Sum.inr 1)) (brn (decide (0<x.2)) (obnd (idx x.1.Rows (i64.wrap (x.2-1))) fun y_1=>brn (decide (y.Row<=y_1.Row)) (some (Sum.inr 6)) (back (x.1,i64.wrap (x.2+1)))) (back (x.1,i64.wrap (x.2+1)))))))) (some (Sum.inl PUnit.unit))
def lz2:=iter fzZ big
def xzR:Cq:=⟨44,[(1,.ro 120),(3,.val 3)],[(.exit 0,[]),(.ret,[(2,.val 3)])],rg 10 42 (rg 2 3 []),lz2,none⟩
theorem uzs:A3 Tryz.f39 44 xzR:=A4 pz9 .nil fzZ
def azK (x:Sheet):Option (Int):=brn (decide (4096<(↑x.Rows.length:Int))) (some 4) (obnd (lz2 (x,0)) fun y=>osum y (fun y=>obnd (bz0 x.Cells) fun y=>brn (!decide (y=0)) (some y) (obnd (ozV x) fun y=>brn (!y) (some 13) (some 0))) fun y=>some y)
def szr:Fq:=⟨[(0,.val 120)],[(0,.val 3)],azK⟩
theorem vzE:A0 39 szr:=A2 Tryz.func39 pz9 (.cons uzs .nil)
def fz0 (back:Sheet×List (List UInt8)×Int->Option (List (List UInt8)))(x:Sheet×List (List UInt8)×Int):Option (List (List UInt8)):=brn (decide (x.2.2<(↑x.1.Cells.length:Int))) (obnd (idx x.1.Cells x.2.2) fun y=>brn (!y.Has) (obnd (idx x.1.Cells x.2.2) fun y=>brn (decide (y.V.Kind=2)) (obnd (idx x.1.Cells x.2.2) fun y=>obnd (app 16 x.2.1 [y.V.S]) fun zs=>back (x.1,zs,i64.wrap (x.2.2+1))) (back (x.1,x.2.1,i64.wrap (x.2.2+1)))) (back (x.1,x.2.1,i64.wrap (x.2.2+1)))) (some x.2.1)
def lz3:=iter fz0 big
def xzT:Cq:=⟨36,[(1,.ro 120),(3,.own 9),(4,.val 3)],[(.exit 0,[(3,.own 9)])],rg 3 36 [],lz3,none⟩
theorem uzt:A3 Tryz.f91 36 xzT:=A4 .nil .nil fz0
def kzS (x:Sheet):Option (List (List UInt8)):=obnd (lz3 (x,[],0)) fun y=>some y
def szt:Fq:=⟨[(0,.val 120)],[(0,.own 9)],kzS⟩
theorem vzF:A0 91 szt:=A2 Tryz.func91 .nil (.cons uzt .nil)
abbrev GzO:List (Nat×Fq):=[(91,szt)]
theorem rzQ:azk Tryz.prog tb (GzO):=(.cons vzF .nil)
def hzX (back:List Sheet×List (List UInt8)×Int->Option (List (List UInt8)))(x:List Sheet×List (List UInt8)×Int):Option (List (List UInt8)):=brn (decide (x.2.2<(↑x.1.length:Int))) (obnd (idx x.1 x.2.2) fun y=>obnd (kzS y) fun y=>obnd (app 16 x.2.1 y) fun zs=>back (x.1,zs,i64.wrap (x.2.2+1))) (some x.2.1)
def nzm:=iter hzX big
def AzM:Cq:=⟨36,[(0,.val 30),(3,.own 9),(4,.val 3)],[(.exit 0,[(3,.own 9)])],rg 3 15 [],nzm,none⟩
theorem wzH:A3 Tryz.f41 36 AzM:=A4 rzQ .nil hzX
def fz3 (x:List Sheet):Option (List (List UInt8)):=obnd (nzm (x,[],0)) fun y=>some y
def uz2:Fq:=⟨[(0,.val 30)],[(0,.own 9)],fz3⟩
theorem xzV:A0 41 uz2:=A2 Tryz.func41 rzQ (.cons wzH .nil)
abbrev MzM:List (Nat×Fq):=[(84,mzH)]
theorem nzS:azk Tryz.prog tb (MzM):=(.cons jzF .nil)
def lzv (back:List (List UInt8)×Table×Int->Option (((Unit)×Table)⊕((List (Int)×Int)×Table)))(x:List (List UInt8)×Table×Int):Option (((Unit)×Table)⊕((List (Int)×Int)×Table)):=brn (decide (x.2.2<(↑x.1.length:Int))) (obnd (idx x.1 x.2.2) fun y=>obnd (hzu y) fun y=>brn (!decide (y.2=0)) (some (Sum.inr (([],y.2),Table.mk [] 0))) (back (x.1,x.2.1,i64.wrap (x.2.2+1)))) (some (Sum.inl ((),x.2.1)))
def qz0:=iter lzv big
def Izy:Cq:=⟨44,[(0,.val 22),(2,.ref 26),(7,.val 3)],[(.exit 0,[]),(.ret,[(3,.own 3),(4,.val 3)])],rg 12 18 (rg 7 3 [3,4]),qz0,none⟩
theorem CzC:A3 Tryz.f40 44 Izy:=A4 nzS .nil lzv
def lzx (back:List (List UInt8)×Table×Int×Int->Option (Int))(x:List (List UInt8)×Table×Int×Int):Option (Int):=brn (decide (x.2.2.2<(↑x.2.1.Texts.length:Int))) (obnd (idx x.2.1.Texts x.2.2.2) fun y=>obnd (idx x.1 x.2.2.1) fun y_1=>brn (!decide (y=y_1)) (back (x.1,x.2.1,x.2.2.1,i64.wrap (x.2.2.2+1))) (some x.2.2.2)) (some x.2.2.2)
def qz2:=iter lzx big
def IzA:Cq:=⟨116,[(0,.val 22),(5,.ro 26),(10,.val 3),(11,.val 3)],[(.exit 4,[(11,.val 3)])],rg 36 19 [11],qz2,none⟩
theorem CzE:A3 Tryz.f40 116 IzA:=A4 nzS .nil lzx
def lzw (back:List (List UInt8)×List (List UInt8)×Table×Table×List (Int)×Int->Option (((List (List UInt8)×List (Int))×(Table×Table))⊕((List (List UInt8)×List (Int)×Int)×(Table×Table))))(x:List (List UInt8)×List (List UInt8)×Table×Table×List (Int)×Int):Option (((List (List UInt8)×List (Int))×(Table×Table))⊕((List (List UInt8)×List (Int)×Int)×(Table×Table))):=brn (decide (x.2.2.2.2.2<(↑x.2.1.length:Int))) (obnd (qz2 (x.2.1,Table.mk x.1 x.2.2.2.1.Uses,x.2.2.2.2.2,0)) fun y=>brn (decide (y=(↑x.1.length:Int))) (brn (decide (1024<=y)) (some (Sum.inr ((x.1,[],4),Table.mk [] 0,Table.mk x.1 x.2.2.2.1.Uses))) (obnd (idx x.2.1 x.2.2.2.2.2) fun y_1=>obnd (app 16 x.1 [y_1]) fun zs=>obnd (app 8 x.2.2.2.2.1 [y]) fun zs_1=>back (zs,x.2.1,x.2.2.1,Table.mk zs (i64.wrap (x.2.2.2.1.Uses+1)),zs_1,i64.wrap (x.2.2.2.2.2+1)))) (obnd (app 8 x.2.2.2.2.1 [y]) fun zs=>back (x.1,x.2.1,x.2.2.1,Table.mk x.1 (i64.wrap (x.2.2.2.1.Uses+1)),zs,i64.wrap (x.2.2.2.2.2+1)))) (some (Sum.inl ((x.1,x.2.2.2.2.1),x.2.2.1,Table.mk x.1 x.2.2.2.1.Uses)))
def qz1:=iter lzw big
def Izz:Cq:=⟨92,[(4294967301,.own 9),(0,.val 22),(2,.ref 26),(5,.ref 26),(6,.own 3),(10,.val 3)],[(.exit 2,[(4294967301,.own 9),(6,.own 3)]),(.ret,[(4294967301,.own 9),(3,.own 3),(4,.val 3)])],rg 30 50 [3,4,6,10,11],qz1,none⟩
theorem CzD:A3 Tryz.f40 92 Izz:=A4 nzS (.cons CzE .nil) lzw
def kzK (x:List (List UInt8)):Option (Table×List (Int)×Int):=obnd (qz0 (x,Table.mk [] 0,0)) fun y=>osum y (fun y=>obnd (qz1 ([],x,y.2,Table.mk [] 0,[],0)) fun y=>osum y (fun y=>some (Table.mk y.1.1 y.2.2.Uses,y.1.2,0)) fun y=>some (y.2.1,y.1.2)) fun y=>some (y.2,y.1)
def Dzx:Fq:=⟨[(0,.val 22)],[(0,.val 26),(1,.own 3),(2,.val 3)],kzK⟩
theorem EzH:A0 40 Dzx:=A2 Tryz.func40 nzS (.cons CzC (.cons CzD .nil))
def izI (back:List (List UInt8)×List (List UInt8)×Int->Option ((Unit)⊕(Bool)))(x:List (List UInt8)×List (List UInt8)×Int):Option ((Unit)⊕(Bool)):=brn (decide (x.2.2<(↑x.1.length:Int))) (obnd (idx x.1 x.2.2) fun y=>obnd (idx x.2.1 x.2.2) fun y_1=>brn (!decide (y=y_1)) (some (Sum.inr false)) (back (x.1,x.2.1,i64.wrap (x.2.2+1)))) (some (Sum.inl PUnit.unit))
def ozj:=iter izI big
def CzA:Cq:=⟨44,[(0,.val 22),(1,.val 22),(5,.val 3)],[(.exit 0,[]),(.ret,[(4,.val 4)])],rg 11 15 [4,5],ozj,none⟩
theorem xzU:A3 Tryz.f42 44 CzA:=A4 .nil .nil izI
def gzY (x:List (List UInt8)×List (List UInt8)):Option (Bool):=brn (!decide ((↑x.1.length:Int)=(↑x.2.length:Int))) (some false) (obnd (ozj (x.1,x.2,0)) fun y=>osum y (fun y=>some true) fun y=>some y)
def wzG:Fq:=⟨[(0,.val 22),(1,.val 22)],[(0,.val 4)],gzY⟩
theorem yz6:A0 42 wzG:=A2 Tryz.func42 .nil (.cons xzU .nil)
abbrev LzI:List (Nat×Fq):=[(38,qzw),(39,szr),(41,uz2),(40,Dzx),(42,wzG)]
theorem kzn:azk Tryz.prog tb (LzI):=(.cons tz1 (.cons vzE (.cons xzV (.cons EzH (.cons yz6 .nil)))))
def kzo (back:Book×Int->Option ((Unit)⊕(Int)))(x:Book×Int):Option ((Unit)⊕(Int)):=brn (decide (x.2<(↑x.1.Sheets.length:Int))) (obnd (idx x.1.Sheets x.2) fun y=>obnd (azK y) fun y=>brn (!decide (y=0)) (some (Sum.inr y)) (back (x.1,i64.wrap (x.2+1)))) (some (Sum.inl PUnit.unit))
def qza:=iter kzo big
def GzK:Cq:=⟨68,[(1,.ro 32),(4,.val 3)],[(.exit 0,[]),(.ret,[(2,.val 3)])],rg 26 16 (rg 2 3 []),qza,none⟩
theorem AzI:A3 Tryz.f10 68 GzK:=A4 kzn .nil kzo
def kzp (back:Book×Int×Int->Option (Int))(x:Book×Int×Int):Option (Int):=brn (decide (x.2.2<(↑x.1.Sheets.length:Int))) (obnd (idx x.1.Sheets x.2.2) fun y=>back (x.1,i64.wrap (x.2.1+(↑y.Cells.length:Int)),i64.wrap (x.2.2+1))) (some x.2.1)
def izo:=iter kzp big
def GzL:Cq:=⟨124,[(1,.ro 32),(5,.val 3),(6,.val 3)],[(.exit 2,[(5,.val 3)])],rg 42 16 [5,6],izo,none⟩
theorem AzJ:A3 Tryz.f10 124 GzL:=A4 kzn .nil kzp
def kzr (back:Book×Int×Int->Option ((Unit)⊕(Int)))(x:Book×Int×Int):Option ((Unit)⊕(Int)):=obnd (idx x.1.Sheets x.2.1) fun y=>brn (decide (x.2.2<(↑y.Cells.length:Int))) (obnd (idx x.1.Sheets x.2.1) fun y=>obnd (idx y.Cells x.2.2) fun y=>brn (decide ((↑x.1.Globals.XFs.length:Int)<=y.XF)) (brn (!decide (y.XF=0)) (some (Sum.inr 1)) (back (x.1,x.2.1,i64.wrap (x.2.2+1)))) (back (x.1,x.2.1,i64.wrap (x.2.2+1)))) (some (Sum.inl PUnit.unit))
def qzb:=iter kzr big
def GzN:Cq:=⟨196,[(1,.ro 32),(7,.val 3),(8,.val 3)],[(.exit 6,[]),(.ret,[(2,.val 3)])],rg 67 31 [2,8,9],qzb,none⟩
theorem AzL:A3 Tryz.f10 196 GzN:=A4 kzn .nil kzr
def kzq (back:Book×Int->Option ((Unit)⊕(Int)))(x:Book×Int):Option ((Unit)⊕(Int)):=brn (decide (x.2<(↑x.1.Sheets.length:Int))) (obnd (qzb (x.1,x.2,0)) fun y=>osum y (fun y=>back (x.1,i64.wrap (x.2+1))) fun y=>some (Sum.inr y)) (some (Sum.inl PUnit.unit))
def izp:=iter kzq big
def GzM:Cq:=⟨172,[(1,.ro 32),(7,.val 3)],[(.exit 4,[]),(.ret,[(2,.val 3)])],rg 60 38 (rg 7 3 [2]),izp,none⟩
theorem AzK:A3 Tryz.f10 172 GzM:=A4 kzn (.cons AzL .nil) kzq
def nzk (x:Book):Option (Int):=obnd (dzx x.Globals) fun y=>brn (!decide (y=0)) (some y) (brn (!decide ((↑x.Sheets.length:Int)=(↑x.Globals.Sheets.length:Int))) (some 1) (obnd (qza (x,0)) fun y=>osum y (fun y=>obnd (izo (x,0,0)) fun y=>brn (decide (4096<y)) (some 4) (obnd (izp (x,0)) fun y=>osum y (fun y=>obnd (fz3 x.Sheets) fun y=>obnd (kzK y) fun y=>brn (!decide (y.2.2=0)) (some 3) (obnd (gzY (y.1.Texts,x.Globals.Texts.Texts)) fun y_1=>brn (!y_1) (some 3) (brn (!decide (y.1.Uses=x.Globals.Texts.Uses)) (some 3) (some 0)))) fun y=>some y)) fun y=>some y))
def AzH:Fq:=⟨[(0,.val 32)],[(0,.val 3)],nzk⟩
theorem Czy:A0 10 AzH:=A2 Tryz.func10 kzn (.cons AzI (.cons AzJ (.cons AzK .nil)))
end
set_option maxRecDepth 100000
noncomputable section
def Jzf (x:Int×Int):Option (Expr):=some (Expr.mk 2 (Val.mk 0 (Dec.mk 0 0) [] false 0) (Area.mk (Ref.mk x.1 x.2 false false) (Ref.mk 0 0 false false)) 0 0 [])
def Jzg:Fq:=⟨[(0,.val 3),(1,.val 3)],[(0,.val 90)],Jzf⟩
theorem Hz0:A0 25 Jzg:=A1 Tryz.func25 .nil
def Hz9 (x:List UInt8):Option (Val):=some (Val.mk 2 (Dec.mk 0 0) x false 0)
def law9_SS:Fq:=⟨[(0,.val 9)],[(0,.val 85)],Hz9⟩
theorem Lzg:A0 27 law9_SS:=A1 Tryz.func27 .nil
def Hz8 (x:Int):Option (Val):=obnd (KzC x) fun y=>some (Val.mk 1 y [] false 0)
def law9_NS:Fq:=⟨[(0,.val 2)],[(0,.val 85)],Hz8⟩
theorem Lzf:A0 28 law9_NS:=A1 Tryz.func28 (.cons JzM .nil)
def Fz8 (x:List Cell2):Option (Book):=some (Book.mk (Globals.mk [[97]] [] [] [] (Table.mk [] 0) []) [Sheet.mk [] x []])
def Fz9:Fq:=⟨[(0,.val 98)],[(0,.val 42)],Fz8⟩
theorem Gza:A0 26 Fz9:=A1 Tryz.func26 .nil
def Kz6 (x:Int×Int×Int):Option (Place):=some (Place.mk x.1 (Cell.mk x.2.1 x.2.2))
def Kz7:Fq:=⟨[(0,.val 3),(1,.val 3),(2,.val 3)],[(0,.val 82)],Kz6⟩
theorem JzS:A0 29 Kz7:=A1 Tryz.func29 .nil
abbrev Lzc:List (Nat×Fq):=[(25,Jzg),(27,law9_SS),(28,law9_NS),(26,Fz9),(21,xzf),(13,Cz6),(17,Iz0),(9,rzj),(29,Kz7),(11,xze)]
theorem uzR:azk Tryz.prog tb (Lzc):=(.cons Hz0 (.cons Lzg (.cons Lzf (.cons Gza (.cons uzy (.cons DzP (.cons Hzv (.cons ozZ (.cons JzS (.cons uzx .nil))))))))))
def uzS (x:Book×Book×List Node×Env):Option (Bool):=obnd (dzK x.1) fun y=>brn (decide (y=13)) (obnd (dzK x.2.1) fun y=>brn (decide (y=0)) (obnd (idx x.2.1.Sheets 0) fun y=>brn (decide ((↑y.Cells.length:Int)=3)) (brn (decide (x.2.1.Globals.Texts.Uses=1)) (obnd (idx x.2.2.1 1) fun y=>obnd (Kz6 (0,3,0)) fun y_1=>brn (bif false then !(decide (y.P.Sheet=y_1.Sheet)&&(decide (y.P.At.Row=y_1.At.Row)&&decide (y.P.At.Col=y_1.At.Col)))else decide (y.P.Sheet=y_1.Sheet)&&(decide (y.P.At.Row=y_1.At.Row)&&decide (y.P.At.Col=y_1.At.Col))) (obnd (idx x.2.2.1 1) fun y=>brn (bif false then !(decide (y.Base.Row=3)&&decide (y.Base.Col=0))else decide (y.Base.Row=3)&&decide (y.Base.Col=0)) (obnd (idx x.2.2.2.Slots 0) fun y=>obnd (Hz9 [120]) fun y_2=>brn (bif false then !(decide (y.V.Kind=y_2.Kind)&&(decide (y.V.N.M=y_2.N.M)&&(decide (y.V.N.S=y_2.N.S)&&(decide (y.V.S=y_2.S)&&(decide (y.V.B=y_2.B)&&decide (y.V.E=y_2.E))))))else decide (y.V.Kind=y_2.Kind)&&(decide (y.V.N.M=y_2.N.M)&&(decide (y.V.N.S=y_2.N.S)&&(decide (y.V.S=y_2.S)&&(decide (y.V.B=y_2.B)&&decide (y.V.E=y_2.E)))))) (brn (decide (x.2.2.2.Sheets=1)) (obnd (jz6 (x.2.1,x.2.1)) fun y=>brn y (obnd (jz6 (x.1,x.2.1)) fun y=>brn (!y) (obnd (dzK (Book.mk (Globals.mk [] [] [] [] (Table.mk [] 0) []) [])) fun y=>some (decide (y=4))) (some false)) (some false)) (some false)) (some false)) (some false)) (some false)) (some false)) (some false)) (some false)) (some false)
def Fz7:Cq:=⟨80,[(2,.ro 42),(3,.ro 42),(5,.val 49),(6,.ro 60)],[(.normal,[(0,.val 4)])],rg 58 70 [0],(uzS),none⟩
theorem Aza:A5 Tryz.f6 80 Fz7:=A6 uzR .nil
def tzE (x:Unit):Option (Bool):=obnd (Jzf (0,1)) fun y=>obnd (Hz9 [120]) fun y_1=>obnd (Hz8 0) fun y_2=>obnd (Hz8 0) fun y_3=>obnd (Fz8 [Cell2.mk (Cell.mk 0 0) 0 y_1 false (Expr.mk 0 (Val.mk 0 (Dec.mk 0 0) [] false 0) (Area.mk (Ref.mk 0 0 false false) (Ref.mk 0 0 false false)) 0 0 []),Cell2.mk (Cell.mk 1 0) 0 (Val.mk 0 (Dec.mk 0 0) [] false 0) false (Expr.mk 0 (Val.mk 0 (Dec.mk 0 0) [] false 0) (Area.mk (Ref.mk 0 0 false false) (Ref.mk 0 0 false false)) 0 0 []),Cell2.mk (Cell.mk 2 0) 0 y_2 true (azf y),Cell2.mk (Cell.mk 3 0) 0 y_3 true (azf y)]) fun y=>obnd (hzj y) fun y_4=>brn (!decide (y_4.2=0)) (some false) (brn (!decide ((↑y_4.1.Sheets.length:Int)=1)) (some false) (obnd (Cz5 y_4.1) fun y_5=>obnd (IzZ y_4.1) fun y_6=>brn (!decide ((↑(List.length y_5):Int)=2)) (some false) (brn (!decide ((↑y_6.Slots.length:Int)=3)) (some false) (obnd (idx y_4.1.Sheets 0) fun y_7=>brn (!decide ((↑y_7.Groups.length:Int)=1)) (some false) (obnd (uzS (y,y_4.1,y_5,y_6)) fun y=>some y)))))
def zz9:Fq:=⟨[],[(0,.val 4)],tzE⟩
theorem Czc:A0 6 zz9:=A2 Tryz.func6 uzR (.cons Aza .nil)
def mzo (back:List UInt8×Book×Int->Option ((Unit)⊕(Bool)))(x:List UInt8×Book×Int):Option ((Unit)⊕(Bool)):=brn (decide (x.2.2<(↑x.2.1.Globals.Texts.Texts.length:Int))) (obnd (idx x.2.1.Globals.Texts.Texts x.2.2) fun y=>brn (decide (y=x.1)) (some (Sum.inr true)) (back (x.1,x.2.1,i64.wrap (x.2.2+1)))) (some (Sum.inl PUnit.unit))
def rz8:=iter mzo big
def Jz0:Cq:=⟨28,[(1,.val 9),(2,.ro 42),(5,.val 3)],[(.exit 0,[]),(.ret,[(4,.val 4)])],rg 4 20 [],rz8,none⟩
theorem Ezg:A3 Tryz.f22 28 Jz0:=A4 .nil .nil mzo
def szU (x:Book×List UInt8):Option (Bool):=obnd (rz8 (x.2,x.1,0)) fun y=>osum y (fun y=>some false) fun y=>some y
def Fz5:Fq:=⟨[(0,.val 42),(1,.val 9)],[(0,.val 4)],szU⟩
theorem Fz6:A0 22 Fz5:=A2 Tryz.func22 .nil (.cons Ezg .nil)
end
end Go.Proofs.YtkafbjodbjkieaaGreatDoor