import Derived.Test.YtkafbjodbjkieaaGreatDoorU1
set_option maxRecDepth 400000
/- A1 -/
namespace Go.Proofs.YtkafbjodbjkieaaGreatDoor
open Go Go.Ev
open Go.IntKind (i64 u64 u8 i32 u32 i16 u16)
set_option linter.unusedVariables false
set_option maxRecDepth 100000
noncomputable section
def JzI (x:Int):Option (Dec):=some (Dec.mk x 0)
def dec_IntS:FSpec tb:=⟨[(0,.val 2)],[(0,.val 83)],JzI⟩
theorem IzN:A0 65 dec_IntS:=A1 Tryz.func65 .nil
def izb (x:List Row):Option (List (Row)):=app 24 [] x
def bzW:FSpec tb:=⟨[(0,.val 97)],[(0,.own 174)],izb⟩
theorem mzG:∀x,evFn Tryz.prog tb [] [] Tryz.f106 bzW.ins bzW.outs x=bzW.f x:=fun x=>Eq.trans (by kernel_rfl) (pzG 24 x)
theorem lzF:A0 106 bzW:=A1 Tryz.func106 .nil (hJ:=mzG)
def Ezt (x:Cell2×Cell):Option (Bool):=brn (bif false then !(decide (x.1.At.Row=x.2.Row)&&decide (x.1.At.Col=x.2.Col))else decide (x.1.At.Row=x.2.Row)&&decide (x.1.At.Col=x.2.Col)) (some x.1.4) (some false)
def Ezu:FSpec tb:=⟨[(0,.val 108),(1,.ro 80)],[(0,.val 4)],Ezt⟩
theorem Ezv:A0 168 Ezu:=A1 Tryz.func168 .nil
abbrev izm:List (Nat×FSpec tb):=[(168,Ezu)]
theorem dzl:azj Tryz.prog tb (izm):=(.cons Ezv .nil)
def dzm (back:Cell×List Cell2×Unit×Int×Int->Option ((Unit)⊕(Int)))(x:Cell×List Cell2×Unit×Int×Int):Option ((Unit)⊕(Int)):=brn (decide (x.2.2.2.2<x.2.2.2.1)) (obnd (idx x.2.1 x.2.2.2.2) fun y=>obnd (Ezt (Cell2.mk y.At y.XF y.V y.Has (azf y.E),x.1)) fun y=>brn y (some (Sum.inr x.2.2.2.2)) (back (x.1,x.2.1,(),x.2.2.2.1,i64.wrap (x.2.2.2.2+1)))) (some (Sum.inl PUnit.unit))
def dzn:Cell×List Cell2×Unit×Int×Int->Option ((Unit)⊕(Int)):=iter dzm big
def hzy:CutSpec tb:=⟨28,[(4294967297,.ro 80),(0,.val 98),(1,.fnp 168 1),(7,.val 3),(8,.val 3)],[((.exit 0),[]),(.ret,[(4,.val 3)])],[9,10,5,11,12,13,14,15,16,17,4,18,8],dzn,none⟩
theorem gzA:A3 Tryz.f167 28 hzy:=A4 dzl .nil dzm
def dzR (x:Cell×List Cell2×Unit):Option (Int):=obnd (dzn (x.1,x.2.1,(),(↑x.2.1.length:Int),0)) fun y=>osum y (fun y=>some (-1)) fun y=>some y
def izn:FSpec tb:=⟨[(4294967297,.ro 80),(0,.val 98),(1,.fnp 168 1)],[(0,.val 3)],dzR⟩
theorem gz4:A0 167 izn:=A2 Tryz.func167 dzl (.cons gzA .nil)
def JzA (x:List Cell2×Cell):Option (Expr×Bool):=obnd (dzR (x.2,x.1,())) fun y=>brn (decide (y<0)) (some (Expr.mk 0 (Val.mk 0 (Dec.mk 0 0) [] false 0) (Area.mk (Ref.mk 0 0 false false) (Ref.mk 0 0 false false)) 0 0 [],false)) (obnd (idx x.1 y) fun y=>some (azf y.E,true))
def JzB:FSpec tb:=⟨[(0,.val 98),(1,.val 80)],[(0,.val 90),(1,.val 4)],JzA⟩
theorem IzJ:A0 107 JzB:=A1 Tryz.func107 (.cons gz4 .nil)
def mzg (x:Int):Option (Bool):=some (bif decide (x=x)then false else true)
def GzF:FSpec tb:=⟨[(0,.val 3)],[(0,.val 4)],mzg⟩
theorem xzV:A0 178 GzF:=A1 Tryz.func178 .nil
def bzH (x:Int×Int):Option (Int):=obnd (mzg x.1) fun y=>obnd (mzg x.2) fun y_1=>brn y (brn y_1 (some 0) (some (-1))) (brn y_1 (some 1) (brn (decide (x.1<x.2)) (some (-1)) (brn (decide (x.2<x.1)) (some 1) (some 0))))
def Cz3:FSpec tb:=⟨[(0,.val 3),(1,.val 3)],[(0,.val 3)],bzH⟩
theorem hzj:A0 122 Cz3:=A1 Tryz.func122 (.cons xzV .nil)
def jz4 (back:Int×List Int×Int×Int->Option ((Unit)⊕(Int)))(x:Int×List Int×Int×Int):Option ((Unit)⊕(Int)):=brn (decide (x.2.2.2<x.2.2.1)) (obnd (idx x.2.1 x.2.2.2) fun y=>brn (!decide (y=x.1)) (some (Sum.inr y)) (back (x.1,x.2.1,x.2.2.1,i64.wrap (x.2.2.2+1)))) (some (Sum.inl PUnit.unit))
def pzb:Int×List Int×Int×Int->Option ((Unit)⊕(Int)):=iter jz4 big
def GzE:CutSpec tb:=⟨36,[(3,.val 3),(6,.val 23),(7,.val 3),(8,.val 3)],[((.exit 0),[]),(.ret,[(2,.val 3)])],[9,10,11,5,12,13,14,15,2,16,8],pzb,none⟩
theorem Az3:A3 Tryz.f121 36 GzE:=A4 .nil .nil jz4
def jzJ (x:List Int):Option (Int):=obnd (pzb (0,x,(↑x.length:Int),0)) fun y=>osum y (fun y=>some 0) fun y=>some y
def Kz9:FSpec tb:=⟨[(0,.val 23)],[(0,.val 3)],jzJ⟩
theorem kzK:A0 121 Kz9:=A2 Tryz.func121 .nil (.cons Az3 .nil)
def szH (x:Group×Group):Option (Int):=obnd (bzH (x.1.A.Row,x.2.A.Row)) fun y=>obnd (bzH (x.1.A.Col,x.2.A.Col)) fun y_1=>obnd (jzJ [y,y_1]) fun y=>some y
def szI:FSpec tb:=⟨[(0,.val 141),(1,.val 141)],[(0,.val 3)],szH⟩
theorem qz0:A0 109 szI:=A1 Tryz.func109 (.cons hzj (.cons kzK .nil))
abbrev hzA:List (Nat×FSpec tb):=[(109,szI)]
theorem bzo:azj Tryz.prog tb (hzA):=(.cons qz0 .nil)
def czS (back:List (Group)×Int×Unit×Int->Option (List (Group)))(x:List (Group)×Int×Unit×Int):Option (List (Group)):=brn (decide (x.2.1<x.2.2.2)) (obnd (inb x.1.length x.2.2.2) fun k=>obnd (nth x.1 (0+k)) fun y=>obnd (inb x.1.length (i64.wrap (x.2.2.2-1))) fun k=>obnd (nth x.1 (0+k)) fun y_1=>obnd (szH (Group.mk y.Array y.A y.B (azf y.E),Group.mk y_1.Array y_1.A y_1.B (azf y_1.E))) fun y=>brn (decide (y<0)) (obnd (inb x.1.length (i64.wrap (x.2.2.2-1))) fun k=>obnd (nth x.1 (0+k)) fun y=>obnd (inb x.1.length x.2.2.2) fun k=>obnd (nth x.1 (0+k)) fun y_2=>obnd (inb x.1.length x.2.2.2) fun k=>obnd (nth x.1 (0+k)) fun y_3=>obnd (inb (x.1.set (0+k) (Group.mk y.Array y.A y.B (azf y.E))).length (i64.wrap (x.2.2.2-1))) fun k_1=>obnd (nth (x.1.set (0+k) (Group.mk y.Array y.A y.B (azf y.E))) (0+k_1)) fun y_4=>back ((x.1.set (0+k) (Group.mk y.Array y.A y.B (azf y.E))).set (0+k_1) (Group.mk y_2.Array y_2.A y_2.B (azf y_2.E)),x.2.1,(),i64.wrap (x.2.2.2-1))) (some x.1)) (some x.1)
def czT:List (Group)×Int×Unit×Int->Option (List (Group)):=iter czS big
def gzE:CutSpec tb:=⟨44,[(0,.wr 141),(1,.val 3),(3,.fnp 109 0),(9,.val 3)],[((.exit 2),[(0,.wr 141)])],[18,19,20,21,22,23,24,25,26,27,28,29,30,31,32,33,34,37,38,39,40,41,42,43,44,45,46,47,48,49,50,51,52,35,36,9],czT,none⟩
theorem fzI:A3 Tryz.f203 44 gzE:=A4 bzo .nil czS
def czQ (back:List (Group)×Int×Int×Unit×Int->Option (List (Group)))(x:List (Group)×Int×Int×Unit×Int):Option (List (Group)):=brn (decide (x.2.2.2.2<x.2.2.1)) (obnd (czT (x.1,x.2.1,(),x.2.2.2.2)) fun y=>back (y,x.2.1,x.2.2.1,(),i64.wrap (x.2.2.2.2+1))) (some x.1)
def czR:List (Group)×Int×Int×Unit×Int->Option (List (Group)):=iter czQ big
def gzD:CutSpec tb:=⟨20,[(0,.wr 141),(1,.val 3),(2,.val 3),(3,.fnp 109 0),(8,.val 3)],[((.exit 0),[(0,.wr 141)])],[12,13,14,17,9,18,19,20,21,22,23,24,25,26,27,28,29,30,31,32,33,34,37,38,39,40,41,42,43,44,45,46,47,48,49,50,51,52,35,36,15,16,8],czR,none⟩
theorem fzH:A3 Tryz.f203 20 gzD:=A4 bzo (.cons fzI .nil) czQ
def bzJ (x:List (Group)×Int×Int×Unit):Option (List (Group)):=obnd (czR (x.1,x.2.1,x.2.2.1,(),i64.wrap (x.2.1+1))) fun y=>some y
def dzr:FSpec tb:=⟨[(0,.wr 141),(1,.val 3),(2,.val 3),(3,.fnp 109 0)],[(4503599627403264,.wr 141)],bzJ⟩
theorem fz5:A0 203 dzr:=A2 Tryz.func203 bzo (.cons fzH .nil)
def izT (_:List Group×Int×Int×Int×Unit):Option (Unit):=none
def ezb:FSpec tb:=⟨[(0,.val 99),(1,.val 3),(2,.val 3),(3,.val 3),(4,.fnp 109 0)],[],izT⟩
theorem hzF:azu Tryz.prog tb 204 ezb:=MzN (fzE Tryz.func204 (by kernel_rfl))
abbrev jzE:List (Nat×FSpec tb):=[(203,dzr),(204,ezb)]
theorem az6:azj Tryz.prog tb (jzE):=(.cons fz5 (.cons hzF .nil))
def dz5 (back:List (Group)×Int×Unit×Int×Int×Int->Option (Int×List (Group)))(x:List (Group)×Int×Unit×Int×Int×Int):Option (Int×List (Group)):=brn (decide (x.2.2.2.2.2<=x.2.1)) (obnd (bzJ (x.1,x.2.2.2.2.1,x.2.2.2.2.2,())) fun y=>back (y,x.2.1,(),x.2.2.2.1,x.2.2.2.2.2,i64.wrap (x.2.2.2.2.2+x.2.2.2.1))) (some (x.2.2.2.2.1,x.1))
def dz6:List (Group)×Int×Unit×Int×Int×Int->Option (Int×List (Group)):=iter dz5 big
def izK:CutSpec tb:=⟨28,[(0,.wr 141),(1,.val 3),(2,.fnp 109 0),(6,.val 3),(7,.val 3),(8,.val 3)],[((.exit 0),[(7,.val 3),(0,.wr 141)])],[11,12,13,14,15,16,17,18,19,7,20,21,22,8],dz6,none⟩
theorem hzQ:A3 Tryz.f169 28 izK:=A4 az6 .nil dz5
def dz9 (back:List (Group)×Int×Unit×Int×Int×Int->Option (Int×List (Group)))(x:List (Group)×Int×Unit×Int×Int×Int):Option (Int×List (Group)):=brn (decide (x.2.2.2.2.2<=x.2.1)) none (some (x.2.2.2.2.1,x.1))
def eza:List (Group)×Int×Unit×Int×Int×Int->Option (Int×List (Group)):=iter dz9 big
def izM:CutSpec tb:=⟨84,[(0,.wr 141),(1,.val 3),(2,.fnp 109 0),(6,.val 3),(7,.val 3),(8,.val 3)],[((.exit 4),[(7,.val 3),(0,.wr 141)])],[33,34,35,36,37,38,39,40,41,42,43,44,7,45,46,47,48,8],eza,none⟩
theorem hzS:A3 Tryz.f169 84 izM:=A4 az6 .nil dz9
def dz7 (back:List (Group)×Int×Unit×Int->Option (List (Group)))(x:List (Group)×Int×Unit×Int):Option (List (Group)):=brn (decide (x.2.2.2<x.2.1)) (obnd (eza (x.1,x.2.1,(),x.2.2.2,0,i64.wrap (2*x.2.2.2))) fun y=>brn (decide (i64.wrap (y.1+x.2.2.2)<x.2.1)) none (back (y.2,x.2.1,(),i64.wrap (x.2.2.2*2)))) (some x.1)
def dz8:List (Group)×Int×Unit×Int->Option (List (Group)):=iter dz7 big
def izL:CutSpec tb:=⟨68,[(0,.wr 141),(1,.val 3),(2,.fnp 109 0),(6,.val 3)],[((.exit 2),[(0,.wr 141)])],[28,29,30,31,32,7,8,33,34,35,36,37,38,39,40,41,42,43,44,45,46,47,48,49,50,51,9,52,53,54,55,56,57,58,59,60,61,62,6],dz8,none⟩
theorem hzR:A3 Tryz.f169 68 izL:=A4 az6 (.cons hzS .nil) dz7
def ezq (x:List (Group)×Int×Unit):Option (List (Group)):=obnd (dz6 (x.1,x.2.1,(),20,0,20)) fun y=>obnd (bzJ (y.2,y.1,x.2.1,())) fun y=>obnd (dz8 (y,x.2.1,(),20)) fun y=>some y
def jzF:FSpec tb:=⟨[(0,.wr 141),(1,.val 3),(2,.fnp 109 0)],[(4503599627403264,.wr 141)],ezq⟩
theorem hz4:A0 169 jzF:=A2 Tryz.func169 az6 (.cons hzQ (.cons hzR .nil))
def czu (x:List (Group)×Unit):Option (List (Group)):=obnd (ezq (x.1,(↑x.1.length:Int),())) fun y=>some y
def czv:FSpec tb:=⟨[(0,.wr 141),(1,.fnp 109 0)],[(4503599627403264,.wr 141)],czu⟩
theorem ezX:A0 108 czv:=A1 Tryz.func108 (.cons hz4 .nil)
def mzC (x:Group×Cell):Option (Bool):=brn (decide (x.1.A.Row<=x.2.Row)) (brn (decide (x.2.Row<=x.1.B.Row)) (brn (decide (x.1.A.Col<=x.2.Col)) (some (decide (x.2.Col<=x.1.B.Col))) (some false)) (some false)) (some false)
def wzZ:FSpec tb:=⟨[(0,.val 141),(1,.val 80)],[(0,.val 4)],mzC⟩
theorem lzP:A0 48 wzZ:=A1 Tryz.func48 .nil
def szJ (x:Group×Cell2):Option (Bool):=obnd (mzC (Group.mk x.1.Array x.1.A x.1.B (azf x.1.E),x.2.At)) fun y=>some y
def szL:FSpec tb:=⟨[(0,.val 141),(1,.ro 108)],[(0,.val 4)],szJ⟩
theorem vzM:A0 170 szL:=A1 Tryz.func170 (.cons lzP .nil)
abbrev fzY:List (Nat×FSpec tb):=[(170,szL)]
theorem cze:azj Tryz.prog tb (fzY):=(.cons vzM .nil)
def czf (back:Cell2×List Group×Unit×Int×Int->Option ((Unit)⊕(Int)))(x:Cell2×List Group×Unit×Int×Int):Option ((Unit)⊕(Int)):=brn (decide (x.2.2.2.2<x.2.2.2.1)) (obnd (idx x.2.1 x.2.2.2.2) fun y=>obnd (szJ (Group.mk y.Array y.A y.B (azf y.E),Cell2.mk x.1.At x.1.XF x.1.V x.1.Has (azf x.1.E))) fun y=>brn y (some (Sum.inr x.2.2.2.2)) (back (Cell2.mk x.1.At x.1.XF x.1.V x.1.Has (azf x.1.E),x.2.1,(),x.2.2.2.1,i64.wrap (x.2.2.2.2+1)))) (some (Sum.inl PUnit.unit))
def czg:Cell2×List Group×Unit×Int×Int->Option ((Unit)⊕(Int)):=iter czf big
def fzs:CutSpec tb:=⟨28,[(4294967297,.ro 108),(0,.val 99),(1,.fnp 170 1),(7,.val 3),(8,.val 3)],[((.exit 0),[]),(.ret,[(4,.val 3)])],[9,10,5,11,12,13,14,15,16,17,4,18,8],czg,none⟩
theorem ezV:A3 Tryz.f190 28 fzs:=A4 cze .nil czf
def czG (x:Cell2×List Group×Unit):Option (Int):=obnd (czg (Cell2.mk x.1.At x.1.XF x.1.V x.1.Has (azf x.1.E),x.2.1,(),(↑x.2.1.length:Int),0)) fun y=>osum y (fun y=>some (-1)) fun y=>some y
def fzZ:FSpec tb:=⟨[(4294967297,.ro 108),(0,.val 99),(1,.fnp 170 1)],[(0,.val 3)],czG⟩
theorem ez5:A0 190 fzZ:=A2 Tryz.func190 cze (.cons ezV .nil)
def cza (x:Cell2×List Group×Unit):Option (Bool):=obnd (czG (Cell2.mk x.1.At x.1.XF x.1.V x.1.Has (azf x.1.E),x.2.1,())) fun y=>some (decide (0<=y))
def czb:FSpec tb:=⟨[(4294967297,.ro 108),(0,.val 99),(1,.fnp 170 1)],[(0,.val 4)],cza⟩
theorem ezL:A0 143 czb:=A1 Tryz.func143 (.cons ez5 .nil)
def fzu (x:List Member):Option (List Member):=some x
def fzv:FSpec tb:=⟨[(0,.val 297)],[(0,.val 336)],fzu⟩
theorem jzD:A0 206 fzv:=A1 Tryz.func206 .nil
abbrev ezp:List (Nat×FSpec tb):=[(1099511627787,mutS)]
theorem dzY:azj Tryz.prog tb (ezp):=(.consK jza .nil)
def bz3 (y:Member)(x:List (Member)×Unit×List Member):Option (List (Member)×Unit×List Member):=obnd (app 168 x.1 [Member.mk y.At (azf y.E)]) fun zs=>some (zs,(),x.2.2)
def dz0 (x:List (Member)×Unit×List Member):Option ((List (Member))×Unit):=some (x.1,())
def bz4 (x:List (Member)×Unit×List Member):List (Member):=x.2.2
def dzZ (x:List (Member)×Unit×List Member):Option ((List (Member))×Unit):=obnd (mz8 bz3 (bz4 x) x) dz0
def azD:CutSpec tb:=⟨30,[(4294967298,.wr 299),(2,.box 1),(6,.val 336)],[(.normal,[(4294967298,.wr 299)])],[5,8,9,10,11],dzZ,none⟩
theorem izl:zzx Tryz.f232.ntmps azD [(7,.val 299)] #[7] (AzB (bzT 30 Tryz.f232)) (AzC (bzT 30 Tryz.f232))=true:=by kernel_rfl
theorem hzX:∀y x,uzV Tryz.prog tb ezp (AzB (bzT 30 Tryz.f232)) (AzC (bzT 30 Tryz.f232)) [(7,.val 299)] azD.ins azD.al y x=bz3 y x:=fun y x=>by kernel_rfl
theorem hzx (xs:List (Member))(i:Int)(ys:List (Member)):nzo Tryz.prog tb (rzh [.sl 299 xs] [5,6] [.sl 299 xs,.int .i64 xs.length]) [(7,.val 299)] (lbOf Tryz.f224) 7 0 i ys =
 brn (decide (i<(↑xs.length:Int))) (obnd (idx xs i) fun y=>some (Sum.inl (i64.wrap (i+1),ys++[Member.mk y.At (azf y.E)]))) (some (Sum.inr ys)):=by kernel_rfl
theorem hzP:∀(x:List (Member)×Unit×List Member) y,azD.J x=some y->∃c,(kzJ Tryz.prog tb azD.ins x).env 6=some (.c (.d c))/\∀g w v,tb.inv g w->RepD Tryz.prog tb g w c v->pzV Tryz.prog tb g w [(7,.val 299)] (bz4 x) v:=fun x y hy=>⟨.itf 224 none 299 x.2.2,by kernel_rfl,fun g w v hi hv=>Jz1 mixed hv (r0:=r0Of Tryz.f224) (b:=lbOf Tryz.f224) Tryz.func224 (by kernel_rfl) (by kernel_rfl) (by kernel_rfl) hi (by kernel_rfl) (by kernel_rfl) [5,6] (by kernel_rfl) (by kernel_rfl) (i0:=0) (cs:=[.sl 299 x.2.2,.int .i64 x.2.2.length]) (by kernel_rfl) (vals_loop (rep_len hv) fun i ys=>(hzx _ i ys).trans (by simp only[azp];try rfl))⟩
theorem hzO:bz0 Tryz.prog tb Tryz.f232.ntmps (bzT 30 Tryz.f232) azD:=Dzu (p:=[(7,.val 299)]) mixed izl dzY rfl bz4 hzP bz3 hzX dz0 (fun x=>by kernel_rfl) (fun _ _ h=>h)
def ezo (x:List (Member)×List Member):Option (List (Member)):=obnd (dzZ (x.1,(),x.2)) fun y=>some y.1
def jzv:FSpec tb:=⟨[(0,.wr 299),(1,.val 336)],[(0,.wr 299)],ezo⟩
theorem hzY:A0 232 jzv:=A2 Tryz.func232 dzY (.cons hzO .nil)
def jzw (x:List Member):Option (List (Member)):=obnd (ezo ([],x)) fun y=>some y
def ozQ:FSpec tb:=⟨[(0,.val 336)],[(0,.wr 299)],jzw⟩
theorem mzH:A0 222 ozQ:=A1 Tryz.func222 (.cons hzY .nil)
def jzu (x:Member×Member):Option (Int):=obnd (bzH (x.1.At.Col,x.2.At.Col)) fun y=>obnd (bzH (x.1.At.Row,x.2.At.Row)) fun y_1=>obnd (jzJ [y,y_1]) fun y=>some y
def ozN:FSpec tb:=⟨[(0,.val 299),(1,.val 299)],[(0,.val 3)],jzu⟩
theorem ozO:A0 207 ozN:=A1 Tryz.func207 (.cons hzj (.cons kzK .nil))
abbrev gzm:List (Nat×FSpec tb):=[(207,ozN)]
theorem bza:azj Tryz.prog tb (gzm):=(.cons ozO .nil)
def czp (back:List (Member)×Int×Unit×Int->Option (List (Member)))(x:List (Member)×Int×Unit×Int):Option (List (Member)):=brn (decide (x.2.1<x.2.2.2)) (obnd (inb x.1.length x.2.2.2) fun k=>obnd (nth x.1 (0+k)) fun y=>obnd (inb x.1.length (i64.wrap (x.2.2.2-1))) fun k=>obnd (nth x.1 (0+k)) fun y_1=>obnd (jzu (Member.mk y.At (azf y.E),Member.mk y_1.At (azf y_1.E))) fun y=>brn (decide (y<0)) (obnd (inb x.1.length (i64.wrap (x.2.2.2-1))) fun k=>obnd (nth x.1 (0+k)) fun y=>obnd (inb x.1.length x.2.2.2) fun k=>obnd (nth x.1 (0+k)) fun y_2=>obnd (inb x.1.length x.2.2.2) fun k=>obnd (nth x.1 (0+k)) fun y_3=>obnd (inb (x.1.set (0+k) (Member.mk y.At (azf y.E))).length (i64.wrap (x.2.2.2-1))) fun k_1=>obnd (nth (x.1.set (0+k) (Member.mk y.At (azf y.E))) (0+k_1)) fun y_4=>back ((x.1.set (0+k) (Member.mk y.At (azf y.E))).set (0+k_1) (Member.mk y_2.At (azf y_2.E)),x.2.1,(),i64.wrap (x.2.2.2-1))) (some x.1)) (some x.1)
def czq:List (Member)×Int×Unit×Int->Option (List (Member)):=iter czp big
def fzD:CutSpec tb:=⟨44,[(0,.wr 299),(1,.val 3),(3,.fnp 207 0),(9,.val 3)],[((.exit 2),[(0,.wr 299)])],[18,19,20,21,22,23,24,25,26,27,28,29,30,31,32,33,34,37,38,39,40,41,42,43,44,45,46,47,48,49,50,51,52,35,36,9],czq,none⟩
theorem ez9:A3 Tryz.f236 44 fzD:=A4 bza .nil czp
def czn (back:List (Member)×Int×Int×Unit×Int->Option (List (Member)))(x:List (Member)×Int×Int×Unit×Int):Option (List (Member)):=brn (decide (x.2.2.2.2<x.2.2.1)) (obnd (czq (x.1,x.2.1,(),x.2.2.2.2)) fun y=>back (y,x.2.1,x.2.2.1,(),i64.wrap (x.2.2.2.2+1))) (some x.1)
def czo:List (Member)×Int×Int×Unit×Int->Option (List (Member)):=iter czn big
def fzC:CutSpec tb:=⟨20,[(0,.wr 299),(1,.val 3),(2,.val 3),(3,.fnp 207 0),(8,.val 3)],[((.exit 0),[(0,.wr 299)])],[12,13,14,17,9,18,19,20,21,22,23,24,25,26,27,28,29,30,31,32,33,34,37,38,39,40,41,42,43,44,45,46,47,48,49,50,51,52,35,36,15,16,8],czo,none⟩
theorem ez8:A3 Tryz.f236 20 fzC:=A4 bza (.cons ez9 .nil) czn
def bzm (x:List (Member)×Int×Int×Unit):Option (List (Member)):=obnd (czo (x.1,x.2.1,x.2.2.1,(),i64.wrap (x.2.1+1))) fun y=>some y
def czO:FSpec tb:=⟨[(0,.wr 299),(1,.val 3),(2,.val 3),(3,.fnp 207 0)],[(4503599627403264,.wr 299)],bzm⟩
theorem fzb:A0 236 czO:=A2 Tryz.func236 bza (.cons ez8 .nil)
def czU (back:List (Member)×Int×Int×Int×Int->Option (List (Member)))(x:List (Member)×Int×Int×Int×Int):Option (List (Member)):=brn (decide (x.2.2.2.2<x.2.2.2.1)) (obnd (inb x.1.length (i64.wrap (x.2.2.1+x.2.2.2.2))) fun k=>obnd (nth x.1 (0+k)) fun y=>obnd (inb x.1.length (i64.wrap (x.2.1+x.2.2.2.2))) fun k=>obnd (nth x.1 (0+k)) fun y_1=>obnd (inb x.1.length (i64.wrap (x.2.1+x.2.2.2.2))) fun k=>obnd (nth x.1 (0+k)) fun y_2=>obnd (inb (x.1.set (0+k) (Member.mk y.At (azf y.E))).length (i64.wrap (x.2.2.1+x.2.2.2.2))) fun k_1=>obnd (nth (x.1.set (0+k) (Member.mk y.At (azf y.E))) (0+k_1)) fun y_3=>back ((x.1.set (0+k) (Member.mk y.At (azf y.E))).set (0+k_1) (Member.mk y_1.At (azf y_1.E)),x.2.1,x.2.2.1,x.2.2.2.1,i64.wrap (x.2.2.2.2+1))) (some x.1)
def czV:List (Member)×Int×Int×Int×Int->Option (List (Member)):=iter czU big
def gzJ:CutSpec tb:=⟨20,[(0,.wr 299),(1,.val 3),(2,.val 3),(3,.val 3),(10,.val 3)],[((.exit 0),[(0,.wr 299)])],[11,12,13,16,17,18,19,20,21,22,23,24,25,26,27,28,29,30,31,32,33,34,35,36,37,14,15,10],czV,none⟩
theorem fzJ:A3 Tryz.f239 20 gzJ:=A4 .nil .nil czU
def azZ (x:List (Member)×Int×Int×Int×Unit):Option (List (Member)):=obnd (czV (x.1,x.2.1,x.2.2.1,x.2.2.2.1,0)) fun y=>some y
def dzB:FSpec tb:=⟨[(0,.wr 299),(1,.val 3),(2,.val 3),(3,.val 3),(4,.fnp 207 0)],[(4503599627403264,.wr 299)],azZ⟩
theorem fz6:A0 239 dzB:=A2 Tryz.func239 .nil (.cons fzJ .nil)
abbrev izq:List (Nat×FSpec tb):=[(239,dzB)]
theorem dzs:azj Tryz.prog tb (izq):=(.cons fz6 .nil)
def dzt (back:List (Member)×Int×Unit×Int×Int->Option (Int×List (Member)))(x:List (Member)×Int×Unit×Int×Int):Option (Int×List (Member)):=brn (!decide (x.2.2.2.1=x.2.2.2.2)) (brn (decide (x.2.2.2.2<x.2.2.2.1)) (obnd (azZ (x.1,i64.wrap (x.2.1-x.2.2.2.1),x.2.1,x.2.2.2.2,())) fun y=>back (y,x.2.1,(),i64.wrap (x.2.2.2.1-x.2.2.2.2),x.2.2.2.2)) (obnd (azZ (x.1,i64.wrap (x.2.1-x.2.2.2.1),i64.wrap (i64.wrap (x.2.1+x.2.2.2.2)-x.2.2.2.1),x.2.2.2.1,())) fun y=>back (y,x.2.1,(),x.2.2.2.1,i64.wrap (x.2.2.2.2-x.2.2.2.1)))) (some (x.2.2.2.1,x.1))
def dzu:List (Member)×Int×Unit×Int×Int->Option (Int×List (Member)):=iter dzt big
def hzB:CutSpec tb:=⟨28,[(0,.wr 299),(2,.val 3),(4,.fnp 207 0),(10,.val 3),(11,.val 3)],[((.exit 0),[(10,.val 3),(0,.wr 299)])],[18,19,20,21,22,23,24,25,26,27,28,29,30,31,32,33,34,10,35,36,37,38,39,40,41,42,43,44,45,46,47,48,49,11],dzu,none⟩
theorem gzF:A3 Tryz.f238 28 hzB:=A4 dzs .nil dzt
def dzS (x:List (Member)×Int×Int×Int×Unit):Option (List (Member)):=obnd (dzu (x.1,x.2.2.1,(),i64.wrap (x.2.2.1-x.2.1),i64.wrap (x.2.2.2.1-x.2.2.1))) fun y=>obnd (azZ (y.2,i64.wrap (x.2.2.1-y.1),x.2.2.1,y.1,())) fun y=>some y
def dzT:FSpec tb:=⟨[(0,.wr 299),(1,.val 3),(2,.val 3),(3,.val 3),(4,.fnp 207 0)],[(4503599627403264,.wr 299)],dzS⟩
theorem hza:A0 238 dzT:=A2 Tryz.func238 dzs (.cons gzF .nil)
def azi (self:List (Member)×Int×Int×Int×Unit->Option (List (Member))):FSpec tb:=⟨[(0,.wr 299),(1,.val 3),(2,.val 3),(3,.val 3),(4,.fnp 207 0)],[(4503599627403264,.wr 299)],self⟩
abbrev azq (self:List (Member)×Int×Int×Int×Unit->Option (List (Member))):List (Nat×FSpec tb):=[(207,ozN),(238,dzT),(237,(azi self))]
theorem azt (self:List (Member)×Int×Int×Int×Unit->Option (List (Member)))(hself:azu Tryz.prog tb 237 (azi self)):azj Tryz.prog tb (azq self):=(.cons ozO (.cons hza (.cons hself .nil)))
def bzu (self:List (Member)×Int×Int×Int×Unit->Option (List (Member)))(back:List (Member)×Int×Unit×Int×Int->Option (Int×List (Member)))(x:List (Member)×Int×Unit×Int×Int):Option (Int×List (Member)):=brn (decide (x.2.2.2.1<x.2.2.2.2)) (obnd (inb x.1.length (i64.wrap ((u64.wrap (i64.wrap (x.2.2.2.1+x.2.2.2.2))).fdiv 2))) fun k=>obnd (nth x.1 (0+k)) fun y=>obnd (inb x.1.length x.2.1) fun k=>obnd (nth x.1 (0+k)) fun y_1=>obnd (jzu (Member.mk y.At (azf y.E),Member.mk y_1.At (azf y_1.E))) fun y=>brn (decide (y<0)) (back (x.1,x.2.1,(),i64.wrap (i64.wrap ((u64.wrap (i64.wrap (x.2.2.2.1+x.2.2.2.2))).fdiv 2)+1),x.2.2.2.2)) (back (x.1,x.2.1,(),x.2.2.2.1,i64.wrap ((u64.wrap (i64.wrap (x.2.2.2.1+x.2.2.2.2))).fdiv 2)))) (some (x.2.2.2.1,x.1))
def cz6 (self:List (Member)×Int×Int×Int×Unit->Option (List (Member))):List (Member)×Int×Unit×Int×Int->Option (Int×List (Member)):=iter (bzu self) big
def azG (self:List (Member)×Int×Int×Int×Unit->Option (List (Member))):CutSpec tb:=⟨36,[(0,.wr 299),(1,.val 3),(4,.fnp 207 0),(10,.val 3),(11,.val 3)],[((.exit 0),[(10,.val 3),(0,.wr 299)])],[31,32,33,34,35,36,37,38,39,12,40,41,42,43,44,45,46,47,48,49,50,51,52,10,53,11],(cz6 self),none⟩
theorem gzq (self:List (Member)×Int×Int×Int×Unit->Option (List (Member))):∀back x,fzL Tryz.prog tb (azq self) [] (bzB 36 Tryz.f237) (azG self).ins (azG self).outs back x=bzu self back x:=fun back x=>by kernel_rfl
theorem gzN (self:List (Member)×Int×Int×Int×Unit->Option (List (Member))):cutB Tryz.f237.ntmps (azG self) (bzB 36 Tryz.f237)=true:=by kernel_rfl
theorem gza (self:List (Member)×Int×Int×Int×Unit->Option (List (Member)))(hself:azu Tryz.prog tb 237 (azi self)):A3 Tryz.f237 36 (azG self):=A4 (azt self hself) .nil (bzu self) (hb:=(gzN self)) (hF:=(gzq self))
def bzv (self:List (Member)×Int×Int×Int×Unit->Option (List (Member)))(back:List (Member)×Int×Int->Option (List (Member)))(x:List (Member)×Int×Int):Option (List (Member)):=brn (decide (x.2.2<i64.wrap (x.2.1-1))) (obnd (inb x.1.length (i64.wrap (x.2.2+1))) fun k=>obnd (nth x.1 (0+k)) fun y=>obnd (inb x.1.length x.2.2) fun k=>obnd (nth x.1 (0+k)) fun y_1=>obnd (inb x.1.length x.2.2) fun k=>obnd (nth x.1 (0+k)) fun y_2=>obnd (inb (x.1.set (0+k) (Member.mk y.At (azf y.E))).length (i64.wrap (x.2.2+1))) fun k_1=>obnd (nth (x.1.set (0+k) (Member.mk y.At (azf y.E))) (0+k_1)) fun y_3=>back ((x.1.set (0+k) (Member.mk y.At (azf y.E))).set (0+k_1) (Member.mk y_1.At (azf y_1.E)),x.2.1,i64.wrap (x.2.2+1))) (some x.1)
def cz7 (self:List (Member)×Int×Int×Int×Unit->Option (List (Member))):List (Member)×Int×Int->Option (List (Member)):=iter (bzv self) big
def azH (self:List (Member)×Int×Int×Int×Unit->Option (List (Member))):CutSpec tb:=⟨84,[(0,.wr 299),(10,.val 3),(13,.val 3)],[((.exit 2),[(0,.wr 299)])],[55,56,57,58,61,62,63,64,65,66,67,68,69,70,71,72,73,74,75,76,59,60,13],(cz7 self),none⟩
theorem gzr (self:List (Member)×Int×Int×Int×Unit->Option (List (Member))):∀back x,fzL Tryz.prog tb (azq self) [] (bzB 84 Tryz.f237) (azH self).ins (azH self).outs back x=bzv self back x:=fun back x=>by kernel_rfl
theorem gzO (self:List (Member)×Int×Int×Int×Unit->Option (List (Member))):cutB Tryz.f237.ntmps (azH self) (bzB 84 Tryz.f237)=true:=by kernel_rfl
theorem gzb (self:List (Member)×Int×Int×Int×Unit->Option (List (Member)))(hself:azu Tryz.prog tb 237 (azi self)):A3 Tryz.f237 84 (azH self):=A4 (azt self hself) .nil (bzv self) (hb:=(gzO self)) (hF:=(gzr self))
def bzw (self:List (Member)×Int×Int×Int×Unit->Option (List (Member)))(back:List (Member)×Int×Unit×Int×Int->Option (Int×List (Member)))(x:List (Member)×Int×Unit×Int×Int):Option (Int×List (Member)):=brn (decide (x.2.2.2.1<x.2.2.2.2)) (obnd (inb x.1.length x.2.1) fun k=>obnd (nth x.1 (0+k)) fun y=>obnd (inb x.1.length (i64.wrap ((u64.wrap (i64.wrap (x.2.2.2.1+x.2.2.2.2))).fdiv 2))) fun k=>obnd (nth x.1 (0+k)) fun y_1=>obnd (jzu (Member.mk y.At (azf y.E),Member.mk y_1.At (azf y_1.E))) fun y=>brn (!decide (y<0)) (back (x.1,x.2.1,(),i64.wrap (i64.wrap ((u64.wrap (i64.wrap (x.2.2.2.1+x.2.2.2.2))).fdiv 2)+1),x.2.2.2.2)) (back (x.1,x.2.1,(),x.2.2.2.1,i64.wrap ((u64.wrap (i64.wrap (x.2.2.2.1+x.2.2.2.2))).fdiv 2)))) (some (x.2.2.2.1,x.1))
def cz8 (self:List (Member)×Int×Int×Int×Unit->Option (List (Member))):List (Member)×Int×Unit×Int×Int->Option (Int×List (Member)):=iter (bzw self) big
def azI (self:List (Member)×Int×Int×Int×Unit->Option (List (Member))):CutSpec tb:=⟨132,[(0,.wr 299),(2,.val 3),(4,.fnp 207 0),(14,.val 3),(15,.val 3)],[((.exit 4),[(14,.val 3),(0,.wr 299)])],[83,84,85,86,87,88,89,90,91,16,92,93,94,95,96,97,98,99,100,101,102,103,104,105,14,106,15],(cz8 self),none⟩
theorem gzs (self:List (Member)×Int×Int×Int×Unit->Option (List (Member))):∀back x,fzL Tryz.prog tb (azq self) [] (bzB 132 Tryz.f237) (azI self).ins (azI self).outs back x=bzw self back x:=fun back x=>by kernel_rfl
theorem gzP (self:List (Member)×Int×Int×Int×Unit->Option (List (Member))):cutB Tryz.f237.ntmps (azI self) (bzB 132 Tryz.f237)=true:=by kernel_rfl
theorem gzc (self:List (Member)×Int×Int×Int×Unit->Option (List (Member)))(hself:azu Tryz.prog tb 237 (azi self)):A3 Tryz.f237 132 (azI self):=A4 (azt self hself) .nil (bzw self) (hb:=(gzP self)) (hF:=(gzs self))
def bzx (self:List (Member)×Int×Int×Int×Unit->Option (List (Member)))(back:List (Member)×Int×Int->Option (List (Member)))(x:List (Member)×Int×Int):Option (List (Member)):=brn (decide (x.2.1<x.2.2)) (obnd (inb x.1.length (i64.wrap (x.2.2-1))) fun k=>obnd (nth x.1 (0+k)) fun y=>obnd (inb x.1.length x.2.2) fun k=>obnd (nth x.1 (0+k)) fun y_1=>obnd (inb x.1.length x.2.2) fun k=>obnd (nth x.1 (0+k)) fun y_2=>obnd (inb (x.1.set (0+k) (Member.mk y.At (azf y.E))).length (i64.wrap (x.2.2-1))) fun k_1=>obnd (nth (x.1.set (0+k) (Member.mk y.At (azf y.E))) (0+k_1)) fun y_3=>back ((x.1.set (0+k) (Member.mk y.At (azf y.E))).set (0+k_1) (Member.mk y_1.At (azf y_1.E)),x.2.1,i64.wrap (x.2.2-1))) (some x.1)
def cz9 (self:List (Member)×Int×Int×Int×Unit->Option (List (Member))):List (Member)×Int×Int->Option (List (Member)):=iter (bzx self) big
def azJ (self:List (Member)×Int×Int×Int×Unit->Option (List (Member))):CutSpec tb:=⟨180,[(0,.wr 299),(14,.val 3),(17,.val 3)],[((.exit 6),[(0,.wr 299)])],[108,109,110,113,114,115,116,117,118,119,120,121,122,123,124,125,126,127,128,111,112,17],(cz9 self),none⟩
theorem gzt (self:List (Member)×Int×Int×Int×Unit->Option (List (Member))):∀back x,fzL Tryz.prog tb (azq self) [] (bzB 180 Tryz.f237) (azJ self).ins (azJ self).outs back x=bzx self back x:=fun back x=>by kernel_rfl
theorem gzQ (self:List (Member)×Int×Int×Int×Unit->Option (List (Member))):cutB Tryz.f237.ntmps (azJ self) (bzB 180 Tryz.f237)=true:=by kernel_rfl
theorem gzd (self:List (Member)×Int×Int×Int×Unit->Option (List (Member)))(hself:azu Tryz.prog tb 237 (azi self)):A3 Tryz.f237 180 (azJ self):=A4 (azt self hself) .nil (bzx self) (hb:=(gzQ self)) (hF:=(gzt self))
def cz3 (self:List (Member)×Int×Int×Int×Unit->Option (List (Member)))(x:Int×Int×Int×Int×Int×Bool):Option (Int×Int):=brn x.2.2.2.2.2 (some (i64.wrap (x.2.2.2.2.1-x.2.2.1),x.2.2.2.1)) (some (x.1,x.2.1))
def azy (self:List (Member)×Int×Int×Int×Unit->Option (List (Member))):CutSpec tb:=⟨234,[(1,.val 3),(2,.val 3),(3,.val 3),(18,.val 3),(19,.val 3),(140,.val 4)],[(.normal,[(20,.val 3),(21,.val 3)])],[141,142,143,20,144,21,145,146],(cz3 self),none⟩
theorem gzn (self:List (Member)×Int×Int×Int×Unit->Option (List (Member))):∀x,rzb Tryz.prog tb (azq self) [] (bzT 234 Tryz.f237) (azy self).ins (azy self).outs x=(azy self).J x:=fun x=>by kernel_rfl
theorem gzK (self:List (Member)×Int×Int×Int×Unit->Option (List (Member))):cutB Tryz.f237.ntmps (azy self) (bzT 234 Tryz.f237)=true:=by kernel_rfl
theorem fz7 (self:List (Member)×Int×Int×Int×Unit->Option (List (Member)))(hself:azu Tryz.prog tb 237 (azi self)):A5 Tryz.f237 234 (azy self):=A6 (azt self hself) .nil (hb:=(gzK self)) (hJ:=(gzn self))
def bzy (self:List (Member)×Int×Int×Int×Unit->Option (List (Member)))(back:List (Member)×Unit×Int×Int×Int->Option (Int×List (Member)))(x:List (Member)×Unit×Int×Int×Int):Option (Int×List (Member)):=brn (decide (x.2.2.1<x.2.2.2.1)) (obnd (inb x.1.length (i64.wrap (x.2.2.2.2-i64.wrap ((u64.wrap (i64.wrap (x.2.2.1+x.2.2.2.1))).fdiv 2)))) fun k=>obnd (nth x.1 (0+k)) fun y=>obnd (inb x.1.length (i64.wrap ((u64.wrap (i64.wrap (x.2.2.1+x.2.2.2.1))).fdiv 2))) fun k=>obnd (nth x.1 (0+k)) fun y_1=>obnd (jzu (Member.mk y.At (azf y.E),Member.mk y_1.At (azf y_1.E))) fun y=>brn (!decide (y<0)) (back (x.1,(),i64.wrap (i64.wrap ((u64.wrap (i64.wrap (x.2.2.1+x.2.2.2.1))).fdiv 2)+1),x.2.2.2)) (back (x.1,(),x.2.2.1,i64.wrap ((u64.wrap (i64.wrap (x.2.2.1+x.2.2.2.1))).fdiv 2),x.2.2.2.2))) (some (x.2.2.1,x.1))
def dza (self:List (Member)×Int×Int×Int×Unit->Option (List (Member))):List (Member)×Unit×Int×Int×Int->Option (Int×List (Member)):=iter (bzy self) big
def azK (self:List (Member)×Int×Int×Int×Unit->Option (List (Member))):CutSpec tb:=⟨276,[(0,.wr 299),(4,.fnp 207 0),(20,.val 3),(21,.val 3),(22,.val 3)],[((.exit 8),[(20,.val 3),(0,.wr 299)])],[149,150,151,152,153,154,155,156,157,23,158,159,160,161,162,163,164,165,166,167,168,169,170,171,172,173,20,174,21],(dza self),none⟩
theorem gzu (self:List (Member)×Int×Int×Int×Unit->Option (List (Member))):∀back x,fzL Tryz.prog tb (azq self) [] (bzB 276 Tryz.f237) (azK self).ins (azK self).outs back x=bzy self back x:=fun back x=>by kernel_rfl
theorem gzR (self:List (Member)×Int×Int×Int×Unit->Option (List (Member))):cutB Tryz.f237.ntmps (azK self) (bzB 276 Tryz.f237)=true:=by kernel_rfl
theorem gze (self:List (Member)×Int×Int×Int×Unit->Option (List (Member)))(hself:azu Tryz.prog tb 237 (azi self)):A3 Tryz.f237 276 (azK self):=A4 (azt self hself) .nil (bzy self) (hb:=(gzR self)) (hF:=(gzu self))
def cz4 (self:List (Member)×Int×Int×Int×Unit->Option (List (Member)))(x:Int×Int×Int):Option (Bool):=brn (decide (x.2.1<x.1)) (some (decide (x.1<x.2.2))) (some false)
def azz (self:List (Member)×Int×Int×Int×Unit->Option (List (Member))):CutSpec tb:=⟨320,[(2,.val 3),(20,.val 3),(24,.val 3)],[(.normal,[(185,.val 4)])],[178,179,180,181,182,183,184,185],(cz4 self),none⟩
theorem gzo (self:List (Member)×Int×Int×Int×Unit->Option (List (Member))):∀x,rzb Tryz.prog tb (azq self) [] (bzT 320 Tryz.f237) (azz self).ins (azz self).outs x=(azz self).J x:=fun x=>by kernel_rfl
theorem gzL (self:List (Member)×Int×Int×Int×Unit->Option (List (Member))):cutB Tryz.f237.ntmps (azz self) (bzT 320 Tryz.f237)=true:=by kernel_rfl
theorem fz8 (self:List (Member)×Int×Int×Int×Unit->Option (List (Member)))(hself:azu Tryz.prog tb 237 (azi self)):A5 Tryz.f237 320 (azz self):=A6 (azt self hself) .nil (hb:=(gzL self)) (hJ:=(gzo self))
def cz5 (self:List (Member)×Int×Int×Int×Unit->Option (List (Member)))(x:List (Member)×Int×Unit×Int×Int×Bool):Option (List (Member)):=brn x.2.2.2.2.2 (obnd (dzS (x.1,x.2.2.2.1,x.2.1,x.2.2.2.2.1,())) fun y=>some y) (some x.1)
def azA (self:List (Member)×Int×Int×Int×Unit->Option (List (Member))):CutSpec tb:=⟨330,[(0,.wr 299),(2,.val 3),(4,.fnp 207 0),(20,.val 3),(24,.val 3),(185,.val 4)],[(.normal,[(0,.wr 299)])],[186,187,188,189,190,191],(cz5 self),none⟩
theorem gzp (self:List (Member)×Int×Int×Int×Unit->Option (List (Member))):∀x,rzb Tryz.prog tb (azq self) [] (bzT 330 Tryz.f237) (azA self).ins (azA self).outs x=(azA self).J x:=fun x=>by kernel_rfl
theorem gzM (self:List (Member)×Int×Int×Int×Unit->Option (List (Member))):cutB Tryz.f237.ntmps (azA self) (bzT 330 Tryz.f237)=true:=by kernel_rfl
theorem fz9 (self:List (Member)×Int×Int×Int×Unit->Option (List (Member)))(hself:azu Tryz.prog tb 237 (azi self)):A5 Tryz.f237 330 (azA self):=A6 (azt self hself) .nil (hb:=(gzM self)) (hJ:=(gzp self))
def azw (self:List (Member)×Int×Int×Int×Unit->Option (List (Member)))(x:List (Member)×Int×Int×Int×Unit):Option (List (Member)):=brn (decide (i64.wrap (x.2.2.1-x.2.1)=1)) (obnd ((cz6 self) (x.1,x.2.1,(),x.2.2.1,x.2.2.2.1)) fun y=>obnd ((cz7 self) (y.2,y.1,x.2.1)) fun y=>some y) (brn (decide (i64.wrap (x.2.2.2.1-x.2.2.1)=1)) (obnd ((cz8 self) (x.1,x.2.2.1,(),x.2.1,x.2.2.1)) fun y=>obnd ((cz9 self) (y.2,y.1,x.2.2.1)) fun y=>some y) (obnd ((cz3 self) (x.2.1,x.2.2.1,x.2.2.2.1,i64.wrap ((u64.wrap (i64.wrap (x.2.1+x.2.2.2.1))).fdiv 2),i64.wrap (i64.wrap ((u64.wrap (i64.wrap (x.2.1+x.2.2.2.1))).fdiv 2)+x.2.2.1),decide (i64.wrap ((u64.wrap (i64.wrap (x.2.1+x.2.2.2.1))).fdiv 2)<x.2.2.1))) fun y=>obnd ((dza self) (x.1,(),y.1,y.2,i64.wrap (i64.wrap (i64.wrap ((u64.wrap (i64.wrap (x.2.1+x.2.2.2.1))).fdiv 2)+x.2.2.1)-1))) fun y=>obnd ((cz4 self) (x.2.2.1,y.1,i64.wrap (i64.wrap (i64.wrap ((u64.wrap (i64.wrap (x.2.1+x.2.2.2.1))).fdiv 2)+x.2.2.1)-y.1))) fun y_1=>obnd ((cz5 self) (y.2,x.2.2.1,(),y.1,i64.wrap (i64.wrap (i64.wrap ((u64.wrap (i64.wrap (x.2.1+x.2.2.2.1))).fdiv 2)+x.2.2.1)-y.1),y_1)) fun y_2=>brn (decide (x.2.1<y.1)) (brn (decide (y.1<i64.wrap ((u64.wrap (i64.wrap (x.2.1+x.2.2.2.1))).fdiv 2))) (obnd (self (y_2,x.2.1,y.1,i64.wrap ((u64.wrap (i64.wrap (x.2.1+x.2.2.2.1))).fdiv 2),())) fun y_3=>brn (decide (i64.wrap ((u64.wrap (i64.wrap (x.2.1+x.2.2.2.1))).fdiv 2)<i64.wrap (i64.wrap (i64.wrap ((u64.wrap (i64.wrap (x.2.1+x.2.2.2.1))).fdiv 2)+x.2.2.1)-y.1))) (brn (decide (i64.wrap (i64.wrap (i64.wrap ((u64.wrap (i64.wrap (x.2.1+x.2.2.2.1))).fdiv 2)+x.2.2.1)-y.1)<x.2.2.2.1)) (obnd (self (y_3,i64.wrap ((u64.wrap (i64.wrap (x.2.1+x.2.2.2.1))).fdiv 2),i64.wrap (i64.wrap (i64.wrap ((u64.wrap (i64.wrap (x.2.1+x.2.2.2.1))).fdiv 2)+x.2.2.1)-y.1),x.2.2.2.1,())) fun y=>some y) (some y_3)) (some y_3)) (brn (decide (i64.wrap ((u64.wrap (i64.wrap (x.2.1+x.2.2.2.1))).fdiv 2)<i64.wrap (i64.wrap (i64.wrap ((u64.wrap (i64.wrap (x.2.1+x.2.2.2.1))).fdiv 2)+x.2.2.1)-y.1))) (brn (decide (i64.wrap (i64.wrap (i64.wrap ((u64.wrap (i64.wrap (x.2.1+x.2.2.2.1))).fdiv 2)+x.2.2.1)-y.1)<x.2.2.2.1)) (obnd (self (y_2,i64.wrap ((u64.wrap (i64.wrap (x.2.1+x.2.2.2.1))).fdiv 2),i64.wrap (i64.wrap (i64.wrap ((u64.wrap (i64.wrap (x.2.1+x.2.2.2.1))).fdiv 2)+x.2.2.1)-y.1),x.2.2.2.1,())) fun y=>some y) (some y_2)) (some y_2))) (brn (decide (i64.wrap ((u64.wrap (i64.wrap (x.2.1+x.2.2.2.1))).fdiv 2)<i64.wrap (i64.wrap (i64.wrap ((u64.wrap (i64.wrap (x.2.1+x.2.2.2.1))).fdiv 2)+x.2.2.1)-y.1))) (brn (decide (i64.wrap (i64.wrap (i64.wrap ((u64.wrap (i64.wrap (x.2.1+x.2.2.2.1))).fdiv 2)+x.2.2.1)-y.1)<x.2.2.2.1)) (obnd (self (y_2,i64.wrap ((u64.wrap (i64.wrap (x.2.1+x.2.2.2.1))).fdiv 2),i64.wrap (i64.wrap (i64.wrap ((u64.wrap (i64.wrap (x.2.1+x.2.2.2.1))).fdiv 2)+x.2.2.1)-y.1),x.2.2.2.1,())) fun y=>some y) (some y_2)) (some y_2))))
theorem hzg (self:List (Member)×Int×Int×Int×Unit->Option (List (Member))):∀x,evFn Tryz.prog tb (azq self) [(azG self),(azH self),(azI self),(azJ self),(azy self),(azK self),(azz self),(azA self)] Tryz.f237 (azi (azw self)).ins (azi (azw self)).outs x=(azi (azw self)).f x:=fun x=>by kernel_rfl
theorem hzG (self:List (Member)×Int×Int×Int×Unit->Option (List (Member))):fnK Tryz.f237 (azi (azw self)).ins (azi (azw self)).outs=true:=by kernel_rfl
theorem gzS (self:List (Member)×Int×Int×Int×Unit->Option (List (Member)))(hself:azu Tryz.prog tb 237 (azi self)):A0 237 (azi (azw self)):=A2 Tryz.func237 (azt self hself) (.cons (gza self hself) (.cons (gzb self hself) (.cons (gzc self hself) (.cons (gzd self hself) (.cons (fz7 self hself) (.cons (gze self hself) (.cons (fz8 self hself) (.cons (fz9 self hself) .nil)))))))) (hk:=(hzG self)) (hJ:=(hzg self))
def bzP:List (Member)×Int×Int×Int×Unit->Option (List (Member)):=iter azw big
def dzI:FSpec tb:=azi bzP
theorem gzv:azu Tryz.prog tb 237 dzI:=nz6 (fzE Tryz.func237 (by kernel_rfl)) gzS
abbrev izr:List (Nat×FSpec tb):=[(236,czO),(237,dzI)]
theorem azY:azj Tryz.prog tb (izr):=(.cons fzb (.cons gzv .nil))
def dzv (back:List (Member)×Int×Unit×Int×Int×Int->Option (Int×List (Member)))(x:List (Member)×Int×Unit×Int×Int×Int):Option (Int×List (Member)):=brn (decide (x.2.2.2.2.2<=x.2.1)) (obnd (bzm (x.1,x.2.2.2.2.1,x.2.2.2.2.2,())) fun y=>back (y,x.2.1,(),x.2.2.2.1,x.2.2.2.2.2,i64.wrap (x.2.2.2.2.2+x.2.2.2.1))) (some (x.2.2.2.2.1,x.1))
def dzw:List (Member)×Int×Unit×Int×Int×Int->Option (Int×List (Member)):=iter dzv big
def hzC:CutSpec tb:=⟨28,[(0,.wr 299),(1,.val 3),(2,.fnp 207 0),(6,.val 3),(7,.val 3),(8,.val 3)],[((.exit 0),[(7,.val 3),(0,.wr 299)])],[11,12,13,14,15,16,17,18,19,7,20,21,22,8],dzw,none⟩
theorem gzG:A3 Tryz.f233 28 hzC:=A4 azY .nil dzv
def dzz (back:List (Member)×Int×Unit×Int×Int×Int->Option (Int×List (Member)))(x:List (Member)×Int×Unit×Int×Int×Int):Option (Int×List (Member)):=brn (decide (x.2.2.2.2.2<=x.2.1)) (obnd (bzP (x.1,x.2.2.2.2.1,i64.wrap (x.2.2.2.2.1+x.2.2.2.1),x.2.2.2.2.2,())) fun y=>back (y,x.2.1,(),x.2.2.2.1,x.2.2.2.2.2,i64.wrap (x.2.2.2.2.2+i64.wrap (2*x.2.2.2.1)))) (some (x.2.2.2.2.1,x.1))
def dzA:List (Member)×Int×Unit×Int×Int×Int->Option (Int×List (Member)):=iter dzz big
def hzE:CutSpec tb:=⟨84,[(0,.wr 299),(1,.val 3),(2,.fnp 207 0),(6,.val 3),(7,.val 3),(8,.val 3)],[((.exit 4),[(7,.val 3),(0,.wr 299)])],[33,34,35,36,37,38,39,40,41,42,43,44,7,45,46,47,48,8],dzA,none⟩
theorem gzI:A3 Tryz.f233 84 hzE:=A4 azY .nil dzz
def dzx (back:List (Member)×Int×Unit×Int->Option (List (Member)))(x:List (Member)×Int×Unit×Int):Option (List (Member)):=brn (decide (x.2.2.2<x.2.1)) (obnd (dzA (x.1,x.2.1,(),x.2.2.2,0,i64.wrap (2*x.2.2.2))) fun y=>brn (decide (i64.wrap (y.1+x.2.2.2)<x.2.1)) (obnd (bzP (y.2,y.1,i64.wrap (y.1+x.2.2.2),x.2.1,())) fun y=>back (y,x.2.1,(),i64.wrap (x.2.2.2*2))) (back (y.2,x.2.1,(),i64.wrap (x.2.2.2*2)))) (some x.1)
def dzy:List (Member)×Int×Unit×Int->Option (List (Member)):=iter dzx big
def hzD:CutSpec tb:=⟨68,[(0,.wr 299),(1,.val 3),(2,.fnp 207 0),(6,.val 3)],[((.exit 2),[(0,.wr 299)])],[28,29,30,31,32,7,8,33,34,35,36,37,38,39,40,41,42,43,44,45,46,47,48,49,50,51,9,52,53,54,55,56,57,58,59,60,61,62,6],dzy,none⟩
theorem gzH:A3 Tryz.f233 68 hzD:=A4 azY (.cons gzI .nil) dzx
def dzU (x:List (Member)×Int×Unit):Option (List (Member)):=obnd (dzw (x.1,x.2.1,(),20,0,20)) fun y=>obnd (bzm (y.2,y.1,x.2.1,())) fun y=>obnd (dzy (y,x.2.1,(),20)) fun y=>some y
def izs:FSpec tb:=⟨[(0,.wr 299),(1,.val 3),(2,.fnp 207 0)],[(4503599627403264,.wr 299)],dzU⟩
theorem hzb:A0 233 izs:=A2 Tryz.func233 azY (.cons gzG (.cons gzH .nil))
def bz7 (x:List (Member)×Unit):Option (List (Member)):=obnd (dzU (x.1,(↑x.1.length:Int),())) fun y=>some y
def ezY:FSpec tb:=⟨[(0,.wr 299),(1,.fnp 207 0)],[(4503599627403264,.wr 299)],bz7⟩
theorem ezk:A0 223 ezY:=A1 Tryz.func223 (.cons hzb .nil)
def dzp (x:List Member×Unit):Option (List (Member)):=obnd (jzw x.1) fun y=>obnd (bz7 (y,())) fun y=>some y
def dzq:FSpec tb:=⟨[(0,.val 336),(1,.fnp 207 0)],[(0,.own 299)],dzp⟩
theorem fz4:A0 205 dzq:=A1 Tryz.func205 (.cons mzH (.cons ezk .nil))
def bzp (x:List Expr):Option (List Expr):=some x
def gzZ:FSpec tb:=⟨[(0,.val 35)],[(0,.val 304)],bzp⟩
theorem kzD:A0 173 gzZ:=A1 Tryz.func173 .nil
abbrev EzM:List (Nat×FSpec tb):=[(173,gzZ),(1099511627786,mutS),(1099511627801,mutS),(1099511627819,mutS)]
theorem nzi:azj Tryz.prog tb (EzM):=(.cons kzD (.consK jza (.consK jza (.consK jza .nil))))
def izW (y:Int×Expr)(x:List (Node2)×Unit×Node2×List Expr):Option (List (Node2)×Unit×Node2×List Expr):=obnd (app 160 x.1 [Node2.mk (azf y.2) (i64.wrap (x.2.2.1.deep+1))]) fun zs=>some (zs,(),Node2.mk (azf x.2.2.1.e) x.2.2.1.deep,x.2.2.2)
def qzw (x:List (Node2)×Unit×Node2×List Expr):Option ((List (Node2))×Unit):=some (x.1,())
def nzj (x:List (Node2)×Unit×Node2×List Expr):List (Int×Expr):=(revs x.2.2.2)
def kz8 (x:List (Node2)×Unit×Node2×List Expr):Option ((List (Node2))×Unit):=obnd (mz8 izW (nzj x) x) qzw
def fzF:CutSpec tb:=⟨86,[(4294967300,.wr 231),(4,.box 1),(5,.ro 231),(33,.val 304)],[(.normal,[(4294967300,.wr 231)])],[7,36,37,38,39,40,41,42,43],kz8,none⟩
theorem GzT:zzx Tryz.f115.ntmps fzF [(34,.val 3),(35,.val 90)] #[34,35] (AzB (bzT 86 Tryz.f115)) (AzC (bzT 86 Tryz.f115))=true:=by kernel_rfl
theorem EzO:∀y x,uzV Tryz.prog tb EzM (AzB (bzT 86 Tryz.f115)) (AzC (bzT 86 Tryz.f115)) [(34,.val 3),(35,.val 90)] fzF.ins fzF.al y x=izW y x:=fun y x=>by kernel_rfl
theorem Az8 (xs:List (Expr))(i:Int)(ys:List (Int×Expr)):nzo Tryz.prog tb (rzh [.sl 90 xs] [] []) [(34,.val 3),(35,.val 90)] (lbOf Tryz.f209) 3 0 i ys =
 brn (decide (0<=i)) (obnd (idx xs i) fun y=>some (Sum.inl (i64.wrap (i-1),ys++[(i,azf y)]))) (some (Sum.inr ys)):=by kernel_rfl
theorem Dza:∀(x:List (Node2)×Unit×Node2×List Expr) y,fzF.J x=some y->∃c,(kzJ Tryz.prog tb fzF.ins x).env 33=some (.c (.d c))/\∀g w v,tb.inv g w->RepD Tryz.prog tb g w c v->pzV Tryz.prog tb g w [(34,.val 3),(35,.val 90)] (nzj x) v:=fun x y hy=>⟨.itf 209 none 90 x.2.2.2,by kernel_rfl,fun g w v hi hv=>Jz1 mixed hv (r0:=r0Of Tryz.f209) (b:=lbOf Tryz.f209) Tryz.func209 (by kernel_rfl) (by kernel_rfl) (by kernel_rfl) hi (by kernel_rfl) (by kernel_rfl) [] (by kernel_rfl) (by kernel_rfl) (i0:=i64.wrap ((x.2.2.2.length:Int)-1)) (cs:=[]) (by kernel_rfl) (back_loop (rep_len hv) fun i ys=>(Az8 _ i ys).trans (by simp only[azp];try rfl))⟩
theorem rzZ:bz0 Tryz.prog tb Tryz.f115.ntmps (bzT 86 Tryz.f115) fzF:=Dzu (p:=[(34,.val 3),(35,.val 90)]) mixed GzT nzi rfl nzj Dza izW EzO qzw (fun x=>by kernel_rfl) (fun _ _ h=>h)
def hzl (back:List (Node2)×List (Node2)×Unit->Option ((List (Node2)×List (Node2))×Unit))(x:List (Node2)×List (Node2)×Unit):Option ((List (Node2)×List (Node2))×Unit):=brn (decide ((↑x.1.length:Int)=0)) (some ((x.1,x.2.1),())) (obnd (inb x.1.length (i64.wrap ((↑x.1.length:Int)-1))) fun k=>obnd (nth x.1 (0+k)) fun y=>obnd (sub x.1 0 (i64.wrap ((↑x.1.length:Int)-1))) fun zs=>obnd (app 160 x.2.1 [Node2.mk (azf y.e) y.deep]) fun zs_1=>obnd (bzp y.e.Kids) fun y_1=>obnd (kz8 (zs,(),Node2.mk (azf y.e) y.deep,y_1)) fun y=>obnd (back (y.1,zs_1,())) fun y=>some (y.1,()))
def tzg:List (Node2)×List (Node2)×Unit->Option ((List (Node2)×List (Node2))×Unit):=iter hzl big
def EzP:CutSpec tb:=⟨33,[(4294967300,.wr 231),(3,.own 231),(4,.box 1)],[(.ret,[(4294967300,.own 231),(2,.own 231)])],[11,12,13,14,2,15,16,17,18,19,20,5,21,22,23,24,25,26,27,28,29,3,30,31,32,33,7,36,37,38,39,40,41,42,43],tzg,none⟩
theorem Az9:bzd ([fzF]:List (CutSpec tb)) (mz9 (bzl 21 Tryz.f115) 0)=[(86,bzT 86 Tryz.f115)]:=by kernel_rfl
theorem yzY:bz5 Tryz.prog tb Tryz.f115.ntmps (bzl 21 Tryz.f115) 0 EzP:=wzs fun self hself=>lzS mixed (by kernel_rfl) (by kernel_rfl) nzi rfl Az9 (.cons rfl rzZ rfl .nil) (.cons hself rfl .nil) (fun x=>by kernel_rfl)
def nzk (x:Expr):Option ((Unit)⊕(List (Node2))):=obnd (inb [Node2.mk (azf x) 1].length (i64.wrap ((↑[Node2.mk (azf x) 1].length:Int)-1))) fun k=>obnd (nth [Node2.mk (azf x) 1] (0+k)) fun y=>obnd (sub [Node2.mk (azf x) 1] 0 (i64.wrap ((↑[Node2.mk (azf x) 1].length:Int)-1))) fun zs=>obnd (app 160 [] [Node2.mk (azf y.e) y.deep]) fun zs_1=>obnd (bzp y.e.Kids) fun y_1=>obnd (kz8 (zs,(),Node2.mk (azf y.e) y.deep,y_1)) fun y=>obnd (tzg (y.1,zs_1,())) fun y=>some (Sum.inr y.1.2)
def IzR:CutSpec tb:=⟨21,[(1,.ro 90)],[(.normal,[]),(.ret,[(2,.own 231)])],[3,8,9,10,4,11,12,13,14,2,15,16,17,18,19,20,5,21,22,23,24,25,26,27,28,29,30,31,32,33,7,36,37,38,39,40,41,42,43],nzk,none⟩
theorem EzQ:bzd ([fzF]:List (CutSpec tb)) (bzl 21 Tryz.f115)=[(86,bzT 86 Tryz.f115)]:=by kernel_rfl
theorem Dzb:bz0 Tryz.prog tb Tryz.f115.ntmps (.scope (bzl 21 Tryz.f115)) IzR:=pzv mixed (by kernel_rfl) nzi rfl EzQ (.cons rfl rzZ rfl .nil) (.cons yzY rfl .nil) (fun x=>by kernel_rfl)
def mzk (x:Expr):Option (List (Node2)):=obnd (nzk (azf x)) fun y=>osum y (fun y=>none) fun y=>some y
def EzN:FSpec tb:=⟨[(0,.val 90)],[(0,.own 231)],mzk⟩
theorem tzh:A0 115 EzN:=A2 Tryz.func115 nzi (.cons Dzb .nil)
def yzV (x:Node2×Node2):Option (Bool):=brn (decide (x.1.deep=x.2.deep)) (brn (decide (x.1.e.Kind=x.2.e.Kind)) (brn (bif false then !(decide (x.1.e.V.Kind=x.2.e.V.Kind)&&(decide (x.1.e.V.N.M=x.2.e.V.N.M)&&(decide (x.1.e.V.N.S=x.2.e.V.N.S)&&(decide (x.1.e.V.S=x.2.e.V.S)&&(decide (x.1.e.V.B=x.2.e.V.B)&&decide (x.1.e.V.E=x.2.e.V.E))))))else decide (x.1.e.V.Kind=x.2.e.V.Kind)&&(decide (x.1.e.V.N.M=x.2.e.V.N.M)&&(decide (x.1.e.V.N.S=x.2.e.V.N.S)&&(decide (x.1.e.V.S=x.2.e.V.S)&&(decide (x.1.e.V.B=x.2.e.V.B)&&decide (x.1.e.V.E=x.2.e.V.E)))))) (brn (bif false then !(decide (x.1.e.A.A.Row=x.2.e.A.A.Row)&&(decide (x.1.e.A.A.Col=x.2.e.A.A.Col)&&(decide (x.1.e.A.A.RelRow=x.2.e.A.A.RelRow)&&(decide (x.1.e.A.A.RelCol=x.2.e.A.A.RelCol)&&(decide (x.1.e.A.B.Row=x.2.e.A.B.Row)&&(decide (x.1.e.A.B.Col=x.2.e.A.B.Col)&&(decide (x.1.e.A.B.RelRow=x.2.e.A.B.RelRow)&&decide (x.1.e.A.B.RelCol=x.2.e.A.B.RelCol))))))))else decide (x.1.e.A.A.Row=x.2.e.A.A.Row)&&(decide (x.1.e.A.A.Col=x.2.e.A.A.Col)&&(decide (x.1.e.A.A.RelRow=x.2.e.A.A.RelRow)&&(decide (x.1.e.A.A.RelCol=x.2.e.A.A.RelCol)&&(decide (x.1.e.A.B.Row=x.2.e.A.B.Row)&&(decide (x.1.e.A.B.Col=x.2.e.A.B.Col)&&(decide (x.1.e.A.B.RelRow=x.2.e.A.B.RelRow)&&decide (x.1.e.A.B.RelCol=x.2.e.A.B.RelCol)))))))) (brn (decide (x.1.e.Sheet=x.2.e.Sheet)) (brn (decide (x.1.e.Op=x.2.e.Op)) (some (decide ((↑x.1.e.Kids.length:Int)=(↑x.2.e.Kids.length:Int)))) (some false)) (some false)) (some false)) (some false)) (some false)) (some false)
def yzW:FSpec tb:=⟨[(0,.val 231),(1,.val 231)],[(0,.val 4)],yzV⟩
theorem Az6:A0 164 yzW:=A1 Tryz.func164 .nil
abbrev ezi:List (Nat×FSpec tb):=[(164,yzW)]
theorem bzr:azj Tryz.prog tb (ezi):=(.cons Az6 .nil)
def bzs (back:List Node2×Unit×List Node2×Int×Int->Option ((Unit)⊕(Bool)))(x:List Node2×Unit×List Node2×Int×Int):Option ((Unit)⊕(Bool)):=brn (decide (x.2.2.2.2<x.2.2.2.1)) (obnd (idx x.2.2.1 x.2.2.2.2) fun y=>obnd (idx x.1 x.2.2.2.2) fun y_1=>obnd (yzV (Node2.mk (azf y.e) y.deep,Node2.mk (azf y_1.e) y_1.deep)) fun y=>brn (!y) (some (Sum.inr false)) (back (x.1,(),x.2.2.1,x.2.2.2.1,i64.wrap (x.2.2.2.2+1)))) (some (Sum.inl PUnit.unit))
def bzt:List Node2×Unit×List Node2×Int×Int->Option ((Unit)⊕(Bool)):=iter bzs big
def dz4:CutSpec tb:=⟨44,[(1,.val 227),(2,.fnp 164 0),(15,.val 227),(16,.val 3),(17,.val 3)],[((.exit 0),[]),(.ret,[(6,.val 4)])],[18,19,20,21,8,7,22,23,24,25,9,26,27,28,29,30,6,31,17],bzt,none⟩
theorem dzO:A3 Tryz.f163 44 dz4:=A4 bzr .nil bzs
def bzN (x:List Node2×List Node2×Unit):Option (Bool):=brn (!decide ((↑x.1.length:Int)=(↑x.2.1.length:Int))) (some false) (obnd (bzt (x.2.1,(),x.1,(↑x.1.length:Int),0)) fun y=>osum y (fun y=>some true) fun y=>some y)
def ezj:FSpec tb:=⟨[(0,.val 227),(1,.val 227),(2,.fnp 164 0)],[(0,.val 4)],bzN⟩
theorem dzQ:A0 163 ezj:=A2 Tryz.func163 bzr (.cons dzO .nil)
def kzL (x:Expr×Expr):Option (Bool):=obnd (mzk (azf x.1)) fun y=>obnd (mzk (azf x.2)) fun y_1=>obnd (bzN (y,y_1,())) fun y=>some y
def rzf:FSpec tb:=⟨[(0,.val 90),(1,.val 90)],[(0,.val 4)],kzL⟩
theorem hzk:A0 94 rzf:=A1 Tryz.func94 (.cons tzh (.cons dzQ .nil))
def xzH (x:Group×Member):Option (Bool):=obnd (mzC (Group.mk x.1.Array x.1.A x.1.B (azf x.1.E),x.2.At)) fun y=>some y
def xzI:FSpec tb:=⟨[(0,.val 141),(1,.ro 299)],[(0,.val 4)],xzH⟩
theorem Azd:A0 208 xzI:=A1 Tryz.func208 (.cons lzP .nil)
abbrev gz8:List (Nat×FSpec tb):=[(208,xzI)]
theorem czD:azj Tryz.prog tb (gz8):=(.cons Azd .nil)
def czE (back:Member×List Group×Unit×Int×Int->Option ((Unit)⊕(Int)))(x:Member×List Group×Unit×Int×Int):Option ((Unit)⊕(Int)):=brn (decide (x.2.2.2.2<x.2.2.2.1)) (obnd (idx x.2.1 x.2.2.2.2) fun y=>obnd (xzH (Group.mk y.Array y.A y.B (azf y.E),Member.mk x.1.At (azf x.1.E))) fun y=>brn y (some (Sum.inr x.2.2.2.2)) (back (Member.mk x.1.At (azf x.1.E),x.2.1,(),x.2.2.2.1,i64.wrap (x.2.2.2.2+1)))) (some (Sum.inl PUnit.unit))
def czF:Member×List Group×Unit×Int×Int->Option ((Unit)⊕(Int)):=iter czE big
def fzX:CutSpec tb:=⟨28,[(4294967297,.ro 299),(0,.val 99),(1,.fnp 208 1),(7,.val 3),(8,.val 3)],[((.exit 0),[]),(.ret,[(4,.val 3)])],[9,10,5,11,12,13,14,15,16,17,4,18,8],czF,none⟩
theorem fzr:A3 Tryz.f190 28 fzX:=A4 czD .nil czE
def cz2 (x:Member×List Group×Unit):Option (Int):=obnd (czF (Member.mk x.1.At (azf x.1.E),x.2.1,(),(↑x.2.1.length:Int),0)) fun y=>osum y (fun y=>some (-1)) fun y=>some y
def gz9:FSpec tb:=⟨[(4294967297,.ro 299),(0,.val 99),(1,.fnp 208 1)],[(0,.val 3)],cz2⟩
theorem fzA:A0 190 gz9:=A2 Tryz.func190 czD (.cons fzr .nil)
def czy (x:Member×List Group×Unit):Option (Bool):=obnd (cz2 (Member.mk x.1.At (azf x.1.E),x.2.1,())) fun y=>some (decide (0<=y))
def czz:FSpec tb:=⟨[(4294967297,.ro 299),(0,.val 99),(1,.fnp 208 1)],[(0,.val 4)],czy⟩
theorem ez4:A0 143 czz:=A1 Tryz.func143 (.cons fzA .nil)
abbrev CzJ:List (Nat×FSpec tb):=[(206,fzv),(205,dzq),(94,rzf),(143,czz)]
theorem ezU:azj Tryz.prog tb (CzJ):=(.cons jzD (.cons fz4 (.cons hzk (.cons ez4 .nil))))
def vzJ (back:List Group×List (Member)×List Member×Int×Int->Option (List (Member)))(x:List Group×List (Member)×List Member×Int×Int):Option (List (Member)):=brn (decide (x.2.2.2.2<x.2.2.2.1)) (obnd (idx x.2.2.1 x.2.2.2.2) fun y=>obnd (czy (Member.mk y.At (azf y.E),x.1,())) fun y_1=>brn (!y_1) (obnd (app 168 x.2.1 [Member.mk y.At (azf y.E)]) fun zs=>back (x.1,zs,x.2.2.1,x.2.2.2.1,i64.wrap (x.2.2.2.2+1))) (back (x.1,x.2.1,x.2.2.1,x.2.2.2.1,i64.wrap (x.2.2.2.2+1)))) (some x.2.1)
def vzK:List Group×List (Member)×List Member×Int×Int->Option (List (Member)):=iter vzJ big
def izk:CutSpec tb:=⟨116,[(5,.val 99),(6,.own 299),(93,.val 297),(94,.val 3),(95,.val 3)],[((.exit 0),[(6,.own 299)])],[96,97,98,10,99,100,101,102,103,104,105,106,6,107,95],vzK,none⟩
theorem jzX:A3 Tryz.f171 116 izk:=A4 ezU .nil vzJ
def nzG (x:List Member×List (Group)×List (Member)):Option (List (Group)×List (Member)):=obnd (vzK (x.2.1,x.2.2,x.1,(↑x.1.length:Int),0)) fun y=>some (x.2.1,y)
def DzU:CutSpec tb:=⟨105,[(0,.val 297),(5,.own 141),(6,.own 299)],[(.ret,[(2,.own 141),(3,.own 299)])],[93,94,95,96,97,98,10,99,100,101,102,103,104,105,106,6,107,108,109,2,3],nzG,none⟩
theorem Aze:bzd ([izk]:List (CutSpec tb)) (mz9 (bzl 21 Tryz.f171) 0)=[(116,.loop (bzB 116 Tryz.f171))]:=by kernel_rfl
theorem ozZ:bz5 Tryz.prog tb Tryz.f171.ntmps (bzl 21 Tryz.f171) 0 DzU:=lzS mixed (by kernel_rfl) (by kernel_rfl) ezU rfl Aze (.cons rfl jzX rfl .nil) .nil (fun x=>by kernel_rfl)
def mzD (x:List Member×Int×Int):Option (Bool):=brn (decide (x.2.2<(↑x.1.length:Int))) (brn (decide (i64.wrap (x.2.2-x.2.1)<1024)) (obnd (idx x.1 x.2.2) fun y=>obnd (idx x.1 (i64.wrap (x.2.2-1))) fun y_1=>obnd (idx x.1 x.2.1) fun y_2=>brn (bif false then !(decide (y.At.Row=i64.wrap (y_1.At.Row+1))&&decide (y.At.Col=y_2.At.Col))else decide (y.At.Row=i64.wrap (y_1.At.Row+1))&&decide (y.At.Col=y_2.At.Col)) (obnd (idx x.1 x.2.2) fun y=>obnd (idx x.1 x.2.1) fun y_3=>obnd (kzL (azf y.E,azf y_3.E)) fun y=>some y) (some false)) (some false)) (some false)
def kzB:CutSpec tb:=⟨64,[(4,.val 297),(7,.val 3),(8,.val 3)],[(.normal,[(65,.val 4)])],[20,21,22,23,24,25,26,27,28,29,30,31,32,33,34,35,36,37,38,39,40,41,42,43,44,45,46,47,48,49,50,51,52,53,54,55,56,57,58,59,60,61,62,63,64,65],(mzD),none⟩
theorem mzY:A5 Tryz.f171 64 kzB:=A6 ezU .nil
def szF (outer:List Member×List Member×List (Group)×List (Member)×Int->Option (List (Group)×List (Member)))(back:List Member×List Member×List (Group)×List (Member)×Int×Int->Option (List (Group)×List (Member)))(x:List Member×List Member×List (Group)×List (Member)×Int×Int):Option (List (Group)×List (Member)):=obnd (mzD (x.2.1,x.2.2.2.2)) fun y=>brn y (obnd (back (x.1,x.2.1,x.2.2.1,x.2.2.2.1,x.2.2.2.2.1,i64.wrap (x.2.2.2.2.2+1))) fun y=>some y) (brn (decide (1<i64.wrap (x.2.2.2.2.2-x.2.2.2.2.1))) (obnd (idx x.2.1 x.2.2.2.2.1) fun y=>obnd (idx x.2.1 (i64.wrap (x.2.2.2.2.2-1))) fun y_1=>obnd (idx x.2.1 x.2.2.2.2.1) fun y_2=>obnd (app 192 x.2.2.1 [Group.mk false y.At y_1.At (azf y_2.E)]) fun zs=>obnd (outer (x.1,x.2.1,zs,x.2.2.2.1,x.2.2.2.2.2)) fun y=>some y) (obnd (outer (x.1,x.2.1,x.2.2.1,x.2.2.2.1,x.2.2.2.2.2)) fun y=>some y))
def nzH (outer:List Member×List Member×List (Group)×List (Member)×Int->Option (List (Group)×List (Member))):List Member×List Member×List (Group)×List (Member)×Int×Int->Option (List (Group)×List (Member)):=iter (szF outer) big
def kz2 (outer:List Member×List Member×List (Group)×List (Member)×Int->Option (List (Group)×List (Member))):CutSpec tb:=⟨65,[(0,.val 297),(4,.val 297),(5,.own 141),(6,.own 299),(7,.val 3),(8,.val 3)],[(.ret,[(2,.own 141),(3,.own 299)])],[20,21,22,23,24,25,26,27,28,29,30,31,32,33,34,35,36,37,38,39,40,41,42,43,44,45,46,47,48,49,50,51,52,53,54,55,56,57,58,59,60,61,62,63,64,65,66,67,8,68,69,70,71,72,73,74,75,76,77,78,79,80,81,82,83,84,85,86,87,88,89,90,91,5,92,7,93,94,95,96,97,98,10,99,100,101,102,103,104,105,106,6,107,108,109,2,3,14,15,16,17,18,19],(nzH outer),none⟩
theorem Azg (outer:List Member×List Member×List (Group)×List (Member)×Int->Option (List (Group)×List (Member))):∀back x,uzW Tryz.prog tb CzJ [kzB,izk] [(1,(⟨49,[(0,.val 297),(4,.val 297),(5,.own 141),(6,.own 299),(7,.val 3)],[(.ret,[(2,.own 141),(3,.own 299)])],[14,15,16,17,18,19,8,20,21,22,23,24,25,26,27,28,29,30,31,32,33,34,35,36,37,38,39,40,41,42,43,44,45,46,47,48,49,50,51,52,53,54,55,56,57,58,59,60,61,62,63,64,65,66,67,68,69,70,71,72,73,74,75,76,77,78,79,80,81,82,83,84,85,86,87,88,89,90,91,5,92,7,93,94,95,96,97,98,10,99,100,101,102,103,104,105,106,6,107,108,109,2,3],outer,none⟩:CutSpec tb)),(2,(⟨65,[(0,.val 297),(4,.val 297),(5,.own 141),(6,.own 299),(7,.val 3),(8,.val 3)],[(.ret,[(2,.own 141),(3,.own 299)])],[20,21,22,23,24,25,26,27,28,29,30,31,32,33,34,35,36,37,38,39,40,41,42,43,44,45,46,47,48,49,50,51,52,53,54,55,56,57,58,59,60,61,62,63,64,65,66,67,8,68,69,70,71,72,73,74,75,76,77,78,79,80,81,82,83,84,85,86,87,88,89,90,91,5,92,7,93,94,95,96,97,98,10,99,100,101,102,103,104,105,106,6,107,108,109,2,3,14,15,16,17,18,19],back,none⟩:CutSpec tb))] (mz9 (bzl 21 Tryz.f171) 2) (kz2 outer).ins (kz2 outer).outs x=szF outer back x:=fun back x=>by kernel_rfl
theorem BzW (outer:List Member×List Member×List (Group)×List (Member)×Int->Option (List (Group)×List (Member))):cutB Tryz.f171.ntmps (kz2 outer) (mz9 (bzl 21 Tryz.f171) 2)=true:=by kernel_rfl
theorem Azh:bzd ([kzB,izk]:List (CutSpec tb)) (mz9 (bzl 21 Tryz.f171) 2)=[(64,bzT 64 Tryz.f171),(116,.loop (bzB 116 Tryz.f171))]:=by kernel_rfl
theorem oz1 (outer:List Member×List Member×List (Group)×List (Member)×Int->Option (List (Group)×List (Member)))(hout:bz5 Tryz.prog tb Tryz.f171.ntmps (bzl 21 Tryz.f171) 1 (⟨49,[(0,.val 297),(4,.val 297),(5,.own 141),(6,.own 299),(7,.val 3)],[(.ret,[(2,.own 141),(3,.own 299)])],[14,15,16,17,18,19,8,20,21,22,23,24,25,26,27,28,29,30,31,32,33,34,35,36,37,38,39,40,41,42,43,44,45,46,47,48,49,50,51,52,53,54,55,56,57,58,59,60,61,62,63,64,65,66,67,68,69,70,71,72,73,74,75,76,77,78,79,80,81,82,83,84,85,86,87,88,89,90,91,5,92,7,93,94,95,96,97,98,10,99,100,101,102,103,104,105,106,6,107,108,109,2,3],outer,none⟩:CutSpec tb)):bz5 Tryz.prog tb Tryz.f171.ntmps (bzl 21 Tryz.f171) 2 (kz2 outer):=wzs fun self hself=>lzS mixed (by kernel_rfl) (BzW outer) ezU rfl Azh (.cons rfl mzY rfl (.cons rfl jzX rfl .nil)) (.cons hout rfl (.cons hself rfl .nil)) (Azg outer self)
def pzx (x:List Member×List (Group)×Int×Int×Bool):Option (List (Group)):=brn x.2.2.2.2 (obnd (idx x.1 x.2.2.1) fun y=>obnd (idx x.1 (i64.wrap (x.2.2.2.1-1))) fun y_1=>obnd (idx x.1 x.2.2.1) fun y_2=>obnd (app 192 x.2.1 [Group.mk false y.At y_1.At (azf y_2.E)]) fun zs=>some zs) (some x.2.1)
def pzw:CutSpec tb:=⟨90,[(4,.val 297),(5,.own 141),(7,.val 3),(8,.val 3),(71,.val 4)],[(.normal,[(5,.own 141)])],[72,73,74,75,76,77,78,79,80,81,82,83,84,85,86,87,88,89,90,91,5],(pzx),none⟩
theorem qzZ:A5 Tryz.f171 90 pzw:=A6 ezU .nil
def DzW (back:List Member×List Member×List (Group)×List (Member)×Int->Option (List (Group)×List (Member)))(x:List Member×List Member×List (Group)×List (Member)×Int):Option (List (Group)×List (Member)):=brn (decide (x.2.2.2.2=(↑x.2.1.length:Int))) (obnd (nzG (x.1,x.2.2.1,x.2.2.2.1)) fun y=>some y) (obnd (mzD (x.2.1,x.2.2.2.2,i64.wrap (x.2.2.2.2+1))) fun y=>brn y (obnd (nzH back (x.1,x.2.1,x.2.2.1,x.2.2.2.1,x.2.2.2.2,i64.wrap (i64.wrap (x.2.2.2.2+1)+1))) fun y=>some y) (obnd (pzx (x.2.1,x.2.2.1,x.2.2.2.2,i64.wrap (x.2.2.2.2+1),decide (1<i64.wrap (i64.wrap (x.2.2.2.2+1)-x.2.2.2.2)))) fun y=>obnd (back (x.1,x.2.1,y,x.2.2.2.1,i64.wrap (x.2.2.2.2+1))) fun y=>some y))
def kz1:List Member×List Member×List (Group)×List (Member)×Int->Option (List (Group)×List (Member)):=iter DzW big
def DzV:CutSpec tb:=⟨49,[(0,.val 297),(4,.val 297),(5,.own 141),(6,.own 299),(7,.val 3)],[(.ret,[(2,.own 141),(3,.own 299)])],[14,15,16,17,18,19,8,20,21,22,23,24,25,26,27,28,29,30,31,32,33,34,35,36,37,38,39,40,41,42,43,44,45,46,47,48,49,50,51,52,53,54,55,56,57,58,59,60,61,62,63,64,65,66,67,68,69,70,71,72,73,74,75,76,77,78,79,80,81,82,83,84,85,86,87,88,89,90,91,5,92,7,93,94,95,96,97,98,10,99,100,101,102,103,104,105,106,6,107,108,109,2,3],kz1,none⟩
theorem Azf:bzd ([kzB,pzw,izk]:List (CutSpec tb)) (mz9 (bzl 21 Tryz.f171) 1)=[(64,bzT 64 Tryz.f171),(90,bzT 90 Tryz.f171),(116,.loop (bzB 116 Tryz.f171))]:=by kernel_rfl
theorem oz0:bz5 Tryz.prog tb Tryz.f171.ntmps (bzl 21 Tryz.f171) 1 DzV:=wzs fun self hself=>lzS mixed (by kernel_rfl) (by kernel_rfl) ezU rfl Azf (.cons rfl mzY rfl (.cons rfl qzZ rfl (.cons rfl jzX rfl .nil))) (.cons hself rfl (.cons (oz1 self hself) rfl (.cons ozZ rfl .nil))) (fun x=>by kernel_rfl)
def vzL (x:List Member):Option ((Unit)⊕(List (Group)×List (Member))):=obnd (fzu x) fun y=>obnd (dzp (y,())) fun y=>brn (decide (0=(↑(List.length y):Int))) (obnd (nzG (x,[],[])) fun y=>some (Sum.inr y)) (obnd (mzD (y,0,1)) fun y_1=>brn y_1 (obnd (nzH kz1 (x,y,[],[],0,2)) fun y=>some (Sum.inr y)) (obnd (pzx (y,[],0,1,decide (1<1))) fun y_2=>obnd (kz1 (x,y,y_2,[],1)) fun y=>some (Sum.inr y)))
def HzM:CutSpec tb:=⟨21,[(0,.val 297)],[(.normal,[]),(.ret,[(2,.own 141),(3,.own 299)])],[11,12,13,4,5,6,7,8,14,15,16,17,18,19,20,21,22,23,24,25,26,27,28,29,30,31,32,33,34,35,36,37,38,39,40,41,42,43,44,45,46,47,48,49,50,51,52,53,54,55,56,57,58,59,60,61,62,63,64,65,66,67,68,69,70,71,72,73,74,75,76,77,78,79,80,81,82,83,84,85,86,87,88,89,90,91,92,93,94,95,96,97,98,10,99,100,101,102,103,104,105,106,107,108,109,2,3],vzL,none⟩
theorem DzX:bzd ([kzB,pzw,izk]:List (CutSpec tb)) (bzl 21 Tryz.f171)=[(64,bzT 64 Tryz.f171),(90,bzT 90 Tryz.f171),(116,.loop (bzB 116 Tryz.f171))]:=by kernel_rfl
theorem BzX:bz0 Tryz.prog tb Tryz.f171.ntmps (.scope (bzl 21 Tryz.f171)) HzM:=pzv mixed (by kernel_rfl) ezU rfl DzX (.cons rfl mzY rfl (.cons rfl qzZ rfl (.cons rfl jzX rfl .nil))) (.cons oz0 rfl (.cons (oz1 kz1 oz0) rfl (.cons ozZ rfl .nil))) (fun x=>by kernel_rfl)
def CzI (x:List Member):Option (List (Group)×List (Member)):=obnd (vzL x) fun y=>osum y (fun y=>none) fun y=>some y
def CzK:FSpec tb:=⟨[(0,.val 297)],[(0,.own 141),(1,.own 299)],CzI⟩
theorem DzY:A0 171 CzK:=A2 Tryz.func171 ezU (.cons BzX .nil)
abbrev HzN:List (Nat×FSpec tb):=[(143,czb),(171,CzK)]
theorem qz1:azj Tryz.prog tb (HzN):=(.cons ezL (.cons DzY .nil))
def qz2 (back:List Group×List (Member)×List Cell2×Int×Int->Option (List (Member)))(x:List Group×List (Member)×List Cell2×Int×Int):Option (List (Member)):=brn (decide (x.2.2.2.2<x.2.2.2.1)) (obnd (idx x.2.2.1 x.2.2.2.2) fun y=>brn y.Has (obnd (cza (Cell2.mk y.At y.XF y.V y.Has (azf y.E),x.1,())) fun y_1=>brn (!y_1) (obnd (app 168 x.2.1 [Member.mk y.At (azf y.E)]) fun zs=>back (x.1,zs,x.2.2.1,x.2.2.2.1,i64.wrap (x.2.2.2.2+1))) (back (x.1,x.2.1,x.2.2.1,x.2.2.2.1,i64.wrap (x.2.2.2.2+1)))) (back (x.1,x.2.1,x.2.2.1,x.2.2.2.1,i64.wrap (x.2.2.2.2+1)))) (some x.2.1)
def qz3:List Group×List (Member)×List Cell2×Int×Int->Option (List (Member)):=iter qz2 big
def BzZ:CutSpec tb:=⟨36,[(1,.val 99),(5,.own 299),(10,.val 98),(11,.val 3),(12,.val 3)],[((.exit 0),[(5,.own 299)])],[13,14,15,7,16,17,18,19,20,21,22,23,24,25,26,27,28,29,30,31,5,32,12],qz3,none⟩
theorem wz0:A3 Tryz.f110 36 BzZ:=A4 qz1 .nil qz2
def pzy (x:List Cell2×List Group):Option (List (Group)):=obnd (qz3 (x.2,[],x.1,(↑x.1.length:Int),0)) fun y=>obnd (CzI y) fun y=>some y.1
def pzz:FSpec tb:=⟨[(0,.val 98),(1,.val 99)],[(0,.own 141)],pzy⟩
theorem oz2:A0 110 pzz:=A2 Tryz.func110 qz1 (.cons wz0 .nil)
abbrev JzC:List (Nat×FSpec tb):=[(106,bzW),(107,JzB),(108,czv),(110,pzz),(1099511627841,mutS)]
theorem lzI:azj Tryz.prog tb (JzC):=(.cons lzF (.cons IzJ (.cons ezX (.cons oz2 (.consK jza .nil)))))
def sz6 (back:List (Cell2)×Sheet×List Cell2×Int×Int->Option ((List (Cell2))×Sheet))(x:List (Cell2)×Sheet×List Cell2×Int×Int):Option ((List (Cell2))×Sheet):=brn (decide (x.2.2.2.2<x.2.2.2.1)) (obnd (idx x.2.2.1 x.2.2.2.2) fun y=>brn y.Has (obnd (app 240 x.1 [Cell2.mk y.At y.XF y.V y.Has (azf y.E)]) fun zs=>back (zs,Sheet.mk x.2.1.Rows zs x.2.1.Groups,x.2.2.1,x.2.2.2.1,i64.wrap (x.2.2.2.2+1))) (brn (!decide (y.V.Kind=0)) (obnd (app 240 x.1 [Cell2.mk y.At y.XF y.V y.Has (azf y.E)]) fun zs=>back (zs,Sheet.mk x.2.1.Rows zs x.2.1.Groups,x.2.2.1,x.2.2.2.1,i64.wrap (x.2.2.2.2+1))) (brn (!decide (y.XF=0)) (obnd (app 240 x.1 [Cell2.mk y.At y.XF y.V y.Has (azf y.E)]) fun zs=>back (zs,Sheet.mk x.2.1.Rows zs x.2.1.Groups,x.2.2.1,x.2.2.2.1,i64.wrap (x.2.2.2.2+1))) (back (x.1,Sheet.mk x.2.1.Rows x.1 x.2.1.Groups,x.2.2.1,x.2.2.2.1,i64.wrap (x.2.2.2.2+1)))))) (some (x.1,Sheet.mk x.2.1.Rows x.1 x.2.1.Groups))
def sz7:List (Cell2)×Sheet×List Cell2×Int×Int->Option ((List (Cell2))×Sheet):=iter sz6 big
def Ezx:CutSpec tb:=⟨36,[(8589934595,.own 108),(3,.ref 101),(16,.val 98),(17,.val 3),(18,.val 3)],[((.exit 0),[(8589934595,.own 108)])],[19,20,21,5,22,23,24,25,26,27,28,29,30,31,32,33,34,35,36,37,38,39,40,41,18],sz7,none⟩
theorem yzC:A3 Tryz.f57 36 Ezx:=A4 lzI .nil sz6
def sz8 (back:Sheet×List (Group)×List Group×Int×Int->Option (List (Group)))(x:Sheet×List (Group)×List Group×Int×Int):Option (List (Group)):=brn (decide (x.2.2.2.2<x.2.2.2.1)) (obnd (idx x.2.2.1 x.2.2.2.2) fun y=>brn y.Array (obnd (JzA (x.1.Cells,y.A)) fun y_1=>brn y_1.2 (obnd (app 192 x.2.1 [Group.mk y.Array y.A y.B (azf y_1.1)]) fun zs=>back (x.1,zs,x.2.2.1,x.2.2.2.1,i64.wrap (x.2.2.2.2+1))) (obnd (app 192 x.2.1 [Group.mk y.Array y.A y.B (azf y.E)]) fun zs=>back (x.1,zs,x.2.2.1,x.2.2.2.1,i64.wrap (x.2.2.2.2+1)))) (back (x.1,x.2.1,x.2.2.1,x.2.2.2.1,i64.wrap (x.2.2.2.2+1)))) (some x.2.1)
def sz9:Sheet×List (Group)×List Group×Int×Int->Option (List (Group)):=iter sz8 big
def Ezy:CutSpec tb:=⟨92,[(1,.ro 101),(6,.wr 141),(43,.val 99),(44,.val 3),(45,.val 3)],[((.exit 2),[(6,.wr 141)])],[46,47,48,8,49,50,52,53,54,55,56,51,57,58,9,10,59,60,61,62,63,64,65,6,66,45],sz9,none⟩
theorem yzD:A3 Tryz.f57 92 Ezy:=A4 lzI .nil sz8
def sz5 (x:List (Cell2)×Sheet×List (Group)):Option ((List (Cell2))×Sheet):=obnd (pzy (x.1,x.2.2)) fun y=>obnd (app 192 x.2.2 y) fun zs=>some (x.1,Sheet.mk x.2.1.Rows x.1 zs)
def Ezw:CutSpec tb:=⟨160,[(8589934595,.own 108),(3,.ref 101),(6,.own 141)],[(.normal,[(8589934595,.own 108)])],[69,70,71,72,73,74,75],(sz5),none⟩
theorem yzB:A5 Tryz.f57 160 Ezw:=A6 lzI .nil
def yzz (x:Sheet):Option (Sheet):=obnd (izb x.Rows) fun y=>obnd (sz7 ([],Sheet.mk y [] [],x.Cells,(↑x.Cells.length:Int),0)) fun y=>obnd (sz9 (x,[],x.Groups,(↑x.Groups.length:Int),0)) fun y_1=>obnd (czu (y_1,())) fun y_2=>obnd (sz5 (y.1,Sheet.mk y.2.Rows y.1 y.2.Groups,y_2)) fun y=>some (Sheet.mk y.2.Rows y.1 y.2.Groups)
def yzA:FSpec tb:=⟨[(0,.val 101)],[(0,.val 101)],yzz⟩
theorem Az0:A0 57 yzA:=A2 Tryz.func57 lzI (.cons yzC (.cons yzD (.cons yzB .nil)))
def tzP (back:List (List UInt8)×List Cell2×Int×Int->Option (List (List UInt8)))(x:List (List UInt8)×List Cell2×Int×Int):Option (List (List UInt8)):=brn (decide (x.2.2.2<x.2.2.1)) (obnd (idx x.2.1 x.2.2.2) fun y=>brn (!y.Has) (brn (decide (y.V.Kind=2)) (obnd (app 16 x.1 [y.V.S]) fun zs=>back (zs,x.2.1,x.2.2.1,i64.wrap (x.2.2.2+1))) (back (x.1,x.2.1,x.2.2.1,i64.wrap (x.2.2.2+1)))) (back (x.1,x.2.1,x.2.2.1,i64.wrap (x.2.2.2+1)))) (some x.1)
def tzQ:List (List UInt8)×List Cell2×Int×Int->Option (List (List UInt8)):=iter tzP big
def Gzd:CutSpec tb:=⟨36,[(3,.own 9),(7,.val 98),(8,.val 3),(9,.val 3)],[((.exit 0),[(3,.own 9)])],[10,11,12,5,13,14,15,16,17,18,19,20,21,22,23,24,25,26,27,3,28,9],tzQ,none⟩
theorem Azl:A3 Tryz.f82 36 Gzd:=A4 .nil .nil tzP
def Azj (x:Sheet):Option (List (List UInt8)):=obnd (tzQ ([],x.Cells,(↑x.Cells.length:Int),0)) fun y=>some y
def Azk:FSpec tb:=⟨[(0,.val 101)],[(0,.own 9)],Azj⟩
theorem Bz0:A0 82 Azk:=A2 Tryz.func82 .nil (.cons Azl .nil)
def iz0 (back:List (Int)×((List UInt8×Nat))->Option ((List (Int))×((List UInt8×Nat))))(x:List (Int)×((List UInt8×Nat))):Option ((List (Int))×((List UInt8×Nat))):=brn (decide (x.2.2<x.2.1.length)) (brn (decide ((↑(rune x.2.1 x.2.2).1:Int)<65536)) (obnd (app 8 x.1 [i64.wrap (↑(rune x.2.1 x.2.2).1:Int)]) fun zs=>back (zs,x.2.1,x.2.2+(rune x.2.1 x.2.2).2)) (obnd (app 8 x.1 [i64.wrap (55296+i64.wrap ((i32.wrap ((↑(rune x.2.1 x.2.2).1:Int)-65536)).fdiv 1024)),i64.wrap (56320+i64.wrap (bzc BinOp.and i32 (i32.wrap ((↑(rune x.2.1 x.2.2).1:Int)-65536)) 1023))]) fun zs=>back (zs,x.2.1,x.2.2+(rune x.2.1 x.2.2).2))) (some x)
def nzw:List (Int)×((List UInt8×Nat))->Option ((List (Int))×((List UInt8×Nat))):=iter iz0 big
def Jzm:CutSpec tb:=⟨36,[(3,.own 3),(7,.iter)],[((.exit 0),[(3,.own 3)])],[8,9,10,5,11,12,13,14,15,16,17,3,18,19,20,21,22,23,24,25,26,27,28,29,30],nzw,none⟩
theorem Eza:A3 Tryz.f130 36 Jzm:=A4 .nil .nil iz0
def jzH (x:List UInt8):Option (List (Int)):=obnd (nzw ([],x,0)) fun y=>some y.1
def Gzn:FSpec tb:=⟨[(0,.val 9)],[(0,.own 3)],jzH⟩
theorem tzV:A0 130 Gzn:=A2 Tryz.func130 .nil (.cons Eza .nil)
def hz5 (x:List UInt8):Option (Int×Int):=obnd (some (Lib.validD x)) fun y=>brn (!y) (some (0,2)) (obnd (jzH x) fun y=>brn (decide (1000<(↑(List.length y):Int))) (some (0,4)) (some ((↑(List.length y):Int),0)))
def mzL:FSpec tb:=⟨[(0,.val 9)],[(0,.val 3),(1,.val 44)],hz5⟩
theorem hzq:A0 75 mzL:=A1 Tryz.func75 (.cons uzx (.cons tzV .nil))
abbrev MzK:List (Nat×FSpec tb):=[(75,mzL)]
theorem nzv:azj Tryz.prog tb (MzK):=(.cons hzq .nil)
def ozT (x:List (List UInt8)×Table×Int):Option ((List (List UInt8)×List (Int)×Int)×Table):=some (([],[],x.2.2),Table.mk [] 0)
def Gzg:CutSpec tb:=⟨153,[(4294967298,.own 9),(2,.ref 36),(4,.val 44)],[(.ret,[(4294967298,.own 9),(3,.own 3),(4,.val 44)])],[58,59,3,4],ozT,none⟩
theorem Bz3:bzd ([]:List (CutSpec tb)) (mz9 (bzl 21 Tryz.f83) 0)=[]:=by kernel_rfl
theorem Azn:bz5 Tryz.prog tb Tryz.f83.ntmps (bzl 21 Tryz.f83) 0 Gzg:=lzS mixed (by kernel_rfl) (by kernel_rfl) nzv rfl Bz3 .nil .nil (fun x=>by kernel_rfl)
def xzK (back:List (List UInt8)×Table×List (Int)×(List (List UInt8×Int))×List (List UInt8)×Int×Int->Option (((List (List UInt8)×List (Int))×(Table×(List (List UInt8×Int))))⊕((List (List UInt8)×Int)×(Table×(List (List UInt8×Int))))))(x:List (List UInt8)×Table×List (Int)×(List (List UInt8×Int))×List (List UInt8)×Int×Int):Option (((List (List UInt8)×List (Int))×(Table×(List (List UInt8×Int))))⊕((List (List UInt8)×Int)×(Table×(List (List UInt8×Int))))):=brn (decide (x.2.2.2.2.2.2<x.2.2.2.2.2.1)) (obnd (idx x.2.2.2.2.1 x.2.2.2.2.2.2) fun y=>obnd (hz5 y) fun y_1=>brn (!decide (y_1.2=0)) (some (Sum.inr ((x.1,y_1.2),Table.mk x.1 x.2.1.Uses,x.2.2.2.1))) (brn (!tzy keq9 y x.2.2.2.1) (obnd (app 16 x.1 [y]) fun zs=>obnd (app 8 x.2.2.1 [(↑x.1.length:Int)]) fun zs_1=>back (zs,Table.mk zs x.2.1.Uses,zs_1,pzJ keq9 y (↑x.1.length:Int) x.2.2.2.1,x.2.2.2.2.1,x.2.2.2.2.2.1,i64.wrap (x.2.2.2.2.2.2+1))) (obnd (app 8 x.2.2.1 [iz9 keq9 0 y x.2.2.2.1]) fun zs=>back (x.1,Table.mk x.1 x.2.1.Uses,zs,x.2.2.2.1,x.2.2.2.2.1,x.2.2.2.2.2.1,i64.wrap (x.2.2.2.2.2.2+1))))) (some (Sum.inl ((x.1,x.2.2.1),Table.mk x.1 x.2.1.Uses,x.2.2.2.1)))
def xzL:List (List UInt8)×Table×List (Int)×(List (List UInt8×Int))×List (List UInt8)×Int×Int->Option (((List (List UInt8)×List (Int))×(Table×(List (List UInt8×Int))))⊕((List (List UInt8)×Int)×(Table×(List (List UInt8×Int))))):=iter xzK big
def xzJ:CutSpec tb:=⟨36,[(4294967298,.own 9),(2,.ref 36),(3,.own 3),(5,.mp 9 3),(11,.val 22),(12,.val 3),(13,.val 3)],[((.exit 0),[(4294967298,.own 9),(3,.own 3)]),((.goto 0),[(4294967298,.own 9),(4,.val 44)])],[14,15,16,7,18,19,17,20,21,4,22,23,25,26,27,24,28,29,8,9,30,31,32,33,34,35,36,37,38,39,40,41,42,43,44,45,46,47,3,48,13],xzL,none⟩
theorem Dz2:A3 Tryz.f83 36 xzJ:=A4 nzv .nil xzK
def xzM (x:List (List UInt8)×List (List UInt8)×Table×List (Int)):Option (((List (List UInt8))×Table)⊕((List (List UInt8)×List (Int)×Int)×Table)):=obnd (xzL (x.1,Table.mk x.1 x.2.2.1.Uses,x.2.2.2,[],x.2.1,(↑x.2.1.length:Int),0)) fun y=>osum y (fun y=>brn (decide (1024<(↑(List.length y.1.1):Int))) (obnd (ozT (y.1.1,Table.mk y.1.1 y.2.1.Uses,4)) fun y=>some (Sum.inr ((y.1.1,y.1.2),Table.mk y.1.1 y.2.Uses))) (some (Sum.inr ((y.1.1,y.1.2,0),Table.mk y.1.1 (↑x.2.1.length:Int))))) fun y=>obnd (ozT (y.1.1,Table.mk y.1.1 y.2.1.Uses,y.1.2)) fun y=>some (Sum.inr ((y.1.1,y.1.2),Table.mk y.1.1 y.2.Uses))
def Jzi:CutSpec tb:=⟨21,[(4294967298,.own 9),(0,.val 22),(2,.ref 36),(3,.own 3)],[(.normal,[(4294967298,.own 9)]),(.ret,[(4294967298,.own 9),(3,.own 3),(4,.val 44)])],[10,5,11,12,13,14,15,16,7,18,19,17,20,21,4,22,23,25,26,27,24,28,29,8,9,30,31,32,33,34,35,36,37,38,39,40,41,42,43,44,45,46,47,3,48,49,50,51,52,53,54,55,56,57,58,59],xzM,none⟩
theorem Gzh:bzd ([xzJ]:List (CutSpec tb)) (bzl 21 Tryz.f83)=[(36,.loop (bzB 36 Tryz.f83))]:=by kernel_rfl
theorem Dz3:bz0 Tryz.prog tb Tryz.f83.ntmps (.scope (bzl 21 Tryz.f83)) Jzi:=pzv mixed (by kernel_rfl) nzv rfl Gzh (.cons rfl Dz2 rfl .nil) (.cons Azn rfl .nil) (fun x=>by kernel_rfl)
def Gze (x:List (List UInt8)):Option (Table×List (Int)×Int):=obnd (xzM ([],x,Table.mk [] 0,[])) fun y=>osum y (fun y=>none) fun y=>some (Table.mk y.1.1 y.2.Uses,y.1.2)
def Gzf:FSpec tb:=⟨[(0,.val 22)],[(0,.val 36),(1,.own 3),(2,.val 44)],Gze⟩
theorem Gzi:A0 83 Gzf:=A2 Tryz.func83 nzv (.cons Dz3 .nil)
abbrev Kz4:List (Nat×FSpec tb):=[(82,Azk),(83,Gzf)]
theorem uzJ:azj Tryz.prog tb (Kz4):=(.cons Bz0 (.cons Gzi .nil))
def uzK (back:List (List UInt8)×List Sheet×Int×Int->Option (List (List UInt8)))(x:List (List UInt8)×List Sheet×Int×Int):Option (List (List UInt8)):=brn (decide (x.2.2.2<x.2.2.1)) (obnd (idx x.2.1 x.2.2.2) fun y=>obnd (Azj y) fun y=>obnd (app 16 x.1 y) fun zs=>back (zs,x.2.1,x.2.2.1,i64.wrap (x.2.2.2+1))) (some x.1)
def uzL:List (List UInt8)×List Sheet×Int×Int->Option (List (List UInt8)):=iter uzK big
def GzB:CutSpec tb:=⟨36,[(4,.own 9),(10,.val 40),(11,.val 3),(12,.val 3)],[((.exit 0),[(4,.own 9)])],[13,14,15,6,16,17,18,19,4,20,12],uzL,none⟩
theorem AzZ:A3 Tryz.f36 36 GzB:=A4 uzJ .nil uzK
def pzE (x:List Sheet):Option (Table×Int):=obnd (uzL ([],x,(↑x.length:Int),0)) fun y=>obnd (Gze y) fun y=>some (y.1,y.2.2)
def tz1:FSpec tb:=⟨[(0,.val 40)],[(0,.val 36),(1,.val 44)],pzE⟩
theorem rzN:A0 36 tz1:=A2 Tryz.func36 uzJ (.cons AzZ .nil)
def jzB (back:List (List UInt8)×List UInt8×Int×Int->Option ((Unit)⊕(Int)))(x:List (List UInt8)×List UInt8×Int×Int):Option ((Unit)⊕(Int)):=brn (decide (x.2.2.2<x.2.2.1)) (obnd (idx x.1 x.2.2.2) fun y=>brn (decide (x.2.1=y)) (some (Sum.inr x.2.2.2)) (back (x.1,x.2.1,x.2.2.1,i64.wrap (x.2.2.2+1)))) (some (Sum.inl PUnit.unit))
def jzC:List (List UInt8)×List UInt8×Int×Int->Option ((Unit)⊕(Int)):=iter jzB big
def ozS:CutSpec tb:=⟨28,[(0,.val 22),(1,.val 9),(7,.val 3),(8,.val 3)],[((.exit 0),[]),(.ret,[(4,.val 3)])],[9,10,5,11,12,13,14,15,16,17,4,18,8],jzC,none⟩
theorem nzd:A3 Tryz.f182 28 ozS:=A4 .nil .nil jzB
def kzH (x:List (List UInt8)×List UInt8):Option (Int):=obnd (jzC (x.1,x.2,(↑x.1.length:Int),0)) fun y=>osum y (fun y=>some (-1)) fun y=>some y
def qzk:FSpec tb:=⟨[(0,.val 22),(1,.val 9)],[(0,.val 3)],kzH⟩
theorem nzI:A0 182 qzk:=A2 Tryz.func182 .nil (.cons nzd .nil)
def jzx (x:List (List UInt8)×List UInt8):Option (Bool):=obnd (kzH x) fun y=>some (decide (0<=y))
def jzy:FSpec tb:=⟨[(0,.val 22),(1,.val 9)],[(0,.val 4)],jzx⟩
theorem mzI:A0 128 jzy:=A1 Tryz.func128 (.cons nzI .nil)
abbrev Bze:List (Nat×FSpec tb):=[(75,mzL),(128,jzy)]
theorem nz7:azj Tryz.prog tb (Bze):=(.cons hzq (.cons mzI .nil))
def nz8 (back:List (List UInt8)×List (List UInt8)×Int×Int->Option ((Unit)⊕(Int)))(x:List (List UInt8)×List (List UInt8)×Int×Int):Option ((Unit)⊕(Int)):=brn (decide (x.2.2.2<x.2.2.1)) (obnd (idx x.2.1 x.2.2.2) fun y=>obnd (hz5 y) fun y_1=>brn (!decide (y_1.2=0)) (some (Sum.inr 3)) (brn (decide (y_1.1<1)) (some (Sum.inr 3)) (brn (decide (31<y_1.1)) (some (Sum.inr 3)) (obnd (sub x.1 0 x.2.2.2) fun z=>obnd (jzx (z,y)) fun y=>brn y (some (Sum.inr 7)) (back (x.1,x.2.1,x.2.2.1,i64.wrap (x.2.2.2+1))))))) (some (Sum.inl PUnit.unit))
def nz9:List (List UInt8)×List (List UInt8)×Int×Int->Option ((Unit)⊕(Int)):=iter nz8 big
def wzq:CutSpec tb:=⟨28,[(0,.val 22),(7,.val 22),(8,.val 3),(9,.val 3)],[((.exit 0),[]),(.ret,[(2,.val 44)])],[10,11,12,13,3,4,15,16,14,17,18,5,6,19,20,21,22,23,24,25,26,27,28,2,29,30,31,32,33,34,9],nz9,none⟩
theorem szV:A3 Tryz.f74 28 wzq:=A4 nz7 .nil nz8
def qzN (x:List (List UInt8)):Option (Int):=obnd (nz9 (x,x,(↑x.length:Int),0)) fun y=>osum y (fun y=>some 0) fun y=>some y
def qzO:FSpec tb:=⟨[(0,.val 22)],[(0,.val 44)],qzN⟩
theorem tz4:A0 74 qzO:=A2 Tryz.func74 nz7 (.cons szV .nil)
def xzh (x:Node2):Option (Bool):=some (decide (16<x.deep))
def xzi:FSpec tb:=⟨[(0,.val 231)],[(0,.val 4)],xzh⟩
theorem yzU:A0 117 xzi:=A1 Tryz.func117 .nil
abbrev hz0:List (Nat×FSpec tb):=[(117,xzi)]
theorem dzf:azj Tryz.prog tb (hz0):=(.cons yzU .nil)
def azL (back:List Node2×Unit×Int×Int->Option ((Unit)⊕(Int)))(x:List Node2×Unit×Int×Int):Option ((Unit)⊕(Int)):=brn (decide (x.2.2.2<x.2.2.1)) (obnd (idx x.1 x.2.2.2) fun y=>obnd (xzh (Node2.mk (azf y.e) y.deep)) fun y=>brn y (some (Sum.inr x.2.2.2)) (back (x.1,(),x.2.2.1,i64.wrap (x.2.2.2+1)))) (some (Sum.inl PUnit.unit))
def bzz:List Node2×Unit×Int×Int->Option ((Unit)⊕(Int)):=iter azL big
def hzf:CutSpec tb:=⟨28,[(0,.val 227),(1,.fnp 117 0),(7,.val 3),(8,.val 3)],[((.exit 0),[]),(.ret,[(4,.val 3)])],[9,10,5,11,12,13,14,15,16,17,4,18,8],bzz,none⟩
theorem gzk:A3 Tryz.f174 28 hzf:=A4 dzf .nil azL
def bzS (x:List Node2×Unit):Option (Int):=obnd (bzz (x.1,(),(↑x.1.length:Int),0)) fun y=>osum y (fun y=>some (-1)) fun y=>some y
def hz3:FSpec tb:=⟨[(0,.val 227),(1,.fnp 117 0)],[(0,.val 3)],bzS⟩
theorem gzC:A0 174 hz3:=A2 Tryz.func174 dzf (.cons gzk .nil)
def azV (x:List Node2×Unit):Option (Bool):=obnd (bzS (x.1,())) fun y=>some (decide (0<=y))
def dze:FSpec tb:=⟨[(0,.val 227),(1,.fnp 117 0)],[(0,.val 4)],azV⟩
theorem fzG:A0 116 dze:=A1 Tryz.func116 (.cons gzC .nil)
def dzh (x:Int×Int×Int):Option (Bool):=brn (decide (x.2.1<=x.1)) (some (decide (x.1<=x.2.2))) (some false)
def yzZ:FSpec tb:=⟨[(0,.val 3),(1,.val 3),(2,.val 3)],[(0,.val 4)],dzh⟩
theorem mzR:A0 120 yzZ:=A1 Tryz.func120 .nil
def yzX (x:Expr):Option (Expr):=brn (decide (x.Kind=1)) (some (Expr.mk x.Kind x.V (Area.mk (Ref.mk 0 0 false false) (Ref.mk 0 0 false false)) 0 0 [])) (brn (decide (x.Kind=2)) (some (Expr.mk x.Kind (Val.mk 0 (Dec.mk 0 0) [] false 0) (Area.mk x.A.A (Ref.mk 0 0 false false)) 0 0 [])) (brn (decide (x.Kind=3)) (some (Expr.mk x.Kind (Val.mk 0 (Dec.mk 0 0) [] false 0) x.A 0 0 [])) (brn (decide (x.Kind=4)) (some (Expr.mk x.Kind (Val.mk 0 (Dec.mk 0 0) [] false 0) (Area.mk x.A.A (Ref.mk 0 0 false false)) x.Sheet 0 [])) (brn (decide (x.Kind=5)) (some (Expr.mk x.Kind (Val.mk 0 (Dec.mk 0 0) [] false 0) x.A x.Sheet 0 [])) (brn (decide (x.Kind=6)) (some (Expr.mk x.Kind (Val.mk 0 (Dec.mk 0 0) [] false 0) (Area.mk (Ref.mk 0 0 false false) (Ref.mk 0 0 false false)) 0 x.Op [])) (brn (decide (x.Kind=7)) (brn (decide (x.Kind=7)) (some (Expr.mk x.Kind (Val.mk 0 (Dec.mk 0 0) [] false 0) (Area.mk (Ref.mk 0 0 false false) (Ref.mk 0 0 false false)) 0 x.Op x.Kids)) (some (Expr.mk x.Kind (Val.mk 0 (Dec.mk 0 0) [] false 0) (Area.mk (Ref.mk 0 0 false false) (Ref.mk 0 0 false false)) 0 0 x.Kids))) (brn (decide (x.Kind=8)) (brn (decide (x.Kind=8)) (some (Expr.mk x.Kind (Val.mk 0 (Dec.mk 0 0) [] false 0) (Area.mk (Ref.mk 0 0 false false) (Ref.mk 0 0 false false)) 0 x.Op x.Kids)) (some (Expr.mk x.Kind (Val.mk 0 (Dec.mk 0 0) [] false 0) (Area.mk (Ref.mk 0 0 false false) (Ref.mk 0 0 false false)) 0 0 x.Kids))) (brn (decide (x.Kind=9)) (some (Expr.mk x.Kind (Val.mk 0 (Dec.mk 0 0) [] false 0) (Area.mk (Ref.mk 0 0 false false) (Ref.mk 0 0 false false)) 0 x.Op x.Kids)) (some (Expr.mk x.Kind (Val.mk 0 (Dec.mk 0 0) [] false 0) (Area.mk (Ref.mk 0 0 false false) (Ref.mk 0 0 false false)) 0 0 x.Kids))))))))))
def expr_ownS:FSpec tb:=⟨[(0,.val 90)],[(0,.val 90)],yzX⟩
theorem GzS:A0 210 expr_ownS:=A1 Tryz.func210 .nil
def tz2 (x:Expr):Option (Bool):=obnd (yzX (azf x)) fun y=>brn (bif false then !(decide (y.V.Kind=x.V.Kind)&&(decide (y.V.N.M=x.V.N.M)&&(decide (y.V.N.S=x.V.N.S)&&(decide (y.V.S=x.V.S)&&(decide (y.V.B=x.V.B)&&decide (y.V.E=x.V.E))))))else decide (y.V.Kind=x.V.Kind)&&(decide (y.V.N.M=x.V.N.M)&&(decide (y.V.N.S=x.V.N.S)&&(decide (y.V.S=x.V.S)&&(decide (y.V.B=x.V.B)&&decide (y.V.E=x.V.E)))))) (brn (bif false then !(decide (y.A.A.Row=x.A.A.Row)&&(decide (y.A.A.Col=x.A.A.Col)&&(decide (y.A.A.RelRow=x.A.A.RelRow)&&(decide (y.A.A.RelCol=x.A.A.RelCol)&&(decide (y.A.B.Row=x.A.B.Row)&&(decide (y.A.B.Col=x.A.B.Col)&&(decide (y.A.B.RelRow=x.A.B.RelRow)&&decide (y.A.B.RelCol=x.A.B.RelCol))))))))else decide (y.A.A.Row=x.A.A.Row)&&(decide (y.A.A.Col=x.A.A.Col)&&(decide (y.A.A.RelRow=x.A.A.RelRow)&&(decide (y.A.A.RelCol=x.A.A.RelCol)&&(decide (y.A.B.Row=x.A.B.Row)&&(decide (y.A.B.Col=x.A.B.Col)&&(decide (y.A.B.RelRow=x.A.B.RelRow)&&decide (y.A.B.RelCol=x.A.B.RelCol)))))))) (brn (decide (y.Sheet=x.Sheet)) (brn (decide (y.Op=x.Op)) (some (decide ((↑y.Kids.length:Int)=(↑x.Kids.length:Int)))) (some false)) (some false)) (some false)) (some false)
def Lzq:FSpec tb:=⟨[(0,.val 90)],[(0,.val 4)],tz2⟩
theorem Cz9:A0 175 Lzq:=A1 Tryz.func175 (.cons GzS .nil)
def wz8 (x:Int):Option (Val):=some (Val.mk 4 (Dec.mk 0 0) [] false x)
def MzO:FSpec tb:=⟨[(0,.val 3)],[(0,.val 85)],wz8⟩
theorem Gzs:A0 172 MzO:=A1 Tryz.func172 .nil
def nzK (x:Val):Option (Val):=brn (decide (x.Kind=1)) (some (Val.mk 1 x.N [] false 0)) (brn (decide (x.Kind=2)) (some (Val.mk 2 (Dec.mk 0 0) x.S false 0)) (brn (decide (x.Kind=3)) (some (Val.mk 3 (Dec.mk 0 0) [] x.B 0)) (brn (decide (x.Kind=4)) (obnd (wz8 x.E) fun y=>some y) (some (Val.mk x.Kind (Dec.mk 0 0) [] false 0)))))
def val_ownS:FSpec tb:=⟨[(0,.val 85)],[(0,.val 85)],nzK⟩
theorem Jzn:A0 112 val_ownS:=A1 Tryz.func112 (.cons Gzs .nil)
def wzi (x:Dec):Option (Int):=brn (decide (x.S<0)) (some 1) (brn (decide (9<x.S)) (some 1) (brn (decide (0<x.S)) (brn (decide (x.M.tmod 10=0)) (some 1) (some 0)) (some 0)))
def LzT:FSpec tb:=⟨[(0,.val 83)],[(0,.val 44)],wzi⟩
theorem EzC:A0 113 LzT:=A1 Tryz.func113 .nil
def Azs (x:Int):Option (List UInt8):=brn (decide (x=0)) (some (U8s [35,78,85,76,76,33])) (brn (decide (x=7)) (some (U8s [35,68,73,86,47,48,33])) (brn (decide (x=15)) (some (U8s [35,86,65,76,85,69,33])) (brn (decide (x=23)) (some (U8s [35,82,69,70,33])) (brn (decide (x=29)) (some (U8s [35,78,65,77,69,63])) (brn (decide (x=36)) (some (U8s [35,78,85,77,33])) (brn (decide (x=42)) (some [35,78,47,65]) (some [])))))))
def val_nameS:FSpec tb:=⟨[(0,.val 3)],[(0,.val 9)],Azs⟩
theorem HzX:A0 114 val_nameS:=A1 Tryz.func114 .nil
def mzM (x:Val):Option (Int):=brn (decide (x.Kind<0)) (some 1) (brn (decide (4<x.Kind)) (some 1) (obnd (nzK x) fun y=>brn (bif true then !(decide (x.Kind=y.Kind)&&(decide (x.N.M=y.N.M)&&(decide (x.N.S=y.N.S)&&(decide (x.S=y.S)&&(decide (x.B=y.B)&&decide (x.E=y.E))))))else decide (x.Kind=y.Kind)&&(decide (x.N.M=y.N.M)&&(decide (x.N.S=y.N.S)&&(decide (x.S=y.S)&&(decide (x.B=y.B)&&decide (x.E=y.E)))))) (some 1) (brn (decide (x.Kind=1)) (obnd (wzi x.N) fun y=>some y) (brn (decide (x.Kind=2)) (obnd (hz5 x.S) fun y=>some y.2) (brn (decide (x.Kind=4)) (obnd (Azs x.E) fun y=>brn (decide (y=[])) (some 1) (some 0)) (some 0))))))
def Gzr:FSpec tb:=⟨[(0,.val 85)],[(0,.val 44)],mzM⟩
theorem ozX:A0 59 Gzr:=A1 Tryz.func59 (.cons Jzn (.cons EzC (.cons hzq (.cons HzX .nil))))
def jzr (x:Cell):Option (Bool):=brn (decide (0<=x.Row)) (brn (decide (x.Row<65536)) (brn (decide (0<=x.Col)) (some (decide (x.Col<256))) (some false)) (some false)) (some false)
def zz3:FSpec tb:=⟨[(0,.val 80)],[(0,.val 4)],jzr⟩
theorem kzA:A0 111 zz3:=A1 Tryz.func111 .nil
def mzA (x:Ref):Option (Int):=obnd (jzr (Cell.mk x.Row x.Col)) fun y=>brn (!y) (some 12) (some 0)
def MzE:FSpec tb:=⟨[(0,.val 86)],[(0,.val 44)],mzA⟩
theorem Fz5:A0 211 MzE:=A1 Tryz.func211 (.cons kzA .nil)
def kzz (x:Area):Option (Int):=obnd (mzA x.A) fun y=>obnd (mzA x.B) fun y_1=>some (bif decide (y<y_1)then y_1 else y)
def HzL:FSpec tb:=⟨[(0,.val 88)],[(0,.val 44)],kzz⟩
theorem yzn:A0 176 HzL:=A1 Tryz.func176 (.cons Fz5 .nil)
def nz4 (x:Expr):Option (Bool):=brn (decide (x.Kind=6)) (obnd (dzh (x.Op,0,1023)) fun y=>some y) (brn (decide (x.Kind=7)) (obnd (dzh (x.Op,1,3)) fun y=>brn y (some (decide ((↑x.Kids.length:Int)=1))) (some false)) (brn (decide (x.Kind=8)) (obnd (dzh (x.Op,1,12)) fun y=>brn y (some (decide ((↑x.Kids.length:Int)=2))) (some false)) (brn (decide (x.Kind=9)) (obnd (dzh (x.Op,0,29)) fun y=>brn y (some (decide ((↑x.Kids.length:Int)<=30))) (some false)) (brn (decide (x.Kind=10)) (some (decide ((↑x.Kids.length:Int)=1))) (some true)))))
def JzQ:FSpec tb:=⟨[(0,.val 90)],[(0,.val 4)],nz4⟩
theorem Az7:A0 177 JzQ:=A1 Tryz.func177 (.cons mzR .nil)
def nz5 (x:Expr):Option (Int):=obnd (dzh (x.Kind,1,10)) fun y=>brn (!y) (some 1) (obnd (tz2 (azf x)) fun y=>brn (!y) (some 1) (brn (decide (x.Kind=1)) (obnd (mzM x.V) fun y=>brn (!decide (y=0)) (some y) (brn (decide (x.V.Kind=0)) (some 1) (obnd (kzz x.A) fun y=>brn (!decide (y=0)) (some y) (obnd (dzh (x.Sheet,0,7)) fun y=>brn (!y) (some 1) (obnd (nz4 (azf x)) fun y=>brn (!y) (some 1) (some 0)))))) (obnd (kzz x.A) fun y=>brn (!decide (y=0)) (some y) (obnd (dzh (x.Sheet,0,7)) fun y=>brn (!y) (some 1) (obnd (nz4 (azf x)) fun y=>brn (!y) (some 1) (some 0))))))
def EzK:FSpec tb:=⟨[(0,.val 90)],[(0,.val 44)],nz5⟩
theorem EzL:A0 118 EzK:=A1 Tryz.func118 (.cons mzR (.cons Cz9 (.cons ozX (.cons yzn (.cons Az7 .nil)))))
abbrev Lzo:List (Nat×FSpec tb):=[(115,EzN),(116,dze),(118,EzK)]
theorem uzX:azj Tryz.prog tb (Lzo):=(.cons tzh (.cons fzG (.cons EzL .nil)))
def jz7 (back:List Node2×Int×Int->Option ((Unit)⊕(Int)))(x:List Node2×Int×Int):Option ((Unit)⊕(Int)):=brn (decide (x.2.2<x.2.1)) (obnd (idx x.1 x.2.2) fun y=>obnd (nz5 (azf y.e)) fun y=>brn (!decide (y=0)) (some (Sum.inr y)) (back (x.1,x.2.1,i64.wrap (x.2.2+1)))) (some (Sum.inl PUnit.unit))
def mzj:List Node2×Int×Int->Option ((Unit)⊕(Int)):=iter jz7 big
def GzP:CutSpec tb:=⟨68,[(14,.val 227),(15,.val 3),(16,.val 3)],[((.exit 0),[]),(.ret,[(2,.val 44)])],[17,18,19,5,20,21,22,6,23,24,25,2,26,16],mzj,none⟩
theorem Az5:A3 Tryz.f60 68 GzP:=A4 uzX .nil jz7
def mz3 (x:Expr):Option (Int):=obnd (mzk (azf x)) fun y=>obnd (azV (y,())) fun y_1=>brn y_1 (some 11) (brn (decide (1024<(↑(List.length y):Int))) (some 4) (obnd (mzj (y,(↑(List.length y):Int),0)) fun y=>osum y (fun y=>some 0) fun y=>some y))
def Czh:FSpec tb:=⟨[(0,.val 90)],[(0,.val 44)],mz3⟩
theorem rzY:A0 60 Czh:=A2 Tryz.func60 uzX (.cons Az5 .nil)
def bzM (x:List UInt8):Option (List (UInt8)):=app 1 [] x
def dzb:FSpec tb:=⟨[(0,.val 178)],[(0,.own 5)],bzM⟩
theorem rzy:∀x,evFn Tryz.prog tb [] [] Tryz.f186 dzb.ins dzb.outs x=dzb.f x:=fun x=>Eq.trans (by kernel_rfl) (pzG 1 x)
theorem ezg:A0 186 dzb:=A1 Tryz.func186 .nil (hJ:=rzy)
abbrev le_putG:List (Nat×FSpec tb):=[(186,dzb)]
theorem Fzm:azj Tryz.prog tb (le_putG):=(.cons ezg .nil)
def ozh (back:List (UInt8)×Int×Int×Int->Option (List (UInt8)))(x:List (UInt8)×Int×Int×Int):Option (List (UInt8)):=brn (decide (x.2.2.2<x.2.2.1)) (brn (decide (i64.wrap (8*x.2.2.2)<0)) none (obnd (app 1 x.1 [UInt8.ofNat (u8.wrap (x.2.1.fdiv (2^min (i64.wrap (8*x.2.2.2)).toNat 64))).toNat]) fun zs=>back (zs,x.2.1,x.2.2.1,i64.wrap (x.2.2.2+1)))) (some x.1)
def wzz:List (UInt8)×Int×Int×Int->Option (List (UInt8)):=iter ozh big
def Mzr:CutSpec tb:=⟨36,[(0,.own 5),(1,.val 276),(10,.val 3),(11,.val 3)],[((.exit 0),[(0,.own 5)])],[12,13,7,14,15,16,17,18,19,20,21,0,22,11],wzz,none⟩
theorem Iz6:A3 Tryz.f187 36 Mzr:=A4 Fzm .nil ozh
def rzD (x:List UInt8×Int×Int):Option (List (UInt8)):=obnd (bzM x.1) fun y=>obnd (wzz (y,x.2.1,x.2.2,0)) fun y=>some y
def le_putS:FSpec tb:=⟨[(0,.val 178),(1,.val 276),(2,.val 3)],[(0,.own 5)],rzD⟩
theorem szc:A0 187 le_putS:=A2 Tryz.func187 Fzm (.cons Iz6 .nil)
def zzm (x:List UInt8×Int):Option (List (UInt8)):=obnd (rzD (x.1,u64.wrap x.2,8)) fun y=>some y
def le_Put64S:FSpec tb:=⟨[(0,.val 178),(1,.val 2)],[(0,.own 5)],zzm⟩
theorem Hzg:A0 234 le_Put64S:=A1 Tryz.func234 (.cons szc .nil)
def hzZ (x:List UInt8):Option (List (UInt8)):=app 1 [] x
def dzM:FSpec tb:=⟨[(0,.val 178)],[(0,.wr 5)],hzZ⟩
theorem qzi:∀x,evFn Tryz.prog tb [(1099511627781,mutS),(1099511627783,mutS)] [] Tryz.f186 dzM.ins dzM.outs x=dzM.f x:=fun x=>Eq.trans (by kernel_rfl) (pzG 1 x)
theorem ozP:A0 186 dzM:=A1 Tryz.func186 (.consK jza (.consK jza .nil)) (hJ:=qzi)
def mzK (back:((List UInt8×Nat))->Option (((Unit)×((List UInt8×Nat)))⊕((Bool)×((List UInt8×Nat)))))(x:((List UInt8×Nat))):Option (((Unit)×((List UInt8×Nat)))⊕((Bool)×((List UInt8×Nat)))):=brn (decide (x.2<x.1.length)) (brn (decide (255<(↑(rune x.1 x.2).1:Int))) (some (Sum.inr (false,x.1,x.2+(rune x.1 x.2).2))) (back (x.1,x.2+(rune x.1 x.2).2))) (some (Sum.inl ((),x)))
def pzB:((List UInt8×Nat))->Option (((Unit)×((List UInt8×Nat)))⊕((Bool)×((List UInt8×Nat)))):=iter mzK big
def HzU:CutSpec tb:=⟨28,[(6,.iter)],[((.exit 0),[]),(.ret,[(2,.val 4)])],[7,8,9,4,10,11,2],pzB,none⟩
theorem Bz6:A3 Tryz.f227 28 HzU:=A4 .nil .nil mzK
def pzR (x:List UInt8):Option (Bool):=obnd (pzB (x,0)) fun y=>osum y (fun y=>some true) fun y=>some y.1
def CzS:FSpec tb:=⟨[(0,.val 9)],[(0,.val 4)],pzR⟩
theorem Dz9:A0 227 CzS:=A2 Tryz.func227 .nil (.cons Bz6 .nil)
abbrev str_PutG:List (Nat×FSpec tb):=[(186,dzM),(75,mzL),(227,CzS),(130,Gzn),(1099511627808,mutS)]
theorem CzT:azj Tryz.prog tb (str_PutG):=(.cons ozP (.cons hzq (.cons Dz9 (.cons tzV (.consK jza .nil)))))
def nze (back:List (UInt8)×Bool×List Int×Int×Int->Option (List (UInt8)))(x:List (UInt8)×Bool×List Int×Int×Int):Option (List (UInt8)):=brn (decide (x.2.2.2.2<x.2.2.2.1)) (obnd (idx x.2.2.1 x.2.2.2.2) fun y=>obnd (app 1 x.1 [UInt8.ofNat (u8.wrap y).toNat]) fun zs=>brn (!x.2.1) (obnd (app 1 zs [UInt8.ofNat (u8.wrap (Int.fdiv y 256)).toNat]) fun zs=>back (zs,x.2.1,x.2.2.1,x.2.2.2.1,i64.wrap (x.2.2.2.2+1))) (back (zs,x.2.1,x.2.2.1,x.2.2.2.1,i64.wrap (x.2.2.2.2+1)))) (some x.1)
def pzS:List (UInt8)×Bool×List Int×Int×Int->Option (List (UInt8)):=iter nze big
def LzM:CutSpec tb:=⟨92,[(6,.own 5),(9,.val 4),(40,.val 23),(41,.val 3),(42,.val 3)],[((.exit 0),[(6,.own 5)])],[43,44,45,11,46,47,48,49,50,6,51,52,53,54,55,56,57,58,59,42],pzS,none⟩
theorem HzV:A3 Tryz.f215 92 LzM:=A4 CzT .nil nze
def szS (x:List UInt8×List UInt8):Option (List (UInt8)×Int):=obnd (hzZ x.1) fun y=>obnd (hz5 x.2) fun y_1=>brn (!decide (y_1.2=0)) (some (y,y_1.2)) (obnd (pzR x.2) fun y_2=>obnd (app 1 y [UInt8.ofNat (u8.wrap y_1.1).toNat,UInt8.ofNat (u8.wrap (Int.fdiv y_1.1 256)).toNat,UInt8.ofNat 1]) fun zs=>brn y_2 (obnd (inb zs.length (i64.wrap ((↑zs.length:Int)-1))) fun k=>obnd (nth zs (0+k)) fun y=>obnd (jzH x.2) fun y=>obnd (pzS (zs.set (0+k) (UInt8.ofNat 0),y_2,y,(↑(List.length y):Int),0)) fun y=>some (y,0)) (obnd (jzH x.2) fun y=>obnd (pzS (zs,y_2,y,(↑(List.length y):Int),0)) fun y=>some (y,0)))
def KzT:FSpec tb:=⟨[(0,.val 178),(1,.val 9)],[(0,.own 5),(1,.val 44)],szS⟩
theorem xzR:A0 215 KzT:=A2 Tryz.func215 CzT (.cons HzV .nil)
def nzp (x:List (UInt8)×Val):Option (List (UInt8)):=brn (decide (x.2.Kind=1)) (obnd (app 1 x.1 [UInt8.ofNat 31]) fun zs=>obnd (zzm (zs,x.2.N.M)) fun y=>obnd (app 1 y [UInt8.ofNat (u8.wrap x.2.N.S).toNat]) fun zs=>some zs) (brn (decide (x.2.Kind=2)) (obnd (app 1 x.1 [UInt8.ofNat 23]) fun zs=>obnd (szS (zs,x.2.S)) fun y=>some y.1) (brn (decide (x.2.Kind=3)) (brn x.2.B (obnd (app 1 x.1 [UInt8.ofNat 29,UInt8.ofNat 1]) fun zs=>some zs) (obnd (app 1 x.1 [UInt8.ofNat 29,UInt8.ofNat 0]) fun zs=>some zs)) (obnd (app 1 x.1 [UInt8.ofNat 28,UInt8.ofNat (u8.wrap x.2.E).toNat]) fun zs=>some zs)))
def Iz8:FSpec tb:=⟨[(0,.own 5),(1,.val 85)],[(0,.own 5)],nzp⟩
theorem zzw:A0 225 Iz8:=A1 Tryz.func225 (.cons Hzg (.cons xzR .nil))
def lzZ (back:List (UInt8)×List Ref×Int×Int->Option (List (UInt8)))(x:List (UInt8)×List Ref×Int×Int):Option (List (UInt8)):=brn (decide (x.2.2.2<x.2.2.1)) (obnd (idx x.2.1 x.2.2.2) fun y=>brn y.RelRow (brn y.RelCol (obnd (app 1 x.1 [UInt8.ofNat (u8.wrap y.Row).toNat,UInt8.ofNat (u8.wrap (y.Row.fdiv 256)).toNat,UInt8.ofNat (u8.wrap y.Col).toNat,UInt8.ofNat 3]) fun zs=>back (zs,x.2.1,x.2.2.1,i64.wrap (x.2.2.2+1))) (obnd (app 1 x.1 [UInt8.ofNat (u8.wrap y.Row).toNat,UInt8.ofNat (u8.wrap (y.Row.fdiv 256)).toNat,UInt8.ofNat (u8.wrap y.Col).toNat,UInt8.ofNat 1]) fun zs=>back (zs,x.2.1,x.2.2.1,i64.wrap (x.2.2.2+1)))) (brn y.RelCol (obnd (app 1 x.1 [UInt8.ofNat (u8.wrap y.Row).toNat,UInt8.ofNat (u8.wrap (y.Row.fdiv 256)).toNat,UInt8.ofNat (u8.wrap y.Col).toNat,UInt8.ofNat 2]) fun zs=>back (zs,x.2.1,x.2.2.1,i64.wrap (x.2.2.2+1))) (obnd (app 1 x.1 [UInt8.ofNat (u8.wrap y.Row).toNat,UInt8.ofNat (u8.wrap (y.Row.fdiv 256)).toNat,UInt8.ofNat (u8.wrap y.Col).toNat,UInt8.ofNat 0]) fun zs=>back (zs,x.2.1,x.2.2.1,i64.wrap (x.2.2.2+1))))) (some x.1)
def szh:List (UInt8)×List Ref×Int×Int->Option (List (UInt8)):=iter lzZ big
def Kzw:CutSpec tb:=⟨28,[(0,.own 5),(8,.val 363),(9,.val 3),(10,.val 3)],[((.exit 0),[(0,.own 5)])],[11,12,13,6,7,14,15,16,17,18,19,20,21,22,23,24,25,26,27,28,29,30,31,32,33,34,35,0,36,10],szh,none⟩
theorem Fzx:A3 Tryz.f226 28 Kzw:=A4 .nil .nil lzZ
def lzY (x:List (UInt8)×List Ref):Option (List (UInt8)):=obnd (szh (x.1,x.2,(↑x.2.length:Int),0)) fun y=>some y
def ptg_refsS:FSpec tb:=⟨[(0,.own 5),(1,.val 363)],[(0,.own 5)],lzY⟩
theorem Hzl:A0 226 ptg_refsS:=A2 Tryz.func226 .nil (.cons Fzx .nil)
def rzp (x:List (UInt8)×Expr):Option (List (UInt8)):=brn (decide (x.2.Kind=1)) (obnd (nzp (x.1,x.2.V)) fun y=>some y) (brn (decide (x.2.Kind=2)) (obnd (app 1 x.1 [UInt8.ofNat 36]) fun zs=>obnd (lzY (zs,[x.2.A.A])) fun y=>some y) (brn (decide (x.2.Kind=3)) (obnd (app 1 x.1 [UInt8.ofNat 37]) fun zs=>obnd (lzY (zs,[x.2.A.A,x.2.A.B])) fun y=>some y) (brn (decide (x.2.Kind=4)) (obnd (app 1 x.1 [UInt8.ofNat 58,UInt8.ofNat (u8.wrap x.2.Sheet).toNat]) fun zs=>obnd (lzY (zs,[x.2.A.A])) fun y=>some y) (brn (decide (x.2.Kind=5)) (obnd (app 1 x.1 [UInt8.ofNat 59,UInt8.ofNat (u8.wrap x.2.Sheet).toNat]) fun zs=>obnd (lzY (zs,[x.2.A.A,x.2.A.B])) fun y=>some y) (brn (decide (x.2.Kind=6)) (obnd (app 1 x.1 [UInt8.ofNat 35,UInt8.ofNat (u8.wrap x.2.Op).toNat,UInt8.ofNat (u8.wrap (x.2.Op.fdiv 256)).toNat]) fun zs=>some zs) (brn (decide (x.2.Kind=7)) (obnd (idx [UInt8.ofNat 19,UInt8.ofNat 18,UInt8.ofNat 20] (i64.wrap (x.2.Op-1))) fun y=>obnd (app 1 x.1 [UInt8.ofNat (↑(UInt8.toNat y):Int).toNat]) fun zs=>some zs) (brn (decide (x.2.Kind=8)) (obnd (app 1 x.1 [UInt8.ofNat (u8.wrap (2+u8.wrap x.2.Op)).toNat]) fun zs=>some zs) (brn (decide (x.2.Kind=9)) (obnd (app 1 x.1 [UInt8.ofNat 34,UInt8.ofNat (u8.wrap (↑x.2.Kids.length:Int)).toNat,UInt8.ofNat (u8.wrap x.2.Op).toNat]) fun zs=>some zs) (obnd (app 1 x.1 [UInt8.ofNat 21]) fun zs=>some zs)))))))))
def Fzy:FSpec tb:=⟨[(0,.own 5),(1,.val 90)],[(0,.own 5)],rzp⟩
theorem Fzz:A0 214 Fzy:=A1 Tryz.func214 (.cons zzw (.cons Hzl .nil))
def izx (self:List (UInt8)×Expr->Option (List (UInt8))):FSpec tb:=⟨[(0,.own 5),(1,.val 90)],[(0,.own 5)],self⟩
abbrev Dzt (self:List (UInt8)×Expr->Option (List (UInt8))):List (Nat×FSpec tb):=[(184,(izx self)),(214,Fzy)]
theorem Czt (self:List (UInt8)×Expr->Option (List (UInt8)))(hself:azu Tryz.prog tb 184 (izx self)):azj Tryz.prog tb (Dzt self):=(.cons hself (.cons Fzz .nil))
def lzr (self:List (UInt8)×Expr->Option (List (UInt8)))(back:List (UInt8)×List Expr×Int×Int->Option (List (UInt8)))(x:List (UInt8)×List Expr×Int×Int):Option (List (UInt8)):=brn (decide (x.2.2.2<x.2.2.1)) (obnd (idx x.2.1 x.2.2.2) fun y=>obnd (self (x.1,azf y)) fun y=>back (y,x.2.1,x.2.2.1,i64.wrap (x.2.2.2+1))) (some x.1)
def uzb (self:List (UInt8)×Expr->Option (List (UInt8))):List (UInt8)×List Expr×Int×Int->Option (List (UInt8)):=iter (lzr self) big
def mz7 (self:List (UInt8)×Expr->Option (List (UInt8))):CutSpec tb:=⟨28,[(0,.own 5),(8,.val 35),(9,.val 3),(10,.val 3)],[((.exit 0),[(0,.own 5)])],[11,12,13,6,14,15,16,0,17,10],(uzb self),none⟩
theorem Iz9 (self:List (UInt8)×Expr->Option (List (UInt8))):∀back x,fzL Tryz.prog tb (Dzt self) [] (bzB 28 Tryz.f184) (mz7 self).ins (mz7 self).outs back x=lzr self back x:=fun back x=>by kernel_rfl
theorem Kzu (self:List (UInt8)×Expr->Option (List (UInt8))):cutB Tryz.f184.ntmps (mz7 self) (bzB 28 Tryz.f184)=true:=by kernel_rfl
theorem Hzk (self:List (UInt8)×Expr->Option (List (UInt8)))(hself:azu Tryz.prog tb 184 (izx self)):A3 Tryz.f184 28 (mz7 self):=A4 (Czt self hself) .nil (lzr self) (hb:=(Kzu self)) (hF:=(Iz9 self))
def izw (self:List (UInt8)×Expr->Option (List (UInt8)))(x:List (UInt8)×Expr):Option (List (UInt8)):=obnd ((uzb self) (x.1,x.2.Kids,(↑x.2.Kids.length:Int),0)) fun y=>obnd (rzp (y,azf x.2)) fun y=>some y
theorem MzB (self:List (UInt8)×Expr->Option (List (UInt8))):∀x,evFn Tryz.prog tb (Dzt self) [(mz7 self)] Tryz.f184 (izx (izw self)).ins (izx (izw self)).outs x=(izx (izw self)).f x:=fun x=>by kernel_rfl
theorem ptg_put_k (self:List (UInt8)×Expr->Option (List (UInt8))):fnK Tryz.f184 (izx (izw self)).ins (izx (izw self)).outs=true:=by kernel_rfl
theorem Kzv (self:List (UInt8)×Expr->Option (List (UInt8)))(hself:azu Tryz.prog tb 184 (izx self)):A0 184 (izx (izw self)):=A2 Tryz.func184 (Czt self hself) (.cons (Hzk self hself) .nil) (hk:=(ptg_put_k self)) (hJ:=(MzB self))
def Dzs:List (UInt8)×Expr->Option (List (UInt8)):=iter izw big
def ptg_putS:FSpec tb:=izx Dzs
theorem Jza:azu Tryz.prog tb 184 ptg_putS:=nz6 (fzE Tryz.func184 (by kernel_rfl)) Kzv
def lzq (x:Expr):Option (List (UInt8)×Int):=obnd (mz3 (azf x)) fun y=>brn (!decide (y=0)) (some ([],y)) (obnd (Dzs ([],azf x)) fun y=>brn (decide (4096<(↑(List.length y):Int))) (some ([],4)) (some (y,0)))
def Czs:FSpec tb:=⟨[(0,.val 90)],[(0,.own 5),(1,.val 44)],lzq⟩
theorem nzy:A0 131 Czs:=A1 Tryz.func131 (.cons rzY (.cons Jza .nil))
def fzf (self:Expr->Option (List (Expr))):FSpec tb:=⟨[(0,.val 90)],[(0,.own 90)],self⟩
abbrev wzm (self:Expr->Option (List (Expr))):List (Nat×FSpec tb):=[(120,yzZ),(62,(fzf self))]
theorem xzj (self:Expr->Option (List (Expr)))(hself:azu Tryz.prog tb 62 (fzf self)):azj Tryz.prog tb (wzm self):=(.cons mzR (.cons hself .nil))
def izV (self:Expr->Option (List (Expr)))(back:List (Expr)×List Expr×Int×Int->Option (List (Expr)))(x:List (Expr)×List Expr×Int×Int):Option (List (Expr)):=brn (decide (x.2.2.2<x.2.2.1)) (obnd (idx x.2.1 x.2.2.2) fun y=>obnd (self (azf y)) fun y=>obnd (app 152 x.1 y) fun zs=>back (zs,x.2.1,x.2.2.1,i64.wrap (x.2.2.2+1))) (some x.1)
def qzv (self:Expr->Option (List (Expr))):List (Expr)×List Expr×Int×Int->Option (List (Expr)):=iter (izV self) big
def kz7 (self:Expr->Option (List (Expr))):CutSpec tb:=⟨52,[(3,.own 90),(12,.val 35),(13,.val 3),(14,.val 3)],[((.exit 0),[(3,.own 90)])],[15,16,17,5,18,19,20,21,3,22,14],(qzv self),none⟩
theorem EzJ (self:Expr->Option (List (Expr))):∀back x,fzL Tryz.prog tb (wzm self) [] (bzB 52 Tryz.f62) (kz7 self).ins (kz7 self).outs back x=izV self back x:=fun back x=>by kernel_rfl
theorem GzQ (self:Expr->Option (List (Expr))):cutB Tryz.f62.ntmps (kz7 self) (bzB 52 Tryz.f62)=true:=by kernel_rfl
theorem Cz8 (self:Expr->Option (List (Expr)))(hself:azu Tryz.prog tb 62 (fzf self)):A3 Tryz.f62 52 (kz7 self):=A4 (xzj self hself) .nil (izV self) (hb:=(GzQ self)) (hF:=(EzJ self))
def fze (self:Expr->Option (List (Expr)))(x:Expr):Option (List (Expr)):=obnd (dzh (x.Kind,2,6)) fun y=>brn y (some [azf x]) (obnd ((qzv self) ([],x.Kids,(↑x.Kids.length:Int),0)) fun y=>some y)
theorem JzP (self:Expr->Option (List (Expr))):∀x,evFn Tryz.prog tb (wzm self) [(kz7 self)] Tryz.f62 (fzf (fze self)).ins (fzf (fze self)).outs x=(fzf (fze self)).f x:=fun x=>by kernel_rfl
theorem Lzp (self:Expr->Option (List (Expr))):fnK Tryz.f62 (fzf (fze self)).ins (fzf (fze self)).outs=true:=by kernel_rfl
theorem GzR (self:Expr->Option (List (Expr)))(hself:azu Tryz.prog tb 62 (fzf self)):A0 62 (fzf (fze self)):=A2 Tryz.func62 (xzj self hself) (.cons (Cz8 self hself) .nil) (hk:=(Lzp self)) (hJ:=(JzP self))
def rze:Expr->Option (List (Expr)):=iter fze big
def EzI:FSpec tb:=fzf rze
theorem tzf:azu Tryz.prog tb 62 EzI:=nz6 (fzE Tryz.func62 (by kernel_rfl)) GzR
def qzL (x:Expr):Option (Bool):=some (decide (x.Kind=6))
def qzM:FSpec tb:=⟨[(0,.val 90)],[(0,.val 4)],qzL⟩
theorem tz3:A0 132 qzM:=A1 Tryz.func132 .nil
abbrev gz6:List (Nat×FSpec tb):=[(132,qzM)]
theorem czA:azj Tryz.prog tb (gz6):=(.cons tz3 .nil)
def czB (back:List Expr×Unit×Int×Int->Option ((Unit)⊕(Int)))(x:List Expr×Unit×Int×Int):Option ((Unit)⊕(Int)):=brn (decide (x.2.2.2<x.2.2.1)) (obnd (idx x.1 x.2.2.2) fun y=>obnd (qzL (azf y)) fun y=>brn y (some (Sum.inr x.2.2.2)) (back (x.1,(),x.2.2.1,i64.wrap (x.2.2.2+1)))) (some (Sum.inl PUnit.unit))
def czC:List Expr×Unit×Int×Int->Option ((Unit)⊕(Int)):=iter czB big
def fzW:CutSpec tb:=⟨28,[(0,.val 35),(1,.fnp 132 0),(7,.val 3),(8,.val 3)],[((.exit 0),[]),(.ret,[(4,.val 3)])],[9,10,5,11,12,13,14,15,16,17,4,18,8],czC,none⟩
theorem fzq:A3 Tryz.f119 28 fzW:=A4 czA .nil czB
def cz1 (x:List Expr×Unit):Option (Int):=obnd (czC (x.1,(),(↑x.1.length:Int),0)) fun y=>osum y (fun y=>some (-1)) fun y=>some y
def gz7:FSpec tb:=⟨[(0,.val 35),(1,.fnp 132 0)],[(0,.val 3)],cz1⟩
theorem fzz:A0 119 gz7:=A2 Tryz.func119 czA (.cons fzq .nil)
def czx (x:List Expr×Unit):Option (Bool):=obnd (cz1 (x.1,())) fun y=>some (decide (0<=y))
def fzV:FSpec tb:=⟨[(0,.val 35),(1,.fnp 132 0)],[(0,.val 4)],czx⟩
theorem ez3:A0 61 fzV:=A1 Tryz.func61 (.cons fzz .nil)
def tzj (x:Expr):Option (Int):=obnd (lzq (azf x)) fun y=>brn (!decide (y.2=0)) (some y.2) (obnd (rze (azf x)) fun y=>obnd (czx (y,())) fun y=>brn y (some 3) (some 0))
def tzk:FSpec tb:=⟨[(0,.val 90)],[(0,.val 44)],tzj⟩
theorem wzp:A0 76 tzk:=A1 Tryz.func76 (.cons nzy (.cons tzf (.cons ez3 .nil)))
abbrev MzL:List (Nat×FSpec tb):=[(75,mzL)]
theorem qzJ:azj Tryz.prog tb (MzL):=(.cons hzq .nil)
def xzN (back:List (List UInt8)×Int×Int->Option ((Unit)⊕(Int)))(x:List (List UInt8)×Int×Int):Option ((Unit)⊕(Int)):=brn (decide (x.2.2<x.2.1)) (obnd (idx x.1 x.2.2) fun y=>obnd (hz5 y) fun y=>brn (!decide (y.2=0)) (some (Sum.inr y.2)) (back (x.1,x.2.1,i64.wrap (x.2.2+1)))) (some (Sum.inl PUnit.unit))
def xzO:List (List UInt8)×Int×Int->Option ((Unit)⊕(Int)):=iter xzN big
def Jzj:CutSpec tb:=⟨52,[(16,.val 22),(17,.val 3),(18,.val 3)],[((.exit 0),[]),(.ret,[(2,.val 44)])],[19,20,21,5,23,24,22,25,26,6,7,27,28,29,2,30,18],xzO,none⟩
theorem Dz4:A3 Tryz.f133 52 Jzj:=A4 qzJ .nil xzN
def xzP (back:(List (List UInt8×Bool))×List (List UInt8)×Int×Int->Option (((Unit)×(List (List UInt8×Bool)))⊕((Int)×(List (List UInt8×Bool)))))(x:(List (List UInt8×Bool))×List (List UInt8)×Int×Int):Option (((Unit)×(List (List UInt8×Bool)))⊕((Int)×(List (List UInt8×Bool)))):=brn (decide (x.2.2.2<x.2.2.1)) (obnd (idx x.2.1 x.2.2.2) fun y=>brn (iz9 keq9 false y x.1) (some (Sum.inr (7,x.1))) (back (pzJ keq9 y true x.1,x.2.1,x.2.2.1,i64.wrap (x.2.2.2+1)))) (some (Sum.inl ((),x.1)))
def xzQ:(List (List UInt8×Bool))×List (List UInt8)×Int×Int->Option (((Unit)×(List (List UInt8×Bool)))⊕((Int)×(List (List UInt8×Bool)))):=iter xzP big
def Jzk:CutSpec tb:=⟨108,[(3,.mp 9 4),(32,.val 22),(33,.val 3),(34,.val 3)],[((.exit 2),[]),(.ret,[(2,.val 44)])],[35,36,37,9,38,39,40,2,41,42,43,34],xzQ,none⟩
theorem Dz5:A3 Tryz.f133 108 Jzk:=A4 qzJ .nil xzP
def Gzj (x:Table):Option (Int):=brn (decide (1024<(↑x.Texts.length:Int))) (some 4) (obnd (xzO (x.Texts,(↑x.Texts.length:Int),0)) fun y=>osum y (fun y=>obnd (xzQ ([],x.Texts,(↑x.Texts.length:Int),0)) fun y=>osum y (fun y=>brn (decide (x.Uses<(↑x.Texts.length:Int))) (some 1) (brn (decide (2147483647<x.Uses)) (some 1) (some 0))) fun y=>some y.1) fun y=>some y)
def Gzk:FSpec tb:=⟨[(0,.val 36)],[(0,.val 44)],Gzj⟩
theorem Gzl:A0 133 Gzk:=A2 Tryz.func133 qzJ (.cons Dz4 (.cons Dz5 .nil))
def tzw (x:List UInt8×Int):Option (List (UInt8)×Int):=brn (decide (x.2<0)) (obnd (bzM x.1) fun y=>some (y,1)) (brn (decide (4294967295<x.2)) (obnd (bzM x.1) fun y=>some (y,1)) (obnd (rzD (x.1,u64.wrap x.2,4)) fun y=>some (y,0)))
def zzl:FSpec tb:=⟨[(0,.val 178),(1,.val 2)],[(0,.own 5),(1,.val 44)],tzw⟩
theorem vzb:A0 136 zzl:=A1 Tryz.func136 (.cons ezg (.cons szc .nil))
def ozU (x:List (UInt8)×List (Int)×Maker×Int):Option ((List (UInt8)×List (Int)×Bool)×Maker):=brn (decide (i64.wrap (i64.wrap ((↑x.1.length:Int)-x.2.2.1.part)+x.2.2.2)<=224)) (some ((x.1,x.2.1,false),Maker.mk x.1 x.2.1 x.2.2.1.part)) (obnd (app 8 x.2.1 [(↑x.1.length:Int)]) fun zs=>some ((x.1,zs,true),Maker.mk x.1 zs (↑x.1.length:Int)))
def tzR:FSpec tb:=⟨[(4294967296,.own 5),(8589934592,.own 3),(0,.ref 249),(1,.val 3)],[(4295000064,.own 5),(8589967360,.own 3),(0,.val 4)],ozU⟩
theorem wz3:A0 216 tzR:=A1 Tryz.func216 .nil
def mzP (x:List UInt8×Int):Option ((Int×List UInt8)):=brn (decide (x.2<1)) none (some (x.2,x.1))
def mzQ:FSpec tb:=⟨[(0,.val 178),(1,.val 3)],[(0,.val 347)],mzP⟩
theorem pzA:A0 217 mzQ:=A1 Tryz.func217 .nil
abbrev tzT:List (Nat×FSpec tb):=[(215,KzT),(216,tzR),(217,mzQ)]
theorem qzm:azj Tryz.prog tb (tzT):=(.cons xzR (.cons wz3 (.cons pzA .nil)))
def mzc (y:List UInt8)(x:List (UInt8)×List (Int)×Maker×List UInt8×Int×(Int×List UInt8)):Option (List (UInt8)×List (Int)×Maker×List UInt8×Int×(Int×List UInt8)):=obnd (ozU (x.1,x.2.1,Maker.mk x.1 x.2.1 x.2.2.1.part,x.2.2.2.2.1)) fun y_1=>brn y_1.1.2.2 (obnd (idx x.2.2.2.1 2) fun y_2=>obnd (app 1 y_1.1.1 [UInt8.ofNat (↑(UInt8.toNat y_2):Int).toNat]) fun zs=>obnd (app 1 zs y) fun zs=>some (zs,y_1.1.2.1,Maker.mk zs y_1.1.2.1 y_1.2.part,x.2.2.2.1,x.2.2.2.2)) (obnd (app 1 y_1.1.1 y) fun zs=>some (zs,y_1.1.2.1,Maker.mk zs y_1.1.2.1 y_1.2.part,x.2.2.2.1,x.2.2.2.2))
def qzo (x:List (UInt8)×List (Int)×Maker×List UInt8×Int×(Int×List UInt8)):Option ((List (UInt8)×List (Int))×Maker):=some ((x.1,x.2.1),Maker.mk x.1 x.2.1 x.2.2.1.part)
def mzd (x:List (UInt8)×List (Int)×Maker×List UInt8×Int×(Int×List UInt8)):List (List UInt8):=(chunks x.2.2.2.2.2.1.toNat x.2.2.2.2.2.2)
def qzn (x:List (UInt8)×List (Int)×Maker×List UInt8×Int×(Int×List UInt8)):Option ((List (UInt8)×List (Int))×Maker):=bif GzD x.2.2.2.2.2.1 x.2.2.2.2.2.2 then obnd (mz8 mzc (mzd x) x) qzo else none
def ezZ:CutSpec tb:=⟨70,[(4294967296,.own 5),(8589934592,.own 3),(0,.ref 249),(5,.ro 178),(8,.ro 3),(40,.val 347)],[(.normal,[(4294967296,.own 5),(8589934592,.own 3)])],[9,42,43,44,45,46,47,48,49,50,51,52,53,54,55,56,57,58,59,60,61,62,63,64,65],qzn,some (2,0)⟩
theorem yzt:zzx Tryz.f185.ntmps ezZ [(41,.val 178)] #[41] (AzB (bzT 70 Tryz.f185)) (AzC (bzT 70 Tryz.f185))=true:=by kernel_rfl
theorem wz4:∀y x,uzV Tryz.prog tb tzT (AzB (bzT 70 Tryz.f185)) (AzC (bzT 70 Tryz.f185)) [(41,.val 178)] ezZ.ins ezZ.al y x=mzc y x:=fun y x=>by kernel_rfl
theorem uzw (k:Int)(xs:List (UInt8))(i:Int)(ys:List (List UInt8)):nzo Tryz.prog tb (rzh [.sl 5 xs,.int .i64 k] [] []) [(41,.val 178)] (lbOf Tryz.f228) 4 0 i ys=brn (decide (i<(xs.length:Int))) (obnd (sub xs i xs.length) fun z=>obnd (sub3 xs i (i64.wrap (i+bif decide ((z.length:Int)<k)then(z.length:Int)else k)) (i64.wrap (i+bif decide ((z.length:Int)<k)then(z.length:Int)else k))) fun z=>some (.inl (i64.wrap (i+k),ys++[z]))) (some (.inr ys)):=by kernel_rfl
theorem vz0:∀(x:List (UInt8)×List (Int)×Maker×List UInt8×Int×(Int×List UInt8)) y,ezZ.J x=some y->∃c,(kzJ Tryz.prog tb ezZ.ins x).env 40=some (.c (.d c))/\∀g w v,tb.inv g w->RepD Tryz.prog tb g w c v->pzV Tryz.prog tb g w [(41,.val 178)] (mzd x) v:=fun x y hy=>⟨.itf 228 (some x.2.2.2.2.2.1) 5 x.2.2.2.2.2.2,by kernel_rfl,fun g w v hi hv=>iter_itf2 mixed hv (r0:=r0Of Tryz.f228) (b:=lbOf Tryz.f228) Tryz.func228 (by kernel_rfl) (by kernel_rfl) (by kernel_rfl) hi (by kernel_rfl) (by kernel_rfl) [] (by kernel_rfl) (by kernel_rfl) (i0:=0) (cs:=[]) (by kernel_rfl) (LzR (Jzv hy).1 fun i ys=>uzw _ _ i ys)⟩
theorem vzZ:bz0 Tryz.prog tb Tryz.f185.ntmps (bzT 70 Tryz.f185) ezZ:=Dzu (p:=[(41,.val 178)]) mixed yzt qzm rfl mzd vz0 mzc wz4 qzo (fun x=>by kernel_rfl) (fun _ _ h=>(Jzv h).2)
def tzS (x:List (UInt8)×List (Int)×Maker×List UInt8):Option ((List (UInt8)×List (Int)×Int)×Maker):=obnd (szS ([],x.2.2.2)) fun y=>obnd (ozU (x.1,x.2.1,Maker.mk x.1 x.2.1 x.2.2.1.part,3)) fun y_1=>obnd (sub y.1 0 3) fun z=>obnd (app 1 y_1.1.1 z) fun zs=>obnd (idx y.1 2) fun y_2=>obnd (sub y.1 3 (↑(List.length y.1):Int)) fun z=>obnd (mzP (z,i64.wrap (1+i64.wrap (↑(UInt8.toNat y_2):Int)))) fun y_3=>obnd (qzn (zs,y_1.1.2.1,Maker.mk zs y_1.1.2.1 y_1.2.part,y.1,i64.wrap (1+i64.wrap (↑(UInt8.toNat y_2):Int)),y_3)) fun y=>some ((y.1.1,y.1.2,(↑(List.length y_1.1.1):Int)),Maker.mk y.1.1 y.1.2 y.2.part)
def tzU:FSpec tb:=⟨[(4294967296,.own 5),(8589934592,.own 3),(0,.ref 249),(1,.val 9)],[(4295000064,.own 5),(8589967360,.own 3),(0,.val 3)],tzS⟩
theorem wz5:A0 185 tzU:=A2 Tryz.func185 qzm (.cons vzZ .nil)
abbrev sst_madeG:List (Nat×FSpec tb):=[(136,zzl),(185,tzU)]
theorem Azp:azj Tryz.prog tb (sst_madeG):=(.cons vzb (.cons wz5 .nil))
def Azq (back:List (UInt8)×List (Int)×Maker×List (Int)×List (List UInt8)×Int×Int->Option ((List (UInt8)×List (Int)×List (Int))×Maker))(x:List (UInt8)×List (Int)×Maker×List (Int)×List (List UInt8)×Int×Int):Option ((List (UInt8)×List (Int)×List (Int))×Maker):=brn (decide (x.2.2.2.2.2.2<x.2.2.2.2.2.1)) (obnd (idx x.2.2.2.2.1 x.2.2.2.2.2.2) fun y=>obnd (tzS (x.1,x.2.1,Maker.mk x.1 x.2.1 x.2.2.1.part,y)) fun y=>obnd (app 8 x.2.2.2.1 [y.1.2.2]) fun zs=>back (y.1.1,y.1.2.1,Maker.mk y.1.1 y.1.2.1 y.2.part,zs,x.2.2.2.2.1,x.2.2.2.2.2.1,i64.wrap (x.2.2.2.2.2.2+1))) (some ((x.1,x.2.1,x.2.2.2.1),Maker.mk x.1 x.2.1 x.2.2.1.part))
def Azr:List (UInt8)×List (Int)×Maker×List (Int)×List (List UInt8)×Int×Int->Option ((List (UInt8)×List (Int)×List (Int))×Maker):=iter Azq big
def KzS:CutSpec tb:=⟨60,[(4294967300,.own 5),(8589934596,.own 3),(4,.ref 249),(5,.own 3),(26,.val 22),(27,.val 3),(28,.val 3)],[((.exit 0),[(4294967300,.own 5),(8589934596,.own 3),(5,.own 3)])],[29,30,31,7,32,33,34,35,36,5,37,28],Azr,none⟩
theorem Gzm:A3 Tryz.f134 60 KzS:=A4 Azp .nil Azq
def IzC (x:Table):Option (Maker×List (Int)):=obnd (tzw ([],x.Uses)) fun y=>obnd (tzw (y.1,(↑x.Texts.length:Int))) fun y=>obnd (Azr (y.1,[],Maker.mk y.1 [] 0,[],x.Texts,(↑x.Texts.length:Int),0)) fun y=>some (Maker.mk y.1.1 y.1.2.1 y.2.part,y.1.2.2)
def IzD:FSpec tb:=⟨[(0,.val 36)],[(0,.val 249),(1,.own 3)],IzC⟩
theorem HzT:A0 134 IzD:=A2 Tryz.func134 Azp (.cons Gzm .nil)
def tzB (x:Unit):Option (Int):=some 4
def FzE:CutSpec tb:=⟨185,[],[(.ret,[(2,.val 44)])],[2],tzB,none⟩
theorem Bzk:bzd ([]:List (CutSpec tb)) (mz9 (bzl 21 Tryz.f135) 0)=[]:=by kernel_rfl
theorem zzz:bz5 Tryz.prog tb Tryz.f135.ntmps (bzl 21 Tryz.f135) 0 FzE:=lzS mixed (by kernel_rfl) (by kernel_rfl) .nil rfl Bzk .nil .nil (fun x=>by kernel_rfl)
def xzs (back:Rec×Int×List Int×Int×Int->Option ((Unit)⊕(Int)))(x:Rec×Int×List Int×Int×Int):Option ((Unit)⊕(Int)):=brn (decide (x.2.2.2.2<x.2.2.2.1)) (obnd (idx x.2.2.1 x.2.2.2.2) fun y=>brn (decide (y<=x.2.1)) (some (Sum.inr 6)) (brn (decide ((↑x.1.Data.length:Int)<=y)) (some (Sum.inr 6)) (back (x.1,y,x.2.2.1,x.2.2.2.1,i64.wrap (x.2.2.2.2+1))))) (some (Sum.inl PUnit.unit))
def xzt:Rec×Int×List Int×Int×Int->Option ((Unit)⊕(Int)):=iter xzs big
def xzr:CutSpec tb:=⟨68,[(1,.ro 180),(3,.val 3),(26,.val 23),(27,.val 3),(28,.val 3)],[((.exit 0),[]),(.ret,[(2,.val 44)])],[29,30,31,5,32,33,34,35,36,37,38,39,40,41,2,42,3,43,28],xzt,none⟩
theorem Dzv:A3 Tryz.f135 68 xzr:=A4 .nil .nil xzs
def xzv (back:Int×List Int×Int×Int->Option ((Int)⊕(Unit)))(x:Int×List Int×Int×Int):Option ((Int)⊕(Unit)):=brn (decide (x.2.2.2<x.2.2.1)) (obnd (idx x.2.1 x.2.2.2) fun y=>brn (decide (224<i64.wrap (y-x.1))) (some (Sum.inr PUnit.unit)) (back (y,x.2.1,x.2.2.1,i64.wrap (x.2.2.2+1)))) (some (Sum.inl x.1))
def xzw:Int×List Int×Int×Int->Option ((Int)⊕(Unit)):=iter xzv big
def xzu:CutSpec tb:=⟨132,[(3,.val 3),(45,.val 23),(46,.val 3),(47,.val 3)],[((.exit 2),[(3,.val 3)]),((.goto 0),[])],[48,49,50,7,51,52,53,54,55,3,56,47],xzw,none⟩
theorem Dzw:A3 Tryz.f135 132 xzu:=A4 .nil .nil xzv
def xzx (x:Rec):Option ((Unit)⊕(Int)):=brn (decide (x.Type_<0)) (some (Sum.inr 1)) (brn (decide (65535<x.Type_)) (some (Sum.inr 1)) (brn (decide (x.Type_=60)) (some (Sum.inr 1)) (brn (decide (65536<(↑x.Data.length:Int))) (some (Sum.inr 4)) (obnd (xzt (x,0,x.Cuts,(↑x.Cuts.length:Int),0)) fun y=>osum y (fun y=>obnd (xzw (0,x.Cuts,(↑x.Cuts.length:Int),0)) fun y=>osum y (fun y=>brn (decide (i64.wrap ((↑x.Data.length:Int)-y)<=224)) (some (Sum.inr 0)) (some (Sum.inr 4))) fun y=>obnd (tzB ()) fun y=>some (Sum.inr y)) fun y=>some (Sum.inr y)))))
def Jzb:CutSpec tb:=⟨21,[(1,.ro 180)],[(.normal,[]),(.ret,[(2,.val 44)])],[3,8,9,10,11,12,13,14,15,16,17,18,19,20,2,21,22,23,24,25,26,27,28,29,30,31,5,32,33,34,35,36,37,38,39,40,41,42,43,44,45,46,47,48,49,50,7,51,52,53,54,55,56,57,58,59,60,61,62],xzx,none⟩
theorem FzF:bzd ([xzr,xzu]:List (CutSpec tb)) (bzl 21 Tryz.f135)=[(68,.loop (bzB 68 Tryz.f135)),(132,.loop (bzB 132 Tryz.f135))]:=by kernel_rfl
theorem Dzx:bz0 Tryz.prog tb Tryz.f135.ntmps (.scope (bzl 21 Tryz.f135)) Jzb:=pzv mixed (by kernel_rfl) .nil rfl FzF (.cons rfl Dzv rfl (.cons rfl Dzw rfl .nil)) (.cons zzz rfl .nil) (fun x=>by kernel_rfl)
def FzC (x:Rec):Option (Int):=obnd (xzx x) fun y=>osum y (fun y=>none) fun y=>some y
def FzD:FSpec tb:=⟨[(0,.val 180)],[(0,.val 44)],FzC⟩
theorem FzG:A0 135 FzD:=A2 Tryz.func135 .nil (.cons Dzx .nil)
abbrev rec_CutG:List (Nat×FSpec tb):=[(186,dzb)]
theorem Czx:azj Tryz.prog tb (rec_CutG):=(.cons ezg .nil)
def Czy (back:List (Int)×Rec×Rec×Int->Option ((List (Int))×Rec))(x:List (Int)×Rec×Rec×Int):Option ((List (Int))×Rec):=brn (decide (x.2.2.2<(↑x.2.1.Data.length:Int))) (obnd (app 8 x.1 [x.2.2.2]) fun zs=>back (zs,x.2.1,Rec.mk x.2.2.1.Type_ x.2.2.1.Data zs x.2.2.1.At,i64.wrap (x.2.2.2+224))) (some (x.1,Rec.mk x.2.2.1.Type_ x.2.2.1.Data x.1 x.2.2.1.At))
def Czz:List (Int)×Rec×Rec×Int->Option ((List (Int))×Rec):=iter Czy big
def LzA:CutSpec tb:=⟨36,[(12884901891,.own 3),(1,.ro 180),(3,.ref 180),(4,.val 3)],[((.exit 0),[(12884901891,.own 3)])],[13,14,15,16,17,20,21,22,23,24,25,18,19,4],Czz,none⟩
theorem Hzm:A3 Tryz.f137 36 LzA:=A4 Czx .nil Czy
def Dzy (x:Rec):Option (Rec):=obnd (bzM x.Data) fun y=>obnd (Czz ([],x,Rec.mk x.Type_ y [] x.At,224)) fun y=>some (Rec.mk y.2.Type_ y.2.Data y.1 y.2.At)
def Dzz:FSpec tb:=⟨[(0,.val 180)],[(0,.val 180)],Dzy⟩
theorem xzy:A0 137 Dzz:=A2 Tryz.func137 Czx (.cons Hzm .nil)
abbrev LzJ:List (Nat×FSpec tb):=[(133,Gzk),(134,IzD),(135,FzD),(136,zzl),(137,Dzz)]
theorem mzJ:azj Tryz.prog tb (LzJ):=(.cons Gzl (.cons HzT (.cons FzG (.cons vzb (.cons xzy .nil)))))
def nzJ (x:Rec×Rec×Int):Option ((Int)×(Rec×Rec)):=some (x.2.2,Rec.mk 0 [] [] 0,Rec.mk 0 [] [] 0)
def Dz6:CutSpec tb:=⟨145,[(2,.ref 180),(3,.ref 180),(4,.val 44)],[(.ret,[(4,.val 44)])],[51,52,53,4],nzJ,none⟩
theorem Azo:bzd ([]:List (CutSpec tb)) (mz9 (bzl 21 Tryz.f77) 0)=[]:=by kernel_rfl
theorem yzs:bz5 Tryz.prog tb Tryz.f77.ntmps (bzl 21 Tryz.f77) 0 Dz6:=lzS mixed (by kernel_rfl) (by kernel_rfl) mzJ rfl Azo .nil .nil (fun x=>by kernel_rfl)
def vzW (back:Rec×List Int×Int×Int->Option ((Unit)×Rec))(x:Rec×List Int×Int×Int):Option ((Unit)×Rec):=brn (decide (x.2.2.2<x.2.2.1)) (obnd (idx x.2.1 x.2.2.2) fun y=>brn (decide (x.2.2.2.tmod 8=0)) (obnd (tzw (x.1.Data,y)) fun y=>back (Rec.mk x.1.Type_ y.1 x.1.Cuts x.1.At,x.2.1,x.2.2.1,i64.wrap (x.2.2.2+1))) (back (x.1,x.2.1,x.2.2.1,i64.wrap (x.2.2.2+1)))) (some ((),x.1))
def vzX:Rec×List Int×Int×Int->Option ((Unit)×Rec):=iter vzW big
def vzV:CutSpec tb:=⟨100,[(3,.ref 180),(29,.val 23),(30,.val 3),(31,.val 3)],[((.exit 0),[])],[32,33,34,35,7,8,36,37,38,40,41,42,43,39,44,45,46,47,31],vzX,none⟩
theorem Bz4:A3 Tryz.f77 100 vzV:=A4 mzJ .nil vzW
def vzY (x:Table×Rec×Rec):Option (((Unit)×(Rec×Rec))⊕((Int)×(Rec×Rec))):=obnd (Gzj x.1) fun y=>brn (!decide (y=0)) (obnd (nzJ (x.2.1,x.2.2,y)) fun y=>some (Sum.inr (y.1,y.2))) (obnd (IzC x.1) fun y=>obnd (FzC (Rec.mk 252 y.1.b y.1.cuts 0)) fun y_1=>brn (!decide (y_1=0)) (obnd (nzJ (Rec.mk 252 y.1.b y.1.cuts 0,x.2.2,y_1)) fun y=>some (Sum.inr (y.1,y.2))) (obnd (vzX (Rec.mk 255 [UInt8.ofNat 8,UInt8.ofNat 0] [] 0,y.2,(↑(List.length y.2):Int),0)) fun y_2=>obnd (Dzy y_2.2) fun y_3=>some (Sum.inr (0,Rec.mk 252 y.1.b y.1.cuts 0,y_3))))
def HzS:CutSpec tb:=⟨21,[(1,.ro 36),(2,.ref 180),(3,.ref 180)],[(.normal,[]),(.ret,[(4,.val 44)])],[5,6,9,10,4,11,12,14,15,13,16,17,18,19,20,21,22,23,24,25,26,27,28,29,30,31,32,33,34,35,7,8,36,37,38,40,41,42,43,39,44,45,46,47,48,49,50,51,52,53],vzY,none⟩
theorem Dz7:bzd ([vzV]:List (CutSpec tb)) (bzl 21 Tryz.f77)=[(100,.loop (bzB 100 Tryz.f77))]:=by kernel_rfl
theorem Bz5:bz0 Tryz.prog tb Tryz.f77.ntmps (.scope (bzl 21 Tryz.f77)) HzS:=pzv mixed (by kernel_rfl) mzJ rfl Dz7 (.cons rfl Bz4 rfl .nil) (.cons yzs rfl .nil) (fun x=>by kernel_rfl)
def uzv (x:Table):Option (Rec×Rec×Int):=obnd (vzY (x,Rec.mk 0 [] [] 0,Rec.mk 0 [] [] 0)) fun y=>osum y (fun y=>none) fun y=>some (y.2.1,y.2.2,y.1)
def CzR:FSpec tb:=⟨[(0,.val 36)],[(0,.val 180),(1,.val 180),(2,.val 44)],uzv⟩
theorem Dz8:A0 77 CzR:=A2 Tryz.func77 mzJ (.cons Bz5 .nil)
def Izn (x:List UInt8×Int):Option (List (UInt8)×Int):=brn (decide (x.2<0)) (obnd (bzM x.1) fun y=>some (y,1)) (brn (decide (65535<x.2)) (obnd (bzM x.1) fun y=>some (y,1)) (obnd (rzD (x.1,u64.wrap x.2,2)) fun y=>some (y,0)))
def Izo:FSpec tb:=⟨[(0,.val 178),(1,.val 3)],[(0,.own 5),(1,.val 44)],Izn⟩
theorem Hzf:A0 138 Izo:=A1 Tryz.func138 (.cons ezg (.cons szc .nil))
abbrev IzL:List (Nat×FSpec tb):=[(138,Izo),(111,zz3),(137,Dzz)]
theorem rzO:azj Tryz.prog tb (IzL):=(.cons Hzf (.cons kzA (.cons xzy .nil)))
def rzP (back:Rec×List (UInt8)×List Place×Int×Int->Option (((List (UInt8))×Rec)⊕((Int)×Rec)))(x:Rec×List (UInt8)×List Place×Int×Int):Option (((List (UInt8))×Rec)⊕((Int)×Rec)):=brn (decide (x.2.2.2.2<x.2.2.2.1)) (obnd (idx x.2.2.1 x.2.2.2.2) fun y=>brn (decide (y.Sheet<0)) (some (Sum.inr (12,Rec.mk 0 [] [] 0))) (brn (decide (8<=y.Sheet)) (some (Sum.inr (12,Rec.mk 0 [] [] 0))) (obnd (jzr y.At) fun y_1=>brn (!y_1) (some (Sum.inr (12,Rec.mk 0 [] [] 0))) (obnd (app 1 x.2.1 [UInt8.ofNat (u8.wrap y.Sheet).toNat,UInt8.ofNat (u8.wrap y.At.Row).toNat,UInt8.ofNat (u8.wrap (y.At.Row.fdiv 256)).toNat,UInt8.ofNat (u8.wrap y.At.Col).toNat]) fun zs=>back (x.1,zs,x.2.2.1,x.2.2.2.1,i64.wrap (x.2.2.2.2+1)))))) (some (Sum.inl (x.2.1,x.1)))
def rzQ:Rec×List (UInt8)×List Place×Int×Int->Option (((List (UInt8))×Rec)⊕((Int)×Rec)):=iter rzP big
def Cz2:CutSpec tb:=⟨52,[(2,.ref 180),(4,.own 5),(18,.val 37),(19,.val 3),(20,.val 3)],[((.exit 0),[(4,.own 5)]),(.ret,[(3,.val 44)])],[21,22,23,7,24,25,26,27,28,29,30,31,32,33,34,35,36,37,38,3,39,40,41,42,43,44,45,46,47,48,49,50,51,52,53,54,55,56,57,4,58,20],rzQ,none⟩
theorem xzU:A3 Tryz.f78 52 Cz2:=A4 rzO .nil rzP
def qzr (x:List Place):Option (Rec×Int):=brn (decide (4096<(↑x.length:Int))) (some (Rec.mk 0 [] [] 0,4)) (obnd (Izn ([],(↑x.length:Int))) fun y=>obnd (rzQ (Rec.mk 0 [] [] 0,y.1,x,(↑x.length:Int),0)) fun y=>osum y (fun y=>obnd (Dzy (Rec.mk 6247 y.1 [] 0)) fun y=>some (y,0)) fun y=>some (y.2,y.1))
def xzf:FSpec tb:=⟨[(0,.val 37)],[(0,.val 180),(1,.val 44)],qzr⟩
theorem yzJ:A0 78 xzf:=A2 Tryz.func78 rzO (.cons xzU .nil)
abbrev Lzs:List (Nat×FSpec tb):=[(74,qzO),(75,mzL),(76,tzk),(77,CzR),(78,xzf)]
theorem jz8:azj Tryz.prog tb (Lzs):=(.cons tz4 (.cons hzq (.cons wzp (.cons Dz8 (.cons yzJ .nil)))))
def uz0 (x:Globals):Option (Bool):=brn (decide ((↑x.Sheets.length:Int)<1)) (some true) (brn (decide (8<(↑x.Sheets.length:Int))) (some true) (brn (decide (64<(↑x.Formats.length:Int))) (some true) (brn (decide (256<(↑x.XFs.length:Int))) (some true) (some (decide (1024<(↑x.Names.length:Int)))))))
def GzW:CutSpec tb:=⟨16,[(1,.ro 39)],[(.normal,[(45,.val 4)])],[18,19,20,21,22,23,24,25,26,27,28,29,30,31,32,33,34,35,36,37,38,39,40,41,42,43,44,45],(uz0),none⟩
theorem Bza:A5 Tryz.f34 16 GzW:=A6 jz8 .nil
def uz1 (back:List (List UInt8)×Int×Int->Option ((Unit)⊕(Int)))(x:List (List UInt8)×Int×Int):Option ((Unit)⊕(Int)):=brn (decide (x.2.2<x.2.1)) (obnd (idx x.1 x.2.2) fun y=>obnd (hz5 y) fun y=>brn (!decide (y.2=0)) (some (Sum.inr y.2)) (back (x.1,x.2.1,i64.wrap (x.2.2+1)))) (some (Sum.inl PUnit.unit))
def uz2:List (List UInt8)×Int×Int->Option ((Unit)⊕(Int)):=iter uz1 big
def GzX:CutSpec tb:=⟨68,[(53,.val 22),(54,.val 3),(55,.val 3)],[((.exit 0),[]),(.ret,[(2,.val 44)])],[56,57,58,5,60,61,59,62,63,6,7,64,65,66,2,67,55],uz2,none⟩
theorem Bzb:A3 Tryz.f34 68 GzX:=A4 jz8 .nil uz1
def uz3 (back:Globals×List Int×Int×Int->Option ((Unit)⊕(Int)))(x:Globals×List Int×Int×Int):Option ((Unit)⊕(Int)):=brn (decide (x.2.2.2<x.2.2.1)) (obnd (idx x.2.1 x.2.2.2) fun y=>brn (decide (y<0)) (some (Sum.inr 1)) (brn (decide ((bif decide ((↑x.1.Formats.length:Int)<1)then 1 else(↑x.1.Formats.length:Int))<=y)) (some (Sum.inr 1)) (back (x.1,x.2.1,x.2.2.1,i64.wrap (x.2.2.2+1))))) (some (Sum.inl PUnit.unit))
def uz4:Globals×List Int×Int×Int->Option ((Unit)⊕(Int)):=iter uz3 big
def GzY:CutSpec tb:=⟨124,[(1,.ro 39),(69,.val 23),(70,.val 3),(71,.val 3)],[((.exit 2),[]),(.ret,[(2,.val 44)])],[72,73,74,9,75,76,77,78,79,80,81,82,83,84,2,85,71],uz4,none⟩
theorem Bzc:A3 Tryz.f34 124 GzY:=A4 jz8 .nil uz3
def uz5 (back:List Expr×Int×Int->Option ((Unit)⊕(Int)))(x:List Expr×Int×Int):Option ((Unit)⊕(Int)):=brn (decide (x.2.2<x.2.1)) (obnd (idx x.1 x.2.2) fun y=>obnd (tzj (azf y)) fun y=>brn (!decide (y=0)) (some (Sum.inr y)) (back (x.1,x.2.1,i64.wrap (x.2.2+1)))) (some (Sum.inl PUnit.unit))
def uz6:List Expr×Int×Int->Option ((Unit)⊕(Int)):=iter uz5 big
def GzZ:CutSpec tb:=⟨172,[(87,.val 35),(88,.val 3),(89,.val 3)],[((.exit 4),[]),(.ret,[(2,.val 44)])],[90,91,92,11,93,94,12,95,96,97,2,98,89],uz6,none⟩
theorem Bzd:A3 Tryz.f34 172 GzZ:=A4 jz8 .nil uz5
def Czl (x:Globals):Option (Int):=obnd (uz0 x) fun y=>brn y (some 4) (obnd (qzN x.Sheets) fun y=>brn (!decide (y=0)) (some y) (obnd (uz2 (x.Formats,(↑x.Formats.length:Int),0)) fun y=>osum y (fun y=>obnd (uz4 (x,x.XFs,(↑x.XFs.length:Int),0)) fun y=>osum y (fun y=>obnd (uz6 (x.Names,(↑x.Names.length:Int),0)) fun y=>osum y (fun y=>brn (decide ((↑x.Texts.Texts.length:Int)=0)) (brn (!decide (x.Texts.Uses=0)) (some 1) (obnd (uzv x.Texts) fun y=>brn (!decide (y.2.2=0)) (some y.2.2) (obnd (qzr x.Chain) fun y=>some y.2))) (obnd (uzv x.Texts) fun y=>brn (!decide (y.2.2=0)) (some y.2.2) (obnd (qzr x.Chain) fun y=>some y.2))) fun y=>some y) fun y=>some y) fun y=>some y))
def Czm:FSpec tb:=⟨[(0,.val 39)],[(0,.val 44)],Czl⟩
theorem Dzc:A0 34 Czm:=A2 Tryz.func34 jz8 (.cons Bza (.cons Bzb (.cons Bzc (.cons Bzd .nil))))
def oz3 (back:List Row×List Row×Int×Int->Option ((Unit)⊕(Int)))(x:List Row×List Row×Int×Int):Option ((Unit)⊕(Int)):=brn (decide (x.2.2.2<x.2.2.1)) (obnd (idx x.2.1 x.2.2.2) fun y=>brn (decide (y.Row<0)) (some (Sum.inr 12)) (brn (decide (65536<=y.Row)) (some (Sum.inr 12)) (brn (decide (y.Height<0)) (some (Sum.inr 1)) (brn (decide (32767<y.Height)) (some (Sum.inr 1)) (brn (decide (0<x.2.2.2)) (obnd (idx x.1 (i64.wrap (x.2.2.2-1))) fun y_1=>brn (decide (y.Row<=y_1.Row)) (some (Sum.inr 6)) (back (x.1,x.2.1,x.2.2.1,i64.wrap (x.2.2.2+1)))) (back (x.1,x.2.1,x.2.2.1,i64.wrap (x.2.2.2+1)))))))) (some (Sum.inl PUnit.unit))
def oz4:List Row×List Row×Int×Int->Option ((Unit)⊕(Int)):=iter oz3 big
def yzq:CutSpec tb:=⟨44,[(0,.val 97),(8,.val 97),(9,.val 3),(10,.val 3)],[((.exit 0),[]),(.ret,[(2,.val 44)])],[11,12,13,14,4,3,16,17,18,19,20,21,22,23,15,2,25,26,27,28,29,30,31,32,24,34,35,36,37,38,39,40,41,42,43,44,45,46,33,47,10],oz4,none⟩
theorem uzu:A3 Tryz.f79 44 yzq:=A4 .nil .nil oz3
def szM (x:List Row):Option (Int):=brn (decide (4096<(↑x.length:Int))) (some 4) (obnd (oz4 (x,x,(↑x.length:Int),0)) fun y=>osum y (fun y=>some 0) fun y=>some y)
def Dz0:FSpec tb:=⟨[(0,.val 97)],[(0,.val 44)],szM⟩
theorem vzN:A0 79 Dz0:=A2 Tryz.func79 .nil (.cons uzu .nil)
def yzE (x:Cell2):Option (Int):=obnd (jzr x.At) fun y=>brn (!y) (some 12) (brn (decide (x.XF<0)) (some 1) (brn (decide (255<x.XF)) (some 1) (obnd (mzM x.V) fun y=>brn (!decide (y=0)) (some y) (brn (!x.Has) (obnd (kzL (azf x.E,Expr.mk 0 (Val.mk 0 (Dec.mk 0 0) [] false 0) (Area.mk (Ref.mk 0 0 false false) (Ref.mk 0 0 false false)) 0 0 [])) fun y=>brn (!y) (some 1) (some 0)) (obnd (lzq (azf x.E)) fun y=>brn (!decide (y.2=0)) (some y.2) (brn (decide (x.V.Kind=0)) (some 1) (some 0)))))))
def yzG:FSpec tb:=⟨[(0,.val 108)],[(0,.val 44)],yzE⟩
theorem Az1:A0 139 yzG:=A1 Tryz.func139 (.cons kzA (.cons ozX (.cons hzk (.cons nzy .nil))))
def yzH (x:Cell×Cell):Option (Int):=obnd (bzH (x.1.Row,x.2.Row)) fun y=>obnd (bzH (x.1.Col,x.2.Col)) fun y_1=>obnd (jzJ [y,y_1]) fun y=>some y
def yzI:FSpec tb:=⟨[(0,.val 80),(1,.val 80)],[(0,.val 3)],yzH⟩
theorem Az2:A0 140 yzI:=A1 Tryz.func140 (.cons hzj (.cons kzK .nil))
abbrev EzA:List (Nat×FSpec tb):=[(139,yzG),(140,yzI)]
theorem pzZ:azj Tryz.prog tb (EzA):=(.cons Az1 (.cons Az2 .nil))
def pz0 (back:List Cell2×List Cell2×Int×Int->Option ((Unit)⊕(Int)))(x:List Cell2×List Cell2×Int×Int):Option ((Unit)⊕(Int)):=brn (decide (x.2.2.2<x.2.2.1)) (obnd (idx x.2.1 x.2.2.2) fun y=>obnd (yzE (Cell2.mk y.At y.XF y.V y.Has (azf y.E))) fun y_1=>brn (!decide (y_1=0)) (some (Sum.inr y_1)) (brn (decide (0<x.2.2.2)) (obnd (idx x.1 (i64.wrap (x.2.2.2-1))) fun y_2=>obnd (yzH (y_2.At,y.At)) fun y=>brn (decide (0<=y)) (some (Sum.inr 6)) (back (x.1,x.2.1,x.2.2.1,i64.wrap (x.2.2.2+1)))) (back (x.1,x.2.1,x.2.2.1,i64.wrap (x.2.2.2+1))))) (some (Sum.inl PUnit.unit))
def pz1:List Cell2×List Cell2×Int×Int->Option ((Unit)⊕(Int)):=iter pz0 big
def yzF:CutSpec tb:=⟨44,[(0,.val 98),(9,.val 98),(10,.val 3),(11,.val 3)],[((.exit 0),[]),(.ret,[(2,.val 44)])],[12,13,14,15,4,3,16,17,5,18,19,20,2,21,22,23,24,25,26,27,28,29,30,31,32,33,34,35,11],pz1,none⟩
theorem uzO:A3 Tryz.f80 44 yzF:=A4 pzZ .nil pz0
def tza (x:List Cell2):Option (Int):=brn (decide (4096<(↑x.length:Int))) (some 4) (obnd (pz1 (x,x,(↑x.length:Int),0)) fun y=>osum y (fun y=>some 0) fun y=>some y)
def EzB:FSpec tb:=⟨[(0,.val 98)],[(0,.val 44)],tza⟩
theorem wzd:A0 80 EzB:=A2 Tryz.func80 pzZ (.cons uzO .nil)
abbrev KzQ:List (Nat×FSpec tb):=[(111,zz3),(131,Czs)]
theorem tzN:azj Tryz.prog tb (KzQ):=(.cons kzA (.cons nzy .nil))
def tzO (x:Group×Int×Int):Option ((Unit)⊕(Int)):=obnd (jzr x.1.A) fun y=>brn (!y) (some (Sum.inr 12)) (obnd (jzr x.1.B) fun y=>brn (!y) (some (Sum.inr 12)) (brn (decide (x.2.1<1)) (some (Sum.inr 12)) (brn (decide (x.2.2<1)) (some (Sum.inr 12)) (brn (decide (1024<i64.wrap (x.2.1*x.2.2))) (some (Sum.inr 13)) (brn (!x.1.Array) (brn (!decide (x.2.2=1)) (some (Sum.inr 13)) (brn (decide (x.2.1<2)) (some (Sum.inr 13)) (some (Sum.inl PUnit.unit)))) (some (Sum.inl PUnit.unit)))))))
def Gzc:CutSpec tb:=⟨27,[(1,.ro 141),(3,.val 3),(4,.val 3)],[(.normal,[]),(.ret,[(2,.val 44)])],[24,25,26,27,28,29,30,31,32,33,34,35,36,37,38,39,40,41,23,2,43,44,45,46,47,48,49,50,51,52,53,54,55,56,57,58,59,42],(tzO),none⟩
theorem Azc:A5 Tryz.f188 27 Gzc:=A6 tzN .nil
def Aza (x:Group):Option (Int):=obnd (tzO (Group.mk x.Array x.A x.B (azf x.E),i64.wrap (i64.wrap (x.B.Row-x.A.Row)+1),i64.wrap (i64.wrap (x.B.Col-x.A.Col)+1))) fun y=>osum y (fun y=>obnd (lzq (azf x.E)) fun y=>some y.2) fun y=>some y
def Azb:FSpec tb:=⟨[(0,.val 141)],[(0,.val 44)],Aza⟩
theorem BzV:A0 188 Azb:=A2 Tryz.func188 tzN (.cons Azc .nil)
def vzH (x:Group×Group):Option (Bool):=brn (decide ((bif decide (x.1.A.Row<x.2.A.Row)then x.2.A.Row else x.1.A.Row)<=bif decide (x.2.B.Row<x.1.B.Row)then x.2.B.Row else x.1.B.Row)) (some (decide ((bif decide (x.1.A.Col<x.2.A.Col)then x.2.A.Col else x.1.A.Col)<=bif decide (x.2.B.Col<x.1.B.Col)then x.2.B.Col else x.1.B.Col))) (some false)
def vzI:FSpec tb:=⟨[(0,.val 141),(1,.val 141)],[(0,.val 4)],vzH⟩
theorem yzp:A0 189 vzI:=A1 Tryz.func189 .nil
abbrev Gzb:List (Nat×FSpec tb):=[(188,Azb),(189,vzI)]
theorem jzt:azj Tryz.prog tb (Gzb):=(.cons BzV (.cons yzp .nil))
def qzc (back:List Group×Int×Int->Option ((Unit)⊕(Int)))(x:List Group×Int×Int):Option ((Unit)⊕(Int)):=brn (decide (x.2.2<x.2.1)) (obnd (idx x.1 x.2.2) fun y=>obnd (Aza (Group.mk y.Array y.A y.B (azf y.E))) fun y=>brn (!decide (y=0)) (some (Sum.inr y)) (back (x.1,x.2.1,i64.wrap (x.2.2+1)))) (some (Sum.inl PUnit.unit))
def qzd:List Group×Int×Int->Option ((Unit)⊕(Int)):=iter qzc big
def zz7:CutSpec tb:=⟨28,[(10,.val 99),(11,.val 3),(12,.val 3)],[((.exit 0),[]),(.ret,[(2,.val 44)])],[13,14,15,4,16,17,5,18,19,20,2,21,12],qzd,none⟩
theorem vzE:A3 Tryz.f141 28 zz7:=A4 jzt .nil qzc
def qzg (back:Group×List Group×Int×Int->Option ((Unit)⊕(Int)))(x:Group×List Group×Int×Int):Option ((Unit)⊕(Int)):=brn (decide (x.2.2.2<x.2.2.1)) (obnd (idx x.2.1 x.2.2.2) fun y=>obnd (vzH (Group.mk x.1.Array x.1.A x.1.B (azf x.1.E),Group.mk y.Array y.A y.B (azf y.E))) fun y=>brn y (some (Sum.inr 13)) (back (Group.mk x.1.Array x.1.A x.1.B (azf x.1.E),x.2.1,x.2.2.1,i64.wrap (x.2.2.2+1)))) (some (Sum.inl PUnit.unit))
def qzh:Group×List Group×Int×Int->Option ((Unit)⊕(Int)):=iter qzg big
def zz9:CutSpec tb:=⟨108,[(7,.ro 141),(32,.val 99),(33,.val 3),(34,.val 3)],[((.exit 4),[]),(.ret,[(2,.val 44)])],[35,36,37,9,38,39,40,2,41,34],qzh,none⟩
theorem vzG:A3 Tryz.f141 108 zz9:=A4 jzt .nil qzg
def qze (back:List Group×List Group×Int×Int->Option ((Unit)⊕(Int)))(x:List Group×List Group×Int×Int):Option ((Unit)⊕(Int)):=brn (decide (x.2.2.2<x.2.2.1)) (obnd (idx x.2.1 x.2.2.2) fun y=>obnd (sub x.1 (i64.wrap (x.2.2.2+1)) (↑x.1.length:Int)) fun z=>obnd (qzh (Group.mk y.Array y.A y.B (azf y.E),z,(↑z.length:Int),0)) fun y=>osum y (fun y=>back (x.1,x.2.1,x.2.2.1,i64.wrap (x.2.2.2+1))) fun y=>some (Sum.inr y)) (some (Sum.inl PUnit.unit))
def qzf:List Group×List Group×Int×Int->Option ((Unit)⊕(Int)):=iter qze big
def zz8:CutSpec tb:=⟨84,[(0,.val 99),(22,.val 99),(23,.val 3),(24,.val 3)],[((.exit 2),[]),(.ret,[(2,.val 44)])],[25,26,27,28,7,6,29,30,31,32,33,34,35,36,37,9,38,39,40,2,41,42,24],qzf,none⟩
theorem vzF:A3 Tryz.f141 84 zz8:=A4 jzt (.cons vzG .nil) qze
def tzL (x:List Group):Option (Int):=obnd (qzd (x,(↑x.length:Int),0)) fun y=>osum y (fun y=>obnd (qzf (x,x,(↑x.length:Int),0)) fun y=>osum y (fun y=>some 0) fun y=>some y) fun y=>some y
def tzM:FSpec tb:=⟨[(0,.val 99)],[(0,.val 44)],tzL⟩
theorem wzY:A0 141 tzM:=A2 Tryz.func141 jzt (.cons vzE (.cons vzF .nil))
abbrev gzl:List (Nat×FSpec tb):=[(109,szI)]
theorem czk:azj Tryz.prog tb (gzl):=(.cons qz0 .nil)
def czl (back:List Group×Unit×Int->Option ((Unit)⊕(Bool)))(x:List Group×Unit×Int):Option ((Unit)⊕(Bool)):=brn (decide (0<x.2.2)) (obnd (idx x.1 x.2.2) fun y=>obnd (idx x.1 (i64.wrap (x.2.2-1))) fun y_1=>obnd (szH (Group.mk y.Array y.A y.B (azf y.E),Group.mk y_1.Array y_1.A y_1.B (azf y_1.E))) fun y=>brn (decide (y<0)) (some (Sum.inr false)) (back (x.1,(),i64.wrap (x.2.2-1)))) (some (Sum.inl PUnit.unit))
def czm:List Group×Unit×Int->Option ((Unit)⊕(Bool)):=iter czl big
def fzB:CutSpec tb:=⟨28,[(0,.val 99),(1,.fnp 109 0),(5,.val 3)],[((.exit 0),[]),(.ret,[(4,.val 4)])],[9,10,13,14,15,16,17,18,19,20,21,22,23,24,4,11,12,5],czm,none⟩
theorem ez7:A3 Tryz.f142 28 fzB:=A4 czk .nil czl
def czM (x:List Group×Unit):Option (Bool):=obnd (czm (x.1,(),i64.wrap ((↑x.1.length:Int)-1))) fun y=>osum y (fun y=>some true) fun y=>some y
def czN:FSpec tb:=⟨[(0,.val 99),(1,.fnp 109 0)],[(0,.val 4)],czM⟩
theorem fza:A0 142 czN:=A2 Tryz.func142 czk (.cons ez7 .nil)
abbrev LzH:List (Nat×FSpec tb):=[(48,wzZ),(94,rzf)]
theorem vzO:azj Tryz.prog tb (LzH):=(.cons lzP (.cons hzk .nil))
def vzP (back:Group×Int×List Cell2×Int×Int->Option (Int))(x:Group×Int×List Cell2×Int×Int):Option (Int):=brn (decide (x.2.2.2.2<x.2.2.2.1)) (obnd (idx x.2.2.1 x.2.2.2.2) fun y=>brn y.Has (obnd (mzC (Group.mk x.1.Array x.1.A x.1.B (azf x.1.E),y.At)) fun y_1=>brn y_1 (obnd (kzL (azf y.E,azf x.1.E)) fun y=>brn y (back (Group.mk x.1.Array x.1.A x.1.B (azf x.1.E),i64.wrap (x.2.1+1),x.2.2.1,x.2.2.2.1,i64.wrap (x.2.2.2.2+1))) (back (Group.mk x.1.Array x.1.A x.1.B (azf x.1.E),x.2.1,x.2.2.1,x.2.2.2.1,i64.wrap (x.2.2.2.2+1)))) (back (Group.mk x.1.Array x.1.A x.1.B (azf x.1.E),x.2.1,x.2.2.1,x.2.2.2.1,i64.wrap (x.2.2.2.2+1)))) (back (Group.mk x.1.Array x.1.A x.1.B (azf x.1.E),x.2.1,x.2.2.1,x.2.2.2.1,i64.wrap (x.2.2.2.2+1)))) (some x.2.1)
def vzQ:Group×Int×List Cell2×Int×Int->Option (Int):=iter vzP big
def HzO:CutSpec tb:=⟨36,[(3,.ro 141),(5,.val 3),(8,.val 98),(9,.val 3),(10,.val 3)],[((.exit 0),[(5,.val 3)])],[11,12,13,7,14,15,16,17,18,19,20,21,22,23,24,25,26,27,28,29,30,5,31,10],vzQ,none⟩
theorem Bz1:A3 Tryz.f145 36 HzO:=A4 vzO .nil vzP
def CzN (x:List Cell2×Group):Option (Bool):=obnd (vzQ (Group.mk x.2.Array x.2.A x.2.B (azf x.2.E),0,x.1,(↑x.1.length:Int),0)) fun y=>some (decide (y=i64.wrap (i64.wrap (i64.wrap (x.2.B.Row-x.2.A.Row)+1)*i64.wrap (i64.wrap (x.2.B.Col-x.2.A.Col)+1))))
def LzI:FSpec tb:=⟨[(0,.val 98),(1,.val 141)],[(0,.val 4)],CzN⟩
theorem Dz1:A0 145 LzI:=A2 Tryz.func145 vzO (.cons Bz1 .nil)
def szN (x:Group×Sheet):Option (Bool):=obnd (CzN (x.2.Cells,Group.mk x.1.Array x.1.A x.1.B (azf x.1.E))) fun y=>some (bif y then false else true)
def szO:FSpec tb:=⟨[(0,.val 141),(1,.ro 101)],[(0,.val 4)],szN⟩
theorem vzS:A0 144 szO:=A1 Tryz.func144 (.cons Dz1 .nil)
abbrev fz0:List (Nat×FSpec tb):=[(144,szO)]
theorem czh:azj Tryz.prog tb (fz0):=(.cons vzS .nil)
def czi (back:Sheet×List Group×Unit×Int×Int->Option ((Unit)⊕(Int)))(x:Sheet×List Group×Unit×Int×Int):Option ((Unit)⊕(Int)):=brn (decide (x.2.2.2.2<x.2.2.2.1)) (obnd (idx x.2.1 x.2.2.2.2) fun y=>obnd (szN (Group.mk y.Array y.A y.B (azf y.E),x.1)) fun y=>brn y (some (Sum.inr x.2.2.2.2)) (back (x.1,x.2.1,(),x.2.2.2.1,i64.wrap (x.2.2.2.2+1)))) (some (Sum.inl PUnit.unit))
def czj:Sheet×List Group×Unit×Int×Int->Option ((Unit)⊕(Int)):=iter czi big
def fzt:CutSpec tb:=⟨28,[(4294967297,.ro 101),(0,.val 99),(1,.fnp 144 1),(7,.val 3),(8,.val 3)],[((.exit 0),[]),(.ret,[(4,.val 3)])],[9,10,5,11,12,13,14,15,16,17,4,18,8],czj,none⟩
theorem ezW:A3 Tryz.f190 28 fzt:=A4 czh .nil czi
def czH (x:Sheet×List Group×Unit):Option (Int):=obnd (czj (x.1,x.2.1,(),(↑x.2.1.length:Int),0)) fun y=>osum y (fun y=>some (-1)) fun y=>some y
def fz3:FSpec tb:=⟨[(4294967297,.ro 101),(0,.val 99),(1,.fnp 144 1)],[(0,.val 3)],czH⟩
theorem ez6:A0 190 fz3:=A2 Tryz.func190 czh (.cons ezW .nil)
def czc (x:Sheet×List Group×Unit):Option (Bool):=obnd (czH (x.1,x.2.1,())) fun y=>some (decide (0<=y))
def czd:FSpec tb:=⟨[(4294967297,.ro 101),(0,.val 99),(1,.fnp 144 1)],[(0,.val 4)],czc⟩
theorem ezM:A0 143 czd:=A1 Tryz.func143 (.cons ez6 .nil)
def szP (x:Group×Group):Option (Bool):=brn (decide (x.1.Array=x.2.Array)) (brn (bif false then !(decide (x.1.A.Row=x.2.A.Row)&&decide (x.1.A.Col=x.2.A.Col))else decide (x.1.A.Row=x.2.A.Row)&&decide (x.1.A.Col=x.2.A.Col)) (brn (bif false then !(decide (x.1.B.Row=x.2.B.Row)&&decide (x.1.B.Col=x.2.B.Col))else decide (x.1.B.Row=x.2.B.Row)&&decide (x.1.B.Col=x.2.B.Col)) (obnd (kzL (azf x.1.E,azf x.2.E)) fun y=>some y) (some false)) (some false)) (some false)
def szQ:FSpec tb:=⟨[(0,.val 141),(1,.val 141)],[(0,.val 4)],szP⟩
theorem vzT:A0 100 szQ:=A1 Tryz.func100 (.cons hzk .nil)
abbrev czZ:List (Nat×FSpec tb):=[(100,szQ)]
theorem az1:azj Tryz.prog tb (czZ):=(.cons vzT .nil)
def az2 (back:List Group×Unit×List Group×Int×Int->Option ((Unit)⊕(Bool)))(x:List Group×Unit×List Group×Int×Int):Option ((Unit)⊕(Bool)):=brn (decide (x.2.2.2.2<x.2.2.2.1)) (obnd (idx x.2.2.1 x.2.2.2.2) fun y=>obnd (idx x.1 x.2.2.2.2) fun y_1=>obnd (szP (Group.mk y.Array y.A y.B (azf y.E),Group.mk y_1.Array y_1.A y_1.B (azf y_1.E))) fun y=>brn (!y) (some (Sum.inr false)) (back (x.1,(),x.2.2.1,x.2.2.2.1,i64.wrap (x.2.2.2.2+1)))) (some (Sum.inl PUnit.unit))
def az3:List Group×Unit×List Group×Int×Int->Option ((Unit)⊕(Bool)):=iter az2 big
def czL:CutSpec tb:=⟨44,[(1,.val 99),(2,.fnp 100 0),(15,.val 99),(16,.val 3),(17,.val 3)],[((.exit 0),[]),(.ret,[(6,.val 4)])],[18,19,20,21,8,7,22,23,24,25,9,26,27,28,29,30,6,31,17],az3,none⟩
theorem czt:A3 Tryz.f99 44 czL:=A4 az1 .nil az2
def azF (x:List Group×List Group×Unit):Option (Bool):=brn (!decide ((↑x.1.length:Int)=(↑x.2.1.length:Int))) (some false) (obnd (az3 (x.2.1,(),x.1,(↑x.1.length:Int),0)) fun y=>osum y (fun y=>some true) fun y=>some y)
def az4:FSpec tb:=⟨[(0,.val 99),(1,.val 99),(2,.fnp 100 0)],[(0,.val 4)],azF⟩
theorem az0:A0 99 az4:=A2 Tryz.func99 az1 (.cons czt .nil)
abbrev HzP:List (Nat×FSpec tb):=[(141,tzM),(142,czN),(143,czd),(110,pzz),(99,az4)]
theorem qz4:azj Tryz.prog tb (HzP):=(.cons wzY (.cons fza (.cons ezM (.cons oz2 (.cons az0 .nil)))))
def qz5 (back:Sheet×Int->Option (Int))(x:Sheet×Int):Option (Int):=brn (decide (x.2<(↑x.1.Groups.length:Int))) (obnd (idx x.1.Groups x.2) fun y=>brn y.Array (back (x.1,i64.wrap (x.2+1))) (some x.2)) (some x.2)
def qz6:Sheet×Int->Option (Int):=iter qz5 big
def Bz2:CutSpec tb:=⟨28,[(1,.ro 101),(3,.val 3)],[((.exit 0),[(3,.val 3)])],[5,6,7,8,9,10,11,12,13,14,15,16,17,18,19,3],qz6,none⟩
theorem wz1:A3 Tryz.f81 28 Bz2:=A4 qz4 .nil qz5
def vzR (x:Sheet):Option (Bool):=obnd (qz6 (x,0)) fun y=>obnd (sub x.Groups 0 y) fun z=>obnd (tzL z) fun y_1=>brn (!decide (y_1=0)) (some false) (obnd (czM (z,())) fun y_2=>brn (!y_2) (some false) (obnd (czc (x,z,())) fun y_3=>brn y_3 (some false) (obnd (sub x.Groups y (↑x.Groups.length:Int)) fun z_1=>obnd (pzy (x.Cells,z)) fun y=>obnd (azF (z_1,y,())) fun y=>some y)))
def HzQ:FSpec tb:=⟨[(0,.val 101)],[(0,.val 4)],vzR⟩
theorem yzr:A0 81 HzQ:=A2 Tryz.func81 qz4 (.cons wz1 .nil)
def szG (x:Sheet):Option (Int):=obnd (szM x.Rows) fun y=>brn (!decide (y=0)) (some y) (obnd (tza x.Cells) fun y=>brn (!decide (y=0)) (some y) (obnd (vzR x) fun y=>brn (!y) (some 13) (some 0)))
def Azi:FSpec tb:=⟨[(0,.val 101)],[(0,.val 44)],szG⟩
theorem BzY:A0 35 Azi:=A1 Tryz.func35 (.cons vzN (.cons wzd (.cons yzr .nil)))
def jzz (back:List (List UInt8)×List (List UInt8)×Int×Int->Option ((Unit)⊕(Bool)))(x:List (List UInt8)×List (List UInt8)×Int×Int):Option ((Unit)⊕(Bool)):=brn (decide (x.2.2.2<x.2.2.1)) (obnd (idx x.1 x.2.2.2) fun y=>obnd (idx x.2.1 x.2.2.2) fun y_1=>brn (!decide (y=y_1)) (some (Sum.inr false)) (back (x.1,x.2.1,x.2.2.1,i64.wrap (x.2.2.2+1)))) (some (Sum.inl PUnit.unit))
def jzA:List (List UInt8)×List (List UInt8)×Int×Int->Option ((Unit)⊕(Bool)):=iter jzz big
def ozR:CutSpec tb:=⟨44,[(0,.val 22),(1,.val 22),(12,.val 3),(13,.val 3)],[((.exit 0),[]),(.ret,[(4,.val 4)])],[14,15,5,16,17,18,19,20,21,22,23,24,4,25,13],jzA,none⟩
theorem nzc:A3 Tryz.f37 44 ozR:=A4 .nil .nil jzz
def bz6 (x:List (List UInt8)×List (List UInt8)):Option (Bool):=brn (!decide ((↑x.1.length:Int)=(↑x.2.length:Int))) (some false) (obnd (jzA (x.1,x.2,(↑x.1.length:Int),0)) fun y=>osum y (fun y=>some true) fun y=>some y)
def kzG:FSpec tb:=⟨[(0,.val 22),(1,.val 22)],[(0,.val 4)],bz6⟩
theorem izJ:A0 37 kzG:=A2 Tryz.func37 .nil (.cons nzc .nil)
abbrev Kz2:List (Nat×FSpec tb):=[(34,Czm),(35,Azi),(36,tz1),(37,kzG)]
theorem jz0:azj Tryz.prog tb (Kz2):=(.cons Dzc (.cons BzY (.cons rzN (.cons izJ .nil))))
def uzF (back:Book×List Cell2×Int×Int->Option ((Unit)⊕(Int)))(x:Book×List Cell2×Int×Int):Option ((Unit)⊕(Int)):=brn (decide (x.2.2.2<x.2.2.1)) (obnd (idx x.2.1 x.2.2.2) fun y=>brn (decide ((bif decide ((↑x.1.Globals.XFs.length:Int)<1)then 1 else(↑x.1.Globals.XFs.length:Int))<=y.XF)) (some (Sum.inr 1)) (back (x.1,x.2.1,x.2.2.1,i64.wrap (x.2.2.2+1)))) (some (Sum.inl PUnit.unit))
def uzG:Book×List Cell2×Int×Int->Option ((Unit)⊕(Int)):=iter uzF big
def Gzw:CutSpec tb:=⟨172,[(1,.ro 42),(59,.val 98),(60,.val 3),(61,.val 3)],[((.exit 2),[]),(.ret,[(2,.val 44)])],[62,63,64,9,65,66,67,68,69,70,71,72,2,73,61],uzG,none⟩
theorem AzU:A3 Tryz.f9 172 Gzw:=A4 jz0 .nil uzF
def uzE (back:Book×List Sheet×Int×Int->Option ((Unit)⊕(Int)))(x:Book×List Sheet×Int×Int):Option ((Unit)⊕(Int)):=brn (decide (x.2.2.2<x.2.2.1)) (obnd (idx x.2.1 x.2.2.2) fun y=>obnd (uzG (x.1,y.Cells,(↑y.Cells.length:Int),0)) fun y=>osum y (fun y=>back (x.1,x.2.1,x.2.2.1,i64.wrap (x.2.2.2+1))) fun y=>some (Sum.inr y)) (some (Sum.inl PUnit.unit))
def oz7:Book×List Sheet×Int×Int->Option ((Unit)⊕(Int)):=iter uzE big
def oz6:CutSpec tb:=⟨148,[(1,.ro 42),(52,.val 40),(53,.val 3),(54,.val 3)],[((.exit 0),[]),(.ret,[(2,.val 44)])],[55,56,57,7,58,59,60,61,62,63,64,9,65,66,67,68,69,70,71,72,2,73,74,54],oz7,none⟩
theorem qzK:A3 Tryz.f9 148 oz6:=A4 jz0 (.cons AzU .nil) uzE
def CzX (back:Book×Table×Int×Int->Option ((Int)×Table))(x:Book×Table×Int×Int):Option ((Int)×Table):=brn (decide (x.2.2.2<(↑x.1.Sheets.length:Int))) (obnd (idx x.1.Sheets x.2.2.2) fun y=>obnd (szG y) fun y=>brn (!decide (y=0)) (some (y,x.2.1)) (obnd (idx x.1.Sheets x.2.2.2) fun y=>obnd (back (x.1,x.2.1,i64.wrap (x.2.2.1+(↑y.Cells.length:Int)),i64.wrap (x.2.2.2+1))) fun y=>some (y.1,y.2))) (brn (decide (4096<x.2.2.1)) (some (4,x.2.1)) (obnd (oz7 (x.1,x.1.Sheets,(↑x.1.Sheets.length:Int),0)) fun y=>osum y (fun y=>obnd (pzE x.1.Sheets) fun y=>brn (!decide (y.2=0)) (some (3,y.1)) (brn (!decide (y.1.Uses=x.1.Globals.Texts.Uses)) (some (3,y.1)) (obnd (bz6 (y.1.Texts,x.1.Globals.Texts.Texts)) fun y_1=>brn (!y_1) (some (3,y.1)) (some (0,y.1))))) fun y=>some (y,x.2.1)))
def rzH:Book×Table×Int×Int->Option ((Int)×Table):=iter CzX big
def CzW:CutSpec tb:=⟨73,[(1,.ro 42),(3,.ref 36),(4,.val 3),(5,.val 3)],[(.ret,[(2,.val 44)])],[24,25,26,27,28,29,30,31,32,33,34,2,35,36,37,38,39,40,41,42,43,44,45,46,4,47,48,5,49,50,51,52,53,54,55,56,57,7,58,59,60,61,62,63,64,9,65,66,67,68,69,70,71,72,73,74,76,77,78,75,79,80,81,82,83,84,85,86,87,88,89,90,91,92,93,94,95,96,97,98,99,100,101],rzH,none⟩
theorem yzx:bzd ([oz6]:List (CutSpec tb)) (mz9 (bzl 21 Tryz.f9) 0)=[(148,.loop (bzB 148 Tryz.f9))]:=by kernel_rfl
theorem xzT:bz5 Tryz.prog tb Tryz.f9.ntmps (bzl 21 Tryz.f9) 0 CzW:=wzs fun self hself=>lzS mixed (by kernel_rfl) (by kernel_rfl) jz0 rfl yzx (.cons rfl qzK rfl .nil) (.cons hself rfl .nil) (fun x=>by kernel_rfl)
def uzH (x:Book):Option ((Unit)⊕(Int)):=obnd (Czl x.Globals) fun y=>brn (!decide (y=0)) (some (Sum.inr y)) (brn (!decide ((↑x.Sheets.length:Int)=(↑x.Globals.Sheets.length:Int))) (some (Sum.inr 1)) (brn (decide (0<(↑x.Sheets.length:Int))) (obnd (idx x.Sheets 0) fun y=>obnd (szG y) fun y=>brn (!decide (y=0)) (some (Sum.inr y)) (obnd (idx x.Sheets 0) fun y=>obnd (rzH (x,Table.mk [] 0,i64.wrap (0+(↑y.Cells.length:Int)),1)) fun y=>some (Sum.inr y.1))) (obnd (oz7 (x,x.Sheets,(↑x.Sheets.length:Int),0)) fun y=>osum y (fun y=>obnd (pzE x.Sheets) fun y=>brn (!decide (y.2=0)) (some (Sum.inr 3)) (brn (!decide (y.1.Uses=x.Globals.Texts.Uses)) (some (Sum.inr 3)) (obnd (bz6 (y.1.Texts,x.Globals.Texts.Texts)) fun y=>brn (!y) (some (Sum.inr 3)) (some (Sum.inr 0))))) fun y=>some (Sum.inr y))))
def Gzx:CutSpec tb:=⟨21,[(1,.ro 42)],[(.normal,[]),(.ret,[(2,.val 44)])],[3,4,5,10,11,12,2,13,14,15,16,17,18,19,20,21,22,23,24,25,26,27,28,29,30,31,32,33,34,35,36,37,38,39,40,41,42,43,44,45,46,47,48,49,50,51,52,53,54,55,56,57,7,58,59,60,61,62,63,64,9,65,66,67,68,69,70,71,72,73,74,76,77,78,75,79,80,81,82,83,84,85,86,87,88,89,90,91,92,93,94,95,96,97,98,99,100,101],uzH,none⟩
theorem CzY:bzd ([oz6]:List (CutSpec tb)) (bzl 21 Tryz.f9)=[(148,.loop (bzB 148 Tryz.f9))]:=by kernel_rfl
theorem AzV:bz0 Tryz.prog tb Tryz.f9.ntmps (.scope (bzl 21 Tryz.f9)) Gzx:=pzv mixed (by kernel_rfl) jz0 rfl CzY (.cons rfl qzK rfl .nil) (.cons xzT rfl .nil) (fun x=>by kernel_rfl)
def mz0 (x:Book):Option (Int):=obnd (uzH x) fun y=>osum y (fun y=>none) fun y=>some y
def tzZ:FSpec tb:=⟨[(0,.val 42)],[(0,.val 44)],mz0⟩
theorem rzI:A0 9 tzZ:=A2 Tryz.func9 jz0 (.cons AzV .nil)
abbrev LzP:List (Nat×FSpec tb):=[(57,yzA),(36,tz1),(9,tzZ)]
theorem xzb:azj Tryz.prog tb (LzP):=(.cons Az0 (.cons rzN (.cons rzI .nil)))
def xzc (back:List (Sheet)×Book×List Sheet×Int×Int->Option ((List (Sheet))×Book))(x:List (Sheet)×Book×List Sheet×Int×Int):Option ((List (Sheet))×Book):=brn (decide (x.2.2.2.2<x.2.2.2.1)) (obnd (idx x.2.2.1 x.2.2.2.2) fun y=>obnd (yzz y) fun y=>obnd (app 72 x.1 [y]) fun zs=>back (zs,Book.mk x.2.1.Globals zs,x.2.2.1,x.2.2.2.1,i64.wrap (x.2.2.2.2+1))) (some (x.1,Book.mk x.2.1.Globals x.1))
def xzd:List (Sheet)×Book×List Sheet×Int×Int->Option ((List (Sheet))×Book):=iter xzc big
def IzI:CutSpec tb:=⟨36,[(34359738372,.own 101),(4,.ref 42),(14,.val 40),(15,.val 3),(16,.val 3)],[((.exit 0),[(34359738372,.own 101)])],[17,18,19,6,20,21,22,23,24,25,26,27,16],xzd,none⟩
theorem CzZ:A3 Tryz.f21 36 IzI:=A4 xzb .nil xzc
def Ezq (x:Book):Option (Book×Int):=obnd (xzd ([],Book.mk x.Globals [],x.Sheets,(↑x.Sheets.length:Int),0)) fun y=>obnd (pzE y.1) fun y_1=>brn (!decide (y_1.2=0)) (some (Book.mk (Globals.mk [] [] [] [] (Table.mk [] 0) []) [],y_1.2)) (obnd (mz0 (Book.mk (Globals.mk y.2.Globals.Sheets y.2.Globals.Formats y.2.Globals.XFs y.2.Globals.Names y_1.1 y.2.Globals.Chain) y.1)) fun y_2=>brn (!decide (y_2=0)) (some (Book.mk (Globals.mk [] [] [] [] (Table.mk [] 0) []) [],y_2)) (some (Book.mk (Globals.mk y.2.Globals.Sheets y.2.Globals.Formats y.2.Globals.XFs y.2.Globals.Names y_1.1 y.2.Globals.Chain) y.1,0)))
def Ezr:FSpec tb:=⟨[(0,.val 42)],[(0,.val 42),(1,.val 44)],Ezq⟩
theorem Ezs:A0 21 Ezr:=A2 Tryz.func21 xzb (.cons CzZ .nil)
abbrev Kz3:List (Nat×FSpec tb):=[(48,wzZ)]
theorem mzf:azj Tryz.prog tb (Kz3):=(.cons lzP .nil)
def jz3 (back:Cell2×Node×List Group×Int×Int->Option ((Unit)×Node))(x:Cell2×Node×List Group×Int×Int):Option ((Unit)×Node):=brn (decide (x.2.2.2.2<x.2.2.2.1)) (obnd (idx x.2.2.1 x.2.2.2.2) fun y=>brn y.Array (obnd (mzC (Group.mk y.Array y.A y.B (azf y.E),x.1.At)) fun y_1=>brn y_1 (back (Cell2.mk x.1.At x.1.XF x.1.V x.1.Has (azf x.1.E),Node.mk x.2.1.P y.A (azf x.2.1.E),x.2.2.1,x.2.2.2.1,i64.wrap (x.2.2.2.2+1))) (back (Cell2.mk x.1.At x.1.XF x.1.V x.1.Has (azf x.1.E),Node.mk x.2.1.P x.2.1.Base (azf x.2.1.E),x.2.2.1,x.2.2.2.1,i64.wrap (x.2.2.2.2+1)))) (back (Cell2.mk x.1.At x.1.XF x.1.V x.1.Has (azf x.1.E),Node.mk x.2.1.P x.2.1.Base (azf x.2.1.E),x.2.2.1,x.2.2.2.1,i64.wrap (x.2.2.2.2+1)))) (some ((),Node.mk x.2.1.P x.2.1.Base (azf x.2.1.E)))
def pza:Cell2×Node×List Group×Int×Int->Option ((Unit)×Node):=iter jz3 big
def GzA:CutSpec tb:=⟨100,[(7,.ro 108),(8,.ref 92),(39,.val 99),(40,.val 3),(41,.val 3)],[((.exit 4),[])],[42,43,44,10,45,46,47,48,49,50,51,52,53,54,55,56,41],pza,none⟩
theorem AzY:A3 Tryz.f13 100 GzA:=A4 mzf .nil jz3
def jz2 (back:List (Node)×Int×Sheet×List Cell2×Int×Int->Option (List (Node)))(x:List (Node)×Int×Sheet×List Cell2×Int×Int):Option (List (Node)):=brn (decide (x.2.2.2.2.2<x.2.2.2.2.1)) (obnd (idx x.2.2.2.1 x.2.2.2.2.2) fun y=>brn (!y.Has) (back (x.1,x.2.1,x.2.2.1,x.2.2.2.1,x.2.2.2.2.1,i64.wrap (x.2.2.2.2.2+1))) (obnd (pza (Cell2.mk y.At y.XF y.V y.Has (azf y.E),Node.mk (Place.mk x.2.1 y.At) y.At (azf y.E),x.2.2.1.Groups,(↑x.2.2.1.Groups.length:Int),0)) fun y=>obnd (app 192 x.1 [Node.mk y.2.P y.2.Base (azf y.2.E)]) fun zs=>back (zs,x.2.1,x.2.2.1,x.2.2.2.1,x.2.2.2.2.1,i64.wrap (x.2.2.2.2.2+1)))) (some x.1)
def oz9:List (Node)×Int×Sheet×List Cell2×Int×Int->Option (List (Node)):=iter jz2 big
def Gzz:CutSpec tb:=⟨60,[(3,.own 92),(4,.val 3),(5,.ro 101),(20,.val 98),(21,.val 3),(22,.val 3)],[((.exit 2),[(3,.own 92)])],[23,24,25,7,26,27,28,29,30,31,32,33,34,35,36,37,8,38,39,40,41,42,43,44,10,45,46,47,48,49,50,51,52,53,54,55,56,57,58,59,60,3,61,22],oz9,none⟩
theorem AzX:A3 Tryz.f13 60 Gzz:=A4 mzf (.cons AzY .nil) jz2
def jz1 (back:List (Node)×List Sheet×Int×Int->Option (List (Node)))(x:List (Node)×List Sheet×Int×Int):Option (List (Node)):=brn (decide (x.2.2.2<x.2.2.1)) (obnd (idx x.2.1 x.2.2.2) fun y=>obnd (oz9 (x.1,x.2.2.2,y,y.Cells,(↑y.Cells.length:Int),0)) fun y=>back (y,x.2.1,x.2.2.1,i64.wrap (x.2.2.2+1))) (some x.1)
def oz8:List (Node)×List Sheet×Int×Int->Option (List (Node)):=iter jz1 big
def Gzy:CutSpec tb:=⟨36,[(3,.own 92),(12,.val 40),(13,.val 3),(14,.val 3)],[((.exit 0),[(3,.own 92)])],[15,16,17,18,5,4,19,20,21,22,23,24,25,7,26,27,28,29,30,31,32,33,34,35,36,37,8,38,39,40,41,42,43,44,10,45,46,47,48,49,50,51,52,53,54,55,56,57,58,59,60,3,61,62,14],oz8,none⟩
theorem AzW:A3 Tryz.f13 36 Gzy:=A4 mzf (.cons AzX .nil) jz1
def mz1 (x:Book):Option (List (Node)):=obnd (oz8 ([],x.Sheets,(↑x.Sheets.length:Int),0)) fun y=>some y
def tz0:FSpec tb:=⟨[(0,.val 42)],[(0,.own 92)],mz1⟩
theorem rzM:A0 13 tz0:=A2 Tryz.func13 mzf (.cons AzW .nil)
def ezG (x:List Expr):Option (List (Expr)):=app 152 [] x
def bzV:FSpec tb:=⟨[(0,.val 35)],[(0,.own 90)],ezG⟩
theorem mzF:∀x,evFn Tryz.prog tb [] [] Tryz.f53 bzV.ins bzV.outs x=bzV.f x:=fun x=>Eq.trans (by kernel_rfl) (pzG 152 x)
theorem lzE:A0 53 bzV:=A1 Tryz.func53 .nil (hJ:=mzF)
abbrev book_EnvG:List (Nat×FSpec tb):=[(53,bzV)]
theorem rzJ:azj Tryz.prog tb (book_EnvG):=(.cons lzE .nil)
def lzR (back:List (Slot)×Env×Int×List Cell2×Int×Int->Option ((List (Slot))×Env))(x:List (Slot)×Env×Int×List Cell2×Int×Int):Option ((List (Slot))×Env):=brn (decide (x.2.2.2.2.2<x.2.2.2.2.1)) (obnd (idx x.2.2.2.1 x.2.2.2.2.2) fun y=>brn (!decide (y.V.Kind=0)) (obnd (app 80 x.1 [Slot.mk (Place.mk x.2.2.1 y.At) y.V]) fun zs=>back (zs,Env.mk x.2.1.Sheets zs x.2.1.Names,x.2.2.1,x.2.2.2.1,x.2.2.2.2.1,i64.wrap (x.2.2.2.2.2+1))) (back (x.1,Env.mk x.2.1.Sheets x.1 x.2.1.Names,x.2.2.1,x.2.2.2.1,x.2.2.2.2.1,i64.wrap (x.2.2.2.2.2+1)))) (some (x.1,Env.mk x.2.1.Sheets x.1 x.2.1.Names))
def rzL:List (Slot)×Env×Int×List Cell2×Int×Int->Option ((List (Slot))×Env):=iter lzR big
def Jzz:CutSpec tb:=⟨60,[(8589934595,.own 106),(3,.ref 60),(4,.val 3),(21,.val 98),(22,.val 3),(23,.val 3)],[((.exit 2),[(8589934595,.own 106)])],[24,25,26,7,27,28,29,30,31,32,33,34,35,36,37,38,39,40,41,42,43,23],rzL,none⟩
theorem Ezn:A3 Tryz.f17 60 Jzz:=A4 rzJ .nil lzR
def lzQ (back:List (Slot)×Env×List Sheet×Int×Int->Option ((List (Slot))×Env))(x:List (Slot)×Env×List Sheet×Int×Int):Option ((List (Slot))×Env):=brn (decide (x.2.2.2.2<x.2.2.2.1)) (obnd (idx x.2.2.1 x.2.2.2.2) fun y=>obnd (rzL (x.1,Env.mk x.2.1.Sheets x.1 x.2.1.Names,x.2.2.2.2,y.Cells,(↑y.Cells.length:Int),0)) fun y=>back (y.1,Env.mk y.2.Sheets y.1 y.2.Names,x.2.2.1,x.2.2.2.1,i64.wrap (x.2.2.2.2+1))) (some (x.1,Env.mk x.2.1.Sheets x.1 x.2.1.Names))
def rzK:List (Slot)×Env×List Sheet×Int×Int->Option ((List (Slot))×Env):=iter lzQ big
def Jzy:CutSpec tb:=⟨36,[(8589934595,.own 106),(3,.ref 60),(13,.val 40),(14,.val 3),(15,.val 3)],[((.exit 0),[(8589934595,.own 106)])],[16,17,18,19,5,4,20,21,22,23,24,25,26,7,27,28,29,30,31,32,33,34,35,36,37,38,39,40,41,42,43,44,15],rzK,none⟩
theorem Ezm:A3 Tryz.f17 36 Jzy:=A4 rzJ (.cons Ezn .nil) lzQ
def pzY (x:Book):Option (Env):=obnd (rzK ([],Env.mk (↑x.Sheets.length:Int) [] [],x.Sheets,(↑x.Sheets.length:Int),0)) fun y=>obnd (ezG x.Globals.Names) fun y_1=>some (Env.mk y.2.Sheets y.1 y_1)
def yzy:FSpec tb:=⟨[(0,.val 42)],[(0,.val 60)],pzY⟩
theorem uzI:A0 17 yzy:=A2 Tryz.func17 rzJ (.cons Ezm .nil)
def lz9 (back:List Int×List Int×Int×Int->Option ((Unit)⊕(Bool)))(x:List Int×List Int×Int×Int):Option ((Unit)⊕(Bool)):=brn (decide (x.2.2.2<x.2.2.1)) (obnd (idx x.1 x.2.2.2) fun y=>obnd (idx x.2.1 x.2.2.2) fun y_1=>brn (!decide (y=y_1)) (some (Sum.inr false)) (back (x.1,x.2.1,x.2.2.1,i64.wrap (x.2.2.2+1)))) (some (Sum.inl PUnit.unit))
def mza:List Int×List Int×Int×Int->Option ((Unit)⊕(Bool)):=iter lz9 big
def szR:CutSpec tb:=⟨44,[(0,.val 23),(1,.val 23),(12,.val 3),(13,.val 3)],[((.exit 0),[]),(.ret,[(4,.val 4)])],[14,15,5,16,17,18,19,20,21,22,23,24,4,25,13],mza,none⟩
theorem qzj:A3 Tryz.f92 44 szR:=A4 .nil .nil lz9
def nzX (x:List Int×List Int):Option (Bool):=brn (!decide ((↑x.1.length:Int)=(↑x.2.length:Int))) (some false) (obnd (mza (x.1,x.2,(↑x.1.length:Int),0)) fun y=>osum y (fun y=>some true) fun y=>some y)
def vzU:FSpec tb:=⟨[(0,.val 23),(1,.val 23)],[(0,.val 4)],nzX⟩
theorem qzI:A0 92 vzU:=A2 Tryz.func92 .nil (.cons qzj .nil)
abbrev ezr:List (Nat×FSpec tb):=[(94,rzf)]
theorem bzD:azj Tryz.prog tb (ezr):=(.cons hzk .nil)
def bzE (back:List Expr×Unit×List Expr×Int×Int->Option ((Unit)⊕(Bool)))(x:List Expr×Unit×List Expr×Int×Int):Option ((Unit)⊕(Bool)):=brn (decide (x.2.2.2.2<x.2.2.2.1)) (obnd (idx x.2.2.1 x.2.2.2.2) fun y=>obnd (idx x.1 x.2.2.2.2) fun y_1=>obnd (kzL (azf y,azf y_1)) fun y=>brn (!y) (some (Sum.inr false)) (back (x.1,(),x.2.2.1,x.2.2.2.1,i64.wrap (x.2.2.2.2+1)))) (some (Sum.inl PUnit.unit))
def bzF:List Expr×Unit×List Expr×Int×Int->Option ((Unit)⊕(Bool)):=iter bzE big
def ezh:CutSpec tb:=⟨44,[(1,.val 35),(2,.fnp 94 0),(15,.val 35),(16,.val 3),(17,.val 3)],[((.exit 0),[]),(.ret,[(6,.val 4)])],[18,19,20,21,8,7,22,23,24,25,9,26,27,28,29,30,6,31,17],bzF,none⟩
theorem dzV:A3 Tryz.f93 44 ezh:=A4 bzD .nil bzE
def bzQ (x:List Expr×List Expr×Unit):Option (Bool):=brn (!decide ((↑x.1.length:Int)=(↑x.2.1.length:Int))) (some false) (obnd (bzF (x.2.1,(),x.1,(↑x.1.length:Int),0)) fun y=>osum y (fun y=>some true) fun y=>some y)
def ezs:FSpec tb:=⟨[(0,.val 35),(1,.val 35),(2,.fnp 94 0)],[(0,.val 4)],bzQ⟩
theorem dz3:A0 93 ezs:=A2 Tryz.func93 bzD (.cons dzV .nil)
def gz0 (back:List Place×List Place×Int×Int->Option ((Unit)⊕(Bool)))(x:List Place×List Place×Int×Int):Option ((Unit)⊕(Bool)):=brn (decide (x.2.2.2<x.2.2.1)) (obnd (idx x.1 x.2.2.2) fun y=>obnd (idx x.2.1 x.2.2.2) fun y_1=>brn (bif true then !(decide (y.Sheet=y_1.Sheet)&&(decide (y.At.Row=y_1.At.Row)&&decide (y.At.Col=y_1.At.Col)))else decide (y.Sheet=y_1.Sheet)&&(decide (y.At.Row=y_1.At.Row)&&decide (y.At.Col=y_1.At.Col))) (some (Sum.inr false)) (back (x.1,x.2.1,x.2.2.1,i64.wrap (x.2.2.2+1)))) (some (Sum.inl PUnit.unit))
def gz1:List Place×List Place×Int×Int->Option ((Unit)⊕(Bool)):=iter gz0 big
def lz8:CutSpec tb:=⟨44,[(0,.val 37),(1,.val 37),(12,.val 3),(13,.val 3)],[((.exit 0),[]),(.ret,[(4,.val 4)])],[14,15,5,16,17,18,19,20,21,22,23,24,4,25,13],gz1,none⟩
theorem lzo:A3 Tryz.f95 44 lz8:=A4 .nil .nil gz0
def izc (x:List Place×List Place):Option (Bool):=brn (!decide ((↑x.1.length:Int)=(↑x.2.length:Int))) (some false) (obnd (gz1 (x.1,x.2,(↑x.1.length:Int),0)) fun y=>osum y (fun y=>some true) fun y=>some y)
def nza:FSpec tb:=⟨[(0,.val 37),(1,.val 37)],[(0,.val 4)],izc⟩
theorem lzG:A0 95 nza:=A2 Tryz.func95 .nil (.cons lzo .nil)
def EzT (x:Globals×Globals):Option (Bool):=obnd (bz6 (x.1.Sheets,x.2.Sheets)) fun y=>brn y (obnd (bz6 (x.1.Formats,x.2.Formats)) fun y=>brn y (obnd (nzX (x.1.XFs,x.2.XFs)) fun y=>brn y (obnd (bzQ (x.1.Names,x.2.Names,())) fun y=>brn y (obnd (bz6 (x.1.Texts.Texts,x.2.Texts.Texts)) fun y=>brn y (brn (decide (x.1.Texts.Uses=x.2.Texts.Uses)) (obnd (izc (x.1.Chain,x.2.Chain)) fun y=>some y) (some false)) (some false)) (some false)) (some false)) (some false)) (some false)
def Mzc:FSpec tb:=⟨[(0,.val 39),(1,.val 39)],[(0,.val 4)],EzT⟩
theorem EzU:A0 43 Mzc:=A1 Tryz.func43 (.cons izJ (.cons qzI (.cons dz3 (.cons lzG .nil))))
def gz2 (back:List Row×List Row×Int×Int->Option ((Unit)⊕(Bool)))(x:List Row×List Row×Int×Int):Option ((Unit)⊕(Bool)):=brn (decide (x.2.2.2<x.2.2.1)) (obnd (idx x.1 x.2.2.2) fun y=>obnd (idx x.2.1 x.2.2.2) fun y_1=>brn (bif true then !(decide (y.Row=y_1.Row)&&(decide (y.Height=y_1.Height)&&decide (y.Hidden=y_1.Hidden)))else decide (y.Row=y_1.Row)&&(decide (y.Height=y_1.Height)&&decide (y.Hidden=y_1.Hidden))) (some (Sum.inr false)) (back (x.1,x.2.1,x.2.2.1,i64.wrap (x.2.2.2+1)))) (some (Sum.inl PUnit.unit))
def gz3:List Row×List Row×Int×Int->Option ((Unit)⊕(Bool)):=iter gz2 big
def mzb:CutSpec tb:=⟨44,[(0,.val 97),(1,.val 97),(12,.val 3),(13,.val 3)],[((.exit 0),[]),(.ret,[(4,.val 4)])],[14,15,5,16,17,18,19,20,21,22,23,24,4,25,13],gz3,none⟩
theorem lzp:A3 Tryz.f96 44 mzb:=A4 .nil .nil gz2
def izd (x:List Row×List Row):Option (Bool):=brn (!decide ((↑x.1.length:Int)=(↑x.2.length:Int))) (some false) (obnd (gz3 (x.1,x.2,(↑x.1.length:Int),0)) fun y=>osum y (fun y=>some true) fun y=>some y)
def nzb:FSpec tb:=⟨[(0,.val 97),(1,.val 97)],[(0,.val 4)],izd⟩
theorem lzH:A0 96 nzb:=A2 Tryz.func96 .nil (.cons lzp .nil)
def Czb (x:Cell2×Cell2):Option (Bool):=brn (bif false then !(decide (x.1.At.Row=x.2.At.Row)&&decide (x.1.At.Col=x.2.At.Col))else decide (x.1.At.Row=x.2.At.Row)&&decide (x.1.At.Col=x.2.At.Col)) (brn (decide (x.1.XF=x.2.XF)) (brn (bif false then !(decide (x.1.V.Kind=x.2.V.Kind)&&(decide (x.1.V.N.M=x.2.V.N.M)&&(decide (x.1.V.N.S=x.2.V.N.S)&&(decide (x.1.V.S=x.2.V.S)&&(decide (x.1.V.B=x.2.V.B)&&decide (x.1.V.E=x.2.V.E))))))else decide (x.1.V.Kind=x.2.V.Kind)&&(decide (x.1.V.N.M=x.2.V.N.M)&&(decide (x.1.V.N.S=x.2.V.N.S)&&(decide (x.1.V.S=x.2.V.S)&&(decide (x.1.V.B=x.2.V.B)&&decide (x.1.V.E=x.2.V.E)))))) (brn (decide (x.1.Has=x.2.Has)) (obnd (kzL (azf x.1.E,azf x.2.E)) fun y=>some y) (some false)) (some false)) (some false)) (some false)
def Czc:FSpec tb:=⟨[(0,.val 108),(1,.val 108)],[(0,.val 4)],Czb⟩
theorem Cz0:A0 98 Czc:=A1 Tryz.func98 (.cons hzk .nil)
abbrev dz1:List (Nat×FSpec tb):=[(98,Czc)]
theorem bzi:azj Tryz.prog tb (dz1):=(.cons Cz0 .nil)
def bzj (back:List Cell2×Unit×List Cell2×Int×Int->Option ((Unit)⊕(Bool)))(x:List Cell2×Unit×List Cell2×Int×Int):Option ((Unit)⊕(Bool)):=brn (decide (x.2.2.2.2<x.2.2.2.1)) (obnd (idx x.2.2.1 x.2.2.2.2) fun y=>obnd (idx x.1 x.2.2.2.2) fun y_1=>obnd (Czb (Cell2.mk y.At y.XF y.V y.Has (azf y.E),Cell2.mk y_1.At y_1.XF y_1.V y_1.Has (azf y_1.E))) fun y=>brn (!y) (some (Sum.inr false)) (back (x.1,(),x.2.2.1,x.2.2.2.1,i64.wrap (x.2.2.2.2+1)))) (some (Sum.inl PUnit.unit))
def bzk:List Cell2×Unit×List Cell2×Int×Int->Option ((Unit)⊕(Bool)):=iter bzj big
def dzN:CutSpec tb:=⟨44,[(1,.val 98),(2,.fnp 98 0),(15,.val 98),(16,.val 3),(17,.val 3)],[((.exit 0),[]),(.ret,[(6,.val 4)])],[18,19,20,21,8,7,22,23,24,25,9,26,27,28,29,30,6,31,17],bzk,none⟩
theorem dzk:A3 Tryz.f97 44 dzN:=A4 bzi .nil bzj
def bzq (x:List Cell2×List Cell2×Unit):Option (Bool):=brn (!decide ((↑x.1.length:Int)=(↑x.2.1.length:Int))) (some false) (obnd (bzk (x.2.1,(),x.1,(↑x.1.length:Int),0)) fun y=>osum y (fun y=>some true) fun y=>some y)
def dz2:FSpec tb:=⟨[(0,.val 98),(1,.val 98),(2,.fnp 98 0)],[(0,.val 4)],bzq⟩
theorem dzG:A0 97 dz2:=A2 Tryz.func97 bzi (.cons dzk .nil)
def CzL (x:Sheet×Sheet):Option (Bool):=obnd (izd (x.1.Rows,x.2.Rows)) fun y=>brn y (obnd (bzq (x.1.Cells,x.2.Cells,())) fun y=>brn y (obnd (azF (x.1.Groups,x.2.Groups,())) fun y=>some y) (some false)) (some false)
def CzM:FSpec tb:=⟨[(0,.val 101),(1,.val 101)],[(0,.val 4)],CzL⟩
theorem DzZ:A0 45 CzM:=A1 Tryz.func45 (.cons lzH (.cons dzG (.cons az0 .nil)))
abbrev dzK:List (Nat×FSpec tb):=[(45,CzM)]
theorem az7:azj Tryz.prog tb (dzK):=(.cons DzZ .nil)
def az8 (back:List Sheet×Unit×List Sheet×Int×Int->Option ((Unit)⊕(Bool)))(x:List Sheet×Unit×List Sheet×Int×Int):Option ((Unit)⊕(Bool)):=brn (decide (x.2.2.2.2<x.2.2.2.1)) (obnd (idx x.2.2.1 x.2.2.2.2) fun y=>obnd (idx x.1 x.2.2.2.2) fun y_1=>obnd (CzL (y,y_1)) fun y=>brn (!y) (some (Sum.inr false)) (back (x.1,(),x.2.2.1,x.2.2.2.1,i64.wrap (x.2.2.2.2+1)))) (some (Sum.inl PUnit.unit))
def az9:List Sheet×Unit×List Sheet×Int×Int->Option ((Unit)⊕(Bool)):=iter az8 big
def dzg:CutSpec tb:=⟨44,[(1,.val 40),(2,.fnp 45 0),(15,.val 40),(16,.val 3),(17,.val 3)],[((.exit 0),[]),(.ret,[(6,.val 4)])],[18,19,20,21,8,7,22,23,24,25,9,26,27,28,29,30,6,31,17],az9,none⟩
theorem czW:A3 Tryz.f44 44 dzg:=A4 az7 .nil az8
def bzh (x:List Sheet×List Sheet×Unit):Option (Bool):=brn (!decide ((↑x.1.length:Int)=(↑x.2.1.length:Int))) (some false) (obnd (az9 (x.2.1,(),x.1,(↑x.1.length:Int),0)) fun y=>osum y (fun y=>some true) fun y=>some y)
def dzL:FSpec tb:=⟨[(0,.val 40),(1,.val 40),(2,.fnp 45 0)],[(0,.val 4)],bzh⟩
theorem cz0:A0 44 dzL:=A2 Tryz.func44 az7 (.cons czW .nil)
def wzc (x:Book×Book):Option (Bool):=obnd (EzT (x.1.Globals,x.2.Globals)) fun y=>brn y (obnd (bzh (x.1.Sheets,x.2.Sheets,())) fun y=>some y) (some false)
def Ezo:FSpec tb:=⟨[(0,.val 42),(1,.val 42)],[(0,.val 4)],wzc⟩
theorem Ezp:A0 11 Ezo:=A1 Tryz.func11 (.cons EzU (.cons cz0 .nil))
def yzO (x:Env×Place):Option (Bool):=brn (decide (0<=x.2.Sheet)) (brn (decide (x.2.Sheet<x.1.Sheets)) (obnd (jzr x.2.At) fun y=>some y) (some false)) (some false)
def Hz8:FSpec tb:=⟨[(0,.val 60),(1,.val 82)],[(0,.val 4)],yzO⟩
theorem GzJ:A0 58 Hz8:=A1 Tryz.func58 (.cons kzA .nil)
def wzj (x:Place×Place):Option (Int):=obnd (bzH (x.1.Sheet,x.2.Sheet)) fun y=>obnd (bzH (x.1.At.Row,x.2.At.Row)) fun y_1=>obnd (bzH (x.1.At.Col,x.2.At.Col)) fun y_2=>obnd (jzJ [y,y_1,y_2]) fun y=>some y
def LzY:FSpec tb:=⟨[(0,.val 82),(1,.val 82)],[(0,.val 3)],wzj⟩
theorem EzG:A0 64 LzY:=A1 Tryz.func64 (.cons hzj (.cons kzK .nil))
def nzN (x:Place×Place):Option (Bool):=obnd (wzj x) fun y=>some (decide (y<0))
def yzN:FSpec tb:=⟨[(0,.val 82),(1,.val 82)],[(0,.val 4)],nzN⟩
theorem uzQ:A0 24 yzN:=A1 Tryz.func24 (.cons EzG .nil)
def rzT (x:Expr):Option (Bool):=some (decide (x.Kind=6))
def yzM:FSpec tb:=⟨[(0,.val 90)],[(0,.val 4)],rzT⟩
theorem Az4:A0 63 yzM:=A1 Tryz.func63 .nil
abbrev izo:List (Nat×FSpec tb):=[(63,yzM)]
theorem dzo:azj Tryz.prog tb (izo):=(.cons Az4 .nil)
def azM (back:List Expr×Unit×Int×Int->Option ((Unit)⊕(Int)))(x:List Expr×Unit×Int×Int):Option ((Unit)⊕(Int)):=brn (decide (x.2.2.2<x.2.2.1)) (obnd (idx x.1 x.2.2.2) fun y=>obnd (rzT (azf y)) fun y=>brn y (some (Sum.inr x.2.2.2)) (back (x.1,(),x.2.2.1,i64.wrap (x.2.2.2+1)))) (some (Sum.inl PUnit.unit))
def bzI:List Expr×Unit×Int×Int->Option ((Unit)⊕(Int)):=iter azM big
def hzz:CutSpec tb:=⟨28,[(0,.val 35),(1,.fnp 63 0),(7,.val 3),(8,.val 3)],[((.exit 0),[]),(.ret,[(4,.val 3)])],[9,10,5,11,12,13,14,15,16,17,4,18,8],bzI,none⟩
theorem gzB:A3 Tryz.f119 28 hzz:=A4 dzo .nil azM
def bzY (x:List Expr×Unit):Option (Int):=obnd (bzI (x.1,(),(↑x.1.length:Int),0)) fun y=>osum y (fun y=>some (-1)) fun y=>some y
def izp:FSpec tb:=⟨[(0,.val 35),(1,.fnp 63 0)],[(0,.val 3)],bzY⟩
theorem gz5:A0 119 izp:=A2 Tryz.func119 dzo (.cons gzB .nil)
def azX (x:List Expr×Unit):Option (Bool):=obnd (bzY (x.1,())) fun y=>some (decide (0<=y))
def dzj:FSpec tb:=⟨[(0,.val 35),(1,.fnp 63 0)],[(0,.val 4)],azX⟩
theorem fzU:A0 61 dzj:=A1 Tryz.func61 (.cons gz5 .nil)
abbrev LzX:List (Nat×FSpec tb):=[(58,Hz8),(59,Gzr),(24,yzN),(60,Czh),(62,EzI),(61,dzj)]
theorem qzs:azj Tryz.prog tb (LzX):=(.cons GzJ (.cons ozX (.cons uzQ (.cons rzY (.cons tzf (.cons fzU .nil))))))
def kz5 (back:Env×List Slot×Int×Int->Option ((Unit)⊕(Int)))(x:Env×List Slot×Int×Int):Option ((Unit)⊕(Int)):=brn (decide (x.2.2.2<x.2.2.1)) (obnd (idx x.2.1 x.2.2.2) fun y=>obnd (yzO (x.1,y.P)) fun y_1=>brn (!y_1) (some (Sum.inr 12)) (obnd (mzM y.V) fun y_2=>brn (!decide (y_2=0)) (some (Sum.inr y_2)) (brn (decide (y.V.Kind=0)) (some (Sum.inr 1)) (brn (decide (0<x.2.2.2)) (obnd (idx x.1.Slots (i64.wrap (x.2.2.2-1))) fun y_3=>obnd (nzN (y_3.P,y.P)) fun y=>brn (!y) (some (Sum.inr 6)) (back (x.1,x.2.1,x.2.2.1,i64.wrap (x.2.2.2+1)))) (back (x.1,x.2.1,x.2.2.1,i64.wrap (x.2.2.2+1))))))) (some (Sum.inl PUnit.unit))
def qzt:Env×List Slot×Int×Int->Option ((Unit)⊕(Int)):=iter kz5 big
def IzP:CutSpec tb:=⟨60,[(1,.ro 60),(26,.val 58),(27,.val 3),(28,.val 3)],[((.exit 0),[]),(.ret,[(2,.val 44)])],[29,30,31,32,4,3,33,34,35,36,37,2,38,39,40,41,42,43,44,45,46,47,48,49,50,51,52,53,54,55,56,57,58,59,60,61,62,63,28],qzt,none⟩
theorem Cz4:A3 Tryz.f23 60 IzP:=A4 qzs .nil kz5
def kz6 (back:List Expr×Int×Int->Option ((Unit)⊕(Int)))(x:List Expr×Int×Int):Option ((Unit)⊕(Int)):=brn (decide (x.2.2<x.2.1)) (obnd (idx x.1 x.2.2) fun y=>obnd (mz3 (azf y)) fun y_1=>brn (!decide (y_1=0)) (some (Sum.inr y_1)) (obnd (rze (azf y)) fun y=>obnd (azX (y,())) fun y=>brn y (some (Sum.inr 3)) (back (x.1,x.2.1,i64.wrap (x.2.2+1))))) (some (Sum.inl PUnit.unit))
def qzu:List Expr×Int×Int->Option ((Unit)⊕(Int)):=iter kz6 big
def IzQ:CutSpec tb:=⟨164,[(65,.val 35),(66,.val 3),(67,.val 3)],[((.exit 2),[]),(.ret,[(2,.val 44)])],[68,69,70,6,71,72,2,73,74,75,76,77,78,79,67],qzu,none⟩
theorem Cz5:A3 Tryz.f23 164 IzQ:=A4 qzs .nil kz6
def rza (x:Env):Option (Int):=brn (decide (x.Sheets<1)) (some 1) (brn (decide (8<x.Sheets)) (some 1) (brn (decide (4096<(↑x.Slots.length:Int))) (some 4) (brn (decide (1024<(↑x.Names.length:Int))) (some 4) (obnd (qzt (x,x.Slots,(↑x.Slots.length:Int),0)) fun y=>osum y (fun y=>obnd (qzu (x.Names,(↑x.Names.length:Int),0)) fun y=>osum y (fun y=>some 0) fun y=>some y) fun y=>some y))))
def EzE:FSpec tb:=⟨[(0,.val 60)],[(0,.val 44)],rza⟩
theorem EzF:A0 23 EzE:=A2 Tryz.func23 qzs (.cons Cz4 (.cons Cz5 .nil))
end
set_option linter.unusedVariables false
set_option maxRecDepth 100000
noncomputable section
def fzh (self:Expr×Int×Int×Int->Option ((Bool)×Int)):FSpec tb:=⟨[(0,.val 76),(1,.val 3),(2,.val 3),(3,.ref 3)],[(0,.val 4)],self⟩
abbrev wzu (self:Expr×Int×Int×Int->Option ((Bool)×Int)):List (Nat×FSpec tb):=[(123,(fzh self))]
theorem xzl (self:Expr×Int×Int×Int->Option ((Bool)×Int))(hself:azu Tryz.prog tb 123 (fzh self)):azj Tryz.prog tb (wzu self):=(.cons hself .nil)
def izY (self:Expr×Int×Int×Int->Option ((Bool)×Int))(back:Int×Int×Int×Expr×Int->Option (((Unit)×Int)⊕((Bool)×Int)))(x:Int×Int×Int×Expr×Int):Option (((Unit)×Int)⊕((Bool)×Int)):=brn (decide (x.2.2.2.2<(↑x.2.2.2.1.Kids.length:Int))) (obnd (idx x.2.2.2.1.Kids x.2.2.2.2) fun y=>obnd (self (azf y,i64.wrap (x.1-1),x.2.1,x.2.2.1)) fun y=>brn (!y.1) (some (Sum.inr (false,y.2))) (back (x.1,x.2.1,y.2,azf x.2.2.2.1,i64.wrap (x.2.2.2.2+1)))) (some (Sum.inl ((),x.2.2.1)))
def qzx (self:Expr×Int×Int×Int->Option ((Bool)×Int)):Int×Int×Int×Expr×Int->Option (((Unit)×Int)⊕((Bool)×Int)):=iter (izY self) big
def lza (self:Expr×Int×Int×Int->Option ((Bool)×Int)):CutSpec tb:=⟨52,[(1,.val 3),(2,.val 3),(3,.ref 3),(4,.ro 76),(9,.val 3)],[((.exit 0),[]),(.ret,[(8,.val 4)])],[32,33,34,35,36,39,40,41,42,43,44,45,46,47,48,49,8,37,38,9],(qzx self),none⟩
theorem Ez2 (self:Expr×Int×Int×Int->Option ((Bool)×Int)):∀back x,fzL Tryz.prog tb (wzu self) [] (bzB 52 Tryz.f123) (lza self).ins (lza self).outs back x=izY self back x:=fun back x=>by kernel_rfl
theorem Gz6 (self:Expr×Int×Int×Int->Option ((Bool)×Int)):cutB Tryz.f123.ntmps (lza self) (bzB 52 Tryz.f123)=true:=by kernel_rfl
theorem Dzg (self:Expr×Int×Int×Int->Option ((Bool)×Int))(hself:azu Tryz.prog tb 123 (fzh self)):A3 Tryz.f123 52 (lza self):=A4 (xzl self hself) .nil (izY self) (hb:=(Gz6 self)) (hF:=(Ez2 self))
def fzg (self:Expr×Int×Int×Int->Option ((Bool)×Int))(x:Expr×Int×Int×Int):Option ((Bool)×Int):=brn (decide (x.2.1=0)) (some (false,i64.wrap (x.2.2.2+1))) (brn (decide (x.2.2.1<i64.wrap (x.2.2.2+1))) (some (false,i64.wrap (x.2.2.2+1))) (brn (decide (3000<(↑x.1.V.S.length:Int))) (some (false,i64.wrap (x.2.2.2+1))) (obnd ((qzx self) (x.2.1,x.2.2.1,i64.wrap (x.2.2.2+1),azf x.1,0)) fun y=>osum y (fun y=>some (true,y.2)) fun y=>some (y.1,y.2))))
theorem Jz6 (self:Expr×Int×Int×Int->Option ((Bool)×Int)):∀x,evFn Tryz.prog tb (wzu self) [(lza self)] Tryz.f123 (fzh (fzg self)).ins (fzh (fzg self)).outs x=(fzh (fzg self)).f x:=fun x=>by kernel_rfl
theorem Lzv (self:Expr×Int×Int×Int->Option ((Bool)×Int)):fnK Tryz.f123 (fzh (fzg self)).ins (fzh (fzg self)).outs=true:=by kernel_rfl
theorem Gz7 (self:Expr×Int×Int×Int->Option ((Bool)×Int))(hself:azu Tryz.prog tb 123 (fzh self)):A0 123 (fzh (fzg self)):=A2 Tryz.func123 (xzl self hself) (.cons (Dzg self hself) .nil) (hk:=(Lzv self)) (hJ:=(Jz6 self))
def wzt:Expr×Int×Int×Int->Option ((Bool)×Int):=iter fzg big
def Mzk:FSpec tb:=fzh wzt
theorem Ez3:azu Tryz.prog tb 123 Mzk:=nz6 (fzE Tryz.func123 (by kernel_rfl)) Gz7
def iz5 (x:Expr×Int):Option (Bool):=obnd (wzt (azf x.1,40,x.2,0)) fun y=>some y.1
def rzj:FSpec tb:=⟨[(0,.val 76),(1,.val 3)],[(0,.val 4)],iz5⟩
theorem oza:A0 66 rzj:=A1 Tryz.func66 (.cons Ez3 .nil)
abbrev Mzp:List (Nat×FSpec tb):=[(66,rzj)]
theorem lzd:azj Tryz.prog tb (Mzp):=(.cons oza .nil)
def lze (back:Globals×Int×Int->Option (Int))(x:Globals×Int×Int):Option (Int):=brn (decide (x.2.2<(↑x.1.Sheets.length:Int))) (obnd (idx x.1.Sheets x.2.2) fun y=>back (x.1,i64.wrap (x.2.1+(↑(List.length y):Int)),i64.wrap (x.2.2+1))) (some x.2.1)
def qzA:Globals×Int×Int->Option (Int):=iter lze big
def IzY:CutSpec tb:=⟨52,[(1,.ro 29),(3,.val 3),(4,.val 3)],[((.exit 0),[(3,.val 3)])],[43,44,45,46,47,50,51,52,53,54,55,56,57,3,48,49,4],qzA,none⟩
theorem Dzj:A3 Tryz.f30 52 IzY:=A4 lzd .nil lze
def lzf (back:Globals×Int×Int->Option (Int))(x:Globals×Int×Int):Option (Int):=brn (decide (x.2.2<(↑x.1.Formats.length:Int))) (obnd (idx x.1.Formats x.2.2) fun y=>back (x.1,i64.wrap (x.2.1+(↑(List.length y):Int)),i64.wrap (x.2.2+1))) (some x.2.1)
def qzB:Globals×Int×Int->Option (Int):=iter lzf big
def IzZ:CutSpec tb:=⟨84,[(1,.ro 29),(3,.val 3),(5,.val 3)],[((.exit 2),[(3,.val 3)])],[58,59,60,61,62,65,66,67,68,69,70,71,72,3,63,64,5],qzB,none⟩
theorem Dzk:A3 Tryz.f30 84 IzZ:=A4 lzd .nil lzf
def lzg (back:Globals×Int×Int->Option (Int))(x:Globals×Int×Int):Option (Int):=brn (decide (x.2.2<(↑x.1.Texts.Texts.length:Int))) (obnd (idx x.1.Texts.Texts x.2.2) fun y=>back (x.1,i64.wrap (x.2.1+(↑(List.length y):Int)),i64.wrap (x.2.2+1))) (some x.2.1)
def qzC:Globals×Int×Int->Option (Int):=iter lzg big
def Iz0:CutSpec tb:=⟨116,[(1,.ro 29),(3,.val 3),(6,.val 3)],[((.exit 4),[(3,.val 3)])],[73,74,75,76,77,78,81,82,83,84,85,86,87,88,89,3,79,80,6],qzC,none⟩
theorem Dzl:A3 Tryz.f30 116 Iz0:=A4 lzd .nil lzg
def lzh (back:Globals×Int->Option ((Unit)⊕(Bool)))(x:Globals×Int):Option ((Unit)⊕(Bool)):=brn (decide (x.2<(↑x.1.Names.length:Int))) (obnd (idx x.1.Names x.2) fun y=>obnd (iz5 (azf y,100)) fun y=>brn (!y) (some (Sum.inr false)) (back (x.1,i64.wrap (x.2+1)))) (some (Sum.inl PUnit.unit))
def qzD:Globals×Int->Option ((Unit)⊕(Bool)):=iter lzh big
def Iz1:CutSpec tb:=⟨148,[(1,.ro 29),(7,.val 3)],[((.exit 6),[]),(.ret,[(2,.val 4)])],[90,91,92,93,94,97,98,99,100,101,102,103,2,95,96,7],qzD,none⟩
theorem Dzm:A3 Tryz.f30 148 Iz1:=A4 lzd .nil lzh
def rzn (x:Globals):Option (Bool):=brn (decide (20<(↑x.Sheets.length:Int))) (some false) (brn (decide (100<(↑x.Formats.length:Int))) (some false) (brn (decide (400<(↑x.XFs.length:Int))) (some false) (brn (decide (30<(↑x.Names.length:Int))) (some false) (brn (decide (60<(↑x.Texts.Texts.length:Int))) (some false) (brn (decide (200<(↑x.Chain.length:Int))) (some false) (obnd (qzA (x,0,0)) fun y=>obnd (qzB (x,y,0)) fun y=>obnd (qzC (x,y,0)) fun y=>obnd (qzD (x,0)) fun y_1=>osum y_1 (fun y_2=>some (decide (y<20000))) fun y=>some y))))))
def Fzd:FSpec tb:=⟨[(0,.val 29)],[(0,.val 4)],rzn⟩
theorem Fze:A0 30 Fzd:=A2 Tryz.func30 lzd (.cons Dzj (.cons Dzk (.cons Dzl (.cons Dzm .nil))))
abbrev Mzn:List (Nat×FSpec tb):=[(66,rzj)]
theorem xzn:azj Tryz.prog tb (Mzn):=(.cons oza .nil)
def lzc (back:List Cell2×Int->Option ((Unit)⊕(Bool)))(x:List Cell2×Int):Option ((Unit)⊕(Bool)):=brn (decide (x.2<(↑x.1.length:Int))) (obnd (idx x.1 x.2) fun y=>obnd (iz5 (azf y.E,60)) fun y=>brn (!y) (some (Sum.inr false)) (obnd (idx x.1 x.2) fun y=>brn (decide (3000<(↑y.V.S.length:Int))) (some (Sum.inr false)) (back (x.1,i64.wrap (x.2+1))))) (some (Sum.inl PUnit.unit))
def qzz:List Cell2×Int->Option ((Unit)⊕(Bool)):=iter lzc big
def IzX:CutSpec tb:=⟨44,[(0,.val 117),(3,.val 3)],[((.exit 0),[]),(.ret,[(2,.val 4)])],[7,8,9,10,13,14,15,16,17,18,19,20,21,22,23,24,25,26,27,28,29,2,11,12,3],qzz,none⟩
theorem Dzi:A3 Tryz.f67 44 IzX:=A4 xzn .nil lzc
def rzl (x:List Cell2):Option (Bool):=brn (decide (120<(↑x.length:Int))) (some false) (obnd (qzz (x,0)) fun y=>osum y (fun y=>some true) fun y=>some y)
def Mzo:FSpec tb:=⟨[(0,.val 117)],[(0,.val 4)],rzl⟩
theorem Ez8:A0 67 Mzo:=A2 Tryz.func67 xzn (.cons Dzi .nil)
abbrev Mzl:List (Nat×FSpec tb):=[(66,rzj)]
theorem xzm:azj Tryz.prog tb (Mzl):=(.cons oza .nil)
def lzb (back:List Group×Int->Option ((Unit)⊕(Bool)))(x:List Group×Int):Option ((Unit)⊕(Bool)):=brn (decide (x.2<(↑x.1.length:Int))) (obnd (idx x.1 x.2) fun y=>obnd (iz5 (azf y.E,60)) fun y=>brn (!y) (some (Sum.inr false)) (back (x.1,i64.wrap (x.2+1)))) (some (Sum.inl PUnit.unit))
def qzy:List Group×Int->Option ((Unit)⊕(Bool)):=iter lzb big
def IzW:CutSpec tb:=⟨44,[(0,.val 118),(3,.val 3)],[((.exit 0),[]),(.ret,[(2,.val 4)])],[7,8,9,10,13,14,15,16,17,18,19,2,11,12,3],qzy,none⟩
theorem Dzh:A3 Tryz.f68 44 IzW:=A4 xzm .nil lzb
def rzk (x:List Group):Option (Bool):=brn (decide (20<(↑x.length:Int))) (some false) (obnd (qzy (x,0)) fun y=>osum y (fun y=>some true) fun y=>some y)
def Mzm:FSpec tb:=⟨[(0,.val 118)],[(0,.val 4)],rzk⟩
theorem Ez6:A0 68 Mzm:=A2 Tryz.func68 xzm (.cons Dzh .nil)
def rzm (x:Sheet):Option (Bool):=brn (decide ((↑x.Rows.length:Int)<=60)) (obnd (rzl x.Cells) fun y=>brn y (obnd (rzk x.Groups) fun y=>some y) (some false)) (some false)
def Fza:FSpec tb:=⟨[(0,.val 120)],[(0,.val 4)],rzm⟩
theorem Fzb:A0 31 Fza:=A1 Tryz.func31 (.cons Ez8 (.cons Ez6 .nil))
abbrev Mzq:List (Nat×FSpec tb):=[(30,Fzd),(31,Fza)]
theorem xzo:azj Tryz.prog tb (Mzq):=(.cons Fze (.cons Fzb .nil))
def lzi (back:Book×Int->Option ((Unit)⊕(Bool)))(x:Book×Int):Option ((Unit)⊕(Bool)):=brn (decide (x.2<(↑x.1.Sheets.length:Int))) (obnd (idx x.1.Sheets x.2) fun y=>obnd (rzm y) fun y=>brn (!y) (some (Sum.inr false)) (back (x.1,i64.wrap (x.2+1)))) (some (Sum.inl PUnit.unit))
def qzE:Book×Int->Option ((Unit)⊕(Bool)):=iter lzi big
def Iz2:CutSpec tb:=⟨44,[(1,.ro 32),(3,.val 3)],[((.exit 0),[]),(.ret,[(2,.val 4)])],[14,15,16,17,18,21,22,23,24,25,26,27,2,19,20,3],qzE,none⟩
theorem Dzo:A3 Tryz.f7 44 Iz2:=A4 xzo .nil lzi
def rzo (x:Book):Option (Bool):=obnd (rzn x.Globals) fun y=>brn (!y) (some false) (brn (decide (12<(↑x.Sheets.length:Int))) (some false) (obnd (qzE (x,0)) fun y=>osum y (fun y=>some true) fun y=>some y))
def Fzf:FSpec tb:=⟨[(0,.val 32)],[(0,.val 4)],rzo⟩
theorem Fzg:A0 7 Fzf:=A2 Tryz.func7 xzo (.cons Dzo .nil)
def Kze (x:Dec):Option (Dec):=some x
def law4_ToS:FSpec tb:=⟨[(0,.val 68)],[(0,.val 83)],Kze⟩
theorem Iz3:A0 212 law4_ToS:=A1 Tryz.func212 .nil
def szb (x:Val):Option (Val):=obnd (Kze x.N) fun y=>some (Val.mk x.Kind y x.S x.B x.E)
def Kzi:FSpec tb:=⟨[(0,.val 70)],[(0,.val 85)],szb⟩
theorem xzp:A0 179 Kzi:=A1 Tryz.func179 (.cons Iz3 .nil)
def Dzp (x:Ref):Option (Ref):=some x
def law8_ToS:FSpec tb:=⟨[(0,.val 72)],[(0,.val 86)],Dzp⟩
theorem Iz5:A0 213 law8_ToS:=A1 Tryz.func213 .nil
def sza (x:Area):Option (Area):=obnd (Dzp x.A) fun y=>obnd (Dzp x.B) fun y_1=>some (Area.mk y y_1)
def zzk:FSpec tb:=⟨[(0,.val 74)],[(0,.val 88)],sza⟩
theorem Bzj:A0 180 zzk:=A1 Tryz.func180 (.cons Iz5 .nil)
def nzS (self:Expr->Option (Expr)):FSpec tb:=⟨[(0,.val 76)],[(0,.val 90)],self⟩
abbrev law10_ToG (self:Expr->Option (Expr)):List (Nat×FSpec tb):=[(179,Kzi),(180,zzk),(124,(nzS self))]
theorem yz7 (self:Expr->Option (Expr))(hself:azu Tryz.prog tb 124 (nzS self)):azj Tryz.prog tb (law10_ToG self):=(.cons xzp (.cons Bzj (.cons hself .nil)))
def lzT (self:Expr->Option (Expr))(back:List (Expr)×Expr×Expr×Int->Option ((List (Expr))×Expr))(x:List (Expr)×Expr×Expr×Int):Option ((List (Expr))×Expr):=brn (decide (x.2.2.2<(↑x.2.1.Kids.length:Int))) (obnd (idx x.2.1.Kids x.2.2.2) fun y=>obnd (self (azf y)) fun y=>obnd (app 152 x.1 [azf y]) fun zs=>back (zs,azf x.2.1,Expr.mk x.2.2.1.Kind x.2.2.1.V x.2.2.1.A x.2.2.1.Sheet x.2.2.1.Op zs,i64.wrap (x.2.2.2+1))) (some (x.1,Expr.mk x.2.2.1.Kind x.2.2.1.V x.2.2.1.A x.2.2.1.Sheet x.2.2.1.Op x.1))
def rz5 (self:Expr->Option (Expr)):List (Expr)×Expr×Expr×Int->Option ((List (Expr))×Expr):=iter (lzT self) big
def Jz5 (self:Expr->Option (Expr)):CutSpec tb:=⟨36,[(77309411331,.own 90),(1,.ro 76),(3,.ref 90),(4,.val 3)],[((.exit 0),[(77309411331,.own 90)])],[18,19,20,21,22,25,26,27,28,29,30,31,32,33,34,35,23,24,4],(rz5 self),none⟩
theorem Ez1 (self:Expr->Option (Expr))(hself:azu Tryz.prog tb 124 (nzS self)):A3 Tryz.f124 36 (Jz5 self):=A4 (yz7 self hself) .nil (lzT self)
def nzR (self:Expr->Option (Expr))(x:Expr):Option (Expr):=obnd (szb x.V) fun y=>obnd (sza x.A) fun y_1=>obnd ((rz5 self) ([],azf x,Expr.mk x.Kind y y_1 x.Sheet x.Op [],0)) fun y=>some (Expr.mk y.2.Kind y.2.V y.2.A y.2.Sheet y.2.Op y.1)
theorem IzU (self:Expr->Option (Expr))(hself:azu Tryz.prog tb 124 (nzS self)):A0 124 (nzS (nzR self)):=A2 Tryz.func124 (yz7 self hself) (.cons (Ez1 self hself) .nil)
def pz3:Expr->Option (Expr):=iter nzR big
def Izh:FSpec tb:=nzS pz3
theorem pzi:azu Tryz.prog tb 124 Izh:=nz6 (fzE Tryz.func124 (by kernel_rfl)) IzU
abbrev Jz3:List (Nat×FSpec tb):=[(124,Izh)]
theorem tzo:azj Tryz.prog tb (Jz3):=(.cons pzi .nil)
def iz6 (back:List Expr×List (Expr)×Int->Option (List (Expr)))(x:List Expr×List (Expr)×Int):Option (List (Expr)):=brn (decide (x.2.2<(↑x.1.length:Int))) (obnd (idx x.1 x.2.2) fun y=>obnd (pz3 (azf y)) fun y=>obnd (app 152 x.2.1 [azf y]) fun zs=>back (x.1,zs,i64.wrap (x.2.2+1))) (some x.2.1)
def ozc:List Expr×List (Expr)×Int->Option (List (Expr)):=iter iz6 big
def Ez0:CutSpec tb:=⟨36,[(0,.val 24),(3,.own 90),(4,.val 3)],[((.exit 0),[(3,.own 90)])],[5,6,7,8,11,12,13,14,15,16,17,18,3,9,10,4],ozc,none⟩
theorem yz6:A3 Tryz.f69 36 Ez0:=A4 tzo .nil iz6
def ozb (x:List Expr):Option (List (Expr)):=obnd (ozc (x,[],0)) fun y=>some y
def Jz4:FSpec tb:=⟨[(0,.val 24)],[(0,.own 90)],ozb⟩
theorem Bzf:A0 69 Jz4:=A2 Tryz.func69 tzo (.cons yz6 .nil)
def wzy (x:Table):Option (Table):=obnd (app 16 [] x.Texts) fun zs=>some (Table.mk zs x.Uses)
def law7_ToS:FSpec tb:=⟨[(0,.val 26)],[(0,.val 36)],wzy⟩
theorem Iz4:A0 70 law7_ToS:=A1 Tryz.func70 .nil
def gzV (x:Cell):Option (Cell):=some x
def Kzf:FSpec tb:=⟨[(0,.val 64)],[(0,.val 80)],gzV⟩
theorem mzS:A0 181 Kzf:=A1 Tryz.func181 .nil
def pzj (x:Place):Option (Place):=obnd (gzV x.At) fun y=>some (Place.mk x.Sheet y)
def uz8:FSpec tb:=⟨[(0,.val 66)],[(0,.val 82)],pzj⟩
theorem xzW:A0 125 uz8:=A1 Tryz.func125 (.cons mzS .nil)
abbrev Ez4:List (Nat×FSpec tb):=[(125,uz8)]
theorem pz4:azj Tryz.prog tb (Ez4):=(.cons xzW .nil)
def gzU (back:List Place×List (Place)×Int->Option (List (Place)))(x:List Place×List (Place)×Int):Option (List (Place)):=brn (decide (x.2.2<(↑x.1.length:Int))) (obnd (idx x.1 x.2.2) fun y=>obnd (pzj y) fun y=>obnd (app 24 x.2.1 [y]) fun zs=>back (x.1,zs,i64.wrap (x.2.2+1))) (some x.2.1)
def lzU:List Place×List (Place)×Int->Option (List (Place)):=iter gzU big
def yz8:CutSpec tb:=⟨36,[(0,.val 27),(3,.own 82),(4,.val 3)],[((.exit 0),[(3,.own 82)])],[5,6,7,8,11,12,13,14,15,16,17,18,3,9,10,4],lzU,none⟩
theorem uz9:A3 Tryz.f71 36 yz8:=A4 pz4 .nil gzU
def lzJ (x:List Place):Option (List (Place)):=obnd (lzU (x,[],0)) fun y=>some y
def Ez5:FSpec tb:=⟨[(0,.val 27)],[(0,.own 82)],lzJ⟩
theorem wzv:A0 71 Ez5:=A2 Tryz.func71 pz4 (.cons uz9 .nil)
def tzs (x:Globals):Option (Globals):=obnd (app 16 [] x.Sheets) fun zs=>obnd (app 16 [] x.Formats) fun zs_1=>obnd (app 8 [] x.XFs) fun zs_2=>obnd (ozb x.Names) fun y=>obnd (wzy x.Texts) fun y_1=>obnd (lzJ x.Chain) fun y_2=>some (Globals.mk zs zs_1 zs_2 y y_1 y_2)
def Izl:FSpec tb:=⟨[(0,.val 29)],[(0,.val 39)],tzs⟩
theorem Hzb:A0 32 Izl:=A1 Tryz.func32 (.cons Bzf (.cons Iz4 (.cons wzv .nil)))
def zze (x:Cell2):Option (Cell2):=obnd (gzV x.At) fun y=>obnd (szb x.V) fun y_1=>obnd (pz3 (azf x.E)) fun y_2=>some (Cell2.mk y x.XF y_1 x.Has (azf y_2))
def Izj:FSpec tb:=⟨[(0,.val 131)],[(0,.val 108)],zze⟩
theorem Gz9:A0 126 Izj:=A1 Tryz.func126 (.cons mzS (.cons xzp (.cons pzi .nil)))
abbrev Kza:List (Nat×FSpec tb):=[(126,Izj)]
theorem tzq:azj Tryz.prog tb (Kza):=(.cons Gz9 .nil)
def iz8 (back:List Cell2×List (Cell2)×Int->Option (List (Cell2)))(x:List Cell2×List (Cell2)×Int):Option (List (Cell2)):=brn (decide (x.2.2<(↑x.1.length:Int))) (obnd (idx x.1 x.2.2) fun y=>obnd (zze (Cell2.mk y.At y.XF y.V y.Has (azf y.E))) fun y=>obnd (app 240 x.2.1 [Cell2.mk y.At y.XF y.V y.Has (azf y.E)]) fun zs=>back (x.1,zs,i64.wrap (x.2.2+1))) (some x.2.1)
def ozg:List Cell2×List (Cell2)×Int->Option (List (Cell2)):=iter iz8 big
def Ez9:CutSpec tb:=⟨36,[(0,.val 117),(3,.own 108),(4,.val 3)],[((.exit 0),[(3,.own 108)])],[5,6,7,8,11,12,13,14,15,16,17,18,3,9,10,4],ozg,none⟩
theorem zzd:A3 Tryz.f72 36 Ez9:=A4 tzq .nil iz8
def ozf (x:List Cell2):Option (List (Cell2)):=obnd (ozg (x,[],0)) fun y=>some y
def zzc:FSpec tb:=⟨[(0,.val 117)],[(0,.own 108)],ozf⟩
theorem Bzh:A0 72 zzc:=A2 Tryz.func72 tzq (.cons zzd .nil)
def zzb (x:Group):Option (Group):=obnd (gzV x.A) fun y=>obnd (gzV x.B) fun y_1=>obnd (pz3 (azf x.E)) fun y_2=>some (Group.mk x.Array y y_1 (azf y_2))
def Izi:FSpec tb:=⟨[(0,.val 145)],[(0,.val 141)],zzb⟩
theorem Gz8:A0 127 Izi:=A1 Tryz.func127 (.cons mzS (.cons pzi .nil))
abbrev Jz9:List (Nat×FSpec tb):=[(127,Izi)]
theorem tzp:azj Tryz.prog tb (Jz9):=(.cons Gz8 .nil)
def iz7 (back:List Group×List (Group)×Int->Option (List (Group)))(x:List Group×List (Group)×Int):Option (List (Group)):=brn (decide (x.2.2<(↑x.1.length:Int))) (obnd (idx x.1 x.2.2) fun y=>obnd (zzb (Group.mk y.Array y.A y.B (azf y.E))) fun y=>obnd (app 192 x.2.1 [Group.mk y.Array y.A y.B (azf y.E)]) fun zs=>back (x.1,zs,i64.wrap (x.2.2+1))) (some x.2.1)
def oze:List Group×List (Group)×Int->Option (List (Group)):=iter iz7 big
def Ez7:CutSpec tb:=⟨36,[(0,.val 118),(3,.own 141),(4,.val 3)],[((.exit 0),[(3,.own 141)])],[5,6,7,8,11,12,13,14,15,16,17,18,3,9,10,4],oze,none⟩
theorem zza:A3 Tryz.f73 36 Ez7:=A4 tzp .nil iz7
def ozd (x:List Group):Option (List (Group)):=obnd (oze (x,[],0)) fun y=>some y
def yz9:FSpec tb:=⟨[(0,.val 118)],[(0,.own 141)],ozd⟩
theorem Bzg:A0 73 yz9:=A2 Tryz.func73 tzp (.cons zza .nil)
abbrev law20_ToG:List (Nat×FSpec tb):=[(72,zzc),(73,yz9)]
theorem zzf:azj Tryz.prog tb (law20_ToG):=(.cons Bzh (.cons Bzg .nil))
def lzV (back:List (Row)×Sheet×Sheet×Int->Option ((List (Row))×Sheet))(x:List (Row)×Sheet×Sheet×Int):Option ((List (Row))×Sheet):=brn (decide (x.2.2.2<(↑x.2.1.Rows.length:Int))) (obnd (idx x.2.1.Rows x.2.2.2) fun y=>obnd (idx x.2.1.Rows x.2.2.2) fun y_1=>obnd (idx x.2.1.Rows x.2.2.2) fun y_2=>obnd (app 24 x.1 [Row.mk y.Row y_1.Height y_2.Hidden]) fun zs=>back (zs,x.2.1,Sheet.mk zs x.2.2.1.Cells x.2.2.1.Groups,i64.wrap (x.2.2.2+1))) (some (x.1,Sheet.mk x.1 x.2.2.1.Cells x.2.2.1.Groups))
def rz6:List (Row)×Sheet×Sheet×Int->Option ((List (Row))×Sheet):=iter lzV big
def Kzb:CutSpec tb:=⟨36,[(4294967299,.own 174),(1,.ro 120),(3,.ref 101),(4,.val 3)],[((.exit 0),[(4294967299,.own 174)])],[12,13,14,15,16,19,20,21,22,23,24,25,26,27,28,29,30,31,32,33,34,35,36,37,38,39,40,41,42,17,18,4],rz6,none⟩
theorem Fzc:A3 Tryz.f33 36 Kzb:=A4 zzf .nil lzV
def tzr (x:Sheet):Option (Sheet):=obnd (ozf x.Cells) fun y=>obnd (ozd x.Groups) fun y_1=>obnd (rz6 ([],x,Sheet.mk [] y y_1,0)) fun y=>some (Sheet.mk y.1 y.2.Cells y.2.Groups)
def Izk:FSpec tb:=⟨[(0,.val 120)],[(0,.val 101)],tzr⟩
theorem Hza:A0 33 Izk:=A2 Tryz.func33 zzf (.cons Fzc .nil)
abbrev law22_ToG:List (Nat×FSpec tb):=[(32,Izl),(33,Izk)]
theorem zzh:azj Tryz.prog tb (law22_ToG):=(.cons Hzb (.cons Hza .nil))
def lzW (back:List (Sheet)×Book×Book×Int->Option ((List (Sheet))×Book))(x:List (Sheet)×Book×Book×Int):Option ((List (Sheet))×Book):=brn (decide (x.2.2.2<(↑x.2.1.Sheets.length:Int))) (obnd (idx x.2.1.Sheets x.2.2.2) fun y=>obnd (tzr y) fun y=>obnd (app 72 x.1 [y]) fun zs=>back (zs,x.2.1,Book.mk x.2.2.1.Globals zs,i64.wrap (x.2.2.2+1))) (some (x.1,Book.mk x.2.2.1.Globals x.1))
def rz8:List (Sheet)×Book×Book×Int->Option ((List (Sheet))×Book):=iter lzW big
def Kzc:CutSpec tb:=⟨36,[(34359738371,.own 101),(1,.ro 32),(3,.ref 42),(4,.val 3)],[((.exit 0),[(34359738371,.own 101)])],[9,10,11,12,13,16,17,18,19,20,21,22,23,24,25,26,14,15,4],rz8,none⟩
theorem Fzh:A3 Tryz.f8 36 Kzc:=A4 zzh .nil lzW
def tzt (x:Book):Option (Book):=obnd (tzs x.Globals) fun y=>obnd (rz8 ([],x,Book.mk y [],0)) fun y=>some (Book.mk y.2.Globals y.1)
def Izm:FSpec tb:=⟨[(0,.val 32)],[(0,.val 42)],tzt⟩
theorem Hzc:A0 8 Izm:=A2 Tryz.func8 zzh (.cons Fzh .nil)
def mzx (x:Int×Int×Int):Option ((Int×Int×Int)⊕(List (Int)×Bool)):=brn (decide (x.1<128)) (some (Sum.inl (x.2.1,x.1,x.2.2))) (brn (decide (194<=x.1)) (brn (decide (x.1<224)) (some (Sum.inl (1,bzc BinOp.and i64 x.1 31,128))) (brn (decide (224<=x.1)) (brn (decide (x.1<240)) (some (Sum.inl (2,bzc BinOp.and i64 x.1 15,2048))) (brn (decide (240<=x.1)) (brn (decide (x.1<245)) (some (Sum.inl (3,bzc BinOp.and i64 x.1 7,65536))) (some (Sum.inr ([],false)))) (some (Sum.inr ([],false))))) (brn (decide (240<=x.1)) (brn (decide (x.1<245)) (some (Sum.inl (3,bzc BinOp.and i64 x.1 7,65536))) (some (Sum.inr ([],false)))) (some (Sum.inr ([],false)))))) (brn (decide (224<=x.1)) (brn (decide (x.1<240)) (some (Sum.inl (2,bzc BinOp.and i64 x.1 15,2048))) (brn (decide (240<=x.1)) (brn (decide (x.1<245)) (some (Sum.inl (3,bzc BinOp.and i64 x.1 7,65536))) (some (Sum.inr ([],false)))) (some (Sum.inr ([],false))))) (brn (decide (240<=x.1)) (brn (decide (x.1<245)) (some (Sum.inl (3,bzc BinOp.and i64 x.1 7,65536))) (some (Sum.inr ([],false)))) (some (Sum.inr ([],false))))))
def HzG:CutSpec tb:=⟨83,[(6,.val 3),(7,.val 3),(9,.val 3)],[(.normal,[(7,.val 3),(8,.val 3),(9,.val 3)]),(.ret,[(2,.own 3),(3,.val 4)])],[21,22,20,23,8,25,26,27,28,29,30,24,7,31,32,9,34,35,36,37,38,39,33,40,41,43,44,45,46,47,48,42,49,50,2,3],(mzx),none⟩
theorem BzQ:A5 Tryz.f146 83 HzG:=A6 .nil .nil
def kzx (back:List UInt8×Int×Int×Int×Int->Option ((Int)⊕(List (Int)×Bool)))(x:List UInt8×Int×Int×Int×Int):Option ((Int)⊕(List (Int)×Bool)):=brn (decide (x.2.2.2.2<=x.2.2.1)) (obnd (idx x.1 (i64.wrap (x.2.1+x.2.2.2.2))) fun y=>brn (!decide (bzc BinOp.and i64 (i64.wrap (↑y.toNat:Int)) 192=128)) (some (Sum.inr ([],false))) (back (x.1,x.2.1,x.2.2.1,bzc BinOp.or i64 (i64.wrap (x.2.2.2.1*64)) (bzc BinOp.and i64 (i64.wrap (↑y.toNat:Int)) 63),i64.wrap (x.2.2.2.2+1)))) (some (Sum.inl x.2.2.2.1))
def kzy:List UInt8×Int×Int×Int×Int->Option ((Int)⊕(List (Int)×Bool)):=iter kzx big
def HzI:CutSpec tb:=⟨220,[(0,.val 9),(5,.val 3),(7,.val 3),(8,.val 3),(10,.val 3)],[((.exit 3),[(8,.val 3)]),(.ret,[(2,.own 3),(3,.val 4)])],[57,58,59,62,63,64,65,66,67,11,68,69,70,2,3,71,72,73,74,75,8,60,61,10],kzy,none⟩
theorem BzS:A3 Tryz.f146 220 HzI:=A4 .nil .nil kzx
def mzw (x:List UInt8×List (Int)×Int):Option ((List (Int)×Int)⊕(List (Int)×Bool)):=obnd (idx x.1 x.2.2) fun y=>obnd (mzx (i64.wrap (↑y.toNat:Int),0,0)) fun y=>osum y (fun y=>brn (decide (i64.wrap ((↑x.1.length:Int)-x.2.2)<=y.1)) (some (Sum.inr ([],false))) (obnd (kzy (x.1,x.2.2,y.1,y.2.1,1)) fun y_1=>osum y_1 (fun y_2=>brn (decide (y_2<y.2.2)) (some (Sum.inr ([],false))) (brn (decide (55296<=y_2)) (brn (decide (y_2<57344)) (some (Sum.inr ([],false))) (brn (decide (1114111<y_2)) (some (Sum.inr ([],false))) (obnd (app 8 x.2.1 [y_2]) fun zs=>some (Sum.inl (zs,i64.wrap (i64.wrap (x.2.2+y.1)+1)))))) (brn (decide (1114111<y_2)) (some (Sum.inr ([],false))) (obnd (app 8 x.2.1 [y_2]) fun zs=>some (Sum.inl (zs,i64.wrap (i64.wrap (x.2.2+y.1)+1))))))) fun y=>some (Sum.inr y))) fun y=>some (Sum.inr y)
def HzF:CutSpec tb:=⟨43,[(0,.val 9),(4,.own 3),(5,.val 3)],[(.normal,[(4,.own 3),(5,.val 3)]),(.ret,[(2,.own 3),(3,.val 4)])],[16,17,18,19,6,7,8,9,21,22,20,23,25,26,27,28,29,30,24,31,32,34,35,36,37,38,39,33,40,41,43,44,45,46,47,48,42,49,50,2,3,51,52,53,54,55,56,10,57,58,59,62,63,64,65,66,67,11,68,69,70,71,72,73,74,75,60,61,76,77,78,79,80,81,82,83,84,85,86,87,88,89,90,91,92,93,94,4,95,96,97,98,5],(mzw),none⟩
theorem BzP:A5 Tryz.f146 43 HzF:=A6 .nil (.cons BzQ (.cons BzS .nil))
def mzy (back:List UInt8×List (Int)×Int->Option ((List (Int))⊕(List (Int)×Bool)))(x:List UInt8×List (Int)×Int):Option ((List (Int))⊕(List (Int)×Bool)):=brn (decide (x.2.2<(↑x.1.length:Int))) (obnd (mzw (x.1,x.2)) fun y=>osum y (fun y=>back (x.1,y)) fun y=>some (Sum.inr y)) (some (Sum.inl x.2.1))
def pzu:List UInt8×List (Int)×Int->Option ((List (Int))⊕(List (Int)×Bool)):=iter mzy big
def HzH:CutSpec tb:=⟨36,[(0,.val 9),(4,.own 3),(5,.val 3)],[((.exit 0),[(4,.own 3)]),(.ret,[(2,.own 3),(3,.val 4)])],[12,13,14,15,16,17,18,19,6,7,8,9,21,22,20,23,25,26,27,28,29,30,24,31,32,34,35,36,37,38,39,33,40,41,43,44,45,46,47,48,42,49,50,2,3,51,52,53,54,55,56,10,57,58,59,62,63,64,65,66,67,11,68,69,70,71,72,73,74,75,60,61,76,77,78,79,80,81,82,83,84,85,86,87,88,89,90,91,92,93,94,4,95,96,97,98,5],pzu,none⟩
theorem BzR:A3 Tryz.f146 36 HzH:=A4 .nil (.cons BzP .nil) mzy
def jzQ (x:List UInt8):Option (List (Int)×Bool):=obnd (pzu (x,[],0)) fun y=>osum y (fun y=>some (y,true)) fun y=>some y
def pzN:FSpec tb:=⟨[(0,.val 9)],[(0,.own 3),(1,.val 4)],jzQ⟩
theorem kz0:A0 146 pzN:=A2 Tryz.func146 .nil (.cons BzR .nil)
def gzi (back:List Int×List (Int)×Int->Option (List (Int)))(x:List Int×List (Int)×Int):Option (List (Int)):=brn (decide (x.2.2<(↑x.1.length:Int))) (obnd (idx x.1 x.2.2) fun y=>brn (decide (y<65536)) (obnd (idx x.1 x.2.2) fun y=>obnd (app 8 x.2.1 [y]) fun zs=>back (x.1,zs,i64.wrap (x.2.2+1))) (obnd (idx x.1 x.2.2) fun y=>obnd (app 8 x.2.1 [bzc BinOp.or i64 55296 ((i64.wrap (y-65536)).fdiv 1024),bzc BinOp.or i64 56320 (bzc BinOp.and i64 (i64.wrap (y-65536)) 1023)]) fun zs=>back (x.1,zs,i64.wrap (x.2.2+1)))) (some x.2.1)
def mzz:List Int×List (Int)×Int->Option (List (Int)):=iter gzi big
def HzJ:CutSpec tb:=⟨36,[(0,.val 23),(3,.own 3),(4,.val 3)],[((.exit 0),[(3,.own 3)])],[6,7,8,9,12,13,14,15,16,17,18,19,20,21,22,23,3,24,25,26,27,28,5,29,30,31,32,33,34,35,36,37,10,11,4],mzz,none⟩
theorem BzU:A3 Tryz.f147 36 HzJ:=A4 .nil .nil gzi
def hz9 (x:List Int):Option (List (Int)):=obnd (mzz (x,[],0)) fun y=>some y
def uzt:FSpec tb:=⟨[(0,.val 23)],[(0,.own 3)],hz9⟩
theorem nzF:A0 147 uzt:=A2 Tryz.func147 .nil (.cons BzU .nil)
def gzz (x:List UInt8):Option (Int×Int):=obnd (jzQ x) fun y=>brn (!y.2) (some (0,2)) (obnd (hz9 y.1) fun y=>brn (decide (1000<(↑(List.length y):Int))) (some (0,4)) (some ((↑(List.length y):Int),0)))
def lzt:FSpec tb:=⟨[(0,.val 9)],[(0,.val 3),(1,.val 3)],gzz⟩
theorem izG:A0 84 lzt:=A1 Tryz.func84 (.cons kz0 (.cons nzF .nil))
def kzd (self:Expr->Option (Int)):FSpec tb:=⟨[(0,.val 76)],[(0,.val 3)],self⟩
abbrev Kzz (self:Expr->Option (Int)):List (Nat×FSpec tb):=[(191,(kzd self))]
theorem tzE (self:Expr->Option (Int))(hself:azu Tryz.prog tb 191 (kzd self)):azj Tryz.prog tb (Kzz self):=(.cons hself .nil)
def jzd (self:Expr->Option (Int))(back:Expr×Int×Int->Option (Int))(x:Expr×Int×Int):Option (Int):=brn (decide (x.2.2<(↑x.1.Kids.length:Int))) (obnd (idx x.1.Kids x.2.2) fun y=>obnd (self (azf y)) fun y=>brn (decide (x.2.1<y)) (back (azf x.1,y,i64.wrap (x.2.2+1))) (back (azf x.1,x.2.1,i64.wrap (x.2.2+1)))) (some x.2.1)
def ozs (self:Expr->Option (Int)):Expr×Int×Int->Option (Int):=iter (jzd self) big
def FzK (self:Expr->Option (Int)):CutSpec tb:=⟨36,[(1,.ro 76),(3,.val 3),(4,.val 3)],[((.exit 0),[(3,.val 3)])],[6,7,8,9,10,13,14,15,16,17,18,5,19,20,21,22,3,11,12,4],(ozs self),none⟩
theorem zzC (self:Expr->Option (Int))(hself:azu Tryz.prog tb 191 (kzd self)):A3 Tryz.f191 36 (FzK self):=A4 (tzE self hself) .nil (jzd self)
def kzc (self:Expr->Option (Int))(x:Expr):Option (Int):=obnd ((ozs self) (azf x,0,0)) fun y=>some (i64.wrap (y+1))
theorem DzC (self:Expr->Option (Int))(hself:azu Tryz.prog tb 191 (kzd self)):A0 191 (kzd (kzc self)):=A2 Tryz.func191 (tzE self hself) (.cons (zzC self hself) .nil)
def szm:Expr->Option (Int):=iter kzc big
def KzA:FSpec tb:=kzd szm
theorem Bzm:azu Tryz.prog tb 191 KzA:=nz6 (fzE Tryz.func191 (by kernel_rfl)) DzC
def kzb (self:Expr->Option (Int)):FSpec tb:=⟨[(0,.val 76)],[(0,.val 3)],self⟩
abbrev Kzx (self:Expr->Option (Int)):List (Nat×FSpec tb):=[(192,(kzb self))]
theorem tzD (self:Expr->Option (Int))(hself:azu Tryz.prog tb 192 (kzb self)):azj Tryz.prog tb (Kzx self):=(.cons hself .nil)
def jzc (self:Expr->Option (Int))(back:Expr×Int×Int->Option (Int))(x:Expr×Int×Int):Option (Int):=brn (decide (x.2.2<(↑x.1.Kids.length:Int))) (obnd (idx x.1.Kids x.2.2) fun y=>obnd (self (azf y)) fun y=>back (azf x.1,i64.wrap (x.2.1+y),i64.wrap (x.2.2+1))) (some x.2.1)
def ozr (self:Expr->Option (Int)):Expr×Int×Int->Option (Int):=iter (jzc self) big
def FzJ (self:Expr->Option (Int)):CutSpec tb:=⟨36,[(1,.ro 76),(3,.val 3),(4,.val 3)],[((.exit 0),[(3,.val 3)])],[5,6,7,8,9,12,13,14,15,16,17,18,19,3,10,11,4],(ozr self),none⟩
theorem zzB (self:Expr->Option (Int))(hself:azu Tryz.prog tb 192 (kzb self)):A3 Tryz.f192 36 (FzJ self):=A4 (tzD self hself) .nil (jzc self)
def kza (self:Expr->Option (Int))(x:Expr):Option (Int):=obnd ((ozr self) (azf x,1,0)) fun y=>some y
theorem DzB (self:Expr->Option (Int))(hself:azu Tryz.prog tb 192 (kzb self)):A0 192 (kzb (kza self)):=A2 Tryz.func192 (tzD self hself) (.cons (zzB self hself) .nil)
def szl:Expr->Option (Int):=iter kza big
def Kzy:FSpec tb:=kzb szl
theorem Bzl:azu Tryz.prog tb 192 Kzy:=nz6 (fzE Tryz.func192 (by kernel_rfl)) DzB
def kzi (x:Int):Option (Bool×Int×Bool×Bool×Int):=brn (decide (x=1)) (some (true,0,false,false,0)) (brn (decide (x=2)) (some (false,1,false,false,0)) (brn (decide (x=3)) (some (false,2,false,false,0)) (brn (decide (x=4)) (some (false,1,true,false,0)) (brn (decide (x=5)) (some (false,2,true,false,0)) (brn (decide (x=6)) (some (false,0,false,true,0)) (brn (decide (x=7)) (some (false,0,false,true,1)) (brn (decide (x=8)) (some (false,0,false,true,2)) (brn (decide (x=9)) (some (false,0,false,true,-1)) (some (false,0,false,false,1))))))))))
def zzG:FSpec tb:=⟨[(0,.val 3)],[(0,.val 4),(1,.val 3),(2,.val 4),(3,.val 4),(4,.val 3)],kzi⟩
theorem Bzu:A0 229 zzG:=A1 Tryz.func229 .nil
def izj (x:Dec):Option (Int):=brn (decide (x.S<0)) (some 1) (brn (decide (9<x.S)) (some 1) (brn (decide (0<x.S)) (brn (decide (x.M.tmod 10=0)) (some 1) (some 0)) (some 0)))
def vzz:FSpec tb:=⟨[(0,.val 68)],[(0,.val 3)],izj⟩
theorem yzi:A0 219 vzz:=A1 Tryz.func219 .nil
def pzl (x:Int):Option (List UInt8):=brn (decide (x=0)) (some (U8s [35,78,85,76,76,33])) (brn (decide (x=7)) (some (U8s [35,68,73,86,47,48,33])) (brn (decide (x=15)) (some (U8s [35,86,65,76,85,69,33])) (brn (decide (x=23)) (some (U8s [35,82,69,70,33])) (brn (decide (x=29)) (some (U8s [35,78,65,77,69,63])) (brn (decide (x=36)) (some (U8s [35,78,85,77,33])) (brn (decide (x=42)) (some [35,78,47,65]) (some [])))))))
def vzk:FSpec tb:=⟨[(0,.val 3)],[(0,.val 9)],pzl⟩
theorem xz4:A0 220 vzk:=A1 Tryz.func220 .nil
abbrev FzI:List (Nat×FSpec tb):=[(219,vzz),(84,lzt),(220,vzk)]
theorem pz6:azj Tryz.prog tb (FzI):=(.cons yzi (.cons izG (.cons xz4 .nil)))
def dzX (x:Val):Option (Bool):=brn (!decide (x.Kind=1)) (brn (bif true then !(decide (x.N.M=0)&&decide (x.N.S=0))else decide (x.N.M=0)&&decide (x.N.S=0)) (some true) (brn (!decide (x.Kind=2)) (brn (!decide (x.S=[])) (some true) (brn (!decide (x.Kind=3)) (brn x.B (some true) (brn (!decide (x.Kind=4)) (some (bif decide (x.E=0)then false else true)) (some false))) (brn (!decide (x.Kind=4)) (some (bif decide (x.E=0)then false else true)) (some false)))) (brn (!decide (x.Kind=3)) (brn x.B (some true) (brn (!decide (x.Kind=4)) (some (bif decide (x.E=0)then false else true)) (some false))) (brn (!decide (x.Kind=4)) (some (bif decide (x.E=0)then false else true)) (some false))))) (brn (!decide (x.Kind=2)) (brn (!decide (x.S=[])) (some true) (brn (!decide (x.Kind=3)) (brn x.B (some true) (brn (!decide (x.Kind=4)) (some (bif decide (x.E=0)then false else true)) (some false))) (brn (!decide (x.Kind=4)) (some (bif decide (x.E=0)then false else true)) (some false)))) (brn (!decide (x.Kind=3)) (brn x.B (some true) (brn (!decide (x.Kind=4)) (some (bif decide (x.E=0)then false else true)) (some false))) (brn (!decide (x.Kind=4)) (some (bif decide (x.E=0)then false else true)) (some false))))
def zzA:CutSpec tb:=⟨32,[(1,.ro 70)],[(.normal,[(50,.val 4)])],[13,14,15,16,17,18,19,20,21,22,23,24,25,26,27,28,29,30,31,32,33,34,35,36,37,38,39,40,41,42,43,44,45,46,47,48,49,50],(dzX),none⟩
theorem vzj:A5 Tryz.f198 32 zzA:=A6 pz6 .nil
def bzZ (x:Val):Option (Int):=brn (decide (x.Kind<0)) (some 1) (brn (decide (4<x.Kind)) (some 1) (obnd (dzX x) fun y=>brn y (some 1) (brn (decide (x.Kind=1)) (obnd (izj x.N) fun y=>some y) (brn (decide (x.Kind=2)) (obnd (gzz x.S) fun y=>some y.2) (brn (decide (x.Kind=4)) (obnd (pzl x.E) fun y=>brn (decide (y=[])) (some 1) (some 0)) (some 0))))))
def tzC:FSpec tb:=⟨[(0,.val 70)],[(0,.val 3)],bzZ⟩
theorem ozq:A0 198 tzC:=A2 Tryz.func198 pz6 (.cons vzj .nil)
def ezv (x:Cell):Option (Bool):=brn (decide (0<=x.Row)) (brn (decide (x.Row<65536)) (brn (decide (0<=x.Col)) (some (decide (x.Col<256))) (some false)) (some false)) (some false)
def CzA:FSpec tb:=⟨[(0,.val 64)],[(0,.val 4)],ezv⟩
theorem kzP:A0 197 CzA:=A1 Tryz.func197 .nil
def hzm (x:Ref):Option (Int):=obnd (ezv (Cell.mk x.Row x.Col)) fun y=>brn (!y) (some 12) (some 0)
def FzH:FSpec tb:=⟨[(0,.val 72)],[(0,.val 3)],hzm⟩
theorem wzG:A0 235 FzH:=A1 Tryz.func235 (.cons kzP .nil)
def bz2 (x:Area):Option (Int):=obnd (hzm x.A) fun y=>brn (!decide (y=0)) (some 12) (obnd (hzm x.B) fun y=>some y)
def szk:FSpec tb:=⟨[(0,.val 74)],[(0,.val 3)],bz2⟩
theorem vzh:A0 230 szk:=A1 Tryz.func230 (.cons wzG .nil)
abbrev LzB:List (Nat×FSpec tb):=[(229,zzG),(198,tzC),(230,szk)]
theorem izh:azj Tryz.prog tb (LzB):=(.cons Bzu (.cons ozq (.cons vzh .nil)))
def izi (x:Expr):Option (Bool):=brn (decide (x.Kind<1)) (some true) (some (decide (10<x.Kind)))
def Hzn:CutSpec tb:=⟨16,[(1,.ro 76)],[(.normal,[(18,.val 4)])],[11,12,13,14,15,16,17,18],(izi),none⟩
theorem Bzo:A5 Tryz.f218 16 Hzn:=A6 izh .nil
def kzf (x:Expr×Bool×Int×Bool×Bool×Int):Option (Bool):=brn (!x.2.1) (brn (bif true then !(decide (x.1.V.Kind=0)&&(decide (x.1.V.N.M=0)&&(decide (x.1.V.N.S=0)&&(decide (x.1.V.S=[])&&(decide (x.1.V.B=false)&&decide (x.1.V.E=0))))))else decide (x.1.V.Kind=0)&&(decide (x.1.V.N.M=0)&&(decide (x.1.V.N.S=0)&&(decide (x.1.V.S=[])&&(decide (x.1.V.B=false)&&decide (x.1.V.E=0)))))) (some true) (brn (decide (x.2.2.1<1)) (brn (bif true then !(decide (x.1.A.A.Row=0)&&(decide (x.1.A.A.Col=0)&&(decide (x.1.A.A.RelRow=false)&&decide (x.1.A.A.RelCol=false))))else decide (x.1.A.A.Row=0)&&(decide (x.1.A.A.Col=0)&&(decide (x.1.A.A.RelRow=false)&&decide (x.1.A.A.RelCol=false)))) (some true) (brn (decide (x.2.2.1<2)) (brn (bif true then !(decide (x.1.A.B.Row=0)&&(decide (x.1.A.B.Col=0)&&(decide (x.1.A.B.RelRow=false)&&decide (x.1.A.B.RelCol=false))))else decide (x.1.A.B.Row=0)&&(decide (x.1.A.B.Col=0)&&(decide (x.1.A.B.RelRow=false)&&decide (x.1.A.B.RelCol=false)))) (some true) (brn (!x.2.2.2.1) (brn (!decide (x.1.Sheet=0)) (some true) (brn (!x.2.2.2.2.1) (brn (!decide (x.1.Op=0)) (some true) (brn (decide (x.2.2.2.2.2=0)) (some (decide (0<(↑x.1.Kids.length:Int)))) (some false))) (brn (decide (x.2.2.2.2.2=0)) (some (decide (0<(↑x.1.Kids.length:Int)))) (some false)))) (brn (!x.2.2.2.2.1) (brn (!decide (x.1.Op=0)) (some true) (brn (decide (x.2.2.2.2.2=0)) (some (decide (0<(↑x.1.Kids.length:Int)))) (some false))) (brn (decide (x.2.2.2.2.2=0)) (some (decide (0<(↑x.1.Kids.length:Int)))) (some false))))) (brn (!x.2.2.2.1) (brn (!decide (x.1.Sheet=0)) (some true) (brn (!x.2.2.2.2.1) (brn (!decide (x.1.Op=0)) (some true) (brn (decide (x.2.2.2.2.2=0)) (some (decide (0<(↑x.1.Kids.length:Int)))) (some false))) (brn (decide (x.2.2.2.2.2=0)) (some (decide (0<(↑x.1.Kids.length:Int)))) (some false)))) (brn (!x.2.2.2.2.1) (brn (!decide (x.1.Op=0)) (some true) (brn (decide (x.2.2.2.2.2=0)) (some (decide (0<(↑x.1.Kids.length:Int)))) (some false))) (brn (decide (x.2.2.2.2.2=0)) (some (decide (0<(↑x.1.Kids.length:Int)))) (some false)))))) (brn (decide (x.2.2.1<2)) (brn (bif true then !(decide (x.1.A.B.Row=0)&&(decide (x.1.A.B.Col=0)&&(decide (x.1.A.B.RelRow=false)&&decide (x.1.A.B.RelCol=false))))else decide (x.1.A.B.Row=0)&&(decide (x.1.A.B.Col=0)&&(decide (x.1.A.B.RelRow=false)&&decide (x.1.A.B.RelCol=false)))) (some true) (brn (!x.2.2.2.1) (brn (!decide (x.1.Sheet=0)) (some true) (brn (!x.2.2.2.2.1) (brn (!decide (x.1.Op=0)) (some true) (brn (decide (x.2.2.2.2.2=0)) (some (decide (0<(↑x.1.Kids.length:Int)))) (some false))) (brn (decide (x.2.2.2.2.2=0)) (some (decide (0<(↑x.1.Kids.length:Int)))) (some false)))) (brn (!x.2.2.2.2.1) (brn (!decide (x.1.Op=0)) (some true) (brn (decide (x.2.2.2.2.2=0)) (some (decide (0<(↑x.1.Kids.length:Int)))) (some false))) (brn (decide (x.2.2.2.2.2=0)) (some (decide (0<(↑x.1.Kids.length:Int)))) (some false))))) (brn (!x.2.2.2.1) (brn (!decide (x.1.Sheet=0)) (some true) (brn (!x.2.2.2.2.1) (brn (!decide (x.1.Op=0)) (some true) (brn (decide (x.2.2.2.2.2=0)) (some (decide (0<(↑x.1.Kids.length:Int)))) (some false))) (brn (decide (x.2.2.2.2.2=0)) (some (decide (0<(↑x.1.Kids.length:Int)))) (some false)))) (brn (!x.2.2.2.2.1) (brn (!decide (x.1.Op=0)) (some true) (brn (decide (x.2.2.2.2.2=0)) (some (decide (0<(↑x.1.Kids.length:Int)))) (some false))) (brn (decide (x.2.2.2.2.2=0)) (some (decide (0<(↑x.1.Kids.length:Int)))) (some false))))))) (brn (decide (x.2.2.1<1)) (brn (bif true then !(decide (x.1.A.A.Row=0)&&(decide (x.1.A.A.Col=0)&&(decide (x.1.A.A.RelRow=false)&&decide (x.1.A.A.RelCol=false))))else decide (x.1.A.A.Row=0)&&(decide (x.1.A.A.Col=0)&&(decide (x.1.A.A.RelRow=false)&&decide (x.1.A.A.RelCol=false)))) (some true) (brn (decide (x.2.2.1<2)) (brn (bif true then !(decide (x.1.A.B.Row=0)&&(decide (x.1.A.B.Col=0)&&(decide (x.1.A.B.RelRow=false)&&decide (x.1.A.B.RelCol=false))))else decide (x.1.A.B.Row=0)&&(decide (x.1.A.B.Col=0)&&(decide (x.1.A.B.RelRow=false)&&decide (x.1.A.B.RelCol=false)))) (some true) (brn (!x.2.2.2.1) (brn (!decide (x.1.Sheet=0)) (some true) (brn (!x.2.2.2.2.1) (brn (!decide (x.1.Op=0)) (some true) (brn (decide (x.2.2.2.2.2=0)) (some (decide (0<(↑x.1.Kids.length:Int)))) (some false))) (brn (decide (x.2.2.2.2.2=0)) (some (decide (0<(↑x.1.Kids.length:Int)))) (some false)))) (brn (!x.2.2.2.2.1) (brn (!decide (x.1.Op=0)) (some true) (brn (decide (x.2.2.2.2.2=0)) (some (decide (0<(↑x.1.Kids.length:Int)))) (some false))) (brn (decide (x.2.2.2.2.2=0)) (some (decide (0<(↑x.1.Kids.length:Int)))) (some false))))) (brn (!x.2.2.2.1) (brn (!decide (x.1.Sheet=0)) (some true) (brn (!x.2.2.2.2.1) (brn (!decide (x.1.Op=0)) (some true) (brn (decide (x.2.2.2.2.2=0)) (some (decide (0<(↑x.1.Kids.length:Int)))) (some false))) (brn (decide (x.2.2.2.2.2=0)) (some (decide (0<(↑x.1.Kids.length:Int)))) (some false)))) (brn (!x.2.2.2.2.1) (brn (!decide (x.1.Op=0)) (some true) (brn (decide (x.2.2.2.2.2=0)) (some (decide (0<(↑x.1.Kids.length:Int)))) (some false))) (brn (decide (x.2.2.2.2.2=0)) (some (decide (0<(↑x.1.Kids.length:Int)))) (some false)))))) (brn (decide (x.2.2.1<2)) (brn (bif true then !(decide (x.1.A.B.Row=0)&&(decide (x.1.A.B.Col=0)&&(decide (x.1.A.B.RelRow=false)&&decide (x.1.A.B.RelCol=false))))else decide (x.1.A.B.Row=0)&&(decide (x.1.A.B.Col=0)&&(decide (x.1.A.B.RelRow=false)&&decide (x.1.A.B.RelCol=false)))) (some true) (brn (!x.2.2.2.1) (brn (!decide (x.1.Sheet=0)) (some true) (brn (!x.2.2.2.2.1) (brn (!decide (x.1.Op=0)) (some true) (brn (decide (x.2.2.2.2.2=0)) (some (decide (0<(↑x.1.Kids.length:Int)))) (some false))) (brn (decide (x.2.2.2.2.2=0)) (some (decide (0<(↑x.1.Kids.length:Int)))) (some false)))) (brn (!x.2.2.2.2.1) (brn (!decide (x.1.Op=0)) (some true) (brn (decide (x.2.2.2.2.2=0)) (some (decide (0<(↑x.1.Kids.length:Int)))) (some false))) (brn (decide (x.2.2.2.2.2=0)) (some (decide (0<(↑x.1.Kids.length:Int)))) (some false))))) (brn (!x.2.2.2.1) (brn (!decide (x.1.Sheet=0)) (some true) (brn (!x.2.2.2.2.1) (brn (!decide (x.1.Op=0)) (some true) (brn (decide (x.2.2.2.2.2=0)) (some (decide (0<(↑x.1.Kids.length:Int)))) (some false))) (brn (decide (x.2.2.2.2.2=0)) (some (decide (0<(↑x.1.Kids.length:Int)))) (some false)))) (brn (!x.2.2.2.2.1) (brn (!decide (x.1.Op=0)) (some true) (brn (decide (x.2.2.2.2.2=0)) (some (decide (0<(↑x.1.Kids.length:Int)))) (some false))) (brn (decide (x.2.2.2.2.2=0)) (some (decide (0<(↑x.1.Kids.length:Int)))) (some false))))))
def Hzo:CutSpec tb:=⟨40,[(1,.ro 76),(3,.val 4),(4,.val 3),(5,.val 4),(6,.val 4),(7,.val 3)],[(.normal,[(85,.val 4)])],[28,29,30,31,32,33,34,35,36,37,38,39,40,41,42,43,44,45,46,47,48,49,50,51,52,53,54,55,56,57,58,59,60,61,62,63,64,65,66,67,68,69,70,71,72,73,74,75,76,77,78,79,80,81,82,83,84,85],(kzf),none⟩
theorem Bzp:A5 Tryz.f218 40 Hzo:=A6 izh .nil
def dzE (x:Expr×Bool):Option (Bool):=brn x.2 (brn (decide (x.1.Sheet<0)) (some true) (some (decide (8<=x.1.Sheet)))) (some false)
def Hzp:CutSpec tb:=⟨120,[(1,.ro 76),(5,.val 4)],[(.normal,[(115,.val 4)])],[105,106,107,108,109,110,111,112,113,114,115],(dzE),none⟩
theorem Bzq:A5 Tryz.f218 120 Hzp:=A6 izh .nil
def dzF (x:Int×Int×Int):Option (Int×Int):=brn (decide (x.2.2=6)) (some (x.1,1023)) (brn (decide (x.2.2=7)) (some (1,3)) (brn (decide (x.2.2=8)) (some (1,12)) (brn (decide (x.2.2=9)) (some (x.1,29)) (some (x.1,x.2.1)))))
def Hzq:CutSpec tb:=⟨163,[(9,.val 3),(10,.val 3),(117,.val 3)],[(.normal,[(9,.val 3),(10,.val 3)])],[119,118,10,121,120,9,123,122,125,124],(dzF),none⟩
theorem Bzr:A5 Tryz.f218 163 Hzq:=A6 izh .nil
def bzC (x:Expr×Int×Int×Int):Option (Bool):=brn (decide (x.1.Op<x.2.2.1)) (some true) (brn (decide (x.2.2.2<x.1.Op)) (some true) (brn (decide (0<x.2.1)) (brn (!decide ((↑x.1.Kids.length:Int)=x.2.1)) (some true) (some (decide (30<(↑x.1.Kids.length:Int))))) (some (decide (30<(↑x.1.Kids.length:Int))))))
def Hzr:CutSpec tb:=⟨240,[(1,.ro 76),(7,.val 3),(9,.val 3),(10,.val 3)],[(.normal,[(152,.val 4)])],[126,127,128,129,130,131,132,133,134,135,136,137,138,139,140,141,142,143,144,145,146,147,148,149,150,151,152],(bzC),none⟩
theorem Bzs:A5 Tryz.f218 240 Hzr:=A6 izh .nil
def ezy (x:Expr):Option (Int):=obnd (izi (azf x)) fun y=>brn y (some 1) (obnd (kzi x.Kind) fun y=>obnd (kzf (azf x,y.1,y.2.1,y.2.2.1,y.2.2.2)) fun y_1=>brn y_1 (some 1) (brn y.1 (obnd (bzZ x.V) fun y_2=>brn (!decide (y_2=0)) (some y_2) (brn (decide (x.V.Kind=0)) (some 1) (brn (decide (0<y.2.1)) (obnd (bz2 x.A) fun y_3=>brn (!decide (y_3=0)) (some 12) (obnd (dzE (azf x,y.2.2.1)) fun y_4=>brn y_4 (some 1) (obnd (dzF (0,0,x.Kind)) fun y_5=>obnd (bzC (azf x,y.2.2.2.2,y_5)) fun y=>brn y (some 1) (some 0)))) (obnd (dzE (azf x,y.2.2.1)) fun y_3=>brn y_3 (some 1) (obnd (dzF (0,0,x.Kind)) fun y_4=>obnd (bzC (azf x,y.2.2.2.2,y_4)) fun y=>brn y (some 1) (some 0)))))) (brn (decide (0<y.2.1)) (obnd (bz2 x.A) fun y_2=>brn (!decide (y_2=0)) (some 12) (obnd (dzE (azf x,y.2.2.1)) fun y_3=>brn y_3 (some 1) (obnd (dzF (0,0,x.Kind)) fun y_4=>obnd (bzC (azf x,y.2.2.2.2,y_4)) fun y=>brn y (some 1) (some 0)))) (obnd (dzE (azf x,y.2.2.1)) fun y_2=>brn y_2 (some 1) (obnd (dzF (0,0,x.Kind)) fun y_3=>obnd (bzC (azf x,y.2.2.2.2,y_3)) fun y=>brn y (some 1) (some 0))))))
def CzC:FSpec tb:=⟨[(0,.val 76)],[(0,.val 3)],ezy⟩
theorem DzF:A0 218 CzC:=A2 Tryz.func218 izh (.cons Bzo (.cons Bzp (.cons Bzq (.cons Bzr (.cons Bzs .nil)))))
def kzh (self:Expr->Option (Int)):FSpec tb:=⟨[(0,.val 76)],[(0,.val 3)],self⟩
abbrev KzC (self:Expr->Option (Int)):List (Nat×FSpec tb):=[(218,CzC),(193,(kzh self))]
theorem tzF (self:Expr->Option (Int))(hself:azu Tryz.prog tb 193 (kzh self)):azj Tryz.prog tb (KzC self):=(.cons DzF (.cons hself .nil))
def jzf (self:Expr->Option (Int))(back:Expr×Int×Int->Option (Int))(x:Expr×Int×Int):Option (Int):=brn (decide (x.2.2<(↑x.1.Kids.length:Int))) (brn (decide (x.2.1=0)) (obnd (idx x.1.Kids x.2.2) fun y=>obnd (self (azf y)) fun y=>back (azf x.1,y,i64.wrap (x.2.2+1))) (some x.2.1)) (some x.2.1)
def ozu (self:Expr->Option (Int)):Expr×Int×Int->Option (Int):=iter (jzf self) big
def FzO (self:Expr->Option (Int)):CutSpec tb:=⟨36,[(1,.ro 76),(3,.val 3),(4,.val 3)],[((.exit 0),[(3,.val 3)])],[7,8,9,10,11,12,13,14,15,18,19,20,21,22,23,3,16,17,4],(ozu self),none⟩
theorem zzE (self:Expr->Option (Int))(hself:azu Tryz.prog tb 193 (kzh self)):A3 Tryz.f193 36 (FzO self):=A4 (tzF self hself) .nil (jzf self)
def kzg (self:Expr->Option (Int))(x:Expr):Option (Int):=obnd (ezy (azf x)) fun y=>obnd ((ozu self) (azf x,y,0)) fun y=>some y
theorem DzG (self:Expr->Option (Int))(hself:azu Tryz.prog tb 193 (kzh self)):A0 193 (kzh (kzg self)):=A2 Tryz.func193 (tzF self hself) (.cons (zzE self hself) .nil)
def szn:Expr->Option (Int):=iter kzg big
def KzD:FSpec tb:=kzh szn
theorem Bzt:azu Tryz.prog tb 193 KzD:=nz6 (fzE Tryz.func193 (by kernel_rfl)) DzG
def kzO (x:Expr):Option (Int):=obnd (szm (azf x)) fun y=>brn (decide (16<y)) (some 11) (obnd (szl (azf x)) fun y=>brn (decide (1024<y)) (some 4) (obnd (szn (azf x)) fun y=>some y))
def DzA:FSpec tb:=⟨[(0,.val 76)],[(0,.val 3)],kzO⟩
theorem vzi:A0 148 DzA:=A1 Tryz.func148 (.cons Bzm (.cons Bzl (.cons Bzt .nil)))
def jzn (back:Int×Int×List (UInt8)×Int->Option (List (UInt8)))(x:Int×Int×List (UInt8)×Int):Option (List (UInt8)):=brn (decide (x.2.2.2<x.2.1)) (brn (decide (u64.wrap (i64.wrap (8*x.2.2.2))<0)) none (obnd (app 1 x.2.2.1 [UInt8.ofNat (u8.wrap (x.1.fdiv (2^min (u64.wrap (i64.wrap (8*x.2.2.2))).toNat 64))).toNat]) fun zs=>back (x.1,x.2.1,zs,i64.wrap (x.2.2.2+1)))) (some x.2.2.1)
def ozG:Int×Int×List (UInt8)×Int->Option (List (UInt8)):=iter jzn big
def Fz0:CutSpec tb:=⟨36,[(1,.val 276),(2,.val 3),(7,.own 5),(8,.val 3)],[((.exit 0),[(7,.own 5)])],[12,13,14,17,18,19,20,21,22,23,24,25,7,15,16,8],ozG,none⟩
theorem zzV:A3 Tryz.f152 36 Fz0:=A4 .nil .nil jzn
def bzO (x:List UInt8×Int×Int):Option (List (UInt8)):=obnd (app 1 [] x.1) fun zs=>obnd (ozG (x.2.1,x.2.2,zs,0)) fun y=>some y
def kzw:FSpec tb:=⟨[(0,.val 178),(1,.val 276),(2,.val 3)],[(0,.own 5)],bzO⟩
theorem fzy:A0 152 kzw:=A2 Tryz.func152 .nil (.cons zzV .nil)
abbrev KzG:List (Nat×FSpec tb):=[(146,pzN)]
theorem tzH:azj Tryz.prog tb (KzG):=(.cons kz0 .nil)
def jzm (back:List Int×Bool×Int->Option (Bool))(x:List Int×Bool×Int):Option (Bool):=brn (decide (x.2.2<(↑x.1.length:Int))) (brn x.2.1 (obnd (idx x.1 x.2.2) fun y=>back (x.1,decide (y<256),i64.wrap (x.2.2+1))) (back (x.1,false,i64.wrap (x.2.2+1)))) (some x.2.1)
def ozF:List Int×Bool×Int->Option (Bool):=iter jzm big
def FzZ:CutSpec tb:=⟨36,[(3,.val 23),(4,.val 4),(5,.val 3)],[((.exit 0),[(4,.val 4)])],[11,12,13,14,17,18,19,20,21,22,23,24,4,15,16,5],ozF,none⟩
theorem zzU:A3 Tryz.f196 36 FzZ:=A4 tzH .nil jzm
def lz4 (x:List UInt8):Option (Bool):=obnd (jzQ x) fun y=>obnd (ozF (y.1,y.2,0)) fun y=>some y
def szz:FSpec tb:=⟨[(0,.val 9)],[(0,.val 4)],lz4⟩
theorem qzY:A0 196 szz:=A2 Tryz.func196 tzH (.cons zzU .nil)
abbrev KzH:List (Nat×FSpec tb):=[(84,lzt),(152,kzw),(146,pzN),(147,uzt),(196,szz)]
theorem tzI:azj Tryz.prog tb (KzH):=(.cons izG (.cons fzy (.cons kz0 (.cons nzF (.cons qzY .nil)))))
def jzo (back:List (UInt8)×List Int×Bool×Int->Option (List (UInt8)))(x:List (UInt8)×List Int×Bool×Int):Option (List (UInt8)):=brn (decide (x.2.2.2<(↑x.2.1.length:Int))) (obnd (idx x.2.1 x.2.2.2) fun y=>obnd (app 1 x.1 [UInt8.ofNat (u8.wrap y).toNat]) fun zs=>brn (!x.2.2.1) (obnd (idx x.2.1 x.2.2.2) fun y=>obnd (app 1 zs [UInt8.ofNat (u8.wrap (Int.fdiv y 256)).toNat]) fun zs=>back (zs,x.2.1,x.2.2.1,i64.wrap (x.2.2.2+1))) (back (zs,x.2.1,x.2.2.1,i64.wrap (x.2.2.2+1)))) (some x.1)
def lzM:List (UInt8)×List Int×Bool×Int->Option (List (UInt8)):=iter jzo big
def Fz1:CutSpec tb:=⟨108,[(8,.own 5),(11,.val 23),(12,.val 4),(13,.val 3)],[((.exit 0),[(8,.own 5)])],[45,46,47,48,51,52,53,54,55,56,57,58,8,59,60,61,62,63,64,65,66,67,68,69,49,50,13],lzM,none⟩
theorem zzX:A3 Tryz.f194 108 Fz1:=A4 tzI .nil jzo
def ozH (x:List UInt8×List UInt8):Option (List (UInt8)×Int):=obnd (gzz x.2) fun y=>brn (!decide (y.2=0)) (obnd (app 1 [] x.1) fun zs=>some (zs,y.2)) (obnd (bzO (x.1,u64.wrap y.1,2)) fun y=>obnd (jzQ x.2) fun y_1=>obnd (hz9 y_1.1) fun y_2=>obnd (lz4 x.2) fun y_3=>brn y_3 (obnd (app 1 y [UInt8.ofNat 0]) fun zs=>obnd (lzM (zs,y_2,y_3,0)) fun y=>some (y,0)) (obnd (app 1 y [UInt8.ofNat 1]) fun zs=>obnd (lzM (zs,y_2,y_3,0)) fun y=>some (y,0)))
def zzW:FSpec tb:=⟨[(0,.val 178),(1,.val 9)],[(0,.own 5),(1,.val 3)],ozH⟩
theorem BzO:A0 194 zzW:=A2 Tryz.func194 tzI (.cons zzX .nil)
def ezK (x:List UInt8×Ref):Option (List (UInt8)):=brn x.2.RelRow (brn x.2.RelCol (obnd (bzO (x.1,u64.wrap x.2.Row,2)) fun y=>obnd (app 1 y [UInt8.ofNat (u8.wrap x.2.Col).toNat,UInt8.ofNat 3]) fun zs=>some zs) (obnd (bzO (x.1,u64.wrap x.2.Row,2)) fun y=>obnd (app 1 y [UInt8.ofNat (u8.wrap x.2.Col).toNat,UInt8.ofNat 1]) fun zs=>some zs)) (brn x.2.RelCol (obnd (bzO (x.1,u64.wrap x.2.Row,2)) fun y=>obnd (app 1 y [UInt8.ofNat (u8.wrap x.2.Col).toNat,UInt8.ofNat 2]) fun zs=>some zs) (obnd (bzO (x.1,u64.wrap x.2.Row,2)) fun y=>obnd (app 1 y [UInt8.ofNat (u8.wrap x.2.Col).toNat,UInt8.ofNat 0]) fun zs=>some zs))
def xzA:FSpec tb:=⟨[(0,.val 178),(1,.val 72)],[(0,.own 5)],ezK⟩
theorem zzF:A0 195 xzA:=A1 Tryz.func195 (.cons fzy .nil)
def fzl (self:List (UInt8)×Expr->Option (List (UInt8))):FSpec tb:=⟨[(0,.own 5),(1,.val 76)],[(0,.own 5)],self⟩
abbrev wzI (self:List (UInt8)×Expr->Option (List (UInt8))):List (Nat×FSpec tb):=[(149,(fzl self)),(152,kzw),(194,zzW),(195,xzA)]
theorem xzz (self:List (UInt8)×Expr->Option (List (UInt8)))(hself:azu Tryz.prog tb 149 (fzl self)):azj Tryz.prog tb (wzI self):=(.cons hself (.cons fzy (.cons BzO (.cons zzF .nil))))
def izZ (self:List (UInt8)×Expr->Option (List (UInt8)))(back:List (UInt8)×Expr×Int->Option (List (UInt8)))(x:List (UInt8)×Expr×Int):Option (List (UInt8)):=brn (decide (x.2.2<(↑x.2.1.Kids.length:Int))) (obnd (idx x.2.1.Kids x.2.2) fun y=>obnd (self (x.1,azf y)) fun y=>back (y,azf x.2.1,i64.wrap (x.2.2+1))) (some x.1)
def nzq (self:List (UInt8)×Expr->Option (List (UInt8))):List (UInt8)×Expr×Int->Option (List (UInt8)):=iter (izZ self) big
def lzk (self:List (UInt8)×Expr->Option (List (UInt8))):CutSpec tb:=⟨28,[(0,.own 5),(3,.ro 76),(5,.val 3)],[((.exit 0),[(0,.own 5)])],[8,9,10,11,12,15,16,17,18,19,20,21,0,13,14,5],(nzq self),none⟩
theorem FzP (self:List (UInt8)×Expr->Option (List (UInt8))):∀back x,fzL Tryz.prog tb (wzI self) [] (bzB 28 Tryz.f149) (lzk self).ins (lzk self).outs back x=izZ self back x:=fun back x=>by kernel_rfl
theorem Hzs (self:List (UInt8)×Expr->Option (List (UInt8))):cutB Tryz.f149.ntmps (lzk self) (bzB 28 Tryz.f149)=true:=by kernel_rfl
theorem DzH (self:List (UInt8)×Expr->Option (List (UInt8)))(hself:azu Tryz.prog tb 149 (fzl self)):A3 Tryz.f149 28 (lzk self):=A4 (xzz self hself) .nil (izZ self) (hb:=(Hzs self)) (hF:=(FzP self))
def ezJ (self:List (UInt8)×Expr->Option (List (UInt8)))(x:List (UInt8)×Expr):Option (List (UInt8)):=obnd ((nzq self) (x.1,azf x.2,0)) fun y=>brn (decide (x.2.Kind=1)) (brn (decide (x.2.V.Kind=1)) (obnd (app 1 y [UInt8.ofNat 31]) fun zs=>obnd (bzO (zs,u64.wrap x.2.V.N.M,8)) fun y=>obnd (app 1 y [UInt8.ofNat (u8.wrap x.2.V.N.S).toNat]) fun zs=>some zs) (brn (decide (x.2.V.Kind=2)) (obnd (app 1 y [UInt8.ofNat 23]) fun zs=>obnd (ozH (zs,x.2.V.S)) fun y=>some y.1) (brn (decide (x.2.V.Kind=3)) (brn x.2.V.B (obnd (app 1 y [UInt8.ofNat 29,UInt8.ofNat 1]) fun zs=>some zs) (obnd (app 1 y [UInt8.ofNat 29,UInt8.ofNat 0]) fun zs=>some zs)) (obnd (app 1 y [UInt8.ofNat 28,UInt8.ofNat (u8.wrap x.2.V.E).toNat]) fun zs=>some zs)))) (brn (decide (x.2.Kind=2)) (obnd (app 1 y [UInt8.ofNat 36]) fun zs=>obnd (ezK (zs,x.2.A.A)) fun y=>some y) (brn (decide (x.2.Kind=3)) (obnd (app 1 y [UInt8.ofNat 37]) fun zs=>obnd (ezK (zs,x.2.A.A)) fun y=>obnd (ezK (y,x.2.A.B)) fun y=>some y) (brn (decide (x.2.Kind=4)) (obnd (app 1 y [UInt8.ofNat 58,UInt8.ofNat (u8.wrap x.2.Sheet).toNat]) fun zs=>obnd (ezK (zs,x.2.A.A)) fun y=>some y) (brn (decide (x.2.Kind=5)) (obnd (app 1 y [UInt8.ofNat 59,UInt8.ofNat (u8.wrap x.2.Sheet).toNat]) fun zs=>obnd (ezK (zs,x.2.A.A)) fun y=>obnd (ezK (y,x.2.A.B)) fun y=>some y) (brn (decide (x.2.Kind=6)) (obnd (app 1 y [UInt8.ofNat 35]) fun zs=>obnd (bzO (zs,u64.wrap x.2.Op,2)) fun y=>some y) (brn (decide (x.2.Kind=7)) (obnd (idx [19,18,20] (i64.wrap (x.2.Op-1))) fun y_1=>obnd (app 1 y [UInt8.ofNat (u8.wrap y_1).toNat]) fun zs=>some zs) (brn (decide (x.2.Kind=8)) (obnd (app 1 y [UInt8.ofNat (u8.wrap (i64.wrap (2+x.2.Op))).toNat]) fun zs=>some zs) (brn (decide (x.2.Kind=9)) (obnd (app 1 y [UInt8.ofNat 34,UInt8.ofNat (u8.wrap (↑x.2.Kids.length:Int)).toNat,UInt8.ofNat (u8.wrap x.2.Op).toNat]) fun zs=>some zs) (obnd (app 1 y [UInt8.ofNat 21]) fun zs=>some zs)))))))))
theorem KzE (self:List (UInt8)×Expr->Option (List (UInt8))):∀x,evFn Tryz.prog tb (wzI self) [(lzk self)] Tryz.f149 (fzl (ezJ self)).ins (fzl (ezJ self)).outs x=(fzl (ezJ self)).f x:=fun x=>by kernel_rfl
theorem LzC (self:List (UInt8)×Expr->Option (List (UInt8))):fnK Tryz.f149 (fzl (ezJ self)).ins (fzl (ezJ self)).outs=true:=by kernel_rfl
theorem Hzt (self:List (UInt8)×Expr->Option (List (UInt8)))(hself:azu Tryz.prog tb 149 (fzl self)):A0 149 (fzl (ezJ self)):=A2 Tryz.func149 (xzz self hself) (.cons (DzH self hself) .nil) (hk:=(LzC self)) (hJ:=(KzE self))
def wzH:List (UInt8)×Expr->Option (List (UInt8)):=iter ezJ big
def MzD:FSpec tb:=fzl wzH
theorem FzQ:azu Tryz.prog tb 149 MzD:=nz6 (fzE Tryz.func149 (by kernel_rfl)) Hzt
def hzu (x:Expr):Option (List (UInt8)×Int):=obnd (kzO (azf x)) fun y=>brn (!decide (y=0)) (some ([],y)) (obnd (wzH ([],azf x)) fun y=>brn (decide (4096<(↑(List.length y):Int))) (some ([],4)) (some (y,0)))
def qzF:FSpec tb:=⟨[(0,.val 76)],[(0,.own 5),(1,.val 3)],hzu⟩
theorem lz0:A0 85 qzF:=A1 Tryz.func85 (.cons vzi (.cons FzQ .nil))
def ezx (self:Expr->Option (List (Expr))):FSpec tb:=⟨[(0,.val 76)],[(0,.own 76)],self⟩
abbrev uzd (self:Expr->Option (List (Expr))):List (Nat×FSpec tb):=[(86,(ezx self))]
theorem vzl (self:Expr->Option (List (Expr)))(hself:azu Tryz.prog tb 86 (ezx self)):azj Tryz.prog tb (uzd self):=(.cons hself .nil)
def izg (self:Expr->Option (List (Expr)))(back:Expr×List (Expr)×Int->Option (List (Expr)))(x:Expr×List (Expr)×Int):Option (List (Expr)):=brn (decide (x.2.2<(↑x.1.Kids.length:Int))) (obnd (idx x.1.Kids x.2.2) fun y=>obnd (self (azf y)) fun y=>obnd (app 152 x.2.1 y) fun zs=>back (azf x.1,zs,i64.wrap (x.2.2+1))) (some x.2.1)
def mzo (self:Expr->Option (List (Expr))):Expr×List (Expr)×Int->Option (List (Expr)):=iter (izg self) big
def kze (self:Expr->Option (List (Expr))):CutSpec tb:=⟨52,[(1,.ro 76),(3,.own 76),(4,.val 3)],[((.exit 0),[(3,.own 76)])],[15,16,17,18,19,22,23,24,25,26,27,28,29,3,20,21,4],(mzo self),none⟩
theorem DzD (self:Expr->Option (List (Expr))):∀back x,fzL Tryz.prog tb (uzd self) [] (bzB 52 Tryz.f86) (kze self).ins (kze self).outs back x=izg self back x:=fun back x=>by kernel_rfl
theorem FzL (self:Expr->Option (List (Expr))):cutB Tryz.f86.ntmps (kze self) (bzB 52 Tryz.f86)=true:=by kernel_rfl
theorem Bzn (self:Expr->Option (List (Expr)))(hself:azu Tryz.prog tb 86 (ezx self)):A3 Tryz.f86 52 (kze self):=A4 (vzl self hself) .nil (izg self) (hb:=(FzL self)) (hF:=(DzD self))
def ezw (self:Expr->Option (List (Expr)))(x:Expr):Option (List (Expr)):=brn (decide (2<=x.Kind)) (brn (decide (x.Kind<=6)) (some [azf x]) (obnd ((mzo self) (azf x,[],0)) fun y=>some y)) (obnd ((mzo self) (azf x,[],0)) fun y=>some y)
theorem Jzc (self:Expr->Option (List (Expr))):∀x,evFn Tryz.prog tb (uzd self) [(kze self)] Tryz.f86 (ezx (ezw self)).ins (ezx (ezw self)).outs x=(ezx (ezw self)).f x:=fun x=>by kernel_rfl
theorem KzB (self:Expr->Option (List (Expr))):fnK Tryz.f86 (ezx (ezw self)).ins (ezx (ezw self)).outs=true:=by kernel_rfl
theorem FzM (self:Expr->Option (List (Expr)))(hself:azu Tryz.prog tb 86 (ezx self)):A0 86 (ezx (ezw self)):=A2 Tryz.func86 (vzl self hself) (.cons (Bzn self hself) .nil) (hk:=(KzB self)) (hJ:=(Jzc self))
def uzc:Expr->Option (List (Expr)):=iter ezw big
def CzB:FSpec tb:=ezx uzc
theorem DzE:azu Tryz.prog tb 86 CzB:=nz6 (fzE Tryz.func86 (by kernel_rfl)) FzM
abbrev DzR:List (Nat×FSpec tb):=[(84,lzt)]
theorem izS:azj Tryz.prog tb (DzR):=(.cons izG .nil)
def fzR (back:Table×Int->Option ((Unit)⊕(Int)))(x:Table×Int):Option ((Unit)⊕(Int)):=brn (decide (x.2<(↑x.1.Texts.length:Int))) (obnd (idx x.1.Texts x.2) fun y=>obnd (gzz y) fun y=>brn (!decide (y.2=0)) (some (Sum.inr y.2)) (back (x.1,i64.wrap (x.2+1)))) (some (Sum.inl PUnit.unit))
def lzB:Table×Int->Option ((Unit)⊕(Int)):=iter fzR big
def yzk:CutSpec tb:=⟨44,[(1,.ro 26),(3,.val 3)],[((.exit 0),[]),(.ret,[(2,.val 3)])],[12,13,14,15,16,20,21,22,23,24,25,19,26,27,4,5,28,29,30,2,17,18,3],lzB,none⟩
theorem uzp:A3 Tryz.f150 44 yzk:=A4 izS .nil fzR
def fzT (back:Table×Int×Int->Option ((Unit)⊕(Int)))(x:Table×Int×Int):Option ((Unit)⊕(Int)):=brn (decide (x.2.2<x.2.1)) (obnd (idx x.1.Texts x.2.2) fun y=>obnd (idx x.1.Texts x.2.1) fun y_1=>brn (decide (y=y_1)) (some (Sum.inr 7)) (back (x.1,x.2.1,i64.wrap (x.2.2+1)))) (some (Sum.inl PUnit.unit))
def lzD:Table×Int×Int->Option ((Unit)⊕(Int)):=iter fzT big
def yzm:CutSpec tb:=⟨116,[(1,.ro 26),(6,.val 3),(7,.val 3)],[((.exit 4),[]),(.ret,[(2,.val 3)])],[38,39,40,43,44,45,46,47,48,49,50,51,52,53,2,41,42,7],lzD,none⟩
theorem uzr:A3 Tryz.f150 116 yzm:=A4 izS .nil fzT
def fzS (back:Table×Int->Option ((Unit)⊕(Int)))(x:Table×Int):Option ((Unit)⊕(Int)):=brn (decide (x.2<(↑x.1.Texts.length:Int))) (obnd (lzD (x.1,x.2,0)) fun y=>osum y (fun y=>back (x.1,i64.wrap (x.2+1))) fun y=>some (Sum.inr y)) (some (Sum.inl PUnit.unit))
def lzC:Table×Int->Option ((Unit)⊕(Int)):=iter fzS big
def yzl:CutSpec tb:=⟨92,[(1,.ro 26),(6,.val 3)],[((.exit 2),[]),(.ret,[(2,.val 3)])],[31,32,33,34,35,7,38,39,40,43,44,45,46,47,48,49,50,51,52,53,2,41,42,36,37,6],lzC,none⟩
theorem uzq:A3 Tryz.f150 92 yzl:=A4 izS (.cons uzr .nil) fzS
def kzY (x:Table):Option (Int):=brn (decide (1024<(↑x.Texts.length:Int))) (some 4) (obnd (lzB (x,0)) fun y=>osum y (fun y=>obnd (lzC (x,0)) fun y=>osum y (fun y=>brn (decide (x.Uses<(↑x.Texts.length:Int))) (some 1) (brn (decide (2147483647<x.Uses)) (some 1) (some 0))) fun y=>some y) fun y=>some y)
def szx:FSpec tb:=⟨[(0,.val 26)],[(0,.val 3)],kzY⟩
theorem vzB:A0 150 szx:=A2 Tryz.func150 izS (.cons uzp (.cons uzq .nil))
abbrev KzI:List (Nat×FSpec tb):=[(152,kzw),(146,pzN),(147,uzt),(196,szz)]
theorem ozJ:azj Tryz.prog tb (KzI):=(.cons fzy (.cons kz0 (.cons nzF (.cons qzY .nil))))
def jzq (back:List (UInt8)×List (Int)×Int×List Int×Int×Int->Option (List (UInt8)×List (Int)×Int))(x:List (UInt8)×List (Int)×Int×List Int×Int×Int):Option (List (UInt8)×List (Int)×Int):=brn (decide (x.2.2.2.2.2<(↑x.2.2.2.1.length:Int))) (brn (decide (224<i64.wrap (i64.wrap ((↑x.1.length:Int)-x.2.2.1)+x.2.2.2.2.1))) (obnd (app 8 x.2.1 [(↑x.1.length:Int)]) fun zs=>obnd (app 1 x.1 [UInt8.ofNat (u8.wrap (i64.wrap (x.2.2.2.2.1-1))).toNat]) fun zs_1=>obnd (idx x.2.2.2.1 x.2.2.2.2.2) fun y=>obnd (app 1 zs_1 [UInt8.ofNat (u8.wrap y).toNat]) fun zs_2=>brn (decide (x.2.2.2.2.1=2)) (obnd (idx x.2.2.2.1 x.2.2.2.2.2) fun y=>obnd (app 1 zs_2 [UInt8.ofNat (u8.wrap (Int.fdiv y 256)).toNat]) fun zs_3=>back (zs_3,zs,(↑x.1.length:Int),x.2.2.2.1,x.2.2.2.2.1,i64.wrap (x.2.2.2.2.2+1))) (back (zs_2,zs,(↑x.1.length:Int),x.2.2.2.1,x.2.2.2.2.1,i64.wrap (x.2.2.2.2.2+1)))) (obnd (idx x.2.2.2.1 x.2.2.2.2.2) fun y=>obnd (app 1 x.1 [UInt8.ofNat (u8.wrap y).toNat]) fun zs=>brn (decide (x.2.2.2.2.1=2)) (obnd (idx x.2.2.2.1 x.2.2.2.2.2) fun y=>obnd (app 1 zs [UInt8.ofNat (u8.wrap (Int.fdiv y 256)).toNat]) fun zs=>back (zs,x.2.1,x.2.2.1,x.2.2.2.1,x.2.2.2.2.1,i64.wrap (x.2.2.2.2.2+1))) (back (zs,x.2.1,x.2.2.1,x.2.2.2.1,x.2.2.2.2.1,i64.wrap (x.2.2.2.2.2+1))))) (some (x.1,x.2.1,x.2.2.1))
def fzp:List (UInt8)×List (Int)×Int×List Int×Int×Int->Option (List (UInt8)×List (Int)×Int):=iter jzq big
def Fz3:CutSpec tb:=⟨164,[(5,.own 5),(6,.own 3),(8,.val 3),(12,.val 23),(13,.val 3),(14,.val 3)],[((.exit 2),[(5,.own 5),(6,.own 3),(8,.val 3)])],[79,80,81,82,85,86,87,88,89,90,91,92,93,94,95,96,6,97,98,8,99,100,101,102,103,104,5,105,106,107,108,109,110,111,112,113,114,115,116,117,118,119,120,121,122,123,83,84,14],fzp,none⟩
theorem zz0:A3 Tryz.f151 164 Fz3:=A4 ozJ .nil jzq
def jzp (back:Table×List (UInt8)×List (Int)×List (Int)×Int×Int->Option (List (UInt8)×List (Int)×List (Int)))(x:Table×List (UInt8)×List (Int)×List (Int)×Int×Int):Option (List (UInt8)×List (Int)×List (Int)):=brn (decide (x.2.2.2.2.2<(↑x.1.Texts.length:Int))) (obnd (idx x.1.Texts x.2.2.2.2.2) fun y=>obnd (jzQ y) fun y=>obnd (hz9 y.1) fun y=>obnd (idx x.1.Texts x.2.2.2.2.2) fun y_1=>obnd (lz4 y_1) fun y_2=>brn y_2 (brn (decide (224<i64.wrap (i64.wrap ((↑x.2.1.length:Int)-x.2.2.2.2.1)+3))) (obnd (app 8 x.2.2.1 [(↑x.2.1.length:Int)]) fun zs=>obnd (app 8 x.2.2.2.1 [(↑x.2.1.length:Int)]) fun zs_1=>obnd (app 1 x.2.1 [UInt8.ofNat (u8.wrap (↑(List.length y):Int)).toNat,UInt8.ofNat (u8.wrap ((↑(List.length y):Int).fdiv 256)).toNat,UInt8.ofNat 0]) fun zs_2=>obnd (fzp (zs_2,zs,(↑x.2.1.length:Int),y,1,0)) fun y=>back (x.1,y.1,y.2.1,zs_1,y.2.2,i64.wrap (x.2.2.2.2.2+1))) (obnd (app 8 x.2.2.2.1 [(↑x.2.1.length:Int)]) fun zs=>obnd (app 1 x.2.1 [UInt8.ofNat (u8.wrap (↑(List.length y):Int)).toNat,UInt8.ofNat (u8.wrap ((↑(List.length y):Int).fdiv 256)).toNat,UInt8.ofNat 0]) fun zs_1=>obnd (fzp (zs_1,x.2.2.1,x.2.2.2.2.1,y,1,0)) fun y=>back (x.1,y.1,y.2.1,zs,y.2.2,i64.wrap (x.2.2.2.2.2+1)))) (brn (decide (224<i64.wrap (i64.wrap ((↑x.2.1.length:Int)-x.2.2.2.2.1)+3))) (obnd (app 8 x.2.2.1 [(↑x.2.1.length:Int)]) fun zs=>obnd (app 8 x.2.2.2.1 [(↑x.2.1.length:Int)]) fun zs_1=>obnd (app 1 x.2.1 [UInt8.ofNat (u8.wrap (↑(List.length y):Int)).toNat,UInt8.ofNat (u8.wrap ((↑(List.length y):Int).fdiv 256)).toNat,UInt8.ofNat 1]) fun zs_2=>obnd (fzp (zs_2,zs,(↑x.2.1.length:Int),y,2,0)) fun y=>back (x.1,y.1,y.2.1,zs_1,y.2.2,i64.wrap (x.2.2.2.2.2+1))) (obnd (app 8 x.2.2.2.1 [(↑x.2.1.length:Int)]) fun zs=>obnd (app 1 x.2.1 [UInt8.ofNat (u8.wrap (↑(List.length y):Int)).toNat,UInt8.ofNat (u8.wrap ((↑(List.length y):Int).fdiv 256)).toNat,UInt8.ofNat 1]) fun zs_1=>obnd (fzp (zs_1,x.2.2.1,x.2.2.2.2.1,y,2,0)) fun y=>back (x.1,y.1,y.2.1,zs,y.2.2,i64.wrap (x.2.2.2.2.2+1))))) (some (x.2.1,x.2.2.1,x.2.2.2.1))
def ozK:Table×List (UInt8)×List (Int)×List (Int)×Int×Int->Option (List (UInt8)×List (Int)×List (Int)):=iter jzp big
def Fz2:CutSpec tb:=⟨60,[(1,.ro 26),(5,.own 5),(6,.own 3),(7,.own 3),(8,.val 3),(9,.val 3)],[((.exit 0),[(5,.own 5),(6,.own 3),(7,.own 3)])],[24,25,26,27,28,32,33,34,35,36,37,31,38,39,10,11,40,41,12,13,42,43,44,45,46,47,48,49,50,51,52,53,54,55,56,57,58,6,59,60,8,61,62,63,64,65,7,66,67,68,69,70,71,72,73,74,75,76,77,78,5,14,79,80,81,82,85,86,87,88,89,90,91,92,93,94,95,96,97,98,99,100,101,102,103,104,105,106,107,108,109,110,111,112,113,114,115,116,117,118,119,120,121,122,123,83,84,29,30,9],ozK,none⟩
theorem zzZ:A3 Tryz.f151 60 Fz2:=A4 ozJ (.cons zz0 .nil) jzp
def ozI (x:Table):Option (List (UInt8)×List (Int)×List (Int)):=obnd (bzO ([],u64.wrap x.Uses,4)) fun y=>obnd (bzO (y,u64.wrap (↑x.Texts.length:Int),4)) fun y=>obnd (ozK (x,y,[],[],0,0)) fun y=>some (y.1,y.2)
def zzY:FSpec tb:=⟨[(0,.val 26)],[(0,.own 5),(1,.own 3),(2,.own 3)],ozI⟩
theorem BzT:A0 151 zzY:=A2 Tryz.func151 ozJ (.cons zzZ .nil)
def hzL (back:Rec×Int×Int->Option ((Unit)⊕(Int)))(x:Rec×Int×Int):Option ((Unit)⊕(Int)):=brn (decide (x.2.2<(↑x.1.Cuts.length:Int))) (obnd (idx x.1.Cuts x.2.2) fun y=>brn (decide (y<=x.2.1)) (some (Sum.inr 6)) (obnd (idx x.1.Cuts x.2.2) fun y=>brn (decide ((↑x.1.Data.length:Int)<=y)) (some (Sum.inr 6)) (obnd (idx x.1.Cuts x.2.2) fun y=>back (x.1,y,i64.wrap (x.2.2+1))))) (some (Sum.inl PUnit.unit))
def mzW:Rec×Int×Int->Option ((Unit)⊕(Int)):=iter hzL big
def BzL:CutSpec tb:=⟨68,[(1,.ro 196),(3,.val 3),(4,.val 3)],[((.exit 0),[]),(.ret,[(2,.val 3)])],[23,24,25,26,27,30,31,32,33,34,35,36,37,38,39,40,41,42,43,44,45,46,47,2,48,49,50,51,52,3,28,29,4],mzW,none⟩
theorem wzR:A3 Tryz.f153 68 BzL:=A4 .nil .nil hzL
def hzM (back:Rec×Int×Int->Option ((Int)⊕(Int)))(x:Rec×Int×Int):Option ((Int)⊕(Int)):=brn (decide (x.2.2<(↑x.1.Cuts.length:Int))) (obnd (idx x.1.Cuts x.2.2) fun y=>brn (decide (224<i64.wrap (y-x.2.1))) (some (Sum.inr 4)) (obnd (idx x.1.Cuts x.2.2) fun y=>back (x.1,y,i64.wrap (x.2.2+1)))) (some (Sum.inl x.2.1))
def mzX:Rec×Int×Int->Option ((Int)⊕(Int)):=iter hzM big
def BzM:CutSpec tb:=⟨124,[(1,.ro 196),(3,.val 3),(5,.val 3)],[((.exit 2),[(3,.val 3)]),(.ret,[(2,.val 3)])],[53,54,55,56,57,60,61,62,63,64,65,66,67,2,68,69,70,71,72,3,58,59,5],mzX,none⟩
theorem wzS:A3 Tryz.f153 124 BzM:=A4 .nil .nil hzM
def mzv (x:Rec):Option (Int):=brn (decide (x.Type_<0)) (some 1) (brn (decide (65535<x.Type_)) (some 1) (brn (decide (x.Type_=60)) (some 1) (brn (decide (65536<(↑x.Data.length:Int))) (some 4) (obnd (mzW (x,0,0)) fun y=>osum y (fun y=>obnd (mzX (x,0,0)) fun y=>osum y (fun y=>brn (decide (224<i64.wrap ((↑x.Data.length:Int)-y))) (some 4) (some 0)) fun y=>some y) fun y=>some y))))
def vzA:FSpec tb:=⟨[(0,.val 196)],[(0,.val 3)],mzv⟩
theorem yzj:A0 153 vzA:=A2 Tryz.func153 .nil (.cons wzR (.cons wzS .nil))
def lzL (back:List (Int)×Rec×Int->Option ((List (Int))×Rec))(x:List (Int)×Rec×Int):Option ((List (Int))×Rec):=brn (decide (x.2.2<(↑x.2.1.Data.length:Int))) (obnd (app 8 x.1 [x.2.2]) fun zs=>back (zs,Rec.mk x.2.1.Type_ x.2.1.Data zs x.2.1.At,i64.wrap (x.2.2+224))) (some (x.1,Rec.mk x.2.1.Type_ x.2.1.Data x.1 x.2.1.At))
def ozD:List (Int)×Rec×Int->Option ((List (Int))×Rec):=iter lzL big
def FzY:CutSpec tb:=⟨36,[(12884901889,.own 3),(1,.ref 196),(3,.val 3)],[((.exit 0),[(12884901889,.own 3)])],[5,6,7,8,9,12,13,14,15,16,17,10,11,3],ozD,none⟩
theorem zzT:A3 Tryz.f154 36 FzY:=A4 .nil .nil lzL
def lz3 (x:Rec):Option (Rec):=obnd (ozD ([],Rec.mk x.Type_ x.Data [] x.At,224)) fun y=>some (Rec.mk y.2.Type_ y.2.Data y.1 y.2.At)
def szy:FSpec tb:=⟨[(0,.val 196)],[(0,.val 196)],lz3⟩
theorem qzW:A0 154 szy:=A2 Tryz.func154 .nil (.cons zzT .nil)
abbrev BzN:List (Nat×FSpec tb):=[(150,szx),(151,zzY),(152,kzw),(153,vzA),(154,szy)]
theorem ozE:azj Tryz.prog tb (BzN):=(.cons vzB (.cons BzT (.cons fzy (.cons yzj (.cons qzW .nil)))))
def hzW (back:List Int×List (UInt8)×Int->Option (List (UInt8)))(x:List Int×List (UInt8)×Int):Option (List (UInt8)):=brn (decide (x.2.2<(↑x.1.length:Int))) (obnd (idx x.1 x.2.2) fun y=>obnd (bzO (x.2.1,u64.wrap y,4)) fun y=>back (x.1,y,i64.wrap (x.2.2+8))) (some x.2.1)
def kzZ:List Int×List (UInt8)×Int->Option (List (UInt8)):=iter hzW big
def wzT:CutSpec tb:=⟨68,[(8,.val 23),(9,.own 5),(10,.val 3)],[((.exit 0),[(9,.own 5)])],[26,27,28,29,32,33,34,35,36,37,38,9,30,31,10],kzZ,none⟩
theorem sz2:A3 Tryz.f87 68 wzT:=A4 ozE .nil hzW
def hzN (x:Table):Option (Rec×Rec×Int):=obnd (kzY x) fun y=>brn (!decide (y=0)) (some (Rec.mk 0 [] [] 0,Rec.mk 0 [] [] 0,y)) (obnd (ozI x) fun y=>obnd (bzO ([],8,2)) fun y_1=>obnd (kzZ (y.2.2,y_1,0)) fun y_2=>obnd (mzv (Rec.mk 252 y.1 y.2.1 0)) fun y_3=>brn (!decide (y_3=0)) (some (Rec.mk 0 [] [] 0,Rec.mk 0 [] [] 0,y_3)) (obnd (lz3 (Rec.mk 255 y_2 [] 0)) fun y_4=>some (Rec.mk 252 y.1 y.2.1 0,y_4,0)))
def qzX:FSpec tb:=⟨[(0,.val 26)],[(0,.val 196),(1,.val 196),(2,.val 3)],hzN⟩
theorem uzs:A0 87 qzX:=A2 Tryz.func87 ozE (.cons sz2 .nil)
def kzR (x:Place×Int):Option (Bool):=brn (decide (0<=x.1.Sheet)) (brn (decide (x.1.Sheet<x.2)) (obnd (ezv x.1.At) fun y=>some y) (some false)) (some false)
def szs:FSpec tb:=⟨[(0,.val 66),(1,.val 3)],[(0,.val 4)],kzR⟩
theorem vzr:A0 155 szs:=A1 Tryz.func155 (.cons kzP .nil)
abbrev zzI:List (Nat×FSpec tb):=[(152,kzw),(155,szs),(154,szy)]
theorem nzW:azj Tryz.prog tb (zzI):=(.cons fzy (.cons vzr (.cons qzW .nil)))
def ezT (back:List Place×Rec×List (UInt8)×Int->Option (((List (UInt8))×Rec)⊕((Int)×Rec)))(x:List Place×Rec×List (UInt8)×Int):Option (((List (UInt8))×Rec)⊕((Int)×Rec)):=brn (decide (x.2.2.2<(↑x.1.length:Int))) (obnd (idx x.1 x.2.2.2) fun y=>obnd (kzR (y,8)) fun y=>brn (!y) (some (Sum.inr (12,Rec.mk 0 [] [] 0))) (obnd (idx x.1 x.2.2.2) fun y=>obnd (app 1 x.2.2.1 [UInt8.ofNat (u8.wrap y.Sheet).toNat]) fun zs=>obnd (idx x.1 x.2.2.2) fun y=>obnd (bzO (zs,u64.wrap y.At.Row,2)) fun y=>obnd (idx x.1 x.2.2.2) fun y_1=>obnd (app 1 y [UInt8.ofNat (u8.wrap y_1.At.Col).toNat]) fun zs=>back (x.1,x.2.1,zs,i64.wrap (x.2.2.2+1)))) (some (Sum.inl (x.2.2.1,x.2.1)))
def kzm:List Place×Rec×List (UInt8)×Int->Option (((List (UInt8))×Rec)⊕((Int)×Rec)):=iter ezT big
def vzq:CutSpec tb:=⟨52,[(0,.val 27),(2,.ref 196),(4,.own 5),(5,.val 3)],[((.exit 0),[(4,.own 5)]),(.ret,[(3,.val 3)])],[14,15,16,17,20,21,22,23,24,25,26,3,27,28,29,30,31,32,33,34,35,36,37,38,39,40,41,42,43,44,45,46,47,48,49,50,51,52,4,18,19,5],kzm,none⟩
theorem szr:A3 Tryz.f88 52 vzq:=A4 nzW .nil ezT
def gzX (x:List Place):Option (Rec×Int):=brn (decide (4096<(↑x.length:Int))) (some (Rec.mk 0 [] [] 0,4)) (obnd (bzO ([],u64.wrap (↑x.length:Int),2)) fun y=>obnd (kzm (x,Rec.mk 0 [] [] 0,y,0)) fun y=>osum y (fun y=>obnd (lz3 (Rec.mk 6247 y.1 [] 0)) fun y=>some (y,0)) fun y=>some (y.2,y.1))
def pz9:FSpec tb:=⟨[(0,.val 27)],[(0,.val 196),(1,.val 3)],gzX⟩
theorem szY:A0 88 pz9:=A2 Tryz.func88 nzW (.cons szr .nil)
abbrev yzb:List (Nat×FSpec tb):=[(84,lzt),(85,qzF),(86,CzB),(87,qzX),(88,pz9)]
theorem bzU:azj Tryz.prog tb (yzb):=(.cons izG (.cons lz0 (.cons DzE (.cons uzs (.cons szY .nil)))))
def gzy (x:Globals):Option (Bool):=brn (decide ((↑x.Sheets.length:Int)<1)) (some true) (brn (decide (8<(↑x.Sheets.length:Int))) (some true) (brn (decide (64<(↑x.Formats.length:Int))) (some true) (brn (decide (256<(↑x.XFs.length:Int))) (some true) (some (decide (1024<(↑x.Names.length:Int)))))))
def uzg:CutSpec tb:=⟨16,[(1,.ro 29)],[(.normal,[(46,.val 4)])],[19,20,21,22,23,24,25,26,27,28,29,30,31,32,33,34,35,36,37,38,39,40,41,42,43,44,45,46],(gzy),none⟩
theorem rzr:A5 Tryz.f38 16 uzg:=A6 bzU .nil
def ezA (back:Globals×Int×Int->Option ((Unit)⊕(Int)))(x:Globals×Int×Int):Option ((Unit)⊕(Int)):=brn (decide (x.2.2<x.2.1)) (obnd (idx x.1.Sheets x.2.2) fun y=>obnd (idx x.1.Sheets x.2.1) fun y_1=>brn (decide (y=y_1)) (some (Sum.inr 7)) (back (x.1,x.2.1,i64.wrap (x.2.2+1)))) (some (Sum.inl PUnit.unit))
def jzL:Globals×Int×Int->Option ((Unit)⊕(Int)):=iter ezA big
def uzi:CutSpec tb:=⟨92,[(1,.ro 29),(3,.val 3),(6,.val 3)],[((.exit 2),[]),(.ret,[(2,.val 3)])],[73,74,75,78,79,80,81,82,83,84,85,86,87,88,2,76,77,6],jzL,none⟩
theorem rzt:A3 Tryz.f38 92 uzi:=A4 bzU .nil ezA
def ezz (back:Globals×Int->Option ((Unit)⊕(Int)))(x:Globals×Int):Option ((Unit)⊕(Int)):=brn (decide (x.2<(↑x.1.Sheets.length:Int))) (obnd (idx x.1.Sheets x.2) fun y=>obnd (gzz y) fun y=>brn (!decide (y.2=0)) (some (Sum.inr 3)) (brn (decide (y.1<1)) (some (Sum.inr 3)) (brn (decide (31<y.1)) (some (Sum.inr 3)) (obnd (jzL (x.1,x.2,0)) fun y=>osum y (fun y=>back (x.1,i64.wrap (x.2+1))) fun y=>some (Sum.inr y))))) (some (Sum.inl PUnit.unit))
def jzK:Globals×Int->Option ((Unit)⊕(Int)):=iter ezz big
def uzh:CutSpec tb:=⟨44,[(1,.ro 29),(3,.val 3)],[((.exit 0),[]),(.ret,[(2,.val 3)])],[47,48,49,50,51,55,56,57,58,59,60,54,61,62,4,5,63,64,65,66,67,68,69,70,71,72,2,6,73,74,75,78,79,80,81,82,83,84,85,86,87,88,76,77,52,53,3],jzK,none⟩
theorem rzs:A3 Tryz.f38 44 uzh:=A4 bzU (.cons rzt .nil) ezz
def ezB (back:Globals×Int->Option ((Unit)⊕(Int)))(x:Globals×Int):Option ((Unit)⊕(Int)):=brn (decide (x.2<(↑x.1.Formats.length:Int))) (obnd (idx x.1.Formats x.2) fun y=>obnd (gzz y) fun y=>brn (!decide (y.2=0)) (some (Sum.inr y.2)) (back (x.1,i64.wrap (x.2+1)))) (some (Sum.inl PUnit.unit))
def jzM:Globals×Int->Option ((Unit)⊕(Int)):=iter ezB big
def uzj:CutSpec tb:=⟨132,[(1,.ro 29),(7,.val 3)],[((.exit 4),[]),(.ret,[(2,.val 3)])],[89,90,91,92,93,97,98,99,100,101,102,96,103,104,8,9,105,106,107,2,94,95,7],jzM,none⟩
theorem rzu:A3 Tryz.f38 132 uzj:=A4 bzU .nil ezB
def ezC (back:Globals×Int->Option ((Unit)⊕(Int)))(x:Globals×Int):Option ((Unit)⊕(Int)):=brn (decide (x.2<(↑x.1.XFs.length:Int))) (obnd (idx x.1.XFs x.2) fun y=>brn (decide (y<0)) (some (Sum.inr 1)) (obnd (idx x.1.XFs x.2) fun y=>brn (decide ((↑x.1.Formats.length:Int)<=y)) (obnd (idx x.1.XFs x.2) fun y=>brn (!decide (y=0)) (some (Sum.inr 1)) (back (x.1,i64.wrap (x.2+1)))) (back (x.1,i64.wrap (x.2+1))))) (some (Sum.inl PUnit.unit))
def jzN:Globals×Int->Option ((Unit)⊕(Int)):=iter ezC big
def uzk:CutSpec tb:=⟨180,[(1,.ro 29),(10,.val 3)],[((.exit 6),[]),(.ret,[(2,.val 3)])],[108,109,110,111,112,115,116,117,118,119,120,121,122,123,124,125,126,127,128,129,130,131,132,133,134,135,136,137,138,139,2,113,114,10],jzN,none⟩
theorem rzv:A3 Tryz.f38 180 uzk:=A4 bzU .nil ezC
def ezE (back:List Expr×Int->Option ((Unit)⊕(Int)))(x:List Expr×Int):Option ((Unit)⊕(Int)):=brn (decide (x.2<(↑x.1.length:Int))) (obnd (idx x.1 x.2) fun y=>brn (decide (y.Kind=6)) (some (Sum.inr 3)) (back (x.1,i64.wrap (x.2+1)))) (some (Sum.inl PUnit.unit))
def jzP:List Expr×Int->Option ((Unit)⊕(Int)):=iter ezE big
def uzm:CutSpec tb:=⟨276,[(14,.val 24),(15,.val 3)],[((.exit 10),[]),(.ret,[(2,.val 3)])],[165,166,167,168,171,172,173,174,175,176,2,169,170,15],jzP,none⟩
theorem rzx:A3 Tryz.f38 276 uzm:=A4 bzU .nil ezE
def ezD (back:Globals×Int->Option ((Unit)⊕(Int)))(x:Globals×Int):Option ((Unit)⊕(Int)):=brn (decide (x.2<(↑x.1.Names.length:Int))) (obnd (idx x.1.Names x.2) fun y=>obnd (hzu (azf y)) fun y=>brn (!decide (y.2=0)) (some (Sum.inr y.2)) (obnd (idx x.1.Names x.2) fun y=>obnd (uzc (azf y)) fun y=>obnd (jzP (y,0)) fun y=>osum y (fun y=>back (x.1,i64.wrap (x.2+1))) fun y=>some (Sum.inr y))) (some (Sum.inl PUnit.unit))
def jzO:Globals×Int->Option ((Unit)⊕(Int)):=iter ezD big
def uzl:CutSpec tb:=⟨220,[(1,.ro 29),(11,.val 3)],[((.exit 8),[]),(.ret,[(2,.val 3)])],[140,141,142,143,144,148,149,150,151,152,153,147,154,155,12,13,156,157,158,2,159,160,161,162,163,164,14,15,165,166,167,168,171,172,173,174,175,176,169,170,145,146,11],jzO,none⟩
theorem rzw:A3 Tryz.f38 220 uzl:=A4 bzU (.cons rzx .nil) ezD
def izR (x:Globals):Option (Int):=obnd (gzy x) fun y=>brn y (some 4) (obnd (jzK (x,0)) fun y=>osum y (fun y=>obnd (jzM (x,0)) fun y=>osum y (fun y=>obnd (jzN (x,0)) fun y=>osum y (fun y=>obnd (jzO (x,0)) fun y=>osum y (fun y=>brn (decide ((↑x.Texts.Texts.length:Int)=0)) (brn (!decide (x.Texts.Uses=0)) (some 1) (obnd (hzN x.Texts) fun y=>brn (!decide (y.2.2=0)) (some y.2.2) (obnd (gzX x.Chain) fun y=>some y.2))) (obnd (hzN x.Texts) fun y=>brn (!decide (y.2.2=0)) (some y.2.2) (obnd (gzX x.Chain) fun y=>some y.2))) fun y=>some y) fun y=>some y) fun y=>some y) fun y=>some y)
def ozY:FSpec tb:=⟨[(0,.val 29)],[(0,.val 3)],izR⟩
theorem szv:A0 38 ozY:=A2 Tryz.func38 bzU (.cons rzr (.cons rzs (.cons rzu (.cons rzv (.cons rzw .nil)))))
def hzn (self:Expr×Expr->Option (Bool)):FSpec tb:=⟨[(0,.val 76),(1,.val 76)],[(0,.val 4)],self⟩
abbrev FzN (self:Expr×Expr->Option (Bool)):List (Nat×FSpec tb):=[(20,(hzn self))]
theorem pz7 (self:Expr×Expr->Option (Bool))(hself:azu Tryz.prog tb 20 (hzn self)):azj Tryz.prog tb (FzN self):=(.cons hself .nil)
def czY (self:Expr×Expr->Option (Bool))(back:Expr×Expr×Int->Option ((Unit)⊕(Bool)))(x:Expr×Expr×Int):Option ((Unit)⊕(Bool)):=brn (decide (x.2.2<(↑x.1.Kids.length:Int))) (obnd (idx x.1.Kids x.2.2) fun y=>obnd (idx x.2.1.Kids x.2.2) fun y_1=>obnd (self (azf y,azf y_1)) fun y=>brn (!y) (some (Sum.inr false)) (back (azf x.1,azf x.2.1,i64.wrap (x.2.2+1)))) (some (Sum.inl PUnit.unit))
def jze (self:Expr×Expr->Option (Bool)):Expr×Expr×Int->Option ((Unit)⊕(Bool)):=iter (czY self) big
def zzD (self:Expr×Expr->Option (Bool)):CutSpec tb:=⟨44,[(2,.ro 76),(3,.ro 76),(5,.val 3)],[((.exit 0),[]),(.ret,[(4,.val 4)])],[48,49,50,51,52,55,56,57,58,59,60,61,62,63,64,65,66,4,53,54,5],(jze self),none⟩
theorem vzm (self:Expr×Expr->Option (Bool))(hself:azu Tryz.prog tb 20 (hzn self)):A3 Tryz.f20 44 (zzD self):=A4 (pz7 self hself) .nil (czY self)
def czP (self:Expr×Expr->Option (Bool))(x:Expr×Expr):Option (Bool):=brn (!decide (x.1.Kind=x.2.Kind)) (some false) (brn (bif true then !(decide (x.1.V.Kind=x.2.V.Kind)&&(decide (x.1.V.N.M=x.2.V.N.M)&&(decide (x.1.V.N.S=x.2.V.N.S)&&(decide (x.1.V.S=x.2.V.S)&&(decide (x.1.V.B=x.2.V.B)&&decide (x.1.V.E=x.2.V.E))))))else decide (x.1.V.Kind=x.2.V.Kind)&&(decide (x.1.V.N.M=x.2.V.N.M)&&(decide (x.1.V.N.S=x.2.V.N.S)&&(decide (x.1.V.S=x.2.V.S)&&(decide (x.1.V.B=x.2.V.B)&&decide (x.1.V.E=x.2.V.E)))))) (some false) (brn (bif true then !(decide (x.1.A.A.Row=x.2.A.A.Row)&&(decide (x.1.A.A.Col=x.2.A.A.Col)&&(decide (x.1.A.A.RelRow=x.2.A.A.RelRow)&&(decide (x.1.A.A.RelCol=x.2.A.A.RelCol)&&(decide (x.1.A.B.Row=x.2.A.B.Row)&&(decide (x.1.A.B.Col=x.2.A.B.Col)&&(decide (x.1.A.B.RelRow=x.2.A.B.RelRow)&&decide (x.1.A.B.RelCol=x.2.A.B.RelCol))))))))else decide (x.1.A.A.Row=x.2.A.A.Row)&&(decide (x.1.A.A.Col=x.2.A.A.Col)&&(decide (x.1.A.A.RelRow=x.2.A.A.RelRow)&&(decide (x.1.A.A.RelCol=x.2.A.A.RelCol)&&(decide (x.1.A.B.Row=x.2.A.B.Row)&&(decide (x.1.A.B.Col=x.2.A.B.Col)&&(decide (x.1.A.B.RelRow=x.2.A.B.RelRow)&&decide (x.1.A.B.RelCol=x.2.A.B.RelCol)))))))) (some false) (brn (!decide (x.1.Sheet=x.2.Sheet)) (some false) (brn (!decide (x.1.Op=x.2.Op)) (some false) (brn (!decide ((↑x.1.Kids.length:Int)=(↑x.2.Kids.length:Int))) (some false) (obnd ((jze self) (azf x.1,azf x.2,0)) fun y=>osum y (fun y=>some true) fun y=>some y))))))
theorem xz5 (self:Expr×Expr->Option (Bool))(hself:azu Tryz.prog tb 20 (hzn self)):A0 20 (hzn (czP self)):=A2 Tryz.func20 (pz7 self hself) (.cons (vzm self hself) .nil)
def fzk:Expr×Expr->Option (Bool):=iter czP big
def ozt:FSpec tb:=hzn fzk
theorem hzU:azu Tryz.prog tb 20 ozt:=nz6 (fzE Tryz.func20 (by kernel_rfl)) xz5
def izC (x:Cell2):Option (Int):=obnd (ezv x.At) fun y=>brn (!y) (some 12) (brn (decide (x.XF<0)) (some 1) (brn (decide (255<x.XF)) (some 1) (obnd (bzZ x.V) fun y=>brn (!decide (y=0)) (some y) (brn (!x.Has) (obnd (fzk (azf x.E,Expr.mk 0 (Val.mk 0 (Dec.mk 0 0) [] false 0) (Area.mk (Ref.mk 0 0 false false) (Ref.mk 0 0 false false)) 0 0 [])) fun y=>brn (!y) (some 1) (some 0)) (obnd (hzu (azf x.E)) fun y=>brn (!decide (y.2=0)) (some y.2) (brn (decide (x.V.Kind=0)) (some 1) (some 0)))))))
def szu:FSpec tb:=⟨[(0,.val 131)],[(0,.val 3)],izC⟩
theorem vzu:A0 156 szu:=A1 Tryz.func156 (.cons kzP (.cons ozq (.cons hzU (.cons lz0 .nil))))
def lz1 (x:Cell×Cell):Option (Bool):=brn (decide (x.1.Row<x.2.Row)) (some true) (brn (decide (x.1.Row=x.2.Row)) (some (decide (x.1.Col<x.2.Col))) (some false))
def szw:FSpec tb:=⟨[(0,.val 64),(1,.val 64)],[(0,.val 4)],lz1⟩
theorem qzU:A0 157 szw:=A1 Tryz.func157 .nil
abbrev BzC:List (Nat×FSpec tb):=[(156,szu),(157,szw)]
theorem ozw:azj Tryz.prog tb (BzC):=(.cons vzu (.cons qzU .nil))
def fzm (back:List Cell2×Int->Option ((Unit)⊕(Int)))(x:List Cell2×Int):Option ((Unit)⊕(Int)):=brn (decide (x.2<(↑x.1.length:Int))) (obnd (idx x.1 x.2) fun y=>obnd (izC (Cell2.mk y.At y.XF y.V y.Has (azf y.E))) fun y=>brn (!decide (y=0)) (some (Sum.inr y)) (brn (decide (0<x.2)) (obnd (idx x.1 (i64.wrap (x.2-1))) fun y=>obnd (idx x.1 x.2) fun y_1=>obnd (lz1 (y.At,y_1.At)) fun y=>brn (!y) (some (Sum.inr 6)) (back (x.1,i64.wrap (x.2+1)))) (back (x.1,i64.wrap (x.2+1))))) (some (Sum.inl PUnit.unit))
def kzT:List Cell2×Int->Option ((Unit)⊕(Int)):=iter fzm big
def wzK:CutSpec tb:=⟨44,[(0,.val 117),(3,.val 3)],[((.exit 0),[]),(.ret,[(2,.val 3)])],[8,9,10,11,14,15,16,17,18,4,19,20,21,2,22,23,24,25,26,27,28,29,30,31,32,33,34,35,36,37,38,12,13,3],kzT,none⟩
theorem szZ:A3 Tryz.f89 44 wzK:=A4 ozw .nil fzm
def jzT (x:List Cell2):Option (Int):=brn (decide (4096<(↑x.length:Int))) (some 4) (obnd (kzT (x,0)) fun y=>osum y (fun y=>some 0) fun y=>some y)
def qzQ:FSpec tb:=⟨[(0,.val 117)],[(0,.val 3)],jzT⟩
theorem uzf:A0 89 qzQ:=A2 Tryz.func89 ozw (.cons szZ .nil)
def izA (back:List Group×List (Group)×Int->Option (List (Group)))(x:List Group×List (Group)×Int):Option (List (Group)):=brn (decide (x.2.2<(↑x.1.length:Int))) (obnd (idx x.1 x.2.2) fun y=>brn y.Array (obnd (idx x.1 x.2.2) fun y=>obnd (app 192 x.2.1 [Group.mk y.Array y.A y.B (azf y.E)]) fun zs=>back (x.1,zs,i64.wrap (x.2.2+1))) (back (x.1,x.2.1,i64.wrap (x.2.2+1)))) (some x.2.1)
def nzB:List Group×List (Group)×Int->Option (List (Group)):=iter izA big
def DzL:CutSpec tb:=⟨36,[(0,.val 118),(3,.own 145),(4,.val 3)],[((.exit 0),[(3,.own 145)])],[5,6,7,8,11,12,13,14,15,16,17,18,19,20,21,22,3,9,10,4],nzB,none⟩
theorem xz9:A3 Tryz.f158 36 DzL:=A4 .nil .nil izA
def nzr (x:List Group):Option (List (Group)):=obnd (nzB (x,[],0)) fun y=>some y
def xzC:FSpec tb:=⟨[(0,.val 118)],[(0,.own 145)],nzr⟩
theorem zzK:A0 158 xzC:=A2 Tryz.func158 .nil (.cons xz9 .nil)
abbrev Bzv:List (Nat×FSpec tb):=[(197,CzA),(85,qzF)]
theorem ozv:azj Tryz.prog tb (Bzv):=(.cons kzP (.cons lz0 .nil))
def hzV (x:Group):Option (Bool):=obnd (ezv x.A) fun y=>brn (!y) (some true) (obnd (ezv x.B) fun y=>brn (!y) (some true) (brn (decide (x.B.Row<x.A.Row)) (some true) (some (decide (x.B.Col<x.A.Col)))))
def wzJ:CutSpec tb:=⟨16,[(1,.ro 145)],[(.normal,[(32,.val 4)])],[5,6,7,8,9,10,11,12,13,14,15,16,17,18,19,20,21,22,23,24,25,26,27,28,29,30,31,32],(hzV),none⟩
theorem szW:A5 Tryz.f199 16 wzJ:=A6 ozv .nil
def jzS (x:Group):Option (Int):=obnd (hzV (Group.mk x.Array x.A x.B (azf x.E))) fun y=>brn y (some 12) (brn (decide (1024<i64.wrap (i64.wrap (i64.wrap (x.B.Row-x.A.Row)+1)*i64.wrap (i64.wrap (x.B.Col-x.A.Col)+1)))) (some 13) (brn (!x.Array) (brn (!decide (x.A.Col=x.B.Col)) (some 13) (brn (decide (x.A.Row=x.B.Row)) (some 13) (obnd (hzu (azf x.E)) fun y=>some y.2))) (obnd (hzu (azf x.E)) fun y=>some y.2)))
def qzP:FSpec tb:=⟨[(0,.val 145)],[(0,.val 3)],jzS⟩
theorem uze:A0 199 qzP:=A2 Tryz.func199 ozv (.cons szW .nil)
def mzp (x:Group×Group):Option (Bool):=brn (decide (x.1.A.Row<=x.2.B.Row)) (brn (decide (x.2.A.Row<=x.1.B.Row)) (brn (decide (x.1.A.Col<=x.2.B.Col)) (some (decide (x.2.A.Col<=x.1.B.Col))) (some false)) (some false)) (some false)
def vzs:FSpec tb:=⟨[(0,.val 145),(1,.val 145)],[(0,.val 4)],mzp⟩
theorem xz8:A0 200 vzs:=A1 Tryz.func200 .nil
abbrev zzH:List (Nat×FSpec tb):=[(199,qzP),(200,vzs)]
theorem hzo:azj Tryz.prog tb (zzH):=(.cons uze (.cons xz8 .nil))
def ezQ (back:List Group×Int->Option ((Unit)⊕(Int)))(x:List Group×Int):Option ((Unit)⊕(Int)):=brn (decide (x.2<(↑x.1.length:Int))) (obnd (idx x.1 x.2) fun y=>obnd (jzS (Group.mk y.Array y.A y.B (azf y.E))) fun y=>brn (!decide (y=0)) (some (Sum.inr y)) (back (x.1,i64.wrap (x.2+1)))) (some (Sum.inl PUnit.unit))
def kzj:List Group×Int->Option ((Unit)⊕(Int)):=iter ezQ big
def vzn:CutSpec tb:=⟨28,[(0,.val 118),(3,.val 3)],[((.exit 0),[]),(.ret,[(2,.val 3)])],[7,8,9,10,13,14,15,16,17,4,18,19,20,2,11,12,3],kzj,none⟩
theorem szo:A3 Tryz.f159 28 vzn:=A4 hzo .nil ezQ
def ezS (back:List Group×Int×Int->Option ((Unit)⊕(Int)))(x:List Group×Int×Int):Option ((Unit)⊕(Int)):=brn (decide (x.2.2<x.2.1)) (obnd (idx x.1 x.2.1) fun y=>obnd (idx x.1 x.2.2) fun y_1=>obnd (mzp (Group.mk y.Array y.A y.B (azf y.E),Group.mk y_1.Array y_1.A y_1.B (azf y_1.E))) fun y=>brn y (some (Sum.inr 13)) (back (x.1,x.2.1,i64.wrap (x.2.2+1)))) (some (Sum.inl PUnit.unit))
def kzl:List Group×Int×Int->Option ((Unit)⊕(Int)):=iter ezS big
def vzp:CutSpec tb:=⟨100,[(0,.val 118),(5,.val 3),(6,.val 3)],[((.exit 4),[]),(.ret,[(2,.val 3)])],[27,28,29,32,33,34,35,36,37,38,39,40,2,30,31,6],kzl,none⟩
theorem szq:A3 Tryz.f159 100 vzp:=A4 hzo .nil ezS
def ezR (back:List Group×Int->Option ((Unit)⊕(Int)))(x:List Group×Int):Option ((Unit)⊕(Int)):=brn (decide (x.2<(↑x.1.length:Int))) (obnd (kzl (x.1,x.2,0)) fun y=>osum y (fun y=>back (x.1,i64.wrap (x.2+1))) fun y=>some (Sum.inr y)) (some (Sum.inl PUnit.unit))
def kzk:List Group×Int->Option ((Unit)⊕(Int)):=iter ezR big
def vzo:CutSpec tb:=⟨76,[(0,.val 118),(5,.val 3)],[((.exit 2),[]),(.ret,[(2,.val 3)])],[21,22,23,24,6,27,28,29,32,33,34,35,36,37,38,39,40,2,30,31,25,26,5],kzk,none⟩
theorem szp:A3 Tryz.f159 76 vzo:=A4 hzo (.cons szq .nil) ezR
def jzg (x:List Group):Option (Int):=obnd (kzj (x,0)) fun y=>osum y (fun y=>obnd (kzk (x,0)) fun y=>osum y (fun y=>some 0) fun y=>some y) fun y=>some y
def pz8:FSpec tb:=⟨[(0,.val 118)],[(0,.val 3)],jzg⟩
theorem szX:A0 159 pz8:=A2 Tryz.func159 hzo (.cons szo (.cons szp .nil))
def izz (back:Group×List (Member)×Int×Int->Option (List (Member)))(x:Group×List (Member)×Int×Int):Option (List (Member)):=brn (decide (x.2.2.2<=x.1.B.Col)) (obnd (app 168 x.2.1 [Member.mk (Cell.mk x.2.2.1 x.2.2.2) (azf x.1.E)]) fun zs=>back (Group.mk x.1.Array x.1.A x.1.B (azf x.1.E),zs,x.2.2.1,i64.wrap (x.2.2.2+1))) (some x.2.1)
def kzQ:Group×List (Member)×Int×Int->Option (List (Member)):=iter izz big
def DzJ:CutSpec tb:=⟨60,[(1,.ro 145),(3,.own 288),(4,.val 3),(5,.val 3)],[((.exit 2),[(3,.own 288)])],[19,20,21,22,23,26,27,28,29,30,31,32,33,34,3,24,25,5],kzQ,none⟩
theorem xz7:A3 Tryz.f160 60 DzJ:=A4 .nil .nil izz
def izy (back:Group×List (Member)×Int->Option (List (Member)))(x:Group×List (Member)×Int):Option (List (Member)):=brn (decide (x.2.2<=x.1.B.Row)) (obnd (kzQ (Group.mk x.1.Array x.1.A x.1.B (azf x.1.E),x.2.1,x.2.2,x.1.A.Col)) fun y=>back (Group.mk x.1.Array x.1.A x.1.B (azf x.1.E),y,i64.wrap (x.2.2+1))) (some x.2.1)
def nzA:Group×List (Member)×Int->Option (List (Member)):=iter izy big
def DzI:CutSpec tb:=⟨36,[(1,.ro 145),(3,.own 288),(4,.val 3)],[((.exit 0),[(3,.own 288)])],[9,10,11,12,13,16,17,18,5,19,20,21,22,23,26,27,28,29,30,31,32,33,34,3,24,25,14,15,4],nzA,none⟩
theorem xz6:A3 Tryz.f160 36 DzI:=A4 .nil (.cons xz7 .nil) izy
def lzl (x:Group):Option (List (Member)):=obnd (nzA (Group.mk x.Array x.A x.B (azf x.E),[],x.A.Row)) fun y=>some y
def xzB:FSpec tb:=⟨[(0,.val 145)],[(0,.own 288)],lzl⟩
theorem zzJ:A0 160 xzB:=A2 Tryz.func160 .nil (.cons xz6 .nil)
def izB (back:List Cell2×Cell×Int->Option ((Unit)⊕(Int)))(x:List Cell2×Cell×Int):Option ((Unit)⊕(Int)):=brn (decide (x.2.2<(↑x.1.length:Int))) (obnd (idx x.1 x.2.2) fun y=>brn (bif false then !(decide (y.At.Row=x.2.1.Row)&&decide (y.At.Col=x.2.1.Col))else decide (y.At.Row=x.2.1.Row)&&decide (y.At.Col=x.2.1.Col)) (some (Sum.inr x.2.2)) (back (x.1,x.2.1,i64.wrap (x.2.2+1)))) (some (Sum.inl PUnit.unit))
def nzC:List Cell2×Cell×Int->Option ((Unit)⊕(Int)):=iter izB big
def DzM:CutSpec tb:=⟨28,[(0,.val 117),(3,.ro 64),(5,.val 3)],[((.exit 0),[]),(.ret,[(4,.val 3)])],[6,7,8,9,12,13,14,15,16,17,18,19,4,10,11,5],nzC,none⟩
theorem yza:A3 Tryz.f161 28 DzM:=A4 .nil .nil izB
def nzs (x:List Cell2×Cell):Option (Int):=obnd (nzC (x.1,x.2,0)) fun y=>osum y (fun y=>some (-1)) fun y=>some y
def xzD:FSpec tb:=⟨[(0,.val 117),(1,.val 64)],[(0,.val 3)],nzs⟩
theorem zzL:A0 161 xzD:=A2 Tryz.func161 .nil (.cons yza .nil)
def rzq (x:Group×Cell):Option (Bool):=brn (decide (x.1.A.Row<=x.2.Row)) (brn (decide (x.2.Row<=x.1.B.Row)) (brn (decide (x.1.A.Col<=x.2.Col)) (some (decide (x.2.Col<=x.1.B.Col))) (some false)) (some false)) (some false)
def FzR:FSpec tb:=⟨[(0,.val 145),(1,.val 64)],[(0,.val 4)],rzq⟩
theorem FzS:A0 103 FzR:=A1 Tryz.func103 .nil
abbrev HzB:List (Nat×FSpec tb):=[(103,FzR)]
theorem qzV:azj Tryz.prog tb (HzB):=(.cons FzS .nil)
def hzK (back:List Group×Cell×Int->Option ((Unit)⊕(Bool)))(x:List Group×Cell×Int):Option ((Unit)⊕(Bool)):=brn (decide (x.2.2<(↑x.1.length:Int))) (obnd (idx x.1 x.2.2) fun y=>brn y.Array (obnd (idx x.1 x.2.2) fun y=>obnd (rzq (Group.mk y.Array y.A y.B (azf y.E),x.2.1)) fun y=>brn y (some (Sum.inr true)) (back (x.1,x.2.1,i64.wrap (x.2.2+1)))) (back (x.1,x.2.1,i64.wrap (x.2.2+1)))) (some (Sum.inl PUnit.unit))
def mzV:List Group×Cell×Int->Option ((Unit)⊕(Bool)):=iter hzK big
def BzH:CutSpec tb:=⟨28,[(0,.val 118),(3,.ro 64),(5,.val 3)],[((.exit 0),[]),(.ret,[(4,.val 4)])],[6,7,8,9,12,13,14,15,16,17,18,19,20,21,22,23,24,4,10,11,5],mzV,none⟩
theorem wzQ:A3 Tryz.f201 28 BzH:=A4 qzV .nil hzK
def mzt (x:List Group×Cell):Option (Bool):=obnd (mzV (x.1,x.2,0)) fun y=>osum y (fun y=>some false) fun y=>some y
def vzy:FSpec tb:=⟨[(0,.val 118),(1,.val 64)],[(0,.val 4)],mzt⟩
theorem yzh:A0 201 vzy:=A2 Tryz.func201 qzV (.cons wzQ .nil)
abbrev LzD:List (Nat×FSpec tb):=[(20,ozt),(1099511627792,mutS)]
theorem gzh:azj Tryz.prog tb (LzD):=(.cons hzU (.consK jza .nil))
def kzo (back:List Member×Int×List (Int)×Int->Option (List (Int)))(x:List Member×Int×List (Int)×Int):Option (List (Int)):=brn (decide (x.2.2.2<(↑x.1.length:Int))) (obnd (idx x.1 x.2.2.2) fun y=>brn (decide (y.At.Col=x.2.1)) (obnd (app 8 x.2.2.1 [x.2.2.2]) fun zs=>back (x.1,x.2.1,zs,i64.wrap (x.2.2.2+1))) (back (x.1,x.2.1,x.2.2.1,i64.wrap (x.2.2.2+1)))) (some x.2.2.1)
def mzq:List Member×Int×List (Int)×Int->Option (List (Int)):=iter kzo big
def Hzv:CutSpec tb:=⟨76,[(0,.val 284),(6,.val 3),(7,.own 3),(8,.val 3)],[((.exit 2),[(7,.own 3)])],[21,22,23,24,27,28,29,30,31,32,33,34,35,36,37,38,7,25,26,8],mzq,none⟩
theorem Bzx:A3 Tryz.f202 76 Hzv:=A4 gzh .nil kzo
def kzq (back:List Member×List Int×Int×Int->Option (Int))(x:List Member×List Int×Int×Int):Option (Int):=brn (decide (i64.wrap (x.2.2.1+x.2.2.2)<(↑x.2.1.length:Int))) (brn (decide (x.2.2.2<1024)) (obnd (idx x.2.1 (i64.wrap (x.2.2.1+x.2.2.2))) fun y=>obnd (idx x.1 y) fun y=>obnd (idx x.2.1 x.2.2.1) fun y_1=>obnd (idx x.1 y_1) fun y_2=>brn (decide (y.At.Row=i64.wrap (y_2.At.Row+x.2.2.2))) (obnd (idx x.2.1 (i64.wrap (x.2.2.1+x.2.2.2))) fun y=>obnd (idx x.1 y) fun y=>obnd (idx x.2.1 x.2.2.1) fun y_3=>obnd (idx x.1 y_3) fun y_4=>obnd (fzk (azf y.E,azf y_4.E)) fun y=>brn y (back (x.1,x.2.1,x.2.2.1,i64.wrap (x.2.2.2+1))) (some x.2.2.2)) (some x.2.2.2)) (some x.2.2.2)) (some x.2.2.2)
def mzr:List Member×List Int×Int×Int->Option (Int):=iter kzq big
def Hzx:CutSpec tb:=⟨132,[(0,.val 284),(7,.val 23),(9,.val 3),(10,.val 3)],[((.exit 6),[(10,.val 3)])],[43,44,45,46,47,48,49,50,51,52,53,54,55,56,57,58,59,60,61,62,63,64,65,66,67,68,69,70,71,72,73,74,75,76,77,78,79,80,81,82,83,84,85,86,87,88,89,90,91,92,93,94,95,96,97,98,99,100,10],mzr,none⟩
theorem Bzz:A3 Tryz.f202 132 Hzx:=A4 gzh .nil kzq
def kzr (back:List (Bool)×List Int×Int×Int×Int->Option (List (Bool)))(x:List (Bool)×List Int×Int×Int×Int):Option (List (Bool)):=brn (decide (x.2.2.2.2<i64.wrap (x.2.2.1+x.2.2.2.1))) (obnd (idx x.2.1 x.2.2.2.2) fun y=>obnd (inb x.1.length y) fun k=>obnd (nth x.1 (0+k)) fun y=>back (x.1.set (0+k) true,x.2.1,x.2.2.1,x.2.2.2.1,i64.wrap (x.2.2.2.2+1))) (some x.1)
def pzo:List (Bool)×List Int×Int×Int×Int->Option (List (Bool)):=iter kzr big
def Hzy:CutSpec tb:=⟨164,[(5,.wr 4),(7,.val 23),(9,.val 3),(10,.val 3),(11,.val 3)],[((.exit 8),[(5,.wr 4)])],[104,105,106,107,108,111,112,113,114,115,116,109,110,11],pzo,none⟩
theorem BzA:A3 Tryz.f202 164 Hzy:=A4 gzh .nil kzr
def kzp (back:List Member×List (Group)×List (Bool)×List Int×Int->Option (List (Group)×List (Bool)))(x:List Member×List (Group)×List (Bool)×List Int×Int):Option (List (Group)×List (Bool)):=brn (decide (x.2.2.2.2<(↑x.2.2.2.1.length:Int))) (obnd (mzr (x.1,x.2.2.2.1,x.2.2.2.2,1)) fun y=>brn (decide (1<y)) (obnd (pzo (x.2.2.1,x.2.2.2.1,x.2.2.2.2,y,x.2.2.2.2)) fun y_1=>obnd (idx x.2.2.2.1 x.2.2.2.2) fun y_2=>obnd (idx x.1 y_2) fun y_3=>obnd (idx x.2.2.2.1 (i64.wrap (i64.wrap (x.2.2.2.2+y)-1))) fun y_4=>obnd (idx x.1 y_4) fun y_5=>obnd (idx x.2.2.2.1 x.2.2.2.2) fun y_6=>obnd (idx x.1 y_6) fun y_7=>obnd (app 192 x.2.1 [Group.mk false y_3.At y_5.At (azf y_7.E)]) fun zs=>back (x.1,zs,y_1,x.2.2.2.1,i64.wrap (x.2.2.2.2+y))) (back (x.1,x.2.1,x.2.2.1,x.2.2.2.1,i64.wrap (x.2.2.2.2+y)))) (some (x.2.1,x.2.2.1))
def pzn:List Member×List (Group)×List (Bool)×List Int×Int->Option (List (Group)×List (Bool)):=iter kzp big
def Hzw:CutSpec tb:=⟨116,[(0,.val 284),(4,.own 145),(5,.wr 4),(7,.val 23),(9,.val 3)],[((.exit 4),[(4,.own 145),(5,.wr 4)])],[39,40,41,42,10,43,44,45,46,47,48,49,50,51,52,53,54,55,56,57,58,59,60,61,62,63,64,65,66,67,68,69,70,71,72,73,74,75,76,77,78,79,80,81,82,83,84,85,86,87,88,89,90,91,92,93,94,95,96,97,98,99,100,101,102,103,11,104,105,106,107,108,111,112,113,114,115,116,109,110,117,118,119,120,121,122,123,124,125,126,127,128,129,130,131,132,133,134,135,136,137,138,139,140,141,142,143,144,145,146,147,4,148,149,150,9],pzn,none⟩
theorem Bzy:A3 Tryz.f202 116 Hzw:=A4 gzh (.cons Bzz (.cons BzA .nil)) kzp
def kzn (back:List Member×List (Group)×List (Bool)×Int->Option (List (Group)×List (Bool)))(x:List Member×List (Group)×List (Bool)×Int):Option (List (Group)×List (Bool)):=brn (decide (x.2.2.2<256)) (obnd (mzq (x.1,x.2.2.2,[],0)) fun y=>obnd (pzn (x.1,x.2.1,x.2.2.1,y,0)) fun y=>back (x.1,y.1,y.2,i64.wrap (x.2.2.2+1))) (some (x.2.1,x.2.2.1))
def pzm:List Member×List (Group)×List (Bool)×Int->Option (List (Group)×List (Bool)):=iter kzn big
def Hzu:CutSpec tb:=⟨44,[(0,.val 284),(4,.own 145),(5,.wr 4),(6,.val 3)],[((.exit 0),[(4,.own 145),(5,.own 4)])],[17,18,7,8,21,22,23,24,27,28,29,30,31,32,33,34,35,36,37,38,25,26,9,39,40,41,42,10,43,44,45,46,47,48,49,50,51,52,53,54,55,56,57,58,59,60,61,62,63,64,65,66,67,68,69,70,71,72,73,74,75,76,77,78,79,80,81,82,83,84,85,86,87,88,89,90,91,92,93,94,95,96,97,98,99,100,101,102,103,11,104,105,106,107,108,111,112,113,114,115,116,109,110,117,118,119,120,121,122,123,124,125,126,127,128,129,130,131,132,133,134,135,136,137,138,139,140,141,142,143,144,145,146,147,4,148,149,150,19,20,6],pzm,none⟩
theorem Bzw:A3 Tryz.f202 44 Hzu:=A4 gzh (.cons Bzx (.cons Bzy .nil)) kzn
def kzs (back:List Member×List Bool×List (Member)×Int->Option (List (Member)))(x:List Member×List Bool×List (Member)×Int):Option (List (Member)):=brn (decide (x.2.2.2<(↑x.1.length:Int))) (obnd (idx x.2.1 x.2.2.2) fun y=>brn (!y) (obnd (idx x.1 x.2.2.2) fun y=>obnd (app 168 x.2.2.1 [Member.mk y.At (azf y.E)]) fun zs=>back (x.1,x.2.1,zs,i64.wrap (x.2.2.2+1))) (back (x.1,x.2.1,x.2.2.1,i64.wrap (x.2.2.2+1)))) (some x.2.2.1)
def pzp:List Member×List Bool×List (Member)×Int->Option (List (Member)):=iter kzs big
def Hzz:CutSpec tb:=⟨220,[(0,.val 284),(5,.val 350),(12,.own 288),(13,.val 3)],[((.exit 10),[(12,.own 288)])],[151,152,153,154,157,158,159,160,161,162,163,164,165,166,167,168,12,155,156,13],pzp,none⟩
theorem BzB:A3 Tryz.f202 220 Hzz:=A4 gzh .nil kzs
def pzL (x:List Member):Option (List (Group)×List (Member)):=obnd (szd 1 false (↑x.length:Int) (↑x.length:Int)) fun xs=>obnd (pzm (x,[],xs,0)) fun y=>obnd (pzp (x,y.2,[],0)) fun y_1=>some (y.1,y_1)
def CzD:FSpec tb:=⟨[(0,.val 284)],[(0,.own 145),(1,.own 288)],pzL⟩
theorem DzK:A0 202 CzD:=A2 Tryz.func202 gzh (.cons Bzw (.cons BzB .nil))
abbrev HzA:List (Nat×FSpec tb):=[(201,vzy),(202,CzD)]
theorem qzS:azj Tryz.prog tb (HzA):=(.cons yzh (.cons DzK .nil))
def hzI (back:List Cell2×List Group×List (Member)×Int->Option (List (Member)))(x:List Cell2×List Group×List (Member)×Int):Option (List (Member)):=brn (decide (x.2.2.2<(↑x.1.length:Int))) (obnd (idx x.1 x.2.2.2) fun y=>brn y.Has (obnd (idx x.1 x.2.2.2) fun y=>obnd (mzt (x.2.1,y.At)) fun y=>brn (!y) (obnd (idx x.1 x.2.2.2) fun y=>obnd (idx x.1 x.2.2.2) fun y_1=>obnd (app 168 x.2.2.1 [Member.mk y.At (azf y_1.E)]) fun zs=>back (x.1,x.2.1,zs,i64.wrap (x.2.2.2+1))) (back (x.1,x.2.1,x.2.2.1,i64.wrap (x.2.2.2+1)))) (back (x.1,x.2.1,x.2.2.1,i64.wrap (x.2.2.2+1)))) (some x.2.2.1)
def mzT:List Cell2×List Group×List (Member)×Int->Option (List (Member)):=iter hzI big
def BzF:CutSpec tb:=⟨36,[(0,.val 117),(1,.val 118),(5,.own 288),(6,.val 3)],[((.exit 0),[(5,.own 288)])],[9,10,11,12,15,16,17,18,19,20,21,22,23,24,25,26,27,28,29,30,31,32,33,34,35,36,37,38,39,40,41,42,43,5,13,14,6],mzT,none⟩
theorem wzM:A3 Tryz.f162 36 BzF:=A4 qzS .nil hzI
def pzq (x:List Cell2×List Group):Option (List (Group)):=obnd (mzT (x.1,x.2,[],0)) fun y=>obnd (pzL y) fun y=>obnd (app 192 [] x.2) fun zs=>obnd (app 192 zs y.1) fun zs=>some zs
def vzv:FSpec tb:=⟨[(0,.val 117),(1,.val 118)],[(0,.own 145)],pzq⟩
theorem yzc:A0 162 vzv:=A2 Tryz.func162 qzS (.cons wzM .nil)
def kzS (x:Group×Group):Option (Bool):=brn (decide (x.1.Array=x.2.Array)) (brn (bif false then !(decide (x.1.A.Row=x.2.A.Row)&&decide (x.1.A.Col=x.2.A.Col))else decide (x.1.A.Row=x.2.A.Row)&&decide (x.1.A.Col=x.2.A.Col)) (brn (bif false then !(decide (x.1.B.Row=x.2.B.Row)&&decide (x.1.B.Col=x.2.B.Col))else decide (x.1.B.Row=x.2.B.Row)&&decide (x.1.B.Col=x.2.B.Col)) (obnd (fzk (azf x.1.E,azf x.2.E)) fun y=>some y) (some false)) (some false)) (some false)
def szt:FSpec tb:=⟨[(0,.val 145),(1,.val 145)],[(0,.val 4)],kzS⟩
theorem vzt:A0 102 szt:=A1 Tryz.func102 (.cons hzU .nil)
abbrev Jzd:List (Nat×FSpec tb):=[(158,xzC),(159,pz8),(157,szw),(160,xzB),(161,xzD),(20,ozt),(162,vzv),(102,szt)]
theorem kzW:azj Tryz.prog tb (Jzd):=(.cons zzK (.cons szX (.cons qzU (.cons zzJ (.cons zzL (.cons hzU (.cons yzc (.cons vzt .nil))))))))
def izE (back:Sheet×List Group×Int×List Member×Int->Option ((Unit)⊕(Bool)))(x:Sheet×List Group×Int×List Member×Int):Option ((Unit)⊕(Bool)):=brn (decide (x.2.2.2.2<(↑x.2.2.2.1.length:Int))) (obnd (idx x.2.2.2.1 x.2.2.2.2) fun y=>obnd (nzs (x.1.Cells,y.At)) fun y=>brn (decide (y<0)) (some (Sum.inr false)) (obnd (idx x.1.Cells y) fun y_1=>brn (!y_1.Has) (some (Sum.inr false)) (obnd (idx x.1.Cells y) fun y=>obnd (idx x.2.1 x.2.2.1) fun y_2=>obnd (fzk (azf y.E,azf y_2.E)) fun y=>brn (!y) (some (Sum.inr false)) (back (x.1,x.2.1,x.2.2.1,x.2.2.2.1,i64.wrap (x.2.2.2.2+1)))))) (some (Sum.inl PUnit.unit))
def kzX:Sheet×List Group×Int×List Member×Int->Option ((Unit)⊕(Bool)):=iter izE big
def DzO:CutSpec tb:=⟨100,[(1,.ro 120),(3,.val 118),(4,.val 3),(5,.val 284),(6,.val 3)],[((.exit 2),[]),(.ret,[(2,.val 4)])],[44,45,46,47,50,51,52,53,54,55,56,57,7,58,59,60,61,62,63,64,65,66,67,68,69,70,71,72,73,74,75,76,77,78,79,80,81,82,83,2,48,49,6],kzX,none⟩
theorem yzf:A3 Tryz.f90 100 DzO:=A4 kzW .nil izE
def izD (back:Sheet×List Group×Int->Option ((Unit)⊕(Bool)))(x:Sheet×List Group×Int):Option ((Unit)⊕(Bool)):=brn (decide (x.2.2<(↑x.2.1.length:Int))) (brn (decide (0<x.2.2)) (obnd (idx x.2.1 (i64.wrap (x.2.2-1))) fun y=>obnd (idx x.2.1 x.2.2) fun y_1=>obnd (lz1 (y.A,y_1.A)) fun y=>brn (!y) (some (Sum.inr false)) (obnd (idx x.2.1 x.2.2) fun y=>obnd (lzl (Group.mk y.Array y.A y.B (azf y.E))) fun y=>obnd (kzX (x.1,x.2.1,x.2.2,y,0)) fun y=>osum y (fun y=>back (x.1,x.2.1,i64.wrap (x.2.2+1))) fun y=>some (Sum.inr y))) (obnd (idx x.2.1 x.2.2) fun y=>obnd (lzl (Group.mk y.Array y.A y.B (azf y.E))) fun y=>obnd (kzX (x.1,x.2.1,x.2.2,y,0)) fun y=>osum y (fun y=>back (x.1,x.2.1,i64.wrap (x.2.2+1))) fun y=>some (Sum.inr y))) (some (Sum.inl PUnit.unit))
def nzD:Sheet×List Group×Int->Option ((Unit)⊕(Bool)):=iter izD big
def DzN:CutSpec tb:=⟨52,[(1,.ro 120),(3,.val 118),(4,.val 3)],[((.exit 0),[]),(.ret,[(2,.val 4)])],[16,17,18,19,22,23,24,25,26,27,28,29,30,31,32,33,34,35,36,37,38,2,39,40,41,42,43,5,6,44,45,46,47,50,51,52,53,54,55,56,57,7,58,59,60,61,62,63,64,65,66,67,68,69,70,71,72,73,74,75,76,77,78,79,80,81,82,83,48,49,20,21,4],nzD,none⟩
theorem yze:A3 Tryz.f90 52 DzN:=A4 kzW (.cons yzf .nil) izD
def izF (back:Sheet×List Group×Int->Option ((Unit)⊕(Bool)))(x:Sheet×List Group×Int):Option ((Unit)⊕(Bool)):=brn (decide (x.2.2<(↑x.2.1.length:Int))) (obnd (idx x.2.1 x.2.2) fun y=>obnd (idx x.1.Groups x.2.2) fun y_1=>obnd (kzS (Group.mk y.Array y.A y.B (azf y.E),Group.mk y_1.Array y_1.A y_1.B (azf y_1.E))) fun y=>brn (!y) (some (Sum.inr false)) (back (x.1,x.2.1,i64.wrap (x.2.2+1)))) (some (Sum.inl PUnit.unit))
def nzE:Sheet×List Group×Int->Option ((Unit)⊕(Bool)):=iter izF big
def DzP:CutSpec tb:=⟨172,[(1,.ro 120),(8,.val 118),(9,.val 3)],[((.exit 4),[]),(.ret,[(2,.val 4)])],[94,95,96,97,100,101,102,103,104,105,106,107,108,109,110,2,98,99,9],nzE,none⟩
theorem yzg:A3 Tryz.f90 172 DzP:=A4 kzW .nil izF
def nzt (x:Sheet):Option (Bool):=obnd (nzr x.Groups) fun y=>obnd (jzg y) fun y_1=>brn (!decide (y_1=0)) (some false) (obnd (nzD (x,y,0)) fun y_2=>osum y_2 (fun y_3=>obnd (pzq (x.Cells,y)) fun y=>brn (!decide ((↑(List.length y):Int)=(↑x.Groups.length:Int))) (some false) (obnd (nzE (x,y,0)) fun y=>osum y (fun y=>some true) fun y=>some y)) fun y=>some y)
def xzE:FSpec tb:=⟨[(0,.val 120)],[(0,.val 4)],nzt⟩
theorem zzS:A0 90 xzE:=A2 Tryz.func90 kzW (.cons yze (.cons yzg .nil))
abbrev BzD:List (Nat×FSpec tb):=[(89,qzQ),(90,xzE)]
theorem ozy:azj Tryz.prog tb (BzD):=(.cons uzf (.cons zzS .nil))
def fzn (back:Sheet×Int->Option ((Unit)⊕(Int)))(x:Sheet×Int):Option ((Unit)⊕(Int)):=brn (decide (x.2<(↑x.1.Rows.length:Int))) (obnd (idx x.1.Rows x.2) fun y=>brn (decide (y.Row<0)) (some (Sum.inr 12)) (brn (decide (65536<=y.Row)) (some (Sum.inr 12)) (brn (decide (y.Height<0)) (some (Sum.inr 1)) (brn (decide (32767<y.Height)) (some (Sum.inr 1)) (brn (decide (0<x.2)) (obnd (idx x.1.Rows (i64.wrap (x.2-1))) fun y_1=>brn (decide (y.Row<=y_1.Row)) (some (Sum.inr 6)) (back (x.1,i64.wrap (x.2+1)))) (back (x.1,i64.wrap (x.2+1)))))))) (some (Sum.inl PUnit.unit))
def kzU:Sheet×Int->Option ((Unit)⊕(Int)):=iter fzn big
def wzL:CutSpec tb:=⟨44,[(1,.ro 120),(3,.val 3)],[((.exit 0),[]),(.ret,[(2,.val 3)])],[10,11,12,13,14,17,18,19,20,21,4,22,23,24,25,26,27,28,29,2,30,31,32,33,34,35,36,37,38,39,40,41,42,43,44,45,46,47,48,49,50,51,15,16,3],kzU,none⟩
theorem sz0:A3 Tryz.f39 44 wzL:=A4 ozy .nil fzn
def jzU (x:Sheet):Option (Int):=brn (decide (4096<(↑x.Rows.length:Int))) (some 4) (obnd (kzU (x,0)) fun y=>osum y (fun y=>obnd (jzT x.Cells) fun y=>brn (!decide (y=0)) (some y) (obnd (nzt x) fun y=>brn (!y) (some 13) (some 0))) fun y=>some y)
def qzR:FSpec tb:=⟨[(0,.val 120)],[(0,.val 3)],jzU⟩
theorem uzn:A0 39 qzR:=A2 Tryz.func39 ozy (.cons sz0 .nil)
def fzo (back:Sheet×List (List UInt8)×Int->Option (List (List UInt8)))(x:Sheet×List (List UInt8)×Int):Option (List (List UInt8)):=brn (decide (x.2.2<(↑x.1.Cells.length:Int))) (obnd (idx x.1.Cells x.2.2) fun y=>brn (!y.Has) (obnd (idx x.1.Cells x.2.2) fun y=>brn (decide (y.V.Kind=2)) (obnd (idx x.1.Cells x.2.2) fun y=>obnd (app 16 x.2.1 [y.V.S]) fun zs=>back (x.1,zs,i64.wrap (x.2.2+1))) (back (x.1,x.2.1,i64.wrap (x.2.2+1)))) (back (x.1,x.2.1,i64.wrap (x.2.2+1)))) (some x.2.1)
def kzV:Sheet×List (List UInt8)×Int->Option (List (List UInt8)):=iter fzo big
def wzN:CutSpec tb:=⟨36,[(1,.ro 120),(3,.own 9),(4,.val 3)],[((.exit 0),[(3,.own 9)])],[5,6,7,8,9,12,13,14,15,16,17,18,19,20,21,22,23,24,25,26,27,28,29,30,31,32,33,34,35,36,37,38,3,10,11,4],kzV,none⟩
theorem sz1:A3 Tryz.f91 36 wzN:=A4 .nil .nil fzo
def jzV (x:Sheet):Option (List (List UInt8)):=obnd (kzV (x,[],0)) fun y=>some y
def qzT:FSpec tb:=⟨[(0,.val 120)],[(0,.own 9)],jzV⟩
theorem uzo:A0 91 qzT:=A2 Tryz.func91 .nil (.cons sz1 .nil)
abbrev FzX:List (Nat×FSpec tb):=[(91,qzT)]
theorem qza:azj Tryz.prog tb (FzX):=(.cons uzo .nil)
def gzY (back:List Sheet×List (List UInt8)×Int->Option (List (List UInt8)))(x:List Sheet×List (List UInt8)×Int):Option (List (List UInt8)):=brn (decide (x.2.2<(↑x.1.length:Int))) (obnd (idx x.1 x.2.2) fun y=>obnd (jzV y) fun y=>obnd (app 16 x.2.1 y) fun zs=>back (x.1,zs,i64.wrap (x.2.2+1))) (some x.2.1)
def lz2:List Sheet×List (List UInt8)×Int->Option (List (List UInt8)):=iter gzY big
def zzR:CutSpec tb:=⟨36,[(0,.val 30),(3,.own 9),(4,.val 3)],[((.exit 0),[(3,.own 9)])],[5,6,7,8,11,12,13,14,15,16,17,3,9,10,4],lz2,none⟩
theorem vzx:A3 Tryz.f41 36 zzR:=A4 qza .nil gzY
def lzK (x:List Sheet):Option (List (List UInt8)):=obnd (lz2 (x,[],0)) fun y=>some y
def tzG:FSpec tb:=⟨[(0,.val 30)],[(0,.own 9)],lzK⟩
theorem wzP:A0 41 tzG:=A2 Tryz.func41 qza (.cons vzx .nil)
abbrev LzE:List (Nat×FSpec tb):=[(84,lzt)]
theorem mzu:azj Tryz.prog tb (LzE):=(.cons izG .nil)
def kzt (back:List (List UInt8)×Table×Int->Option (((Unit)×Table)⊕((List (Int)×Int)×Table)))(x:List (List UInt8)×Table×Int):Option (((Unit)×Table)⊕((List (Int)×Int)×Table)):=brn (decide (x.2.2<(↑x.1.length:Int))) (obnd (idx x.1 x.2.2) fun y=>obnd (gzz y) fun y=>brn (!decide (y.2=0)) (some (Sum.inr (([],y.2),Table.mk [] 0))) (back (x.1,x.2.1,i64.wrap (x.2.2+1)))) (some (Sum.inl ((),x.2.1)))
def pzr:List (List UInt8)×Table×Int->Option (((Unit)×Table)⊕((List (Int)×Int)×Table)):=iter kzt big
def HzC:CutSpec tb:=⟨44,[(0,.val 22),(2,.ref 26),(7,.val 3)],[((.exit 0),[]),(.ret,[(3,.own 3),(4,.val 3)])],[12,13,14,15,19,20,21,22,23,18,24,25,8,9,26,27,28,29,3,4,16,17,7],pzr,none⟩
theorem BzI:A3 Tryz.f40 44 HzC:=A4 mzu .nil kzt
def kzv (back:List (List UInt8)×Table×Int×Int->Option (Int))(x:List (List UInt8)×Table×Int×Int):Option (Int):=brn (decide (x.2.2.2<(↑x.2.1.Texts.length:Int))) (obnd (idx x.2.1.Texts x.2.2.2) fun y=>obnd (idx x.1 x.2.2.1) fun y_1=>brn (!decide (y=y_1)) (back (x.1,x.2.1,x.2.2.1,i64.wrap (x.2.2.2+1))) (some x.2.2.2)) (some x.2.2.2)
def pzt:List (List UInt8)×Table×Int×Int->Option (Int):=iter kzv big
def HzE:CutSpec tb:=⟨116,[(0,.val 22),(5,.ro 26),(10,.val 3),(11,.val 3)],[((.exit 4),[(11,.val 3)])],[36,37,38,39,40,41,42,43,44,45,46,47,48,49,50,51,52,53,54,11],pzt,none⟩
theorem BzK:A3 Tryz.f40 116 HzE:=A4 mzu .nil kzv
def kzu (back:List (List UInt8)×List (List UInt8)×Table×Table×List (Int)×Int->Option (((List (List UInt8)×List (Int))×(Table×Table))⊕((List (List UInt8)×List (Int)×Int)×(Table×Table))))(x:List (List UInt8)×List (List UInt8)×Table×Table×List (Int)×Int):Option (((List (List UInt8)×List (Int))×(Table×Table))⊕((List (List UInt8)×List (Int)×Int)×(Table×Table))):=brn (decide (x.2.2.2.2.2<(↑x.2.1.length:Int))) (obnd (pzt (x.2.1,Table.mk x.1 x.2.2.2.1.Uses,x.2.2.2.2.2,0)) fun y=>brn (decide (y=(↑x.1.length:Int))) (brn (decide (1024<=y)) (some (Sum.inr ((x.1,[],4),Table.mk [] 0,Table.mk x.1 x.2.2.2.1.Uses))) (obnd (idx x.2.1 x.2.2.2.2.2) fun y_1=>obnd (app 16 x.1 [y_1]) fun zs=>obnd (app 8 x.2.2.2.2.1 [y]) fun zs_1=>back (zs,x.2.1,x.2.2.1,Table.mk zs (i64.wrap (x.2.2.2.1.Uses+1)),zs_1,i64.wrap (x.2.2.2.2.2+1)))) (obnd (app 8 x.2.2.2.2.1 [y]) fun zs=>back (x.1,x.2.1,x.2.2.1,Table.mk x.1 (i64.wrap (x.2.2.2.1.Uses+1)),zs,i64.wrap (x.2.2.2.2.2+1)))) (some (Sum.inl ((x.1,x.2.2.2.2.1),x.2.2.1,Table.mk x.1 x.2.2.2.1.Uses)))
def pzs:List (List UInt8)×List (List UInt8)×Table×Table×List (Int)×Int->Option (((List (List UInt8)×List (Int))×(Table×Table))⊕((List (List UInt8)×List (Int)×Int)×(Table×Table))):=iter kzu big
def HzD:CutSpec tb:=⟨92,[(4294967301,.own 9),(0,.val 22),(2,.ref 26),(5,.ref 26),(6,.own 3),(10,.val 3)],[((.exit 2),[(4294967301,.own 9),(6,.own 3)]),(.ret,[(4294967301,.own 9),(3,.own 3),(4,.val 3)])],[30,31,32,33,11,36,37,38,39,40,41,42,43,44,45,46,47,48,49,50,51,52,53,54,55,56,57,58,59,60,61,62,3,4,63,64,65,66,67,68,69,70,71,72,73,74,75,6,76,77,78,79,34,35,10],pzs,none⟩
theorem BzJ:A3 Tryz.f40 92 HzD:=A4 mzu (.cons BzK .nil) kzu
def pzM (x:List (List UInt8)):Option (Table×List (Int)×Int):=obnd (pzr (x,Table.mk [] 0,0)) fun y=>osum y (fun y=>obnd (pzs ([],x,y.2,Table.mk [] 0,[],0)) fun y=>osum y (fun y=>some (Table.mk y.1.1 y.2.2.Uses,y.1.2,0)) fun y=>some (y.2.1,y.1.2)) fun y=>some (y.2,y.1)
def CzE:FSpec tb:=⟨[(0,.val 22)],[(0,.val 26),(1,.own 3),(2,.val 3)],pzM⟩
theorem DzQ:A0 40 CzE:=A2 Tryz.func40 mzu (.cons BzI (.cons BzJ .nil))
def hzJ (back:List (List UInt8)×List (List UInt8)×Int->Option ((Unit)⊕(Bool)))(x:List (List UInt8)×List (List UInt8)×Int):Option ((Unit)⊕(Bool)):=brn (decide (x.2.2<(↑x.1.length:Int))) (obnd (idx x.1 x.2.2) fun y=>obnd (idx x.2.1 x.2.2) fun y_1=>brn (!decide (y=y_1)) (some (Sum.inr false)) (back (x.1,x.2.1,i64.wrap (x.2.2+1)))) (some (Sum.inl PUnit.unit))
def mzU:List (List UInt8)×List (List UInt8)×Int->Option ((Unit)⊕(Bool)):=iter hzJ big
def BzG:CutSpec tb:=⟨44,[(0,.val 22),(1,.val 22),(5,.val 3)],[((.exit 0),[]),(.ret,[(4,.val 4)])],[11,12,13,14,17,18,19,20,21,22,23,24,25,4,15,16,5],mzU,none⟩
theorem wzO:A3 Tryz.f42 44 BzG:=A4 .nil .nil hzJ
def mzs (x:List (List UInt8)×List (List UInt8)):Option (Bool):=brn (!decide ((↑x.1.length:Int)=(↑x.2.length:Int))) (some false) (obnd (mzU (x.1,x.2,0)) fun y=>osum y (fun y=>some true) fun y=>some y)
def vzw:FSpec tb:=⟨[(0,.val 22),(1,.val 22)],[(0,.val 4)],mzs⟩
theorem yzd:A0 42 vzw:=A2 Tryz.func42 .nil (.cons wzO .nil)
abbrev KzF:List (Nat×FSpec tb):=[(38,ozY),(39,qzR),(41,tzG),(40,CzE),(42,vzw)]
theorem jzh:azj Tryz.prog tb (KzF):=(.cons szv (.cons uzn (.cons wzP (.cons DzQ (.cons yzd .nil)))))
def jzi (back:Book×Int->Option ((Unit)⊕(Int)))(x:Book×Int):Option ((Unit)⊕(Int)):=brn (decide (x.2<(↑x.1.Sheets.length:Int))) (obnd (idx x.1.Sheets x.2) fun y=>obnd (jzU y) fun y=>brn (!decide (y=0)) (some (Sum.inr y)) (back (x.1,i64.wrap (x.2+1)))) (some (Sum.inl PUnit.unit))
def ozz:Book×Int->Option ((Unit)⊕(Int)):=iter jzi big
def FzT:CutSpec tb:=⟨68,[(1,.ro 32),(4,.val 3)],[((.exit 0),[]),(.ret,[(2,.val 3)])],[26,27,28,29,30,33,34,35,36,37,38,3,39,40,41,2,31,32,4],ozz,none⟩
theorem zzN:A3 Tryz.f10 68 FzT:=A4 jzh .nil jzi
def jzj (back:Book×Int×Int->Option (Int))(x:Book×Int×Int):Option (Int):=brn (decide (x.2.2<(↑x.1.Sheets.length:Int))) (obnd (idx x.1.Sheets x.2.2) fun y=>back (x.1,i64.wrap (x.2.1+(↑y.Cells.length:Int)),i64.wrap (x.2.2+1))) (some x.2.1)
def ozA:Book×Int×Int->Option (Int):=iter jzj big
def FzU:CutSpec tb:=⟨124,[(1,.ro 32),(5,.val 3),(6,.val 3)],[((.exit 2),[(5,.val 3)])],[42,43,44,45,46,49,50,51,52,53,54,55,56,57,5,47,48,6],ozA,none⟩
theorem zzO:A3 Tryz.f10 124 FzU:=A4 jzh .nil jzj
def jzl (back:Book×Int×Int->Option ((Unit)⊕(Int)))(x:Book×Int×Int):Option ((Unit)⊕(Int)):=obnd (idx x.1.Sheets x.2.1) fun y=>brn (decide (x.2.2<(↑y.Cells.length:Int))) (obnd (idx x.1.Sheets x.2.1) fun y=>obnd (idx y.Cells x.2.2) fun y=>brn (decide ((↑x.1.Globals.XFs.length:Int)<=y.XF)) (brn (!decide (y.XF=0)) (some (Sum.inr 1)) (back (x.1,x.2.1,i64.wrap (x.2.2+1)))) (back (x.1,x.2.1,i64.wrap (x.2.2+1)))) (some (Sum.inl PUnit.unit))
def ozC:Book×Int×Int->Option ((Unit)⊕(Int)):=iter jzl big
def FzW:CutSpec tb:=⟨196,[(1,.ro 32),(7,.val 3),(8,.val 3)],[((.exit 6),[]),(.ret,[(2,.val 3)])],[67,68,69,70,71,72,73,74,75,78,79,80,81,82,83,84,85,86,87,9,88,89,90,91,92,93,94,95,96,97,2,76,77,8],ozC,none⟩
theorem zzQ:A3 Tryz.f10 196 FzW:=A4 jzh .nil jzl
def jzk (back:Book×Int->Option ((Unit)⊕(Int)))(x:Book×Int):Option ((Unit)⊕(Int)):=brn (decide (x.2<(↑x.1.Sheets.length:Int))) (obnd (ozC (x.1,x.2,0)) fun y=>osum y (fun y=>back (x.1,i64.wrap (x.2+1))) fun y=>some (Sum.inr y)) (some (Sum.inl PUnit.unit))
def ozB:Book×Int->Option ((Unit)⊕(Int)):=iter jzk big
def FzV:CutSpec tb:=⟨172,[(1,.ro 32),(7,.val 3)],[((.exit 4),[]),(.ret,[(2,.val 3)])],[60,61,62,63,64,8,67,68,69,70,71,72,73,74,75,78,79,80,81,82,83,84,85,86,87,9,88,89,90,91,92,93,94,95,96,97,2,76,77,65,66,7],ozB,none⟩
theorem zzP:A3 Tryz.f10 172 FzV:=A4 jzh (.cons zzQ .nil) jzk
def ozx (x:Book):Option (Int):=obnd (izR x.Globals) fun y=>brn (!decide (y=0)) (some y) (brn (!decide ((↑x.Sheets.length:Int)=(↑x.Globals.Sheets.length:Int))) (some 1) (obnd (ozz (x,0)) fun y=>osum y (fun y=>obnd (ozA (x,0,0)) fun y=>brn (decide (4096<y)) (some 4) (obnd (ozB (x,0)) fun y=>osum y (fun y=>obnd (lzK x.Sheets) fun y=>obnd (pzM y) fun y=>brn (!decide (y.2.2=0)) (some 3) (obnd (mzs (y.1.Texts,x.Globals.Texts.Texts)) fun y_1=>brn (!y_1) (some 3) (brn (!decide (y.1.Uses=x.Globals.Texts.Uses)) (some 3) (some 0)))) fun y=>some y)) fun y=>some y))
def zzM:FSpec tb:=⟨[(0,.val 32)],[(0,.val 3)],ozx⟩
theorem BzE:A0 10 zzM:=A2 Tryz.func10 jzh (.cons zzN (.cons zzO (.cons zzP .nil)))
end
set_option linter.unusedVariables false
set_option maxRecDepth 100000
noncomputable section
def Izf (x:Int×Int):Option (Expr):=some (Expr.mk 2 (Val.mk 0 (Dec.mk 0 0) [] false 0) (Area.mk (Ref.mk x.1 x.2 false false) (Ref.mk 0 0 false false)) 0 0 [])
def Izg:FSpec tb:=⟨[(0,.val 3),(1,.val 3)],[(0,.val 90)],Izf⟩
theorem Gz5:A0 25 Izg:=A1 Tryz.func25 .nil
def Hze (x:List UInt8):Option (Val):=some (Val.mk 2 (Dec.mk 0 0) x false 0)
def law9_SS:FSpec tb:=⟨[(0,.val 9)],[(0,.val 85)],Hze⟩
theorem Kzh:A0 27 law9_SS:=A1 Tryz.func27 .nil
def Hzd (x:Int):Option (Val):=obnd (JzI x) fun y=>some (Val.mk 1 y [] false 0)
def law9_NS:FSpec tb:=⟨[(0,.val 2)],[(0,.val 85)],Hzd⟩
theorem Kzg:A0 28 law9_NS:=A1 Tryz.func28 (.cons IzN .nil)
def Fzj (x:List Cell2):Option (Book):=some (Book.mk (Globals.mk [[97]] [] [] [] (Table.mk [] 0) []) [Sheet.mk [] x []])
def Fzk:FSpec tb:=⟨[(0,.val 98)],[(0,.val 42)],Fzj⟩
theorem Fzl:A0 26 Fzk:=A1 Tryz.func26 .nil
def Jz7 (x:Int×Int×Int):Option (Place):=some (Place.mk x.1 (Cell.mk x.2.1 x.2.2))
def Jz8:FSpec tb:=⟨[(0,.val 3),(1,.val 3),(2,.val 3)],[(0,.val 82)],Jz7⟩
theorem IzV:A0 29 Jz8:=A1 Tryz.func29 .nil
abbrev Kzd:List (Nat×FSpec tb):=[(25,Izg),(27,law9_SS),(28,law9_NS),(26,Fzk),(21,Ezr),(13,tz0),(17,yzy),(9,tzZ),(29,Jz8),(11,Ezo)]
theorem tzu:azj Tryz.prog tb (Kzd):=(.cons Gz5 (.cons Kzh (.cons Kzg (.cons Fzl (.cons Ezs (.cons rzM (.cons uzI (.cons rzI (.cons IzV (.cons Ezp .nil))))))))))
def tzv (x:Book×Book×List Node×Env):Option (Bool):=obnd (mz0 x.1) fun y=>brn (decide (y=13)) (obnd (mz0 x.2.1) fun y=>brn (decide (y=0)) (obnd (idx x.2.1.Sheets 0) fun y=>brn (decide ((↑y.Cells.length:Int)=3)) (brn (decide (x.2.1.Globals.Texts.Uses=1)) (obnd (idx x.2.2.1 1) fun y=>obnd (Jz7 (0,3,0)) fun y_1=>brn (bif false then !(decide (y.P.Sheet=y_1.Sheet)&&(decide (y.P.At.Row=y_1.At.Row)&&decide (y.P.At.Col=y_1.At.Col)))else decide (y.P.Sheet=y_1.Sheet)&&(decide (y.P.At.Row=y_1.At.Row)&&decide (y.P.At.Col=y_1.At.Col))) (obnd (idx x.2.2.1 1) fun y=>brn (bif false then !(decide (y.Base.Row=3)&&decide (y.Base.Col=0))else decide (y.Base.Row=3)&&decide (y.Base.Col=0)) (obnd (idx x.2.2.2.Slots 0) fun y=>obnd (Hze [120]) fun y_2=>brn (bif false then !(decide (y.V.Kind=y_2.Kind)&&(decide (y.V.N.M=y_2.N.M)&&(decide (y.V.N.S=y_2.N.S)&&(decide (y.V.S=y_2.S)&&(decide (y.V.B=y_2.B)&&decide (y.V.E=y_2.E))))))else decide (y.V.Kind=y_2.Kind)&&(decide (y.V.N.M=y_2.N.M)&&(decide (y.V.N.S=y_2.N.S)&&(decide (y.V.S=y_2.S)&&(decide (y.V.B=y_2.B)&&decide (y.V.E=y_2.E)))))) (brn (decide (x.2.2.2.Sheets=1)) (obnd (wzc (x.2.1,x.2.1)) fun y=>brn y (obnd (wzc (x.1,x.2.1)) fun y=>brn (!y) (obnd (mz0 (Book.mk (Globals.mk [] [] [] [] (Table.mk [] 0) []) [])) fun y=>some (decide (y=4))) (some false)) (some false)) (some false)) (some false)) (some false)) (some false)) (some false)) (some false)) (some false)) (some false)
def Fzi:CutSpec tb:=⟨80,[(2,.ro 42),(3,.ro 42),(5,.val 49),(6,.ro 60)],[(.normal,[(0,.val 4)])],[58,59,60,61,62,63,64,65,66,67,68,69,70,71,72,73,74,75,76,77,78,79,80,81,82,83,84,85,86,87,88,89,90,91,92,93,94,95,96,97,98,99,100,101,102,103,104,105,106,107,108,109,110,111,112,113,114,115,116,117,118,119,120,121,122,123,124,125,126,127,0],(tzv),none⟩
theorem zzj:A5 Tryz.f6 80 Fzi:=A6 tzu .nil
def rz9 (x:Unit):Option (Bool):=obnd (Izf (0,1)) fun y=>obnd (Hze [120]) fun y_1=>obnd (Hzd 0) fun y_2=>obnd (Hzd 0) fun y_3=>obnd (Fzj [Cell2.mk (Cell.mk 0 0) 0 y_1 false (Expr.mk 0 (Val.mk 0 (Dec.mk 0 0) [] false 0) (Area.mk (Ref.mk 0 0 false false) (Ref.mk 0 0 false false)) 0 0 []),Cell2.mk (Cell.mk 1 0) 0 (Val.mk 0 (Dec.mk 0 0) [] false 0) false (Expr.mk 0 (Val.mk 0 (Dec.mk 0 0) [] false 0) (Area.mk (Ref.mk 0 0 false false) (Ref.mk 0 0 false false)) 0 0 []),Cell2.mk (Cell.mk 2 0) 0 y_2 true (azf y),Cell2.mk (Cell.mk 3 0) 0 y_3 true (azf y)]) fun y=>obnd (Ezq y) fun y_4=>brn (!decide (y_4.2=0)) (some false) (brn (!decide ((↑y_4.1.Sheets.length:Int)=1)) (some false) (obnd (mz1 y_4.1) fun y_5=>obnd (pzY y_4.1) fun y_6=>brn (!decide ((↑(List.length y_5):Int)=2)) (some false) (brn (!decide ((↑y_6.Slots.length:Int)=3)) (some false) (obnd (idx y_4.1.Sheets 0) fun y_7=>brn (!decide ((↑y_7.Groups.length:Int)=1)) (some false) (obnd (tzv (y,y_4.1,y_5,y_6)) fun y=>some y)))))
def zzi:FSpec tb:=⟨[],[(0,.val 4)],rz9⟩
theorem Bzi:A0 6 zzi:=A2 Tryz.func6 tzu (.cons zzj .nil)
end
end Go.Proofs.YtkafbjodbjkieaaGreatDoor