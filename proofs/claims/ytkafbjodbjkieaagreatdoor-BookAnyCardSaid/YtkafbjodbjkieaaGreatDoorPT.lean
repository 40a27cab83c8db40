import Derived.Test.YtkafbjodbjkieaaGreatDoorA1
import Derived.Lib.ValidLaws
set_option linter.unusedSimpArgs false
set_option linter.unusedVariables false
set_option maxRecDepth 400000
/- A2 -/
namespace Go.Proofs.YtkafbjodbjkieaaGreatDoor
open Go Go.Ev
open Go.IntKind (i64 u64 u8 i32 u32 i16 u16)
set_option maxRecDepth 100000
noncomputable section
def fz8 (self:Expr×Int×Int×Int->Option ((Bool)×Int)):FSpec tb:=⟨[(0,.val 76),(1,.val 3),(2,.val 3),(3,.ref 3)],[(0,.val 4)],self⟩
abbrev yzH (self:Expr×Int×Int×Int->Option ((Bool)×Int)):List (Nat×Fq):=[(123,(fz8 self))]
theorem zzH (self:Expr×Int×Int×Int->Option ((Bool)×Int))(hself:azw Tryz.prog tb 123 (fz8 self)):azk Tryz.prog tb (yzH self):=(.cons hself .nil)
def kzf (self:Expr×Int×Int×Int->Option ((Bool)×Int))(back:Int×Int×Int×Expr×Int->Option (((Unit)×Int)⊕((Bool)×Int)))(x:Int×Int×Int×Expr×Int):Option (((Unit)×Int)⊕((Bool)×Int)):=brn (decide (x.2.2.2.2<(↑x.2.2.2.1.Kids.length:Int))) (obnd (idx x.2.2.2.1.Kids x.2.2.2.2) fun y=>obnd (self (aze y,i64.wrap (x.1-1),x.2.1,x.2.2.1)) fun y=>brn (!y.1) (some (Sum.inr (false,y.2))) (back (x.1,x.2.1,y.2,aze x.2.2.2.1,i64.wrap (x.2.2.2.2+1)))) (some (Sum.inl ((),x.2.2.1)))
def szM (self:Expr×Int×Int×Int->Option ((Bool)×Int)):Int×Int×Int×Expr×Int->Option (((Unit)×Int)⊕((Bool)×Int)):=iter (kzf self) big
def mzy (self:Expr×Int×Int×Int->Option ((Bool)×Int)):CutSpec tb:=⟨52,[(1,.val 3),(2,.val 3),(3,.ref 3),(4,.ro 76),(9,.val 3)],[(.exit 0,[]),(.ret,[(8,.val 4)])],[32,33,34,35,36,39,40,41,42,43,44,45,46,47,48,49,8,37,38,9],(szM self),none⟩
theorem Hzx (self:Expr×Int×Int×Int->Option ((Bool)×Int)):∀back x,gzD Tryz.prog tb (yzH self) [] (czv 52 Tryz.f123) (mzy self).ins (mzy self).outs back x=kzf self back x:=fun back x=>by kernel_rfl
theorem JzA (self:Expr×Int×Int×Int->Option ((Bool)×Int)):cutB Tryz.f123.ntmps (mzy self) (czv 52 Tryz.f123)=true:=by kernel_rfl
theorem FzE (self:Expr×Int×Int×Int->Option ((Bool)×Int))(hself:azw Tryz.prog tb 123 (fz8 self)):A3 Tryz.f123 52 (mzy self):=A4 (zzH self hself) .nil (kzf self) (hb:=(JzA self)) (hF:=(Hzx self))
def fz7 (self:Expr×Int×Int×Int->Option ((Bool)×Int))(x:Expr×Int×Int×Int):Option ((Bool)×Int):=brn (decide (x.2.1=0)) (some (false,i64.wrap (x.2.2.2+1))) (brn (decide (x.2.2.1<i64.wrap (x.2.2.2+1))) (some (false,i64.wrap (x.2.2.2+1))) (brn (decide (3000<(↑x.1.V.S.length:Int))) (some (false,i64.wrap (x.2.2.2+1))) (obnd ((szM self) (x.2.1,x.2.2.1,i64.wrap (x.2.2.2+1),aze x.1,0)) fun y=>osum y (fun y=>some (true,y.2)) fun y=>some (y.1,y.2))))
theorem Mz2 (self:Expr×Int×Int×Int->Option ((Bool)×Int)):∀x,evFn Tryz.prog tb (yzH self) [(mzy self)] Tryz.f123 (fz8 (fz7 self)).ins (fz8 (fz7 self)).outs x=(fz8 (fz7 self)).f x:=fun x=>by kernel_rfl
theorem Ozz (self:Expr×Int×Int×Int->Option ((Bool)×Int)):fnK Tryz.f123 (fz8 (fz7 self)).ins (fz8 (fz7 self)).outs=true:=by kernel_rfl
theorem JzB (self:Expr×Int×Int×Int->Option ((Bool)×Int))(hself:azw Tryz.prog tb 123 (fz8 self)):A0 123 (fz8 (fz7 self)):=A2 Tryz.func123 (zzH self hself) (.cons (FzE self hself) .nil) (hk:=(Ozz self)) (hJ:=(Mz2 self))
def yzG:=iter fz7 big
def Pzq:Fq:=fz8 yzG
theorem Hzy:azw Tryz.prog tb 123 Pzq:=pzh (fzs Tryz.func123 (by kernel_rfl)) JzB
def kzq (x:Expr×Int):Option (Bool):=obnd (yzG (aze x.1,40,x.2,0)) fun y=>some y.1
def tzH:Fq:=⟨[(0,.val 76),(1,.val 3)],[(0,.val 4)],kzq⟩
theorem qzd:A0 66 tzH:=A1 Tryz.func66 (.cons Hzy .nil)
abbrev Pzv:List (Nat×Fq):=[(66,tzH)]
theorem mzB:azk Tryz.prog tb (Pzv):=(.cons qzd .nil)
def mzC (back:Globals×Int×Int->Option (Int))(x:Globals×Int×Int):Option (Int):=brn (decide (x.2.2<(↑x.1.Sheets.length:Int))) (obnd (idx x.1.Sheets x.2.2) fun y=>back (x.1,i64.wrap (x.2.1+(↑(List.length y):Int)),i64.wrap (x.2.2+1))) (some x.2.1)
def szP:=iter mzC big
def LzG:Cq:=⟨52,[(1,.ro 29),(3,.val 3),(4,.val 3)],[(.exit 0,[(3,.val 3)])],rg 43 15 [3,4],szP,none⟩
theorem FzH:A3 Tryz.f30 52 LzG:=A4 mzB .nil mzC
def mzD (back:Globals×Int×Int->Option (Int))(x:Globals×Int×Int):Option (Int):=brn (decide (x.2.2<(↑x.1.Formats.length:Int))) (obnd (idx x.1.Formats x.2.2) fun y=>back (x.1,i64.wrap (x.2.1+(↑(List.length y):Int)),i64.wrap (x.2.2+1))) (some x.2.1)
def szQ:=iter mzD big
def LzH:Cq:=⟨84,[(1,.ro 29),(3,.val 3),(5,.val 3)],[(.exit 2,[(3,.val 3)])],rg 58 15 [3,5],szQ,none⟩
theorem FzI:A3 Tryz.f30 84 LzH:=A4 mzB .nil mzD
def mzE (back:Globals×Int×Int->Option (Int))(x:Globals×Int×Int):Option (Int):=brn (decide (x.2.2<(↑x.1.Texts.Texts.length:Int))) (obnd (idx x.1.Texts.Texts x.2.2) fun y=>back (x.1,i64.wrap (x.2.1+(↑(List.length y):Int)),i64.wrap (x.2.2+1))) (some x.2.1)
def szR:=iter mzE big
def LzI:Cq:=⟨116,[(1,.ro 29),(3,.val 3),(6,.val 3)],[(.exit 4,[(3,.val 3)])],rg 73 17 [3,6],szR,none⟩
theorem FzJ:A3 Tryz.f30 116 LzI:=A4 mzB .nil mzE
def mzF (back:Globals×Int->Option ((Unit)⊕(Bool)))(x:Globals×Int):Option ((Unit)⊕(Bool)):=brn (decide (x.2<(↑x.1.Names.length:Int))) (obnd (idx x.1.Names x.2) fun y=>obnd (kzq (aze y,100)) fun y=>brn (!y) (some (Sum.inr false)) (back (x.1,i64.wrap (x.2+1)))) (some (Sum.inl PUnit.unit))
def szS:=iter mzF big
def LzJ:Cq:=⟨148,[(1,.ro 29),(7,.val 3)],[(.exit 6,[]),(.ret,[(2,.val 4)])],rg 90 14 [2,7],szS,none⟩
theorem FzK:A3 Tryz.f30 148 LzJ:=A4 mzB .nil mzF
def tzL (x:Globals):Option (Bool):=brn (decide (20<(↑x.Sheets.length:Int))) (some false) (brn (decide (100<(↑x.Formats.length:Int))) (some false) (brn (decide (400<(↑x.XFs.length:Int))) (some false) (brn (decide (30<(↑x.Names.length:Int))) (some false) (brn (decide (60<(↑x.Texts.Texts.length:Int))) (some false) (brn (decide (200<(↑x.Chain.length:Int))) (some false) (obnd (szP (x,0,0)) fun y=>obnd (szQ (x,y,0)) fun y=>obnd (szR (x,y,0)) fun y=>obnd (szS (x,0)) fun y_1=>osum y_1 (fun y_2=>some (decide (y<20000))) fun y=>some y))))))
def HzI:Fq:=⟨[(0,.val 29)],[(0,.val 4)],tzL⟩
theorem HzJ:A0 30 HzI:=A2 Tryz.func30 mzB (.cons FzH (.cons FzI (.cons FzJ (.cons FzK .nil))))
abbrev Pzt:List (Nat×Fq):=[(66,tzH)]
theorem zzJ:azk Tryz.prog tb (Pzt):=(.cons qzd .nil)
def mzA (back:List Cell2×Int->Option ((Unit)⊕(Bool)))(x:List Cell2×Int):Option ((Unit)⊕(Bool)):=brn (decide (x.2<(↑x.1.length:Int))) (obnd (idx x.1 x.2) fun y=>obnd (kzq (aze y.E,60)) fun y=>brn (!y) (some (Sum.inr false)) (obnd (idx x.1 x.2) fun y=>brn (decide (3000<(↑y.V.S.length:Int))) (some (Sum.inr false)) (back (x.1,i64.wrap (x.2+1))))) (some (Sum.inl PUnit.unit))
def szO:=iter mzA big
def LzF:Cq:=⟨44,[(0,.val 117),(3,.val 3)],[(.exit 0,[]),(.ret,[(2,.val 4)])],rg 7 23 [2,3],szO,none⟩
theorem FzG:A3 Tryz.f67 44 LzF:=A4 zzJ .nil mzA
def tzJ (x:List Cell2):Option (Bool):=brn (decide (120<(↑x.length:Int))) (some false) (obnd (szO (x,0)) fun y=>osum y (fun y=>some true) fun y=>some y)
def Pzu:Fq:=⟨[(0,.val 117)],[(0,.val 4)],tzJ⟩
theorem HzD:A0 67 Pzu:=A2 Tryz.func67 zzJ (.cons FzG .nil)
abbrev Pzr:List (Nat×Fq):=[(66,tzH)]
theorem zzI:azk Tryz.prog tb (Pzr):=(.cons qzd .nil)
def mzz (back:List Group×Int->Option ((Unit)⊕(Bool)))(x:List Group×Int):Option ((Unit)⊕(Bool)):=brn (decide (x.2<(↑x.1.length:Int))) (obnd (idx x.1 x.2) fun y=>obnd (kzq (aze y.E,60)) fun y=>brn (!y) (some (Sum.inr false)) (back (x.1,i64.wrap (x.2+1)))) (some (Sum.inl PUnit.unit))
def szN:=iter mzz big
def LzE:Cq:=⟨44,[(0,.val 118),(3,.val 3)],[(.exit 0,[]),(.ret,[(2,.val 4)])],rg 7 13 [2,3],szN,none⟩
theorem FzF:A3 Tryz.f68 44 LzE:=A4 zzI .nil mzz
def tzI (x:List Group):Option (Bool):=brn (decide (20<(↑x.length:Int))) (some false) (obnd (szN (x,0)) fun y=>osum y (fun y=>some true) fun y=>some y)
def Pzs:Fq:=⟨[(0,.val 118)],[(0,.val 4)],tzI⟩
theorem HzB:A0 68 Pzs:=A2 Tryz.func68 zzI (.cons FzF .nil)
def tzK (x:Sheet):Option (Bool):=brn (decide ((↑x.Rows.length:Int)<=60)) (obnd (tzJ x.Cells) fun y=>brn y (obnd (tzI x.Groups) fun y=>some y) (some false)) (some false)
def HzF:Fq:=⟨[(0,.val 120)],[(0,.val 4)],tzK⟩
theorem HzG:A0 31 HzF:=A1 Tryz.func31 (.cons HzD (.cons HzB .nil))
abbrev Pzw:List (Nat×Fq):=[(30,HzI),(31,HzF)]
theorem zzK:azk Tryz.prog tb (Pzw):=(.cons HzJ (.cons HzG .nil))
def mzG (back:Book×Int->Option ((Unit)⊕(Bool)))(x:Book×Int):Option ((Unit)⊕(Bool)):=brn (decide (x.2<(↑x.1.Sheets.length:Int))) (obnd (idx x.1.Sheets x.2) fun y=>obnd (tzK y) fun y=>brn (!y) (some (Sum.inr false)) (back (x.1,i64.wrap (x.2+1)))) (some (Sum.inl PUnit.unit))
def szT:=iter mzG big
def LzK:Cq:=⟨44,[(1,.ro 32),(3,.val 3)],[(.exit 0,[]),(.ret,[(2,.val 4)])],rg 14 14 [2,3],szT,none⟩
theorem FzM:A3 Tryz.f7 44 LzK:=A4 zzK .nil mzG
def qzl (x:Book):Option (Bool):=obnd (tzL x.Globals) fun y=>brn (!y) (some false) (brn (decide (12<(↑x.Sheets.length:Int))) (some false) (obnd (szT (x,0)) fun y=>osum y (fun y=>some true) fun y=>some y))
def HzK:Fq:=⟨[(0,.val 32)],[(0,.val 4)],qzl⟩
theorem HzL:A0 7 HzK:=A2 Tryz.func7 zzK (.cons FzM .nil)
def Nzb (x:Dec):Option (Dec):=some x
def law4_ToS:Fq:=⟨[(0,.val 68)],[(0,.val 83)],Nzb⟩
theorem LzM:A0 212 law4_ToS:=A1 Tryz.func212 .nil
def uzD (x:Val):Option (Val):=obnd (Nzb x.N) fun y=>some (Val.mk x.Kind y x.S x.B x.E)
def Nzg:Fq:=⟨[(0,.val 70)],[(0,.val 85)],uzD⟩
theorem zzM:A0 179 Nzg:=A1 Tryz.func179 (.cons LzM .nil)
def FzO (x:Ref):Option (Ref):=some x
def law8_ToS:Fq:=⟨[(0,.val 72)],[(0,.val 86)],FzO⟩
theorem LzP:A0 213 law8_ToS:=A1 Tryz.func213 .nil
def uzB (x:Area):Option (Area):=obnd (FzO x.A) fun y=>obnd (FzO x.B) fun y_1=>some (Area.mk y y_1)
def Bzu:Fq:=⟨[(0,.val 74)],[(0,.val 88)],uzB⟩
theorem DzH:A0 180 Bzu:=A1 Tryz.func180 (.cons LzP .nil)
def pzV (self:Expr->Option (Expr)):FSpec tb:=⟨[(0,.val 76)],[(0,.val 90)],self⟩
abbrev law10_ToG (self:Expr->Option (Expr)):List (Nat×Fq):=[(179,Nzg),(180,Bzu),(124,(pzV self))]
theorem Bzf (self:Expr->Option (Expr))(hself:azw Tryz.prog tb 124 (pzV self)):azk Tryz.prog tb (law10_ToG self):=(.cons zzM (.cons DzH (.cons hself .nil)))
def nzA (self:Expr->Option (Expr))(back:List (Expr)×Expr×Expr×Int->Option ((List (Expr))×Expr))(x:List (Expr)×Expr×Expr×Int):Option ((List (Expr))×Expr):=brn (decide (x.2.2.2<(↑x.2.1.Kids.length:Int))) (obnd (idx x.2.1.Kids x.2.2.2) fun y=>obnd (self (aze y)) fun y=>obnd (app 152 x.1 [aze y]) fun zs=>back (zs,aze x.2.1,Expr.mk x.2.2.1.Kind x.2.2.1.V x.2.2.1.A x.2.2.1.Sheet x.2.2.1.Op zs,i64.wrap (x.2.2.2+1))) (some (x.1,Expr.mk x.2.2.1.Kind x.2.2.1.V x.2.2.1.A x.2.2.1.Sheet x.2.2.1.Op x.1))
def uzw (self:Expr->Option (Expr)):List (Expr)×Expr×Expr×Int->Option ((List (Expr))×Expr):=iter (nzA self) big
def Mz1 (self:Expr->Option (Expr)):CutSpec tb:=⟨36,[(77309411331,.own 90),(1,.ro 76),(3,.ref 90),(4,.val 3)],[(.exit 0,[(77309411331,.own 90)])],[18,19,20,21,22,25,26,27,28,29,30,31,32,33,34,35,23,24,4],(uzw self),none⟩
theorem Hzw (self:Expr->Option (Expr))(hself:azw Tryz.prog tb 124 (pzV self)):A3 Tryz.f124 36 (Mz1 self):=A4 (Bzf self hself) .nil (nzA self)
def pzU (self:Expr->Option (Expr))(x:Expr):Option (Expr):=obnd (uzD x.V) fun y=>obnd (uzB x.A) fun y_1=>obnd ((uzw self) ([],aze x,Expr.mk x.Kind y y_1 x.Sheet x.Op [],0)) fun y=>some (Expr.mk y.2.Kind y.2.V y.2.A y.2.Sheet y.2.Op y.1)
theorem LzC (self:Expr->Option (Expr))(hself:azw Tryz.prog tb 124 (pzV self)):A0 124 (pzV (pzU self)):=A2 Tryz.func124 (Bzf self hself) (.cons (Hzw self hself) .nil)
def szq:=iter pzU big
def KzY:Fq:=pzV szq
theorem rzv:azw Tryz.prog tb 124 KzY:=pzh (fzs Tryz.func124 (by kernel_rfl)) LzC
abbrev MzZ:List (Nat×Fq):=[(124,KzY)]
theorem vzR:azk Tryz.prog tb (MzZ):=(.cons rzv .nil)
def kzs (back:List Expr×List (Expr)×Int->Option (List (Expr)))(x:List Expr×List (Expr)×Int):Option (List (Expr)):=brn (decide (x.2.2<(↑x.1.length:Int))) (obnd (idx x.1 x.2.2) fun y=>obnd (szq (aze y)) fun y=>obnd (app 152 x.2.1 [aze y]) fun zs=>back (x.1,zs,i64.wrap (x.2.2+1))) (some x.2.1)
def qzg:=iter kzs big
def Hzv:Cq:=⟨36,[(0,.val 24),(3,.own 90),(4,.val 3)],[(.exit 0,[(3,.own 90)])],rg 3 16 [],qzg,none⟩
theorem Bze:A3 Tryz.f69 36 Hzv:=A4 vzR .nil kzs
def qzf (x:List Expr):Option (List (Expr)):=obnd (qzg (x,[],0)) fun y=>some y
def Mz0:Fq:=⟨[(0,.val 24)],[(0,.own 90)],qzf⟩
theorem Dzw:A0 69 Mz0:=A2 Tryz.func69 vzR (.cons Bze .nil)
def yzO (x:Table):Option (Table):=obnd (app 16 [] x.Texts) fun zs=>some (Table.mk zs x.Uses)
def law7_ToS:Fq:=⟨[(0,.val 26)],[(0,.val 36)],yzO⟩
theorem LzN:A0 70 law7_ToS:=A1 Tryz.func70 .nil
def hzZ (x:Cell):Option (Cell):=some x
def Nzd:Fq:=⟨[(0,.val 64)],[(0,.val 80)],hzZ⟩
theorem ozM:A0 181 Nzd:=A1 Tryz.func181 .nil
def rzx (x:Place):Option (Place):=obnd (hzZ x.At) fun y=>some (Place.mk x.Sheet y)
def xzm:Fq:=⟨[(0,.val 66)],[(0,.val 82)],rzx⟩
theorem zz7:A0 125 xzm:=A1 Tryz.func125 (.cons ozM .nil)
abbrev Hzz:List (Nat×Fq):=[(125,xzm)]
theorem szr:azk Tryz.prog tb (Hzz):=(.cons zz7 .nil)
def hzY (back:List Place×List (Place)×Int->Option (List (Place)))(x:List Place×List (Place)×Int):Option (List (Place)):=brn (decide (x.2.2<(↑x.1.length:Int))) (obnd (idx x.1 x.2.2) fun y=>obnd (rzx y) fun y=>obnd (app 24 x.2.1 [y]) fun zs=>back (x.1,zs,i64.wrap (x.2.2+1))) (some x.2.1)
def nzB:=iter hzY big
def Bzg:Cq:=⟨36,[(0,.val 27),(3,.own 82),(4,.val 3)],[(.exit 0,[(3,.own 82)])],rg 3 16 [],nzB,none⟩
theorem xzn:A3 Tryz.f71 36 Bzg:=A4 szr .nil hzY
def nzh (x:List Place):Option (List (Place)):=obnd (nzB (x,[],0)) fun y=>some y
def HzA:Fq:=⟨[(0,.val 27)],[(0,.own 82)],nzh⟩
theorem yzJ:A0 71 HzA:=A2 Tryz.func71 szr (.cons xzn .nil)
def vzX (x:Globals):Option (Globals):=obnd (app 16 [] x.Sheets) fun zs=>obnd (app 16 [] x.Formats) fun zs_1=>obnd (app 8 [] x.XFs) fun zs_2=>obnd (qzf x.Names) fun y=>obnd (yzO x.Texts) fun y_1=>obnd (nzh x.Chain) fun y_2=>some (Globals.mk zs zs_1 zs_2 y y_1 y_2)
def Kz4:Fq:=⟨[(0,.val 29)],[(0,.val 39)],vzX⟩
theorem JzJ:A0 32 Kz4:=A1 Tryz.func32 (.cons Dzw (.cons LzN (.cons yzJ .nil)))
def Bzm (x:Cell2):Option (Cell2):=obnd (hzZ x.At) fun y=>obnd (uzD x.V) fun y_1=>obnd (szq (aze x.E)) fun y_2=>some (Cell2.mk y x.XF y_1 x.Has (aze y_2))
def Kz2:Fq:=⟨[(0,.val 131)],[(0,.val 108)],Bzm⟩
theorem JzH:A0 126 Kz2:=A1 Tryz.func126 (.cons ozM (.cons zzM (.cons rzv .nil)))
abbrev Mz6:List (Nat×Fq):=[(126,Kz2)]
theorem vzV:azk Tryz.prog tb (Mz6):=(.cons JzH .nil)
def kzu (back:List Cell2×List (Cell2)×Int->Option (List (Cell2)))(x:List Cell2×List (Cell2)×Int):Option (List (Cell2)):=brn (decide (x.2.2<(↑x.1.length:Int))) (obnd (idx x.1 x.2.2) fun y=>obnd (Bzm (Cell2.mk y.At y.XF y.V y.Has (aze y.E))) fun y=>obnd (app 240 x.2.1 [Cell2.mk y.At y.XF y.V y.Has (aze y.E)]) fun zs=>back (x.1,zs,i64.wrap (x.2.2+1))) (some x.2.1)
def qzk:=iter kzu big
def HzE:Cq:=⟨36,[(0,.val 117),(3,.own 108),(4,.val 3)],[(.exit 0,[(3,.own 108)])],rg 3 16 [],qzk,none⟩
theorem Bzl:A3 Tryz.f72 36 HzE:=A4 vzV .nil kzu
def qzj (x:List Cell2):Option (List (Cell2)):=obnd (qzk (x,[],0)) fun y=>some y
def Bzk:Fq:=⟨[(0,.val 117)],[(0,.own 108)],qzj⟩
theorem Dzz:A0 72 Bzk:=A2 Tryz.func72 vzV (.cons Bzl .nil)
def Bzj (x:Group):Option (Group):=obnd (hzZ x.A) fun y=>obnd (hzZ x.B) fun y_1=>obnd (szq (aze x.E)) fun y_2=>some (Group.mk x.Array y y_1 (aze y_2))
def Kz1:Fq:=⟨[(0,.val 145)],[(0,.val 141)],Bzj⟩
theorem JzG:A0 127 Kz1:=A1 Tryz.func127 (.cons ozM (.cons rzv .nil))
abbrev Mz5:List (Nat×Fq):=[(127,Kz1)]
theorem vzU:azk Tryz.prog tb (Mz5):=(.cons JzG .nil)
def kzt (back:List Group×List (Group)×Int->Option (List (Group)))(x:List Group×List (Group)×Int):Option (List (Group)):=brn (decide (x.2.2<(↑x.1.length:Int))) (obnd (idx x.1 x.2.2) fun y=>obnd (Bzj (Group.mk y.Array y.A y.B (aze y.E))) fun y=>obnd (app 192 x.2.1 [Group.mk y.Array y.A y.B (aze y.E)]) fun zs=>back (x.1,zs,i64.wrap (x.2.2+1))) (some x.2.1)
def qzi:=iter kzt big
def HzC:Cq:=⟨36,[(0,.val 118),(3,.own 141),(4,.val 3)],[(.exit 0,[(3,.own 141)])],rg 3 16 [],qzi,none⟩
theorem Bzi:A3 Tryz.f73 36 HzC:=A4 vzU .nil kzt
def qzh (x:List Group):Option (List (Group)):=obnd (qzi (x,[],0)) fun y=>some y
def Bzh:Fq:=⟨[(0,.val 118)],[(0,.own 141)],qzh⟩
theorem Dzy:A0 73 Bzh:=A2 Tryz.func73 vzU (.cons Bzi .nil)
abbrev law20_ToG:List (Nat×Fq):=[(72,Bzk),(73,Bzh)]
theorem Bzn:azk Tryz.prog tb (law20_ToG):=(.cons Dzz (.cons Dzy .nil))
def nzC (back:List (Row)×Sheet×Sheet×Int->Option ((List (Row))×Sheet))(x:List (Row)×Sheet×Sheet×Int):Option ((List (Row))×Sheet):=brn (decide (x.2.2.2<(↑x.2.1.Rows.length:Int))) (obnd (idx x.2.1.Rows x.2.2.2) fun y=>obnd (idx x.2.1.Rows x.2.2.2) fun y_1=>obnd (idx x.2.1.Rows x.2.2.2) fun y_2=>obnd (app 24 x.1 [Row.mk y.Row y_1.Height y_2.Hidden]) fun zs=>back (zs,x.2.1,Sheet.mk zs x.2.2.1.Cells x.2.2.1.Groups,i64.wrap (x.2.2.2+1))) (some (x.1,Sheet.mk x.1 x.2.2.1.Cells x.2.2.1.Groups))
def uzx:=iter nzC big
def Mz7:Cq:=⟨36,[(4294967299,.own 174),(1,.ro 120),(3,.ref 101),(4,.val 3)],[(.exit 0,[(4294967299,.own 174)])],rg 12 31 [4],uzx,none⟩
theorem HzH:A3 Tryz.f33 36 Mz7:=A4 Bzn .nil nzC
def vzW (x:Sheet):Option (Sheet):=obnd (qzj x.Cells) fun y=>obnd (qzh x.Groups) fun y_1=>obnd (uzx ([],x,Sheet.mk [] y y_1,0)) fun y=>some (Sheet.mk y.1 y.2.Cells y.2.Groups)
def Kz3:Fq:=⟨[(0,.val 120)],[(0,.val 101)],vzW⟩
theorem JzI:A0 33 Kz3:=A2 Tryz.func33 Bzn (.cons HzH .nil)
abbrev law22_ToG:List (Nat×Fq):=[(32,Kz4),(33,Kz3)]
theorem Bzq:azk Tryz.prog tb (law22_ToG):=(.cons JzJ (.cons JzI .nil))
def nzD (back:List (Sheet)×Book×Book×Int->Option ((List (Sheet))×Book))(x:List (Sheet)×Book×Book×Int):Option ((List (Sheet))×Book):=brn (decide (x.2.2.2<(↑x.2.1.Sheets.length:Int))) (obnd (idx x.2.1.Sheets x.2.2.2) fun y=>obnd (vzW y) fun y=>obnd (app 72 x.1 [y]) fun zs=>back (zs,x.2.1,Book.mk x.2.2.1.Globals zs,i64.wrap (x.2.2.2+1))) (some (x.1,Book.mk x.2.2.1.Globals x.1))
def uzy:=iter nzD big
def Mz8:Cq:=⟨36,[(34359738371,.own 101),(1,.ro 32),(3,.ref 42),(4,.val 3)],[(.exit 0,[(34359738371,.own 101)])],rg 9 18 [4],uzy,none⟩
theorem HzM:A3 Tryz.f8 36 Mz8:=A4 Bzq .nil nzD
def pzW (x:Book):Option (Book):=obnd (vzX x.Globals) fun y=>obnd (uzy ([],x,Book.mk y [],0)) fun y=>some (Book.mk y.2.Globals y.1)
def Kz5:Fq:=⟨[(0,.val 32)],[(0,.val 42)],pzW⟩
theorem JzL:A0 8 Kz5:=A2 Tryz.func8 Bzq (.cons HzM .nil)
def ozm (x:Int×Int×Int):Option ((Int×Int×Int)⊕(List (Int)×Bool)):=brn (decide (x.1<128)) (some (Sum.inl (x.2.1,x.1,x.2.2))) (brn (decide (194<=x.1)) (brn (decide (x.1<224)) (some (Sum.inl (1,bz7 BinOp.and i64 x.1 31,128))) (brn (decide (224<=x.1)) (brn (decide (x.1<240)) (some (Sum.inl (2,bz7 BinOp.and i64 x.1 15,2048))) (brn (decide (240<=x.1)) (brn (decide (x.1<245)) (some (Sum.inl (3,bz7 BinOp.and i64 x.1 7,65536))) (some (Sum.inr ([],false)))) (some (Sum.inr ([],false))))) (brn (decide (240<=x.1)) (brn (decide (x.1<245)) (some (Sum.inl (3,bz7 BinOp.and i64 x.1 7,65536))) (some (Sum.inr ([],false)))) (some (Sum.inr ([],false)))))) (brn (decide (224<=x.1)) (brn (decide (x.1<240)) (some (Sum.inl (2,bz7 BinOp.and i64 x.1 15,2048))) (brn (decide (240<=x.1)) (brn (decide (x.1<245)) (some (Sum.inl (3,bz7 BinOp.and i64 x.1 7,65536))) (some (Sum.inr ([],false)))) (some (Sum.inr ([],false))))) (brn (decide (240<=x.1)) (brn (decide (x.1<245)) (some (Sum.inl (3,bz7 BinOp.and i64 x.1 7,65536))) (some (Sum.inr ([],false)))) (some (Sum.inr ([],false))))))
def Kzk:Cq:=⟨83,[(6,.val 3),(7,.val 3),(9,.val 3)],[(.normal,[(7,.val 3),(8,.val 3),(9,.val 3)]),(.ret,[(2,.own 3),(3,.val 4)])],rg 20 31 (rg 7 3 [2,3]),(ozm),none⟩
theorem Ezi:A5 Tryz.f146 83 Kzk:=A6 .nil .nil
def lzR (back:List UInt8×Int×Int×Int×Int->Option ((Int)⊕(List (Int)×Bool)))(x:List UInt8×Int×Int×Int×Int):Option ((Int)⊕(List (Int)×Bool)):=brn (decide (x.2.2.2.2<=x.2.2.1)) (obnd (idx x.1 (i64.wrap (x.2.1+x.2.2.2.2))) fun y=>brn (!decide (bz7 BinOp.and i64 (i64.wrap (↑y.toNat:Int)) 192=128)) (some (Sum.inr ([],false))) (back (x.1,x.2.1,x.2.2.1,bz7 BinOp.or i64 (i64.wrap (x.2.2.2.1*64)) (bz7 BinOp.and i64 (i64.wrap (↑y.toNat:Int)) 63),i64.wrap (x.2.2.2.2+1)))) (some (Sum.inl x.2.2.2.1))
def lzS:=iter lzR big
def Kzm:Cq:=⟨220,[(0,.val 9),(5,.val 3),(7,.val 3),(8,.val 3),(10,.val 3)],[(.exit 3,[(8,.val 3)]),(.ret,[(2,.own 3),(3,.val 4)])],rg 57 19 [2,3,8,10,11],lzS,none⟩
theorem Ezk:A3 Tryz.f146 220 Kzm:=A4 .nil .nil lzR
def ozl (x:List UInt8×List (Int)×Int):Option ((List (Int)×Int)⊕(List (Int)×Bool)):=obnd (idx x.1 x.2.2) fun y=>obnd (ozm (i64.wrap (↑y.toNat:Int),0,0)) fun y=>osum y (fun y=>brn (decide (i64.wrap ((↑x.1.length:Int)-x.2.2)<=y.1)) (some (Sum.inr ([],false))) (obnd (lzS (x.1,x.2.2,y.1,y.2.1,1)) fun y_1=>osum y_1 (fun y_2=>brn (decide (y_2<y.2.2)) (some (Sum.inr ([],false))) (brn (decide (55296<=y_2)) (brn (decide (y_2<57344)) (some (Sum.inr ([],false))) (brn (decide (1114111<y_2)) (some (Sum.inr ([],false))) (obnd (app 8 x.2.1 [y_2]) fun zs=>some (Sum.inl (zs,i64.wrap (i64.wrap (x.2.2+y.1)+1)))))) (brn (decide (1114111<y_2)) (some (Sum.inr ([],false))) (obnd (app 8 x.2.1 [y_2]) fun zs=>some (Sum.inl (zs,i64.wrap (i64.wrap (x.2.2+y.1)+1))))))) fun y=>some (Sum.inr y))) fun y=>some (Sum.inr y)
def Kzj:Cq:=⟨43,[(0,.val 9),(4,.own 3),(5,.val 3)],[(.normal,[(4,.own 3),(5,.val 3)]),(.ret,[(2,.own 3),(3,.val 4)])],rg 16 83 (rg 2 10 []),(ozl),none⟩
theorem Ezh:A5 Tryz.f146 43 Kzj:=A6 .nil (.cons Ezi (.cons Ezk .nil))
def ozn (back:List UInt8×List (Int)×Int->Option ((List (Int))⊕(List (Int)×Bool)))(x:List UInt8×List (Int)×Int):Option ((List (Int))⊕(List (Int)×Bool)):=brn (decide (x.2.2<(↑x.1.length:Int))) (obnd (ozl (x.1,x.2)) fun y=>osum y (fun y=>back (x.1,y)) fun y=>some (Sum.inr y)) (some (Sum.inl x.2.1))
def rzI:=iter ozn big
def Kzl:Cq:=⟨36,[(0,.val 9),(4,.own 3),(5,.val 3)],[(.exit 0,[(4,.own 3)]),(.ret,[(2,.own 3),(3,.val 4)])],rg 2 97 [],rzI,none⟩
theorem Ezj:A3 Tryz.f146 36 Kzl:=A4 .nil (.cons Ezh .nil) ozn
def kzX (x:List UInt8):Option (List (Int)×Bool):=obnd (rzI (x,[],0)) fun y=>osum y (fun y=>some (y,true)) fun y=>some y
def rz9:Fq:=⟨[(0,.val 9)],[(0,.own 3),(1,.val 4)],kzX⟩
theorem mzn:A0 146 rz9:=A2 Tryz.func146 .nil (.cons Ezj .nil)
def gz8 (back:List Int×List (Int)×Int->Option (List (Int)))(x:List Int×List (Int)×Int):Option (List (Int)):=brn (decide (x.2.2<(↑x.1.length:Int))) (obnd (idx x.1 x.2.2) fun y=>brn (decide (y<65536)) (obnd (idx x.1 x.2.2) fun y=>obnd (app 8 x.2.1 [y]) fun zs=>back (x.1,zs,i64.wrap (x.2.2+1))) (obnd (idx x.1 x.2.2) fun y=>obnd (app 8 x.2.1 [bz7 BinOp.or i64 55296 ((i64.wrap (y-65536)).fdiv 1024),bz7 BinOp.or i64 56320 (bz7 BinOp.and i64 (i64.wrap (y-65536)) 1023)]) fun zs=>back (x.1,zs,i64.wrap (x.2.2+1)))) (some x.2.1)
def ozo:=iter gz8 big
def Kzn:Cq:=⟨36,[(0,.val 23),(3,.own 3),(4,.val 3)],[(.exit 0,[(3,.own 3)])],rg 3 35 [],ozo,none⟩
theorem Ezm:A3 Tryz.f147 36 Kzn:=A4 .nil .nil gz8
def jzl (x:List Int):Option (List (Int)):=obnd (ozo (x,[],0)) fun y=>some y
def wzR:Fq:=⟨[(0,.val 23)],[(0,.own 3)],jzl⟩
theorem pzI:A0 147 wzR:=A2 Tryz.func147 .nil (.cons Ezm .nil)
def hzC (x:List UInt8):Option (Int×Int):=obnd (kzX x) fun y=>brn (!y.2) (some (0,2)) (obnd (jzl y.1) fun y=>brn (decide (1000<(↑(List.length y):Int))) (some (0,4)) (some ((↑(List.length y):Int),0)))
def mz1:Fq:=⟨[(0,.val 9)],[(0,.val 3),(1,.val 3)],hzC⟩
theorem jzR:A0 84 mz1:=A1 Tryz.func84 (.cons mzn (.cons pzI .nil))
def lzw (self:Expr->Option (Int)):FSpec tb:=⟨[(0,.val 76)],[(0,.val 3)],self⟩
abbrev NzA (self:Expr->Option (Int)):List (Nat×Fq):=[(191,(lzw self))]
theorem vz6 (self:Expr->Option (Int))(hself:azw Tryz.prog tb 191 (lzw self)):azk Tryz.prog tb (NzA self):=(.cons hself .nil)
def kzy (self:Expr->Option (Int))(back:Expr×Int×Int->Option (Int))(x:Expr×Int×Int):Option (Int):=brn (decide (x.2.2<(↑x.1.Kids.length:Int))) (obnd (idx x.1.Kids x.2.2) fun y=>obnd (self (aze y)) fun y=>brn (decide (x.2.1<y)) (back (aze x.1,y,i64.wrap (x.2.2+1))) (back (aze x.1,x.2.1,i64.wrap (x.2.2+1)))) (some x.2.1)
def qzz (self:Expr->Option (Int)):Expr×Int×Int->Option (Int):=iter (kzy self) big
def Izh (self:Expr->Option (Int)):CutSpec tb:=⟨36,[(1,.ro 76),(3,.val 3),(4,.val 3)],[(.exit 0,[(3,.val 3)])],[6,7,8,9,10,13,14,15,16,17,18,5,19,20,21,22,3,11,12,4],(qzz self),none⟩
theorem BzP (self:Expr->Option (Int))(hself:azw Tryz.prog tb 191 (lzw self)):A3 Tryz.f191 36 (Izh self):=A4 (vz6 self hself) .nil (kzy self)
def lzv (self:Expr->Option (Int))(x:Expr):Option (Int):=obnd ((qzz self) (aze x,0,0)) fun y=>some (i64.wrap (y+1))
theorem Fz1 (self:Expr->Option (Int))(hself:azw Tryz.prog tb 191 (lzw self)):A0 191 (lzw (lzv self)):=A2 Tryz.func191 (vz6 self hself) (.cons (BzP self hself) .nil)
def uzP:=iter lzv big
def NzB:Fq:=lzw uzP
theorem DzK:azw Tryz.prog tb 191 NzB:=pzh (fzs Tryz.func191 (by kernel_rfl)) Fz1
def lzu (self:Expr->Option (Int)):FSpec tb:=⟨[(0,.val 76)],[(0,.val 3)],self⟩
abbrev Nzy (self:Expr->Option (Int)):List (Nat×Fq):=[(192,(lzu self))]
theorem vz5 (self:Expr->Option (Int))(hself:azw Tryz.prog tb 192 (lzu self)):azk Tryz.prog tb (Nzy self):=(.cons hself .nil)
def kzx (self:Expr->Option (Int))(back:Expr×Int×Int->Option (Int))(x:Expr×Int×Int):Option (Int):=brn (decide (x.2.2<(↑x.1.Kids.length:Int))) (obnd (idx x.1.Kids x.2.2) fun y=>obnd (self (aze y)) fun y=>back (aze x.1,i64.wrap (x.2.1+y),i64.wrap (x.2.2+1))) (some x.2.1)
def qzy (self:Expr->Option (Int)):Expr×Int×Int->Option (Int):=iter (kzx self) big
def Izg (self:Expr->Option (Int)):CutSpec tb:=⟨36,[(1,.ro 76),(3,.val 3),(4,.val 3)],[(.exit 0,[(3,.val 3)])],[5,6,7,8,9,12,13,14,15,16,17,18,19,3,10,11,4],(qzy self),none⟩
theorem BzO (self:Expr->Option (Int))(hself:azw Tryz.prog tb 192 (lzu self)):A3 Tryz.f192 36 (Izg self):=A4 (vz5 self hself) .nil (kzx self)
def lzt (self:Expr->Option (Int))(x:Expr):Option (Int):=obnd ((qzy self) (aze x,1,0)) fun y=>some y
theorem Fz0 (self:Expr->Option (Int))(hself:azw Tryz.prog tb 192 (lzu self)):A0 192 (lzu (lzt self)):=A2 Tryz.func192 (vz5 self hself) (.cons (BzO self hself) .nil)
def uzO:=iter lzt big
def Nzz:Fq:=lzu uzO
theorem DzJ:azw Tryz.prog tb 192 Nzz:=pzh (fzs Tryz.func192 (by kernel_rfl)) Fz0
def lzB (x:Int):Option (Bool×Int×Bool×Bool×Int):=brn (decide (x=1)) (some (true,0,false,false,0)) (brn (decide (x=2)) (some (false,1,false,false,0)) (brn (decide (x=3)) (some (false,2,false,false,0)) (brn (decide (x=4)) (some (false,1,true,false,0)) (brn (decide (x=5)) (some (false,2,true,false,0)) (brn (decide (x=6)) (some (false,0,false,true,0)) (brn (decide (x=7)) (some (false,0,false,true,1)) (brn (decide (x=8)) (some (false,0,false,true,2)) (brn (decide (x=9)) (some (false,0,false,true,-1)) (some (false,0,false,false,1))))))))))
def BzT:Fq:=⟨[(0,.val 3)],[(0,.val 4),(1,.val 3),(2,.val 4),(3,.val 4),(4,.val 3)],lzB⟩
theorem DzS:A0 229 BzT:=A1 Tryz.func229 .nil
def jzt (x:Dec):Option (Int):=brn (decide (x.S<0)) (some 1) (brn (decide (9<x.S)) (some 1) (brn (decide (0<x.S)) (brn (decide (x.M.tmod 10=0)) (some 1) (some 0)) (some 0)))
def xzT:Fq:=⟨[(0,.val 68)],[(0,.val 3)],jzt⟩
theorem Azs:A0 219 xzT:=A1 Tryz.func219 .nil
def rzA (x:Int):Option (List UInt8):=brn (decide (x=0)) (some (U8s [35,78,85,76,76,33])) (brn (decide (x=7)) (some (U8s [35,68,73,86,47,48,33])) (brn (decide (x=15)) (some (U8s [35,86,65,76,85,69,33])) (brn (decide (x=23)) (some (U8s [35,82,69,70,33])) (brn (decide (x=29)) (some (U8s [35,78,65,77,69,63])) (brn (decide (x=36)) (some (U8s [35,78,85,77,33])) (brn (decide (x=42)) (some [35,78,47,65]) (some [])))))))
def xzy:Fq:=⟨[(0,.val 3)],[(0,.val 9)],rzA⟩
theorem zz9:A0 220 xzy:=A1 Tryz.func220 .nil
abbrev Izf:List (Nat×Fq):=[(219,xzT),(84,mz1),(220,xzy)]
theorem szt:azk Tryz.prog tb (Izf):=(.cons Azs (.cons jzR (.cons zz9 .nil)))
def ezu (x:Val):Option (Bool):=brn (!decide (x.Kind=1)) (brn (bif true then !(decide (x.N.M=0)&&decide (x.N.S=0))else decide (x.N.M=0)&&decide (x.N.S=0)) (some true) (brn (!decide (x.Kind=2)) (brn (!decide (x.S=[])) (some true) (brn (!decide (x.Kind=3)) (brn x.B (some true) (brn (!decide (x.Kind=4)) (some (bif decide (x.E=0)then false else true)) (some false))) (brn (!decide (x.Kind=4)) (some (bif decide (x.E=0)then false else true)) (some false)))) (brn (!decide (x.Kind=3)) (brn x.B (some true) (brn (!decide (x.Kind=4)) (some (bif decide (x.E=0)then false else true)) (some false))) (brn (!decide (x.Kind=4)) (some (bif decide (x.E=0)then false else true)) (some false))))) (brn (!decide (x.Kind=2)) (brn (!decide (x.S=[])) (some true) (brn (!decide (x.Kind=3)) (brn x.B (some true) (brn (!decide (x.Kind=4)) (some (bif decide (x.E=0)then false else true)) (some false))) (brn (!decide (x.Kind=4)) (some (bif decide (x.E=0)then false else true)) (some false)))) (brn (!decide (x.Kind=3)) (brn x.B (some true) (brn (!decide (x.Kind=4)) (some (bif decide (x.E=0)then false else true)) (some false))) (brn (!decide (x.Kind=4)) (some (bif decide (x.E=0)then false else true)) (some false))))
def BzN:Cq:=⟨32,[(1,.ro 70)],[(.normal,[(50,.val 4)])],rg 13 38 [],(ezu),none⟩
theorem xzx:A5 Tryz.f198 32 BzN:=A6 szt .nil
def dzz (x:Val):Option (Int):=brn (decide (x.Kind<0)) (some 1) (brn (decide (4<x.Kind)) (some 1) (obnd (ezu x) fun y=>brn y (some 1) (brn (decide (x.Kind=1)) (obnd (jzt x.N) fun y=>some y) (brn (decide (x.Kind=2)) (obnd (hzC x.S) fun y=>some y.2) (brn (decide (x.Kind=4)) (obnd (rzA x.E) fun y=>brn (decide (y=[])) (some 1) (some 0)) (some 0))))))
def vz4:Fq:=⟨[(0,.val 70)],[(0,.val 3)],dzz⟩
theorem qzx:A0 198 vz4:=A2 Tryz.func198 szt (.cons xzx .nil)
def fzd (x:Cell):Option (Bool):=brn (decide (0<=x.Row)) (brn (decide (x.Row<65536)) (brn (decide (0<=x.Col)) (some (decide (x.Col<256))) (some false)) (some false)) (some false)
def EzZ:Fq:=⟨[(0,.val 64)],[(0,.val 4)],fzd⟩
theorem mzg:A0 197 EzZ:=A1 Tryz.func197 .nil
def izn (x:Ref):Option (Int):=obnd (fzd (Cell.mk x.Row x.Col)) fun y=>brn (!y) (some 12) (some 0)
def Ize:Fq:=⟨[(0,.val 72)],[(0,.val 3)],izn⟩
theorem yzX:A0 235 Ize:=A1 Tryz.func235 (.cons mzg .nil)
def czY (x:Area):Option (Int):=obnd (izn x.A) fun y=>brn (!decide (y=0)) (some 12) (obnd (izn x.B) fun y=>some y)
def uzN:Fq:=⟨[(0,.val 74)],[(0,.val 3)],czY⟩
theorem xzv:A0 230 uzN:=A1 Tryz.func230 (.cons yzX .nil)
abbrev OzH:List (Nat×Fq):=[(229,BzT),(198,vz4),(230,uzN)]
theorem jzr:azk Tryz.prog tb (OzH):=(.cons DzS (.cons qzx (.cons xzv .nil)))
def jzs (x:Expr):Option (Bool):=brn (decide (x.Kind<1)) (some true) (some (decide (10<x.Kind)))
def JzY:Cq:=⟨16,[(1,.ro 76)],[(.normal,[(18,.val 4)])],rg 11 8 [],(jzs),none⟩
theorem DzM:A5 Tryz.f218 16 JzY:=A6 jzr .nil
def lzy (x:Expr×Bool×Int×Bool×Bool×Int):Option (Bool):=brn (!x.2.1) (brn (bif true then !(decide (x.1.V.Kind=0)&&(decide (x.1.V.N.M=0)&&(decide (x.1.V.N.S=0)&&(decide (x.1.V.S=[])&&(decide (x.1.V.B=false)&&decide (x.1.V.E=0))))))else decide (x.1.V.Kind=0)&&(decide (x.1.V.N.M=0)&&(decide (x.1.V.N.S=0)&&(decide (x.1.V.S=[])&&(decide (x.1.V.B=false)&&decide (x.1.V.E=0)))))) (some true) (brn (decide (x.2.2.1<1)) (brn (bif true then !(decide (x.1.A.A.Row=0)&&(decide (x.1.A.A.Col=0)&&(decide (x.1.A.A.RelRow=false)&&decide (x.1.A.A.RelCol=false))))else decide (x.1.A.A.Row=0)&&(decide (x.1.A.A.Col=0)&&(decide (x.1.A.A.RelRow=false)&&decide (x.1.A.A.RelCol=false)))) (some true) (brn (decide (x.2.2.1<2)) (brn (bif true then !(decide (x.1.A.B.Row=0)&&(decide (x.1.A.B.Col=0)&&(decide (x.1.A.B.RelRow=false)&&decide (x.1.A.B.RelCol=false))))else decide (x.1.A.B.Row=0)&&(decide (x.1.A.B.Col=0)&&(decide (x.1.A.B.RelRow=false)&&decide (x.1.A.B.RelCol=false)))) (some true) (brn (!x.2.2.2.1) (brn (!decide (x.1.Sheet=0)) (some true) (brn (!x.2.2.2.2.1) (brn (!decide (x.1.Op=0)) (some true) (brn (decide (x.2.2.2.2.2=0)) (some (decide (0<(↑x.1.Kids.length:Int)))) (some false))) (brn (decide (x.2.2.2.2.2=0)) (some (decide (0<(↑x.1.Kids.length:Int)))) (some false)))) (brn (!x.2.2.2.2.1) (brn (!decide (x.1.Op=0)) (some true) (brn (decide (x.2.2.2.2.2=0)) (some (decide (0<(↑x.1.Kids.length:Int)))) (some false))) (brn (decide (x.2.2.2.2.2=0)) (some (decide (0<(↑x.1.Kids.length:Int)))) (some false))))) (brn (!x.2.2.2.1) (brn (!decide (x.1.Sheet=0)) (some true) (brn (!x.2.2.2.2.1) (brn (!decide (x.1.Op=0)) (some true) (brn (decide (x.2.2.2.2.2=0)) (some (decide (0<(↑x.1.Kids.length:Int)))) (some false))) (brn (decide (x.2.2.2.2.2=0)) (some (decide (0<(↑x.1.Kids.length:Int)))) (some false)))) (brn (!x.2.2.2.2.1) (brn (!decide (x.1.Op=0)) (some true) (brn (decide (x.2.2.2.2.2=0)) (some (decide (0<(↑x.1.Kids.length:Int)))) (some false))) (brn (decide (x.2.2.2.2.2=0)) (some (decide (0<(↑x.1.Kids.length:Int)))) (some false)))))) (brn (decide (x.2.2.1<2)) (brn (bif true then !(decide (x.1.A.B.Row=0)&&(decide (x.1.A.B.Col=0)&&(decide (x.1.A.B.RelRow=false)&&decide (x.1.A.B.RelCol=false))))else decide (x.1.A.B.Row=0)&&(decide (x.1.A.B.Col=0)&&(decide (x.1.A.B.RelRow=false)&&decide (x.1.A.B.RelCol=false)))) (some true) (brn (!x.2.2.2.1) (brn (!decide (x.1.Sheet=0)) (some true) (brn (!x.2.2.2.2.1) (brn (!decide (x.1.Op=0)) (some true) (brn (decide (x.2.2.2.2.2=0)) (some (decide (0<(↑x.1.Kids.length:Int)))) (some false))) (brn (decide (x.2.2.2.2.2=0)) (some (decide (0<(↑x.1.Kids.length:Int)))) (some false)))) (brn (!x.2.2.2.2.1) (brn (!decide (x.1.Op=0)) (some true) (brn (decide (x.2.2.2.2.2=0)) (some (decide (0<(↑x.1.Kids.length:Int)))) (some false))) (brn (decide (x.2.2.2.2.2=0)) (some (decide (0<(↑x.1.Kids.length:Int)))) (some false))))) (brn (!x.2.2.2.1) (brn (!decide (x.1.Sheet=0)) (some true) (brn (!x.2.2.2.2.1) (brn (!decide (x.1.Op=0)) (some true) (brn (decide (x.2.2.2.2.2=0)) (some (decide (0<(↑x.1.Kids.length:Int)))) (some false))) (brn (decide (x.2.2.2.2.2=0)) (some (decide (0<(↑x.1.Kids.length:Int)))) (some false)))) (brn (!x.2.2.2.2.1) (brn (!decide (x.1.Op=0)) (some true) (brn (decide (x.2.2.2.2.2=0)) (some (decide (0<(↑x.1.Kids.length:Int)))) (some false))) (brn (decide (x.2.2.2.2.2=0)) (some (decide (0<(↑x.1.Kids.length:Int)))) (some false))))))) (brn (decide (x.2.2.1<1)) (brn (bif true then !(decide (x.1.A.A.Row=0)&&(decide (x.1.A.A.Col=0)&&(decide (x.1.A.A.RelRow=false)&&decide (x.1.A.A.RelCol=false))))else decide (x.1.A.A.Row=0)&&(decide (x.1.A.A.Col=0)&&(decide (x.1.A.A.RelRow=false)&&decide (x.1.A.A.RelCol=false)))) (some true) (brn (decide (x.2.2.1<2)) (brn (bif true then !(decide (x.1.A.B.Row=0)&&(decide (x.1.A.B.Col=0)&&(decide (x.1.A.B.RelRow=false)&&decide (x.1.A.B.RelCol=false))))else decide (x.1.A.B.Row=0)&&(decide (x.1.A.B.Col=0)&&(decide (x.1.A.B.RelRow=false)&&decide (x.1.A.B.RelCol=false)))) (some true) (brn (!x.2.2.2.1) (brn (!decide (x.1.Sheet=0)) (some true) (brn (!x.2.2.2.2.1) (brn (!decide (x.1.Op=0)) (some true) (brn (decide (x.2.2.2.2.2=0)) (some (decide (0<(↑x.1.Kids.length:Int)))) (some false))) (brn (decide (x.2.2.2.2.2=0)) (some (decide (0<(↑x.1.Kids.length:Int)))) (some false)))) (brn (!x.2.2.2.2.1) (brn (!decide (x.1.Op=0)) (some true) (brn (decide (x.2.2.2.2.2=0)) (some (decide (0<(↑x.1.Kids.length:Int)))) (some false))) (brn (decide (x.2.2.2.2.2=0)) (some (decide (0<(↑x.1.Kids.length:Int)))) (some false))))) (brn (!x.2.2.2.1) (brn (!decide (x.1.Sheet=0)) (some true) (brn (!x.2.2.2.2.1) (brn (!decide (x.1.Op=0)) (some true) (brn (decide (x.2.2.2.2.2=0)) (some (decide (0<(↑x.1.Kids.length:Int)))) (some false))) (brn (decide (x.2.2.2.2.2=0)) (some (decide (0<(↑x.1.Kids.length:Int)))) (some false)))) (brn (!x.2.2.2.2.1) (brn (!decide (x.1.Op=0)) (some true) (brn (decide (x.2.2.2.2.2=0)) (some (decide (0<(↑x.1.Kids.length:Int)))) (some false))) (brn (decide (x.2.2.2.2.2=0)) (some (decide (0<(↑x.1.Kids.length:Int)))) (some false)))))) (brn (decide (x.2.2.1<2)) (brn (bif true then !(decide (x.1.A.B.Row=0)&&(decide (x.1.A.B.Col=0)&&(decide (x.1.A.B.RelRow=false)&&decide (x.1.A.B.RelCol=false))))else decide (x.1.A.B.Row=0)&&(decide (x.1.A.B.Col=0)&&(decide (x.1.A.B.RelRow=false)&&decide (x.1.A.B.RelCol=false)))) (some true) (brn (!x.2.2.2.1) (brn (!decide (x.1.Sheet=0)) (some true) (brn (!x.2.2.2.2.1) (brn (!decide (x.1.Op=0)) (some true) (brn (decide (x.2.2.2.2.2=0)) (some (decide (0<(↑x.1.Kids.length:Int)))) (some false))) (brn (decide (x.2.2.2.2.2=0)) (some (decide (0<(↑x.1.Kids.length:Int)))) (some false)))) (brn (!x.2.2.2.2.1) (brn (!decide (x.1.Op=0)) (some true) (brn (decide (x.2.2.2.2.2=0)) (some (decide (0<(↑x.1.Kids.length:Int)))) (some false))) (brn (decide (x.2.2.2.2.2=0)) (some (decide (0<(↑x.1.Kids.length:Int)))) (some false))))) (brn (!x.2.2.2.1) (brn (!decide (x.1.Sheet=0)) (some true) (brn (!x.2.2.2.2.1) (brn (!decide (x.1.Op=0)) (some true) (brn (decide (x.2.2.2.2.2=0)) (some (decide (0<(↑x.1.Kids.length:Int)))) (some false))) (brn (decide (x.2.2.2.2.2=0)) (some (decide (0<(↑x.1.Kids.length:Int)))) (some false)))) (brn (!x.2.2.2.2.1) (brn (!decide (x.1.Op=0)) (some true) (brn (decide (x.2.2.2.2.2=0)) (some (decide (0<(↑x.1.Kids.length:Int)))) (some false))) (brn (decide (x.2.2.2.2.2=0)) (some (decide (0<(↑x.1.Kids.length:Int)))) (some false))))))
def JzZ:Cq:=⟨40,[(1,.ro 76),(3,.val 4),(4,.val 3),(5,.val 4),(6,.val 4),(7,.val 3)],[(.normal,[(85,.val 4)])],rg 28 58 [],(lzy),none⟩
theorem DzN:A5 Tryz.f218 40 JzZ:=A6 jzr .nil
def dz6 (x:Expr×Bool):Option (Bool):=brn x.2 (brn (decide (x.1.Sheet<0)) (some true) (some (decide (8<=x.1.Sheet)))) (some false)
def Jz0:Cq:=⟨120,[(1,.ro 76),(5,.val 4)],[(.normal,[(115,.val 4)])],rg 105 11 [],(dz6),none⟩
theorem DzO:A5 Tryz.f218 120 Jz0:=A6 jzr .nil
def dz7 (x:Int×Int×Int):Option (Int×Int):=brn (decide (x.2.2=6)) (some (x.1,1023)) (brn (decide (x.2.2=7)) (some (1,3)) (brn (decide (x.2.2=8)) (some (1,12)) (brn (decide (x.2.2=9)) (some (x.1,29)) (some (x.1,x.2.1)))))
def Jz1:Cq:=⟨163,[(9,.val 3),(10,.val 3),(117,.val 3)],[(.normal,[(9,.val 3),(10,.val 3)])],rg 118 8 [9,10],(dz7),none⟩
theorem DzP:A5 Tryz.f218 163 Jz1:=A6 jzr .nil
def czx (x:Expr×Int×Int×Int):Option (Bool):=brn (decide (x.1.Op<x.2.2.1)) (some true) (brn (decide (x.2.2.2<x.1.Op)) (some true) (brn (decide (0<x.2.1)) (brn (!decide ((↑x.1.Kids.length:Int)=x.2.1)) (some true) (some (decide (30<(↑x.1.Kids.length:Int))))) (some (decide (30<(↑x.1.Kids.length:Int))))))
def Jz2:Cq:=⟨240,[(1,.ro 76),(7,.val 3),(9,.val 3),(10,.val 3)],[(.normal,[(152,.val 4)])],rg 126 27 [],(czx),none⟩
theorem DzQ:A5 Tryz.f218 240 Jz2:=A6 jzr .nil
def fzg (x:Expr):Option (Int):=obnd (jzs (aze x)) fun y=>brn y (some 1) (obnd (lzB x.Kind) fun y=>obnd (lzy (aze x,y.1,y.2.1,y.2.2.1,y.2.2.2)) fun y_1=>brn y_1 (some 1) (brn y.1 (obnd (dzz x.V) fun y_2=>brn (!decide (y_2=0)) (some y_2) (brn (decide (x.V.Kind=0)) (some 1) (brn (decide (0<y.2.1)) (obnd (czY x.A) fun y_3=>brn (!decide (y_3=0)) (some 12) (obnd (dz6 (aze x,y.2.2.1)) fun y_4=>brn y_4 (some 1) (obnd (dz7 (0,0,x.Kind)) fun y_5=>obnd (czx (aze x,y.2.2.2.2,y_5)) fun y=>brn y (some 1) (some 0)))) (obnd (dz6 (aze x,y.2.2.1)) fun y_3=>brn y_3 (some 1) (obnd (dz7 (0,0,x.Kind)) fun y_4=>obnd (czx (aze x,y.2.2.2.2,y_4)) fun y=>brn y (some 1) (some 0)))))) (brn (decide (0<y.2.1)) (obnd (czY x.A) fun y_2=>brn (!decide (y_2=0)) (some 12) (obnd (dz6 (aze x,y.2.2.1)) fun y_3=>brn y_3 (some 1) (obnd (dz7 (0,0,x.Kind)) fun y_4=>obnd (czx (aze x,y.2.2.2.2,y_4)) fun y=>brn y (some 1) (some 0)))) (obnd (dz6 (aze x,y.2.2.1)) fun y_2=>brn y_2 (some 1) (obnd (dz7 (0,0,x.Kind)) fun y_3=>obnd (czx (aze x,y.2.2.2.2,y_3)) fun y=>brn y (some 1) (some 0))))))
def Ez1:Fq:=⟨[(0,.val 76)],[(0,.val 3)],fzg⟩
theorem Fz4:A0 218 Ez1:=A2 Tryz.func218 jzr (.cons DzM (.cons DzN (.cons DzO (.cons DzP (.cons DzQ .nil)))))
def lzA (self:Expr->Option (Int)):FSpec tb:=⟨[(0,.val 76)],[(0,.val 3)],self⟩
abbrev NzD (self:Expr->Option (Int)):List (Nat×Fq):=[(218,Ez1),(193,(lzA self))]
theorem vz7 (self:Expr->Option (Int))(hself:azw Tryz.prog tb 193 (lzA self)):azk Tryz.prog tb (NzD self):=(.cons Fz4 (.cons hself .nil))
def kzA (self:Expr->Option (Int))(back:Expr×Int×Int->Option (Int))(x:Expr×Int×Int):Option (Int):=brn (decide (x.2.2<(↑x.1.Kids.length:Int))) (brn (decide (x.2.1=0)) (obnd (idx x.1.Kids x.2.2) fun y=>obnd (self (aze y)) fun y=>back (aze x.1,y,i64.wrap (x.2.2+1))) (some x.2.1)) (some x.2.1)
def qzA (self:Expr->Option (Int)):Expr×Int×Int->Option (Int):=iter (kzA self) big
def Izl (self:Expr->Option (Int)):CutSpec tb:=⟨36,[(1,.ro 76),(3,.val 3),(4,.val 3)],[(.exit 0,[(3,.val 3)])],[7,8,9,10,11,12,13,14,15,18,19,20,21,22,23,3,16,17,4],(qzA self),none⟩
theorem BzR (self:Expr->Option (Int))(hself:azw Tryz.prog tb 193 (lzA self)):A3 Tryz.f193 36 (Izl self):=A4 (vz7 self hself) .nil (kzA self)
def lzz (self:Expr->Option (Int))(x:Expr):Option (Int):=obnd (fzg (aze x)) fun y=>obnd ((qzA self) (aze x,y,0)) fun y=>some y
theorem Fz5 (self:Expr->Option (Int))(hself:azw Tryz.prog tb 193 (lzA self)):A0 193 (lzA (lzz self)):=A2 Tryz.func193 (vz7 self hself) (.cons (BzR self hself) .nil)
def uzQ:=iter lzz big
def NzE:Fq:=lzA uzQ
theorem DzR:azw Tryz.prog tb 193 NzE:=pzh (fzs Tryz.func193 (by kernel_rfl)) Fz5
def mzf (x:Expr):Option (Int):=obnd (uzP (aze x)) fun y=>brn (decide (16<y)) (some 11) (obnd (uzO (aze x)) fun y=>brn (decide (1024<y)) (some 4) (obnd (uzQ (aze x)) fun y=>some y))
def FzZ:Fq:=⟨[(0,.val 76)],[(0,.val 3)],mzf⟩
theorem xzw:A0 148 FzZ:=A1 Tryz.func148 (.cons DzK (.cons DzJ (.cons DzR .nil)))
def kzH (back:Int×Int×List (UInt8)×Int->Option (List (UInt8)))(x:Int×Int×List (UInt8)×Int):Option (List (UInt8)):=brn (decide (x.2.2.2<x.2.1)) (brn (decide (u64.wrap (i64.wrap (8*x.2.2.2))<0)) none (obnd (app 1 x.2.2.1 [UInt8.ofNat (u8.wrap (x.1.fdiv (2^min (u64.wrap (i64.wrap (8*x.2.2.2))).toNat 64))).toNat]) fun zs=>back (x.1,x.2.1,zs,i64.wrap (x.2.2.2+1)))) (some x.2.2.1)
def qzM:=iter kzH big
def Izz:Cq:=⟨36,[(1,.val 276),(2,.val 3),(7,.own 5),(8,.val 3)],[(.exit 0,[(7,.own 5)])],rg 12 14 [7,8],qzM,none⟩
theorem Czc:A3 Tryz.f152 36 Izz:=A4 .nil .nil kzH
def czl (x:List UInt8×Int×Int):Option (List (UInt8)):=obnd (app 1 [] x.1) fun zs=>obnd (qzM (x.2.1,x.2.2,zs,0)) fun y=>some y
def lzQ:Fq:=⟨[(0,.val 178),(1,.val 276),(2,.val 3)],[(0,.own 5)],czl⟩
theorem gzq:A0 152 lzQ:=A2 Tryz.func152 .nil (.cons Czc .nil)
abbrev NzI:List (Nat×Fq):=[(146,rz9)]
theorem wzb:azk Tryz.prog tb (NzI):=(.cons mzn .nil)
def kzG (back:List Int×Bool×Int->Option (Bool))(x:List Int×Bool×Int):Option (Bool):=brn (decide (x.2.2<(↑x.1.length:Int))) (brn x.2.1 (obnd (idx x.1 x.2.2) fun y=>back (x.1,decide (y<256),i64.wrap (x.2.2+1))) (back (x.1,false,i64.wrap (x.2.2+1)))) (some x.2.1)
def qzL:=iter kzG big
def Izy:Cq:=⟨36,[(3,.val 23),(4,.val 4),(5,.val 3)],[(.exit 0,[(4,.val 4)])],rg 11 14 [4,5],qzL,none⟩
theorem Czb:A3 Tryz.f196 36 Izy:=A4 wzb .nil kzG
def nzK (x:List UInt8):Option (Bool):=obnd (kzX x) fun y=>obnd (qzL (y.1,y.2,0)) fun y=>some y
def uz6:Fq:=⟨[(0,.val 9)],[(0,.val 4)],nzK⟩
theorem tzp:A0 196 uz6:=A2 Tryz.func196 wzb (.cons Czb .nil)
abbrev NzJ:List (Nat×Fq):=[(84,mz1),(152,lzQ),(146,rz9),(147,wzR),(196,uz6)]
theorem wzc:azk Tryz.prog tb (NzJ):=(.cons jzR (.cons gzq (.cons mzn (.cons pzI (.cons tzp .nil)))))
def kzI (back:List (UInt8)×List Int×Bool×Int->Option (List (UInt8)))(x:List (UInt8)×List Int×Bool×Int):Option (List (UInt8)):=brn (decide (x.2.2.2<(↑x.2.1.length:Int))) (obnd (idx x.2.1 x.2.2.2) fun y=>obnd (app 1 x.1 [UInt8.ofNat (u8.wrap y).toNat]) fun zs=>brn (!x.2.2.1) (obnd (idx x.2.1 x.2.2.2) fun y=>obnd (app 1 zs [UInt8.ofNat (u8.wrap (Int.fdiv y 256)).toNat]) fun zs=>back (zs,x.2.1,x.2.2.1,i64.wrap (x.2.2.2+1))) (back (zs,x.2.1,x.2.2.1,i64.wrap (x.2.2.2+1)))) (some x.1)
def nzm:=iter kzI big
def IzA:Cq:=⟨108,[(8,.own 5),(11,.val 23),(12,.val 4),(13,.val 3)],[(.exit 0,[(8,.own 5)])],rg 45 25 [8,13],nzm,none⟩
theorem Cze:A3 Tryz.f194 108 IzA:=A4 wzc .nil kzI
def qzN (x:List UInt8×List UInt8):Option (List (UInt8)×Int):=obnd (hzC x.2) fun y=>brn (!decide (y.2=0)) (obnd (app 1 [] x.1) fun zs=>some (zs,y.2)) (obnd (czl (x.1,u64.wrap y.1,2)) fun y=>obnd (kzX x.2) fun y_1=>obnd (jzl y_1.1) fun y_2=>obnd (nzK x.2) fun y_3=>brn y_3 (obnd (app 1 y [UInt8.ofNat 0]) fun zs=>obnd (nzm (zs,y_2,y_3,0)) fun y=>some (y,0)) (obnd (app 1 y [UInt8.ofNat 1]) fun zs=>obnd (nzm (zs,y_2,y_3,0)) fun y=>some (y,0)))
def Czd:Fq:=⟨[(0,.val 178),(1,.val 9)],[(0,.own 5),(1,.val 3)],qzN⟩
theorem Ezg:A0 194 Czd:=A2 Tryz.func194 wzc (.cons Cze .nil)
def fzm (x:List UInt8×Ref):Option (List (UInt8)):=brn x.2.RelRow (brn x.2.RelCol (obnd (czl (x.1,u64.wrap x.2.Row,2)) fun y=>obnd (app 1 y [UInt8.ofNat (u8.wrap x.2.Col).toNat,UInt8.ofNat 3]) fun zs=>some zs) (obnd (czl (x.1,u64.wrap x.2.Row,2)) fun y=>obnd (app 1 y [UInt8.ofNat (u8.wrap x.2.Col).toNat,UInt8.ofNat 1]) fun zs=>some zs)) (brn x.2.RelCol (obnd (czl (x.1,u64.wrap x.2.Row,2)) fun y=>obnd (app 1 y [UInt8.ofNat (u8.wrap x.2.Col).toNat,UInt8.ofNat 2]) fun zs=>some zs) (obnd (czl (x.1,u64.wrap x.2.Row,2)) fun y=>obnd (app 1 y [UInt8.ofNat (u8.wrap x.2.Col).toNat,UInt8.ofNat 0]) fun zs=>some zs))
def zzS:Fq:=⟨[(0,.val 178),(1,.val 72)],[(0,.own 5)],fzm⟩
theorem BzS:A0 195 zzS:=A1 Tryz.func195 (.cons gzq .nil)
def gzb (self:List (UInt8)×Expr->Option (List (UInt8))):FSpec tb:=⟨[(0,.own 5),(1,.val 76)],[(0,.own 5)],self⟩
abbrev yzZ (self:List (UInt8)×Expr->Option (List (UInt8))):List (Nat×Fq):=[(149,(gzb self)),(152,lzQ),(194,Czd),(195,zzS)]
theorem zzR (self:List (UInt8)×Expr->Option (List (UInt8)))(hself:azw Tryz.prog tb 149 (gzb self)):azk Tryz.prog tb (yzZ self):=(.cons hself (.cons gzq (.cons Ezg (.cons BzS .nil))))
def kzg (self:List (UInt8)×Expr->Option (List (UInt8)))(back:List (UInt8)×Expr×Int->Option (List (UInt8)))(x:List (UInt8)×Expr×Int):Option (List (UInt8)):=brn (decide (x.2.2<(↑x.2.1.Kids.length:Int))) (obnd (idx x.2.1.Kids x.2.2) fun y=>obnd (self (x.1,aze y)) fun y=>back (y,aze x.2.1,i64.wrap (x.2.2+1))) (some x.1)
def pzm (self:List (UInt8)×Expr->Option (List (UInt8))):List (UInt8)×Expr×Int->Option (List (UInt8)):=iter (kzg self) big
def mzK (self:List (UInt8)×Expr->Option (List (UInt8))):CutSpec tb:=⟨28,[(0,.own 5),(3,.ro 76),(5,.val 3)],[(.exit 0,[(0,.own 5)])],[8,9,10,11,12,15,16,17,18,19,20,21,0,13,14,5],(pzm self),none⟩
theorem Izm (self:List (UInt8)×Expr->Option (List (UInt8))):∀back x,gzD Tryz.prog tb (yzZ self) [] (czv 28 Tryz.f149) (mzK self).ins (mzK self).outs back x=kzg self back x:=fun back x=>by kernel_rfl
theorem Jz3 (self:List (UInt8)×Expr->Option (List (UInt8))):cutB Tryz.f149.ntmps (mzK self) (czv 28 Tryz.f149)=true:=by kernel_rfl
theorem Fz6 (self:List (UInt8)×Expr->Option (List (UInt8)))(hself:azw Tryz.prog tb 149 (gzb self)):A3 Tryz.f149 28 (mzK self):=A4 (zzR self hself) .nil (kzg self) (hb:=(Jz3 self)) (hF:=(Izm self))
def fzl (self:List (UInt8)×Expr->Option (List (UInt8)))(x:List (UInt8)×Expr):Option (List (UInt8)):=obnd ((pzm self) (x.1,aze x.2,0)) fun y=>brn (decide (x.2.Kind=1)) (brn (decide (x.2.V.Kind=1)) (obnd (app 1 y [UInt8.ofNat 31]) fun zs=>obnd (czl (zs,u64.wrap x.2.V.N.M,8)) fun y=>obnd (app 1 y [UInt8.ofNat (u8.wrap x.2.V.N.S).toNat]) fun zs=>some zs) (brn (decide (x.2.V.Kind=2)) (obnd (app 1 y [UInt8.ofNat 23]) fun zs=>obnd (qzN (zs,x.2.V.S)) fun y=>some y.1) (brn (decide (x.2.V.Kind=3)) (brn x.2.V.B (obnd (app 1 y [UInt8.ofNat 29,UInt8.ofNat 1]) fun zs=>some zs) (obnd (app 1 y [UInt8.ofNat 29,UInt8.ofNat 0]) fun zs=>some zs)) (obnd (app 1 y [UInt8.ofNat 28,UInt8.ofNat (u8.wrap x.2.V.E).toNat]) fun zs=>some zs)))) (brn (decide (x.2.Kind=2)) (obnd (app 1 y [UInt8.ofNat 36]) fun zs=>obnd (fzm (zs,x.2.A.A)) fun y=>some y) (brn (decide (x.2.Kind=3)) (obnd (app 1 y [UInt8.ofNat 37]) fun zs=>obnd (fzm (zs,x.2.A.A)) fun y=>obnd (fzm (y,x.2.A.B)) fun y=>some y) (brn (decide (x.2.Kind=4)) (obnd (app 1 y [UInt8.ofNat 58,UInt8.ofNat (u8.wrap x.2.Sheet).toNat]) fun zs=>obnd (fzm (zs,x.2.A.A)) fun y=>some y) (brn (decide (x.2.Kind=5)) (obnd (app 1 y [UInt8.ofNat 59,UInt8.ofNat (u8.wrap x.2.Sheet).toNat]) fun zs=>obnd (fzm (zs,x.2.A.A)) fun y=>obnd (fzm (y,x.2.A.B)) fun y=>some y) (brn (decide (x.2.Kind=6)) (obnd (app 1 y [UInt8.ofNat 35]) fun zs=>obnd (czl (zs,u64.wrap x.2.Op,2)) fun y=>some y) (brn (decide (x.2.Kind=7)) (obnd (idx [19,18,20] (i64.wrap (x.2.Op-1))) fun y_1=>obnd (app 1 y [UInt8.ofNat (u8.wrap y_1).toNat]) fun zs=>some zs) (brn (decide (x.2.Kind=8)) (obnd (app 1 y [UInt8.ofNat (u8.wrap (i64.wrap (2+x.2.Op))).toNat]) fun zs=>some zs) (brn (decide (x.2.Kind=9)) (obnd (app 1 y [UInt8.ofNat 34,UInt8.ofNat (u8.wrap (↑x.2.Kids.length:Int)).toNat,UInt8.ofNat (u8.wrap x.2.Op).toNat]) fun zs=>some zs) (obnd (app 1 y [UInt8.ofNat 21]) fun zs=>some zs)))))))))
theorem NzF (self:List (UInt8)×Expr->Option (List (UInt8))):∀x,evFn Tryz.prog tb (yzZ self) [(mzK self)] Tryz.f149 (gzb (fzl self)).ins (gzb (fzl self)).outs x=(gzb (fzl self)).f x:=fun x=>by kernel_rfl
theorem OzI (self:List (UInt8)×Expr->Option (List (UInt8))):fnK Tryz.f149 (gzb (fzl self)).ins (gzb (fzl self)).outs=true:=by kernel_rfl
theorem Jz4 (self:List (UInt8)×Expr->Option (List (UInt8)))(hself:azw Tryz.prog tb 149 (gzb self)):A0 149 (gzb (fzl self)):=A2 Tryz.func149 (zzR self hself) (.cons (Fz6 self hself) .nil) (hk:=(OzI self)) (hJ:=(NzF self))
def yzY:=iter fzl big
def PzJ:Fq:=gzb yzY
theorem Izn:azw Tryz.prog tb 149 PzJ:=pzh (fzs Tryz.func149 (by kernel_rfl)) Jz4
def izB (x:Expr):Option (List (UInt8)×Int):=obnd (mzf (aze x)) fun y=>brn (!decide (y=0)) (some ([],y)) (obnd (yzY ([],aze x)) fun y=>brn (decide (4096<(↑(List.length y):Int))) (some ([],4)) (some (y,0)))
def szX:Fq:=⟨[(0,.val 76)],[(0,.own 5),(1,.val 3)],izB⟩
theorem nzH:A0 85 szX:=A1 Tryz.func85 (.cons xzw (.cons Izn .nil))
def fzf (self:Expr->Option (List (Expr))):FSpec tb:=⟨[(0,.val 76)],[(0,.own 76)],self⟩
abbrev wzx (self:Expr->Option (List (Expr))):List (Nat×Fq):=[(86,(fzf self))]
theorem xzz (self:Expr->Option (List (Expr)))(hself:azw Tryz.prog tb 86 (fzf self)):azk Tryz.prog tb (wzx self):=(.cons hself .nil)
def jzq (self:Expr->Option (List (Expr)))(back:Expr×List (Expr)×Int->Option (List (Expr)))(x:Expr×List (Expr)×Int):Option (List (Expr)):=brn (decide (x.2.2<(↑x.1.Kids.length:Int))) (obnd (idx x.1.Kids x.2.2) fun y=>obnd (self (aze y)) fun y=>obnd (app 152 x.2.1 y) fun zs=>back (aze x.1,zs,i64.wrap (x.2.2+1))) (some x.2.1)
def oza (self:Expr->Option (List (Expr))):Expr×List (Expr)×Int->Option (List (Expr)):=iter (jzq self) big
def lzx (self:Expr->Option (List (Expr))):CutSpec tb:=⟨52,[(1,.ro 76),(3,.own 76),(4,.val 3)],[(.exit 0,[(3,.own 76)])],[15,16,17,18,19,22,23,24,25,26,27,28,29,3,20,21,4],(oza self),none⟩
theorem Fz2 (self:Expr->Option (List (Expr))):∀back x,gzD Tryz.prog tb (wzx self) [] (czv 52 Tryz.f86) (lzx self).ins (lzx self).outs back x=jzq self back x:=fun back x=>by kernel_rfl
theorem Izi (self:Expr->Option (List (Expr))):cutB Tryz.f86.ntmps (lzx self) (czv 52 Tryz.f86)=true:=by kernel_rfl
theorem DzL (self:Expr->Option (List (Expr)))(hself:azw Tryz.prog tb 86 (fzf self)):A3 Tryz.f86 52 (lzx self):=A4 (xzz self hself) .nil (jzq self) (hb:=(Izi self)) (hF:=(Fz2 self))
def fze (self:Expr->Option (List (Expr)))(x:Expr):Option (List (Expr)):=brn (decide (2<=x.Kind)) (brn (decide (x.Kind<=6)) (some [aze x]) (obnd ((oza self) (aze x,[],0)) fun y=>some y)) (obnd ((oza self) (aze x,[],0)) fun y=>some y)
theorem LzW (self:Expr->Option (List (Expr))):∀x,evFn Tryz.prog tb (wzx self) [(lzx self)] Tryz.f86 (fzf (fze self)).ins (fzf (fze self)).outs x=(fzf (fze self)).f x:=fun x=>by kernel_rfl
theorem NzC (self:Expr->Option (List (Expr))):fnK Tryz.f86 (fzf (fze self)).ins (fzf (fze self)).outs=true:=by kernel_rfl
theorem Izj (self:Expr->Option (List (Expr)))(hself:azw Tryz.prog tb 86 (fzf self)):A0 86 (fzf (fze self)):=A2 Tryz.func86 (xzz self hself) (.cons (DzL self hself) .nil) (hk:=(NzC self)) (hJ:=(LzW self))
def wzw:=iter fze big
def Ez0:Fq:=fzf wzw
theorem Fz3:azw Tryz.prog tb 86 Ez0:=pzh (fzs Tryz.func86 (by kernel_rfl)) Izj
abbrev Gzk:List (Nat×Fq):=[(84,mz1)]
theorem jz5:azk Tryz.prog tb (Gzk):=(.cons jzR .nil)
def dzm (back:Table×Int->Option ((Unit)⊕(Int)))(x:Table×Int):Option ((Unit)⊕(Int)):=brn (decide (x.2<(↑x.1.Texts.length:Int))) (obnd (idx x.1.Texts x.2) fun y=>obnd (hzC y) fun y=>brn (!decide (y.2=0)) (some (Sum.inr y.2)) (back (x.1,i64.wrap (x.2+1)))) (some (Sum.inl PUnit.unit))
def jz6:=iter dzm big
def Azu:Cq:=⟨44,[(1,.ro 26),(3,.val 3)],[(.exit 0,[]),(.ret,[(2,.val 3)])],rg 12 19 (rg 2 4 []),jz6,none⟩
theorem wzN:A3 Tryz.f150 44 Azu:=A4 jz5 .nil dzm
def dzo (back:Table×Int×Int->Option ((Unit)⊕(Int)))(x:Table×Int×Int):Option ((Unit)⊕(Int)):=brn (decide (x.2.2<x.2.1)) (obnd (idx x.1.Texts x.2.2) fun y=>obnd (idx x.1.Texts x.2.1) fun y_1=>brn (decide (y=y_1)) (some (Sum.inr 7)) (back (x.1,x.2.1,i64.wrap (x.2.2+1)))) (some (Sum.inl PUnit.unit))
def jz8:=iter dzo big
def Azw:Cq:=⟨116,[(1,.ro 26),(6,.val 3),(7,.val 3)],[(.exit 4,[]),(.ret,[(2,.val 3)])],rg 38 16 [2,7],jz8,none⟩
theorem wzP:A3 Tryz.f150 116 Azw:=A4 jz5 .nil dzo
def dzn (back:Table×Int->Option ((Unit)⊕(Int)))(x:Table×Int):Option ((Unit)⊕(Int)):=brn (decide (x.2<(↑x.1.Texts.length:Int))) (obnd (jz8 (x.1,x.2,0)) fun y=>osum y (fun y=>back (x.1,i64.wrap (x.2+1))) fun y=>some (Sum.inr y)) (some (Sum.inl PUnit.unit))
def jz7:=iter dzn big
def Azv:Cq:=⟨92,[(1,.ro 26),(6,.val 3)],[(.exit 2,[]),(.ret,[(2,.val 3)])],rg 31 23 [2,6,7],jz7,none⟩
theorem wzO:A3 Tryz.f150 92 Azv:=A4 jz5 (.cons wzP .nil) dzn
def gz7 (x:Table):Option (Int):=brn (decide (1024<(↑x.Texts.length:Int))) (some 4) (obnd (jz6 (x,0)) fun y=>osum y (fun y=>obnd (jz7 (x,0)) fun y=>osum y (fun y=>brn (decide (x.Uses<(↑x.Texts.length:Int))) (some 1) (brn (decide (2147483647<x.Uses)) (some 1) (some 0))) fun y=>some y) fun y=>some y)
def uz4:Fq:=⟨[(0,.val 26)],[(0,.val 3)],gz7⟩
theorem xzV:A0 150 uz4:=A2 Tryz.func150 jz5 (.cons wzN (.cons wzO .nil))
abbrev NzK:List (Nat×Fq):=[(152,lzQ),(146,rz9),(147,wzR),(196,uz6)]
theorem qzO:azk Tryz.prog tb (NzK):=(.cons gzq (.cons mzn (.cons pzI (.cons tzp .nil))))
def ez3 (back:List (UInt8)×List (Int)×Int×List Int×Int×Int->Option (List (UInt8)×List (Int)×Int))(x:List (UInt8)×List (Int)×Int×List Int×Int×Int):Option (List (UInt8)×List (Int)×Int):=brn (decide (x.2.2.2.2.2<(↑x.2.2.2.1.length:Int))) (brn (decide (224<i64.wrap (i64.wrap ((↑x.1.length:Int)-x.2.2.1)+x.2.2.2.2.1))) (obnd (app 8 x.2.1 [(↑x.1.length:Int)]) fun zs=>obnd (app 1 x.1 [UInt8.ofNat (u8.wrap (i64.wrap (x.2.2.2.2.1-1))).toNat]) fun zs_1=>obnd (idx x.2.2.2.1 x.2.2.2.2.2) fun y=>obnd (app 1 zs_1 [UInt8.ofNat (u8.wrap y).toNat]) fun zs_2=>brn (decide (x.2.2.2.2.1=2)) (obnd (idx x.2.2.2.1 x.2.2.2.2.2) fun y=>obnd (app 1 zs_2 [UInt8.ofNat (u8.wrap (Int.fdiv y 256)).toNat]) fun zs_3=>back (zs_3,zs,(↑x.1.length:Int),x.2.2.2.1,x.2.2.2.2.1,i64.wrap (x.2.2.2.2.2+1))) (back (zs_2,zs,(↑x.1.length:Int),x.2.2.2.1,x.2.2.2.2.1,i64.wrap (x.2.2.2.2.2+1)))) (obnd (idx x.2.2.2.1 x.2.2.2.2.2) fun y=>obnd (app 1 x.1 [UInt8.ofNat (u8.wrap y).toNat]) fun zs=>brn (decide (x.2.2.2.2.1=2)) (obnd (idx x.2.2.2.1 x.2.2.2.2.2) fun y=>obnd (app 1 zs [UInt8.ofNat (u8.wrap (Int.fdiv y 256)).toNat]) fun zs=>back (zs,x.2.1,x.2.2.1,x.2.2.2.1,x.2.2.2.2.1,i64.wrap (x.2.2.2.2.2+1))) (back (zs,x.2.1,x.2.2.1,x.2.2.2.1,x.2.2.2.2.1,i64.wrap (x.2.2.2.2.2+1))))) (some (x.1,x.2.1,x.2.2.1))
def ezi:=iter ez3 big
def IzC:Cq:=⟨164,[(5,.own 5),(6,.own 3),(8,.val 3),(12,.val 23),(13,.val 3),(14,.val 3)],[(.exit 2,[(5,.own 5),(6,.own 3),(8,.val 3)])],rg 79 45 [5,6,8,14],ezi,none⟩
theorem Czh:A3 Tryz.f151 164 IzC:=A4 qzO .nil ez3
def ez2 (back:Table×List (UInt8)×List (Int)×List (Int)×Int×Int->Option (List (UInt8)×List (Int)×List (Int)))(x:Table×List (UInt8)×List (Int)×List (Int)×Int×Int):Option (List (UInt8)×List (Int)×List (Int)):=brn (decide (x.2.2.2.2.2<(↑x.1.Texts.length:Int))) (obnd (idx x.1.Texts x.2.2.2.2.2) fun y=>obnd (kzX y) fun y=>obnd (jzl y.1) fun y=>obnd (idx x.1.Texts x.2.2.2.2.2) fun y_1=>obnd (nzK y_1) fun y_2=>brn y_2 (brn (decide (224<i64.wrap (i64.wrap ((↑x.2.1.length:Int)-x.2.2.2.2.1)+3))) (obnd (app 8 x.2.2.1 [(↑x.2.1.length:Int)]) fun zs=>obnd (app 8 x.2.2.2.1 [(↑x.2.1.length:Int)]) fun zs_1=>obnd (app 1 x.2.1 [UInt8.ofNat (u8.wrap (↑(List.length y):Int)).toNat,UInt8.ofNat (u8.wrap ((↑(List.length y):Int).fdiv 256)).toNat,UInt8.ofNat 0]) fun zs_2=>obnd (ezi (zs_2,zs,(↑x.2.1.length:Int),y,1,0)) fun y=>back (x.1,y.1,y.2.1,zs_1,y.2.2,i64.wrap (x.2.2.2.2.2+1))) (obnd (app 8 x.2.2.2.1 [(↑x.2.1.length:Int)]) fun zs=>obnd (app 1 x.2.1 [UInt8.ofNat (u8.wrap (↑(List.length y):Int)).toNat,UInt8.ofNat (u8.wrap ((↑(List.length y):Int).fdiv 256)).toNat,UInt8.ofNat 0]) fun zs_1=>obnd (ezi (zs_1,x.2.2.1,x.2.2.2.2.1,y,1,0)) fun y=>back (x.1,y.1,y.2.1,zs,y.2.2,i64.wrap (x.2.2.2.2.2+1)))) (brn (decide (224<i64.wrap (i64.wrap ((↑x.2.1.length:Int)-x.2.2.2.2.1)+3))) (obnd (app 8 x.2.2.1 [(↑x.2.1.length:Int)]) fun zs=>obnd (app 8 x.2.2.2.1 [(↑x.2.1.length:Int)]) fun zs_1=>obnd (app 1 x.2.1 [UInt8.ofNat (u8.wrap (↑(List.length y):Int)).toNat,UInt8.ofNat (u8.wrap ((↑(List.length y):Int).fdiv 256)).toNat,UInt8.ofNat 1]) fun zs_2=>obnd (ezi (zs_2,zs,(↑x.2.1.length:Int),y,2,0)) fun y=>back (x.1,y.1,y.2.1,zs_1,y.2.2,i64.wrap (x.2.2.2.2.2+1))) (obnd (app 8 x.2.2.2.1 [(↑x.2.1.length:Int)]) fun zs=>obnd (app 1 x.2.1 [UInt8.ofNat (u8.wrap (↑(List.length y):Int)).toNat,UInt8.ofNat (u8.wrap ((↑(List.length y):Int).fdiv 256)).toNat,UInt8.ofNat 1]) fun zs_1=>obnd (ezi (zs_1,x.2.2.1,x.2.2.2.2.1,y,2,0)) fun y=>back (x.1,y.1,y.2.1,zs,y.2.2,i64.wrap (x.2.2.2.2.2+1))))) (some (x.2.1,x.2.2.1,x.2.2.2.1))
def nzn:=iter ez2 big
def IzB:Cq:=⟨60,[(1,.ro 26),(5,.own 5),(6,.own 3),(7,.own 3),(8,.val 3),(9,.val 3)],[(.exit 0,[(5,.own 5),(6,.own 3),(7,.own 3)])],rg 24 100 (rg 5 10 []),nzn,none⟩
theorem Czg:A3 Tryz.f151 60 IzB:=A4 qzO (.cons Czh .nil) ez2
def lzT (x:Table):Option (List (UInt8)×List (Int)×List (Int)):=obnd (czl ([],u64.wrap x.Uses,4)) fun y=>obnd (czl (y,u64.wrap (↑x.Texts.length:Int),4)) fun y=>obnd (nzn (x,y,[],[],0,0)) fun y=>some (y.1,y.2)
def Czf:Fq:=⟨[(0,.val 26)],[(0,.own 5),(1,.own 3),(2,.own 3)],lzT⟩
theorem Ezl:A0 151 Czf:=A2 Tryz.func151 qzO (.cons Czg .nil)
def ezc (back:Rec×Int×Int->Option ((Unit)⊕(Int)))(x:Rec×Int×Int):Option ((Unit)⊕(Int)):=brn (decide (x.2.2<(↑x.1.Cuts.length:Int))) (obnd (idx x.1.Cuts x.2.2) fun y=>brn (decide (y<=x.2.1)) (some (Sum.inr 6)) (obnd (idx x.1.Cuts x.2.2) fun y=>brn (decide ((↑x.1.Data.length:Int)<=y)) (some (Sum.inr 6)) (obnd (idx x.1.Cuts x.2.2) fun y=>back (x.1,y,i64.wrap (x.2.2+1))))) (some (Sum.inl PUnit.unit))
def kz5:=iter ezc big
def Ezd:Cq:=⟨68,[(1,.ro 196),(3,.val 3),(4,.val 3)],[(.exit 0,[]),(.ret,[(2,.val 3)])],rg 23 30 (rg 2 3 []),kz5,none⟩
theorem zzc:A3 Tryz.f153 68 Ezd:=A4 .nil .nil ezc
def ezd (back:Rec×Int×Int->Option ((Int)⊕(Int)))(x:Rec×Int×Int):Option ((Int)⊕(Int)):=brn (decide (x.2.2<(↑x.1.Cuts.length:Int))) (obnd (idx x.1.Cuts x.2.2) fun y=>brn (decide (224<i64.wrap (y-x.2.1))) (some (Sum.inr 4)) (obnd (idx x.1.Cuts x.2.2) fun y=>back (x.1,y,i64.wrap (x.2.2+1)))) (some (Sum.inl x.2.1))
def kz6:=iter ezd big
def Eze:Cq:=⟨124,[(1,.ro 196),(3,.val 3),(5,.val 3)],[(.exit 2,[(3,.val 3)]),(.ret,[(2,.val 3)])],rg 53 20 [2,3,5],kz6,none⟩
theorem zzd:A3 Tryz.f153 124 Eze:=A4 .nil .nil ezd
def fzD (x:Rec):Option (Int):=brn (decide (x.Type_<0)) (some 1) (brn (decide (65535<x.Type_)) (some 1) (brn (decide (x.Type_=60)) (some 1) (brn (decide (65536<(↑x.Data.length:Int))) (some 4) (obnd (kz5 (x,0,0)) fun y=>osum y (fun y=>obnd (kz6 (x,0,0)) fun y=>osum y (fun y=>brn (decide (224<i64.wrap ((↑x.Data.length:Int)-y))) (some 4) (some 0)) fun y=>some y) fun y=>some y))))
def xzU:Fq:=⟨[(0,.val 196)],[(0,.val 3)],fzD⟩
theorem Azt:A0 153 xzU:=A2 Tryz.func153 .nil (.cons zzc (.cons zzd .nil))
def nzl (back:List (Int)×Rec×Int->Option ((List (Int))×Rec))(x:List (Int)×Rec×Int):Option ((List (Int))×Rec):=brn (decide (x.2.2<(↑x.2.1.Data.length:Int))) (obnd (app 8 x.1 [x.2.2]) fun zs=>back (zs,Rec.mk x.2.1.Type_ x.2.1.Data zs x.2.1.At,i64.wrap (x.2.2+224))) (some (x.1,Rec.mk x.2.1.Type_ x.2.1.Data x.1 x.2.1.At))
def qzJ:=iter nzl big
def Izx:Cq:=⟨36,[(12884901889,.own 3),(1,.ref 196),(3,.val 3)],[(.exit 0,[(12884901889,.own 3)])],rg 5 13 [3],qzJ,none⟩
theorem Cza:A3 Tryz.f154 36 Izx:=A4 .nil .nil nzl
def lzP (x:Rec):Option (Rec):=obnd (qzJ ([],Rec.mk x.Type_ x.Data [] x.At,224)) fun y=>some (Rec.mk y.2.Type_ y.2.Data y.1 y.2.At)
def uz5:Fq:=⟨[(0,.val 196)],[(0,.val 196)],lzP⟩
theorem tzn:A0 154 uz5:=A2 Tryz.func154 .nil (.cons Cza .nil)
abbrev Ezf:List (Nat×Fq):=[(150,uz4),(151,Czf),(152,lzQ),(153,xzU),(154,uz5)]
theorem qzK:azk Tryz.prog tb (Ezf):=(.cons xzV (.cons Ezl (.cons gzq (.cons Azt (.cons tzn .nil)))))
def iz6 (back:List Int×List (UInt8)×Int->Option (List (UInt8)))(x:List Int×List (UInt8)×Int):Option (List (UInt8)):=brn (decide (x.2.2<(↑x.1.length:Int))) (obnd (idx x.1 x.2.2) fun y=>obnd (czl (x.2.1,u64.wrap y,4)) fun y=>back (x.1,y,i64.wrap (x.2.2+8))) (some x.2.1)
def iz7:=iter iz6 big
def zze:Cq:=⟨68,[(8,.val 23),(9,.own 5),(10,.val 3)],[(.exit 0,[(9,.own 5)])],rg 26 13 [9,10],iz7,none⟩
theorem vzv:A3 Tryz.f87 68 zze:=A4 qzK .nil iz6
def ezV (x:Table):Option (Rec×Rec×Int):=obnd (gz7 x) fun y=>brn (!decide (y=0)) (some (Rec.mk 0 [] [] 0,Rec.mk 0 [] [] 0,y)) (obnd (lzT x) fun y=>obnd (czl ([],8,2)) fun y_1=>obnd (iz7 (y.2.2,y_1,0)) fun y_2=>obnd (fzD (Rec.mk 252 y.1 y.2.1 0)) fun y_3=>brn (!decide (y_3=0)) (some (Rec.mk 0 [] [] 0,Rec.mk 0 [] [] 0,y_3)) (obnd (lzP (Rec.mk 255 y_2 [] 0)) fun y_4=>some (Rec.mk 252 y.1 y.2.1 0,y_4,0)))
def tzo:Fq:=⟨[(0,.val 26)],[(0,.val 196),(1,.val 196),(2,.val 3)],ezV⟩
theorem wzQ:A0 87 tzo:=A2 Tryz.func87 qzK (.cons vzv .nil)
def gz5 (x:Place×Int):Option (Bool):=brn (decide (0<=x.1.Sheet)) (brn (decide (x.1.Sheet<x.2)) (obnd (fzd x.1.At) fun y=>some y) (some false)) (some false)
def uzV:Fq:=⟨[(0,.val 66),(1,.val 3)],[(0,.val 4)],gz5⟩
theorem xzF:A0 155 uzV:=A1 Tryz.func155 (.cons mzg .nil)
abbrev BzV:List (Nat×Fq):=[(152,lzQ),(155,uzV),(154,uz5)]
theorem pz0:azk Tryz.prog tb (BzV):=(.cons gzq (.cons xzF (.cons tzn .nil)))
def cz4 (back:List Place×Rec×List (UInt8)×Int->Option (((List (UInt8))×Rec)⊕((Int)×Rec)))(x:List Place×Rec×List (UInt8)×Int):Option (((List (UInt8))×Rec)⊕((Int)×Rec)):=brn (decide (x.2.2.2<(↑x.1.length:Int))) (obnd (idx x.1 x.2.2.2) fun y=>obnd (gz5 (y,8)) fun y=>brn (!y) (some (Sum.inr (12,Rec.mk 0 [] [] 0))) (obnd (idx x.1 x.2.2.2) fun y=>obnd (app 1 x.2.2.1 [UInt8.ofNat (u8.wrap y.Sheet).toNat]) fun zs=>obnd (idx x.1 x.2.2.2) fun y=>obnd (czl (zs,u64.wrap y.At.Row,2)) fun y=>obnd (idx x.1 x.2.2.2) fun y_1=>obnd (app 1 y [UInt8.ofNat (u8.wrap y_1.At.Col).toNat]) fun zs=>back (x.1,x.2.1,zs,i64.wrap (x.2.2.2+1)))) (some (Sum.inl (x.2.2.1,x.2.1)))
def izr:=iter cz4 big
def xzE:Cq:=⟨52,[(0,.val 27),(2,.ref 196),(4,.own 5),(5,.val 3)],[(.exit 0,[(4,.own 5)]),(.ret,[(3,.val 3)])],rg 14 39 (rg 3 3 []),izr,none⟩
theorem uzU:A3 Tryz.f88 52 xzE:=A4 pz0 .nil cz4
def ezv (x:List Place):Option (Rec×Int):=brn (decide (4096<(↑x.length:Int))) (some (Rec.mk 0 [] [] 0,4)) (obnd (czl ([],u64.wrap (↑x.length:Int),2)) fun y=>obnd (izr (x,Rec.mk 0 [] [] 0,y,0)) fun y=>osum y (fun y=>obnd (lzP (Rec.mk 6247 y.1 [] 0)) fun y=>some (y,0)) fun y=>some (y.2,y.1))
def szw:Fq:=⟨[(0,.val 27)],[(0,.val 196),(1,.val 3)],ezv⟩
theorem vzq:A0 88 szw:=A2 Tryz.func88 pz0 (.cons uzU .nil)
abbrev Azi:List (Nat×Fq):=[(84,mz1),(85,szX),(86,Ez0),(87,tzo),(88,szw)]
theorem czL:azk Tryz.prog tb (Azi):=(.cons jzR (.cons nzH (.cons Fz3 (.cons wzQ (.cons vzq .nil)))))
def dz8 (x:Globals):Option (Bool):=brn (decide ((↑x.Sheets.length:Int)<1)) (some true) (brn (decide (8<(↑x.Sheets.length:Int))) (some true) (brn (decide (64<(↑x.Formats.length:Int))) (some true) (brn (decide (256<(↑x.XFs.length:Int))) (some true) (some (decide (1024<(↑x.Names.length:Int)))))))
def wzB:Cq:=⟨16,[(1,.ro 29)],[(.normal,[(46,.val 4)])],rg 19 28 [],(dz8),none⟩
theorem tzP:A5 Tryz.f38 16 wzB:=A6 czL .nil
def czN (back:Globals×Int×Int->Option ((Unit)⊕(Int)))(x:Globals×Int×Int):Option ((Unit)⊕(Int)):=brn (decide (x.2.2<x.2.1)) (obnd (idx x.1.Sheets x.2.2) fun y=>obnd (idx x.1.Sheets x.2.1) fun y_1=>brn (decide (y=y_1)) (some (Sum.inr 7)) (back (x.1,x.2.1,i64.wrap (x.2.2+1)))) (some (Sum.inl PUnit.unit))
def hzx:=iter czN big
def wzD:Cq:=⟨92,[(1,.ro 29),(3,.val 3),(6,.val 3)],[(.exit 2,[]),(.ret,[(2,.val 3)])],rg 73 16 [2,6],hzx,none⟩
theorem tzR:A3 Tryz.f38 92 wzD:=A4 czL .nil czN
def czM (back:Globals×Int->Option ((Unit)⊕(Int)))(x:Globals×Int):Option ((Unit)⊕(Int)):=brn (decide (x.2<(↑x.1.Sheets.length:Int))) (obnd (idx x.1.Sheets x.2) fun y=>obnd (hzC y) fun y=>brn (!decide (y.2=0)) (some (Sum.inr 3)) (brn (decide (y.1<1)) (some (Sum.inr 3)) (brn (decide (31<y.1)) (some (Sum.inr 3)) (obnd (hzx (x.1,x.2,0)) fun y=>osum y (fun y=>back (x.1,i64.wrap (x.2+1))) fun y=>some (Sum.inr y))))) (some (Sum.inl PUnit.unit))
def hzw:=iter czM big
def wzC:Cq:=⟨44,[(1,.ro 29),(3,.val 3)],[(.exit 0,[]),(.ret,[(2,.val 3)])],rg 47 42 (rg 2 5 []),hzw,none⟩
theorem tzQ:A3 Tryz.f38 44 wzC:=A4 czL (.cons tzR .nil) czM
def czO (back:Globals×Int->Option ((Unit)⊕(Int)))(x:Globals×Int):Option ((Unit)⊕(Int)):=brn (decide (x.2<(↑x.1.Formats.length:Int))) (obnd (idx x.1.Formats x.2) fun y=>obnd (hzC y) fun y=>brn (!decide (y.2=0)) (some (Sum.inr y.2)) (back (x.1,i64.wrap (x.2+1)))) (some (Sum.inl PUnit.unit))
def hzy:=iter czO big
def wzE:Cq:=⟨132,[(1,.ro 29),(7,.val 3)],[(.exit 4,[]),(.ret,[(2,.val 3)])],rg 89 19 (rg 7 3 [2]),hzy,none⟩
theorem tzS:A3 Tryz.f38 132 wzE:=A4 czL .nil czO
def czP (back:Globals×Int->Option ((Unit)⊕(Int)))(x:Globals×Int):Option ((Unit)⊕(Int)):=brn (decide (x.2<(↑x.1.XFs.length:Int))) (obnd (idx x.1.XFs x.2) fun y=>brn (decide (y<0)) (some (Sum.inr 1)) (obnd (idx x.1.XFs x.2) fun y=>brn (decide ((↑x.1.Formats.length:Int)<=y)) (obnd (idx x.1.XFs x.2) fun y=>brn (!decide (y=0)) (some (Sum.inr 1)) (back (x.1,i64.wrap (x.2+1)))) (back (x.1,i64.wrap (x.2+1))))) (some (Sum.inl PUnit.unit))
def hzz:=iter czP big
def wzF:Cq:=⟨180,[(1,.ro 29),(10,.val 3)],[(.exit 6,[]),(.ret,[(2,.val 3)])],rg 108 32 [2,10],hzz,none⟩
theorem tzT:A3 Tryz.f38 180 wzF:=A4 czL .nil czP
def czR (back:List Expr×Int->Option ((Unit)⊕(Int)))(x:List Expr×Int):Option ((Unit)⊕(Int)):=brn (decide (x.2<(↑x.1.length:Int))) (obnd (idx x.1 x.2) fun y=>brn (decide (y.Kind=6)) (some (Sum.inr 3)) (back (x.1,i64.wrap (x.2+1)))) (some (Sum.inl PUnit.unit))
def hzB:=iter czR big
def wzH:Cq:=⟨276,[(14,.val 24),(15,.val 3)],[(.exit 10,[]),(.ret,[(2,.val 3)])],rg 165 12 [2,15],hzB,none⟩
theorem tzV:A3 Tryz.f38 276 wzH:=A4 czL .nil czR
def czQ (back:Globals×Int->Option ((Unit)⊕(Int)))(x:Globals×Int):Option ((Unit)⊕(Int)):=brn (decide (x.2<(↑x.1.Names.length:Int))) (obnd (idx x.1.Names x.2) fun y=>obnd (izB (aze y)) fun y=>brn (!decide (y.2=0)) (some (Sum.inr y.2)) (obnd (idx x.1.Names x.2) fun y=>obnd (wzw (aze y)) fun y=>obnd (hzB (y,0)) fun y=>osum y (fun y=>back (x.1,i64.wrap (x.2+1))) fun y=>some (Sum.inr y))) (some (Sum.inl PUnit.unit))
def hzA:=iter czQ big
def wzG:Cq:=⟨220,[(1,.ro 29),(11,.val 3)],[(.exit 8,[]),(.ret,[(2,.val 3)])],rg 140 37 (rg 11 5 [2]),hzA,none⟩
theorem tzU:A3 Tryz.f38 220 wzG:=A4 czL (.cons tzV .nil) czQ
def fzc (x:Globals):Option (Int):=obnd (dz8 x) fun y=>brn y (some 4) (obnd (hzw (x,0)) fun y=>osum y (fun y=>obnd (hzy (x,0)) fun y=>osum y (fun y=>obnd (hzz (x,0)) fun y=>osum y (fun y=>obnd (hzA (x,0)) fun y=>osum y (fun y=>brn (decide ((↑x.Texts.Texts.length:Int)=0)) (brn (!decide (x.Texts.Uses=0)) (some 1) (obnd (ezV x.Texts) fun y=>brn (!decide (y.2.2=0)) (some y.2.2) (obnd (ezv x.Chain) fun y=>some y.2))) (obnd (ezV x.Texts) fun y=>brn (!decide (y.2.2=0)) (some y.2.2) (obnd (ezv x.Chain) fun y=>some y.2))) fun y=>some y) fun y=>some y) fun y=>some y) fun y=>some y)
def qz6:Fq:=⟨[(0,.val 29)],[(0,.val 3)],fzc⟩
theorem uzY:A0 38 qz6:=A2 Tryz.func38 czL (.cons tzP (.cons tzQ (.cons tzS (.cons tzT (.cons tzU .nil)))))
def izp (self:Expr×Expr->Option (Bool)):FSpec tb:=⟨[(0,.val 76),(1,.val 76)],[(0,.val 4)],self⟩
abbrev Izk (self:Expr×Expr->Option (Bool)):List (Nat×Fq):=[(20,(izp self))]
theorem szu (self:Expr×Expr->Option (Bool))(hself:azw Tryz.prog tb 20 (izp self)):azk Tryz.prog tb (Izk self):=(.cons hself .nil)
def dzI (self:Expr×Expr->Option (Bool))(back:Expr×Expr×Int->Option ((Unit)⊕(Bool)))(x:Expr×Expr×Int):Option ((Unit)⊕(Bool)):=brn (decide (x.2.2<(↑x.1.Kids.length:Int))) (obnd (idx x.1.Kids x.2.2) fun y=>obnd (idx x.2.1.Kids x.2.2) fun y_1=>obnd (self (aze y,aze y_1)) fun y=>brn (!y) (some (Sum.inr false)) (back (aze x.1,aze x.2.1,i64.wrap (x.2.2+1)))) (some (Sum.inl PUnit.unit))
def kzz (self:Expr×Expr->Option (Bool)):Expr×Expr×Int->Option ((Unit)⊕(Bool)):=iter (dzI self) big
def BzQ (self:Expr×Expr->Option (Bool)):CutSpec tb:=⟨44,[(2,.ro 76),(3,.ro 76),(5,.val 3)],[(.exit 0,[]),(.ret,[(4,.val 4)])],[48,49,50,51,52,55,56,57,58,59,60,61,62,63,64,65,66,4,53,54,5],(kzz self),none⟩
theorem xzA (self:Expr×Expr->Option (Bool))(hself:azw Tryz.prog tb 20 (izp self)):A3 Tryz.f20 44 (BzQ self):=A4 (szu self hself) .nil (dzI self)
def dzA (self:Expr×Expr->Option (Bool))(x:Expr×Expr):Option (Bool):=brn (!decide (x.1.Kind=x.2.Kind)) (some false) (brn (bif true then !(decide (x.1.V.Kind=x.2.V.Kind)&&(decide (x.1.V.N.M=x.2.V.N.M)&&(decide (x.1.V.N.S=x.2.V.N.S)&&(decide (x.1.V.S=x.2.V.S)&&(decide (x.1.V.B=x.2.V.B)&&decide (x.1.V.E=x.2.V.E))))))else decide (x.1.V.Kind=x.2.V.Kind)&&(decide (x.1.V.N.M=x.2.V.N.M)&&(decide (x.1.V.N.S=x.2.V.N.S)&&(decide (x.1.V.S=x.2.V.S)&&(decide (x.1.V.B=x.2.V.B)&&decide (x.1.V.E=x.2.V.E)))))) (some false) (brn (bif true then !(decide (x.1.A.A.Row=x.2.A.A.Row)&&(decide (x.1.A.A.Col=x.2.A.A.Col)&&(decide (x.1.A.A.RelRow=x.2.A.A.RelRow)&&(decide (x.1.A.A.RelCol=x.2.A.A.RelCol)&&(decide (x.1.A.B.Row=x.2.A.B.Row)&&(decide (x.1.A.B.Col=x.2.A.B.Col)&&(decide (x.1.A.B.RelRow=x.2.A.B.RelRow)&&decide (x.1.A.B.RelCol=x.2.A.B.RelCol))))))))else decide (x.1.A.A.Row=x.2.A.A.Row)&&(decide (x.1.A.A.Col=x.2.A.A.Col)&&(decide (x.1.A.A.RelRow=x.2.A.A.RelRow)&&(decide (x.1.A.A.RelCol=x.2.A.A.RelCol)&&(decide (x.1.A.B.Row=x.2.A.B.Row)&&(decide (x.1.A.B.Col=x.2.A.B.Col)&&(decide (x.1.A.B.RelRow=x.2.A.B.RelRow)&&decide (x.1.A.B.RelCol=x.2.A.B.RelCol)))))))) (some false) (brn (!decide (x.1.Sheet=x.2.Sheet)) (some false) (brn (!decide (x.1.Op=x.2.Op)) (some false) (brn (!decide ((↑x.1.Kids.length:Int)=(↑x.2.Kids.length:Int))) (some false) (obnd ((kzz self) (aze x.1,aze x.2,0)) fun y=>osum y (fun y=>some true) fun y=>some y))))))
theorem Aza (self:Expr×Expr->Option (Bool))(hself:azw Tryz.prog tb 20 (izp self)):A0 20 (izp (dzA self)):=A2 Tryz.func20 (szu self hself) (.cons (xzA self hself) .nil)
def cz6:=iter dzA big
def izo:Fq:=izp cz6
theorem cz7:azw Tryz.prog tb 20 izo:=pzh (fzs Tryz.func20 (by kernel_rfl)) Aza
def czB (x:Cell2):Option (Int):=obnd (fzd x.At) fun y=>brn (!y) (some 12) (brn (decide (x.XF<0)) (some 1) (brn (decide (255<x.XF)) (some 1) (obnd (dzz x.V) fun y=>brn (!decide (y=0)) (some y) (brn (!x.Has) (obnd (cz6 (aze x.E,Expr.mk 0 (Val.mk 0 (Dec.mk 0 0) [] false 0) (Area.mk (Ref.mk 0 0 false false) (Ref.mk 0 0 false false)) 0 0 [])) fun y=>brn (!y) (some 1) (some 0)) (obnd (izB (aze x.E)) fun y=>brn (!decide (y.2=0)) (some y.2) (brn (decide (x.V.Kind=0)) (some 1) (some 0)))))))
def uzX:Fq:=⟨[(0,.val 131)],[(0,.val 3)],czB⟩
theorem xzJ:A0 156 uzX:=A1 Tryz.func156 (.cons mzg (.cons qzx (.cons cz7 (.cons nzH .nil))))
def nzI (x:Cell×Cell):Option (Bool):=brn (decide (x.1.Row<x.2.Row)) (some true) (brn (decide (x.1.Row=x.2.Row)) (some (decide (x.1.Col<x.2.Col))) (some false))
def uz3:Fq:=⟨[(0,.val 64),(1,.val 64)],[(0,.val 4)],nzI⟩
theorem tzk:A0 157 uz3:=A1 Tryz.func157 .nil
abbrev Dz1:List (Nat×Fq):=[(156,uzX),(157,uz3)]
theorem qzD:azk Tryz.prog tb (Dz1):=(.cons xzJ (.cons tzk .nil))
def bzY (back:List Cell2×Int->Option ((Unit)⊕(Int)))(x:List Cell2×Int):Option ((Unit)⊕(Int)):=brn (decide (x.2<(↑x.1.length:Int))) (obnd (idx x.1 x.2) fun y=>obnd (czB (Cell2.mk y.At y.XF y.V y.Has (aze y.E))) fun y=>brn (!decide (y=0)) (some (Sum.inr y)) (brn (decide (0<x.2)) (obnd (idx x.1 (i64.wrap (x.2-1))) fun y=>obnd (idx x.1 x.2) fun y_1=>obnd (nzI (y.At,y_1.At)) fun y=>brn (!y) (some (Sum.inr 6)) (back (x.1,i64.wrap (x.2+1)))) (back (x.1,i64.wrap (x.2+1))))) (some (Sum.inl PUnit.unit))
def gzc:=iter bzY big
def yz3:Cq:=⟨44,[(0,.val 117),(3,.val 3)],[(.exit 0,[]),(.ret,[(2,.val 3)])],rg 8 31 (rg 2 3 []),gzc,none⟩
theorem vzr:A3 Tryz.f89 44 yz3:=A4 qzD .nil bzY
def ezb (x:List Cell2):Option (Int):=brn (decide (4096<(↑x.length:Int))) (some 4) (obnd (gzc (x,0)) fun y=>osum y (fun y=>some 0) fun y=>some y)
def tzg:Fq:=⟨[(0,.val 117)],[(0,.val 3)],ezb⟩
theorem wzA:A0 89 tzg:=A2 Tryz.func89 qzD (.cons vzr .nil)
def jzM (back:List Group×List (Group)×Int->Option (List (Group)))(x:List Group×List (Group)×Int):Option (List (Group)):=brn (decide (x.2.2<(↑x.1.length:Int))) (obnd (idx x.1 x.2.2) fun y=>brn y.Array (obnd (idx x.1 x.2.2) fun y=>obnd (app 192 x.2.1 [Group.mk y.Array y.A y.B (aze y.E)]) fun zs=>back (x.1,zs,i64.wrap (x.2.2+1))) (back (x.1,x.2.1,i64.wrap (x.2.2+1)))) (some x.2.1)
def pzE:=iter jzM big
def Gza:Cq:=⟨36,[(0,.val 118),(3,.own 145),(4,.val 3)],[(.exit 0,[(3,.own 145)])],rg 3 20 [],pzE,none⟩
theorem Azg:A3 Tryz.f158 36 Gza:=A4 .nil .nil jzM
def pzn (x:List Group):Option (List (Group)):=obnd (pzE (x,[],0)) fun y=>some y
def zzU:Fq:=⟨[(0,.val 118)],[(0,.own 145)],pzn⟩
theorem BzX:A0 158 zzU:=A2 Tryz.func158 .nil (.cons Azg .nil)
abbrev DzT:List (Nat×Fq):=[(197,EzZ),(85,szX)]
theorem qzB:azk Tryz.prog tb (DzT):=(.cons mzg (.cons nzH .nil))
def iz5 (x:Group):Option (Bool):=obnd (fzd x.A) fun y=>brn (!y) (some true) (obnd (fzd x.B) fun y=>brn (!y) (some true) (brn (decide (x.B.Row<x.A.Row)) (some true) (some (decide (x.B.Col<x.A.Col)))))
def yz0:Cq:=⟨16,[(1,.ro 145)],[(.normal,[(32,.val 4)])],rg 5 28 [],(iz5),none⟩
theorem vzo:A5 Tryz.f199 16 yz0:=A6 qzB .nil
def kz3 (x:Group):Option (Int):=obnd (iz5 (Group.mk x.Array x.A x.B (aze x.E))) fun y=>brn y (some 12) (brn (decide (1024<i64.wrap (i64.wrap (i64.wrap (x.B.Row-x.A.Row)+1)*i64.wrap (i64.wrap (x.B.Col-x.A.Col)+1)))) (some 13) (brn (!x.Array) (brn (!decide (x.A.Col=x.B.Col)) (some 13) (brn (decide (x.A.Row=x.B.Row)) (some 13) (obnd (izB (aze x.E)) fun y=>some y.2))) (obnd (izB (aze x.E)) fun y=>some y.2)))
def tze:Fq:=⟨[(0,.val 145)],[(0,.val 3)],kz3⟩
theorem wzy:A0 199 tze:=A2 Tryz.func199 qzB (.cons vzo .nil)
def ozb (x:Group×Group):Option (Bool):=brn (decide (x.1.A.Row<=x.2.B.Row)) (brn (decide (x.2.A.Row<=x.1.B.Row)) (brn (decide (x.1.A.Col<=x.2.B.Col)) (some (decide (x.2.A.Col<=x.1.B.Col))) (some false)) (some false)) (some false)
def xzG:Fq:=⟨[(0,.val 145),(1,.val 145)],[(0,.val 4)],ozb⟩
theorem Azd:A0 200 xzG:=A1 Tryz.func200 .nil
abbrev BzU:List (Nat×Fq):=[(199,tze),(200,xzG)]
theorem izq:azk Tryz.prog tb (BzU):=(.cons wzy (.cons Azd .nil))
def fzu (back:List Group×Int->Option ((Unit)⊕(Int)))(x:List Group×Int):Option ((Unit)⊕(Int)):=brn (decide (x.2<(↑x.1.length:Int))) (obnd (idx x.1 x.2) fun y=>obnd (kz3 (Group.mk y.Array y.A y.B (aze y.E))) fun y=>brn (!decide (y=0)) (some (Sum.inr y)) (back (x.1,i64.wrap (x.2+1)))) (some (Sum.inl PUnit.unit))
def lzC:=iter fzu big
def xzB:Cq:=⟨28,[(0,.val 118),(3,.val 3)],[(.exit 0,[]),(.ret,[(2,.val 3)])],rg 7 14 (rg 2 3 []),lzC,none⟩
theorem uzR:A3 Tryz.f159 28 xzB:=A4 izq .nil fzu
def fzw (back:List Group×Int×Int->Option ((Unit)⊕(Int)))(x:List Group×Int×Int):Option ((Unit)⊕(Int)):=brn (decide (x.2.2<x.2.1)) (obnd (idx x.1 x.2.1) fun y=>obnd (idx x.1 x.2.2) fun y_1=>obnd (ozb (Group.mk y.Array y.A y.B (aze y.E),Group.mk y_1.Array y_1.A y_1.B (aze y_1.E))) fun y=>brn y (some (Sum.inr 13)) (back (x.1,x.2.1,i64.wrap (x.2.2+1)))) (some (Sum.inl PUnit.unit))
def lzE:=iter fzw big
def xzD:Cq:=⟨100,[(0,.val 118),(5,.val 3),(6,.val 3)],[(.exit 4,[]),(.ret,[(2,.val 3)])],rg 27 14 [2,6],lzE,none⟩
theorem uzT:A3 Tryz.f159 100 xzD:=A4 izq .nil fzw
def fzv (back:List Group×Int->Option ((Unit)⊕(Int)))(x:List Group×Int):Option ((Unit)⊕(Int)):=brn (decide (x.2<(↑x.1.length:Int))) (obnd (lzE (x.1,x.2,0)) fun y=>osum y (fun y=>back (x.1,i64.wrap (x.2+1))) fun y=>some (Sum.inr y)) (some (Sum.inl PUnit.unit))
def lzD:=iter fzv big
def xzC:Cq:=⟨76,[(0,.val 118),(5,.val 3)],[(.exit 2,[]),(.ret,[(2,.val 3)])],rg 21 20 [2,5,6],lzD,none⟩
theorem uzS:A3 Tryz.f159 76 xzC:=A4 izq (.cons uzT .nil) fzv
def kzB (x:List Group):Option (Int):=obnd (lzC (x,0)) fun y=>osum y (fun y=>obnd (lzD (x,0)) fun y=>osum y (fun y=>some 0) fun y=>some y) fun y=>some y
def szv:Fq:=⟨[(0,.val 118)],[(0,.val 3)],kzB⟩
theorem vzp:A0 159 szv:=A2 Tryz.func159 izq (.cons uzR (.cons uzS .nil))
def jzK (back:Group×List (Member)×Int×Int->Option (List (Member)))(x:Group×List (Member)×Int×Int):Option (List (Member)):=brn (decide (x.2.2.2<=x.1.B.Col)) (obnd (app 168 x.2.1 [Member.mk (Cell.mk x.2.2.1 x.2.2.2) (aze x.1.E)]) fun zs=>back (Group.mk x.1.Array x.1.A x.1.B (aze x.1.E),zs,x.2.2.1,i64.wrap (x.2.2.2+1))) (some x.2.1)
def mzh:=iter jzK big
def Fz8:Cq:=⟨60,[(1,.ro 145),(3,.own 288),(4,.val 3),(5,.val 3)],[(.exit 2,[(3,.own 288)])],rg 19 16 [3,5],mzh,none⟩
theorem Azc:A3 Tryz.f160 60 Fz8:=A4 .nil .nil jzK
def jzJ (back:Group×List (Member)×Int->Option (List (Member)))(x:Group×List (Member)×Int):Option (List (Member)):=brn (decide (x.2.2<=x.1.B.Row)) (obnd (mzh (Group.mk x.1.Array x.1.A x.1.B (aze x.1.E),x.2.1,x.2.2,x.1.A.Col)) fun y=>back (Group.mk x.1.Array x.1.A x.1.B (aze x.1.E),y,i64.wrap (x.2.2+1))) (some x.2.1)
def pzB:=iter jzJ big
def Fz7:Cq:=⟨36,[(1,.ro 145),(3,.own 288),(4,.val 3)],[(.exit 0,[(3,.own 288)])],rg 9 26 (rg 3 3 []),pzB,none⟩
theorem Azb:A3 Tryz.f160 36 Fz7:=A4 .nil (.cons Azc .nil) jzJ
def mzL (x:Group):Option (List (Member)):=obnd (pzB (Group.mk x.Array x.A x.B (aze x.E),[],x.A.Row)) fun y=>some y
def zzT:Fq:=⟨[(0,.val 145)],[(0,.own 288)],mzL⟩
theorem BzW:A0 160 zzT:=A2 Tryz.func160 .nil (.cons Azb .nil)
def jzN (back:List Cell2×Cell×Int->Option ((Unit)⊕(Int)))(x:List Cell2×Cell×Int):Option ((Unit)⊕(Int)):=brn (decide (x.2.2<(↑x.1.length:Int))) (obnd (idx x.1 x.2.2) fun y=>brn (bif false then !(decide (y.At.Row=x.2.1.Row)&&decide (y.At.Col=x.2.1.Col))else decide (y.At.Row=x.2.1.Row)&&decide (y.At.Col=x.2.1.Col)) (some (Sum.inr x.2.2)) (back (x.1,x.2.1,i64.wrap (x.2.2+1)))) (some (Sum.inl PUnit.unit))
def pzF:=iter jzN big
def Gzb:Cq:=⟨28,[(0,.val 117),(3,.ro 64),(5,.val 3)],[(.exit 0,[]),(.ret,[(4,.val 3)])],rg 4 16 [],pzF,none⟩
theorem Azh:A3 Tryz.f161 28 Gzb:=A4 .nil .nil jzN
def pzo (x:List Cell2×Cell):Option (Int):=obnd (pzF (x.1,x.2,0)) fun y=>osum y (fun y=>some (-1)) fun y=>some y
def zzV:Fq:=⟨[(0,.val 117),(1,.val 64)],[(0,.val 3)],pzo⟩
theorem BzY:A0 161 zzV:=A2 Tryz.func161 .nil (.cons Azh .nil)
def qzC (x:Group×Cell):Option (Bool):=brn (decide (x.1.A.Row<=x.2.Row)) (brn (decide (x.2.Row<=x.1.B.Row)) (brn (decide (x.1.A.Col<=x.2.Col)) (some (decide (x.2.Col<=x.1.B.Col))) (some false)) (some false)) (some false)
def yz1:Fq:=⟨[(0,.val 145),(1,.val 64)],[(0,.val 4)],qzC⟩
theorem vz8:A0 103 yz1:=A1 Tryz.func103 .nil
abbrev Kzf:List (Nat×Fq):=[(103,yz1)]
theorem tzm:azk Tryz.prog tb (Kzf):=(.cons vz8 .nil)
def izU (back:List Group×Cell×Int->Option ((Unit)⊕(Bool)))(x:List Group×Cell×Int):Option ((Unit)⊕(Bool)):=brn (decide (x.2.2<(↑x.1.length:Int))) (obnd (idx x.1 x.2.2) fun y=>brn y.Array (obnd (idx x.1 x.2.2) fun y=>obnd (qzC (Group.mk y.Array y.A y.B (aze y.E),x.2.1)) fun y=>brn y (some (Sum.inr true)) (back (x.1,x.2.1,i64.wrap (x.2.2+1)))) (back (x.1,x.2.1,i64.wrap (x.2.2+1)))) (some (Sum.inl PUnit.unit))
def ozR:=iter izU big
def Dz9:Cq:=⟨28,[(0,.val 118),(3,.ro 64),(5,.val 3)],[(.exit 0,[]),(.ret,[(4,.val 4)])],rg 4 21 [],ozR,none⟩
theorem zzb:A3 Tryz.f201 28 Dz9:=A4 tzm .nil izU
def ozg (x:List Group×Cell):Option (Bool):=obnd (ozR (x.1,x.2,0)) fun y=>osum y (fun y=>some false) fun y=>some y
def xzS:Fq:=⟨[(0,.val 118),(1,.val 64)],[(0,.val 4)],ozg⟩
theorem Azr:A0 201 xzS:=A2 Tryz.func201 tzm (.cons zzb .nil)
abbrev OzJ:List (Nat×Fq):=[(20,izo),(1099511627792,mutS)]
theorem gz6:azk Tryz.prog tb (OzJ):=(.cons cz7 (.consK kzv .nil))
def lzG (back:List Member×Int×List (Int)×Int->Option (List (Int)))(x:List Member×Int×List (Int)×Int):Option (List (Int)):=brn (decide (x.2.2.2<(↑x.1.length:Int))) (obnd (idx x.1 x.2.2.2) fun y=>brn (decide (y.At.Col=x.2.1)) (obnd (app 8 x.2.2.1 [x.2.2.2]) fun zs=>back (x.1,x.2.1,zs,i64.wrap (x.2.2.2+1))) (back (x.1,x.2.1,x.2.2.1,i64.wrap (x.2.2.2+1)))) (some x.2.2.1)
def ozc:=iter lzG big
def Jz6:Cq:=⟨76,[(0,.val 284),(6,.val 3),(7,.own 3),(8,.val 3)],[(.exit 2,[(7,.own 3)])],rg 21 18 [7,8],ozc,none⟩
theorem DzV:A3 Tryz.f202 76 Jz6:=A4 gz6 .nil lzG
def lzI (back:List Member×List Int×Int×Int->Option (Int))(x:List Member×List Int×Int×Int):Option (Int):=brn (decide (i64.wrap (x.2.2.1+x.2.2.2)<(↑x.2.1.length:Int))) (brn (decide (x.2.2.2<1024)) (obnd (idx x.2.1 (i64.wrap (x.2.2.1+x.2.2.2))) fun y=>obnd (idx x.1 y) fun y=>obnd (idx x.2.1 x.2.2.1) fun y_1=>obnd (idx x.1 y_1) fun y_2=>brn (decide (y.At.Row=i64.wrap (y_2.At.Row+x.2.2.2))) (obnd (idx x.2.1 (i64.wrap (x.2.2.1+x.2.2.2))) fun y=>obnd (idx x.1 y) fun y=>obnd (idx x.2.1 x.2.2.1) fun y_3=>obnd (idx x.1 y_3) fun y_4=>obnd (cz6 (aze y.E,aze y_4.E)) fun y=>brn y (back (x.1,x.2.1,x.2.2.1,i64.wrap (x.2.2.2+1))) (some x.2.2.2)) (some x.2.2.2)) (some x.2.2.2)) (some x.2.2.2)
def ozd:=iter lzI big
def Jz8:Cq:=⟨132,[(0,.val 284),(7,.val 23),(9,.val 3),(10,.val 3)],[(.exit 6,[(10,.val 3)])],rg 43 58 [10],ozd,none⟩
theorem DzX:A3 Tryz.f202 132 Jz8:=A4 gz6 .nil lzI
def lzJ (back:List (Bool)×List Int×Int×Int×Int->Option (List (Bool)))(x:List (Bool)×List Int×Int×Int×Int):Option (List (Bool)):=brn (decide (x.2.2.2.2<i64.wrap (x.2.2.1+x.2.2.2.1))) (obnd (idx x.2.1 x.2.2.2.2) fun y=>obnd (inb x.1.length y) fun k=>obnd (nth x.1 (0+k)) fun y=>back (x.1.set (0+k) true,x.2.1,x.2.2.1,x.2.2.2.1,i64.wrap (x.2.2.2.2+1))) (some x.1)
def rzD:=iter lzJ big
def Jz9:Cq:=⟨164,[(5,.wr 4),(7,.val 23),(9,.val 3),(10,.val 3),(11,.val 3)],[(.exit 8,[(5,.wr 4)])],rg 104 13 [11],rzD,none⟩
theorem DzY:A3 Tryz.f202 164 Jz9:=A4 gz6 .nil lzJ
def lzH (back:List Member×List (Group)×List (Bool)×List Int×Int->Option (List (Group)×List (Bool)))(x:List Member×List (Group)×List (Bool)×List Int×Int):Option (List (Group)×List (Bool)):=brn (decide (x.2.2.2.2<(↑x.2.2.2.1.length:Int))) (obnd (ozd (x.1,x.2.2.2.1,x.2.2.2.2,1)) fun y=>brn (decide (1<y)) (obnd (rzD (x.2.2.1,x.2.2.2.1,x.2.2.2.2,y,x.2.2.2.2)) fun y_1=>obnd (idx x.2.2.2.1 x.2.2.2.2) fun y_2=>obnd (idx x.1 y_2) fun y_3=>obnd (idx x.2.2.2.1 (i64.wrap (i64.wrap (x.2.2.2.2+y)-1))) fun y_4=>obnd (idx x.1 y_4) fun y_5=>obnd (idx x.2.2.2.1 x.2.2.2.2) fun y_6=>obnd (idx x.1 y_6) fun y_7=>obnd (app 192 x.2.1 [Group.mk false y_3.At y_5.At (aze y_7.E)]) fun zs=>back (x.1,zs,y_1,x.2.2.2.1,i64.wrap (x.2.2.2.2+y))) (back (x.1,x.2.1,x.2.2.1,x.2.2.2.1,i64.wrap (x.2.2.2.2+y)))) (some (x.2.1,x.2.2.1))
def rzC:=iter lzH big
def Jz7:Cq:=⟨116,[(0,.val 284),(4,.own 145),(5,.wr 4),(7,.val 23),(9,.val 3)],[(.exit 4,[(4,.own 145),(5,.wr 4)])],rg 39 112 (rg 9 3 [4]),rzC,none⟩
theorem DzW:A3 Tryz.f202 116 Jz7:=A4 gz6 (.cons DzX (.cons DzY .nil)) lzH
def lzF (back:List Member×List (Group)×List (Bool)×Int->Option (List (Group)×List (Bool)))(x:List Member×List (Group)×List (Bool)×Int):Option (List (Group)×List (Bool)):=brn (decide (x.2.2.2<256)) (obnd (ozc (x.1,x.2.2.2,[],0)) fun y=>obnd (rzC (x.1,x.2.1,x.2.2.1,y,0)) fun y=>back (x.1,y.1,y.2,i64.wrap (x.2.2.2+1))) (some (x.2.1,x.2.2.1))
def rzB:=iter lzF big
def Jz5:Cq:=⟨44,[(0,.val 284),(4,.own 145),(5,.wr 4),(6,.val 3)],[(.exit 0,[(4,.own 145),(5,.own 4)])],rg 17 134 (rg 6 6 [4]),rzB,none⟩
theorem DzU:A3 Tryz.f202 44 Jz5:=A4 gz6 (.cons DzV (.cons DzW .nil)) lzF
def lzK (back:List Member×List Bool×List (Member)×Int->Option (List (Member)))(x:List Member×List Bool×List (Member)×Int):Option (List (Member)):=brn (decide (x.2.2.2<(↑x.1.length:Int))) (obnd (idx x.2.1 x.2.2.2) fun y=>brn (!y) (obnd (idx x.1 x.2.2.2) fun y=>obnd (app 168 x.2.2.1 [Member.mk y.At (aze y.E)]) fun zs=>back (x.1,x.2.1,zs,i64.wrap (x.2.2.2+1))) (back (x.1,x.2.1,x.2.2.1,i64.wrap (x.2.2.2+1)))) (some x.2.2.1)
def rzE:=iter lzK big
def Kza:Cq:=⟨220,[(0,.val 284),(5,.val 350),(12,.own 288),(13,.val 3)],[(.exit 10,[(12,.own 288)])],rg 151 18 [12,13],rzE,none⟩
theorem DzZ:A3 Tryz.f202 220 Kza:=A4 gz6 .nil lzK
def rz7 (x:List Member):Option (List (Group)×List (Member)):=obnd (uzF 1 false (↑x.length:Int) (↑x.length:Int)) fun xs=>obnd (rzB (x,[],xs,0)) fun y=>obnd (rzE (x,y.2,[],0)) fun y_1=>some (y.1,y_1)
def Ez2:Fq:=⟨[(0,.val 284)],[(0,.own 145),(1,.own 288)],rz7⟩
theorem Fz9:A0 202 Ez2:=A2 Tryz.func202 gz6 (.cons DzU (.cons DzZ .nil))
abbrev Kzc:List (Nat×Fq):=[(201,xzS),(202,Ez2)]
theorem tzi:azk Tryz.prog tb (Kzc):=(.cons Azr (.cons Fz9 .nil))
def izR (back:List Cell2×List Group×List (Member)×Int->Option (List (Member)))(x:List Cell2×List Group×List (Member)×Int):Option (List (Member)):=brn (decide (x.2.2.2<(↑x.1.length:Int))) (obnd (idx x.1 x.2.2.2) fun y=>brn y.Has (obnd (idx x.1 x.2.2.2) fun y=>obnd (ozg (x.2.1,y.At)) fun y=>brn (!y) (obnd (idx x.1 x.2.2.2) fun y=>obnd (idx x.1 x.2.2.2) fun y_1=>obnd (app 168 x.2.2.1 [Member.mk y.At (aze y_1.E)]) fun zs=>back (x.1,x.2.1,zs,i64.wrap (x.2.2.2+1))) (back (x.1,x.2.1,x.2.2.1,i64.wrap (x.2.2.2+1)))) (back (x.1,x.2.1,x.2.2.1,i64.wrap (x.2.2.2+1)))) (some x.2.2.1)
def ozO:=iter izR big
def Dz5:Cq:=⟨36,[(0,.val 117),(1,.val 118),(5,.own 288),(6,.val 3)],[(.exit 0,[(5,.own 288)])],rg 9 35 [5,6],ozO,none⟩
theorem yz5:A3 Tryz.f162 36 Dz5:=A4 tzi .nil izR
def rzF (x:List Cell2×List Group):Option (List (Group)):=obnd (ozO (x.1,x.2,[],0)) fun y=>obnd (rz7 y) fun y=>obnd (app 192 [] x.2) fun zs=>obnd (app 192 zs y.1) fun zs=>some zs
def xzK:Fq:=⟨[(0,.val 117),(1,.val 118)],[(0,.own 145)],rzF⟩
theorem Azj:A0 162 xzK:=A2 Tryz.func162 tzi (.cons yz5 .nil)
def jzL (x:Group×Group):Option (Bool):=brn (decide (x.1.Array=x.2.Array)) (brn (bif false then !(decide (x.1.A.Row=x.2.A.Row)&&decide (x.1.A.Col=x.2.A.Col))else decide (x.1.A.Row=x.2.A.Row)&&decide (x.1.A.Col=x.2.A.Col)) (brn (bif false then !(decide (x.1.B.Row=x.2.B.Row)&&decide (x.1.B.Col=x.2.B.Col))else decide (x.1.B.Row=x.2.B.Row)&&decide (x.1.B.Col=x.2.B.Col)) (obnd (cz6 (aze x.1.E,aze x.2.E)) fun y=>some y) (some false)) (some false)) (some false)
def pzC:Fq:=⟨[(0,.val 145),(1,.val 145)],[(0,.val 4)],jzL⟩
theorem pz1:A0 102 pzC:=A1 Tryz.func102 (.cons cz7 .nil)
abbrev LzZ:List (Nat×Fq):=[(158,zzU),(159,szv),(157,uz3),(160,zzT),(161,zzV),(20,izo),(162,xzK),(102,pzC)]
theorem mzl:azk Tryz.prog tb (LzZ):=(.cons BzX (.cons vzp (.cons tzk (.cons BzW (.cons BzY (.cons cz7 (.cons Azj (.cons pz1 .nil))))))))
def jzP (back:Sheet×List Group×Int×List Member×Int->Option ((Unit)⊕(Bool)))(x:Sheet×List Group×Int×List Member×Int):Option ((Unit)⊕(Bool)):=brn (decide (x.2.2.2.2<(↑x.2.2.2.1.length:Int))) (obnd (idx x.2.2.2.1 x.2.2.2.2) fun y=>obnd (pzo (x.1.Cells,y.At)) fun y=>brn (decide (y<0)) (some (Sum.inr false)) (obnd (idx x.1.Cells y) fun y_1=>brn (!y_1.Has) (some (Sum.inr false)) (obnd (idx x.1.Cells y) fun y=>obnd (idx x.2.1 x.2.2.1) fun y_2=>obnd (cz6 (aze y.E,aze y_2.E)) fun y=>brn (!y) (some (Sum.inr false)) (back (x.1,x.2.1,x.2.2.1,x.2.2.2.1,i64.wrap (x.2.2.2.2+1)))))) (some (Sum.inl PUnit.unit))
def mzm:=iter jzP big
def Gzh:Cq:=⟨100,[(1,.ro 120),(3,.val 118),(4,.val 3),(5,.val 284),(6,.val 3)],[(.exit 2,[]),(.ret,[(2,.val 4)])],rg 44 40 [2,6,7],mzm,none⟩
theorem Azp:A3 Tryz.f90 100 Gzh:=A4 mzl .nil jzP
def jzO (back:Sheet×List Group×Int->Option ((Unit)⊕(Bool)))(x:Sheet×List Group×Int):Option ((Unit)⊕(Bool)):=brn (decide (x.2.2<(↑x.2.1.length:Int))) (brn (decide (0<x.2.2)) (obnd (idx x.2.1 (i64.wrap (x.2.2-1))) fun y=>obnd (idx x.2.1 x.2.2) fun y_1=>obnd (nzI (y.A,y_1.A)) fun y=>brn (!y) (some (Sum.inr false)) (obnd (idx x.2.1 x.2.2) fun y=>obnd (mzL (Group.mk y.Array y.A y.B (aze y.E))) fun y=>obnd (mzm (x.1,x.2.1,x.2.2,y,0)) fun y=>osum y (fun y=>back (x.1,x.2.1,i64.wrap (x.2.2+1))) fun y=>some (Sum.inr y))) (obnd (idx x.2.1 x.2.2) fun y=>obnd (mzL (Group.mk y.Array y.A y.B (aze y.E))) fun y=>obnd (mzm (x.1,x.2.1,x.2.2,y,0)) fun y=>osum y (fun y=>back (x.1,x.2.1,i64.wrap (x.2.2+1))) fun y=>some (Sum.inr y))) (some (Sum.inl PUnit.unit))
def pzG:=iter jzO big
def Gzg:Cq:=⟨52,[(1,.ro 120),(3,.val 118),(4,.val 3)],[(.exit 0,[]),(.ret,[(2,.val 4)])],rg 16 68 (rg 4 4 [2]),pzG,none⟩
theorem Azo:A3 Tryz.f90 52 Gzg:=A4 mzl (.cons Azp .nil) jzO
def jzQ (back:Sheet×List Group×Int->Option ((Unit)⊕(Bool)))(x:Sheet×List Group×Int):Option ((Unit)⊕(Bool)):=brn (decide (x.2.2<(↑x.2.1.length:Int))) (obnd (idx x.2.1 x.2.2) fun y=>obnd (idx x.1.Groups x.2.2) fun y_1=>obnd (jzL (Group.mk y.Array y.A y.B (aze y.E),Group.mk y_1.Array y_1.A y_1.B (aze y_1.E))) fun y=>brn (!y) (some (Sum.inr false)) (back (x.1,x.2.1,i64.wrap (x.2.2+1)))) (some (Sum.inl PUnit.unit))
def pzH:=iter jzQ big
def Gzi:Cq:=⟨172,[(1,.ro 120),(8,.val 118),(9,.val 3)],[(.exit 4,[]),(.ret,[(2,.val 4)])],rg 94 17 [2,9],pzH,none⟩
theorem Azq:A3 Tryz.f90 172 Gzi:=A4 mzl .nil jzQ
def pzp (x:Sheet):Option (Bool):=obnd (pzn x.Groups) fun y=>obnd (kzB y) fun y_1=>brn (!decide (y_1=0)) (some false) (obnd (pzG (x,y,0)) fun y_2=>osum y_2 (fun y_3=>obnd (rzF (x.Cells,y)) fun y=>brn (!decide ((↑(List.length y):Int)=(↑x.Groups.length:Int))) (some false) (obnd (pzH (x,y,0)) fun y=>osum y (fun y=>some true) fun y=>some y)) fun y=>some y)
def zzW:Fq:=⟨[(0,.val 120)],[(0,.val 4)],pzp⟩
theorem Bz9:A0 90 zzW:=A2 Tryz.func90 mzl (.cons Azo (.cons Azq .nil))
abbrev Dz2:List (Nat×Fq):=[(89,tzg),(90,zzW)]
theorem qzE:azk Tryz.prog tb (Dz2):=(.cons wzA (.cons Bz9 .nil))
def gze (back:Sheet×Int->Option ((Unit)⊕(Int)))(x:Sheet×Int):Option ((Unit)⊕(Int)):=brn (decide (x.2<(↑x.1.Rows.length:Int))) (obnd (idx x.1.Rows x.2) fun y=>brn (decide (y.Row<0)) (some (Sum.inr 12)) (brn (decide (65536<=y.Row)) (some (Sum.inr 12)) (brn (decide (y.Height<0)) (some (Sum.inr 1)) (brn (decide (32767<y.Height)) (some (Sum.inr 1)) (brn (decide (0<x.2)) (obnd (idx x.1.Rows (i64.wrap (x.2-1))) fun y_1=>brn (decide (y.Row<=y_1.Row)) (some (Sum.inr 6)) (back (x.1,i64.wrap (x.2+1)))) (back (x.1,i64.wrap (x.2+1)))))))) (some (Sum.inl PUnit.unit))
def mzi:=iter gze big
def yz4:Cq:=⟨44,[(1,.ro 120),(3,.val 3)],[(.exit 0,[]),(.ret,[(2,.val 3)])],rg 10 42 (rg 2 3 []),mzi,none⟩
theorem vzs:A3 Tryz.f39 44 yz4:=A4 qzE .nil gze
def bzw (x:Sheet):Option (Int):=brn (decide (4096<(↑x.Rows.length:Int))) (some 4) (obnd (mzi (x,0)) fun y=>osum y (fun y=>obnd (ezb x.Cells) fun y=>brn (!decide (y=0)) (some y) (obnd (pzp x) fun y=>brn (!y) (some 13) (some 0))) fun y=>some y)
def tzh:Fq:=⟨[(0,.val 120)],[(0,.val 3)],bzw⟩
theorem wzI:A0 39 tzh:=A2 Tryz.func39 qzE (.cons vzs .nil)
def gzf (back:Sheet×List (List UInt8)×Int->Option (List (List UInt8)))(x:Sheet×List (List UInt8)×Int):Option (List (List UInt8)):=brn (decide (x.2.2<(↑x.1.Cells.length:Int))) (obnd (idx x.1.Cells x.2.2) fun y=>brn (!y.Has) (obnd (idx x.1.Cells x.2.2) fun y=>brn (decide (y.V.Kind=2)) (obnd (idx x.1.Cells x.2.2) fun y=>obnd (app 16 x.2.1 [y.V.S]) fun zs=>back (x.1,zs,i64.wrap (x.2.2+1))) (back (x.1,x.2.1,i64.wrap (x.2.2+1)))) (back (x.1,x.2.1,i64.wrap (x.2.2+1)))) (some x.2.1)
def mzk:=iter gzf big
def yz7:Cq:=⟨36,[(1,.ro 120),(3,.own 9),(4,.val 3)],[(.exit 0,[(3,.own 9)])],rg 3 36 [],mzk,none⟩
theorem vzu:A3 Tryz.f91 36 yz7:=A4 .nil .nil gzf
def kz4 (x:Sheet):Option (List (List UInt8)):=obnd (mzk (x,[],0)) fun y=>some y
def tzj:Fq:=⟨[(0,.val 120)],[(0,.own 9)],kz4⟩
theorem wzM:A0 91 tzj:=A2 Tryz.func91 .nil (.cons vzu .nil)
abbrev Izw:List (Nat×Fq):=[(91,tzj)]
theorem szy:azk Tryz.prog tb (Izw):=(.cons wzM .nil)
def hz3 (back:List Sheet×List (List UInt8)×Int->Option (List (List UInt8)))(x:List Sheet×List (List UInt8)×Int):Option (List (List UInt8)):=brn (decide (x.2.2<(↑x.1.length:Int))) (obnd (idx x.1 x.2.2) fun y=>obnd (kz4 y) fun y=>obnd (app 16 x.2.1 y) fun zs=>back (x.1,zs,i64.wrap (x.2.2+1))) (some x.2.1)
def nzJ:=iter hz3 big
def Bz8:Cq:=⟨36,[(0,.val 30),(3,.own 9),(4,.val 3)],[(.exit 0,[(3,.own 9)])],rg 3 15 [],nzJ,none⟩
theorem xzQ:A3 Tryz.f41 36 Bz8:=A4 szy .nil hz3
def izv (x:List Sheet):Option (List (List UInt8)):=obnd (nzJ (x,[],0)) fun y=>some y
def wza:Fq:=⟨[(0,.val 30)],[(0,.own 9)],izv⟩
theorem yz9:A0 41 wza:=A2 Tryz.func41 szy (.cons xzQ .nil)
abbrev OzL:List (Nat×Fq):=[(84,mz1)]
theorem ozh:azk Tryz.prog tb (OzL):=(.cons jzR .nil)
def fzA (back:List (List UInt8)×Table×Int->Option (((Unit)×Table)⊕((List (Int)×Int)×Table)))(x:List (List UInt8)×Table×Int):Option (((Unit)×Table)⊕((List (Int)×Int)×Table)):=brn (decide (x.2.2<(↑x.1.length:Int))) (obnd (idx x.1 x.2.2) fun y=>obnd (hzC y) fun y=>brn (!decide (y.2=0)) (some (Sum.inr (([],y.2),Table.mk [] 0))) (back (x.1,x.2.1,i64.wrap (x.2.2+1)))) (some (Sum.inl ((),x.2.1)))
def ozi:=iter fzA big
def Kzg:Cq:=⟨44,[(0,.val 22),(2,.ref 26),(7,.val 3)],[(.exit 0,[]),(.ret,[(3,.own 3),(4,.val 3)])],rg 12 18 (rg 7 3 [3,4]),ozi,none⟩
theorem Eza:A3 Tryz.f40 44 Kzg:=A4 ozh .nil fzA
def fzC (back:List (List UInt8)×Table×Int×Int->Option (Int))(x:List (List UInt8)×Table×Int×Int):Option (Int):=brn (decide (x.2.2.2<(↑x.2.1.Texts.length:Int))) (obnd (idx x.2.1.Texts x.2.2.2) fun y=>obnd (idx x.1 x.2.2.1) fun y_1=>brn (!decide (y=y_1)) (back (x.1,x.2.1,x.2.2.1,i64.wrap (x.2.2.2+1))) (some x.2.2.2)) (some x.2.2.2)
def ozk:=iter fzC big
def Kzi:Cq:=⟨116,[(0,.val 22),(5,.ro 26),(10,.val 3),(11,.val 3)],[(.exit 4,[(11,.val 3)])],rg 36 19 [11],ozk,none⟩
theorem Ezc:A3 Tryz.f40 116 Kzi:=A4 ozh .nil fzC
def fzB (back:List (List UInt8)×List (List UInt8)×Table×Table×List (Int)×Int->Option (((List (List UInt8)×List (Int))×(Table×Table))⊕((List (List UInt8)×List (Int)×Int)×(Table×Table))))(x:List (List UInt8)×List (List UInt8)×Table×Table×List (Int)×Int):Option (((List (List UInt8)×List (Int))×(Table×Table))⊕((List (List UInt8)×List (Int)×Int)×(Table×Table))):=brn (decide (x.2.2.2.2.2<(↑x.2.1.length:Int))) (obnd (ozk (x.2.1,Table.mk x.1 x.2.2.2.1.Uses,x.2.2.2.2.2,0)) fun y=>brn (decide (y=(↑x.1.length:Int))) (brn (decide (1024<=y)) (some (Sum.inr ((x.1,[],4),Table.mk [] 0,Table.mk x.1 x.2.2.2.1.Uses))) (obnd (idx x.2.1 x.2.2.2.2.2) fun y_1=>obnd (app 16 x.1 [y_1]) fun zs=>obnd (app 8 x.2.2.2.2.1 [y]) fun zs_1=>back (zs,x.2.1,x.2.2.1,Table.mk zs (i64.wrap (x.2.2.2.1.Uses+1)),zs_1,i64.wrap (x.2.2.2.2.2+1)))) (obnd (app 8 x.2.2.2.2.1 [y]) fun zs=>back (x.1,x.2.1,x.2.2.1,Table.mk x.1 (i64.wrap (x.2.2.2.1.Uses+1)),zs,i64.wrap (x.2.2.2.2.2+1)))) (some (Sum.inl ((x.1,x.2.2.2.2.1),x.2.2.1,Table.mk x.1 x.2.2.2.1.Uses)))
def ozj:=iter fzB big
def Kzh:Cq:=⟨92,[(4294967301,.own 9),(0,.val 22),(2,.ref 26),(5,.ref 26),(6,.own 3),(10,.val 3)],[(.exit 2,[(4294967301,.own 9),(6,.own 3)]),(.ret,[(4294967301,.own 9),(3,.own 3),(4,.val 3)])],rg 30 50 [3,4,6,10,11],ozj,none⟩
theorem Ezb:A3 Tryz.f40 92 Kzh:=A4 ozh (.cons Ezc .nil) fzB
def jzk (x:List (List UInt8)):Option (Table×List (Int)×Int):=obnd (ozi (x,Table.mk [] 0,0)) fun y=>osum y (fun y=>obnd (ozj ([],x,y.2,Table.mk [] 0,[],0)) fun y=>osum y (fun y=>some (Table.mk y.1.1 y.2.2.Uses,y.1.2,0)) fun y=>some (y.2.1,y.1.2)) fun y=>some (y.2,y.1)
def Ez4:Fq:=⟨[(0,.val 22)],[(0,.val 26),(1,.own 3),(2,.val 3)],jzk⟩
theorem Gzj:A0 40 Ez4:=A2 Tryz.func40 ozh (.cons Eza (.cons Ezb .nil))
def izS (back:List (List UInt8)×List (List UInt8)×Int->Option ((Unit)⊕(Bool)))(x:List (List UInt8)×List (List UInt8)×Int):Option ((Unit)⊕(Bool)):=brn (decide (x.2.2<(↑x.1.length:Int))) (obnd (idx x.1 x.2.2) fun y=>obnd (idx x.2.1 x.2.2) fun y_1=>brn (!decide (y=y_1)) (some (Sum.inr false)) (back (x.1,x.2.1,i64.wrap (x.2.2+1)))) (some (Sum.inl PUnit.unit))
def ozP:=iter izS big
def Dz7:Cq:=⟨44,[(0,.val 22),(1,.val 22),(5,.val 3)],[(.exit 0,[]),(.ret,[(4,.val 4)])],rg 11 15 [4,5],ozP,none⟩
theorem yz8:A3 Tryz.f42 44 Dz7:=A4 .nil .nil izS
def ezP (x:List (List UInt8)×List (List UInt8)):Option (Bool):=brn (!decide ((↑x.1.length:Int)=(↑x.2.length:Int))) (some false) (obnd (ozP (x.1,x.2,0)) fun y=>osum y (fun y=>some true) fun y=>some y)
def rzH:Fq:=⟨[(0,.val 22),(1,.val 22)],[(0,.val 4)],ezP⟩
theorem qz7:A0 42 rzH:=A2 Tryz.func42 .nil (.cons yz8 .nil)
abbrev NzG:List (Nat×Fq):=[(38,qz6),(39,tzh),(41,wza),(40,Ez4),(42,rzH)]
theorem kzC:azk Tryz.prog tb (NzG):=(.cons uzY (.cons wzI (.cons yz9 (.cons Gzj (.cons qz7 .nil)))))
def ezY (back:Book×Int->Option ((Unit)⊕(Int)))(x:Book×Int):Option ((Unit)⊕(Int)):=brn (decide (x.2<(↑x.1.Sheets.length:Int))) (obnd (idx x.1.Sheets x.2) fun y=>obnd (bzw y) fun y=>brn (!decide (y=0)) (some (Sum.inr y)) (back (x.1,i64.wrap (x.2+1)))) (some (Sum.inl PUnit.unit))
def nzi:=iter ezY big
def Izo:Cq:=⟨68,[(1,.ro 32),(4,.val 3)],[(.exit 0,[]),(.ret,[(2,.val 3)])],rg 26 16 (rg 2 3 []),nzi,none⟩
theorem Bz0:A3 Tryz.f10 68 Izo:=A4 kzC .nil ezY
def ezZ (back:Book×Int×Int->Option (Int))(x:Book×Int×Int):Option (Int):=brn (decide (x.2.2<(↑x.1.Sheets.length:Int))) (obnd (idx x.1.Sheets x.2.2) fun y=>back (x.1,i64.wrap (x.2.1+(↑y.Cells.length:Int)),i64.wrap (x.2.2+1))) (some x.2.1)
def izs:=iter ezZ big
def Izp:Cq:=⟨124,[(1,.ro 32),(5,.val 3),(6,.val 3)],[(.exit 2,[(5,.val 3)])],rg 42 16 [5,6],izs,none⟩
theorem Bz1:A3 Tryz.f10 124 Izp:=A4 kzC .nil ezZ
def ez1 (back:Book×Int×Int->Option ((Unit)⊕(Int)))(x:Book×Int×Int):Option ((Unit)⊕(Int)):=obnd (idx x.1.Sheets x.2.1) fun y=>brn (decide (x.2.2<(↑y.Cells.length:Int))) (obnd (idx x.1.Sheets x.2.1) fun y=>obnd (idx y.Cells x.2.2) fun y=>brn (decide ((↑x.1.Globals.XFs.length:Int)<=y.XF)) (brn (!decide (y.XF=0)) (some (Sum.inr 1)) (back (x.1,x.2.1,i64.wrap (x.2.2+1)))) (back (x.1,x.2.1,i64.wrap (x.2.2+1)))) (some (Sum.inl PUnit.unit))
def nzj:=iter ez1 big
def Izr:Cq:=⟨196,[(1,.ro 32),(7,.val 3),(8,.val 3)],[(.exit 6,[]),(.ret,[(2,.val 3)])],rg 67 31 [2,8,9],nzj,none⟩
theorem Bz3:A3 Tryz.f10 196 Izr:=A4 kzC .nil ez1
def ez0 (back:Book×Int->Option ((Unit)⊕(Int)))(x:Book×Int):Option ((Unit)⊕(Int)):=brn (decide (x.2<(↑x.1.Sheets.length:Int))) (obnd (nzj (x.1,x.2,0)) fun y=>osum y (fun y=>back (x.1,i64.wrap (x.2+1))) fun y=>some (Sum.inr y)) (some (Sum.inl PUnit.unit))
def izt:=iter ez0 big
def Izq:Cq:=⟨172,[(1,.ro 32),(7,.val 3)],[(.exit 4,[]),(.ret,[(2,.val 3)])],rg 60 38 (rg 7 3 [2]),izt,none⟩
theorem Bz2:A3 Tryz.f10 172 Izq:=A4 kzC (.cons Bz3 .nil) ez0
def gzd (x:Book):Option (Int):=obnd (fzc x.Globals) fun y=>brn (!decide (y=0)) (some y) (brn (!decide ((↑x.Sheets.length:Int)=(↑x.Globals.Sheets.length:Int))) (some 1) (obnd (nzi (x,0)) fun y=>osum y (fun y=>obnd (izs (x,0,0)) fun y=>brn (decide (4096<y)) (some 4) (obnd (izt (x,0)) fun y=>osum y (fun y=>obnd (izv x.Sheets) fun y=>obnd (jzk y) fun y=>brn (!decide (y.2.2=0)) (some 3) (obnd (ezP (y.1.Texts,x.Globals.Texts.Texts)) fun y_1=>brn (!y_1) (some 3) (brn (!decide (y.1.Uses=x.Globals.Texts.Uses)) (some 3) (some 0)))) fun y=>some y)) fun y=>some y))
def BzZ:Fq:=⟨[(0,.val 32)],[(0,.val 3)],gzd⟩
theorem Dz3:A0 10 BzZ:=A2 Tryz.func10 kzC (.cons Bz0 (.cons Bz1 (.cons Bz2 .nil)))
abbrev Bz7:List (Nat×Fq):=[(42,rzH),(20,izo)]
theorem izu:azk Tryz.prog tb (Bz7):=(.cons qz7 (.cons cz7 .nil))
def fzx (back:Globals×Globals×Int->Option ((Unit)⊕(Bool)))(x:Globals×Globals×Int):Option ((Unit)⊕(Bool)):=brn (decide (x.2.2<(↑x.1.XFs.length:Int))) (obnd (idx x.1.XFs x.2.2) fun y=>obnd (idx x.2.1.XFs x.2.2) fun y_1=>brn (!decide (y=y_1)) (some (Sum.inr false)) (back (x.1,x.2.1,i64.wrap (x.2.2+1)))) (some (Sum.inl PUnit.unit))
def lzL:=iter fzx big
def xzM:Cq:=⟨44,[(2,.ro 29),(3,.ro 29),(5,.val 3)],[(.exit 0,[]),(.ret,[(4,.val 4)])],rg 68 18 [4,5],lzL,none⟩
theorem uzZ:A3 Tryz.f46 44 xzM:=A4 izu .nil fzx
def fzy (back:Globals×Globals×Int->Option ((Unit)⊕(Bool)))(x:Globals×Globals×Int):Option ((Unit)⊕(Bool)):=brn (decide (x.2.2<(↑x.1.Names.length:Int))) (obnd (idx x.1.Names x.2.2) fun y=>obnd (idx x.2.1.Names x.2.2) fun y_1=>obnd (cz6 (aze y,aze y_1)) fun y=>brn (!y) (some (Sum.inr false)) (back (x.1,x.2.1,i64.wrap (x.2.2+1)))) (some (Sum.inl PUnit.unit))
def lzM:=iter fzy big
def xzN:Cq:=⟨84,[(2,.ro 29),(3,.ro 29),(6,.val 3)],[(.exit 2,[]),(.ret,[(4,.val 4)])],rg 86 19 [4,6],lzM,none⟩
theorem uz0:A3 Tryz.f46 84 xzN:=A4 izu .nil fzy
def fzz (back:Globals×Globals×Int->Option ((Unit)⊕(Bool)))(x:Globals×Globals×Int):Option ((Unit)⊕(Bool)):=brn (decide (x.2.2<(↑x.1.Chain.length:Int))) (obnd (idx x.1.Chain x.2.2) fun y=>obnd (idx x.2.1.Chain x.2.2) fun y_1=>brn (bif true then !(decide (y.Sheet=y_1.Sheet)&&(decide (y.At.Row=y_1.At.Row)&&decide (y.At.Col=y_1.At.Col)))else decide (y.Sheet=y_1.Sheet)&&(decide (y.At.Row=y_1.At.Row)&&decide (y.At.Col=y_1.At.Col))) (some (Sum.inr false)) (back (x.1,x.2.1,i64.wrap (x.2.2+1)))) (some (Sum.inl PUnit.unit))
def lzN:=iter fzz big
def xzO:Cq:=⟨124,[(2,.ro 29),(3,.ro 29),(7,.val 3)],[(.exit 4,[]),(.ret,[(4,.val 4)])],rg 105 18 [4,7],lzN,none⟩
theorem uz1:A3 Tryz.f46 124 xzO:=A4 izu .nil fzz
def kzF (x:Globals×Globals):Option (Bool):=obnd (ezP (x.1.Sheets,x.2.Sheets)) fun y=>brn (!y) (some false) (obnd (ezP (x.1.Formats,x.2.Formats)) fun y=>brn (!y) (some false) (brn (!decide ((↑x.1.XFs.length:Int)=(↑x.2.XFs.length:Int))) (some false) (brn (!decide ((↑x.1.Names.length:Int)=(↑x.2.Names.length:Int))) (some false) (obnd (ezP (x.1.Texts.Texts,x.2.Texts.Texts)) fun y=>brn (!y) (some false) (brn (!decide (x.1.Texts.Uses=x.2.Texts.Uses)) (some false) (brn (!decide ((↑x.1.Chain.length:Int)=(↑x.2.Chain.length:Int))) (some false) (obnd (lzL (x.1,x.2,0)) fun y=>osum y (fun y=>obnd (lzM (x.1,x.2,0)) fun y=>osum y (fun y=>obnd (lzN (x.1,x.2,0)) fun y=>osum y (fun y=>some true) fun y=>some y) fun y=>some y) fun y=>some y)))))))
def szx:Fq:=⟨[(0,.val 29),(1,.val 29)],[(0,.val 4)],kzF⟩
theorem vzt:A0 46 szx:=A2 Tryz.func46 izu (.cons uzZ (.cons uz0 (.cons uz1 .nil)))
def nzk (x:Cell2×Cell2):Option (Bool):=brn (bif false then !(decide (x.1.At.Row=x.2.At.Row)&&decide (x.1.At.Col=x.2.At.Col))else decide (x.1.At.Row=x.2.At.Row)&&decide (x.1.At.Col=x.2.At.Col)) (brn (decide (x.1.XF=x.2.XF)) (brn (bif false then !(decide (x.1.V.Kind=x.2.V.Kind)&&(decide (x.1.V.N.M=x.2.V.N.M)&&(decide (x.1.V.N.S=x.2.V.N.S)&&(decide (x.1.V.S=x.2.V.S)&&(decide (x.1.V.B=x.2.V.B)&&decide (x.1.V.E=x.2.V.E))))))else decide (x.1.V.Kind=x.2.V.Kind)&&(decide (x.1.V.N.M=x.2.V.N.M)&&(decide (x.1.V.N.S=x.2.V.N.S)&&(decide (x.1.V.S=x.2.V.S)&&(decide (x.1.V.B=x.2.V.B)&&decide (x.1.V.E=x.2.V.E)))))) (brn (decide (x.1.Has=x.2.Has)) (obnd (cz6 (aze x.1.E,aze x.2.E)) fun y=>some y) (some false)) (some false)) (some false)) (some false)
def vz9:Fq:=⟨[(0,.val 131),(1,.val 131)],[(0,.val 4)],nzk⟩
theorem yz6:A0 101 vz9:=A1 Tryz.func101 (.cons cz7 .nil)
abbrev Gze:List (Nat×Fq):=[(101,vz9),(102,pzC)]
theorem jz4:azk Tryz.prog tb (Gze):=(.cons yz6 (.cons pz1 .nil))
def gzG (back:Sheet×Sheet×Int->Option ((Unit)⊕(Bool)))(x:Sheet×Sheet×Int):Option ((Unit)⊕(Bool)):=brn (decide (x.2.2<(↑x.1.Rows.length:Int))) (obnd (idx x.1.Rows x.2.2) fun y=>obnd (idx x.2.1.Rows x.2.2) fun y_1=>brn (bif true then !(decide (y.Row=y_1.Row)&&(decide (y.Height=y_1.Height)&&decide (y.Hidden=y_1.Hidden)))else decide (y.Row=y_1.Row)&&(decide (y.Height=y_1.Height)&&decide (y.Hidden=y_1.Hidden))) (some (Sum.inr false)) (back (x.1,x.2.1,i64.wrap (x.2.2+1)))) (some (Sum.inl PUnit.unit))
def mz6:=iter gzG big
def Azk:Cq:=⟨44,[(2,.ro 120),(3,.ro 120),(5,.val 3)],[(.exit 0,[]),(.ret,[(4,.val 4)])],rg 33 18 [4,5],mz6,none⟩
theorem wzJ:A3 Tryz.f47 44 Azk:=A4 jz4 .nil gzG
def gzH (back:Sheet×Sheet×Int->Option ((Unit)⊕(Bool)))(x:Sheet×Sheet×Int):Option ((Unit)⊕(Bool)):=brn (decide (x.2.2<(↑x.1.Cells.length:Int))) (obnd (idx x.1.Cells x.2.2) fun y=>obnd (idx x.2.1.Cells x.2.2) fun y_1=>obnd (nzk (Cell2.mk y.At y.XF y.V y.Has (aze y.E),Cell2.mk y_1.At y_1.XF y_1.V y_1.Has (aze y_1.E))) fun y=>brn (!y) (some (Sum.inr false)) (back (x.1,x.2.1,i64.wrap (x.2.2+1)))) (some (Sum.inl PUnit.unit))
def mz7:=iter gzH big
def Azl:Cq:=⟨84,[(2,.ro 120),(3,.ro 120),(6,.val 3)],[(.exit 2,[]),(.ret,[(4,.val 4)])],rg 51 19 [4,6],mz7,none⟩
theorem wzK:A3 Tryz.f47 84 Azl:=A4 jz4 .nil gzH
def gzI (back:Sheet×Sheet×Int->Option ((Unit)⊕(Bool)))(x:Sheet×Sheet×Int):Option ((Unit)⊕(Bool)):=brn (decide (x.2.2<(↑x.1.Groups.length:Int))) (obnd (idx x.1.Groups x.2.2) fun y=>obnd (idx x.2.1.Groups x.2.2) fun y_1=>obnd (jzL (Group.mk y.Array y.A y.B (aze y.E),Group.mk y_1.Array y_1.A y_1.B (aze y_1.E))) fun y=>brn (!y) (some (Sum.inr false)) (back (x.1,x.2.1,i64.wrap (x.2.2+1)))) (some (Sum.inl PUnit.unit))
def mz8:=iter gzI big
def Azm:Cq:=⟨124,[(2,.ro 120),(3,.ro 120),(7,.val 3)],[(.exit 4,[]),(.ret,[(4,.val 4)])],rg 70 19 [4,7],mz8,none⟩
theorem wzL:A3 Tryz.f47 124 Azm:=A4 jz4 .nil gzI
def mzj (x:Sheet×Sheet):Option (Bool):=brn (!decide ((↑x.1.Rows.length:Int)=(↑x.2.Rows.length:Int))) (some false) (brn (!decide ((↑x.1.Cells.length:Int)=(↑x.2.Cells.length:Int))) (some false) (brn (!decide ((↑x.1.Groups.length:Int)=(↑x.2.Groups.length:Int))) (some false) (obnd (mz6 (x.1,x.2,0)) fun y=>osum y (fun y=>obnd (mz7 (x.1,x.2,0)) fun y=>osum y (fun y=>obnd (mz8 (x.1,x.2,0)) fun y=>osum y (fun y=>some true) fun y=>some y) fun y=>some y) fun y=>some y)))
def uz2:Fq:=⟨[(0,.val 120),(1,.val 120)],[(0,.val 4)],mzj⟩
theorem xzP:A0 47 uz2:=A2 Tryz.func47 jz4 (.cons wzJ (.cons wzK (.cons wzL .nil)))
abbrev OzK:List (Nat×Fq):=[(46,szx),(47,uz2)]
theorem xzL:azk Tryz.prog tb (OzK):=(.cons vzt (.cons xzP .nil))
def lzO (back:Book×Book×Int->Option ((Unit)⊕(Bool)))(x:Book×Book×Int):Option ((Unit)⊕(Bool)):=brn (decide (x.2.2<(↑x.1.Sheets.length:Int))) (obnd (idx x.1.Sheets x.2.2) fun y=>obnd (idx x.2.1.Sheets x.2.2) fun y_1=>obnd (mzj (y,y_1)) fun y=>brn (!y) (some (Sum.inr false)) (back (x.1,x.2.1,i64.wrap (x.2.2+1)))) (some (Sum.inl PUnit.unit))
def rzG:=iter lzO big
def Kzd:Cq:=⟨44,[(2,.ro 32),(3,.ro 32),(5,.val 3)],[(.exit 0,[]),(.ret,[(4,.val 4)])],rg 21 19 [4,5],rzG,none⟩
theorem Dz6:A3 Tryz.f12 44 Kzd:=A4 xzL .nil lzO
def rz8 (x:Book×Book):Option (Bool):=obnd (kzF (x.1.Globals,x.2.Globals)) fun y=>brn (!y) (some false) (brn (!decide ((↑x.1.Sheets.length:Int)=(↑x.2.Sheets.length:Int))) (some false) (obnd (rzG (x.1,x.2,0)) fun y=>osum y (fun y=>some true) fun y=>some y))
def Ez3:Fq:=⟨[(0,.val 32),(1,.val 32)],[(0,.val 4)],rz8⟩
theorem Gzf:A0 12 Ez3:=A2 Tryz.func12 xzL (.cons Dz6 .nil)
abbrev Kze:List (Nat×Fq):=[(103,yz1)]
theorem tzl:azk Tryz.prog tb (Kze):=(.cons vz8 .nil)
def izT (back:List Group×Cell×Int->Option ((Unit)⊕(Int)))(x:List Group×Cell×Int):Option ((Unit)⊕(Int)):=brn (decide (x.2.2<(↑x.1.length:Int))) (obnd (idx x.1 x.2.2) fun y=>brn y.Array (obnd (idx x.1 x.2.2) fun y=>obnd (qzC (Group.mk y.Array y.A y.B (aze y.E),x.2.1)) fun y=>brn y (some (Sum.inr x.2.2)) (back (x.1,x.2.1,i64.wrap (x.2.2+1)))) (back (x.1,x.2.1,i64.wrap (x.2.2+1)))) (some (Sum.inl PUnit.unit))
def ozQ:=iter izT big
def Dz8:Cq:=⟨28,[(0,.val 118),(3,.ro 64),(5,.val 3)],[(.exit 0,[]),(.ret,[(4,.val 3)])],rg 4 22 [],ozQ,none⟩
theorem zza:A3 Tryz.f49 28 Dz8:=A4 tzl .nil izT
def ozf (x:List Group×Cell):Option (Int):=obnd (ozQ (x.1,x.2,0)) fun y=>osum y (fun y=>some (-1)) fun y=>some y
def xzR:Fq:=⟨[(0,.val 118),(1,.val 64)],[(0,.val 3)],ozf⟩
theorem Azn:A0 49 xzR:=A2 Tryz.func49 tzl (.cons zza .nil)
abbrev NzH:List (Nat×Fq):=[(49,xzR)]
theorem qzG:azk Tryz.prog tb (NzH):=(.cons Azn .nil)
def kzE (back:List (Node)×Int×Sheet×Int->Option (List (Node)))(x:List (Node)×Int×Sheet×Int):Option (List (Node)):=brn (decide (x.2.2.2<(↑x.2.2.1.Cells.length:Int))) (obnd (idx x.2.2.1.Cells x.2.2.2) fun y=>brn (!y.Has) (back (x.1,x.2.1,x.2.2.1,i64.wrap (x.2.2.2+1))) (obnd (ozf (x.2.2.1.Groups,y.At)) fun y_1=>brn (decide (0<=y_1)) (obnd (idx x.2.2.1.Groups y_1) fun y_2=>obnd (app 192 x.1 [Node.mk (Place.mk x.2.1 y.At) y_2.A (aze y.E)]) fun zs=>back (zs,x.2.1,x.2.2.1,i64.wrap (x.2.2.2+1))) (obnd (app 192 x.1 [Node.mk (Place.mk x.2.1 y.At) y.At (aze y.E)]) fun zs=>back (zs,x.2.1,x.2.2.1,i64.wrap (x.2.2.2+1))))) (some x.1)
def qzI:=iter kzE big
def Izv:Cq:=⟨68,[(3,.own 78),(4,.val 3),(5,.ro 120),(6,.val 3)],[(.exit 2,[(3,.own 78)])],rg 22 42 (rg 6 4 [3]),qzI,none⟩
theorem Bz6:A3 Tryz.f14 68 Izv:=A4 qzG .nil kzE
def kzD (back:Book×List (Node)×Int->Option (List (Node)))(x:Book×List (Node)×Int):Option (List (Node)):=brn (decide (x.2.2<(↑x.1.Sheets.length:Int))) (obnd (idx x.1.Sheets x.2.2) fun y=>obnd (qzI (x.2.1,x.2.2,y,0)) fun y=>back (x.1,y,i64.wrap (x.2.2+1))) (some x.2.1)
def qzH:=iter kzD big
def Izu:Cq:=⟨36,[(1,.ro 32),(3,.own 78),(4,.val 3)],[(.exit 0,[(3,.own 78)])],rg 3 61 [],qzH,none⟩
theorem Bz5:A3 Tryz.f14 36 Izu:=A4 qzG (.cons Bz6 .nil) kzD
def qzF (x:Book):Option (List (Node)):=obnd (qzH (x,[],0)) fun y=>some y
def Bz4:Fq:=⟨[(0,.val 32)],[(0,.own 78)],qzF⟩
theorem Dz4:A0 14 Bz4:=A2 Tryz.func14 qzG (.cons Bz5 .nil)
def qzm (x:Cell):Option (Cell):=some x
def Nzc:Fq:=⟨[(0,.val 80)],[(0,.val 64)],qzm⟩
theorem tzd:A0 55 Nzc:=A1 Tryz.func55 .nil
def lzr (x:Place):Option (Place):=obnd (qzm x.At) fun y=>some (Place.mk x.Sheet y)
def xzl:Fq:=⟨[(0,.val 82)],[(0,.val 66)],lzr⟩
theorem qz5:A0 54 xzl:=A1 Tryz.func54 (.cons tzd .nil)
def Nza (x:Dec):Option (Dec):=some x
def law4_OfS:Fq:=⟨[(0,.val 83)],[(0,.val 68)],Nza⟩
theorem LzL:A0 165 law4_OfS:=A1 Tryz.func165 .nil
def uzC (x:Val):Option (Val):=obnd (Nza x.N) fun y=>some (Val.mk x.Kind y x.S x.B x.E)
def FzP:Fq:=⟨[(0,.val 85)],[(0,.val 70)],uzC⟩
theorem zzL:A0 104 FzP:=A1 Tryz.func104 (.cons LzL .nil)
abbrev JzC:List (Nat×Fq):=[(54,xzl),(104,FzP)]
theorem tzc:azk Tryz.prog tb (JzC):=(.cons qz5 (.cons zzL .nil))
def izO (back:List Slot×List (Slot)×Int->Option (List (Slot)))(x:List Slot×List (Slot)×Int):Option (List (Slot)):=brn (decide (x.2.2<(↑x.1.length:Int))) (obnd (idx x.1 x.2.2) fun y=>obnd (lzr y.P) fun y=>obnd (idx x.1 x.2.2) fun y_1=>obnd (uzC y_1.V) fun y_2=>obnd (app 80 x.2.1 [Slot.mk y y_2]) fun zs=>back (x.1,zs,i64.wrap (x.2.2+1))) (some x.2.1)
def ozI:=iter izO big
def Dzx:Cq:=⟨36,[(0,.val 58),(3,.own 151),(4,.val 3)],[(.exit 0,[(3,.own 151)])],rg 3 24 [],ozI,none⟩
theorem yzI:A3 Tryz.f51 36 Dzx:=A4 tzc .nil izO
def rzw (x:List Slot):Option (List (Slot)):=obnd (ozI (x,[],0)) fun y=>some y
def JzD:Fq:=⟨[(0,.val 58)],[(0,.own 151)],rzw⟩
theorem zz6:A0 51 JzD:=A2 Tryz.func51 tzc (.cons yzI .nil)
def FzN (x:Ref):Option (Ref):=some x
def law8_OfS:Fq:=⟨[(0,.val 86)],[(0,.val 72)],FzN⟩
theorem LzO:A0 166 law8_OfS:=A1 Tryz.func166 .nil
def uzA (x:Area):Option (Area):=obnd (FzN x.A) fun y=>obnd (FzN x.B) fun y_1=>some (Area.mk y y_1)
def Bzt:Fq:=⟨[(0,.val 88)],[(0,.val 74)],uzA⟩
theorem DzG:A0 105 Bzt:=A1 Tryz.func105 (.cons LzO .nil)
def pzT (self:Expr->Option (Expr)):FSpec tb:=⟨[(0,.val 90)],[(0,.val 76)],self⟩
abbrev law10_OfG (self:Expr->Option (Expr)):List (Nat×Fq):=[(104,FzP),(105,Bzt),(56,(pzT self))]
theorem Bzd (self:Expr->Option (Expr))(hself:azw Tryz.prog tb 56 (pzT self)):azk Tryz.prog tb (law10_OfG self):=(.cons zzL (.cons DzG (.cons hself .nil)))
def nzz (self:Expr->Option (Expr))(back:List (Expr)×Expr×Expr×Int->Option ((List (Expr))×Expr))(x:List (Expr)×Expr×Expr×Int):Option ((List (Expr))×Expr):=brn (decide (x.2.2.2<(↑x.2.1.Kids.length:Int))) (obnd (idx x.2.1.Kids x.2.2.2) fun y=>obnd (self (aze y)) fun y=>obnd (app 152 x.1 [aze y]) fun zs=>back (zs,aze x.2.1,Expr.mk x.2.2.1.Kind x.2.2.1.V x.2.2.1.A x.2.2.1.Sheet x.2.2.1.Op zs,i64.wrap (x.2.2.2+1))) (some (x.1,Expr.mk x.2.2.1.Kind x.2.2.1.V x.2.2.1.A x.2.2.1.Sheet x.2.2.1.Op x.1))
def uzv (self:Expr->Option (Expr)):List (Expr)×Expr×Expr×Int->Option ((List (Expr))×Expr):=iter (nzz self) big
def MzY (self:Expr->Option (Expr)):CutSpec tb:=⟨36,[(77309411331,.own 76),(1,.ro 90),(3,.ref 76),(4,.val 3)],[(.exit 0,[(77309411331,.own 76)])],[18,19,20,21,22,25,26,27,28,29,30,31,32,33,34,35,23,24,4],(uzv self),none⟩
theorem Hzu (self:Expr->Option (Expr))(hself:azw Tryz.prog tb 56 (pzT self)):A3 Tryz.f56 36 (MzY self):=A4 (Bzd self hself) .nil (nzz self)
def pzS (self:Expr->Option (Expr))(x:Expr):Option (Expr):=obnd (uzC x.V) fun y=>obnd (uzA x.A) fun y_1=>obnd ((uzv self) ([],aze x,Expr.mk x.Kind y y_1 x.Sheet x.Op [],0)) fun y=>some (Expr.mk y.2.Kind y.2.V y.2.A y.2.Sheet y.2.Op y.1)
theorem LzB (self:Expr->Option (Expr))(hself:azw Tryz.prog tb 56 (pzT self)):A0 56 (pzT (pzS self)):=A2 Tryz.func56 (Bzd self hself) (.cons (Hzu self hself) .nil)
def vzQ:=iter pzS big
def KzX:Fq:=pzT vzQ
theorem xzk:azw Tryz.prog tb 56 KzX:=pzh (fzs Tryz.func56 (by kernel_rfl)) LzB
abbrev MzW:List (Nat×Fq):=[(56,KzX)]
theorem vzP:azk Tryz.prog tb (MzW):=(.cons xzk .nil)
def kzr (back:List Expr×List (Expr)×Int->Option (List (Expr)))(x:List Expr×List (Expr)×Int):Option (List (Expr)):=brn (decide (x.2.2<(↑x.1.length:Int))) (obnd (idx x.1 x.2.2) fun y=>obnd (vzQ (aze y)) fun y=>obnd (app 152 x.2.1 [aze y]) fun zs=>back (x.1,zs,i64.wrap (x.2.2+1))) (some x.2.1)
def qze:=iter kzr big
def Hzt:Cq:=⟨36,[(0,.val 35),(3,.own 76),(4,.val 3)],[(.exit 0,[(3,.own 76)])],rg 3 16 [],qze,none⟩
theorem Bzc:A3 Tryz.f52 36 Hzt:=A4 vzP .nil kzr
def uzu (x:List Expr):Option (List (Expr)):=obnd (qze (x,[],0)) fun y=>some y
def MzX:Fq:=⟨[(0,.val 35)],[(0,.own 76)],uzu⟩
theorem Dzv:A0 52 MzX:=A2 Tryz.func52 vzP (.cons Bzc .nil)
def vzS (x:Env):Option (Env):=obnd (rzw x.Slots) fun y=>obnd (uzu x.Names) fun y_1=>some (Env.mk x.Sheets y y_1)
def KzZ:Fq:=⟨[(0,.val 60)],[(0,.val 56)],vzS⟩
theorem JzE:A0 16 KzZ:=A1 Tryz.func16 (.cons zz6 (.cons Dzv .nil))
def mzN (back:List (Slot)×Book×Env×Int×Int->Option ((List (Slot))×Env))(x:List (Slot)×Book×Env×Int×Int):Option ((List (Slot))×Env):=obnd (idx x.2.1.Sheets x.2.2.2.1) fun y=>brn (decide (x.2.2.2.2<(↑y.Cells.length:Int))) (obnd (idx x.2.1.Sheets x.2.2.2.1) fun y=>obnd (idx y.Cells x.2.2.2.2) fun y=>brn (!decide (y.V.Kind=0)) (obnd (app 80 x.1 [Slot.mk (Place.mk x.2.2.2.1 y.At) y.V]) fun zs=>back (zs,x.2.1,Env.mk x.2.2.1.Sheets zs x.2.2.1.Names,x.2.2.2.1,i64.wrap (x.2.2.2.2+1))) (back (x.1,x.2.1,Env.mk x.2.2.1.Sheets x.1 x.2.2.1.Names,x.2.2.2.1,i64.wrap (x.2.2.2.2+1)))) (some (x.1,Env.mk x.2.2.1.Sheets x.1 x.2.2.1.Names))
def szZ:=iter mzN big
def LzY:Cq:=⟨60,[(8589934595,.own 151),(1,.ro 32),(3,.ref 56),(4,.val 3),(5,.val 3)],[(.exit 2,[(8589934595,.own 151)])],rg 21 36 [5,6],szZ,none⟩
theorem Gzd:A3 Tryz.f18 60 LzY:=A4 .nil .nil mzN
def mzM (back:List (Slot)×Book×Env×Int->Option ((List (Slot))×Env))(x:List (Slot)×Book×Env×Int):Option ((List (Slot))×Env):=brn (decide (x.2.2.2<(↑x.2.1.Sheets.length:Int))) (obnd (szZ (x.1,x.2.1,Env.mk x.2.2.1.Sheets x.1 x.2.2.1.Names,x.2.2.2,0)) fun y=>back (y.1,x.2.1,Env.mk y.2.Sheets y.1 y.2.Names,i64.wrap (x.2.2.2+1))) (some (x.1,Env.mk x.2.2.1.Sheets x.1 x.2.2.1.Names))
def szY:=iter mzM big
def LzX:Cq:=⟨36,[(8589934595,.own 151),(1,.ro 32),(3,.ref 56),(4,.val 3)],[(.exit 0,[(8589934595,.own 151)])],rg 14 43 (rg 4 3 []),szY,none⟩
theorem Gzc:A3 Tryz.f18 36 LzX:=A4 .nil (.cons Gzd .nil) mzM
def tzW (x:Book):Option (Env):=obnd (szY ([],x,Env.mk (↑x.Sheets.length:Int) [] x.Globals.Names,0)) fun y=>some (Env.mk y.2.Sheets y.1 y.2.Names)
def Izs:Fq:=⟨[(0,.val 32)],[(0,.val 56)],tzW⟩
theorem Izt:A0 18 Izs:=A2 Tryz.func18 .nil (.cons Gzc .nil)
def gzF (back:List Slot×List Slot×Int->Option ((Unit)⊕(Bool)))(x:List Slot×List Slot×Int):Option ((Unit)⊕(Bool)):=brn (decide (x.2.2<(↑x.1.length:Int))) (obnd (idx x.1 x.2.2) fun y=>obnd (idx x.2.1 x.2.2) fun y_1=>brn (bif true then !(decide (y.P.Sheet=y_1.P.Sheet)&&(decide (y.P.At.Row=y_1.P.At.Row)&&(decide (y.P.At.Col=y_1.P.At.Col)&&(decide (y.V.Kind=y_1.V.Kind)&&(decide (y.V.N.M=y_1.V.N.M)&&(decide (y.V.N.S=y_1.V.N.S)&&(decide (y.V.S=y_1.V.S)&&(decide (y.V.B=y_1.V.B)&&decide (y.V.E=y_1.V.E)))))))))else decide (y.P.Sheet=y_1.P.Sheet)&&(decide (y.P.At.Row=y_1.P.At.Row)&&(decide (y.P.At.Col=y_1.P.At.Col)&&(decide (y.V.Kind=y_1.V.Kind)&&(decide (y.V.N.M=y_1.V.N.M)&&(decide (y.V.N.S=y_1.V.N.S)&&(decide (y.V.S=y_1.V.S)&&(decide (y.V.B=y_1.V.B)&&decide (y.V.E=y_1.V.E))))))))) (some (Sum.inr false)) (back (x.1,x.2.1,i64.wrap (x.2.2+1)))) (some (Sum.inl PUnit.unit))
def mz5:=iter gzF big
def Azf:Cq:=⟨44,[(0,.val 54),(1,.val 54),(5,.val 3)],[(.exit 0,[]),(.ret,[(4,.val 4)])],rg 11 15 [4,5],mz5,none⟩
theorem wzz:A3 Tryz.f50 44 Azf:=A4 .nil .nil gzF
def pzD (x:List Slot×List Slot):Option (Bool):=brn (!decide ((↑x.1.length:Int)=(↑x.2.length:Int))) (some false) (obnd (mz5 (x.1,x.2,0)) fun y=>osum y (fun y=>some true) fun y=>some y)
def uzW:Fq:=⟨[(0,.val 54),(1,.val 54)],[(0,.val 4)],pzD⟩
theorem xzI:A0 50 uzW:=A2 Tryz.func50 .nil (.cons wzz .nil)
abbrev Kzb:List (Nat×Fq):=[(50,uzW),(20,izo)]
theorem tzf:azk Tryz.prog tb (Kzb):=(.cons xzI (.cons cz7 .nil))
def izQ (back:Env×Env×Int->Option ((Unit)⊕(Bool)))(x:Env×Env×Int):Option ((Unit)⊕(Bool)):=brn (decide (x.2.2<(↑x.1.Names.length:Int))) (obnd (idx x.1.Names x.2.2) fun y=>obnd (idx x.2.1.Names x.2.2) fun y_1=>obnd (cz6 (aze y,aze y_1)) fun y=>brn (!y) (some (Sum.inr false)) (back (x.1,x.2.1,i64.wrap (x.2.2+1)))) (some (Sum.inl PUnit.unit))
def ozN:=iter izQ big
def Dz0:Cq:=⟨44,[(2,.ro 56),(3,.ro 56),(5,.val 3)],[(.exit 0,[]),(.ret,[(4,.val 4)])],rg 28 19 [4,5],ozN,none⟩
theorem yz2:A3 Tryz.f15 44 Dz0:=A4 tzf .nil izQ
def oze (x:Env×Env):Option (Bool):=brn (!decide (x.1.Sheets=x.2.Sheets)) (some false) (obnd (pzD (x.1.Slots,x.2.Slots)) fun y=>brn (!y) (some false) (brn (!decide ((↑x.1.Names.length:Int)=(↑x.2.Names.length:Int))) (some false) (obnd (ozN (x.1,x.2,0)) fun y=>osum y (fun y=>some true) fun y=>some y)))
def xzH:Fq:=⟨[(0,.val 56),(1,.val 56)],[(0,.val 4)],oze⟩
theorem Aze:A0 15 xzH:=A2 Tryz.func15 tzf (.cons yz2 .nil)
def vzT (x:Node):Option (Node):=obnd (lzr x.P) fun y=>obnd (qzm x.Base) fun y_1=>obnd (vzQ (aze x.E)) fun y_2=>some (Node.mk y y_1 (aze y_2))
def Kz0:Fq:=⟨[(0,.val 92)],[(0,.val 78)],vzT⟩
theorem JzF:A0 19 Kz0:=A1 Tryz.func19 (.cons qz5 (.cons tzd (.cons xzk .nil)))
end
set_option maxRecDepth 100000
noncomputable section
def KzV (x:Int×Int):Option (Expr):=some (Expr.mk 2 (Val.mk 0 (Dec.mk 0 0) [] false 0) (Area.mk (Ref.mk x.1 x.2 false false) (Ref.mk 0 0 false false)) 0 0 [])
def KzW:Fq:=⟨[(0,.val 3),(1,.val 3)],[(0,.val 90)],KzV⟩
theorem Jzz:A0 25 KzW:=A1 Tryz.func25 .nil
def JzN (x:List UInt8):Option (Val):=some (Val.mk 2 (Dec.mk 0 0) x false 0)
def law9_SS:Fq:=⟨[(0,.val 9)],[(0,.val 85)],JzN⟩
theorem Nzf:A0 27 law9_SS:=A1 Tryz.func27 .nil
def JzM (x:Int):Option (Val):=obnd (Mzw x) fun y=>some (Val.mk 1 y [] false 0)
def law9_NS:Fq:=⟨[(0,.val 2)],[(0,.val 85)],JzM⟩
theorem Nze:A0 28 law9_NS:=A1 Tryz.func28 (.cons Lzw .nil)
def HzO (x:List Cell2):Option (Book):=some (Book.mk (Globals.mk [[97]] [] [] [] (Table.mk [] 0) []) [Sheet.mk [] x []])
def HzP:Fq:=⟨[(0,.val 98)],[(0,.val 42)],HzO⟩
theorem HzQ:A0 26 HzP:=A1 Tryz.func26 .nil
def Mz3 (x:Int×Int×Int):Option (Place):=some (Place.mk x.1 (Cell.mk x.2.1 x.2.2))
def Mz4:Fq:=⟨[(0,.val 3),(1,.val 3),(2,.val 3)],[(0,.val 82)],Mz3⟩
theorem LzD:A0 29 Mz4:=A1 Tryz.func29 .nil
abbrev Mz9:List (Nat×Fq):=[(25,KzW),(27,law9_SS),(28,law9_NS),(26,HzP),(21,GzV),(13,wzo),(17,AzJ),(9,rzV),(29,Mz4),(11,yzp)]
theorem vzY:azk Tryz.prog tb (Mz9):=(.cons Jzz (.cons Nzf (.cons Nze (.cons HzQ (.cons GzW (.cons uzf (.cons wz4 (.cons pzv (.cons LzD (.cons vzy .nil))))))))))
def vzZ (x:Book×Book×List Node×Env):Option (Bool):=obnd (jzg x.1) fun y=>brn (decide (y=13)) (obnd (jzg x.2.1) fun y=>brn (decide (y=0)) (obnd (idx x.2.1.Sheets 0) fun y=>brn (decide ((↑y.Cells.length:Int)=3)) (brn (decide (x.2.1.Globals.Texts.Uses=1)) (obnd (idx x.2.2.1 1) fun y=>obnd (Mz3 (0,3,0)) fun y_1=>brn (bif false then !(decide (y.P.Sheet=y_1.Sheet)&&(decide (y.P.At.Row=y_1.At.Row)&&decide (y.P.At.Col=y_1.At.Col)))else decide (y.P.Sheet=y_1.Sheet)&&(decide (y.P.At.Row=y_1.At.Row)&&decide (y.P.At.Col=y_1.At.Col))) (obnd (idx x.2.2.1 1) fun y=>brn (bif false then !(decide (y.Base.Row=3)&&decide (y.Base.Col=0))else decide (y.Base.Row=3)&&decide (y.Base.Col=0)) (obnd (idx x.2.2.2.Slots 0) fun y=>obnd (JzN [120]) fun y_2=>brn (bif false then !(decide (y.V.Kind=y_2.Kind)&&(decide (y.V.N.M=y_2.N.M)&&(decide (y.V.N.S=y_2.N.S)&&(decide (y.V.S=y_2.S)&&(decide (y.V.B=y_2.B)&&decide (y.V.E=y_2.E))))))else decide (y.V.Kind=y_2.Kind)&&(decide (y.V.N.M=y_2.N.M)&&(decide (y.V.N.S=y_2.N.S)&&(decide (y.V.S=y_2.S)&&(decide (y.V.B=y_2.B)&&decide (y.V.E=y_2.E)))))) (brn (decide (x.2.2.2.Sheets=1)) (obnd (mza (x.2.1,x.2.1)) fun y=>brn y (obnd (mza (x.1,x.2.1)) fun y=>brn (!y) (obnd (jzg (Book.mk (Globals.mk [] [] [] [] (Table.mk [] 0) []) [])) fun y=>some (decide (y=4))) (some false)) (some false)) (some false)) (some false)) (some false)) (some false)) (some false)) (some false)) (some false)) (some false)
def HzN:Cq:=⟨80,[(2,.ro 42),(3,.ro 42),(5,.val 49),(6,.ro 60)],[(.normal,[(0,.val 4)])],rg 58 70 [0],(vzZ),none⟩
theorem Bzs:A5 Tryz.f6 80 HzN:=A6 vzY .nil
def uzz (x:Unit):Option (Bool):=obnd (KzV (0,1)) fun y=>obnd (JzN [120]) fun y_1=>obnd (JzM 0) fun y_2=>obnd (JzM 0) fun y_3=>obnd (HzO [Cell2.mk (Cell.mk 0 0) 0 y_1 false (Expr.mk 0 (Val.mk 0 (Dec.mk 0 0) [] false 0) (Area.mk (Ref.mk 0 0 false false) (Ref.mk 0 0 false false)) 0 0 []),Cell2.mk (Cell.mk 1 0) 0 (Val.mk 0 (Dec.mk 0 0) [] false 0) false (Expr.mk 0 (Val.mk 0 (Dec.mk 0 0) [] false 0) (Area.mk (Ref.mk 0 0 false false) (Ref.mk 0 0 false false)) 0 0 []),Cell2.mk (Cell.mk 2 0) 0 y_2 true (aze y),Cell2.mk (Cell.mk 3 0) 0 y_3 true (aze y)]) fun y=>obnd (GzU y) fun y_4=>brn (!decide (y_4.2=0)) (some false) (brn (!decide ((↑y_4.1.Sheets.length:Int)=1)) (some false) (obnd (ozW y_4.1) fun y_5=>obnd (szm y_4.1) fun y_6=>brn (!decide ((↑(List.length y_5):Int)=2)) (some false) (brn (!decide ((↑y_6.Slots.length:Int)=3)) (some false) (obnd (idx y_4.1.Sheets 0) fun y_7=>brn (!decide ((↑y_7.Groups.length:Int)=1)) (some false) (obnd (vzZ (y,y_4.1,y_5,y_6)) fun y=>some y)))))
def Bzr:Fq:=⟨[],[(0,.val 4)],uzz⟩
theorem DzF:A0 6 Bzr:=A2 Tryz.func6 vzY (.cons Bzs .nil)
end
end Go.Proofs.YtkafbjodbjkieaaGreatDoor
/- XX -/
namespace Go.Proofs.YtkafbjodbjkieaaGreatDoor
open Go Go.Ev Go.Lib
open Go.IntKind (i64 u64 u8 i32 u32 i16 u16)
theorem idxB {D:List UInt8}{k:Nat}{v:UInt8}(h:D[k]?=some v):idx D (k:Int)=some v:=by simp[idx,h]
def okD (d:Dec):Prop:=0<=d.S/\d.S<=9/\(0<d.S->¬d.M%10=0)
def V (d:Dec):Int:=d.M*10^(9-d.S.toNat)
def I64 (n:Int):Prop:=-9223372036854775808<=n/\n<=9223372036854775807
instance (n:Int):Decidable (I64 n):=inferInstanceAs (Decidable (_/\_))
def cmpV (x y:Int):Int:=if x<y then -1 else if y<x then 1 else 0
theorem wu64 (n:Int):u64.wrap n=n%18446744073709551616:=by simp[IntKind.wrap,IntKind.bits,IntKind.signed]
theorem wi64 (n:Int):i64.wrap n=(n+9223372036854775808)%18446744073709551616-9223372036854775808:=IntKind.wrap_i64 n
theorem IzY {n:Int}(h0:0<=n)(h1:n<18446744073709551616):u64.wrap n=n:=by rw[wu64];omega
theorem azH {n:Int}(h0:-9223372036854775808<=n)(h1:n<=9223372036854775807):i64.wrap n=n:=by rw[wi64];omega
theorem tz2 (x y:Int):dzM (x,y)=some (cmpV x y):=by
 unfold dzM nz1 cmpV;simp only[decide_true,cond_true,aza,azd];by_cases h:x<y
 .simp[h]
 .by_cases h2:y<x<;>simp[h,h2]
theorem tmod10 (m:Int):(m.tmod 10=0↔m%10=0)/\(m%10=0->m.tdiv 10=m/10) :=
 ⟨by rw[<-Int.dvd_iff_tmod_eq_zero,<-Int.dvd_iff_emod_eq_zero],fun h=>Int.tdiv_eq_ediv_of_dvd (Int.dvd_of_emod_eq_zero h)⟩
theorem Nz0 (d:Dec):jzt d=some 0/\okD d\/∃e,jzt d=some e/\e≠0:=by
 unfold jzt okD;by_cases h1:d.S<0
 .exact .inr ⟨1,by simp[h1],by omega⟩
 .by_cases h2:9<d.S
  .exact .inr ⟨1,by simp[h1,h2],by omega⟩
  .by_cases h3:0<d.S
   .by_cases h4:d.M.tmod 10=0
    .exact .inr ⟨1,by simp[h1,h2,h3,h4],by omega⟩
    .exact .inl ⟨by simp[h1,h2,h3,h4],by omega,by omega,fun _ h=>h4 ((tmod10 d.M).1.2 h)⟩
   .exact .inl ⟨by simp[h1,h2,h3],by omega,by omega,fun h=>absurd h h3⟩
theorem idxI {D:List Int}{k:Nat}{v:Int}(h:D[k]?=some v):idx D (k:Int)=some v:=by
 simp[idx,h]
theorem MzT {X Y:Type}{F:(X->Option Y)->X->Option Y}(m:X->Nat)(Inv:X->Prop)(Post:Y->Prop)
 (h:∀back x,Inv x->(∀x',Inv x'->m x'<m x->∃y,back x'=some y/\Post y)->∃y,F back x=some y/\Post y):∀n x,Inv x->m x<n->∃y,iter F n x=some y/\Post y
 | 0,_,_,h0=>by omega
 | n+1,x,hp,hn=>by
  rw[azz];exact h _ x hp fun x' hp' hm=>MzT m Inv Post h n x' hp' (by omega)
theorem nz9 {X Y:Type}{F:(X->Option Y)->X->Option Y}(m:X->Nat)(Inv:X->Prop)(Post:Y->Prop)
 (h:∀back x,Inv x->(∀x',Inv x'->m x'<m x->∃y,back x'=some y/\Post y)->∃y,F back x=some y/\Post y) (x:X) (hx:Inv x) (hm:m x<9223372036854775808):∃y,iter F big x=some y/\Post y :=
 MzT m Inv Post h _ x hx (by rw[bzT];omega)
section
variable {M N:Int} {s t:Nat} (hM:I64 M) (hN:I64 N) (hs:s<=9) (ht:t<=9)
include hM hN hs ht
end
section
variable {M N:Int} {s t:Nat} (hM:I64 M) (hN:I64 N) (hs:s<=9) (ht:t<=9)
include hM hN hs ht
end
open Go Go.Ev Go.Lib
def rl:Nat->List UInt8->List Int
 | 0,_=>[]
 | n+1,l=>if l=[]then []else((decodeL l).1:Int)::rl n (l.drop (decodeL l).2)
theorem IzF:∀n,rl n []=[]
 | 0=>rfl
 | n+1=>by simp[rl]
theorem rl_fuel:∀(n m:Nat) (l:List UInt8),l.length<=n->l.length<=m->rl n l=rl m l
 | 0,m,l,hn,_=>by
  have:l=[]:=List.eq_nil_of_length_eq_zero (by omega);subst this;rw[IzF,IzF]
 | n+1,0,l,_,hm=>by
  have:l=[]:=List.eq_nil_of_length_eq_zero (by omega);subst this;rw[IzF,IzF]
 | n+1,m+1,l,hn,hm=>by
  unfold rl;by_cases hne:l=[]
  .simp[hne]
  .have hw:=decodeL_width l;have hl:0<l.length:=List.length_pos_iff.2 hne;rw[if_neg hne,if_neg hne,rl_fuel n m (l.drop (decodeL l).2) (by rw[List.length_drop];omega) (by rw[List.length_drop];omega)]
def rs (l:List UInt8):List Int:=rl l.length l
theorem rs_nil:rs []=[]:=rfl
theorem xzX {l:List UInt8}(h:l≠[]):rs l=((decodeL l).1:Int)::rs (l.drop (decodeL l).2):=by
 have hl:0<l.length:=List.length_pos_iff.2 h;have hw:=decodeL_width l;obtain⟨n,hn⟩:∃n,l.length=n+1:=⟨l.length-1,by omega⟩;unfold rs;rw[hn]
 show(if l=[]then []else _)=_
 rw[if_neg h,rl_fuel n (l.drop (decodeL l).2).length _ (by rw[List.length_drop];omega) (Nat.le_refl _)]
theorem Czk (s:List UInt8)(i:Nat):rune s i=decodeL (s.drop i):=(decodeL_drop ⟨s.toArray⟩ i).symm
theorem szA:∀(l:List UInt8),(rs l).length<=l.length:=fun l=>by
 have:∀(n:Nat) (l:List UInt8),(rl n l).length<=n:=by
  intro n;induction n with
  | zero=>intro l;simp[rl]
  | succ n ih =>
   intro l;unfold rl;split
   .simp
   .have:=ih (l.drop (decodeL l).2);simp;omega
 exact this l.length l
structure Ord (α:Type) (c:α->α->Int):Prop where
 vals:∀a b,c a b = -1\/c a b=0\/c a b=1
 swap:∀a b,c b a = - c a b
 same:∀a b,c a b=0↔a=b
 less:∀a b d,c a b = -1->c b d = -1->c a d = -1
open Go Go.Ev Go.Lib
def vB:Val:=⟨0,⟨0,0⟩,[],false,0⟩
def vN (d:Dec):Val:=⟨1,d,[],false,0⟩
def vS (s:List UInt8):Val:=⟨2,⟨0,0⟩,s,false,0⟩
def vT (b:Bool):Val:=⟨3,⟨0,0⟩,[],b,0⟩
def vE (e:Int):Val:=⟨4,⟨0,0⟩,[],false,e⟩
def okV (v:Val):Prop:=v=vB\/(∃d,v=vN d/\okD d)\/(∃s,v=vS s/\Lib.validD s=true)\/(∃b,v=vT b)\/∃e,v=vE e
theorem ezX {α:Type}{b:Bool}{x y:Option α}(hx:∃n,x=some n)(hy:∃n,y=some n):∃n,brn b x y=some n:=by cases b<;>assumption
theorem name_is (e:Int):∃n,CzD e=some n :=
 ezX ⟨_,rfl⟩ (ezX ⟨_,rfl⟩ (ezX ⟨_,rfl⟩ (ezX ⟨_,rfl⟩ (ezX ⟨_,rfl⟩ (ezX ⟨_,rfl⟩ (ezX ⟨_,rfl⟩ ⟨_,rfl⟩))))))
def key (v:Val):List Int:=v.Kind::(if v.Kind=1 then [V v.N]else if v.Kind=2 then rs v.S else if v.Kind=3 then [if v.B then 1 else 0]else [v.E])
open Go Go.Ev Go.Lib
theorem appN {A:Type}{B:Nat}{xs ys:List A}(h:(xs.length+ys.length)*B<=140737488355328):app B xs ys=some (xs++ys):=by
 have:Nat.ble ((xs.length+ys.length)*B) 140737488355328=true:=Nat.ble_eq_true_of_le h;simp[app,this]
theorem vzm {n:Nat}(h:n<9223372036854775808):i64.wrap (n:Int)=n:=azH (by omega) (by omega)
theorem wzZ {x y:Nat}(hx:x<9223372036854775808)(hy:y<9223372036854775808):bz7 .and .i64 (x:Int) (y:Int)=((x &&& y:Nat):Int):=by
 simp only[bz7];rw[BitVec.toNat_and,BitVec.ofInt_natCast,BitVec.ofInt_natCast,BitVec.toNat_ofNat,BitVec.toNat_ofNat];simp only[IntKind.bits];rw[Nat.mod_eq_of_lt (by omega),Nat.mod_eq_of_lt (by omega)];exact vzm (Nat.lt_of_le_of_lt Nat.and_le_left hx)
theorem or_nat {x y:Nat}(hx:x<1073741824)(hy:y<64):bz7 .or .i64 ((x*64:Nat):Int) (y:Int)=((x*64+y:Nat):Int):=by
 simp only[bz7];rw[BitVec.toNat_or,BitVec.ofInt_natCast,BitVec.ofInt_natCast,BitVec.toNat_ofNat,BitVec.toNat_ofNat];simp only[IntKind.bits];rw[Nat.mod_eq_of_lt (by omega),Nat.mod_eq_of_lt (by omega)];have:=Nat.two_pow_add_eq_or_of_lt (i:=6) (b:=y) (by omega) x;rw[Nat.mul_comm x 64,show(64:Nat)=2^6 from rfl,<-this];exact vzm (by omega)
theorem byte_and:∀b:Fin 256,(b.val &&& 31=b.val%32)/\(b.val &&& 15=b.val%16)/\(b.val &&& 7=b.val%8)/\(b.val &&& 63=b.val%64)/\((b.val &&& 192=128)↔b.val/64=2):=by decide +kernel
theorem bAnd {b:Nat}(h:b<256):bz7 .and .i64 (b:Int) 31=((b%32:Nat):Int)/\bz7 .and .i64 (b:Int) 15=((b%16:Nat):Int)/\bz7 .and .i64 (b:Int) 7=((b%8:Nat):Int) /\
 bz7 .and .i64 (b:Int) 63=((b%64:Nat):Int)/\(bz7 .and .i64 (b:Int) 192=128↔b/64=2):=by
 obtain⟨h1,h2,h3,h4,h5⟩:=byte_and ⟨b,h⟩;simp only at h1 h2 h3 h4 h5;refine⟨?_,?_,?_,?_,?_⟩
 .rw[<-h1];exact wzZ (y:=31) (by omega) (by omega)
 .rw[<-h2];exact wzZ (y:=15) (by omega) (by omega)
 .rw[<-h3];exact wzZ (y:=7) (by omega) (by omega)
 .rw[<-h4];exact wzZ (y:=63) (by omega) (by omega)
 .have e:bz7 .and .i64 (b:Int) 192=((b &&& 192:Nat):Int):=wzZ (y:=192) (by omega) (by omega);rw[e];constructor
  .intro h;exact h5.1 (by omega)
  .intro h;have:=h5.2 h;omega
def more:List UInt8->Nat->Nat->Option Nat
 | _,0,v=>some v
 | [],_+1,_=>none
 | d::l,n+1,v=>if d.toNat/64=2 then more l n (v*64+d.toNat%64)else none
theorem JzR {x:List UInt8}{i n v:Nat}(hl:x.length<=5000000)(hn:i+n<x.length)(hn3:n<=3)(hv:v<64):lzS (x,(i:Int),(n:Int),(v:Int),1)=some (match more (x.drop (i+1)) n v with|some w=>.inl (w:Int)|none=>.inr ([],false)):=by
 obtain⟨y,h1,h2⟩:=nz9 (F:=lzR) (fun z=>10-z.2.2.2.2.toNat) (fun z=>∃k w:Nat,z=(x,(i:Int),(n:Int),(w:Int),((k+1:Nat):Int))/\k<=n/\w<64*64^k/\more (x.drop (i+1+k)) (n-k) w=more (x.drop (i+1)) n v)
  (fun y=>y=(match more (x.drop (i+1)) n v with|some w=>.inl (w:Int)|none=>.inr ([],false))) (by
  rintro back z ⟨k,w,rfl,hk,hw,hm⟩ hb;unfold lzR;simp only at hb ⊢;rw[<-hm];rcases Nat.lt_or_ge k n with hlt|hge
  .have hx:i+1+k<x.length:=by omega
   have hdl:=(x[i+1+k]'hx).toNat_lt;obtain⟨_,_,_,b63,b192⟩:=bAnd hdl;have hw3:w<64*64^3:=Nat.lt_of_lt_of_le hw (Nat.mul_le_mul_left _ (Nat.pow_le_pow_right (by omega) (by omega)));rw[dT0 (by omega),azc,azH (by omega) (by omega),show(i:Int)+((k+1:Nat):Int)=((i+1+k:Nat):Int) by omega,idxB (List.getElem?_eq_getElem hx),aza,vzm (by omega)];have hd:x.drop (i+1+k)=x[i+1+k]'hx::x.drop (i+1+k+1):=List.drop_eq_getElem_cons hx;rw[hd,show n-k=(n-(k+1))+1 by omega];generalize x[i+1+k]'hx=d at *;by_cases h2:d.toNat/64=2
   .rw[dT0 (b192.2 h2),Bool.not_true,azd,b63,show(w:Int)*64=((w*64:Nat):Int) by omega,vzm (by omega),or_nat (by omega) (by omega),azH (by omega) (by omega)];have e:more (d::x.drop (i+1+k+1)) (n-(k+1)+1) w=more (x.drop (i+1+k+1)) (n-(k+1)) (w*64+d.toNat%64):=by
     show(if _ then _ else _)=_
     rw[if_pos h2]
    rw[e];rw[hd,show n-k=(n-(k+1))+1 by omega,e]at hm;rw[hm];exact hb _ ⟨k+1,w*64+d.toNat%64,by simp,by omega,by rw[Nat.pow_succ];omega,by rw[<-hm];rfl⟩ (by simp only;omega)
   .rw[dF0 (fun h=>h2 (b192.1 h)),Bool.not_false,azc];have e:more (d::x.drop (i+1+k+1)) (n-(k+1)+1) w=none:=by
     show(if _ then _ else _)=_
     rw[if_neg h2]
    rw[e];exact⟨_,rfl,rfl⟩
  .have:k=n:=by omega
   subst this;rw[dF0 (by omega),azd,Nat.sub_self];refine⟨_,rfl,?_⟩;have:∀l,more l 0 w=some w:=fun l=>by cases l<;>rfl
   rw[this]) (x,(i:Int),(n:Int),(v:Int),1) ⟨0,v,by simp,by omega,by omega,by simp⟩ (by simp only;omega)
 subst h2;exact h1
open Go Go.Ev Go.Lib
theorem more0_is {x:List UInt8}{i v:Nat}:lzS (x,(i:Int),0,(v:Int),1)=some (.inl (v:Int)):=by
 unfold lzS;rw[bzT,azz];unfold lzR;simp
theorem more1 {l:List UInt8}(h:0<l.length)(v:Nat):more l 1 v=if(l.getD 0 0).toNat/64=2 then some (v*64+(l.getD 0 0).toNat%64)else none:=by
 cases l with
 | nil=>simp at h
 | cons a l=>cases l<;>rfl
theorem more2 {l:List UInt8}(h:1<l.length)(v:Nat):more l 2 v=if(l.getD 0 0).toNat/64=2/\(l.getD 1 0).toNat/64=2 then some ((v*64+(l.getD 0 0).toNat%64)*64+(l.getD 1 0).toNat%64)else none:=by
 cases l with
 | nil=>simp at h
 | cons a l =>
  have:=more1 (l:=l) (by simp at h;omega)
  show(if a.toNat/64=2 then more l 1 (v*64+a.toNat%64)else none)=_
  rw[this];simp only[List.getD_cons_zero,List.getD_cons_succ];by_cases h1:a.toNat/64=2
  .rw[if_pos h1];simp[h1]
  .rw[if_neg h1];simp[h1]
theorem more3 {l:List UInt8}(h:2<l.length)(v:Nat):more l 3 v=if(l.getD 0 0).toNat/64=2/\(l.getD 1 0).toNat/64=2/\(l.getD 2 0).toNat/64=2 then some (((v*64+(l.getD 0 0).toNat%64)*64+(l.getD 1 0).toNat%64)*64+(l.getD 2 0).toNat%64)else none:=by
 cases l with
 | nil=>simp at h
 | cons a l =>
  have:=more2 (l:=l) (by simp at h;omega)
  show(if a.toNat/64=2 then more l 2 (v*64+a.toNat%64)else none)=_
  rw[this];simp only[List.getD_cons_zero,List.getD_cons_succ];by_cases h1:a.toNat/64=2
  .rw[if_pos h1];simp[h1]
  .rw[if_neg h1];simp[h1]
def oneR (x:List UInt8)(out:List Int)(i:Nat):(List Int×Int)⊕(List Int×Bool):=if(decodeL (x.drop i)).1=65533/\(decodeL (x.drop i)).2=1 then .inr ([],false)else .inl (out++[((decodeL (x.drop i)).1:Int)],((i+(decodeL (x.drop i)).2:Nat):Int))
theorem yzs {out:List Int}{i n w least:Nat}(ho:out.length<=5000000)(hi:i<=5000000)(hn:n<=3):
 brn (decide ((w:Int)<(least:Int))) (some (Sum.inr (([]:List Int),false)))
  (brn (decide ((55296:Int)<=(w:Int)))
   (brn (decide ((w:Int)<57344)) (some (Sum.inr ([],false)))
    (brn (decide ((1114111:Int)<(w:Int))) (some (Sum.inr ([],false)))
     (obnd (app 8 out [(w:Int)]) fun zs=>some (Sum.inl (zs,i64.wrap (i64.wrap ((i:Int)+(n:Int))+1))))))
   (brn (decide ((1114111:Int)<(w:Int))) (some (Sum.inr ([],false)))
    (obnd (app 8 out [(w:Int)]) fun zs=>some (Sum.inl (zs,i64.wrap (i64.wrap ((i:Int)+(n:Int))+1)))))) =
  some (if w<least\/(55296<=w/\w<57344)\/1114111<w then Sum.inr ([],false)else Sum.inl (out++[(w:Int)],((i+(n+1):Nat):Int))):=by
 rw[appN (by simp only[List.length_singleton];omega),aza,azH (n:=(i:Int)+(n:Int)) (by omega) (by omega),azH (by omega) (by omega),show(i:Int)+(n:Int)+1=((i+(n+1):Nat):Int) by omega];by_cases h1:w<least
 .rw[dT0 (by omega),azc,if_pos (.inl h1)]
 .rw[dF0 (by omega),azd];by_cases h2:55296<=w
  .rw[dT0 (by omega),azc];by_cases h3:w<57344
   .rw[dT0 (by omega),azc,if_pos (.inr (.inl ⟨h2,h3⟩))]
   .rw[dF0 (by omega),azd];by_cases h4:1114111<w
    .rw[dT0 (by omega),azc,if_pos (.inr (.inr h4))]
    .rw[dF0 (by omega),azd,if_neg (by omega)]
  .rw[dF0 (by omega),azd];by_cases h4:1114111<w
   .rw[dT0 (by omega),azc,if_pos (.inr (.inr h4))]
   .rw[dF0 (by omega),azd,if_neg (by omega)]
theorem b3_is {c:Nat}(h:c<256):ozm ((c:Int),0,0)=some (if c<128 then .inl (0,(c:Int),0)else if 194<=c/\c<224 then .inl (1,((c%32:Nat):Int),128)else if 224<=c/\c<240 then .inl (2,((c%16:Nat):Int),2048)
 else if 240<=c/\c<245 then .inl (3,((c%8:Nat):Int),65536)else .inr ([],false)):=by
 obtain⟨a1,a2,a3,_,_⟩:=bAnd h;unfold ozm;simp only[a1,a2,a3];by_cases h1:c<128
 .rw[dT0 (by omega),azc,if_pos h1]
 .rw[dF0 (by omega),azd,if_neg h1];by_cases h2:194<=c
  .rw[dT0 (by omega),azc];by_cases h3:c<224
   .rw[dT0 (by omega),azc,if_pos ⟨h2,h3⟩]
   .rw[dF0 (by omega),azd,dT0 (by omega),azc,if_neg (by omega)];by_cases h4:c<240
    .rw[dT0 (by omega),azc,if_pos (by omega)]
    .rw[dF0 (by omega),azd,dT0 (by omega),azc,if_neg (by omega)];by_cases h5:c<245
     .rw[dT0 (by omega),azc,if_pos (by omega)]
     .rw[dF0 (by omega),azd,if_neg (by omega)]
  .rw[dF0 (by omega),azd,dF0 (by omega),azd,dF0 (by omega),azd,if_neg (by omega),if_neg (by omega),if_neg (by omega)]
theorem rune_is {x:List UInt8}{out:List Int}{i:Nat}(hl:x.length<=4000000)(ho:out.length<=5000000)(hi:i<x.length):ozl (x,out,(i:Int))=some (oneR x out i):=by
 unfold ozl oneR;have hd:x.drop i=x[i]::x.drop (i+1):=List.drop_eq_getElem_cons hi;have hb0:=(x[i]'hi).toNat_lt;have hL:(x.drop i).length=x.length-i:=by simp
 have hL2:(x.drop (i+1)).length=x.length-i-1:=by simp;omega
 have hD:=decodeL_N (x.drop i);rw[hL,hd]at hD;simp only[List.getD_cons_zero,List.getD_cons_succ]at hD;rw[<-hd]at hD;simp only;rw[idxB (List.getElem?_eq_getElem hi),aza,vzm (by omega),b3_is hb0,aza,azH (n:=(x.length:Int)-(i:Int)) (by omega) (by omega),hD];have k0:=((x.drop (i+1)).getD 0 0).toNat_lt;have k1:=((x.drop (i+1)).getD 1 0).toNat_lt;have k2:=((x.drop (i+1)).getD 2 0).toNat_lt;generalize hc:(x[i]'hi).toNat=c at *;have m1:=fun h v=>more1 (l:=x.drop (i+1)) h v
 have m2:=fun h v=>more2 (l:=x.drop (i+1)) h v
 have m3:=fun h v=>more3 (l:=x.drop (i+1)) h v
 have r1:=fun v h h2=>JzR (x:=x) (i:=i) (n:=1) (v:=v) (by omega) h (by omega) h2
 have r2:=fun v h h2=>JzR (x:=x) (i:=i) (n:=2) (v:=v) (by omega) h (by omega) h2
 have r3:=fun v h h2=>JzR (x:=x) (i:=i) (n:=3) (v:=v) (by omega) h (by omega) h2
 generalize ((x.drop (i+1)).getD 0 0).toNat=b1 at *;generalize ((x.drop (i+1)).getD 1 0).toNat=b2 at *;generalize ((x.drop (i+1)).getD 2 0).toNat=b3 at *;by_cases h1:c<128
 .rw[if_pos h1];simp only[osum];have ck:=yzs (out:=out) (i:=i) (n:=0) (w:=c) (least:=0) ho (by omega) (by omega);rw[dF0 (by omega),azd,more0_is,aza];simp only[osum];have z0:((0:Nat):Int)=0:=rfl;rw[z0]at ck;rw[ck,decodeN_ascii _ _ _ _ _ h1,if_neg (by omega),if_neg (by simp;omega)]
 .rw[if_neg h1];by_cases h2:194<=c/\c<224
  .rw[if_pos h2];simp only[osum];by_cases hlen:x.length-i<=1
   .rw[dT0 (by omega),azc];have:decodeN (x.length-i) c b1 b2 b3=(65533,1):=by
     unfold decodeN;rw[if_neg h1,if_neg (by omega),if_neg (by omega),if_neg (by omega)]
    rw[this,if_pos ⟨rfl,rfl⟩]
   .have r:=r1 (c%32) (by omega) (by omega);rw[m1 (by omega)]at r;have ck:=yzs (out:=out) (i:=i) (n:=1) (w:=c%32*64+b1%64) (least:=128) ho (by omega) (by omega);have z1:((1:Nat):Int)=1:=rfl;have z2:((128:Nat):Int)=128:=rfl;rw[z1]at r ck;rw[z2]at ck;rw[dF0 (by omega),azd,r,aza];by_cases hb:b1/64=2
    .rw[if_pos hb];simp only[osum];rw[ck];have:decodeN (x.length-i) c b1 b2 b3=(c%32*64+b1%64,2):=by
      unfold decodeN;rw[if_neg h1,if_pos (by omega),if_pos (by omega)]
     rw[this,if_neg (by omega),if_neg (by simp)]
    .rw[if_neg hb];simp only[osum];have:decodeN (x.length-i) c b1 b2 b3=(65533,1):=by
      unfold decodeN;rw[if_neg h1,if_neg (by omega),if_neg (by omega),if_neg (by omega)]
     rw[this,if_pos ⟨rfl,rfl⟩]
  .rw[if_neg h2];by_cases h3:224<=c/\c<240
   .rw[if_pos h3];simp only[osum];by_cases hlen:x.length-i<=2
    .rw[dT0 (by omega),azc];have:decodeN (x.length-i) c b1 b2 b3=(65533,1):=by
      unfold decodeN;rw[if_neg h1,if_neg (by omega),if_neg (by omega),if_neg (by omega)]
     rw[this,if_pos ⟨rfl,rfl⟩]
    .have r:=r2 (c%16) (by omega) (by omega);rw[m2 (by omega)]at r;have ck:=yzs (out:=out) (i:=i) (n:=2) (w:=(c%16*64+b1%64)*64+b2%64) (least:=2048) ho (by omega) (by omega);have z1:((2:Nat):Int)=2:=rfl;have z2:((2048:Nat):Int)=2048:=rfl;rw[z1]at r ck;rw[z2]at ck;rw[dF0 (by omega),azd,r,aza];by_cases hb:b1/64=2/\b2/64=2
     .rw[if_pos hb];simp only[osum];rw[ck];have e:(c%16*64+b1%64)*64+b2%64=c%16*4096+b1%64*64+b2%64:=by omega
      rw[e];by_cases hv:c%16*4096+b1%64*64+b2%64>=2048/\(c%16*4096+b1%64*64+b2%64<55296\/(57344<=c%16*4096+b1%64*64+b2%64/\c%16*4096+b1%64*64+b2%64<=1114111))
      .have:decodeN (x.length-i) c b1 b2 b3=(c%16*4096+b1%64*64+b2%64,3):=by
        unfold decodeN;rw[if_neg h1,if_neg (by omega),if_pos (by omega),if_pos hv]
       rw[this,if_neg (by omega),if_neg (by simp)]
      .have:decodeN (x.length-i) c b1 b2 b3=(65533,1):=by
        unfold decodeN;rw[if_neg h1,if_neg (by omega),if_pos (by omega),if_neg hv]
       rw[this,if_pos (by omega),if_pos ⟨rfl,rfl⟩]
     .rw[if_neg hb];simp only[osum];have:decodeN (x.length-i) c b1 b2 b3=(65533,1):=by
       unfold decodeN;rw[if_neg h1,if_neg (by omega),if_neg (by omega),if_neg (by omega)]
      rw[this,if_pos ⟨rfl,rfl⟩]
   .rw[if_neg h3];by_cases h4:240<=c/\c<245
    .rw[if_pos h4];simp only[osum];by_cases hlen:x.length-i<=3
     .rw[dT0 (by omega),azc];have:decodeN (x.length-i) c b1 b2 b3=(65533,1):=by
       unfold decodeN;rw[if_neg h1,if_neg (by omega),if_neg (by omega),if_neg (by omega)]
      rw[this,if_pos ⟨rfl,rfl⟩]
     .have r:=r3 (c%8) (by omega) (by omega);rw[m3 (by omega)]at r;have ck:=yzs (out:=out) (i:=i) (n:=3) (w:=((c%8*64+b1%64)*64+b2%64)*64+b3%64) (least:=65536) ho (by omega) (by omega);have z1:((3:Nat):Int)=3:=rfl;have z2:((65536:Nat):Int)=65536:=rfl;rw[z1]at r ck;rw[z2]at ck;rw[dF0 (by omega),azd,r,aza];by_cases hb:b1/64=2/\b2/64=2/\b3/64=2
      .rw[if_pos hb];simp only[osum];rw[ck];have e:((c%8*64+b1%64)*64+b2%64)*64+b3%64=c%8*262144+b1%64*4096+b2%64*64+b3%64:=by omega
       rw[e];by_cases hv:c%8*262144+b1%64*4096+b2%64*64+b3%64>=65536/\(c%8*262144+b1%64*4096+b2%64*64+b3%64<55296\/(57344<=c%8*262144+b1%64*4096+b2%64*64+b3%64/\c%8*262144+b1%64*4096+b2%64*64+b3%64<=1114111))
       .have:decodeN (x.length-i) c b1 b2 b3=(c%8*262144+b1%64*4096+b2%64*64+b3%64,4):=by
         unfold decodeN;rw[if_neg h1,if_neg (by omega),if_neg (by omega),if_pos (by omega),if_pos hv]
        rw[this,if_neg (by omega),if_neg (by simp)]
       .have:decodeN (x.length-i) c b1 b2 b3=(65533,1):=by
         unfold decodeN;rw[if_neg h1,if_neg (by omega),if_neg (by omega),if_pos (by omega),if_neg hv]
        rw[this,if_pos (by omega),if_pos ⟨rfl,rfl⟩]
      .rw[if_neg hb];simp only[osum];have:decodeN (x.length-i) c b1 b2 b3=(65533,1):=by
        unfold decodeN;rw[if_neg h1,if_neg (by omega),if_neg (by omega),if_neg (by omega)]
       rw[this,if_pos ⟨rfl,rfl⟩]
    .rw[if_neg h4];simp only[osum];have:decodeN (x.length-i) c b1 b2 b3=(65533,1):=by
      unfold decodeN;rw[if_neg h1];split
      .rw[if_neg (by omega)]
      .rw[if_neg (by omega)];split
       .rw[if_neg (by omega)]
       .rfl
     rw[this,if_pos ⟨rfl,rfl⟩]
theorem oz2 {x:List UInt8}(hl:x.length<=4000000):kzX x=some (if validD x=true then(rs x,true)else([],false)):=by
 obtain⟨y,h1,h2⟩:=nz9 (F:=ozn) (fun z=>x.length-z.2.2.toNat) (fun z=>∃(i:Nat) (out:List Int),z=(x,out,(i:Int))/\i<=x.length/\out.length<=i/\validD (x.drop i)=validD x/\out++rs (x.drop i)=rs x)
  (fun y=>osum y (fun y=>some (y,true)) (fun y=>some y)=some (if validD x=true then(rs x,true)else([],false))) (by
  rintro back z ⟨i,out,rfl,hi,ho,hv,hr⟩ hb;unfold ozn;simp only at hb ⊢;rcases Nat.lt_or_ge i x.length with hlt|hge
  .have hne:x.drop i≠[]:=fun e=>by have:=congrArg List.length e;simp at this;omega
   have hw:=decodeL_width (x.drop i);have hle:=decodeL_le (x.drop i) hne;rw[List.length_drop]at hle;rw[dT0 (by omega),azc,rune_is (by omega) (by omega) hlt,aza];unfold oneR;rw[validD_step _ hne]at hv;by_cases hbad:(decodeL (x.drop i)).1=65533/\(decodeL (x.drop i)).2=1
   .rw[if_pos hbad]at hv ⊢;rw[<-hv];exact⟨_,rfl,rfl⟩
   .rw[if_neg hbad]at hv ⊢;simp only[osum];rw[List.drop_drop]at hv;refine hb _ ⟨i+(decodeL (x.drop i)).2,_,rfl,by omega,by simp;omega,hv,?_⟩ (by simp only;omega);rw[xzX hne,List.drop_drop]at hr;rw[<-hr,List.append_assoc];rfl
  .rw[dF0 (by omega),azd];refine⟨_,rfl,?_⟩;rw[List.drop_eq_nil_of_le hge]at hv hr;rw[<-hv,<-hr];simp[osum,validD_nil,rs_nil]) (x,[],0) ⟨0,[],rfl,by omega,by simp,by simp,by simp⟩ (by simp only;omega)
 unfold kzX;have h3:rzI (x,[],0)=some y:=h1;rw[h3,aza];exact h2
open Go Go.Ev Go.Lib
def ulen:List Int->Nat
 | []=>0
 | r::l=>(if r<65536 then 1 else 2)+ulen l
theorem OzU {x:List UInt8}(hl:x.length<=100000000):∃us,kzV x=some us/\us.length=ulen (rs x):=by
 have key:∃y,pzs ([],x,0)=some y/\(y.1.length=ulen (rs x)):=by
  refine nz9 (F:=kzh) (fun z=>x.length-z.2.2) (fun z=>∃(out:List Int) (p:Nat),z=(out,x,p)/\out.length<=2*p/\(p<x.length\/rs (x.drop p)=[])/\out.length+ulen (rs (x.drop p))=ulen (rs x)) _ ?_ _ ⟨[],0,rfl,by simp,by
   by_cases h:x=[]
   .subst h;exact .inr rfl
   .exact .inl (List.length_pos_iff.2 h),by simp⟩ (by simp only;omega)
  rintro back z ⟨out,p,rfl,ho,hp,hv⟩ hb;unfold kzh;simp only at hb ⊢;by_cases hlt:p<x.length
  .have hne:x.drop p≠[]:=fun e=>by have:=congrArg List.length e;simp at this;omega
   have hr:=Czk x p;have hw:=decodeL_width (x.drop p);have hle:=decodeL_le (x.drop p) hne;rw[List.length_drop]at hle;rw[xzX hne,List.drop_drop]at hv;simp only[ulen]at hv;rw[dT0 hlt,azc,hr];have step:∀us:List Int,us.length=(if((decodeL (x.drop p)).1:Int)<65536 then 1 else 2)->∃y,back (out++us,x,p+(decodeL (x.drop p)).2)=some y/\y.1.length=ulen (rs x):=fun us hus=>by
    refine hb _ ⟨_,_,rfl,?_,?_,?_⟩ (by simp only;omega)
    .simp only[List.length_append,hus];split<;>omega
    .rcases Nat.lt_or_ge (p+(decodeL (x.drop p)).2) x.length with h|h
     .exact .inl h
     .right;rw[List.drop_eq_nil_of_le h];rfl
    .simp only[List.length_append,hus];omega
   have hs:(if((decodeL (x.drop p)).1:Int)<65536 then 1 else 2)<=2:=by split<;>omega
   by_cases h6:((decodeL (x.drop p)).1:Int)<65536
   .rw[dT0 h6,azc,appN (by simp;omega),aza];exact step _ (by rw[if_pos h6];rfl)
   .rw[dF0 h6,azd,appN (by simp;omega),aza];exact step _ (by rw[if_neg h6];rfl)
  .rw[dF0 hlt,azd];rcases hp with h|h
   .exact absurd h hlt
   .rw[h]at hv;exact⟨_,rfl,by simpa[ulen]using hv⟩
 obtain⟨y,h1,h2⟩:=key;refine⟨y.1,?_,h2⟩;unfold kzV;rw[h1];rfl
theorem Kzo {l:List Int}(hl:l.length<=4000000):∃us,jzl l=some us/\us.length=ulen l:=by
 have key:∃y,ozo (l,[],0)=some y/\(y.length=ulen l):=by
  refine nz9 (F:=gz8) (fun z=>l.length-z.2.2.toNat) (fun z=>∃(out:List Int) (i:Nat),z=(l,out,(i:Int))/\i<=l.length/\out.length<=2*i/\out.length+ulen (l.drop i)=ulen l) _ ?_ _ ⟨[],0,rfl,by omega,by simp,by simp⟩ (by simp only;omega);rintro back z ⟨out,i,rfl,hi,ho,hv⟩ hb;unfold gz8;simp only at hb ⊢;rcases Nat.lt_or_ge i l.length with hlt|hge
  .have hd:l.drop i=l[i]::l.drop (i+1):=List.drop_eq_getElem_cons hlt;rw[hd]at hv;simp only[ulen]at hv;rw[dT0 (by omega),azc,idxI (List.getElem?_eq_getElem hlt)];simp only[aza];generalize l[i]=r at *;rw[azH (n:=(i:Int)+1) (by omega) (by omega)];have step:∀us:List Int,us.length=(if r<65536 then 1 else 2)->∃y,back (l,out++us,(i:Int)+1)=some y/\y.length=ulen l:=fun us hus=>by
    refine hb _ ⟨_,i+1,by simp;rfl,by omega,?_,?_⟩ (by simp only;omega)
    .simp only[List.length_append,hus];split<;>omega
    .simp only[List.length_append,hus];omega
   by_cases h6:r<65536
   .rw[dT0 h6,azc,appN (by simp;omega),aza];exact step _ (by rw[if_pos h6];rfl)
   .rw[dF0 h6,azd,appN (by simp;omega),aza];exact step _ (by rw[if_neg h6];rfl)
  .rw[dF0 (by omega),azd];rw[List.drop_eq_nil_of_le hge]at hv;exact⟨_,rfl,by simpa[ulen]using hv⟩
 obtain⟨y,h1,h2⟩:=key;refine⟨y,?_,h2⟩;unfold jzl;rw[h1];rfl
def azZ (x:List UInt8):Int×Int:=if validD x=true then(if 1000<ulen (rs x)then(0,4)else((ulen (rs x):Int),0))else(0,2)
theorem rzc {x:List UInt8}(hl:x.length<=100000000):jze x=some (azZ x):=by
 unfold jze azZ;rw[aza];cases hv:validD x with
 | false=>simp
 | true =>
  obtain⟨us,h1,h2⟩:=OzU hl;rw[Bool.not_true,azd,h1,aza,h2];by_cases h:1000<ulen (rs x)
  .rw[dT0 (by omega),azc];simp[h]
  .rw[dF0 (by omega),azd];simp[h]
theorem fz0 {x:List UInt8}(hl:x.length<=4000000):hzC x=some (azZ x):=by
 unfold hzC azZ;rw[oz2 (by omega),aza];cases hv:validD x with
 | false=>simp
 | true =>
  obtain⟨us,h1,h2⟩:=Kzo (l:=rs x) (by have:=szA x;omega);simp only[if_true,Bool.not_true,azd];rw[h1,aza,h2];by_cases h:1000<ulen (rs x)
  .rw[dT0 (by omega),azc,if_pos h]
  .rw[dF0 (by omega),azd,if_neg h]
open Go Go.Ev Go.Lib
theorem uzj {x:Val}(hl:x.S.length<=3000):∃e,qz4 x=some e/\dzz x=some e/\(e=0->okV x):=by
 obtain⟨K,⟨M,S⟩,s,B,E⟩:=x;simp only at hl;unfold qz4 dzz;simp only;by_cases k0:K<0
 .exact⟨1,by simp[k0],by simp[k0],by omega⟩
 by_cases k4:4<K
 .exact⟨1,by simp[k0,k4],by simp[k0,k4],by omega⟩
 rw[dF0 k0,dF0 k4];simp only[azd];have hK:K=0\/K=1\/K=2\/K=3\/K=4:=by omega
 have hun:=rzc (x:=s) (by omega);have hru:=fz0 (x:=s) (by omega);obtain⟨n,hn⟩:=name_is E;have hn':rzA E=some n:=hn;rcases hK with rfl|rfl|rfl|rfl|rfl
 .unfold pzM ezu;by_cases hM:M=0<;>by_cases hS:S=0<;>by_cases hs:s=[]<;>cases B<;>by_cases hE:E=0<;>simp[hM,hS,hs,hE,okV,vB]
 .unfold pzM ezu;have hc:yzu ⟨M,S⟩=jzt ⟨M,S⟩:=rfl;rcases Nz0 ⟨M,S⟩with⟨h1,h2⟩|⟨e,h1,h2⟩
  .by_cases hs:s=[]<;>cases B<;>by_cases hE:E=0<;>simp[hs,hE,hc,h1,okV,vB,vN,vS,vT,vE,h2]
  .by_cases hs:s=[]<;>cases B<;>by_cases hE:E=0<;>simp[hs,hE,hc,h1,h2]
 .unfold pzM ezu;by_cases hM:M=0<;>by_cases hS:S=0<;>cases B<;>by_cases hE:E=0<;>simp[hM,hS,hE,hun,hru,okV,vB,vN,vS,vT,vE];unfold azZ;cases hv:validD s with
  | true=>simp
  | false=>simp
 .unfold pzM ezu;by_cases hM:M=0<;>by_cases hS:S=0<;>by_cases hs:s=[]<;>cases B<;>by_cases hE:E=0<;>simp[hM,hS,hs,hE,okV,vB,vN,vS,vT,vE]
 .unfold pzM ezu zzu;by_cases hn0:n=[]<;>by_cases hM:M=0<;>by_cases hS:S=0<;>by_cases hs:s=[]<;>cases B<;>simp[hM,hS,hs,hn,hn',hn0,okV,vB,vN,vS,vT,vE]
end Go.Proofs.YtkafbjodbjkieaaGreatDoor
/- PA -/
namespace Go.Proofs.YtkafbjodbjkieaaGreatDoor
open Go Go.Ev Go.Lib
open Go.IntKind (i64 u64 u8 i32 u32 i16 u16)
def iz3 {A S Y:Type}(step:S->A->S⊕Y)(fin:S->Y):S->List A->Y
 | s,[]=>fin s
 | s,a::l=>match step s a with
  | .inl s'=>iz3 step fin s' l
  | .inr y=>y
def rzZ {S Y Z:Type}(b:S->Option Z)(g:Y->Z):S⊕Y->Option Z
 | .inl s=>b s
 | .inr y=>some (g y)
theorem bzG {A S X Y Z:Type}{F:(X->Option Z)->X->Option Z}(mk:S->Nat->X)(g:Y->Z)(l:List A)(step:S->A->S⊕Y)(fin:S->Y)(Pre:S->Nat->Prop)
 (hl:l.length<=1000000000)
 (h:∀back s i (hi:i<l.length),Pre s i->F back (mk s i)=rzZ (fun s'=>back (mk s' (i+1))) g (step s l[i]))
 (hp:∀s i (hi:i<l.length) s',Pre s i->step s l[i] = .inl s'->Pre s' (i+1))
 (hend:∀back s,Pre s l.length->F back (mk s l.length)=some (g (fin s))) (s:S) (h0:Pre s 0):iter F big (mk s 0)=some (g (iz3 step fin s l)):=by
 have key:∀k n i s,i+k=l.length->k<n->Pre s i->iter F n (mk s i)=some (g (iz3 step fin s (l.drop i))):=by
  intro k;induction k with
  | zero =>
   intro n i s hi hn hs;obtain⟨m,rfl⟩:∃m,n=m+1:=⟨n-1,by omega⟩;have:i=l.length:=by omega
   subst this;rw[azz,hend _ _ hs,List.drop_length];rfl
  | succ k ih =>
   intro n i s hi hn hs;obtain⟨m,rfl⟩:∃m,n=m+1:=⟨n-1,by omega⟩;have hlt:i<l.length:=by omega
   rw[azz,h _ _ _ hlt hs,List.drop_eq_getElem_cons hlt];simp only[iz3];cases hst:step s l[i]with
   | inl s'=>exact ih m (i+1) s' (by omega) (by omega) (hp _ _ hlt _ hs hst)
   | inr y=>rfl
 have:=key l.length big 0 s (by omega) (by rw[bzT];omega) h0;simpa using this
theorem kzo {A X Z:Type}{F:(X->Option Z)->X->Option Z}(mk:Nat->X)(g:Option Nat->Z)(l:List A)(p:A->Bool)(hl:l.length<=1000000000)
 (h:∀back i (hi:i<l.length),F back (mk i)=bif p l[i]then some (g (some i))else back (mk (i+1)))
 (hend:∀back,F back (mk l.length)=some (g none)):iter F big (mk 0)=some (g (l.findIdx? p)):=by
 have key:∀k n i,i+k=l.length->k<n->iter F n (mk i)=some (g (((l.drop i).findIdx? p).map (·+i))):=by
  intro k;induction k with
  | zero =>
   intro n i hi hn;obtain⟨m,rfl⟩:∃m,n=m+1:=⟨n-1,by omega⟩;have:i=l.length:=by omega
   subst this;rw[azz,hend,List.drop_length];rfl
  | succ k ih =>
   intro n i hi hn;obtain⟨m,rfl⟩:∃m,n=m+1:=⟨n-1,by omega⟩;have hlt:i<l.length:=by omega
   rw[azz,h _ _ hlt,List.drop_eq_getElem_cons hlt,List.findIdx?_cons];cases hpl:p l[i]with
   | true=>simp
   | false =>
    simp only[cond_false];rw[ih m (i+1) (by omega) (by omega)];simp only[Bool.false_eq_true,if_false,Option.map_map];congr 3;funext j;simp only[Function.comp];omega
 have:=key l.length big 0 (by omega) (by rw[bzT];omega);simpa using this
theorem idxG {A:Type}{l:List A}{i:Nat}(hi:i<l.length):idx l (i:Int)=some l[i]:=by simp[idx,hi]
theorem wr1 {i:Nat}(h:i<1000000000):i64.wrap ((i:Int)+1)=((i+1:Nat):Int):=by
 simp[IntKind.wrap,IntKind.bits,IntKind.signed];omega
theorem ltT {i n:Nat}(h:i<n):decide ((i:Int)<(n:Int))=true:=dT0 (by omega)
theorem ltF {n:Nat}:decide ((n:Int)<(n:Int))=false:=dF0 (by omega)
theorem cz3 {A S Y:Type}(f:S->A->S)(fin:S->Y):∀(l:List A) (s:S),iz3 (fun s a=>.inl (f s a)) fin s l=fin (l.foldl f s)
 | [],_=>rfl
 | a::l,s=>by simp only[iz3,List.foldl_cons];exact cz3 f fin l _
def sz:Nat->Expr->Nat
 | 0,_=>1
 | d+1,e=>1+(e.Kids.map (sz d)).sum
def tr:Nat->Expr->Prop
 | 0,_=>False
 | d+1,e=>e.V.S.length<=3000/\∀k∈e.Kids,tr d k
theorem IzX:∀d e,1<=sz d e
 | 0,_=>Nat.le_refl _
 | d+1,e=>by unfold sz;omega
theorem JzQ:∀(l:List Expr) (f:Expr->Nat),(∀k∈l,1<=f k)->l.length<=(l.map f).sum
 | [],_,_=>by simp
 | k::l,f,h=>by
  have h1:=JzQ l f fun x hx=>h x (by simp[hx])
  have h2:=h k (by simp);rw[List.map_cons,List.sum_cons,List.length_cons];omega
theorem Jzy (d:Nat)(e:Expr):e.Kids.length+1<=sz (d+1) e:=by
 have:=JzQ e.Kids (sz d) fun k _=>IzX d k
 unfold sz;omega
theorem mem_sum:∀{l:List Expr} {f:Expr->Nat} {k:Expr},k∈l->f k<=(l.map f).sum
 | x::l,f,k,h=>by
  rw[List.map_cons,List.sum_cons];rcases List.mem_cons.1 h with rfl|h
  .omega
  .have:=mem_sum (f:=f) h;omega
theorem kid_sz {d:Nat}{e k:Expr}(h:k∈e.Kids):sz d k+1<=sz (d+1) e:=by
 have:=mem_sum (f:=sz d) h
 show sz d k+1<=1+(e.Kids.map (sz d)).sum
 omega
theorem MzH {self:Expr×Int×Int×Int->Option (Bool×Int)}{d m:Nat}{e:Expr}(hm:m<=1000)(hd:d<=1000)
 (hs:∀k∈e.Kids,∀n:Nat,n<=m->∃b n',self (k,(d:Int),(m:Int),(n:Int))=some (b,((n':Nat):Int))/\(b=true->n'<=m/\n+sz d k<=n'/\tr d k)) :
 ∀t N (n i:Nat),t<N->m<n+t->n<=m->i<=n->i<=e.Kids.length->∃r,iter (kzf self) N (((d+1:Nat):Int),(m:Int),(n:Int),e,(i:Int))=some r /\
  (∀n',r = .inl ((),n')->∃n2:Nat,n'=n2/\n2<=m/\n+((e.Kids.drop i).map (sz d)).sum<=n2/\∀k∈e.Kids.drop i,tr d k)/\∀b n',r = .inr (b,n')->b=false/\∃n2:Nat,n'=n2
 | 0,_,n,i,_,h,h',_,_=>absurd h (by omega)
 | t+1,0,_,_,h,_,_,_,_=>absurd h (by omega)
 | t+1,N+1,n,i,hN,ht,hn,hin,hi=>by
  rw[azz];generalize hB:iter (kzf self) N=B;unfold kzf;simp only[azj];by_cases hlt:i<e.Kids.length
  .rw[ltT hlt,azc,idxG hlt,aza,show((d+1:Nat):Int)-1=((d:Nat):Int) by omega,azH (by omega) (by omega)];obtain⟨b,n1,h1,h2⟩:=hs _ (List.getElem_mem hlt) n hn;rw[h1,aza];cases b with
   | false=>exact⟨_,rfl,(fun n' h=>by cases h),fun b n' h=>by cases h;exact⟨rfl,_,rfl⟩⟩
   | true =>
    obtain⟨h3,h4,h5⟩:=h2 rfl;have sp:=IzX d e.Kids[i];simp only[Bool.not_true,azd];rw[wr1 (by omega)];obtain⟨r,e1,e2,e3⟩:=MzH hm hd hs t N n1 (i+1) (by omega) (by omega) h3 (by omega) hlt;rw[hB]at e1;refine⟨r,e1,fun n' h=>?_,e3⟩;obtain⟨n2,a1,a2,a3,a4⟩:=e2 n' h;rw[List.drop_eq_getElem_cons hlt];refine⟨n2,a1,a2,by rw[List.map_cons,List.sum_cons];omega,fun k hk=>?_⟩;rcases List.mem_cons.1 hk with rfl|hk
    .exact h5
    .exact a4 k hk
  .have hi:i=e.Kids.length:=by omega
   subst hi;rw[ltF,azd];refine⟨_,rfl,fun n' h=>?_,fun b n' h=>by cases h⟩;cases h;exact⟨n,rfl,hn,by simp,by simp⟩
theorem few_is:∀(d N:Nat) (e:Expr) (m n:Nat),d<N->d<=1000->m<=1000->n<=m->∃b n',iter fz7 N (e,(d:Int),(m:Int),(n:Int))=some (b,((n':Nat):Int))/\(b=true->n'<=m/\n+sz d e<=n'/\tr d e)
 | _,0,_,_,_,h,_,_,_=>absurd h (by omega)
 | 0,N+1,e,m,n,_,_,hm,hn=>by
  rw[azz];unfold fz7;simp only;rw[wr1 (by omega)];exact⟨false,_,rfl,fun h=>by cases h⟩
 | d+1,N+1,e,m,n,hN,hd,hm,hn=>by
  rw[azz];generalize hS:iter fz7 N=S;unfold fz7;simp only[azj];rw[wr1 (by omega),dF0 (show ¬((d+1:Nat):Int)=0 by omega),azd];by_cases h1:(m:Int)<((n+1:Nat):Int)
  .rw[dT0 h1];exact⟨false,_,rfl,fun h=>by cases h⟩
  rw[dF0 h1,azd];by_cases h2:3000<((e.V.S.length:Nat):Int)
  .rw[dT0 h2];exact⟨false,_,rfl,fun h=>by cases h⟩
  rw[dF0 h2,azd];obtain⟨r,e1,e2,e3⟩:=MzH (self:=S) (d:=d) (m:=m) (e:=e) hm (by omega)
   (fun k _ n hn=>by
    obtain⟨b,n',a1,a2⟩:=few_is d N k m n (by omega) (by omega) hm hn;rw[<-hS];exact⟨b,n',a1,a2⟩) (m+1) big (n+1) 0 (by rw[bzT];omega) (by omega) (by omega) (by omega) (by omega)
  rw[show szM S (((d+1:Nat):Int),(m:Int),((n+1:Nat):Int),e,0)=some r from e1,aza];rcases r with⟨_,n2⟩|⟨b,n2⟩
  .obtain⟨n3,rfl,a2,a3,a4⟩:=e2 n2 rfl;refine⟨true,n3,rfl,fun _=>⟨a2,?_,?_⟩⟩
   .show n+(1+(e.Kids.map (sz d)).sum)<=n3
    rw[List.drop_zero]at a3;omega
   .rw[List.drop_zero]at a4;exact⟨by omega,a4⟩
  .obtain⟨rfl,n3,rfl⟩:=e3 _ _ rfl;exact⟨false,n3,rfl,fun h=>by cases h⟩
theorem Few_is {e:Expr}{m:Nat}(hm:m<=1000):∃b,kzq (e,(m:Int))=some b/\(b=true->sz 40 e<=m/\tr 40 e):=by
 obtain⟨b,n,h1,h2⟩:=few_is 40 big e m 0 (by rw[bzT];omega) (by omega) hm (by omega);unfold kzq;simp only[azj];have h1:yzG (e,40,(m:Int),0)=some (b,(n:Int)):=h1;rw[h1,aza];exact⟨b,rfl,fun h=>by obtain⟨a1,a2,a3⟩:=h2 h;exact⟨by omega,a3⟩⟩
theorem mzV {d:Nat}{e k:Expr}(h:tr (d+1) e)(hk:k∈e.Kids):tr d k:=h.2 k hk
theorem lenK {d m:Nat}{e:Expr}(h:sz (d+1) e<=m):e.Kids.length<m:=by have:=Jzy d e;omega
theorem szK {d m:Nat}{e k:Expr}(h:sz (d+1) e<=m)(hk:k∈e.Kids):sz d k<=m:=by have:=kid_sz (d:=d) hk;omega
def okK (e:Expr):Prop:=1<=e.Kind/\e.Kind<=10/\(e.Kind=1->dzz e.V=some 0)/\(e.Kind=7->e.Kids.length=1)/\(e.Kind=8->e.Kids.length=2)/\(e.Kind=10->e.Kids.length=1)/\e.Kids.length<=30/\(2<=e.Kind->e.Kind<=5->czY e.A=some 0)
theorem b2_tot (x:Expr×Bool×Int×Bool×Bool×Int):∃b,lzy x=some b:=by
 unfold lzy
 repeat' apply ezX
 all_goals exact⟨_,rfl⟩
theorem b3_tot (x:Expr×Bool):∃b,dz6 x=some b:=by
 unfold dz6
 repeat' apply ezX
 all_goals exact⟨_,rfl⟩
theorem Mzf (a:Area):∃b,czY a=some b:=by
 have h:∀r,∃b,izn r=some b:=fun r=>by
  have:∃g,fzd ⟨r.Row,r.Col⟩=some g:=by
   unfold fzd
   repeat' apply ezX
   all_goals exact⟨_,rfl⟩
  obtain⟨g,hg⟩:=this;unfold izn;rw[hg,aza];exact ezX ⟨_,rfl⟩ ⟨_,rfl⟩
 obtain⟨x,hx⟩:=h a.A;obtain⟨y,hy⟩:=h a.B;unfold czY;rw[hx,aza,hy,aza];exact ezX ⟨_,rfl⟩ ⟨_,rfl⟩
theorem b5_kids {e:Expr}{k lo hi:Int}{b:Bool}(h:czx (e,k,lo,hi)=some b)(hb:b=false):(0<k->e.Kids.length=k)/\e.Kids.length<=30:=by
 subst hb;unfold czx at h;by_cases h1:e.Op<lo
 .simp[h1]at h
 by_cases h2:hi<e.Op
 .simp[h1,h2]at h
 by_cases h3:0<k
 .by_cases h4:(e.Kids.length:Int)=k
  .simp[h1,h2,h3,h4]at h;exact⟨fun _=>h4,by omega⟩
  .simp[h1,h2,h3,h4]at h
 .simp[h1,h2,h3]at h;exact⟨fun c=>absurd c h3,by omega⟩
theorem b5_tot (x:Expr×Int×Int×Int):∃b,czx x=some b:=by
 unfold czx
 repeat' apply ezX
 all_goals exact⟨_,rfl⟩
theorem tail_is (e:Expr)(s:Bool)(k:Int):∃r,(obnd (dz6 (e,s)) fun y=>brn y (some 1) (obnd (dz7 (0,0,e.Kind)) fun y_4=>obnd (czx (e,k,y_4)) fun y=>brn y (some (1:Int)) (some 0)))=some r/\(r=0->(0<k->e.Kids.length=k)/\e.Kids.length<=30):=by
 obtain⟨b,hb⟩:=b3_tot (e,s);rw[hb,aza];cases b with
 | true=>exact⟨_,rfl,fun h=>by cases h⟩
 | false =>
  have:∃z,dz7 (0,0,e.Kind)=some z:=by
   unfold dz7
   repeat' apply ezX
   all_goals exact⟨_,rfl⟩
  obtain⟨z,hz⟩:=this;obtain⟨c,hc⟩:=b5_tot (e,k,z);rw[azd,hz,aza,hc,aza];cases c with
  | true=>exact⟨_,rfl,fun h=>by cases h⟩
  | false=>exact⟨_,rfl,fun _=>b5_kids hc rfl⟩
theorem JzU {e:Expr}(hl:e.V.S.length<=3000):∃r,fzg e=some r/\(r=0->okK e):=by
 unfold fzg;simp only[azj];unfold jzs;by_cases h1:e.Kind<1
 .rw[dT0 h1];exact⟨1,rfl,fun h=>by cases h⟩
 by_cases h2:10<e.Kind
 .rw[dF0 h1,dT0 h2];exact⟨1,rfl,fun h=>by cases h⟩
 rw[dF0 h1,dF0 h2];simp only[azd,aza];have hy:∃y,lzB e.Kind=some y/\(e.Kind=1->y.1=true)/\(e.Kind=7->y.2.2.2.2=1)/\(e.Kind=8->y.2.2.2.2=2)/\(e.Kind=10->y.2.2.2.2=1)/\(2<=e.Kind->e.Kind<=5->0<y.2.1):=by
  rcases(show e.Kind=1\/e.Kind=2\/e.Kind=3\/e.Kind=4\/e.Kind=5\/e.Kind=6\/e.Kind=7\/e.Kind=8\/e.Kind=9\/e.Kind=10 by omega)with h|h|h|h|h|h|h|h|h|h<;>rw[h]<;>exact⟨_,rfl,by decide,by decide,by decide,by decide,by decide⟩
 obtain⟨y,hs,k1,k7,k8,k10,kA⟩:=hy;rw[hs,aza];obtain⟨b,hb⟩:=b2_tot (e,y.1,y.2.1,y.2.2.1,y.2.2.2);rw[hb,aza];cases b with
 | true=>exact⟨_,rfl,fun h=>by cases h⟩
 | false =>
  rw[azd];obtain⟨t,ht,htk⟩:=tail_is e y.2.2.1 y.2.2.2.2;have ok:(e.Kind=1->dzz e.V=some 0)->(0<y.2.1->czY e.A=some 0)->t=0->okK e:=fun hv hA h0=>by
   obtain⟨a1,a2⟩:=htk h0;refine⟨by omega,by omega,hv,fun h=>?_,fun h=>?_,fun h=>?_,a2,fun b1 b2=>hA (kA b1 b2)⟩
   .have:=a1 (by rw[k7 h];omega);rw[k7 h]at this;omega
   .have:=a1 (by rw[k8 h];omega);rw[k8 h]at this;omega
   .have:=a1 (by rw[k10 h];omega);rw[k10 h]at this;omega
  obtain⟨g,hg⟩:=Mzf e.A;rw[hg,ht];cases hv:y.1 with
  | true =>
   obtain⟨c,_,hc,_⟩:=uzj hl;rw[azc,hc,aza];by_cases h0:c=0
   .subst h0;rw[dT0 rfl];simp only[Bool.not_true,azd];by_cases hk:e.V.Kind=0
    .rw[dT0 hk];exact⟨_,rfl,fun h=>by cases h⟩
    rw[dF0 hk,azd];by_cases hp:0<y.2.1
    .rw[dT0 hp,azc,aza];by_cases hgg:g=0
     .rw[dT0 hgg];exact⟨t,rfl,ok (fun _=>hc) fun _=>by rw[hg,hgg]⟩
     .rw[dF0 hgg];exact⟨_,rfl,fun h=>by cases h⟩
    .rw[dF0 hp];exact⟨t,rfl,ok (fun _=>hc) fun c=>absurd c hp⟩
   .rw[dF0 h0];exact⟨c,rfl,fun h=>absurd h h0⟩
  | false =>
   have nv:e.Kind=1->dzz e.V=some 0:=fun h=>by rw[k1 h]at hv;cases hv
   rw[azd];by_cases hp:0<y.2.1
   .rw[dT0 hp,azc,aza];by_cases hgg:g=0
    .rw[dT0 hgg];exact⟨t,rfl,ok nv fun _=>by rw[hg,hgg]⟩
    .rw[dF0 hgg];exact⟨_,rfl,fun h=>by cases h⟩
   .rw[dF0 hp];exact⟨t,rfl,ok nv fun c=>absurd c hp⟩
theorem czz {X Z:Type}{F:(X->Option Z)->X->Option Z}(mk:Nat->X)(n:Nat)(C:Nat->Prop)(Q:Z->Prop)(z0:Z)(hn:n<=1000000000)
 (h:∀back i,i<n->(F back (mk i)=back (mk (i+1))/\C i)\/∃z,F back (mk i)=some z/\Q z) (hend:∀back,F back (mk n)=some z0) :
 ∃z,iter F big (mk 0)=some z/\(Q z\/z=z0/\∀i,i<n->C i):=by
 have key:∀k N i,i+k=n->k<N->∃z,iter F N (mk i)=some z/\(Q z\/z=z0/\∀j,i<=j->j<n->C j):=by
  intro k;induction k with
  | zero =>
   intro N i hi hN;obtain⟨m,rfl⟩:∃m,N=m+1:=⟨N-1,by omega⟩;have:i=n:=by omega
   subst this;exact⟨z0,by rw[azz,hend],.inr ⟨rfl,fun j h1 h2=>absurd h2 (by omega)⟩⟩
  | succ k ih =>
   intro N i hi hN;obtain⟨m,rfl⟩:∃m,N=m+1:=⟨N-1,by omega⟩;rcases h (iter F m) i (by omega)with⟨h1,h2⟩|⟨z,h1,h2⟩
   .obtain⟨z,e1,e2⟩:=ih m (i+1) (by omega) (by omega);refine⟨z,by rw[azz,h1,e1],?_⟩;rcases e2 with e2|⟨hz,e2⟩
    .exact .inl e2
    .refine .inr ⟨hz,fun j a b=>?_⟩;by_cases c:j=i
     .rw[c];exact h2
     .exact e2 j (by omega) b
   .exact⟨z,by rw[azz,h1],.inl h2⟩
 obtain⟨z,e1,e2⟩:=key n big 0 (by omega) (by rw[bzT];omega);rcases e2 with e2|⟨hz,e2⟩
 .exact⟨z,e1,.inl e2⟩
 .exact⟨z,e1,.inr ⟨hz,fun j hj=>e2 j (by omega) hj⟩⟩
def pre:Nat->Int->Expr->List Node2
 | 0,_,_=>[]
 | d+1,k,e=>⟨e,k⟩::e.Kids.flatMap (pre d (k+1))
theorem Cz3:∀(d:Nat) (k:Int) (e:Expr),tr d e->(pre d k e).length=sz d e
 | 0,_,_,h=>h.elim
 | d+1,k,e,h=>by
  have key:∀l:List Expr,(∀x∈l,tr d x)->(l.flatMap (pre d (k+1))).length=(l.map (sz d)).sum:=fun l=>by
   induction l with
   | nil=>intro _;rfl
   | cons x l ih =>
    intro h;rw[List.flatMap_cons,List.length_append,List.map_cons,List.sum_cons,Cz3 d (k+1) x (h x (by simp)),ih fun y hy=>h y (by simp[hy])]
  show(_::_:List Node2).length=1+_
  rw[List.length_cons,key e.Kids h.2];omega
theorem inbL {n k:Nat}(h:k<n)(h1:n<=1000000):inb n (i64.wrap ((((k+1:Nat):Int))-1))=some k:=by
 rw[azH (by omega) (by omega)];unfold inb;rw[dT0 (by omega),dT0 (by omega)];simp
theorem sub0 {A:Type}{zs:List A}{a:A}(h:zs.length<=1000000):sub (zs++[a]) 0 (i64.wrap ((((zs++[a]).length:Nat):Int)-1))=some zs:=by
 rw[List.length_append,List.length_singleton,azH (by omega) (by omega)];unfold sub;rw[dT0 (by omega),dT0 (by omega),dT0 (by simp;omega)];have:(((zs.length+1:Nat):Int)-1).toNat=zs.length:=by omega
 simp only[Bool.and_self,cond_true,this];simp
theorem Hzr {e:Expr}{k:Int}{ks:List Expr}(hk:0<=k/\k<=1000):∀(l:List (Int×Expr)) (zs:List Node2),zs.length+l.length<=100000 ->
 jzI kzd l (zs,(),⟨e,k⟩,ks)=some (zs++l.map (fun p=>⟨p.2,k+1⟩),(),⟨e,k⟩,ks)
 | [],zs,_=>by simp[jzI]
 | p::l,zs,h=>by
  simp only[List.length_cons]at h;have e1:kzd p (zs,(),⟨e,k⟩,ks)=some (zs++[⟨p.2,k+1⟩],(),⟨e,k⟩,ks):=by
   unfold kzd;simp only[azj];rw[appN (by simp;omega),aza,azH (by omega) (by omega)]
  rw[jzI,e1,aza,Hzr hk l _ (by simp;omega)];simp
theorem revs_kids {A:Type}(l:List A)(f:A->Node2):(revs l).map (fun p=>f p.2)=(l.map f).reverse:=by
 unfold revs;rw[List.map_reverse,List.map_map];congr 1;have:((fun p:Int×A=>f p.2) ∘ fun p:A×Nat=>((p.2:Int),p.1))=f ∘ Prod.fst:=rfl;rw[this,<-List.map_map,List.zipIdx_map_fst]
theorem kids_is {e:Expr}{k:Int}{zs:List Node2}(hk:0<=k/\k<=1000)(hz:zs.length+e.Kids.length<=100000):
 mzw (zs,(),⟨e,k⟩,e.Kids)=some (zs++(e.Kids.map fun x=>(⟨x,k+1⟩:Node2)).reverse,()):=by
 unfold mzw pze szL;have hl:(revs e.Kids).length=e.Kids.length:=by simp[revs]
 rw[Hzr hk _ _ (by rw[hl];exact hz),aza,revs_kids e.Kids fun x=>⟨x,k+1⟩]
theorem step_is {e:Expr}{k:Int}{zs out:List Node2}{back:List Node2×List Node2×Unit->Option ((List Node2×List Node2)×Unit)}(hk:0<=k/\k<=1000)(hz:zs.length+e.Kids.length<=100000)(ho:out.length<=100000):
 izm back (zs++[⟨e,k⟩],out,())=obnd (back (zs++(e.Kids.map fun x=>(⟨x,k+1⟩:Node2)).reverse,out++[⟨e,k⟩],())) fun y=>some (y.1,()):=by
 unfold izm;simp only[azj];have hl1:(zs++[(⟨e,k⟩:Node2)]).length=zs.length+1:=by simp
 have e1:nth (zs++[(⟨e,k⟩:Node2)]) zs.length=some ⟨e,k⟩:=by unfold nth;simp
 have e2:sub (zs++[(⟨e,k⟩:Node2)]) 0 (i64.wrap (((zs.length+1:Nat):Int)-1))=some zs:=by
  have:=sub0 (zs:=zs) (a:=(⟨e,k⟩:Node2)) (by omega);rw[hl1]at this;exact this
 have e3:czm e.Kids=some e.Kids:=rfl;rw[dF0 (by rw[hl1];omega),azd,hl1,inbL (by omega) (by omega),aza,Nat.zero_add,e1,aza,e2,aza,appN (by simp;omega),aza];simp only;rw[e3,aza,kids_is hk hz,aza]
abbrev Pl:=Nat×Int×Expr
def ofP (p:Pl):Node2:=⟨p.2.2,p.2.1⟩
def okP (p:Pl):Prop:=tr p.1 p.2.2/\0<=p.2.1/\p.2.1+p.1<=1000
def tot (S:List Pl):Nat:=(S.map fun p=>sz p.1 p.2.2).sum
theorem Lzp:∀(n N:Nat) (S:List Pl) (out:List Node2),tot S<=n->n<N->(∀p∈S,okP p)->out.length+n<=10000 ->
 iter izm N ((S.map ofP).reverse,out,())=some (([],out++S.flatMap fun p=>pre p.1 p.2.1 p.2.2),())
 | n,0,_,_,_,h,_,_=>by omega
 | n,N+1,[],out,_,_,_,_=>by
  rw[azz];unfold izm;simp
 | n,N+1,(0,k,e)::S,out,_,_,h,_=>False.elim (h (0,k,e) (by simp)).1
 | n,N+1,(d+1,k,e)::S,out,hn,hN,h,ho=>by
  obtain⟨ht,hk0,hk1⟩:=h (d+1,k,e) (by simp);simp only at ht hk0 hk1;have hS:S.length<=tot S:=by
   have:=JzQ;clear hn hN h ho ht hk0 hk1;induction S with
   | nil=>simp[tot]
   | cons p S ih =>
    have:=IzX p.1 p.2.2;simp only[tot,List.map_cons,List.sum_cons,List.length_cons]at ih ⊢;omega
  have ht0:tot ((d+1,k,e)::S)=sz (d+1) e+tot S:=by simp[tot]
  have hkz:=Jzy d e;rw[ht0]at hn;have hlen:((S.map ofP).reverse).length=S.length:=by simp
  have e0:(((d+1,k,e)::S).map ofP).reverse=(S.map ofP).reverse++[⟨e,k⟩]:=by simp[ofP]
  have e5:tot ((e.Kids.map fun x=>((d,k+1,x):Pl))++S)+1=sz (d+1) e+tot S:=by
   simp only[tot,List.map_append,List.sum_append,List.map_map]
   show _=1+(e.Kids.map (sz d)).sum+_
   have:((fun p:Pl=>sz p.1 p.2.2) ∘ fun x=>((d,k+1,x):Pl))=sz d:=rfl;rw[this];omega
  have ih:=Lzp (n-1) N ((e.Kids.map fun x=>((d,k+1,x):Pl))++S) (out++[⟨e,k⟩]) (by omega) (by omega) (fun p hp=>by
   rcases List.mem_append.1 hp with hp|hp
   .obtain⟨x,hx,rfl⟩:=List.mem_map.1 hp;exact⟨ht.2 x hx,by simp only;omega,by simp only;omega⟩
   .exact h p (by simp[hp])) (by simp;omega)
  have e4:(S.map ofP).reverse++(e.Kids.map fun x=>(⟨x,k+1⟩:Node2)).reverse=(((e.Kids.map fun x=>((d,k+1,x):Pl))++S).map ofP).reverse:=by
   rw[List.map_append,List.reverse_append,List.map_map];rfl
  rw[e0,azz,step_is ⟨hk0,by omega⟩ (by omega) (by omega),e4,ih,aza];rw[List.flatMap_append,List.flatMap_cons,List.append_assoc];have:((e.Kids.map fun x=>((d,k+1,x):Pl)).flatMap fun p=>pre p.1 p.2.1 p.2.2)=e.Kids.flatMap (pre d (k+1)):=by
   rw[List.flatMap_map]
  rw[this];simp[pre]
theorem GzJ {e:Expr}(hs:sz 40 e<=1000)(ht:tr 40 e):nz5 e=some (pre 40 1 e):=by
 have hkz:e.Kids.length+1<=sz 40 e:=Jzy 39 e;have e5:tot (e.Kids.map fun x=>((39,2,x):Pl))+1=sz 40 e:=by
  simp only[tot,List.map_map]
  show _=1+(e.Kids.map (sz 39)).sum
  have:((fun p:Pl=>sz p.1 p.2.2) ∘ fun x=>((39,2,x):Pl))=sz 39:=rfl;rw[this];omega
 have hw:=Lzp 1000 big (e.Kids.map fun x=>((39,2,x):Pl)) [⟨e,1⟩] (by omega) (by rw[bzT];omega) (fun p hp=>by
  obtain⟨x,hx,rfl⟩:=List.mem_map.1 hp;exact⟨ht.2 x hx,by simp,by simp⟩) (by simp)
 have key:pzf e=some (.inr (pre 40 1 e)):=by
  have e4:(e.Kids.map fun x=>(⟨x,1+1⟩:Node2)).reverse=((e.Kids.map fun x=>((39,2,x):Pl)).map ofP).reverse:=by
   rw[List.map_map];rfl
  unfold pzf;simp only[azj];have a1:inb [(⟨e,1⟩:Node2)].length (i64.wrap ((([(⟨e,1⟩:Node2)].length:Nat):Int)-1))=some 0:=rfl;have a2:sub [(⟨e,1⟩:Node2)] 0 (i64.wrap ((([(⟨e,1⟩:Node2)].length:Nat):Int)-1))=some []:=rfl;have a3:nth [(⟨e,1⟩:Node2)] (0+0)=some ⟨e,1⟩:=rfl;have a4:czm e.Kids=some e.Kids:=rfl;rw[a1,aza,a3,aza,a2,aza,appN (by simp),aza,a4,aza,kids_is (by simp) (by simp;omega),aza];simp only[List.nil_append];rw[e4]
  show obnd (iter izm big _) _=_
  rw[hw,aza];have:((e.Kids.map fun x=>((39,2,x):Pl)).flatMap fun p=>pre p.1 p.2.1 p.2.2)=e.Kids.flatMap (pre 39 2):=by
   rw[List.flatMap_map]
  rw[this];rfl
 unfold nz5;rw[azj,key];rfl
theorem brnA (b c:Bool):brn b (some c) (some false)=some (b&&c):=by cases b<;>rfl
theorem brnO (b c:Bool):brn b (some true) (some c)=some (b||c):=by cases b<;>rfl
theorem brnN {α:Type}(b:Bool)(x y:Option α):brn (!b) x y=brn b y x:=by cases b<;>rfl
theorem obndB {α β:Type}(b:Bool)(x y:Option α)(f:α->Option β):obnd (brn b x y) f=brn b (obnd x f) (obnd y f):=by cases b<;>rfl
theorem brnI {α:Type}(b:Bool)(x y:α):brn b x y=if b=true then x else y:=by cases b<;>rfl
theorem goodE (x:Cell):lz6 x=fzd x:=rfl
def gd (x:Ref):Bool:=decide (0<=x.Row)&&(decide (x.Row<65536)&&(decide (0<=x.Col)&&decide (x.Col<256)))
theorem sza (x:Ref):ozp x=some (bif gd x then 0 else 12):=by
 unfold ozp lz6 gd;simp only[brnA,aza];rw[brnN];cases(decide (0<=x.Row)&&(decide (x.Row<65536)&&(decide (0<=x.Col)&&decide (x.Col<256))))<;>rfl
theorem Mze (a:Area):lzU a=some (bif gd a.A&&gd a.B then 0 else 12):=by
 unfold lzU;rw[sza,sza];cases gd a.A<;>cases gd a.B<;>rfl
theorem wz0 (a:Area):czY a=some (bif gd a.A&&gd a.B then 0 else 12):=by
 unfold czY;have h:∀x,izn x=ozp x:=fun _=>rfl
 rw[h,h,sza,sza];cases gd a.A<;>cases gd a.B<;>rfl
theorem part_eq {e:Expr}(hl:e.V.S.length<=3000):qzb e=fzg e:=by
 obtain⟨c,hc1,hc2,_⟩:=uzj hl;obtain⟨K,V,⟨⟨a1,a2,a3,a4⟩,⟨b1,b2,b3,b4⟩⟩,Sh,Op,Kids⟩:=e;simp only at hc1 hc2;unfold qzb fzg dzT jzs;simp only[azj,hc1,hc2,Mze,wz0];by_cases k0:K<1
 .simp[k0,show ¬1<=K by omega]
 by_cases k1:10<K
 .simp[k0,k1,show 1<=K by omega,show ¬K<=10 by omega]
 have hK:K=1\/K=2\/K=3\/K=4\/K=5\/K=6\/K=7\/K=8\/K=9\/K=10:=by omega
 have hz:gd ⟨0,0,false,false⟩=true:=rfl;obtain⟨vk,⟨vm,vs⟩,vt,vb,ve⟩:=V;rcases hK with rfl|rfl|rfl|rfl|rfl|rfl|rfl|rfl|rfl|rfl
 all_goals
  simp (config:={decide:=false}) only[wzr,Az2,azj,lzB,lzy,dz6,dz7,czx,qza,dzT,aza,azc,azd,brnA,Int.reduceEq,Int.reduceLT,Int.reduceLE,decide_true,decide_false,cond_true,cond_false,Bool.not_true,Bool.not_false,Bool.and_true,Bool.true_and,Bool.and_false,Bool.false_and,List.length_nil,Int.ofNat_zero,obndB];simp only[brnI]
  grind
def mx (l:List Int):Int:=l.foldl (fun s n=>if s<n then n else s) 0
theorem mx_is:∀(l:List Int) (s:Int),(∀m,m<l.foldl (fun s n=>if s<n then n else s) s↔m<s\/∃n∈l,m<n)
 | [],s,m=>by simp
 | a::l,s,m=>by
  rw[List.foldl_cons,mx_is l _ m];by_cases c:s<a
  .rw[if_pos c];simp only[List.mem_cons,exists_eq_or_imp];constructor
   .rintro(h|h)
    .exact .inr (.inl h)
    .exact .inr (.inr h)
   .rintro(h|h|h)
    .exact .inl (by omega)
    .exact .inl h
    .exact .inr h
  .rw[if_neg c];simp only[List.mem_cons,exists_eq_or_imp];constructor
   .rintro(h|h)
    .exact .inl h
    .exact .inr (.inr h)
   .rintro(h|h|h)
    .exact .inl h
    .exact .inl (by omega)
    .exact .inr h
def dp:Nat->Expr->Int
 | 0,_=>0
 | d+1,e=>mx (e.Kids.map (dp d))+1
theorem dp_le:∀(d:Nat) (e:Expr),0<=dp d e/\dp d e<=d
 | 0,_=>by simp[dp]
 | d+1,e=>by
  have h:=mx_is (e.Kids.map (dp d)) 0;have h1:=h (-1);have h2:=h d;simp only[dp,mx];constructor
  .have:=h1.2 (.inl (by omega));omega
  .have:¬((d:Int)<(e.Kids.map (dp d)).foldl (fun s n=>if s<n then n else s) 0):=fun c=>by
    rcases h2.1 c with c|⟨n,hn,c⟩
    .omega
    .obtain⟨k,_,rfl⟩:=List.mem_map.1 hn;have:=(dp_le d k).2;omega
   omega
theorem Mzx:∀(d N:Nat) (e:Expr),d<N->sz d e<=1000->d<=1000->tr d e->iter lzv N e=some (dp d e)
 | _,0,_,h,_,_,_=>absurd h (by omega)
 | 0,_,_,_,_,_,h=>h.elim
 | d+1,N+1,e,hN,hs,hd,ht=>by
  have hl:=lenK hs;have hk:∀k∈e.Kids,iter lzv N k=some (dp d k):=fun k hk=>Mzx d N k (by omega) (szK hs hk) (by omega) (mzV ht hk)
  rw[azz];generalize iter lzv N=S at hk;unfold lzv;rw[azj];have:=bzG (F:=kzy S) (fun(s:Int) (i:Nat)=>(e,s,(i:Int))) id e.Kids (fun s k=>.inl (if s<dp d k then dp d k else s)) id (fun _ _=>True) (by omega)
   (fun back s i hi _=>by
    unfold kzy;simp only[azj];rw[ltT hi,azc,idxG hi,aza,hk _ (List.getElem_mem hi),aza,wr1 (by omega)];by_cases c:s<dp d e.Kids[i]
    .rw[dT0 c,if_pos c];rfl
    .rw[dF0 c,if_neg c];rfl)
   (fun _ _ _ _ _ _=>trivial)
   (fun back s _=>by
    unfold kzy;simp only;rw[ltF,azd];rfl) 0 trivial
  have hb:=dp_le (d+1) e;rw[show qzz S (e,0,0)=_ from this,aza,cz3];have e1:e.Kids.foldl (fun s k=>if s<dp d k then dp d k else s) 0=mx (e.Kids.map (dp d)):=by rw[mx,List.foldl_map]
  rw[e1];simp only[id];rw[azH (by simp only[dp]at hb;omega) (by simp only[dp]at hb;omega)];rfl
theorem Mzu:∀(d N:Nat) (e:Expr),d<N->sz d e<=1000->tr d e->iter lzt N e=some (sz d e:Int)
 | _,0,_,h,_,_=>absurd h (by omega)
 | 0,_,_,_,_,h=>h.elim
 | d+1,N+1,e,hN,hs,ht=>by
  have hl:=lenK hs;have hk:∀k∈e.Kids,iter lzt N k=some (sz d k:Int):=fun k hk=>Mzu d N k (by omega) (szK hs hk) (mzV ht hk)
  rw[azz];generalize iter lzt N=S at hk;unfold lzt;rw[azj];have hsum:∀i,i<=e.Kids.length->((e.Kids.take i).map (sz d)).sum<=(e.Kids.map (sz d)).sum:=fun i _=>by
   conv=>rhs;rw[<-List.take_append_drop i e.Kids,List.map_append,List.sum_append]
   omega
  have hsz:sz (d+1) e=1+(e.Kids.map (sz d)).sum:=rfl;have:=bzG (F:=kzx S) (fun(s:Nat) (i:Nat)=>(e,(s:Int),(i:Int))) id e.Kids (fun(s:Nat) k=>(.inl (s+sz d k):Nat⊕Int)) (fun s=>(s:Int)) (fun s i=>s=1+((e.Kids.take i).map (sz d)).sum) (by omega)
   (fun back s i hi hp=>by
    unfold kzx;simp only[azj];have h1:=hsum (i+1) hi;rw[List.take_succ_eq_append_getElem hi,List.map_append,List.sum_append]at h1;simp only[List.map_cons,List.map_nil,List.sum_cons,List.sum_nil]at h1;rw[ltT hi,azc,idxG hi,aza,hk _ (List.getElem_mem hi),aza,wr1 (by omega),azH (by omega) (by omega)];simp[rzZ])
   (fun s i hi s' hp hs=>by
    simp only[Sum.inl.injEq]at hs;rw[List.take_succ_eq_append_getElem hi,List.map_append,List.sum_append];simp only[List.map_cons,List.map_nil,List.sum_cons,List.sum_nil];omega)
   (fun back s _=>by
    unfold kzx;simp only;rw[ltF,azd];rfl) 1 (by simp)
  rw[show qzy S (e,1,0)=_ from this,aza,cz3];have e1:∀(l:List Expr) (s:Nat),l.foldl (fun s k=>s+sz d k) s=s+(l.map (sz d)).sum:=fun l=>by
   induction l with
   | nil=>intro s;rfl
   | cons a l ih=>intro s;rw[List.foldl_cons,ih,List.map_cons,List.sum_cons];omega
  rw[e1,hsz];rfl
def fb (f:Expr->Int):List Expr->Int
 | []=>0
 | e::l=>if f e=0 then fb f l else f e
theorem fb_app (f:Expr->Int):∀(l m:List Expr),fb f (l++m)=if fb f l=0 then fb f m else fb f l
 | [],m=>by simp[fb]
 | e::l,m=>by
  simp only[List.cons_append,fb,fb_app f l m];by_cases c:f e=0
  .simp[c]
  .simp[c]
def nd (e:Expr):Int:=(fzg e).getD 0
theorem Nzm:∀(d N:Nat) (k:Int) (e:Expr),d<N->sz d e<=1000->tr d e->iter lzz N e=some (fb nd ((pre d k e).map (·.e)))
 | _,0,_,_,h,_,_=>absurd h (by omega)
 | 0,_,_,_,_,_,h=>h.elim
 | d+1,N+1,k,e,hN,hs,ht=>by
  have hl:=lenK hs;have hk:∀x∈e.Kids,iter lzz N x=some (fb nd ((pre d (k+1) x).map (·.e))):=fun x hx=>Nzm d N (k+1) x (by omega) (szK hs hx) (mzV ht hx)
  rw[azz];generalize iter lzz N=S at hk;obtain⟨n0,hn0,_⟩:=JzU ht.1;have hnd:nd e=n0:=by unfold nd;rw[hn0];rfl
  unfold lzz;rw[azj,hn0,aza];have:=bzG (F:=kzA S) (fun(s:Int) (i:Nat)=>(e,s,(i:Int))) id e.Kids (fun(s:Int) x=>if s=0 then(.inl (fb nd ((pre d (k+1) x).map (·.e))):Int⊕Int)else .inr s) id (fun _ _=>True) (by omega)
   (fun back s i hi _=>by
    unfold kzA;simp only[azj];rw[ltT hi,azc,idxG hi,aza,hk _ (List.getElem_mem hi),aza,wr1 (by omega)];by_cases c:s=0
    .rw[dT0 c,if_pos c];rfl
    .rw[dF0 c,if_neg c];rfl)
   (fun _ _ _ _ _ _=>trivial)
   (fun back s _=>by
    unfold kzA;simp only;rw[ltF,azd];rfl) n0 trivial
  rw[show qzA S (e,n0,0)=_ from this,aza];have key:∀(l:List Expr) (s:Int),iz3 (fun(s:Int) x=>if s=0 then(.inl (fb nd ((pre d (k+1) x).map (·.e))):Int⊕Int)else .inr s) id s l=if s=0 then fb nd ((l.flatMap (pre d (k+1))).map (·.e))else s:=fun l=>by
   induction l with
   | nil=>intro s;by_cases c:s=0<;>simp[iz3,c,fb]
   | cons a l ih =>
    intro s;simp only[iz3];by_cases c:s=0
    .rw[if_pos c,if_pos c];simp only;rw[ih,List.flatMap_cons,List.map_append,fb_app]
    .rw[if_neg c,if_neg c]
  rw[key];simp only[pre,List.map_cons,fb,hnd,id]
theorem Jze:∀(d:Nat) (k m:Int) (e:Expr),tr d e->((∃x∈pre d k e,m<x.deep)↔m<k+dp d e-1)
 | 0,_,_,_,h=>h.elim
 | d+1,k,m,e,h=>by
  have hm:=mx_is (e.Kids.map (dp d)) 0 (m-k);have hd:=(dp_le (d+1) e).1;simp only[pre,List.mem_cons,List.mem_flatMap,dp,mx];constructor
  .rintro⟨x,rfl|⟨y,hy,hx⟩,hlt⟩
   .simp only at hlt;have:=hm.2 (.inl (by omega));omega
   .have:=(Jze d (k+1) m y (h.2 y hy)).1 ⟨x,hx,hlt⟩;have:=hm.2 (.inr ⟨dp d y,List.mem_map.2 ⟨y,hy,rfl⟩,by omega⟩);omega
  .intro hlt;rcases hm.1 (by omega)with c|⟨n,hn,c⟩
   .exact⟨_,.inl rfl,by simp only;omega⟩
   .obtain⟨y,hy,rfl⟩:=List.mem_map.1 hn;obtain⟨x,hx,hlt⟩:=(Jze d (k+1) m y (h.2 y hy)).2 (by omega);exact⟨x,.inr ⟨y,hy,hx⟩,hlt⟩
theorem pre_txt:∀(d:Nat) (k:Int) (e:Expr),tr d e->∀x∈pre d k e,x.e.V.S.length<=3000
 | 0,_,_,h=>h.elim
 | d+1,k,e,h=>fun x hx=>by
  simp only[pre,List.mem_cons,List.mem_flatMap]at hx;rcases hx with rfl|⟨y,hy,hx⟩
  .exact h.1
  .exact pre_txt d (k+1) y (h.2 y hy) x hx
theorem nd_is {e:Expr}(h:e.V.S.length<=3000):qzb e=some (nd e)/\fzg e=some (nd e):=by
 obtain⟨r,hr,_⟩:=JzU h;have:nd e=r:=by unfold nd;rw[hr];rfl
 rw[part_eq h,hr,this];exact⟨rfl,rfl⟩
theorem deep_find {l:List Node2}(hl:l.length<=1000000):bzN (l,())=some (l.any fun x=>decide (16<x.deep)):=by
 have:=kzo (F:=bzg) (fun i:Nat=>(l,(),(l.length:Int),(i:Int))) (fun o=>match o with|none=>(.inl ():Unit⊕Int)|some i=>.inr (i:Int)) l (fun x=>decide (16<x.deep)) (by omega)
  (fun back i hi=>by
   unfold bzg;simp only[azj];rw[ltT hi,azc,idxG hi,aza,wr1 (by omega)]
   show obnd (some (decide (16<l[i].deep))) _=_
   rw[aza];cases decide (16<l[i].deep)<;>rfl)
  (fun back=>by
   unfold bzg;simp only;rw[ltF];rfl)
 unfold bzN czJ;rw[show czt (l,(),(l.length:Int),0)=_ from this];have ha:=List.findIdx?_isSome (xs:=l) (p:=fun x=>decide (16<x.deep));cases hf:l.findIdx? fun x=>decide (16<x.deep)with
 | none=>rw[hf]at ha;rw[<-ha];rfl
 | some i=>rw[hf]at ha;rw[<-ha];simp[osum]
theorem PzE {l:List Node2}(hl:l.length<=1000000)(ht:∀x∈l,x.e.V.S.length<=3000):(obnd (nz4 (l,(l.length:Int),0)) fun y=>osum y (fun _=>some 0) fun y=>some y)=some (fb nd (l.map (·.e))):=by
 have:=bzG (F:=lzm) (fun(_:Unit) (i:Nat)=>(l,(l.length:Int),(i:Int))) id l (fun(_:Unit) x=>if nd x.e=0 then(.inl ():Unit⊕(Unit⊕Int))else .inr (.inr (nd x.e))) (fun _=>.inl ()) (fun _ _=>True) (by omega)
  (fun back s i hi _=>by
   unfold lzm;simp only[azj];rw[ltT hi,azc,idxG hi,aza,(nd_is (ht _ (List.getElem_mem hi))).1,aza,wr1 (by omega)];by_cases c:nd l[i].e=0
   .rw[dT0 c,if_pos c];rfl
   .rw[dF0 c,if_neg c];rfl)
  (fun _ _ _ _ _ _=>trivial)
  (fun back s _=>by
   unfold lzm;simp only;rw[ltF];rfl) () trivial
 rw[show nz4 (l,(l.length:Int),0)=_ from this,aza];clear this hl ht;induction l with
 | nil=>rfl
 | cons x l ih =>
  simp only[iz3,List.map_cons,fb];by_cases c:nd x.e=0
  .rw[if_pos c,if_pos c];exact ih
  .rw[if_neg c,if_neg c];rfl
def ck (e:Expr):Int:=if 16<dp 40 e then 11 else if 1024<sz 40 e then 4 else fb nd ((pre 40 1 e).map (·.e))
theorem MzE {e:Expr}(hs:sz 40 e<=1000)(ht:tr 40 e):rz1 e=some (ck e):=by
 unfold rz1 ck;have hl:=Cz3 40 1 e ht;rw[azj,GzJ hs ht,aza,deep_find (by omega),aza,PzE (by omega) (pre_txt 40 1 e ht),hl];have hd:=Jze 40 1 16 e ht;by_cases c:16<dp 40 e
 .have:((pre 40 1 e).any fun x=>decide (16<x.deep))=true:=List.any_eq_true.2 (by
   obtain⟨x,hx,h⟩:=hd.2 (by omega);exact⟨x,hx,by simp[h]⟩)
  rw[this,if_pos c];rfl
 .have:((pre 40 1 e).any fun x=>decide (16<x.deep))=false:=by
   cases h:(pre 40 1 e).any fun x=>decide (16<x.deep)with
   | false=>rfl
   | true =>
    obtain⟨x,hx,h⟩:=List.any_eq_true.1 h;have:=hd.1 ⟨x,hx,by simpa using h⟩;omega
  rw[this,if_neg c,azd];by_cases c2:1024<sz 40 e
  .rw[if_pos c2,dT0 (by omega)];rfl
  .rw[if_neg c2,dF0 (by omega)];rfl
theorem Mzs {e:Expr}(hs:sz 40 e<=1000)(ht:tr 40 e):mzf e=some (ck e):=by
 unfold mzf ck;simp only[azj];rw[show uzP e=_ from Mzx 40 big e (by rw[bzT];omega) hs (by omega) ht,show uzO e=_ from Mzu 40 big e (by rw[bzT];omega) hs ht,show uzQ e=_ from Nzm 40 big 1 e (by rw[bzT];omega) hs ht,aza];by_cases c:16<dp 40 e
 .rw[if_pos c,dT0 c];rfl
 .rw[if_neg c,dF0 c,azd,aza];by_cases c2:1024<sz 40 e
  .rw[if_pos c2,dT0 (by omega)];rfl
  .rw[if_neg c2,dF0 (by omega)];rfl
def rf:Nat->Expr->List Expr
 | 0,_=>[]
 | d+1,e=>if 2<=e.Kind/\e.Kind<=6 then [e]else e.Kids.flatMap (rf d)
theorem xzW:∀(d:Nat) (e:Expr),(rf d e).length<=sz d e
 | 0,_=>by simp[rf]
 | d+1,e=>by
  unfold rf;split
  .exact IzX _ _
  .have key:∀l:List Expr,(l.flatMap (rf d)).length<=(l.map (sz d)).sum:=fun l=>by
    induction l with
    | nil=>simp
    | cons a l ih=>rw[List.flatMap_cons,List.length_append,List.map_cons,List.sum_cons];have:=xzW d a;omega
   have:=key e.Kids
   show _<=1+(e.Kids.map (sz d)).sum
   omega
theorem rf_take {d:Nat}{e:Expr}(i:Nat):((e.Kids.take i).flatMap (rf d)).length<=sz (d+1) e:=by
 have key:∀l:List Expr,(l.flatMap (rf d)).length<=(l.map (sz d)).sum:=fun l=>by
  induction l with
  | nil=>simp
  | cons a l ih=>rw[List.flatMap_cons,List.length_append,List.map_cons,List.sum_cons];have:=xzW d a;omega
 have h1:=key (e.Kids.take i);have h2:((e.Kids.take i).map (sz d)).sum<=(e.Kids.map (sz d)).sum:=by
  conv=>rhs;rw[<-List.take_append_drop i e.Kids,List.map_append,List.sum_append]
  omega
 show _<=1+(e.Kids.map (sz d)).sum
 omega
theorem kzp {A B:Type}(f:A->List B):∀(l:List A) (s:List B),l.foldl (fun s a=>s++f a) s=s++l.flatMap f
 | [],s=>by simp
 | a::l,s=>by rw[List.foldl_cons,kzp f l,List.flatMap_cons,List.append_assoc]
theorem refs_is:∀(d N:Nat) (e:Expr),d<N->sz d e<=1000->tr d e->iter fz4 N e=some (rf d e)/\iter fze N e=some (rf d e)
 | _,0,_,h,_,_=>absurd h (by omega)
 | 0,_,_,_,_,h=>h.elim
 | d+1,N+1,e,hN,hs,ht=>by
  have hl:=lenK hs;have hk:∀x∈e.Kids,iter fz4 N x=some (rf d x)/\iter fze N x=some (rf d x):=fun x hx=>refs_is d N x (by omega) (szK hs hx) (mzV ht hx)
  rw[azz,azz];generalize iter fz4 N=S at hk;generalize iter fze N=S' at hk;have step:∀i (hi:i<e.Kids.length) (s:List Expr),s=(e.Kids.take i).flatMap (rf d)->app 152 s (rf d e.Kids[i])=some (s++rf d e.Kids[i]):=fun i hi s hs'=>by
   have h1:=rf_take (d:=d) (e:=e) i;have h2:=xzW d e.Kids[i];have h3:=szK hs (List.getElem_mem hi);exact appN (by rw[hs'];omega)
  have nxt:∀(s:List Expr) i (hi:i<e.Kids.length) (s':List Expr),s=(e.Kids.take i).flatMap (rf d)->(.inl (s++rf d e.Kids[i]):List Expr⊕List Expr) = .inl s'->s'=(e.Kids.take (i+1)).flatMap (rf d):=fun s i hi s' h1 h2=>by
   injection h2 with h2;rw[<-h2,h1,List.take_succ_eq_append_getElem hi,List.flatMap_append];simp
  have p1:=bzG (F:=kzc S) (fun(s:List Expr) (i:Nat)=>(s,e.Kids,(e.Kids.length:Int),(i:Int))) id e.Kids (fun s x=>(.inl (s++rf d x):List Expr⊕List Expr)) id (fun s i=>s=(e.Kids.take i).flatMap (rf d)) (by omega)
   (fun back s i hi hp=>by
    unfold kzc;simp only[azj];rw[ltT hi,azc,idxG hi,aza,(hk _ (List.getElem_mem hi)).1,aza,step i hi s hp,aza,wr1 (by omega)];rfl)
   nxt
   (fun back s _=>by
    unfold kzc;simp only;rw[ltF];rfl) [] (by simp)
  have p2:=bzG (F:=jzq S') (fun(s:List Expr) (i:Nat)=>(e,s,(i:Int))) id e.Kids (fun s x=>(.inl (s++rf d x):List Expr⊕List Expr)) id (fun s i=>s=(e.Kids.take i).flatMap (rf d)) (by omega)
   (fun back s i hi hp=>by
    unfold jzq;simp only[azj];rw[ltT hi,azc,idxG hi,aza,(hk _ (List.getElem_mem hi)).2,aza,step i hi s hp,aza,wr1 (by omega)];rfl)
   nxt
   (fun back s _=>by
    unfold jzq;simp only;rw[ltF];rfl) [] (by simp)
  rw[cz3,kzp]at p1 p2;unfold fz4 fze dzT;rw[azj,show szJ S ([],e.Kids,(e.Kids.length:Int),0)=_ from p1,show oza S' (e,[],0)=_ from p2];unfold rf;by_cases c:2<=e.Kind<;>by_cases c2:e.Kind<=6<;>simp[c,c2]
theorem wzq {e:Expr}(hs:sz 40 e<=1000)(ht:tr 40 e):yzx e=some (rf 40 e)/\wzw e=some (rf 40 e):=refs_is 40 big e (by rw[bzT];omega) hs ht
theorem to_tot:∀(d N:Nat) (e:Expr),d<N->sz d e<=1000->tr d e->iter pzU N e=some e
 | _,0,_,h,_,_=>absurd h (by omega)
 | 0,_,_,_,_,h=>h.elim
 | d+1,N+1,e,hN,hs,ht=>by
  have hl:=lenK hs;have hk:∀k∈e.Kids,iter pzU N k=some k:=fun k hk=>to_tot d N k (by omega) (szK hs hk) (mzV ht hk)
  rw[azz];generalize iter pzU N=S at hk;have this:=bzG (F:=nzA S) (fun(s:List Expr) (i:Nat)=>(s,e,(⟨e.Kind,e.V,e.A,e.Sheet,e.Op,s⟩:Expr),(i:Int))) (fun s:List Expr=>(s,(⟨e.Kind,e.V,e.A,e.Sheet,e.Op,s⟩:Expr))) e.Kids (fun(s:List Expr) k=>(.inl (s++[k]):List Expr⊕List Expr)) id (fun s i=>s.length=i) (by omega)
   (fun back s i hi hp=>by
    unfold nzA;simp only[azj];rw[ltT hi,azc,idxG hi,aza,hk _ (List.getElem_mem hi),aza,appN (by simp only[List.length_singleton];omega),aza,wr1 (by omega)];rfl)
   (fun s i hi s' hp h=>by cases h;simp[hp])
   (fun back s _=>by
    unfold nzA;simp only;rw[ltF,azd];rfl) [] rfl
  rw[cz3]at this;have hf:∀(m s:List Expr),m.foldl (fun s c=>s++[c]) s=s++m:=by
   intro m;induction m with
   | nil=>intro s;simp
   | cons v m ih=>intro s;rw[List.foldl_cons,ih];simp
  rw[id,hf,List.nil_append]at this;unfold pzU;simp only[azj];rw[show uzD e.V=some e.V from rfl,show uzB e.A=some e.A from rfl,aza,aza,show uzw S ([],e,⟨e.Kind,e.V,e.A,e.Sheet,e.Op,[]⟩,0)=_ from this,aza];cases e;rfl
theorem toE {e:Expr}(hs:sz 40 e<=1000)(ht:tr 40 e):szq e=some e:=to_tot 40 big e (by rw[bzT];omega) hs ht
theorem kzk {A X Z:Type}{F:(X->Option Z)->X->Option Z}(mk:List A->Nat->X)(g:List A->Z)(l:List A)(hl:l.length<=1000000)
 (h:∀back s i (hi:i<l.length),s.length=i->F back (mk s i)=back (mk (s++[l[i]]) (i+1))) (hend:∀back s,F back (mk s l.length)=some (g s)):iter F big (mk [] 0)=some (g l):=by
 have this:=bzG (F:=F) mk g l (fun(s:List A) k=>(.inl (s++[k]):List A⊕List A)) id (fun s i=>s.length=i) (by omega)
  (fun back s i hi hp=>h back s i hi hp) (fun s i hi s' hp h=>by cases h;simp[hp]) (fun back s _=>hend back s) [] rfl
 rw[cz3]at this;have hf:∀(m s:List A),m.foldl (fun s c=>s++[c]) s=s++m:=by
  intro m;induction m with
  | nil=>intro s;simp
  | cons v m ih=>intro s;rw[List.foldl_cons,ih];simp
 rw[id,hf,List.nil_append]at this;exact this
def fewE (e:Expr):Prop:=sz 40 e<=200/\tr 40 e
theorem toAll {l:List Expr}(hl:l.length<=1000)(h:∀x∈l,fewE x):qzf l=some l:=by
 have:=kzk (F:=kzs) (fun s i=>(l,s,(i:Int))) id l (by omega)
  (fun back s i hi hp=>by
   obtain⟨a1,a2⟩:=h _ (List.getElem_mem hi);unfold kzs;simp only[azj];rw[ltT hi,azc,idxG hi,aza,toE (by omega) a2,aza,appN (by simp only[List.length_singleton];omega),aza,wr1 (by omega)])
  (fun back s=>by unfold kzs;simp only;rw[ltF];rfl)
 unfold qzf;rw[show qzg (l,[],0)=_ from this];rfl
theorem toPlaces {l:List Place}(hl:l.length<=1000):nzh l=some l:=by
 have:=kzk (F:=hzY) (fun s i=>(l,s,(i:Int))) id l (by omega)
  (fun back s i hi hp=>by
   unfold hzY;simp only;rw[ltT hi,azc,idxG hi,aza,show rzx l[i]=some l[i] from rfl,aza,appN (by simp only[List.length_singleton];omega),aza,wr1 (by omega)])
  (fun back s=>by unfold hzY;simp only;rw[ltF];rfl)
 unfold nzh;rw[show nzB (l,[],0)=_ from this];rfl
theorem toCells {l:List Cell2}(hl:l.length<=1000)(h:∀x∈l,fewE x.E):qzj l=some l:=by
 have:=kzk (F:=kzu) (fun s i=>(l,s,(i:Int))) id l (by omega)
  (fun back s i hi hp=>by
   obtain⟨a1,a2⟩:=h _ (List.getElem_mem hi);unfold kzu Bzm;simp only[azj];rw[ltT hi,azc,idxG hi,aza,show hzZ l[i].At=some l[i].At from rfl,aza,show uzD l[i].V=some l[i].V from rfl,aza,toE (by omega) a2,aza,aza,appN (by simp only[List.length_singleton];omega),aza,wr1 (by omega)])
  (fun back s=>by unfold kzu;simp only;rw[ltF];rfl)
 unfold qzj;rw[show qzk (l,[],0)=_ from this];rfl
theorem toGroups {l:List Group}(hl:l.length<=1000)(h:∀x∈l,fewE x.E):qzh l=some l:=by
 have:=kzk (F:=kzt) (fun s i=>(l,s,(i:Int))) id l (by omega)
  (fun back s i hi hp=>by
   obtain⟨a1,a2⟩:=h _ (List.getElem_mem hi);unfold kzt Bzj;simp only[azj];rw[ltT hi,azc,idxG hi,aza,show hzZ l[i].A=some l[i].A from rfl,aza,show hzZ l[i].B=some l[i].B from rfl,aza,toE (by omega) a2,aza,aza,appN (by simp only[List.length_singleton];omega),aza,wr1 (by omega)])
  (fun back s=>by unfold kzt;simp only;rw[ltF];rfl)
 unfold qzh;rw[show qzi (l,[],0)=_ from this];rfl
structure fewS (s:Sheet):Prop where
 rows:s.Rows.length<=60
 cells:s.Cells.length<=120
 groups:s.Groups.length<=20
 cellE:∀x∈s.Cells,fewE x.E/\x.V.S.length<=3000
 groupE:∀x∈s.Groups,fewE x.E
structure fewG (g:Globals):Prop where
 sheets:g.Sheets.length<=20
 formats:g.Formats.length<=100
 xfs:g.XFs.length<=400
 names:g.Names.length<=30
 texts:g.Texts.Texts.length<=60
 chain:g.Chain.length<=200
 nameE:∀x∈g.Names,fewE x
structure fewB (b:Book):Prop where
 glob:fewG b.Globals
 sheets:b.Sheets.length<=12
 sheet:∀s∈b.Sheets,fewS s
theorem toSheet {s:Sheet}(h:fewS s):vzW s=some s:=by
 have h0:=h.rows;have:=kzk (F:=nzC) (fun r i=>(r,s,(⟨r,s.Cells,s.Groups⟩:Sheet),(i:Int))) (fun r=>(r,(⟨r,s.Cells,s.Groups⟩:Sheet))) s.Rows (by omega)
  (fun back r i hi hp=>by
   unfold nzC;simp only;rw[ltT hi,azc,idxG hi,aza,aza,aza,appN (by simp only[List.length_singleton];omega),aza,wr1 (by omega)])
  (fun back r=>by unfold nzC;simp only;rw[ltF];rfl)
 unfold vzW;rw[toCells (by have:=h.cells;omega) (fun x hx=>(h.cellE x hx).1),aza,toGroups (by have:=h.groups;omega) h.groupE,aza,show uzx ([],s,⟨[],s.Cells,s.Groups⟩,0)=_ from this];rfl
theorem toGlobals {g:Globals}(h:fewG g):vzX g=some g:=by
 obtain⟨h1,h2,h3,h4,h5,h6,h7⟩:=h;unfold vzX;rw[appN (by simp;omega),aza,appN (by simp;omega),aza,appN (by simp;omega),aza,toAll (by omega) h7,aza];have e:yzO g.Texts=some g.Texts:=by
  unfold yzO;rw[appN (by simp;omega)];rfl
 rw[e,aza,toPlaces (by omega)];rfl
theorem toBook {b:Book}(h:fewB b):pzW b=some b:=by
 have h0:=h.sheets;have:=kzk (F:=nzD) (fun r i=>(r,b,(⟨b.Globals,r⟩:Book),(i:Int))) (fun r=>(r,(⟨b.Globals,r⟩:Book))) b.Sheets (by omega)
  (fun back r i hi hp=>by
   unfold nzD;simp only;rw[ltT hi,azc,idxG hi,aza,toSheet (h.sheet _ (List.getElem_mem hi)),aza,appN (by simp only[List.length_singleton];omega),aza,wr1 (by omega)])
  (fun back r=>by unfold nzD;simp only;rw[ltF];rfl)
 unfold pzW;rw[toGlobals h.glob,aza,show uzy ([],b,⟨b.Globals,[]⟩,0)=_ from this];rfl
theorem few60 {e:Expr}:∃b,kzq (e,60)=some b/\(b=true->fewE e):=by
 obtain⟨b,h1,h2⟩:=Few_is (e:=e) (m:=60) (by omega);exact⟨b,h1,fun h=>by obtain⟨a1,a2⟩:=h2 h;exact⟨by omega,a2⟩⟩
theorem few100 {e:Expr}:∃b,kzq (e,100)=some b/\(b=true->fewE e):=by
 obtain⟨b,h1,h2⟩:=Few_is (e:=e) (m:=100) (by omega);exact⟨b,h1,fun h=>by obtain⟨a1,a2⟩:=h2 h;exact⟨by omega,a2⟩⟩
theorem fewCells (l:List Cell2):∃b,tzJ l=some b/\(b=true->l.length<=120/\∀x∈l,fewE x.E/\x.V.S.length<=3000):=by
 unfold tzJ;by_cases h1:120<(l.length:Int)
 .rw[dT0 h1];exact⟨false,rfl,fun h=>by cases h⟩
 rw[dF0 h1,azd];obtain⟨z,e1,e2⟩:=czz (F:=mzA) (fun i=>(l,(i:Int))) l.length (fun i=>∃h:i<l.length,fewE l[i].E/\l[i].V.S.length<=3000) (fun z=>z = .inr false) (.inl ()) (by omega)
  (fun back i hi=>by
   obtain⟨b,hb,hb2⟩:=few60 (e:=l[i].E);unfold mzA;simp only[azj];rw[ltT hi,azc,idxG hi,aza,hb,aza,aza,wr1 (by omega)];cases b with
   | false=>exact .inr ⟨_,rfl,rfl⟩
   | true =>
    by_cases c:3000<((l[i].V.S.length:Nat):Int)
    .rw[dT0 c];exact .inr ⟨_,rfl,rfl⟩
    .rw[dF0 c];exact .inl ⟨rfl,hi,hb2 rfl,by omega⟩)
  (fun back=>by unfold mzA;simp only;rw[ltF];rfl)
 rw[show szO (l,0)=_ from e1,aza];rcases e2 with rfl|⟨rfl,e2⟩
 .exact⟨false,rfl,fun h=>by cases h⟩
 .exact⟨true,rfl,fun _=>⟨by omega,fun x hx=>by
   obtain⟨i,hi,rfl⟩:=List.getElem_of_mem hx;exact(e2 i hi).2⟩⟩
theorem fewGroups (l:List Group):∃b,tzI l=some b/\(b=true->l.length<=20/\∀x∈l,fewE x.E):=by
 unfold tzI;by_cases h1:20<(l.length:Int)
 .rw[dT0 h1];exact⟨false,rfl,fun h=>by cases h⟩
 rw[dF0 h1,azd];obtain⟨z,e1,e2⟩:=czz (F:=mzz) (fun i=>(l,(i:Int))) l.length (fun i=>∃h:i<l.length,fewE l[i].E) (fun z=>z = .inr false) (.inl ()) (by omega)
  (fun back i hi=>by
   obtain⟨b,hb,hb2⟩:=few60 (e:=l[i].E);unfold mzz;simp only[azj];rw[ltT hi,azc,idxG hi,aza,hb,aza,wr1 (by omega)];cases b with
   | false=>exact .inr ⟨_,rfl,rfl⟩
   | true=>exact .inl ⟨rfl,hi,hb2 rfl⟩)
  (fun back=>by unfold mzz;simp only;rw[ltF];rfl)
 rw[show szN (l,0)=_ from e1,aza];rcases e2 with rfl|⟨rfl,e2⟩
 .exact⟨false,rfl,fun h=>by cases h⟩
 .exact⟨true,rfl,fun _=>⟨by omega,fun x hx=>by
   obtain⟨i,hi,rfl⟩:=List.getElem_of_mem hx;exact(e2 i hi).2⟩⟩
theorem fewSheet (s:Sheet):∃b,tzK s=some b/\(b=true->fewS s):=by
 obtain⟨b1,h1,k1⟩:=fewCells s.Cells;obtain⟨b2,h2,k2⟩:=fewGroups s.Groups;unfold tzK;rw[h1,h2,aza,aza];by_cases h:(s.Rows.length:Int)<=60
 .rw[dT0 h,azc];cases b1 with
  | false=>exact⟨false,rfl,fun h=>by cases h⟩
  | true=>exact⟨b2,rfl,fun h2=>⟨by omega,(k1 rfl).1,(k2 h2).1,(k1 rfl).2,(k2 h2).2⟩⟩
 .rw[dF0 h];exact⟨false,rfl,fun h=>by cases h⟩
def ezs (l:List (List UInt8)):Prop:=∀x∈l,x.length<=1048576
def fitL (l:List (List UInt8)):Prop:=∀x∈l,x.length<=140737488351232
def totB (l:List (List UInt8)):Nat:=(l.map List.length).sum
theorem Cz9:∀{l:List (List UInt8)},fitL l->totB l<=140737488351232*l.length
 | [],_=>Nat.zero_le _
 | a::l,h=>by
  have h1:=Cz9 (l:=l) fun x hx=>h x (by simp[hx])
  have h2:=h a (by simp);unfold totB at h1 ⊢;rw[List.map_cons,List.sum_cons,List.length_cons];omega
theorem zzs:∀{l:List (List UInt8)} {x:List UInt8},x∈l->x.length<=totB l
 | a::l,x,h=>by
  unfold totB;rw[List.map_cons,List.sum_cons];rcases List.mem_cons.1 h with rfl|h
  .omega
  .have:=zzs h;unfold totB at this;omega
theorem GzF {l:List (List UInt8)}(hl:l.length<=1000)(hs:fitL l){F:(Globals×Int×Int->Option Int)->Globals×Int×Int->Option Int}{g:Globals}{n:Nat}(hn:n<=1000000000000000000)
 (h:∀back (m:Int) i (hi:i<l.length),F back (g,m,(i:Int))=back (g,i64.wrap (m+(l[i].length:Int)),i64.wrap ((i:Int)+1)))
 (hend:∀back m,F back (g,m,(l.length:Int))=some m):iter F big (g,(n:Int),0)=some ((n+totB l:Nat):Int):=by
 have hb:∀i (hi:i<l.length),l[i].length<=140737488351232:=fun i hi=>hs _ (List.getElem_mem hi)
 have:=bzG (F:=F) (fun(m:Nat) i=>(g,(m:Int),(i:Int))) (fun m:Nat=>(m:Int)) l (fun(m:Nat) x=>(.inl (m+x.length):Nat⊕Nat)) id (fun m i=>m<=n+140737488351232*i) (by omega)
  (fun back m i hi hp=>by
   have:=hb i hi;rw[h back m i hi,azH (by omega) (by omega),wr1 (by omega)];simp[rzZ])
  (fun m i hi m' hp he=>by
   have:=hb i hi;injection he with he;omega)
  (fun back m _=>hend back m) n (by omega)
 rw[cz3]at this;have key:∀(l:List (List UInt8)) (s:Nat),l.foldl (fun m x=>m+x.length) s=s+totB l:=fun l=>by
  induction l with
  | nil=>intro s;rfl
  | cons a l ih =>
   intro s;unfold totB at ih ⊢;rw[List.foldl_cons,ih,List.map_cons,List.sum_cons,Nat.add_assoc]
 rw[id,key]at this;exact this
theorem Pzh (g:Globals)(h1:fitL g.Sheets)(h2:fitL g.Formats)(h3:fitL g.Texts.Texts):∃b,tzL g=some b/\(b=true->g.Sheets.length<=20/\g.Formats.length<=100/\g.XFs.length<=400/\g.Names.length<=30/\g.Texts.Texts.length<=60/\g.Chain.length<=200/\(ezs g.Sheets/\ezs g.Formats/\ezs g.Texts.Texts)/\∀x∈g.Names,fewE x):=by
 unfold tzL;by_cases c1:20<(g.Sheets.length:Int)
 .rw[dT0 c1];exact⟨false,rfl,fun h=>by cases h⟩
 by_cases c2:100<(g.Formats.length:Int)
 .rw[dF0 c1,dT0 c2];exact⟨false,rfl,fun h=>by cases h⟩
 by_cases c3:400<(g.XFs.length:Int)
 .rw[dF0 c1,dF0 c2,dT0 c3];exact⟨false,rfl,fun h=>by cases h⟩
 by_cases c4:30<(g.Names.length:Int)
 .rw[dF0 c1,dF0 c2,dF0 c3,dT0 c4];exact⟨false,rfl,fun h=>by cases h⟩
 by_cases c5:60<(g.Texts.Texts.length:Int)
 .rw[dF0 c1,dF0 c2,dF0 c3,dF0 c4,dT0 c5];exact⟨false,rfl,fun h=>by cases h⟩
 by_cases c6:200<(g.Chain.length:Int)
 .rw[dF0 c1,dF0 c2,dF0 c3,dF0 c4,dF0 c5,dT0 c6];exact⟨false,rfl,fun h=>by cases h⟩
 rw[dF0 c1,dF0 c2,dF0 c3,dF0 c4,dF0 c5,dF0 c6];simp only[azd];have b1:=Cz9 h1;have b2:=Cz9 h2;have b3:=Cz9 h3;have e1:=GzF (F:=mzC) (g:=g) (n:=0) (l:=g.Sheets) (by omega) h1 (by omega)
  (fun back m i hi=>by unfold mzC;simp only;rw[ltT hi,azc,idxG hi,aza]) (fun back m=>by unfold mzC;simp only;rw[ltF];rfl)
 have e2:=GzF (F:=mzD) (g:=g) (n:=0+totB g.Sheets) (l:=g.Formats) (by omega) h2 (by omega)
  (fun back m i hi=>by unfold mzD;simp only;rw[ltT hi,azc,idxG hi,aza]) (fun back m=>by unfold mzD;simp only;rw[ltF];rfl)
 have e3:=GzF (F:=mzE) (g:=g) (n:=0+totB g.Sheets+totB g.Formats) (l:=g.Texts.Texts) (by omega) h3 (by omega)
  (fun back m i hi=>by unfold mzE;simp only;rw[ltT hi,azc,idxG hi,aza]) (fun back m=>by unfold mzE;simp only;rw[ltF];rfl)
 have e1:szP (g,0,0)=some ((0+totB g.Sheets:Nat):Int):=e1;rw[e1,aza,show szQ (g,((0+totB g.Sheets:Nat):Int),0)=_ from e2,aza,show szR (g,((0+totB g.Sheets+totB g.Formats:Nat):Int),0)=_ from e3,aza];obtain⟨z,f1,f2⟩:=czz (F:=mzF) (fun i=>(g,(i:Int))) g.Names.length (fun i=>∃h:i<g.Names.length,fewE g.Names[i]) (fun z=>z = .inr false) (.inl ()) (by omega)
  (fun back i hi=>by
   obtain⟨b,hb,hb2⟩:=few100 (e:=g.Names[i]);unfold mzF;simp only[azj];rw[ltT hi,azc,idxG hi,aza,hb,aza,wr1 (by omega)];cases b with
   | false=>exact .inr ⟨_,rfl,rfl⟩
   | true=>exact .inl ⟨rfl,hi,hb2 rfl⟩)
  (fun back=>by unfold mzF;simp only;rw[ltF];rfl)
 rw[show szS (g,0)=_ from f1,aza];rcases f2 with rfl|⟨rfl,f2⟩
 .exact⟨false,rfl,fun h=>by cases h⟩
 .refine⟨_,rfl,fun hd=>?_⟩;have hd:=of_decide_eq_true hd;exact⟨by omega,by omega,by omega,by omega,by omega,by omega,⟨fun x hx=>by have:=zzs hx;omega,fun x hx=>by have:=zzs hx;omega,fun x hx=>by have:=zzs hx;omega⟩,fun x hx=>by
   obtain⟨i,hi,rfl⟩:=List.getElem_of_mem hx;exact(f2 i hi).2⟩
def IzO (b:Book):Prop:=ezs b.Globals.Sheets/\ezs b.Globals.Formats/\ezs b.Globals.Texts.Texts
def fitB (b:Book):Prop:=fitL b.Globals.Sheets/\fitL b.Globals.Formats/\fitL b.Globals.Texts.Texts
theorem fewBook (b:Book)(h:fitB b):∃r,qzl b=some r/\(r=true->b.Sheets.length<=12/\(∀s∈b.Sheets,fewS s)/\b.Globals.Sheets.length<=20/\b.Globals.Formats.length<=100/\b.Globals.XFs.length<=400/\b.Globals.Names.length<=30/\b.Globals.Texts.Texts.length<=60/\b.Globals.Chain.length<=200/\IzO b/\∀x∈b.Globals.Names,fewE x):=by
 obtain⟨r,hr,hk⟩:=Pzh b.Globals h.1 h.2.1 h.2.2;unfold qzl;rw[hr,aza];cases r with
 | false=>exact⟨false,rfl,fun h=>by cases h⟩
 | true =>
  simp only[Bool.not_true,azd];by_cases c:12<(b.Sheets.length:Int)
  .rw[dT0 c];exact⟨false,rfl,fun h=>by cases h⟩
  rw[dF0 c,azd];obtain⟨z,e1,e2⟩:=czz (F:=mzG) (fun i=>(b,(i:Int))) b.Sheets.length (fun i=>∃h:i<b.Sheets.length,fewS b.Sheets[i]) (fun z=>z = .inr false) (.inl ()) (by omega)
   (fun back i hi=>by
    obtain⟨q,hb,hb2⟩:=fewSheet b.Sheets[i];unfold mzG;simp only;rw[ltT hi,azc,idxG hi,aza,hb,aza,wr1 (by omega)];cases q with
    | false=>exact .inr ⟨_,rfl,rfl⟩
    | true=>exact .inl ⟨rfl,hi,hb2 rfl⟩)
   (fun back=>by unfold mzG;simp only;rw[ltF];rfl)
  rw[show szT (b,0)=_ from e1,aza];rcases e2 with rfl|⟨rfl,e2⟩
  .exact⟨false,rfl,fun h=>by cases h⟩
  .exact⟨true,rfl,fun _=>⟨by omega,fun x hx=>by
    obtain⟨i,hi,rfl⟩:=List.getElem_of_mem hx;exact(e2 i hi).2,hk rfl⟩⟩
def by1 (v:Int)(i:Nat):UInt8:=UInt8.ofNat (u8.wrap (v.fdiv (2^(8*i)))).toNat
def lw (n:Nat)(v:Int):List UInt8:=(List.range n).map (by1 v)
theorem czw (n:Nat)(v:Int):(lw n v).length=n:=by simp[lw]
theorem yzA {A B:Type}(f:A->B):∀(l:List A) (s:List B),l.foldl (fun s a=>s++[f a]) s=s++l.map f
 | [],s=>by simp
 | a::l,s=>by rw[List.foldl_cons,yzA f l];simp
theorem lePut_l1 {zs:List UInt8}{v:Int}{n:Nat}(hn:n<=8)(hz:zs.length<=1000000000):yzQ (zs,v,(n:Int),0)=some (zs++lw n v):=by
 have:=bzG (F:=qzn) (fun(s:List UInt8) (i:Nat)=>(s,v,(n:Int),(i:Int))) id (List.range n) (fun s i=>(.inl (s++[by1 v i]):List UInt8⊕List UInt8)) id (fun s i=>s.length=zs.length+i) (by simp;omega)
  (fun back s i hi hp=>by
   have hi':i<n:=by simpa using hi
   unfold qzn;simp only[List.getElem_range];rw[ltT hi',azc,azH (by omega) (by omega),dF0 (by omega),azd];have e:(2:Int)^min ((8:Int)*(i:Int)).toNat 64=2^(8*i):=by congr 1;omega
   rw[e,appN (by simp;omega),aza,wr1 (by omega)];rfl)
  (fun s i hi s' hp h=>by cases h;simp[hp];omega)
  (fun back s _=>by unfold qzn;simp only[List.length_range];rw[ltF];rfl) zs (by simp)
 rw[cz3,yzA]at this;exact this
theorem refPut_l1 {zs:List UInt8}{v:Int}{n:Nat}(hn:n<=8)(hz:zs.length<=1000000000):qzM (v,(n:Int),zs,0)=some (zs++lw n v):=by
 have:=bzG (F:=kzH) (fun(s:List UInt8) (i:Nat)=>(v,(n:Int),s,(i:Int))) id (List.range n) (fun s i=>(.inl (s++[by1 v i]):List UInt8⊕List UInt8)) id (fun s i=>s.length=zs.length+i) (by simp;omega)
  (fun back s i hi hp=>by
   have hi':i<n:=by simpa using hi
   unfold kzH;simp only[List.getElem_range];rw[ltT hi',azc,azH (by omega) (by omega),IzY (by omega) (by omega),dF0 (by omega),azd];have e:(2:Int)^min ((8:Int)*(i:Int)).toNat 64=2^(8*i):=by congr 1;omega
   rw[e,appN (by simp;omega),aza,wr1 (by omega)];rfl)
  (fun s i hi s' hp h=>by cases h;simp[hp];omega)
  (fun back s _=>by unfold kzH;simp only[List.length_range];rw[ltF];rfl) zs (by simp)
 rw[cz3,yzA]at this;exact this
theorem pzx {A:Type}{B:Nat}{l:List A}(h:l.length*B<=140737488355328):app B [] l=some l:=by rw[appN (by simpa using h)];rfl
theorem yzP {b:List UInt8}{v:Int}{n:Nat}(hn:n<=8)(hb:b.length<=1000000000):tz6 (b,v,(n:Int))=some (b++lw n v):=by
 unfold tz6 bzR;simp only;rw[pzx (by omega),aza,lePut_l1 hn hb];rfl
theorem ez4 {b:List UInt8}{v:Int}{n:Nat}(hn:n<=8)(hb:b.length<=1000000000):czl (b,v,(n:Int))=some (b++lw n v):=by
 unfold czl;simp only;rw[pzx (by omega),aza,refPut_l1 hn hb];rfl
theorem lw2 (v:Int):lw 2 v=[UInt8.ofNat (u8.wrap v).toNat,UInt8.ofNat (u8.wrap (v.fdiv 256)).toNat]:=by
 show [by1 v 0,by1 v 1]=_
 unfold by1;simp
def rfB (x:Ref):List UInt8:=lw 2 x.Row++[UInt8.ofNat (u8.wrap x.Col).toNat,UInt8.ofNat ((if x.RelRow then 1 else 0)+(if x.RelCol then 2 else 0))]
theorem zzf (x:Ref):(rfB x).length=4:=by simp[rfB,czw]
theorem pzZ {b:List UInt8}{x:Ref}(hb:b.length<=1000000000)(h0:0<=x.Row)(h1:x.Row<65536):fzm (b,x)=some (b++rfB x):=by
 unfold fzm rfB;simp only;rw[IzY h0 (by omega)];have:=ez4 (b:=b) (v:=x.Row) (n:=2) (by omega) hb;rw[show((2:Nat):Int)=2 from rfl]at this;rw[this];have hl:(b++lw 2 x.Row).length<=1000000002:=by simp[czw];omega
 cases x.RelRow<;>cases x.RelCol<;>simp only[azc,azd,aza]<;>rw[appN (by simp[czw];omega)]<;>simp[List.append_assoc]
theorem Cz4 {b:List UInt8}{l:List Ref}(hb:b.length<=100000000)(hl:l.length<=100):nzF (b,l)=some (b++l.flatMap rfB):=by
 have:=bzG (F:=nzG) (fun(s:List UInt8) (i:Nat)=>(s,l,(l.length:Int),(i:Int))) id l (fun s x=>(.inl (s++rfB x):List UInt8⊕List UInt8)) id (fun s i=>s.length=b.length+4*i) (by omega)
  (fun back s i hi hp=>by
   unfold nzG;simp only;rw[ltT hi,azc,idxG hi,aza,wr1 (by omega)];simp only[rzZ,rfB,lw2];cases l[i].RelRow<;>cases l[i].RelCol<;>simp only[azc,azd]<;>rw[appN (by simp;omega),aza]<;>rfl)
  (fun s i hi s' hp h=>by
   injection h with h;rw[<-h,List.length_append,zzf];omega)
  (fun back s _=>by unfold nzG;simp only;rw[ltF];rfl) b (by simp)
 rw[cz3,kzp]at this;unfold nzF;rw[show uzJ (b,l,(l.length:Int),0)=_ from this];rfl
def ut (r:Int):List Int:=if r<65536 then [r]else [55296+(r-65536)/1024,56320+(r-65536)%1024]
def us (l:List Int):List Int:=l.flatMap ut
theorem qz2:∀l:List Int,(us l).length=ulen l
 | []=>rfl
 | r::l=>by
  have:=qz2 l;simp only[us,List.flatMap_cons,List.length_append,ulen,ut]at this ⊢;rw[this];split<;>simp
theorem Gzl (x:List UInt8):∀r∈rs x,0<=r/\r<=1114111:=by
 have key:∀(n:Nat) (x:List UInt8),x.length<=n->∀r∈rs x,0<=r/\r<=1114111:=fun n=>by
  induction n with
  | zero=>intro x hx r hr;have:x=[]:=List.eq_nil_of_length_eq_zero (by omega);subst this;simp[rs_nil]at hr
  | succ n ih =>
   intro x hx r hr;by_cases h:x=[]
   .subst h;simp[rs_nil]at hr
   .rw[xzX h]at hr;rcases List.mem_cons.1 hr with rfl|hr
    .have:=decodeL_rune x;omega
    .exact ih (x.drop (decodeL x).2) (by rw[List.length_drop];have:=decodeL_width x;omega) r hr
 exact key x.length x (Nat.le_refl _)
theorem i32_in' {n:Int}(h0:-2147483648<=n)(h1:n<=2147483647):i32.wrap n=n:=mz4 ⟨h0,h1⟩
theorem and1023 (k:IntKind)(hk:k = .i32\/k = .i64){x:Int}(h0:0<=x)(h1:x<1048576):bz7 .and k x 1023=x%1024:=by
 obtain⟨n,rfl⟩:=Int.eq_ofNat_of_zero_le h0;simp only[bz7];rw[BitVec.toNat_and];rcases hk with rfl|rfl
 .have e1:(BitVec.ofInt i32.bits (n:Int)).toNat=n:=by
   rw[BitVec.ofInt_natCast,BitVec.toNat_ofNat];exact Nat.mod_eq_of_lt (by simp only[IntKind.bits];omega)
  have e2:(BitVec.ofInt i32.bits (1023:Int)).toNat=2^10-1:=by decide
  rw[e1,e2,Nat.and_two_pow_sub_one_eq_mod];have:((n%2^10:Nat):Int)=(n:Int)%1024:=by omega
  rw[this,i32_in' (by omega) (by omega)]
 .have e1:(BitVec.ofInt i64.bits (n:Int)).toNat=n:=by
   rw[BitVec.ofInt_natCast,BitVec.toNat_ofNat];exact Nat.mod_eq_of_lt (by simp only[IntKind.bits];omega)
  have e2:(BitVec.ofInt i64.bits (1023:Int)).toNat=2^10-1:=by decide
  rw[e1,e2,Nat.and_two_pow_sub_one_eq_mod];have:((n%2^10:Nat):Int)=(n:Int)%1024:=by omega
  rw[this,azH (by omega) (by omega)]
theorem or10 {a:Int}(ha:a=55296\/a=56320){x:Int}(h0:0<=x)(h1:x<1024):bz7 .or .i64 a x=a+x:=by
 obtain⟨n,rfl⟩:=Int.eq_ofNat_of_zero_le h0;have hn:n<2^10:=by omega
 simp only[bz7];rw[BitVec.toNat_or];have e1:(BitVec.ofInt i64.bits (n:Int)).toNat=n:=by
  rw[BitVec.ofInt_natCast,BitVec.toNat_ofNat];exact Nat.mod_eq_of_lt (by simp only[IntKind.bits];omega)
 rw[e1];rcases ha with rfl|rfl
 .have e2:(BitVec.ofInt i64.bits (55296:Int)).toNat=54*2^10:=by decide
  rw[e2,<-Nat.shiftLeft_eq,<-Nat.shiftLeft_add_eq_or_of_lt hn,Nat.shiftLeft_eq,azH (by omega) (by omega)];omega
 .have e2:(BitVec.ofInt i64.bits (56320:Int)).toNat=55*2^10:=by decide
  rw[e2,<-Nat.shiftLeft_eq,<-Nat.shiftLeft_add_eq_or_of_lt hn,Nat.shiftLeft_eq,azH (by omega) (by omega)];omega
theorem fdiv10 (x:Int):x.fdiv 1024=x/1024:=by rw[Int.fdiv_eq_ediv_of_nonneg _ (by omega)]
theorem units_is {x:List UInt8}(hl:x.length<=100000000):kzV x=some (us (rs x)):=by
 have key:∃y,pzs ([],x,0)=some y/\(y.1=us (rs x)):=by
  refine nz9 (F:=kzh) (fun z=>x.length-z.2.2) (fun z=>∃(out:List Int) (p:Nat),z=(out,x,p)/\out.length<=2*p/\(p<x.length\/rs (x.drop p)=[])/\out++us (rs (x.drop p))=us (rs x)) _ ?_ _ ⟨[],0,rfl,by simp,by
   by_cases h:x=[]
   .subst h;exact .inr rfl
   .exact .inl (List.length_pos_iff.2 h),by simp⟩ (by simp only;omega)
  rintro back z ⟨out,p,rfl,ho,hp,hv⟩ hb;unfold kzh;simp only at hb ⊢;by_cases hlt:p<x.length
  .have hne:x.drop p≠[]:=fun e=>by have:=congrArg List.length e;simp at this;omega
   have hr:=Czk x p;have hw:=decodeL_width (x.drop p);have hle:=decodeL_le (x.drop p) hne;have hrb:=decodeL_rune (x.drop p);rw[List.length_drop]at hle;rw[xzX hne,List.drop_drop]at hv;have hv2:out++ut ((decodeL (x.drop p)).1:Int)++us (rs (x.drop (p+(decodeL (x.drop p)).2)))=us (rs x):=by rw[<-hv];simp[us]
   rw[dT0 hlt,azc,hr];have step:∃y,back (out++ut ((decodeL (x.drop p)).1:Int),x,p+(decodeL (x.drop p)).2)=some y/\y.1=us (rs x):=by
    refine hb _ ⟨_,_,rfl,?_,?_,hv2⟩ (by simp only;omega)
    .simp only[List.length_append,ut];split<;>simp<;>omega
    .rcases Nat.lt_or_ge (p+(decodeL (x.drop p)).2) x.length with h|h
     .exact .inl h
     .right;rw[List.drop_eq_nil_of_le h];rfl
   generalize (decodeL (x.drop p)).1=r at *;by_cases h6:(r:Int)<65536
   .rw[dT0 h6,azc,appN (by simp;omega),aza,azH (by omega) (by omega)];unfold ut at step;rw[if_pos h6]at step;exact step
   .have e1:i32.wrap ((r:Int)-65536)=(r:Int)-65536:=i32_in' (by omega) (by omega);rw[dF0 h6,azd,appN (by simp;omega),aza,e1,fdiv10,and1023 _ (.inl rfl) (by omega) (by omega),azH (n:=((r:Int)-65536)/1024) (by omega) (by omega),azH (n:=((r:Int)-65536)%1024) (by omega) (by omega),
     azH (by omega) (by omega),azH (by omega) (by omega)]
    unfold ut at step;rw[if_neg h6]at step;exact step
  .rw[dF0 hlt,azd];rcases hp with h|h
   .exact absurd h hlt
   .rw[h]at hv;exact⟨_,rfl,by simpa[us]using hv⟩
 obtain⟨y,h1,h2⟩:=key;unfold kzV;rw[h1,aza,h2]
theorem uz8 {l:List Int}(hl:l.length<=4000000)(hr:∀r∈l,0<=r/\r<=1114111):jzl l=some (us l):=by
 have:=bzG (F:=gz8) (fun(s:List Int) (i:Nat)=>(l,s,(i:Int))) id l (fun s r=>(.inl (s++ut r):List Int⊕List Int)) id (fun s i=>s.length<=2*i) (by omega)
  (fun back s i hi hp=>by
   obtain⟨r0,r1⟩:=hr _ (List.getElem_mem hi);unfold gz8;simp only;rw[ltT hi,azc,idxG hi,aza,aza,aza,wr1 (by omega)];simp only[rzZ,ut];generalize l[i]=r at *;by_cases h6:r<65536
   .rw[dT0 h6,azc,if_pos h6,appN (by simp;omega),aza]
   .rw[dF0 h6,azd,if_neg h6,azH (n:=r-65536) (by omega) (by omega),fdiv10,and1023 _ (.inr rfl) (by omega) (by omega),or10 (.inl rfl) (by omega) (by omega),or10 (.inr rfl) (by omega) (by omega),appN (by simp;omega),aza])
  (fun s i hi s' hp h=>by
   injection h with h;rw[<-h,List.length_append];unfold ut;split<;>simp<;>omega)
  (fun back s _=>by unfold gz8;simp only;rw[ltF];rfl) [] (by simp)
 rw[cz3,kzp]at this;unfold jzl;rw[show ozo (l,[],0)=_ from this];rfl
def nar (x:List UInt8):Bool:=(rs x).all fun r=>decide (r<256)
def tub (n:Bool)(r:Int):List UInt8:=if n then [UInt8.ofNat (u8.wrap r).toNat]else lw 2 r
def stB (x:List UInt8):List UInt8:=lw 2 ((us (rs x)).length:Int)++[if nar x then 0 else 1]++(us (rs x)).flatMap (tub (nar x))
theorem yze (n:Bool)(r:Int):(tub n r).length<=2:=by unfold tub;split<;>simp[czw]
theorem narrow_is {x:List UInt8}(hl:x.length<=100000000):sze x=some (nar x):=by
 have key:∃y,rzS (x,0)=some y/\osum y (fun _=>some true) (fun y=>some y.1)=some (nar x):=by
  refine nz9 (F:=ozB) (fun z=>x.length-z.2) (fun z=>∃p:Nat,z=(x,p)/\(p<x.length\/rs (x.drop p)=[])/\(rs (x.drop p)).all (fun r=>decide (r<256))=nar x) _ ?_ _ ⟨0,rfl,by
   by_cases h:x=[]
   .subst h;exact .inr rfl
   .exact .inl (List.length_pos_iff.2 h),by simp[nar]⟩ (by simp only;omega)
  rintro back z ⟨p,rfl,hp,hv⟩ hb;unfold ozB;simp only at hb ⊢;by_cases hlt:p<x.length
  .have hne:x.drop p≠[]:=fun e=>by have:=congrArg List.length e;simp at this;omega
   have hr:=Czk x p;have hw:=decodeL_width (x.drop p);rw[xzX hne,List.drop_drop,List.all_cons]at hv;rw[dT0 hlt,azc,hr];by_cases h6:(255:Int)<((decodeL (x.drop p)).1:Int)
   .rw[dT0 h6,azc];refine⟨_,rfl,?_⟩;rw[dF0 (by omega),Bool.false_and]at hv;rw[<-hv];rfl
   .rw[dF0 h6,azd];rw[dT0 (by omega),Bool.true_and]at hv;refine hb _ ⟨_,rfl,?_,hv⟩ (by simp only;omega);rcases Nat.lt_or_ge (p+(decodeL (x.drop p)).2) x.length with h|h
    .exact .inl h
    .right;rw[List.drop_eq_nil_of_le h];rfl
  .rw[dF0 hlt,azd];rcases hp with h|h
   .exact absurd h hlt
   .rw[h]at hv;exact⟨_,rfl,by rw[<-hv];rfl⟩
 obtain⟨y,h1,h2⟩:=key;unfold sze;rw[h1,aza];exact h2
theorem KzR (p:Int->Bool):∀(l:List Int) (b:Bool),l.foldl (fun s r=>s&&p r) b=(b&&l.all p)
 | [],b=>by simp
 | r::l,b=>by rw[List.foldl_cons,KzR p l,List.all_cons,Bool.and_assoc]
theorem NzL {l:List Int}(hl:l.length<=100000000)(b:Bool):qzL (l,b,0)=some (b&&l.all fun r=>decide (r<256)):=by
 have:=bzG (F:=kzG) (fun(s:Bool) (i:Nat)=>(l,s,(i:Int))) id l (fun s r=>(.inl (s&&decide (r<256)):Bool⊕Bool)) id (fun _ _=>True) (by omega)
  (fun back s i hi _=>by
   unfold kzG;simp only;rw[ltT hi,azc,idxG hi,aza,wr1 (by omega)];cases s<;>rfl)
  (fun _ _ _ _ _ _=>trivial)
  (fun back s _=>by unfold kzG;simp only;rw[ltF];rfl) b trivial
 rw[cz3,KzR]at this;exact this
theorem uz7 {x:List UInt8}(hl:x.length<=4000000)(hv:validD x=true):nzK x=some (nar x):=by
 have:=szA x;unfold nzK;rw[oz2 hl,if_pos hv,aza,NzL (by simp only;omega)];rfl
theorem put_l1 {zs:List UInt8}{l:List Int}{n:Bool}(hz:zs.length<=500000000)(hl:l.length<=100000000):szf (zs,n,l,(l.length:Int),0)=some (zs++l.flatMap (tub n)):=by
 have:=bzG (F:=pza) (fun(s:List UInt8) (i:Nat)=>(s,n,l,(l.length:Int),(i:Int))) id l (fun s r=>(.inl (s++tub n r):List UInt8⊕List UInt8)) id (fun s i=>s.length<=zs.length+2*i) (by omega)
  (fun back s i hi hp=>by
   unfold pza;simp only;rw[ltT hi,azc,idxG hi,aza,appN (by simp;omega),aza,wr1 (by omega)];cases n
   .rw[show(!false)=true from rfl,azc,appN (by simp;omega),aza];simp only[rzZ,tub,lw2,List.append_assoc];rfl
   .rfl)
  (fun s i hi s' hp h=>by
   injection h with h;rw[<-h,List.length_append];have:=yze n l[i];omega)
  (fun back s _=>by unfold pza;simp only;rw[ltF];rfl) zs (by simp)
 rw[cz3,kzp]at this;exact this
theorem IzD {zs:List UInt8}{l:List Int}{n:Bool}(hz:zs.length<=500000000)(hl:l.length<=100000000):nzm (zs,l,n,0)=some (zs++l.flatMap (tub n)):=by
 have:=bzG (F:=kzI) (fun(s:List UInt8) (i:Nat)=>(s,l,n,(i:Int))) id l (fun s r=>(.inl (s++tub n r):List UInt8⊕List UInt8)) id (fun s i=>s.length<=zs.length+2*i) (by omega)
  (fun back s i hi hp=>by
   unfold kzI;simp only;rw[ltT hi,azc,idxG hi,aza,appN (by simp;omega),aza,wr1 (by omega)];cases n
   .rw[show(!false)=true from rfl,azc,aza,appN (by simp;omega),aza];simp only[rzZ,tub,lw2,List.append_assoc];rfl
   .rfl)
  (fun s i hi s' hp h=>by
   injection h with h;rw[<-h,List.length_append];have:=yze n l[i];omega)
  (fun back s _=>by unfold kzI;simp only;rw[ltF];rfl) zs (by simp)
 rw[cz3,kzp]at this;exact this
theorem nzY {x:List UInt8}(h:(azZ x).2=0):validD x=true/\ulen (rs x)<=1000/\(azZ x).1=((us (rs x)).length:Int):=by
 unfold azZ at *;rw[qz2];split at h
 .split at h
  .simp at h
  .exact⟨by assumption,by omega,by simp[*]⟩
 .simp at h
theorem put_is {b x:List UInt8}(hb:b.length<=100000000)(hl:x.length<=4000000):vzk (b,x)=some (if(azZ x).2=0 then b++stB x else b,(azZ x).2):=by
 unfold vzk jza;simp only;rw[pzx (by omega),aza,rzc (by omega),aza];by_cases h:(azZ x).2=0
 .obtain⟨h1,h2,h3⟩:=nzY h;rw[dT0 h,if_pos h,h,h3,narrow_is (by omega),units_is (by omega)];have hu:=qz2 (rs x);rw[show(!true)=false from rfl,azd,aza,appN (by simp;omega),aza];have hlen:(b++[UInt8.ofNat (u8.wrap ((us (rs x)).length:Int)).toNat,UInt8.ofNat (u8.wrap (((us (rs x)).length:Int).fdiv 256)).toNat,UInt8.ofNat 1]).length=b.length+3:=by simp
  cases hn:nar x
  .rw[azd,aza,put_l1 (by omega) (by omega),aza];simp[stB,lw2,hn]
  .rw[azc,hlen,azH (by omega) (by omega)];have e1:inb (b.length+3) (((b.length+3:Nat):Int)-1)=some (b.length+2):=by
    unfold inb;rw[dT0 (by omega),dT0 (by omega)];simp;omega
   rw[e1,aza];simp only[Nat.zero_add];have e2:∃c,nth (b++[UInt8.ofNat (u8.wrap ((us (rs x)).length:Int)).toNat,UInt8.ofNat (u8.wrap (((us (rs x)).length:Int).fdiv 256)).toNat,UInt8.ofNat 1]) (b.length+2)=some c:=⟨_,by
    unfold nth;rw[List.getElem?_eq_getElem (by simp)]⟩
   obtain⟨c,e2⟩:=e2;rw[e2,aza,aza,put_l1 (by simp;omega) (by omega),aza];simp[stB,lw2,hn,List.set_append]
 .rw[dF0 h,if_neg h];rfl
theorem NzM {b x:List UInt8}(hb:b.length<=100000000)(hl:x.length<=4000000):qzN (b,x)=some (if(azZ x).2=0 then b++stB x else b,(azZ x).2):=by
 unfold qzN;simp only;rw[fz0 hl,aza];by_cases h:(azZ x).2=0
 .obtain⟨h1,h2,h3⟩:=nzY h;have hu:=qz2 (rs x);have hrl:=szA x;rw[dT0 h,if_pos h,h,h3,IzY (by omega) (by omega),show(!true)=false from rfl,azd];have:=ez4 (b:=b) (v:=((us (rs x)).length:Int)) (n:=2) (by omega) (by omega);rw[show((2:Nat):Int)=2 from rfl]at this;rw[this,aza,oz2 hl,if_pos h1,aza,uz7 hl h1];simp only;rw[uz8 (by omega) (Gzl x),aza,aza];cases hn:nar x
  .rw[azd,appN (by simp[czw];omega),aza,IzD (by simp[czw];omega) (by omega),aza];simp[stB,hn]
  .rw[azc,appN (by simp[czw];omega),aza,IzD (by simp[czw];omega) (by omega),aza];simp[stB,hn]
 .rw[dF0 h,if_neg h,show(!false)=true from rfl,azc,pzx (by omega)];rfl
def opR (e:Expr):Prop:=(e.Kind=6->0<=e.Op/\e.Op<=1023)/\(e.Kind=7->1<=e.Op/\e.Op<=3)/\(e.Kind=8->1<=e.Op/\e.Op<=12)/\(e.Kind=9->0<=e.Op/\e.Op<=29)
theorem b5_range {e:Expr}{k lo hi:Int}(h:(obnd (czx (e,k,lo,hi)) fun y=>brn y (some (1:Int)) (some 0))=some 0):lo<=e.Op/\e.Op<=hi:=by
 unfold czx at h;simp only at h;by_cases h1:e.Op<lo
 .rw[dT0 h1]at h;cases h
 rw[dF0 h1,azd]at h;by_cases h2:hi<e.Op
 .rw[dT0 h2]at h;cases h
 omega
theorem tail_op {e:Expr}{s:Bool}{k:Int}(h:(obnd (dz6 (e,s)) fun y=>brn y (some 1) (obnd (dz7 (0,0,e.Kind)) fun y_4=>obnd (czx (e,k,y_4)) fun y=>brn y (some (1:Int)) (some 0)))=some 0):opR e:=by
 obtain⟨b,hb⟩:=b3_tot (e,s);rw[hb,aza]at h;cases b
 .rw[azd]at h;refine⟨fun hk=>?_,fun hk=>?_,fun hk=>?_,fun hk=>?_⟩<;>rw[hk]at h<;>exact b5_range h
 .rw[azc]at h;cases h
theorem op_is {e:Expr}(h:fzg e=some 0):opR e:=by
 unfold fzg at h;rw[azj]at h;obtain⟨b1,h1⟩:∃b,jzs e=some b:=by unfold jzs;rw[brnI];split<;>exact⟨_,rfl⟩
 rw[h1,aza]at h;cases b1
 .rw[azd]at h;obtain⟨y,hy⟩:∃y,lzB e.Kind=some y:=by
   cases hy:lzB e.Kind
   .rw[hy]at h;cases h
   .exact⟨_,rfl⟩
  rw[hy,aza]at h;obtain⟨b2,h2⟩:=b2_tot (e,y.1,y.2.1,y.2.2.1,y.2.2.2);rw[h2,aza]at h;cases b2
  .rw[azd]at h;have tl:=@tail_op e y.2.2.1 y.2.2.2.2;obtain⟨a,ha⟩:=Mzf e.A;have area:∀x:Option Int,(obnd (czY e.A) fun y_3=>brn (!decide (y_3=0)) (some 12) x)=some 0->x=some 0:=fun x hx=>by
    rw[ha,aza]at hx;cases hd:(!decide (a=0))
    .rw[hd,azd]at hx;exact hx
    .rw[hd,azc]at hx;cases hx
   have two:∀x:Option Int,brn (decide (0<y.2.1)) (obnd (czY e.A) fun y_3=>brn (!decide (y_3=0)) (some 12) x) x=some 0->x=some 0:=fun x hx=>by
    cases hd:decide (0<y.2.1)
    .rw[hd,azd]at hx;exact hx
    .rw[hd,azc]at hx;exact area x hx
   cases hv:y.1
   .rw[hv,azd]at h;exact tl (two _ h)
   .rw[hv,azc]at h;cases hc:dzz e.V with
    | none=>rw[hc]at h;cases h
    | some c =>
     rw[hc,aza]at h;cases hd:(!decide (c=0))
     .rw[hd,azd]at h;cases hd:decide (e.V.Kind=0)
      .rw[hd,azd]at h;exact tl (two _ h)
      .rw[hd,azc]at h;cases h
     .rw[hd,azc]at h;injection h with h;simp[h]at hd
  .rw[azc]at h;cases h
 .rw[azc]at h;cases h
def b8 (x:Int):UInt8:=UInt8.ofNat (u8.wrap x).toNat
def cnB (v:Val):List UInt8:=if v.Kind=1 then 31::(lw 8 (u64.wrap v.N.M)++[b8 v.N.S])else if v.Kind=2 then 23::(if(azZ v.S).2=0 then stB v.S else [])else if v.Kind=3 then [29,if v.B then 1 else 0]else [28,b8 v.E]
def tok (e:Expr):List UInt8:=if e.Kind=1 then cnB e.V else if e.Kind=2 then 36::rfB e.A.A else if e.Kind=3 then 37::(rfB e.A.A++rfB e.A.B)else if e.Kind=4 then [58,b8 e.Sheet]++rfB e.A.A else if e.Kind=5 then [59,b8 e.Sheet]++(rfB e.A.A++rfB e.A.B)else if e.Kind=6 then 35::lw 2 e.Op else if e.Kind=7 then [if e.Op=1 then 19 else if e.Op=2 then 18 else 20]else if e.Kind=8 then [b8 (2+e.Op)]else if e.Kind=9 then [34,b8 e.Kids.length,b8 e.Op]else [21]
theorem flat_le {A B:Type}{f:A->List B}{k:Nat}(h:∀a,(f a).length<=k):∀l:List A,(l.flatMap f).length<=k*l.length
 | []=>by simp
 | a::l=>by rw[List.flatMap_cons,List.length_append,List.length_cons];have:=h a;have:=flat_le h l;rw[Nat.mul_add];omega
theorem stB_le {x:List UInt8}(h:(azZ x).2=0):(stB x).length<=2003:=by
 obtain⟨-,h2,-⟩:=nzY h;have:=flat_le (yze (nar x)) (us (rs x));rw[qz2]at this;simp only[stB,List.length_append,czw,List.length_cons,List.length_nil];omega
theorem cnB_le (v:Val):(cnB v).length<=2004:=by
 unfold cnB;split
 .simp[czw]
 .split
  .rw[List.length_cons];split
   .have:=stB_le (x:=v.S) (by assumption);omega
   .simp
  .split<;>simp
theorem tok_le (e:Expr):(tok e).length<=2004:=by
 unfold tok;have:=cnB_le e.V
 repeat' split
 all_goals (try simp[zzf,czw]);try omega
theorem const_is {b:List UInt8}{v:Val}(hb:b.length<=90000000)(hl:v.S.length<=3000):pzl (b,v)=some (b++cnB v):=by
 unfold pzl cnB;simp only;by_cases h1:v.Kind=1
 .rw[dT0 h1,azc,if_pos h1,appN (by simp;omega),aza];have:=yzP (b:=b++[UInt8.ofNat 31]) (v:=u64.wrap v.N.M) (n:=8) (by omega) (by simp;omega);unfold Bzx;rw[show((8:Nat):Int)=8 from rfl]at this;simp only;rw[this,aza,aza,appN (by simp[czw];omega)];simp[b8]
 rw[dF0 h1,azd,if_neg h1];by_cases h2:v.Kind=2
 .rw[dT0 h2,azc,if_pos h2,appN (by simp;omega),aza,put_is (by simp;omega) (by omega),aza];simp only;split<;>simp
 rw[dF0 h2,azd,if_neg h2];by_cases h3:v.Kind=3
 .rw[dT0 h3,azc,if_pos h3];cases v.B
  .rw[azd,appN (by simp;omega)];rfl
  .rw[azc,appN (by simp;omega)];rfl
 rw[dF0 h3,azd,if_neg h3,appN (by simp;omega)];rfl
theorem rowR {e:Expr}(hk:okK e)(h0:2<=e.Kind)(h1:e.Kind<=5):(0<=e.A.A.Row/\e.A.A.Row<65536)/\(0<=e.A.B.Row/\e.A.B.Row<65536):=by
 have:=hk.2.2.2.2.2.2.2 h0 h1;rw[wz0]at this;cases hg:gd e.A.A&&gd e.A.B
 .rw[hg]at this;cases this
 .simp[gd]at hg;omega
theorem token_is {b:List UInt8}{e:Expr}(hb:b.length<=80000000)(hl:e.V.S.length<=3000)(ho:opR e):tzN (b,e)=some (b++tok e):=by
 unfold tzN tok;simp only;by_cases h1:e.Kind=1
 .rw[dT0 h1,azc,if_pos h1,const_is (by omega) hl];rfl
 rw[dF0 h1,azd,if_neg h1];by_cases h2:e.Kind=2
 .rw[dT0 h2,azc,if_pos h2,appN (by simp;omega),aza,Cz4 (by simp;omega) (by simp)];simp
 rw[dF0 h2,azd,if_neg h2];by_cases h3:e.Kind=3
 .rw[dT0 h3,azc,if_pos h3,appN (by simp;omega),aza,Cz4 (by simp;omega) (by simp)];simp
 rw[dF0 h3,azd,if_neg h3];by_cases h4:e.Kind=4
 .rw[dT0 h4,azc,if_pos h4,appN (by simp;omega),aza,Cz4 (by simp;omega) (by simp)];simp[b8]
 rw[dF0 h4,azd,if_neg h4];by_cases h5:e.Kind=5
 .rw[dT0 h5,azc,if_pos h5,appN (by simp;omega),aza,Cz4 (by simp;omega) (by simp)];simp[b8]
 rw[dF0 h5,azd,if_neg h5];by_cases h6:e.Kind=6
 .rw[dT0 h6,azc,if_pos h6,appN (by simp;omega),aza];simp[lw2]
 rw[dF0 h6,azd,if_neg h6];by_cases h7:e.Kind=7
 .obtain⟨a,c⟩:=ho.2.1 h7;rw[dT0 h7,azc,if_pos h7];rcases(by omega:e.Op=1\/e.Op=2\/e.Op=3)with h|h|h<;>rw[h]
  .rw[show idx [UInt8.ofNat 19,UInt8.ofNat 18,UInt8.ofNat 20] (i64.wrap (1-1))=some 19 from rfl,aza,appN (by simp;omega)];rfl
  .rw[show idx [UInt8.ofNat 19,UInt8.ofNat 18,UInt8.ofNat 20] (i64.wrap (2-1))=some 18 from rfl,aza,appN (by simp;omega)];rfl
  .rw[show idx [UInt8.ofNat 19,UInt8.ofNat 18,UInt8.ofNat 20] (i64.wrap (3-1))=some 20 from rfl,aza,appN (by simp;omega)];rfl
 rw[dF0 h7,azd,if_neg h7];by_cases h8:e.Kind=8
 .obtain⟨a,c⟩:=ho.2.2.1 h8;rw[dT0 h8,azc,if_pos h8,show u8.wrap e.Op=e.Op from mz4 ⟨by show(0:Int)<=_;omega,by show _<=(255:Int);omega⟩,appN (by simp;omega)];rfl
 rw[dF0 h8,azd,if_neg h8];by_cases h9:e.Kind=9
 .rw[dT0 h9,azc,if_pos h9,appN (by simp;omega)];rfl
 rw[dF0 h9,azd,if_neg h9,appN (by simp;omega)];rfl
theorem refTok_is {b:List UInt8}{e:Expr}(hb:b.length<=80000000)(hl:e.V.S.length<=3000)(hk:okK e)(ho:opR e)
 {self:List UInt8×Expr->Option (List UInt8)} {b0:List UInt8} (h0:pzm self (b0,e,0)=some b):fzl self (b0,e)=some (b++tok e):=by
 unfold fzl tok;simp only[azj];rw[h0,aza];by_cases h1:e.Kind=1
 .rw[dT0 h1,azc,if_pos h1];unfold cnB;by_cases v1:e.V.Kind=1
  .rw[dT0 v1,azc,if_pos v1,appN (by simp;omega),aza];have:=ez4 (b:=b++[UInt8.ofNat 31]) (v:=u64.wrap e.V.N.M) (n:=8) (by omega) (by simp;omega);rw[show((8:Nat):Int)=8 from rfl]at this;rw[this,aza,appN (by simp[czw];omega)];simp[b8]
  rw[dF0 v1,azd,if_neg v1];by_cases v2:e.V.Kind=2
  .rw[dT0 v2,azc,if_pos v2,appN (by simp;omega),aza,NzM (by simp;omega) (by omega),aza];simp only;split<;>simp
  rw[dF0 v2,azd,if_neg v2];by_cases v3:e.V.Kind=3
  .rw[dT0 v3,azc,if_pos v3];cases e.V.B
   .rw[azd,appN (by simp;omega)];rfl
   .rw[azc,appN (by simp;omega)];rfl
  rw[dF0 v3,azd,if_neg v3,appN (by simp;omega)];rfl
 rw[dF0 h1,azd,if_neg h1];by_cases h2:e.Kind=2
 .obtain⟨⟨r0,r1⟩,r2,r3⟩:=rowR hk (by omega) (by omega);rw[dT0 h2,azc,if_pos h2,appN (by simp;omega),aza,pzZ (by simp;omega) r0 r1];simp
 rw[dF0 h2,azd,if_neg h2];by_cases h3:e.Kind=3
 .obtain⟨⟨r0,r1⟩,r2,r3⟩:=rowR hk (by omega) (by omega);rw[dT0 h3,azc,if_pos h3,appN (by simp;omega),aza,pzZ (by simp;omega) r0 r1,aza,pzZ (by simp[zzf];omega) r2 r3];simp
 rw[dF0 h3,azd,if_neg h3];by_cases h4:e.Kind=4
 .obtain⟨⟨r0,r1⟩,r2,r3⟩:=rowR hk (by omega) (by omega);rw[dT0 h4,azc,if_pos h4,appN (by simp;omega),aza,pzZ (by simp;omega) r0 r1];simp[b8]
 rw[dF0 h4,azd,if_neg h4];by_cases h5:e.Kind=5
 .obtain⟨⟨r0,r1⟩,r2,r3⟩:=rowR hk (by omega) (by omega);rw[dT0 h5,azc,if_pos h5,appN (by simp;omega),aza,pzZ (by simp;omega) r0 r1,aza,pzZ (by simp[zzf];omega) r2 r3];simp[b8]
 rw[dF0 h5,azd,if_neg h5];by_cases h6:e.Kind=6
 .obtain⟨a,c⟩:=ho.1 h6;rw[dT0 h6,azc,if_pos h6,appN (by simp;omega),aza,IzY a (by omega)];have:=ez4 (b:=b++[UInt8.ofNat 35]) (v:=e.Op) (n:=2) (by omega) (by simp;omega);rw[show((2:Nat):Int)=2 from rfl]at this;rw[this];simp
 rw[dF0 h6,azd,if_neg h6];by_cases h7:e.Kind=7
 .obtain⟨a,c⟩:=ho.2.1 h7;rw[dT0 h7,azc,if_pos h7];rcases(by omega:e.Op=1\/e.Op=2\/e.Op=3)with h|h|h<;>rw[h]
  .rw[show idx [(19:Int),18,20] (i64.wrap (1-1))=some 19 from rfl,aza,appN (by simp;omega)];rfl
  .rw[show idx [(19:Int),18,20] (i64.wrap (2-1))=some 18 from rfl,aza,appN (by simp;omega)];rfl
  .rw[show idx [(19:Int),18,20] (i64.wrap (3-1))=some 20 from rfl,aza,appN (by simp;omega)];rfl
 rw[dF0 h7,azd,if_neg h7];by_cases h8:e.Kind=8
 .obtain⟨a,c⟩:=ho.2.2.1 h8;rw[dT0 h8,azc,if_pos h8,azH (by omega) (by omega),appN (by simp;omega)];rfl
 rw[dF0 h8,azd,if_neg h8];by_cases h9:e.Kind=9
 .rw[dT0 h9,azc,if_pos h9,appN (by simp;omega)];rfl
 rw[dF0 h9,azd,if_neg h9,appN (by simp;omega)];rfl
def pb:Nat->Expr->List UInt8
 | 0,_=>[]
 | d+1,e=>e.Kids.flatMap (pb d)++tok e
theorem pb_le:∀(d:Nat) (e:Expr),(pb d e).length<=2004*sz d e
 | 0,_=>by simp[pb]
 | d+1,e=>by
  have key:∀l:List Expr,(l.flatMap (pb d)).length<=2004*(l.map (sz d)).sum:=fun l=>by
   induction l with
   | nil=>simp
   | cons a l ih=>rw[List.flatMap_cons,List.length_append,List.map_cons,List.sum_cons];have:=pb_le d a;omega
  have:=key e.Kids;have:=tok_le e
  show(e.Kids.flatMap (pb d)++tok e).length<=2004*(1+(e.Kids.map (sz d)).sum)
  rw[List.length_append];omega
theorem sz_take {d:Nat}{e:Expr}(i:Nat):((e.Kids.take i).flatMap (pb d)).length+2004<=2004*sz (d+1) e:=by
 have key:∀l:List Expr,(l.flatMap (pb d)).length<=2004*(l.map (sz d)).sum:=fun l=>by
  induction l with
  | nil=>simp
  | cons a l ih=>rw[List.flatMap_cons,List.length_append,List.map_cons,List.sum_cons];have:=pb_le d a;omega
 have h1:=key (e.Kids.take i);have h2:((e.Kids.take i).map (sz d)).sum<=(e.Kids.map (sz d)).sum:=by
  conv=>rhs;rw[<-List.take_append_drop i e.Kids,List.map_append,List.sum_append]
  omega
 show _<=2004*(1+(e.Kids.map (sz d)).sum)
 omega
theorem sz_takeK {d:Nat}{e:Expr}{i:Nat}(hi:i<e.Kids.length):((e.Kids.take i).flatMap (pb d)).length+2004*sz d e.Kids[i]<=2004*sz (d+1) e:=by
 have key:∀l:List Expr,(l.flatMap (pb d)).length<=2004*(l.map (sz d)).sum:=fun l=>by
  induction l with
  | nil=>simp
  | cons a l ih=>rw[List.flatMap_cons,List.length_append,List.map_cons,List.sum_cons];have:=pb_le d a;omega
 have h1:=key (e.Kids.take i);have h2:((e.Kids.take i).map (sz d)).sum+sz d e.Kids[i]<=(e.Kids.map (sz d)).sum:=by
  conv=>rhs;rw[<-List.take_append_drop i e.Kids,List.map_append,List.sum_append]
  rw[List.drop_eq_getElem_cons hi,List.map_cons,List.sum_cons];omega
 show _<=2004*(1+(e.Kids.map (sz d)).sum)
 omega
def gN:Nat->Expr->Prop
 | 0,_=>False
 | d+1,e=>fzg e=some 0/\∀k∈e.Kids,gN d k
theorem fb0 {f:Expr->Int}:∀{l:List Expr},fb f l=0->∀e∈l,f e=0
 | [],_,e,h=>by cases h
 | a::l,h,e,he=>by
  unfold fb at h;split at h
  .rcases List.mem_cons.1 he with rfl|he
   .assumption
   .exact fb0 h e he
  .contradiction
theorem gN_of:∀(d:Nat) (k:Int) (e:Expr),tr d e->(∀x∈pre d k e,nd x.e=0)->gN d e
 | 0,_,_,h,_=>h.elim
 | d+1,k,e,ht,h=>by
  refine⟨?_,fun x hx=>gN_of d (k+1) x (mzV ht hx) fun y hy=>h y ?_⟩
  .have:=h ⟨e,k⟩ (by simp[pre]);rw[(nd_is ht.1).2];rw[this]
  .simp only[pre,List.mem_cons,List.mem_flatMap];exact .inr ⟨x,hx,hy⟩
theorem ck0 {e:Expr}(ht:tr 40 e)(h:ck e=0):gN 40 e/\dp 40 e<=16:=by
 unfold ck at h;split at h
 .cases h
 .split at h
  .cases h
  .exact⟨gN_of 40 1 e ht fun x hx=>fb0 h x.e (List.mem_map_of_mem hx),by omega⟩
theorem puts_is:∀(d N:Nat) (e:Expr) (b:List UInt8),d<N->sz d e<=1000->tr d e->gN d e->b.length+2004*sz d e<=80000000 ->
 iter jzG N (b,e)=some (b++pb d e)/\iter fzl N (b,e)=some (b++pb d e)
 | _,0,_,_,h,_,_,_,_=>absurd h (by omega)
 | 0,_,_,_,_,_,h,_,_=>h.elim
 | d+1,N+1,e,b,hN,hs,ht,hg,hb=>by
  have hl:=lenK hs;obtain⟨r,hr,hok⟩:=JzU ht.1;have hok:=hok (by have:=hg.1;rw[hr]at this;injection this);have hop:=op_is hg.1;have hk:∀i (hi:i<e.Kids.length) (s:List UInt8),s=b++(e.Kids.take i).flatMap (pb d)->iter jzG N (s,e.Kids[i])=some (s++pb d e.Kids[i])/\iter fzl N (s,e.Kids[i])=some (s++pb d e.Kids[i]):=fun i hi s hs'=>by
   refine puts_is d N _ s (by omega) (szK hs (List.getElem_mem hi)) (mzV ht (List.getElem_mem hi)) (hg.2 _ (List.getElem_mem hi)) ?_;have:=sz_takeK (d:=d) (e:=e) hi;rw[hs',List.length_append];omega
  rw[azz,azz];generalize iter jzG N=S at hk;generalize iter fzl N=S' at hk;have nxt:∀(s:List UInt8) i (hi:i<e.Kids.length) (s':List UInt8),s=b++(e.Kids.take i).flatMap (pb d)->(.inl (s++pb d e.Kids[i]):List UInt8⊕List UInt8) = .inl s'->s'=b++(e.Kids.take (i+1)).flatMap (pb d):=fun s i hi s' h1 h2=>by
   injection h2 with h2;rw[<-h2,h1,List.take_succ_eq_append_getElem hi,List.flatMap_append];simp
  have p1:=bzG (F:=mzZ S) (fun(s:List UInt8) (i:Nat)=>(s,e.Kids,(e.Kids.length:Int),(i:Int))) id e.Kids (fun s x=>(.inl (s++pb d x):List UInt8⊕List UInt8)) id (fun s i=>s=b++(e.Kids.take i).flatMap (pb d)) (by omega)
   (fun back s i hi hp=>by
    unfold mzZ;simp only[azj];rw[ltT hi,azc,idxG hi,aza,(hk i hi s hp).1,aza,wr1 (by omega)];rfl)
   nxt
   (fun back s _=>by unfold mzZ;simp only;rw[ltF];rfl) b (by simp)
  have p2:=bzG (F:=kzg S') (fun(s:List UInt8) (i:Nat)=>(s,e,(i:Int))) id e.Kids (fun s x=>(.inl (s++pb d x):List UInt8⊕List UInt8)) id (fun s i=>s=b++(e.Kids.take i).flatMap (pb d)) (by omega)
   (fun back s i hi hp=>by
    unfold kzg;simp only[azj];rw[ltT hi,azc,idxG hi,aza,(hk i hi s hp).2,aza,wr1 (by omega)];rfl)
   nxt
   (fun back s _=>by unfold kzg;simp only;rw[ltF];rfl) b (by simp)
  rw[cz3,kzp]at p1 p2;have hkl:(b++e.Kids.flatMap (pb d)).length<=80000000:=by
   have:=sz_take (d:=d) (e:=e) e.Kids.length;rw[List.take_length]at this;rw[List.length_append];omega
  constructor
  .unfold jzG;simp only[azj];rw[show wzu S (b,e.Kids,(e.Kids.length:Int),0)=_ from p1];simp only[aza,id];rw[token_is hkl ht.1 hop];simp[pb]
  .rw[refTok_is hkl ht.1 hok hop (show pzm S' (b,e,0)=_ from p2)];simp[pb]
def enc1 (e:Expr):List UInt8×Int:=if ck e=0 then(if 4096<(pb 40 e).length then([],4)else(pb 40 e,0))else([],ck e)
theorem lz3 {e:Expr}(hs:sz 40 e<=1000)(ht:tr 40 e):mzY e=some (enc1 e)/\izB e=some (enc1 e):=by
 unfold mzY izB enc1;rw[azj,MzE hs ht,Mzs hs ht];simp only[aza];by_cases h:ck e=0
 .obtain⟨p1,p2⟩:=puts_is 40 big e [] (by rw[bzT];omega) hs ht (ck0 ht h).1 (by simp;omega);rw[dT0 h,if_pos h,show(!true)=false from rfl,azd,azd,show FzR ([],e)=_ from p1,show yzY ([],e)=_ from p2];simp only[aza,List.nil_append,brnI,decide_eq_true_eq];by_cases h4:4096<(pb 40 e).length
  .rw[if_pos (by omega),if_pos h4];exact⟨rfl,rfl⟩
  .rw[if_neg (by omega),if_neg h4];exact⟨rfl,rfl⟩
 .rw[dF0 h,if_neg h];exact⟨rfl,rfl⟩
theorem scan {S X Y:Type}{F:(X->Option Y)->X->Option Y}(mk:S->Nat->X)(n:Nat)(Q:S->Nat->Prop)(P:Y->Prop)(hn:n<=1000000000)
 (step:∀back s i,i<n->Q s i->(∃y,F back (mk s i)=some y/\P y)\/∃s',F back (mk s i)=back (mk s' (i+1))/\Q s' (i+1))
 (fin:∀back s,Q s n->∃y,F back (mk s n)=some y/\P y) (s:S) (h0:Q s 0):∃y,iter F big (mk s 0)=some y/\P y:=by
 have key:∀k N i s,i+k=n->k<N->Q s i->∃y,iter F N (mk s i)=some y/\P y:=by
  intro k;induction k with
  | zero =>
   intro N i s hi hN hq;obtain⟨m,rfl⟩:∃m,N=m+1:=⟨N-1,by omega⟩;have:i=n:=by omega
   subst this;rw[azz];exact fin _ s hq
  | succ k ih =>
   intro N i s hi hN hq;obtain⟨m,rfl⟩:∃m,N=m+1:=⟨N-1,by omega⟩;rw[azz];rcases step (iter F m) s i (by omega) hq with h|⟨s',h1,h2⟩
   .exact h
   .rw[h1];exact ih m (i+1) s' (by omega) (by omega) h2
 exact key n big 0 s (by omega) (by rw[bzT];omega) h0
theorem layout_l2 {bs:List UInt8}{cuts:List Int}{base w:Int}{us:List Int}(hw:w=1\/w=2)(hb:bs.length<=100000000)(hc:cuts.length<=100000000)(hu:us.length<=10000000):
 ∃y,ezi (bs,cuts,base,us,w,0)=some y/\(y.1.length<=bs.length+3*us.length/\y.2.1.length<=cuts.length+us.length):=by
 refine scan (F:=ez3) (fun(s:List UInt8×List Int×Int) (i:Nat)=>(s.1,s.2.1,s.2.2,us,w,(i:Int))) us.length (fun s i=>s.1.length<=bs.length+3*i/\s.2.1.length<=cuts.length+i) _ (by omega) ?_ ?_ (bs,cuts,base) (by simp)
 .rintro back ⟨b,c,p⟩ i hi ⟨h1,h2⟩;right;simp only at h1 h2;unfold ez3;simp only;rw[ltT hi,azc,idxG hi,wr1 (by omega)];cases decide (224<i64.wrap (i64.wrap ((b.length:Int)-p)+w))
  .rw[azd,aza,appN (by simp;omega),aza,aza];rcases hw with rfl|rfl
   .exact⟨(_,_,_),rfl,by simp;omega,by simp;omega⟩
   .rw[show decide ((2:Int)=2)=true from rfl,azc,appN (by simp;omega),aza];exact⟨(_,_,_),rfl,by simp;omega,by simp;omega⟩
  .rw[azc,appN (by simp;omega),aza,appN (by simp;omega),aza,aza,appN (by simp;omega),aza,aza];rcases hw with rfl|rfl
   .exact⟨(_,_,_),rfl,by simp;omega,by simp;omega⟩
   .rw[show decide ((2:Int)=2)=true from rfl,azc,appN (by simp;omega),aza];exact⟨(_,_,_),rfl,by simp;omega,by simp;omega⟩
 .rintro back ⟨b,c,p⟩ h;unfold ez3;simp only;rw[ltF,azd];exact⟨_,rfl,h⟩
def okT (l:List (List UInt8)):Prop:=∀x∈l,(azZ x).2=0
theorem layout_is {x:Table}(hl:x.Texts.length<=1000)(hs:ezs x.Texts)(ht:okT x.Texts):
 ∃y,lzT x=some y/\(y.1.length<=10000000/\y.2.1.length<=10000000/\y.2.2.length<=1000):=by
 unfold lzT;have p1:=ez4 (b:=[]) (v:=u64.wrap x.Uses) (n:=4) (by omega) (by simp);have p2:=ez4 (b:=[]++lw 4 (u64.wrap x.Uses)) (v:=u64.wrap (x.Texts.length:Int)) (n:=4) (by omega) (by simp[czw]);rw[show((4:Nat):Int)=4 from rfl]at p1 p2;rw[p1,aza,p2,aza];generalize hb0:[]++lw 4 (u64.wrap x.Uses)++lw 4 (u64.wrap (x.Texts.length:Int))=b0;have hb0:b0.length=8:=by rw[<-hb0];simp[czw]
 have:=scan (F:=ez2) (fun(s:List UInt8×List Int×List Int×Int) (i:Nat)=>(x,s.1,s.2.1,s.2.2.1,s.2.2.2,(i:Int))) x.Texts.length
  (fun s i=>s.1.length<=8+3003*i/\s.2.1.length<=1001*i/\s.2.2.1.length<=i) (fun y=>y.1.length<=10000000/\y.2.1.length<=10000000/\y.2.2.length<=1000) (by omega)
  (by
   rintro back ⟨b,c,st,p⟩ i hi ⟨h1,h2,h3⟩;right;simp only at h1 h2 h3;have hm:=hs _ (List.getElem_mem hi);obtain⟨u1,u2,-⟩:=nzY (ht _ (List.getElem_mem hi));rw[<-qz2]at u2;have hrl:=szA x.Texts[i];unfold ez2;simp only;rw[ltT hi,azc,idxG hi,wr1 (by omega),aza,oz2 (by omega),if_pos u1,aza,uz8 (by omega) (Gzl _),aza,aza,uz7 (by omega) u1,aza];generalize us (rs x.Texts[i])=u at *;have go:∀(w:Int) (hw:w=1\/w=2) (b':List UInt8) (c':List Int) (p':Int) (st':List Int),b'.length<=b.length+3->c'.length<=c.length+1->st'.length<=st.length+1 ->
    ∃s':List UInt8×List Int×List Int×Int,(obnd (ezi (b',c',p',u,w,0)) fun y=>back (x,y.1,y.2.1,st',y.2.2,((i+1:Nat):Int)))=back (x,s'.1,s'.2.1,s'.2.2.1,s'.2.2.2,((i+1:Nat):Int))/\(s'.1.length<=8+3003*(i+1)/\s'.2.1.length<=1001*(i+1)/\s'.2.2.1.length<=i+1):=by
    intro w hw b' c' p' st' g1 g2 g3;obtain⟨y,e1,e2,e3⟩:=layout_l2 (base:=p') (us:=u) (w:=w) (bs:=b') (cuts:=c') hw (by omega) (by omega) (by omega);rw[e1,aza];exact⟨(y.1,y.2.1,st',y.2.2),rfl,Nat.le_trans e2 (by omega),Nat.le_trans e3 (by omega),Nat.le_trans g3 (by omega)⟩
   cases nar x.Texts[i]
   .rw[azd];cases decide (224<i64.wrap (i64.wrap ((b.length:Int)-p)+3))
    .rw[azd,appN (by simp;omega),aza,appN (by simp;omega),aza];exact go 2 (.inr rfl) _ _ _ _ (by simp) (by simp) (by simp)
    .rw[azc,appN (by simp;omega),aza,appN (by simp;omega),aza,appN (by simp;omega),aza];exact go 2 (.inr rfl) _ _ _ _ (by simp) (by simp) (by simp)
   .rw[azc];cases decide (224<i64.wrap (i64.wrap ((b.length:Int)-p)+3))
    .rw[azd,appN (by simp;omega),aza,appN (by simp;omega),aza];exact go 1 (.inl rfl) _ _ _ _ (by simp) (by simp) (by simp)
    .rw[azc,appN (by simp;omega),aza,appN (by simp;omega),aza,appN (by simp;omega),aza];exact go 1 (.inl rfl) _ _ _ _ (by simp) (by simp) (by simp))
  (by
   rintro back ⟨b,c,st,p⟩ ⟨h1,h2,h3⟩;simp only at h1 h2 h3;unfold ez2;simp only;rw[ltF,azd];exact⟨_,rfl,by simp only;omega,by simp only;omega,by simp only;omega⟩) (b0,[],[],0) (by simp[hb0])
 obtain⟨y,e1,e2⟩:=this;exact⟨_,by rw[show nzn (x,b0,[],[],0,0)=_ from e1,aza],e2⟩
theorem dzh {α:Type}{b:Bool}{x y:Option α}(hx:∃n,x=some n)(hy:∃n,y=some n):∃n,brn b x y=some n:=by cases b<;>assumption
theorem CzF {i:Nat}(h:0<i)(h1:i<=1000000000):i64.wrap ((i:Int)-1)=((i-1:Nat):Int):=by rw[azH (by omega) (by omega)];omega
theorem table_l1 {x:Table}(hl:x.Texts.length<=1000)(hs:ezs x.Texts):∃z,jz6 (x,0)=some z/\((∃e,z = .inr e/\e≠0)\/z = .inl ()/\∀i,i<x.Texts.length->∀h:i<x.Texts.length,(azZ x.Texts[i]).2=0):=by
 refine czz (F:=dzm) (fun i=>(x,(i:Int))) x.Texts.length (fun i=>∀h:i<x.Texts.length,(azZ x.Texts[i]).2=0) (fun z=>∃e,z = .inr e/\e≠0) (.inl ()) (by omega) ?_ ?_
 .intro back i hi;have hm:=hs _ (List.getElem_mem hi);unfold dzm;simp only;rw[ltT hi,azc,idxG hi,aza,fz0 (by omega),aza,wr1 (by omega)];by_cases h:(azZ x.Texts[i]).2=0
  .rw[dT0 h];exact .inl ⟨rfl,fun _=>h⟩
  .rw[dF0 h];exact .inr ⟨_,rfl,_,rfl,h⟩
 .intro back;unfold dzm;simp only;rw[ltF];rfl
theorem table_l3 {x:Table}{n:Nat}(hl:x.Texts.length<=1000)(hn:n<x.Texts.length):∃z,jz8 (x,(n:Int),0)=some z/\(z = .inr 7\/z = .inl ()/\∀i,i<n->True):=by
 refine czz (F:=dzo) (fun i=>(x,(n:Int),(i:Int))) n (fun i=>True) (fun z=>z = .inr 7) (.inl ()) (by omega) ?_ ?_
 .intro back i hi;unfold dzo;simp only;rw[ltT hi,azc,idxG (by omega:i<x.Texts.length),idxG hn,aza,aza,wr1 (by omega)];cases decide (x.Texts[i]=x.Texts[n])
  .exact .inl ⟨rfl,trivial⟩
  .exact .inr ⟨_,rfl,rfl⟩
 .intro back;unfold dzo;simp only;rw[ltF];rfl
theorem table_l2 {x:Table}(hl:x.Texts.length<=1000):∃z,jz7 (x,0)=some z/\(z = .inr 7\/z = .inl ()/\∀i,i<x.Texts.length->True):=by
 refine czz (F:=dzn) (fun i=>(x,(i:Int))) x.Texts.length (fun i=>True) (fun z=>z = .inr 7) (.inl ()) (by omega) ?_ ?_
 .intro back i hi;unfold dzn;simp only;obtain⟨z,h1,h2⟩:=table_l3 hl hi;rw[ltT hi,azc,h1,aza,wr1 (by omega)];rcases h2 with rfl|⟨rfl,-⟩
  .exact .inr ⟨_,rfl,rfl⟩
  .exact .inl ⟨rfl,trivial⟩
 .intro back;unfold dzn;simp only;rw[ltF];rfl
theorem Lzv {x:Table}(hl:x.Texts.length<=1000)(hs:ezs x.Texts):∃r,gz7 x=some r/\(r=0->okT x.Texts):=by
 unfold gz7;obtain⟨z,h1,h2⟩:=table_l1 hl hs;obtain⟨z',h3,h4⟩:=table_l2 hl;rw[dF0 (by omega),azd,h1,aza];rcases h2 with⟨e,rfl,he⟩|⟨rfl,h2⟩
 .exact⟨_,rfl,fun h=>absurd h he⟩
 .have ok:okT x.Texts:=fun t ht=>by
   obtain⟨i,hi,rfl⟩:=List.mem_iff_getElem.1 ht;exact h2 i hi hi
  simp only[osum];rw[h3,aza];rcases h4 with rfl|⟨rfl,-⟩
  .exact⟨_,rfl,fun h=>ok⟩
  .simp only;obtain⟨r,hr⟩:=dzh (b:=decide (x.Uses<(x.Texts.length:Int))) (x:=some (1:Int)) (y:=brn (decide (2147483647<x.Uses)) (some 1) (some 0)) ⟨_,rfl⟩ (dzh ⟨_,rfl⟩ ⟨_,rfl⟩);exact⟨r,hr,fun _=>ok⟩
theorem AzU {x:Rec}(hl:x.Data.length<=100000000):∃r,lzP x=some r:=by
 have:∃y,qzJ ([],⟨x.Type_,x.Data,[],x.At⟩,224)=some y/\True:=by
  refine nz9 (F:=nzl) (fun z=>(x.Data.length+224-z.2.2.toNat)) (fun z=>∃(c:List Int) (r:Rec) (i:Nat),z=(c,r,(i:Int))/\r.Data=x.Data/\c.length<=i/\i<=x.Data.length+224) _ ?_ _ ⟨[],_,224,rfl,rfl,by simp,by omega⟩ (by simp only;omega);rintro back z ⟨c,r,i,rfl,h1,h2,h3⟩ hb;unfold nzl;simp only at hb ⊢;rw[h1];by_cases h:i<x.Data.length
  .rw[dT0 (by omega),azc,appN (by simp;omega),aza,azH (by omega) (by omega)];exact hb _ ⟨_,_,i+224,rfl,rfl,by simp;omega,by omega⟩ (by simp only;omega)
  .rw[dF0 (by omega),azd];exact⟨_,rfl,trivial⟩
 obtain⟨y,h,-⟩:=this;unfold lzP;exact⟨_,by rw[h,aza]⟩
theorem rec_l1 {x:Rec}(hl:x.Cuts.length<=100000000):∃z,kz5 (x,0,0)=some z:=by
 have:=scan (F:=ezc) (fun(s:Int) (i:Nat)=>(x,s,(i:Int))) x.Cuts.length (fun _ _=>True) (fun _=>True) (by omega)
  (by
   intro back s i hi _;unfold ezc;simp only;rw[ltT hi,azc,idxG hi,wr1 (by omega)];simp only[aza];cases decide (x.Cuts[i]<=s)
   .rw[azd];cases decide ((x.Data.length:Int)<=x.Cuts[i])
    .exact .inr ⟨_,rfl,trivial⟩
    .exact .inl ⟨_,rfl,trivial⟩
   .exact .inl ⟨_,rfl,trivial⟩)
  (by
   intro back s _;unfold ezc;simp only;rw[ltF];exact⟨_,rfl,trivial⟩) 0 trivial
 obtain⟨z,h,-⟩:=this;exact⟨z,h⟩
theorem rec_l2 {x:Rec}(hl:x.Cuts.length<=100000000):∃z,kz6 (x,0,0)=some z:=by
 have:=scan (F:=ezd) (fun(s:Int) (i:Nat)=>(x,s,(i:Int))) x.Cuts.length (fun _ _=>True) (fun _=>True) (by omega)
  (by
   intro back s i hi _;unfold ezd;simp only;rw[ltT hi,azc,idxG hi,wr1 (by omega)];simp only[aza];cases decide (224<i64.wrap (x.Cuts[i]-s))
   .exact .inr ⟨_,rfl,trivial⟩
   .exact .inl ⟨_,rfl,trivial⟩)
  (by
   intro back s _;unfold ezd;simp only;rw[ltF];exact⟨_,rfl,trivial⟩) 0 trivial
 obtain⟨z,h,-⟩:=this;exact⟨z,h⟩
theorem EzG {x:Rec}(hl:x.Cuts.length<=100000000):∃r,fzD x=some r:=by
 unfold fzD;obtain⟨z,h1⟩:=rec_l1 hl;obtain⟨z',h2⟩:=rec_l2 hl;rw[h1,h2];refine dzh ⟨_,rfl⟩ (dzh ⟨_,rfl⟩ (dzh ⟨_,rfl⟩ (dzh ⟨_,rfl⟩ ?_)));rw[aza,aza];rcases z with z|z
 .rcases z' with z'|z'
  .exact dzh ⟨_,rfl⟩ ⟨_,rfl⟩
  .exact⟨_,rfl⟩
 .exact⟨_,rfl⟩
theorem table_e1 {l:List Int}{b:List UInt8}(hl:l.length<=1000)(hb:b.length<=1000):∃y,iz7 (l,b,0)=some y/\y.length<=1000000:=by
 refine nz9 (F:=iz6) (fun z=>l.length+8-z.2.2.toNat) (fun z=>∃(c:List UInt8) (i:Nat),z=(l,c,(i:Int))/\c.length<=1000+4*i/\i<=l.length+8) _ ?_ _ ⟨b,0,rfl,by omega,by omega⟩ (by simp only;omega);rintro back z ⟨c,i,rfl,h1,h2⟩ hbk;unfold iz6;simp only at hbk ⊢;by_cases h:i<l.length
 .have:=ez4 (b:=c) (v:=u64.wrap l[i]) (n:=4) (by omega) (by omega);rw[show((4:Nat):Int)=4 from rfl]at this;rw[dT0 (by omega),azc,idxG h,aza,this,aza,azH (by omega) (by omega)];exact hbk _ ⟨_,i+8,rfl,by simp[czw];omega,by omega⟩ (by simp only;omega)
 .rw[dF0 (by omega),azd];exact⟨_,rfl,by omega⟩
theorem xzc {x:Table}(hl:x.Texts.length<=1000)(hs:ezs x.Texts):∃r,ezV x=some r:=by
 unfold ezV;obtain⟨r,hr,hk⟩:=Lzv hl hs;rw[hr,aza];by_cases h:r=0
 .obtain⟨y,e1,e2,e3,e4⟩:=layout_is hl hs (hk h);rw[dT0 h,show(!true)=false from rfl,azd,e1,aza];have:=ez4 (b:=[]) (v:=8) (n:=2) (by omega) (by simp);rw[show((2:Nat):Int)=2 from rfl]at this;rw[this,aza];obtain⟨w,w1,w2⟩:=table_e1 (l:=y.2.2) (b:=[]++lw 2 8) e4 (by simp[czw]);obtain⟨c,hc⟩:=EzG (x:=⟨252,y.1,y.2.1,0⟩) (by simp only;omega);obtain⟨d,hd⟩:=AzU (x:=⟨255,w,[],0⟩) (by simp only;omega);rw[w1,aza,hc,aza,hd];exact dzh ⟨_,rfl⟩ ⟨_,rfl⟩
 .rw[dF0 h];exact⟨_,rfl⟩
def gdC (x:Cell):Bool:=decide (0<=x.Row)&&(decide (x.Row<65536)&&(decide (0<=x.Col)&&decide (x.Col<256)))
theorem nz7 (x:Cell):fzd x=some (gdC x):=by
 unfold fzd gdC;simp only[brnA]
theorem place_tot (p:Place)(n:Int):∃b,gz5 (p,n)=some b:=by
 unfold gz5;rw[nz7];exact dzh (dzh ⟨_,rfl⟩ ⟨_,rfl⟩) ⟨_,rfl⟩
theorem chain_is {l:List Place}(hl:l.length<=1000):∃r,ezv l=some r:=by
 unfold ezv;have:=ez4 (b:=[]) (v:=u64.wrap (l.length:Int)) (n:=2) (by omega) (by simp);rw[show((2:Nat):Int)=2 from rfl]at this;rw[dF0 (by omega),azd,this,aza];generalize hb:[]++lw 2 (u64.wrap (l.length:Int))=b0;have hb:b0.length=2:=by rw[<-hb];simp[czw]
 have:=scan (F:=cz4) (fun(s:List UInt8) (i:Nat)=>(l,(⟨0,[],[],0⟩:Rec),s,(i:Int))) l.length (fun s i=>s.length<=2+4*i) (fun y=>match y with | .inl y=>y.1.length<=100000 | .inr _=>True) (by omega)
  (by
   intro back s i hi hs;unfold cz4;simp only;obtain⟨g,hg⟩:=place_tot l[i] 8;have p1:=ez4 (b:=s++[UInt8.ofNat (u8.wrap l[i].Sheet).toNat]) (v:=u64.wrap l[i].At.Row) (n:=2) (by omega) (by simp;omega);rw[show((2:Nat):Int)=2 from rfl]at p1;rw[ltT hi,azc,idxG hi,wr1 (by omega),aza,hg,aza];cases g
   .exact .inl ⟨_,rfl,trivial⟩
   .right;rw[show(!true)=false from rfl,azd,aza,appN (by simp;omega),aza,aza,p1,aza,aza,appN (by simp[czw];omega),aza];exact⟨_,rfl,by simp[czw];omega⟩)
  (by
   intro back s hs;unfold cz4;simp only;rw[ltF,azd];exact⟨_,rfl,by simp only;omega⟩) b0 (by omega)
 obtain⟨y,h1,h2⟩:=this;rw[show izr (l,⟨0,[],[],0⟩,b0,0)=_ from h1,aza];cases y with
 | inl y =>
  obtain⟨r,hr⟩:=AzU (x:=⟨6247,y.1,[],0⟩) (by simp only at h2 ⊢;omega);simp only[osum];rw[hr];exact⟨_,rfl⟩
 | inr y=>exact⟨_,rfl⟩
theorem glob_l3 {x:Globals}{n:Nat}(hl:x.Sheets.length<=1000)(hn:n<x.Sheets.length):∃z,hzx (x,(n:Int),0)=some z/\(z = .inr 7\/z = .inl ()/\∀i,i<n->True):=by
 refine czz (F:=czN) (fun i=>(x,(n:Int),(i:Int))) n (fun i=>True) (fun z=>z = .inr 7) (.inl ()) (by omega) ?_ ?_
 .intro back i hi;unfold czN;simp only;rw[ltT hi,azc,idxG (by omega:i<x.Sheets.length),idxG hn,aza,aza,wr1 (by omega)];cases decide (x.Sheets[i]=x.Sheets[n])
  .exact .inl ⟨rfl,trivial⟩
  .exact .inr ⟨_,rfl,rfl⟩
 .intro back;unfold czN;simp only;rw[ltF];rfl
theorem glob_l2 {x:Globals}(hl:x.Sheets.length<=1000)(hs:ezs x.Sheets):∃z,hzw (x,0)=some z/\((∃e,z = .inr e/\e≠0)\/z = .inl ()/\∀i,i<x.Sheets.length->True):=by
 refine czz (F:=czM) (fun i=>(x,(i:Int))) x.Sheets.length (fun i=>True) (fun z=>∃e,z = .inr e/\e≠0) (.inl ()) (by omega) ?_ ?_
 .intro back i hi;have hm:=hs _ (List.getElem_mem hi);unfold czM;simp only;obtain⟨z,h1,h2⟩:=glob_l3 hl hi;rw[ltT hi,azc,idxG hi,aza,fz0 (by omega),aza,h1,aza,wr1 (by omega)];cases decide ((azZ x.Sheets[i]).2=0)
  .exact .inr ⟨_,rfl,_,rfl,by decide⟩
  .cases decide ((azZ x.Sheets[i]).1<1)
   .cases decide (31<(azZ x.Sheets[i]).1)
    .rcases h2 with rfl|⟨rfl,-⟩
     .exact .inr ⟨_,rfl,_,rfl,by decide⟩
     .exact .inl ⟨rfl,trivial⟩
    .exact .inr ⟨_,rfl,_,rfl,by decide⟩
   .exact .inr ⟨_,rfl,_,rfl,by decide⟩
 .intro back;unfold czM;simp only;rw[ltF];rfl
theorem glob_l4 {x:Globals}(hl:x.Formats.length<=1000)(hs:ezs x.Formats):∃z,hzy (x,0)=some z/\((∃e,z = .inr e/\e≠0)\/z = .inl ()/\∀i,i<x.Formats.length->True):=by
 refine czz (F:=czO) (fun i=>(x,(i:Int))) x.Formats.length (fun i=>True) (fun z=>∃e,z = .inr e/\e≠0) (.inl ()) (by omega) ?_ ?_
 .intro back i hi;have hm:=hs _ (List.getElem_mem hi);unfold czO;simp only;rw[ltT hi,azc,idxG hi,aza,fz0 (by omega),aza,wr1 (by omega)];by_cases h:(azZ x.Formats[i]).2=0
  .rw[dT0 h];exact .inl ⟨rfl,trivial⟩
  .rw[dF0 h];exact .inr ⟨_,rfl,_,rfl,h⟩
 .intro back;unfold czO;simp only;rw[ltF];rfl
theorem glob_l5 {x:Globals}(hl:x.XFs.length<=1000):∃z,hzz (x,0)=some z/\((∃e,z = .inr e/\e≠0)\/z = .inl ()/\∀i,i<x.XFs.length->True):=by
 refine czz (F:=czP) (fun i=>(x,(i:Int))) x.XFs.length (fun i=>True) (fun z=>∃e,z = .inr e/\e≠0) (.inl ()) (by omega) ?_ ?_
 .intro back i hi;unfold czP;simp only;rw[ltT hi,azc,idxG hi,wr1 (by omega)];simp only[aza];cases decide (x.XFs[i]<0)
  .cases decide ((x.Formats.length:Int)<=x.XFs[i])
   .exact .inl ⟨rfl,trivial⟩
   .cases decide (x.XFs[i]=0)
    .exact .inr ⟨_,rfl,_,rfl,by decide⟩
    .exact .inl ⟨rfl,trivial⟩
  .exact .inr ⟨_,rfl,_,rfl,by decide⟩
 .intro back;unfold czP;simp only;rw[ltF];rfl
theorem glob_l7 {l:List Expr}(hl:l.length<=1000000):∃z,hzB (l,0)=some z/\((∃e,z = .inr e/\e≠0)\/z = .inl ()/\∀i,i<l.length->∀h:i<l.length,l[i].Kind≠6):=by
 refine czz (F:=czR) (fun i=>(l,(i:Int))) l.length (fun i=>∀h:i<l.length,l[i].Kind≠6) (fun z=>∃e,z = .inr e/\e≠0) (.inl ()) (by omega) ?_ ?_
 .intro back i hi;unfold czR;simp only;rw[ltT hi,azc,idxG hi,aza,wr1 (by omega)];by_cases h:l[i].Kind=6
  .rw[dT0 h];exact .inr ⟨_,rfl,_,rfl,by decide⟩
  .rw[dF0 h];exact .inl ⟨rfl,fun _=>h⟩
 .intro back;unfold czR;simp only;rw[ltF];rfl
def BzG (e:Expr):Prop:=ck e=0/\∀x∈rf 40 e,x.Kind≠6
theorem enc0 {e:Expr}(h:(enc1 e).2=0):ck e=0:=by
 unfold enc1 at h;split at h
 .assumption
 .exact h
theorem glob_l6 {x:Globals}(hl:x.Names.length<=1000)(hn:∀e∈x.Names,fewE e):∃z,hzA (x,0)=some z/\((∃e,z = .inr e/\e≠0)\/z = .inl ()/\∀i,i<x.Names.length->∀h:i<x.Names.length,BzG x.Names[i]):=by
 refine czz (F:=czQ) (fun i=>(x,(i:Int))) x.Names.length (fun i=>∀h:i<x.Names.length,BzG x.Names[i]) (fun z=>∃e,z = .inr e/\e≠0) (.inl ()) (by omega) ?_ ?_
 .intro back i hi;obtain⟨s1,s2⟩:=hn _ (List.getElem_mem hi);have hr:=xzW 40 x.Names[i];obtain⟨z,h1,h2⟩:=glob_l7 (l:=rf 40 x.Names[i]) (by omega);unfold czQ;simp only[azj];rw[ltT hi,azc,idxG hi,aza,(lz3 (by omega) s2).2,aza,aza,(wzq (by omega) s2).2,aza,h1,aza,wr1 (by omega)];by_cases h:(enc1 x.Names[i]).2=0
  .rw[dT0 h];rcases h2 with⟨e,rfl,he⟩|⟨rfl,h2⟩
   .exact .inr ⟨_,rfl,_,rfl,he⟩
   .refine .inl ⟨rfl,fun _=>⟨enc0 h,fun y hy=>?_⟩⟩;obtain⟨j,hj,rfl⟩:=List.mem_iff_getElem.1 hy;exact h2 j hj hj
  .rw[dF0 h];exact .inr ⟨_,rfl,_,rfl,h⟩
 .intro back;unfold czQ;simp only;rw[ltF];rfl
theorem yzD {x:Globals}(h:fewG x)(s1:ezs x.Sheets)(s2:ezs x.Formats)(s3:ezs x.Texts.Texts):
 ∃r,fzc x=some r/\(r=0->1<=x.Sheets.length/\x.Sheets.length<=8/\∀e∈x.Names,BzG e):=by
 obtain⟨h1,h2,h3,h4,h5,h6,h7⟩:=h;unfold fzc;obtain⟨b,hb,hb'⟩:∃b,dz8 x=some b/\(b=false->1<=x.Sheets.length/\x.Sheets.length<=8):=by
  unfold dz8;by_cases a1:(x.Sheets.length:Int)<1
  .rw[dT0 a1];exact⟨_,rfl,fun h=>by cases h⟩
  rw[dF0 a1,azd];by_cases a2:(8:Int)<(x.Sheets.length:Int)
  .rw[dT0 a2];exact⟨_,rfl,fun h=>by cases h⟩
  rw[dF0 a2,azd];obtain⟨b,hb⟩:∃b,brn (decide ((64:Int)<(x.Formats.length:Int))) (some true) (brn (decide ((256:Int)<(x.XFs.length:Int))) (some true) (some (decide ((1024:Int)<(x.Names.length:Int)))))=some b :=
   dzh ⟨_,rfl⟩ (dzh ⟨_,rfl⟩ ⟨_,rfl⟩)
  exact⟨b,hb,fun _=>by omega⟩
 rw[hb,aza];cases b
 .rw[azd];obtain⟨z2,e2,q2⟩:=glob_l2 (x:=x) (by omega) s1;obtain⟨z4,e4,q4⟩:=glob_l4 (x:=x) (by omega) s2;obtain⟨z5,e5,q5⟩:=glob_l5 (x:=x) (by omega);obtain⟨z6,e6,q6⟩:=glob_l6 (x:=x) (by omega) h7;rw[e2,aza];rcases q2 with⟨e,rfl,he⟩|⟨rfl,-⟩
  .exact⟨_,rfl,fun h=>absurd h he⟩
  simp only[osum];rw[e4,aza];rcases q4 with⟨e,rfl,he⟩|⟨rfl,-⟩
  .exact⟨_,rfl,fun h=>absurd h he⟩
  simp only;rw[e5,aza];rcases q5 with⟨e,rfl,he⟩|⟨rfl,-⟩
  .exact⟨_,rfl,fun h=>absurd h he⟩
  simp only;rw[e6,aza];rcases q6 with⟨e,rfl,he⟩|⟨rfl,q6⟩
  .exact⟨_,rfl,fun h=>absurd h he⟩
  simp only;have ok:∀e∈x.Names,BzG e:=fun e he=>by
   obtain⟨j,hj,rfl⟩:=List.mem_iff_getElem.1 he;exact q6 j hj hj
  obtain⟨t,ht⟩:=xzc (x:=x.Texts) (by omega) s3;obtain⟨c,hc⟩:=chain_is (l:=x.Chain) (by omega);rw[ht,hc,aza,aza];obtain⟨r,hr⟩:=dzh (b:=decide ((x.Texts.Texts.length:Int)=0)) (x:=brn (!decide (x.Texts.Uses=0)) (some 1) (brn (!decide (t.2.2=0)) (some t.2.2) (some c.2))) (y:=brn (!decide (t.2.2=0)) (some t.2.2) (some c.2)) (dzh ⟨_,rfl⟩ (dzh ⟨_,rfl⟩ ⟨_,rfl⟩)) (dzh ⟨_,rfl⟩ ⟨_,rfl⟩);exact⟨r,hr,fun _=>⟨(hb' rfl).1,(hb' rfl).2,ok⟩⟩
 .exact⟨_,rfl,fun h=>by cases h⟩
theorem NzQ:∀(d N:Nat) (a b:Expr),d<N->sz d a<=1000->tr d a->∃r,iter dzA N (a,b)=some r
 | _,0,_,_,h,_,_=>absurd h (by omega)
 | 0,_,_,_,_,_,h=>h.elim
 | d+1,N+1,a,b,hN,hs,ht=>by
  have hl:=lenK hs;have hk:∀x∈a.Kids,∀y,∃r,iter dzA N (x,y)=some r:=fun x hx y=>NzQ d N x y (by omega) (szK hs hx) (mzV ht hx)
  rw[azz];generalize iter dzA N=S at hk;unfold dzA;simp only[azj];refine dzh ⟨_,rfl⟩ (dzh ⟨_,rfl⟩ (dzh ⟨_,rfl⟩ (dzh ⟨_,rfl⟩ (dzh ⟨_,rfl⟩ ?_))));by_cases hlen:a.Kids.length=b.Kids.length
  .rw[dT0 (by omega),show(!true)=false from rfl,azd];obtain⟨z,h1,-⟩:=czz (F:=dzI S) (fun i=>(a,b,(i:Int))) a.Kids.length (fun i=>True) (fun z=>z = .inr false) (.inl ()) (by omega)
    (by
     intro back i hi;unfold dzI;simp only[azj];obtain⟨r,hr⟩:=hk _ (List.getElem_mem hi) b.Kids[i];rw[ltT hi,azc,idxG hi,idxG (by omega:i<b.Kids.length),aza,aza,hr,aza,wr1 (by omega)];cases r
     .exact .inr ⟨_,rfl,rfl⟩
     .exact .inl ⟨rfl,trivial⟩)
    (by
     intro back;unfold dzI;simp only;rw[ltF];rfl)
   rw[show kzz S (a,b,0)=_ from h1,aza];cases z<;>exact⟨_,rfl⟩
  .rw[dF0 (by omega)];exact⟨_,rfl⟩
theorem same_is {a b:Expr}(h:fewE a):∃r,cz6 (a,b)=some r:=NzQ 40 big a b (by rw[bzT];omega) (by have:=h.1;omega) h.2
def okC (x:Cell2):Prop:=gdC x.At=true/\dzz x.V=some 0/\(x.Has=true->x.V.Kind≠0/\ck x.E=0)
theorem cell_is {x:Cell2}(h:fewE x.E)(hv:x.V.S.length<=3000):∃r,czB x=some r/\(r=0->okC x):=by
 unfold czB okC;obtain⟨v,-,e1,-⟩:=uzj hv;obtain⟨r,hr⟩:=same_is (b:=⟨0,⟨0,⟨0,0⟩,[],false,0⟩,⟨⟨0,0,false,false⟩,⟨0,0,false,false⟩⟩,0,0,[]⟩) h;rw[nz7,aza,azj,e1,hr,(lz3 (by have:=h.1;omega) h.2).2];simp only[aza];cases gdC x.At
 .exact⟨_,rfl,fun h=>by cases h⟩
 .rw[show(!true)=false from rfl,azd];cases decide (x.XF<0)
  .rw[azd];cases decide (255<x.XF)
   .rw[azd];by_cases h0:v=0
    .rw[dT0 h0,show(!true)=false from rfl,azd];cases x.Has
     .rw[show(!false)=true from rfl,azc];cases r
      .exact⟨_,rfl,fun h=>by cases h⟩
      .exact⟨_,rfl,fun _=>⟨rfl,by rw[h0],fun h=>by cases h⟩⟩
     .rw[show(!true)=false from rfl,azd];by_cases h1:(enc1 x.E).2=0
      .rw[dT0 h1,show(!true)=false from rfl,azd];by_cases h2:x.V.Kind=0
       .rw[dT0 h2];exact⟨_,rfl,fun h=>by cases h⟩
       .rw[dF0 h2];exact⟨_,rfl,fun _=>⟨rfl,by rw[h0],fun _=>⟨h2,enc0 h1⟩⟩⟩
      .rw[dF0 h1];exact⟨_,rfl,fun h=>absurd h h1⟩
    .rw[dF0 h0];exact⟨_,rfl,fun h=>absurd h h0⟩
   .exact⟨_,rfl,fun h=>by cases h⟩
  .exact⟨_,rfl,fun h=>by cases h⟩
def dzy (a b:Cell):Bool:=decide (a.Row<b.Row)||(decide (a.Row=b.Row)&&decide (a.Col<b.Col))
theorem yzl (a b:Cell):nzI (a,b)=some (dzy a b):=by
 unfold nzI dzy;simp only[brnA,brnO]
theorem cells_l1 {l:List Cell2}(hl:l.length<=1000)(hc:∀x∈l,fewE x.E/\x.V.S.length<=3000):
 ∃z,gzc (l,0)=some z/\((∃e,z = .inr e/\e≠0)\/z = .inl ()/\∀i,i<l.length->∀h:i<l.length,okC l[i]/\(0<i->dzy l[i-1].At l[i].At=true)):=by
 refine czz (F:=bzY) (fun i=>(l,(i:Int))) l.length (fun i=>∀h:i<l.length,okC l[i]/\(0<i->dzy l[i-1].At l[i].At=true)) (fun z=>∃e,z = .inr e/\e≠0) (.inl ()) (by omega) ?_ ?_
 .intro back i hi;obtain⟨c1,c2⟩:=hc _ (List.getElem_mem hi);obtain⟨r,hr,hk⟩:=cell_is c1 c2;unfold bzY;simp only[azj];rw[ltT hi,azc,idxG hi,aza,show czB ⟨l[i].At,l[i].XF,l[i].V,l[i].Has,l[i].E⟩=some r from hr,aza,wr1 (by omega)];by_cases h0:r=0
  .rw[dT0 h0,show(!true)=false from rfl,azd];by_cases hi0:0<i
   .rw[dT0 (by omega),azc,CzF hi0 (by omega),idxG (by omega:i-1<l.length),aza,aza,yzl,aza];cases ha:dzy l[i-1].At l[i].At
    .exact .inr ⟨_,rfl,_,rfl,by decide⟩
    .exact .inl ⟨rfl,fun _=>⟨hk h0,fun _=>ha⟩⟩
   .rw[dF0 (by omega),azd];exact .inl ⟨rfl,fun _=>⟨hk h0,fun h=>absurd h hi0⟩⟩
  .rw[dF0 h0];exact .inr ⟨_,rfl,_,rfl,h0⟩
 .intro back;unfold bzY;simp only;rw[ltF];rfl
def okCs (l:List Cell2):Prop:=(∀x∈l,okC x)/\∀i (h:i<l.length),0<i->dzy l[i-1].At l[i].At=true
theorem Fzo {l:List Cell2}(hl:l.length<=1000)(hc:∀x∈l,fewE x.E/\x.V.S.length<=3000):∃r,ezb l=some r/\(r=0->okCs l):=by
 unfold ezb;obtain⟨z,h1,h2⟩:=cells_l1 hl hc;rw[dF0 (by omega),azd,h1,aza];rcases h2 with⟨e,rfl,he⟩|⟨rfl,h2⟩
 .exact⟨_,rfl,fun h=>absurd h he⟩
 .refine⟨_,rfl,fun _=>⟨fun x hx=>?_,fun i hi h0=>(h2 i hi hi).2 h0⟩⟩;obtain⟨j,hj,rfl⟩:=List.mem_iff_getElem.1 hx;exact(h2 j hj hj).1
end Go.Proofs.YtkafbjodbjkieaaGreatDoor