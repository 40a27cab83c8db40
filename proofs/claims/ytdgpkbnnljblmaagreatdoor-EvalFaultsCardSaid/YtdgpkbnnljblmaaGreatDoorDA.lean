import Derived.Test.YtdgpkbnnljblmaaGreatDoorT1
import Derived.Shelf.Spec.BitsCarry
import Derived.Lib.Bytealg
import Derived.Shelf.Small.Bits
import Derived.Shelf.Strings.Repeat
import Derived.Test.YtdgpkbnnljblmaaGreatDoorChecked
import Derived.Shelf.LaysM
import Derived.Shelf.Strconv.Itoa1
import Derived.Shelf.Strconv.Itoa2
import Derived.Lib.Walk
import Derived.Lib.ItoaMem
import Derived.Lib.AppendIntMem
import Derived.WalkKit
import Derived.BigCall
import Derived.BigGuard
import Derived.Shelf.Unicode.ValidAny
import Derived.Lib.ItoaNum
import Derived.Lib.ValidLaws
import Derived.Lib.IndexLaws
import Derived.Lib.TrimAscii
import Derived.Test.YtdgpkbnnljblmaaGreatDoorTie
import Derived.Stop.Joined
import Derived.Lib.LaidU8T
import Derived.Lay
import Derived.Test.YtdgpkbnnljblmaaGreatDoorCards
/- L1 -/
namespace Go.Proofs
open Go.Shelf
def Tryz.lays134_ren:Go.Shelf.Ren:=⟨fun | 134=>260 | 129=>277 | n=>n,fun | 53=>152 | 3=>3 | 4=>4 | 46=>145 | 5=>5 | 9=>9 | n=>n,fun | n=>n⟩
theorem Tryz.lays134:Go.Proofs.Lays.n134 Tryz.prog Tryz.lays134_ren where
 mixed:=by kernel_rfl
 f129:=Tryz.func277.trans (congrArg some (by kernel_rfl))
 f134:=Tryz.func260.trans (congrArg some (by kernel_rfl))
 t3:=Tryz.underlying3
 a3:=Tryz.isAgg3
 z3:=Tryz.sizeOf3
 v3:=Tryz.zeroValue3
 t4:=Tryz.underlying4
 a4:=Tryz.isAgg4
 z4:=Tryz.sizeOf4
 v4:=Tryz.zeroValue4
 t5:=Tryz.underlying5
 a5:=Tryz.isAgg5
 z5:=Tryz.sizeOf5
 v5:=Tryz.zeroValue5
 t9:=Tryz.underlying9
 a9:=Tryz.isAgg9
 z9:=Tryz.sizeOf9
 v9:=Tryz.zeroValue9
 t46:=Tryz.underlying145
 a46:=Tryz.isAgg145
 z46:=Tryz.sizeOf145
 v46:=Tryz.zeroValue145
 t53:=Tryz.underlying152
 a53:=Tryz.isAgg152
 z53:=Tryz.sizeOf152
 v53:=Tryz.zeroValue152
end Go.Proofs
namespace Go.Proofs.YtdgpkbnnljblmaaGreatDoor
open Go Go.Ev
theorem czY:azF Tryz.prog 152=false:=by kernel_rfl
theorem lza:azF Tryz.prog 9=false:=by kernel_rfl
theorem notAgg5:azF Tryz.prog 5=false:=by kernel_rfl
theorem qzf:azF Tryz.prog 3=false:=by kernel_rfl
theorem notAgg4:azF Tryz.prog 4=false:=by kernel_rfl
def hzN (x:Int×Int×Int):Option (Int×Int) :=
 bif decide (x.2.2=0)||decide (x.2.2=1) then some ((x.1+x.2.1+x.2.2) % 18446744073709551616,(x.1+x.2.1+x.2.2) / 18446744073709551616) else none
def mzD:FSpec tb:=⟨[(0,.val 152),(1,.val 152),(2,.val 152)],[(0,.val 152),(1,.val 152)],hzN⟩
set_option maxRecDepth 100000 in
theorem lzc:bzp Tryz.prog tb 178 mzD:=by
 refine nzY rfl fun g w (x:Int×Int×Int) vs bs (y:Int×Int) hy hinv hh=>?_
 obtain ⟨a,b,c⟩:=x;obtain ⟨v0,vs,b0,bs,rfl,rfl⟩:=azQ hh;obtain ⟨v1,vs,b1,bs,rfl,rfl⟩:=azQ hh.2;obtain ⟨v2,vs,b2,bs,rfl,rfl⟩:=azQ hh.2.2;obtain ⟨h0,h1,h2⟩:=hh;obtain ⟨rfl,rfl⟩:vs=[]∧bs=[]:=by
  cases vs<;>cases bs<;>first | exact ⟨rfl,rfl⟩ | exact h2.elim
 obtain ⟨e0,r0⟩:=czQ czY (czX _) h0.1;obtain ⟨e1,r1⟩:=czQ czY (czX _) h1.1;obtain ⟨e2,r2⟩:=czQ czY (czX _) h2.1;subst e0;subst e1;subst e2;simp only [Ev.inR,lo,hi] at r0 r1 r2;have hy:hzN (a,b,c)=some y:=hy;unfold hzN at hy;simp only at hy;cases hc:(decide (c=0)||decide (c=1)) with
 | false=>rw [hc] at hy;cases hy
 | true =>
  rw [hc] at hy;have hy:=Option.some.inj hy;subst hy;simp only [Bool.or_eq_true,decide_eq_true_eq] at hc;refine ⟨_,[.int .u64 ((a+b+c) % 18446744073709551616),.int .u64 ((a+b+c) / 18446744073709551616)],rfl,fun g w=>⟨⟨ezQ czY (czX _) (by simp only [Ev.inR,lo,hi];omega),rfl⟩,⟨ezQ czY (czX _) (by simp only [Ev.inR,lo,hi];omega),rfl⟩⟩,?_⟩;obtain ⟨a,rfl⟩:=Int.eq_ofNat_of_zero_le r0.1;obtain ⟨b,rfl⟩:=Int.eq_ofNat_of_zero_le r1.1;obtain ⟨c,rfl⟩:=Int.eq_ofNat_of_zero_le r2.1
  show (callFunc 178 #[.int .u64 a,.int .u64 b,.int .u64 c]).run Tryz.prog w=_
  rw [run_callFunc_extern Tryz.func178 (by kernel_rfl) (by kernel_rfl) (by kernel_rfl) (e:=add64Entry) (by kernel_rfl),run_add64 a b c (by omega) (by omega) (by omega) (by omega)];simp only [Result.andThen]
def hzO (x:Int×Int×Int):Option (Int×Int) :=
 bif decide (x.2.2=0)||decide (x.2.2=1) then some ((x.1 - x.2.1 - x.2.2) % 18446744073709551616,bif decide (x.1 < x.2.1+x.2.2) then 1 else 0) else none
def qz0:FSpec tb:=⟨[(0,.val 152),(1,.val 152),(2,.val 152)],[(0,.val 152),(1,.val 152)],hzO⟩
set_option maxRecDepth 100000 in
theorem rzr:bzp Tryz.prog tb 179 qz0:=by
 refine nzY rfl fun g w (x:Int×Int×Int) vs bs (y:Int×Int) hy hinv hh=>?_
 obtain ⟨a,b,c⟩:=x;obtain ⟨v0,vs,b0,bs,rfl,rfl⟩:=azQ hh;obtain ⟨v1,vs,b1,bs,rfl,rfl⟩:=azQ hh.2;obtain ⟨v2,vs,b2,bs,rfl,rfl⟩:=azQ hh.2.2;obtain ⟨h0,h1,h2⟩:=hh;obtain ⟨rfl,rfl⟩:vs=[]∧bs=[]:=by
  cases vs<;>cases bs<;>first | exact ⟨rfl,rfl⟩ | exact h2.elim
 obtain ⟨e0,r0⟩:=czQ czY (czX _) h0.1;obtain ⟨e1,r1⟩:=czQ czY (czX _) h1.1;obtain ⟨e2,r2⟩:=czQ czY (czX _) h2.1;subst e0;subst e1;subst e2;simp only [Ev.inR,lo,hi] at r0 r1 r2;have hy:hzO (a,b,c)=some y:=hy;unfold hzO at hy;simp only at hy;cases hc:(decide (c=0)||decide (c=1)) with
 | false=>rw [hc] at hy;cases hy
 | true =>
  rw [hc] at hy;have hy:=Option.some.inj hy;subst hy;simp only [Bool.or_eq_true,decide_eq_true_eq] at hc;refine ⟨_,[.int .u64 ((a - b - c) % 18446744073709551616),.int .u64 (bif decide (a < b+c) then 1 else 0)],rfl,fun g w=>⟨⟨ezQ czY (czX _) (by simp only [Ev.inR,lo,hi];omega),rfl⟩,⟨ezQ czY (czX _) (by cases decide (a < b+c)<;>simp [Ev.inR,lo,hi]),rfl⟩⟩,?_⟩;obtain ⟨a,rfl⟩:=Int.eq_ofNat_of_zero_le r0.1;obtain ⟨b,rfl⟩:=Int.eq_ofNat_of_zero_le r1.1;obtain ⟨c,rfl⟩:=Int.eq_ofNat_of_zero_le r2.1
  show (callFunc 179 #[.int .u64 a,.int .u64 b,.int .u64 c]).run Tryz.prog w=_
  rw [run_callFunc_extern Tryz.func179 (by kernel_rfl) (by kernel_rfl) (by kernel_rfl) (e:=sub64Entry) (by kernel_rfl),run_sub64 a b c (by omega)];simp only [Result.andThen];have e1:(((a+18446744073709551616 - b - c) % 18446744073709551616:Nat):Int)=((a:Int) - b - c) % 18446744073709551616:=by omega
  have e2:((if a < b+c then 1 else 0:Nat):Int)=(bif decide ((a:Int) < b+c) then 1 else 0):=by
   by_cases h:a < b+c
   ·have:(a:Int) < b+c:=by omega
    simp [h,this]
   ·have:¬ (a:Int) < b+c:=by omega
    simp [h,this]
  rw [e1,e2]
def gzN (x:List UInt8×UInt8):Option Int:=some (Lib.indexByte x.1 x.2)
def gzO:FSpec tb:=⟨[(0,.val 9),(1,.val 5)],[(0,.val 3)],gzN⟩
theorem wzE:∀ (s:List UInt8) (c:UInt8),-1≤Lib.indexByte s c∧Lib.indexByte s c < (s.length:Int)+1:=by
 intro s c;induction s with
 | nil=>simp [Lib.indexByte]
 | cons b l ih =>
  unfold Lib.indexByte;simp only [List.length_cons];split
  ·omega
  ·split<;>omega
set_option maxRecDepth 100000 in
theorem izY:bzp Tryz.prog tb 290 gzO:=by
 refine nzY rfl fun g w (x:List UInt8×UInt8) vs bs (y:Int) hy hinv hh=>?_
 obtain ⟨s,c⟩:=x;obtain ⟨v0,vs,b0,bs,rfl,rfl⟩:=azQ hh;obtain ⟨v1,vs,b1,bs,rfl,rfl⟩:=azQ hh.2;obtain ⟨h0,h1⟩:=hh;obtain ⟨rfl,rfl⟩:vs=[]∧bs=[]:=by
  cases vs<;>cases bs<;>first | exact ⟨rfl,rfl⟩ | exact h1.elim
 obtain ⟨e0,r0⟩:=nz2 lza (kz6 _) h0.1;obtain ⟨e1,r1⟩:=czQ notAgg5 (enc5_eq _) h1.1;subst e0;subst e1;have hy:=Option.some.inj (show some (Lib.indexByte s c)=some y from hy);subst hy;have hl:=wzE s c;unfold azY at r0;refine ⟨_,[.int .i64 (Lib.indexByte s c)],rfl,fun g w=>⟨ezQ qzf (pz7 _) (by simp only [Ev.inR,lo,hi];omega),rfl⟩,?_⟩
 show (callFunc 290 #[.string ⟨s.toArray⟩,.int .u8 (c.toNat:Int)]).run Tryz.prog w=_
 rw [run_callFunc_extern Tryz.func290 (by kernel_rfl) (by kernel_rfl) (by kernel_rfl) (e:=Extern.BytealgIndexByte.indexByte) (by kernel_rfl),Lib.run_indexByteString];simp only [Result.andThen];congr 3;simp
def izl (x:Int):Option Int:=some (64 - (Lib.bitLen x.toNat:Int))
def izm:FSpec tb:=⟨[(0,.val 152)],[(0,.val 3)],izl⟩
set_option maxRecDepth 100000 in
theorem kzL:azc Tryz.prog tb 260 izm:=by
 refine qzc (enters_of (c:=azL Tryz.f260) Tryz.func260 (by kernel_rfl) (by kernel_rfl)) rfl fun g w (x:Int) vs bs (y:Int) hy hinv hh=>?_
 obtain ⟨v0,vs,b0,bs,rfl,rfl⟩:=azQ hh;have h0:=hh;obtain ⟨rfl,rfl⟩:vs=[]∧bs=[]:=by
  cases vs<;>cases bs<;>first | exact ⟨rfl,rfl⟩ | exact h0.elim
 obtain ⟨e0,r0⟩:=czQ czY (czX _) h0.1;subst e0;simp only [Ev.inR,lo,hi] at r0;have hy:=Option.some.inj (show some (64 - (Lib.bitLen x.toNat:Int))=some y from hy);subst hy;have hl:=Any.bitLen_le64 x (by omega) (by omega);refine ⟨_,[.int .i64 (64 - (Lib.bitLen x.toNat:Int))],rfl,fun g w=>⟨ezQ qzf (pz7 _) (by simp only [Ev.inR,lo,hi];omega),rfl⟩,?_⟩;refine (Any.bits_LeadingZeros64 Tryz.lays134 x w (by omega) (by omega)).mono ?_;rintro e w' ⟨rfl,rfl⟩;exact ⟨rfl,kzJ.refl _⟩
end Go.Proofs.YtdgpkbnnljblmaaGreatDoor

/- R1 -/
namespace Go.Proofs
open Go.Shelf
def Tryz.lays105_ren:Go.Shelf.Ren:=⟨fun | 105=>157 | 212=>221 | 99=>222 | 165=>223 | 166=>143 | 170=>224 | 169=>144 | 263=>253 | 264=>98 | 206=>254 | 240=>218 | 241=>255 | 276=>251 | 277=>271 | n=>n,fun | 9=>9 | 3=>3 | 4=>4 | 20=>20 | 0=>0 | 46=>145 | 109=>305 | 5=>5 | 72=>218 | 76=>223 | 51=>340 | 146=>341 | 53=>152 | 148=>163 | 70=>215 | 37=>216 | 75=>222 | 127=>301 | 164=>337 | 80=>225 | n=>n,fun | n=>n⟩
theorem Tryz.lays105:Go.Proofs.Lays.n105 Tryz.prog Tryz.lays105_ren where
 mixed:=by kernel_rfl
 f99:=Tryz.func222.trans (congrArg some (by kernel_rfl))
 f105:=Tryz.func157.trans (congrArg some (by kernel_rfl))
 f165:=Tryz.func223.trans (congrArg some (by kernel_rfl))
 f166:=Tryz.func143.trans (congrArg some (by kernel_rfl))
 f169:=Tryz.func144.trans (congrArg some (by kernel_rfl))
 f170:=Tryz.func224.trans (congrArg some (by kernel_rfl))
 f206:=Tryz.func254.trans (congrArg some (by kernel_rfl))
 f212:=Tryz.func221.trans (congrArg some (by kernel_rfl))
 f240:=Tryz.func218.trans (congrArg some (by kernel_rfl))
 f241:=Tryz.func255.trans (congrArg some (by kernel_rfl))
 f263:=Tryz.func253.trans (congrArg some (by kernel_rfl))
 f264:=Tryz.func98.trans (congrArg some (by kernel_rfl))
 f276:=Tryz.func251.trans (congrArg some (by kernel_rfl))
 f277:=Tryz.func271.trans (congrArg some (by kernel_rfl))
 t0:=Tryz.underlying0
 a0:=Tryz.isAgg0
 z0:=Tryz.sizeOf0
 v0:=Tryz.zeroValue0
 t3:=Tryz.underlying3
 a3:=Tryz.isAgg3
 z3:=Tryz.sizeOf3
 v3:=Tryz.zeroValue3
 t4:=Tryz.underlying4
 a4:=Tryz.isAgg4
 z4:=Tryz.sizeOf4
 v4:=Tryz.zeroValue4
 t5:=Tryz.underlying5
 a5:=Tryz.isAgg5
 z5:=Tryz.sizeOf5
 v5:=Tryz.zeroValue5
 t9:=Tryz.underlying9
 a9:=Tryz.isAgg9
 z9:=Tryz.sizeOf9
 v9:=Tryz.zeroValue9
 t20:=Tryz.underlying20
 a20:=Tryz.isAgg20
 z20:=Tryz.sizeOf20
 v20:=Tryz.zeroValue20
 t37:=Tryz.underlying216
 a37:=Tryz.isAgg216
 z37:=Tryz.sizeOf216
 v37:=Tryz.zeroValue216
 t46:=Tryz.underlying145
 a46:=Tryz.isAgg145
 z46:=Tryz.sizeOf145
 v46:=Tryz.zeroValue145
 t51:=Tryz.underlying340
 a51:=Tryz.isAgg340
 z51:=Tryz.sizeOf340
 v51:=Tryz.zeroValue340
 t53:=Tryz.underlying152
 a53:=Tryz.isAgg152
 z53:=Tryz.sizeOf152
 v53:=Tryz.zeroValue152
 t70:=Tryz.underlying215
 a70:=Tryz.isAgg215
 z70:=Tryz.sizeOf215
 v70:=Tryz.zeroValue215
 t72:=Tryz.underlying218
 a72:=Tryz.isAgg218
 z72:=Tryz.sizeOf218
 v72:=Tryz.zeroValue218
 t75:=Tryz.underlying222
 a75:=Tryz.isAgg222
 z75:=Tryz.sizeOf222
 v75:=Tryz.zeroValue222
 t76:=Tryz.underlying223
 a76:=Tryz.isAgg223
 z76:=Tryz.sizeOf223
 v76:=Tryz.zeroValue223
 t109:=Tryz.underlying305
 a109:=Tryz.isAgg305
 z109:=Tryz.sizeOf305
 v109:=Tryz.zeroValue305
 t127:=Tryz.underlying301
 a127:=Tryz.isAgg301
 z127:=Tryz.sizeOf301
 v127:=Tryz.zeroValue301
 t146:=Tryz.underlying341
 a146:=Tryz.isAgg341
 z146:=Tryz.sizeOf341
 v146:=Tryz.zeroValue341
 t148:=Tryz.underlying163
 a148:=Tryz.isAgg163
 z148:=Tryz.sizeOf163
 v148:=Tryz.zeroValue163
 t164:=Tryz.underlying337
 a164:=Tryz.isAgg337
 z164:=Tryz.sizeOf337
 v164:=Tryz.zeroValue337
theorem Tryz.builder105:Builder.Extra Tryz.prog Tryz.lays105_ren where
 sizeBuilder:=by kernel_rfl
 liesBuilder:=by kernel_rfl
 t5:=Tryz.underlying5
 a5:=Tryz.isAgg5
 z5:=Tryz.sizeOf5
 v5:=Tryz.zeroValue5
 infoByte:=by kernel_rfl
 cellsByte:=by kernel_rfl
 sizeByte:=by kernel_rfl
 neB5:=by decide
end Go.Proofs
namespace Go.Proofs.YtdgpkbnnljblmaaGreatDoor
open Go Go.Ev Go.RowKit
theorem mzR {w w':World} (h:Below w.heap.size w w'):kzJ w w':=⟨h.os,h.tape,h.output,h.size,h.block⟩
def fzh (x:List UInt8×Int):Option (List UInt8) :=
 bif decide (0≤x.2)&&decide ((x.1.length:Int)*x.2≤140737488355328) then some (Lib.repeatL x.1 x.2.toNat) else none
def izQ:FSpec tb:=⟨[(0,.val 9),(1,.val 3)],[(0,.val 9)],fzh⟩
set_option maxRecDepth 100000 in
theorem izR:azc Tryz.prog tb 157 izQ:=by
 refine qzc (enters_of (c:=azL Tryz.f157) Tryz.func157 (by kernel_rfl) (by kernel_rfl)) rfl fun g w (x:List UInt8×Int) vs bs (y:List UInt8) hy hinv hh=>?_
 obtain ⟨s,c⟩:=x;obtain ⟨v0,vs,b0,bs,rfl,rfl⟩:=azQ hh;obtain ⟨v1,vs,b1,bs,rfl,rfl⟩:=azQ hh.2;obtain ⟨h0,h1⟩:=hh;obtain ⟨rfl,rfl⟩:vs=[]∧bs=[]:=by
  cases vs<;>cases bs<;>first | exact ⟨rfl,rfl⟩ | exact h1.elim
 obtain ⟨e0,r0⟩:=nz2 lza (kz6 _) h0.1;obtain ⟨e1,r1⟩:=czQ qzf (pz7 _) h1.1;subst e0;subst e1;simp only [Ev.inR,lo,hi] at r1;have hy:fzh (s,c)=some y:=hy;unfold fzh at hy;simp only at hy;cases hc:(decide (0≤c)&&decide ((s.length:Int)*c≤140737488355328)) with
 | false=>rw [hc] at hy;cases hy
 | true =>
  rw [hc] at hy;have hy:=Option.some.inj hy;subst hy;simp only [Bool.and_eq_true,decide_eq_true_eq] at hc;obtain ⟨c,rfl⟩:=Int.eq_ofNat_of_zero_le hc.1;have hlen:s.length*c≤140737488355328:=by
   have:=hc.2;rw [← Int.natCast_mul] at this;omega
  refine ⟨_,[.string ⟨(Lib.repeatL s (c:Int).toNat).toArray⟩],rfl,fun g w=>⟨ozE lza (kz6 _) (by rw [Lib.repeatL_length,Int.toNat_natCast,Nat.mul_comm];unfold azY;omega),rfl⟩,?_⟩;have:=Any.strings_Repeat Tryz.lays105 Tryz.builder105 ⟨s.toArray⟩ c w (by omega) (by simpa [ByteArray.size] using hlen);refine this.mono ?_;rintro e w' ⟨rfl,hb⟩;exact ⟨by simp,mzR hb⟩
end Go.Proofs.YtdgpkbnnljblmaaGreatDoor

/- U2 -/
namespace Go.Proofs
open Go.Shelf
def Tryz.lays283_ren:Go.Shelf.Ren:=⟨fun | 283=>272 | n=>n,fun | 3=>3 | 9=>9 | 4=>4 | n=>n,fun | n=>n⟩
theorem Tryz.lays283:Go.Proofs.Lays.n283 Tryz.prog Tryz.lays283_ren where
 mixed:=by kernel_rfl
 f283:=Tryz.func272.trans (congrArg some (by kernel_rfl))
 t3:=Tryz.underlying3
 a3:=Tryz.isAgg3
 z3:=Tryz.sizeOf3
 v3:=Tryz.zeroValue3
 t4:=Tryz.underlying4
 a4:=Tryz.isAgg4
 z4:=Tryz.sizeOf4
 v4:=Tryz.zeroValue4
 t9:=Tryz.underlying9
 a9:=Tryz.isAgg9
 z9:=Tryz.sizeOf9
 v9:=Tryz.zeroValue9
def Tryz.lays284_ren:Go.Shelf.Ren:=⟨fun | 284=>273 | 129=>277 | 317=>280 | 318=>281 | n=>n,fun | 53=>152 | 3=>3 | 212=>362 | 0=>0 | 4=>4 | 46=>145 | 5=>5 | 9=>9 | n=>n,fun | 17=>5 | n=>n⟩
theorem Tryz.lays284:Go.Proofs.LaysM.n284 Tryz.prog Tryz.lays284_ren where
 mixed:=by kernel_rfl
 f129:=Tryz.func277.trans (congrArg some (by kernel_rfl))
 f284:=Tryz.func273.trans (congrArg some (by kernel_rfl))
 f317:=Tryz.func280.trans (congrArg some (by kernel_rfl))
 f318:=Tryz.func281.trans (congrArg some (by kernel_rfl))
 t0:=Tryz.underlying0
 a0:=Tryz.isAgg0
 z0:=Tryz.sizeOf0
 v0:=Tryz.zeroValue0
 t3:=Tryz.underlying3
 a3:=Tryz.isAgg3
 z3:=Tryz.sizeOf3
 v3:=Tryz.zeroValue3
 t4:=Tryz.underlying4
 a4:=Tryz.isAgg4
 z4:=Tryz.sizeOf4
 v4:=Tryz.zeroValue4
 t5:=Tryz.underlying5
 a5:=Tryz.isAgg5
 z5:=Tryz.sizeOf5
 v5:=Tryz.zeroValue5
 t9:=Tryz.underlying9
 a9:=Tryz.isAgg9
 z9:=Tryz.sizeOf9
 v9:=Tryz.zeroValue9
 t46:=Tryz.underlying145
 a46:=Tryz.isAgg145
 z46:=Tryz.sizeOf145
 v46:=Tryz.zeroValue145
 t53:=Tryz.underlying152
 a53:=Tryz.isAgg152
 z53:=Tryz.sizeOf152
 v53:=Tryz.zeroValue152
 t212:=Tryz.underlying362
 a212:=Tryz.isAgg362
 z212:=Tryz.sizeOf362
 v212:=Tryz.zeroValue362
 g17:=by kernel_rfl
 i0:=by kernel_rfl
 i3:=by kernel_rfl
 i4:=by kernel_rfl
 i5:=by kernel_rfl
 i9:=by kernel_rfl
 i46:=by kernel_rfl
 i53:=by kernel_rfl
 i212:=by kernel_rfl
 m17:=by kernel_rfl
def Tryz.lays285_ren:Go.Shelf.Ren:=⟨fun | 285=>274 | n=>n,fun | 37=>216 | 53=>152 | 3=>3 | 4=>4 | 51=>340 | 9=>9 | 5=>5 | 0=>0 | n=>n,fun | n=>n⟩
theorem Tryz.lays285:Go.Proofs.Lays.n285 Tryz.prog Tryz.lays285_ren where
 mixed:=by kernel_rfl
 f285:=Tryz.func274.trans (congrArg some (by kernel_rfl))
 t0:=Tryz.underlying0
 a0:=Tryz.isAgg0
 z0:=Tryz.sizeOf0
 v0:=Tryz.zeroValue0
 t3:=Tryz.underlying3
 a3:=Tryz.isAgg3
 z3:=Tryz.sizeOf3
 v3:=Tryz.zeroValue3
 t4:=Tryz.underlying4
 a4:=Tryz.isAgg4
 z4:=Tryz.sizeOf4
 v4:=Tryz.zeroValue4
 t5:=Tryz.underlying5
 a5:=Tryz.isAgg5
 z5:=Tryz.sizeOf5
 v5:=Tryz.zeroValue5
 t9:=Tryz.underlying9
 a9:=Tryz.isAgg9
 z9:=Tryz.sizeOf9
 v9:=Tryz.zeroValue9
 t37:=Tryz.underlying216
 a37:=Tryz.isAgg216
 z37:=Tryz.sizeOf216
 v37:=Tryz.zeroValue216
 t51:=Tryz.underlying340
 a51:=Tryz.isAgg340
 z51:=Tryz.sizeOf340
 v51:=Tryz.zeroValue340
 t53:=Tryz.underlying152
 a53:=Tryz.isAgg152
 z53:=Tryz.sizeOf152
 v53:=Tryz.zeroValue152
end Go.Proofs
namespace Go.Proofs.YtdgpkbnnljblmaaGreatDoor
open Go Go.Shelf Go.RowKit Go.Sort Go.Lib Go.Proofs
set_option maxHeartbeats 6400000 in
set_option maxRecDepth 100000 in
theorem vzW (u:Nat) (hu64:u < 18446744073709551616) (w:World) (htab:Lib.TabIs Tryz.prog w "internal/strconv.uint64pow10" .u64 Lib.pow10Tab) :
 Calls Tryz.prog 256 #[.int .u64 (u:Int),.int .i64 10] w fun e w'=>e = .returned (.string ⟨(Lib.decDigits u).toArray⟩)∧Below w.heap.size w w':=by
 have e104:∀ args w,(callFunc 272 args).run Tryz.prog w = .ok (.enter 272 args) w:=enters_of Tryz.func272 (by kernel_rfl) rfl;have e105:∀ args w,(callFunc 273 args).run Tryz.prog w = .ok (.enter 273 args) w:=enters_of Tryz.func273 (by kernel_rfl) rfl;have e106:∀ args w,(callFunc 274 args).run Tryz.prog w = .ok (.enter 274 args) w:=enters_of Tryz.func274 (by kernel_rfl) rfl;by_cases hs:u < 100
 ·have hi:(u:Int) < 100:=by omega
  go_enter Tryz.func256,Tryz.ntmps256
  go_wp2_with (go_at_fn 272;refine (Any.internal_strconv_small Tryz.lays283 u hs _).mono ?_;rintro e w' ⟨rfl,rfl⟩)
  go_ret
  exact ⟨rfl,Below.refl _ _⟩
 ·have hu1:1≤u:=by omega
  have hnd20:Lib.nDigits u≤20:=by have:=Lib.numDigits_eq u hu1 hu64;split at this<;>omega
  have hal:Tryz.prog.arrayLen 355=24:=by simp [Program.arrayLen,Tryz.underlying355]
  have hsl:∀ W,(Instr.sliceAt 355 (.pointer (some ⟨w.heap.size,0,none⟩)) none (some (.int .i64 (Lib.nDigits u:Int))) none).run Tryz.prog W = .ok (.slice (some ⟨w.heap.size,0,none⟩) (Lib.nDigits u) 24) W:=fun W=>by
   rw [run_sliceAt_array_h W 355 ⟨w.heap.size,0,none⟩ (by simp [Program.arrayLen,Program.elem,Tryz.underlying355]) .i64 (Lib.nDigits u:Int) (by omega) (by rw [hal];omega)]
   go_simp
  have hH0:=Lib.holds_zero0 w 355 (Lib.nDigits u) (by omega);have hfmt:=Any.internal_strconv_formatBase10 Tryz.lays285 w.heap.size 0 24 u (Array.replicate (Lib.nDigits u) 0) (w.alloc (.cells Lib.zeros24 355)) hH0 (by rw [Array.size_replicate];exact Lib.lt_pow_nDigits u) hu64 (by rw [Array.size_replicate];omega);rw [Array.size_replicate] at hfmt;have HH0:=Lib.hid hH0;have iu:(100:Int)≤(u:Int):=by omega
  clear hH0 hal
  go_enter Tryz.func256,Tryz.ntmps256
  go_wp2_with (first
   | (go_at_fn 273;refine (Any.internal_strconv_numDigits Tryz.lays284 u hu1 hu64 _ (Lib.tabIs_alloc htab _)).mono ?_;rintro e w' ⟨rfl,rfl⟩))
  go_at_fn 274
  refine hfmt.mono ?_;rintro e w' ⟨rfl,k,v',dk,rfl,hF⟩;have hcv:(convert 216 9 (.slice (some ⟨w.heap.size,0,none⟩) (Lib.nDigits u) 24)).run Tryz.prog ((putRow (fun (b:UInt8)=>Value.int .u8 (b.toNat:Int)) (w.alloc (.cells Lib.zeros24 355)) w.heap.size 0 dk).drewN k) = .ok (.string ⟨(Lib.decDigits u).toArray⟩) ((putRow (fun (b:UInt8)=>Value.int .u8 (b.toNat:Int)) (w.alloc (.cells Lib.zeros24 355)) w.heap.size 0 dk).drewN k):=by
   have h:=run_convert_bytes_back (P:=Tryz.prog) ((putRow (fun (b:UInt8)=>Value.int .u8 (b.toNat:Int)) (w.alloc (.cells Lib.zeros24 355)) w.heap.size 0 dk).drewN k) 216 9 5 ⟨w.heap.size,0,none⟩ 24 (Lib.decDigits u) Tryz.underlying216 Tryz.underlying5 Tryz.underlying9 (fun j hj=>by
    rw [Lib.row_is_numeral hF j hj,Lib.add_plain,World.cell?_drewN];exact cell?_putRow (fun (b:UInt8)=>Value.int .u8 (b.toNat:Int)) _ w.heap.size 0 _ dk HH0.out (by rw [hF.size,Array.size_replicate]) j (by rw [hF.size];rw [Lib.decDigits_length] at hj;exact hj))
   rw [Lib.decDigits_length] at h;exact h
  go_wp2
  go_ret
  obtain ⟨os,eo⟩:=Lib.fin_at w (.cells Lib.zeros24 355) dk k 0;exact ⟨rfl,by rw [eo];exact Lib.below_grow w.heap.size w (Nat.le_refl _) k os⟩
end Go.Proofs.YtdgpkbnnljblmaaGreatDoor

/- U3 -/
namespace Go.Proofs.YtdgpkbnnljblmaaGreatDoor
open Go Go.Ev
def dzJ (x:Int×Int):Option (List UInt8):=bif decide (x.2=10) then some (Lib.decDigits x.1.toNat) else none
def izD:FSpec tb:=⟨[(0,.val 152),(1,.val 3)],[(0,.val 9)],dzJ⟩
theorem digits_le {u:Nat} (h:u < 18446744073709551616):(Lib.decDigits u).length≤20:=by
 rw [Lib.decDigits_length];by_cases h0:u=0
 ·subst h0;rw [Lib.nDigits_small (by omega)];omega
 ·have:=Lib.numDigits_eq u (by omega) h;split at this<;>omega
set_option maxRecDepth 100000 in
theorem kzS:azc Tryz.prog tb 256 izD:=by
 refine qzc (enters_of (c:=azL Tryz.f256) Tryz.func256 (by kernel_rfl) (by kernel_rfl)) rfl fun g w (x:Int×Int) vs bs (y:List UInt8) hy hinv hh=>?_
 obtain ⟨n,c⟩:=x;obtain ⟨v0,vs,b0,bs,rfl,rfl⟩:=azQ hh;obtain ⟨v1,vs,b1,bs,rfl,rfl⟩:=azQ hh.2;obtain ⟨h0,h1⟩:=hh;obtain ⟨rfl,rfl⟩:vs=[]∧bs=[]:=by
  cases vs<;>cases bs<;>first | exact ⟨rfl,rfl⟩ | exact h1.elim
 obtain ⟨e0,r0⟩:=czQ czY (czX _) h0.1;obtain ⟨e1,r1⟩:=czQ qzf (pz7 _) h1.1;subst e0;subst e1;simp only [Ev.inR,lo,hi] at r0;have hy:dzJ (n,c)=some y:=hy;unfold dzJ at hy;simp only at hy;cases hc:decide (c=10) with
 | false=>rw [hc] at hy;cases hy
 | true =>
  rw [hc] at hy;have hy:=Option.some.inj hy;subst hy;have hc:=of_decide_eq_true hc;subst hc;obtain ⟨u,rfl⟩:=Int.eq_ofNat_of_zero_le (show 0≤n by omega);have hu:u < 18446744073709551616:=by omega
  have hl:=digits_le hu;rw [Int.toNat_natCast];refine ⟨_,[.string ⟨(Lib.decDigits u).toArray⟩],rfl,fun g w=>⟨ozE lza (kz6 _) (by unfold azY;omega),rfl⟩,?_⟩;have htab:=hinv.2.2.2;obtain ⟨b,hb1,hb2,hb3⟩:=htab;refine (vzW u hu w hb3).mono ?_;rintro e w' ⟨rfl,hb⟩;exact ⟨rfl,mzR hb⟩
end Go.Proofs.YtdgpkbnnljblmaaGreatDoor

/- F1 -/
namespace Go.Proofs.YtdgpkbnnljblmaaGreatDoor
open Go Go.Ev
set_option linter.unusedVariables false
theorem mixed:Tryz.prog.follows .mixedOrders=true:=by kernel_rfl
def czy (x:Int):Option (Dec) :=
 some { M:=x,S:=0 }
def czM:FSpec tb:=⟨[(0,.val 2)],[(0,.val 30)],czy⟩
theorem zze:∀ x,evFn Tryz.prog tb [] [] Tryz.f33 czM.ins czM.outs x=czM.f x:=fun x=>by kernel_rfl
theorem dec_Int_k:fnK Tryz.f33 czM.ins czM.outs=true:=by kernel_rfl
theorem czV:azc Tryz.prog tb 33 czM:=azq mixed Tryz.func33 dec_Int_k .nil rfl zze
def hzG (x:List UInt8×List UInt8):Option (Bool) :=
 brn (decide ((↑x.snd.length:Int)≤(↑x.fst.length:Int))) (obnd (sub x.fst 0 (↑x.snd.length:Int)) fun z=>some (decide (z=x.snd))) (some false)
def bzi:FSpec tb:=⟨[(0,.val 9),(1,.val 9)],[(0,.val 4)],hzG⟩
theorem kzU:∀ x,evFn Tryz.prog tb [] [] Tryz.f254 bzi.ins bzi.outs x=bzi.f x:=fun x=>by kernel_rfl
theorem lzB:fnK Tryz.f254 bzi.ins bzi.outs=true:=by kernel_rfl
theorem jzy:azc Tryz.prog tb 254 bzi:=azq mixed Tryz.func254 lzB .nil rfl kzU
def hzF (x:List UInt8×List UInt8):Option (List UInt8×Bool) :=
 obnd (hzG x) fun y=>brn (!y) (some (x.fst,false)) (obnd (sub x.fst (↑x.snd.length:Int) (↑x.fst.length:Int)) fun z=>some (z,true))
def bzh:FSpec tb:=⟨[(0,.val 9),(1,.val 9)],[(0,.val 9),(1,.val 4)],hzF⟩
theorem kzT:∀ x,evFn Tryz.prog tb [(254,bzi)] [] Tryz.f257 bzh.ins bzh.outs x=bzh.f x:=fun x=>by kernel_rfl
theorem lzA:fnK Tryz.f257 bzh.ins bzh.outs=true:=by kernel_rfl
theorem jzx:azc Tryz.prog tb 257 bzh:=azq mixed Tryz.func257 lzA (.cons jzy .nil) rfl kzT
def kze (x:List UInt8×List UInt8):Option (List UInt8×Bool) :=
 obnd (hzF x) fun y=>some y
def bz3:FSpec tb:=⟨[(0,.val 9),(1,.val 9)],[(0,.val 9),(1,.val 4)],kze⟩
theorem ozg:∀ x,evFn Tryz.prog tb [(257,bzh)] [] Tryz.f230 bz3.ins bz3.outs x=bz3.f x:=fun x=>by kernel_rfl
theorem oz2:fnK Tryz.f230 bz3.ins bz3.outs=true:=by kernel_rfl
theorem lz3:azc Tryz.prog tb 230 bz3:=azq mixed Tryz.func230 oz2 (.cons jzx .nil) rfl ozg
def hzI (x:List UInt8×UInt8):Option (Int) :=
 obnd (gzN (x.fst,UInt8.ofNat (↑x.snd.toNat:Int).toNat)) fun y=>some y
def bzk:FSpec tb:=⟨[(0,.val 9),(1,.val 5)],[(0,.val 3)],hzI⟩
theorem kzW:∀ x,evFn Tryz.prog tb [(290,gzO)] [] Tryz.f284 bzk.ins bzk.outs x=bzk.f x:=fun x=>by kernel_rfl
theorem lzD:fnK Tryz.f284 bzk.ins bzk.outs=true:=by kernel_rfl
theorem jzA:azc Tryz.prog tb 284 bzk:=azq mixed Tryz.func284 lzD (.consK izY .nil) rfl kzW
def iz9 (x:List UInt8×List UInt8):Option (Int) :=
 brn (decide ((↑x.snd.length:Int)=0)) (some 0)
  (brn (decide (x.snd=x.fst)) (some 0)
   (brn (decide ((↑x.snd.length:Int)=1)) (obnd (idx x.snd 0) fun y=>obnd (hzI (x.fst,UInt8.ofNat (↑y.toNat:Int).toNat)) fun y=>some y)
    (brn (decide ((↑x.fst.length:Int)≤(↑x.snd.length:Int))) (some (-1)) none)))
def bzS:FSpec tb:=⟨[(0,.val 9),(1,.val 9)],[(0,.val 3)],iz9⟩
theorem nzq:∀ x,evFn Tryz.prog tb [(284,bzk)] [] Tryz.f276 bzS.ins bzS.outs x=bzS.f x:=fun x=>by kernel_rfl
theorem nz3:fnK Tryz.f276 bzS.ins bzS.outs=true:=by kernel_rfl
theorem lzE:azc Tryz.prog tb 276 bzS:=azq mixed Tryz.func276 nz3 (.cons jzA .nil) rfl nzq
def kzG (x:List UInt8×List UInt8):Option (List UInt8×List UInt8×Bool) :=
 obnd (iz9 x) fun y =>
  brn (decide (0≤y)) (obnd (sub x.fst 0 y) fun z=>obnd (sub x.fst (IntKind.i64.wrap (y+(↑x.snd.length:Int))) (↑x.fst.length:Int)) fun z_1=>some (z,z_1,true))
   (some (x.fst,[],false))
def czj:FSpec tb:=⟨[(0,.val 9),(1,.val 9)],[(0,.val 9),(1,.val 9),(2,.val 4)],kzG⟩
theorem ozX:∀ x,evFn Tryz.prog tb [(276,bzS)] [] Tryz.f258 czj.ins czj.outs x=czj.f x:=fun x=>by kernel_rfl
theorem pzJ:fnK Tryz.f258 czj.ins czj.outs=true:=by kernel_rfl
theorem mzS:azc Tryz.prog tb 258 czj:=azq mixed Tryz.func258 pzJ (.cons lzE .nil) rfl ozX
def pzX (x:List UInt8×List UInt8):Option (List UInt8×List UInt8×Bool) :=
 obnd (kzG x) fun y=>some (y.fst,y.2)
def ezz:FSpec tb:=⟨[(0,.val 9),(1,.val 9)],[(0,.val 9),(1,.val 9),(2,.val 4)],pzX⟩
theorem vzn:∀ x,evFn Tryz.prog tb [(258,czj)] [] Tryz.f231 ezz.ins ezz.outs x=ezz.f x:=fun x=>by kernel_rfl
theorem wzN:fnK Tryz.f231 ezz.ins ezz.outs=true:=by kernel_rfl
theorem qzR:azc Tryz.prog tb 231 ezz:=azq mixed Tryz.func231 wzN (.cons mzS .nil) rfl vzn
def hzH (x:List UInt8×List UInt8):Option (Bool) :=
 brn (decide ((↑x.snd.length:Int)≤(↑x.fst.length:Int)))
  (obnd (sub x.fst (IntKind.i64.wrap ((↑x.fst.length:Int) - (↑x.snd.length:Int))) (↑x.fst.length:Int)) fun z=>some (decide (z=x.snd))) (some false)
def bzj:FSpec tb:=⟨[(0,.val 9),(1,.val 9)],[(0,.val 4)],hzH⟩
theorem kzV:∀ x,evFn Tryz.prog tb [] [] Tryz.f259 bzj.ins bzj.outs x=bzj.f x:=fun x=>by kernel_rfl
theorem lzC:fnK Tryz.f259 bzj.ins bzj.outs=true:=by kernel_rfl
theorem jzz:azc Tryz.prog tb 259 bzj:=azq mixed Tryz.func259 lzC .nil rfl kzV
def hzl (x:List UInt8×List UInt8):Option (Bool) :=
 obnd (hzH x) fun y=>some y
def bz4:FSpec tb:=⟨[(0,.val 9),(1,.val 9)],[(0,.val 4)],hzl⟩
theorem ozh:∀ x,evFn Tryz.prog tb [(259,bzj)] [] Tryz.f232 bz4.ins bz4.outs x=bz4.f x:=fun x=>by kernel_rfl
theorem oz3:fnK Tryz.f232 bz4.ins bz4.outs=true:=by kernel_rfl
theorem lz4:azc Tryz.prog tb 232 bz4:=azq mixed Tryz.func232 oz3 (.cons jzz .nil) rfl ozh
abbrev kzN:List (Nat×FSpec tb):=[(230,bz3),(231,ezz),(232,bz4)]
theorem kzg:azy Tryz.prog tb kzN:=(.cons lz3 (.cons qzR (.cons lz4 .nil)))
def kzh (back:Wide×Bool×Bool×((List UInt8×Nat))→Option ((Bool×Bool)×(Wide×((List UInt8×Nat))))) (x:Wide×Bool×Bool×((List UInt8×Nat))):Option ((Bool×Bool)×(Wide×((List UInt8×Nat)))) :=
  brn (decide (x.2.2.snd.snd < x.2.2.snd.fst.length))
    (brn (decide ((↑(rune x.2.2.snd.fst x.2.2.snd.snd).fst:Int) < 48)) (back (x.fst,true,x.2.2.fst,x.2.2.snd.fst,x.2.2.snd.snd+(rune x.2.2.snd.fst x.2.2.snd.snd).snd))
      (brn (decide (57 < (↑(rune x.2.2.snd.fst x.2.2.snd.snd).fst:Int))) (back (x.fst,true,x.2.2.fst,x.2.2.snd.fst,x.2.2.snd.snd+(rune x.2.2.snd.fst x.2.2.snd.snd).snd))
        (brn x.2.2.fst (back (x.fst,x.2.fst,true,x.2.2.snd.fst,x.2.2.snd.snd+(rune x.2.2.snd.fst x.2.2.snd.snd).snd))
          (brn (!decide (1844674407370955160 < x.fst.lo))
            (back
              ({ hi := x.fst.hi,
                  lo:=IntKind.u64.wrap (IntKind.u64.wrap (x.fst.lo*10)+IntKind.u64.wrap (IntKind.i32.wrap ((↑(rune x.2.2.snd.fst x.2.2.snd.snd).fst:Int) - 48))),
                  minus := x.fst.minus },
                x.2.fst,decide (1844674407370955160 < x.fst.lo),x.2.2.snd.fst,x.2.2.snd.snd+(rune x.2.2.snd.fst x.2.2.snd.snd).snd))
            (back (x.fst,x.2.fst,decide (1844674407370955160 < x.fst.lo),x.2.2.snd.fst,x.2.2.snd.snd+(rune x.2.2.snd.fst x.2.2.snd.snd).snd))))))
    (some ((x.2.fst,x.2.2.fst),x.fst,x.2.2.snd))
def czs:Wide×Bool×Bool×((List UInt8×Nat))→Option ((Bool×Bool)×(Wide×((List UInt8×Nat)))):=iter kzh big
def ezK:CutSpec tb:=⟨68,[(9,.ref 154),(10,.val 4),(11,.val 4),(53,.iter)],[((.exit 0),[(10,.val 4),(11,.val 4)])],[54,55,56,13,57,58,59,60,61,62,10,63,64,65,66,67,68,11,69,70,71,72,73,74,75,76,77,78],czs⟩
theorem szN:∀ back x,azP Tryz.prog tb kzN [] (azb 68 Tryz.f176) ezK.ins ezK.outs back x=kzh back x:=fun back x=>by kernel_rfl
theorem uzs:cutB Tryz.f176.ntmps ezK (azb 68 Tryz.f176)=true:=by kernel_rfl
theorem szO:azi ([]:List (CutSpec tb)) (azb 68 Tryz.f176)=[]:=by kernel_rfl
theorem rzC:azm Tryz.prog tb Tryz.f176.ntmps (.loop (azb 68 Tryz.f176)) ezK:=azR mixed uzs kzg rfl szO .nil kzh szN rfl
def czr (x:Dec×Bool×List UInt8×Wide×Bool×Bool):Option (((Unit)×Dec)⊕((Int)×Dec)) :=
 brn x.2.2.2.2.fst (some (Sum.inr (2,{ M:=0,S:=0 })))
  (brn x.2.2.2.2.snd (some (Sum.inr (8,{ M:=0,S:=0 })))
   (brn (decide (9223372036854775808 < x.2.2.2.fst.lo)) (some (Sum.inr (8,{ M:=0,S:=0 })))
    (brn (decide (x.2.2.2.fst.lo=9223372036854775808))
     (brn (!x.2.fst) (some (Sum.inr (8,{ M:=0,S:=0 })))
      (brn (decide (9 < (↑x.2.2.fst.length:Int))) (some (Sum.inr (1,{ M:=0,S:=0 })))
       (obnd (hzl (x.2.2.fst,[48])) fun y =>
        brn y (some (Sum.inr (1,{ M:=0,S:=0 })))
         (brn x.2.fst (some (Sum.inr (0,{ M:=IntKind.i64.wrap (IntKind.u64.wrap (0 - x.2.2.2.fst.lo)),S:=(↑x.2.2.fst.length:Int) })))
          (some (Sum.inl ((),x.fst)))))))
     (brn (decide (9 < (↑x.2.2.fst.length:Int))) (some (Sum.inr (1,{ M:=0,S:=0 })))
      (obnd (hzl (x.2.2.fst,[48])) fun y =>
       brn y (some (Sum.inr (1,{ M:=0,S:=0 })))
        (brn x.2.fst (some (Sum.inr (0,{ M:=IntKind.i64.wrap (IntKind.u64.wrap (0 - x.2.2.2.fst.lo)),S:=(↑x.2.2.fst.length:Int) })))
         (some (Sum.inl ((),x.fst)))))))))
def dzr:CutSpec tb:=⟨123,[(2,.ref 30),(5,.val 4),(7,.val 9),(9,.ro 154),(10,.val 4),(11,.val 4)],[(.normal,[]),(.ret,[(3,.val 63)])],[80,79,81,3,83,84,85,86,87,88,89,90,91,92,93,94,95,96,97,82,98,100,101,102,103,104,105,106,99,107,109,108,110,111,112,113,114,115,116],czr⟩
theorem szL:∀ x,gzf Tryz.prog tb kzN [] (azx 123 Tryz.f176) dzr.ins dzr.outs x=dzr.J x:=fun x=>by kernel_rfl
theorem uzr:cutB Tryz.f176.ntmps dzr (azx 123 Tryz.f176)=true:=by kernel_rfl
theorem szM:azi ([]:List (CutSpec tb)) (azx 123 Tryz.f176)=[]:=by kernel_rfl
theorem rzB:azm Tryz.prog tb Tryz.f176.ntmps (azx 123 Tryz.f176) dzr:=gzy mixed uzr kzg rfl szM .nil szL
def szK (x:List UInt8):Option (Dec×Int) :=
 obnd (kze (x,[45])) fun y =>
  obnd (pzX (y.fst,[46])) fun y_1 =>
   brn (decide (y_1.fst=[]))
    (obnd (cat y_1.fst y_1.2.fst) fun z =>
     obnd (czs ({ hi:=0,lo:=0,minus:=y.snd },true,false,z,0)) fun y_2 =>
      obnd (czr ({ M:=0,S:=0 },y.snd,y_1.2.fst,y_2.2.fst,y_2.1)) fun y =>
       osum y (fun y=>some ({ M:=IntKind.i64.wrap y_2.2.fst.lo,S:=(↑(List.length y_1.2.fst):Int) },0)) fun y=>some (y.2,y.1))
    (brn y_1.2.snd
     (brn (decide (y_1.2.fst=[]))
      (obnd (cat y_1.fst y_1.2.fst) fun z =>
       obnd (czs ({ hi:=0,lo:=0,minus:=y.snd },true,false,z,0)) fun y_2 =>
        obnd (czr ({ M:=0,S:=0 },y.snd,y_1.2.fst,y_2.2.fst,y_2.1)) fun y =>
         osum y (fun y=>some ({ M:=IntKind.i64.wrap y_2.2.fst.lo,S:=(↑(List.length y_1.2.fst):Int) },0)) fun y=>some (y.2,y.1))
      (brn (decide (1 < (↑(List.length y_1.fst):Int)))
       (obnd (idx y_1.fst 0) fun y_2 =>
        brn (decide ((↑y_2.toNat:Int)=48))
         (obnd (cat y_1.fst y_1.2.fst) fun z =>
          obnd (czs ({ hi:=0,lo:=0,minus:=y.snd },true,false,z,0)) fun y_3 =>
           obnd (czr ({ M:=0,S:=0 },y.snd,y_1.2.fst,y_3.2.fst,y_3.1)) fun y =>
            osum y (fun y=>some ({ M:=IntKind.i64.wrap y_3.2.fst.lo,S:=(↑(List.length y_1.2.fst):Int) },0)) fun y=>some (y.2,y.1))
         (obnd (cat y_1.fst y_1.2.fst) fun z =>
          obnd (czs ({ hi:=0,lo:=0,minus:=y.snd },decide (x=[45,48]),false,z,0)) fun y_3 =>
           obnd (czr ({ M:=0,S:=0 },y.snd,y_1.2.fst,y_3.2.fst,y_3.1)) fun y =>
            osum y (fun y=>some ({ M:=IntKind.i64.wrap y_3.2.fst.lo,S:=(↑(List.length y_1.2.fst):Int) },0)) fun y=>some (y.2,y.1)))
       (obnd (cat y_1.fst y_1.2.fst) fun z =>
        obnd (czs ({ hi:=0,lo:=0,minus:=y.snd },decide (x=[45,48]),false,z,0)) fun y_2 =>
         obnd (czr ({ M:=0,S:=0 },y.snd,y_1.2.fst,y_2.2.fst,y_2.1)) fun y =>
          osum y (fun y=>some ({ M:=IntKind.i64.wrap y_2.2.fst.lo,S:=(↑(List.length y_1.2.fst):Int) },0)) fun y=>some (y.2,y.1))))
     (brn (decide (1 < (↑(List.length y_1.fst):Int)))
      (obnd (idx y_1.fst 0) fun y_2 =>
       brn (decide ((↑y_2.toNat:Int)=48))
        (obnd (cat y_1.fst y_1.2.fst) fun z =>
         obnd (czs ({ hi:=0,lo:=0,minus:=y.snd },true,false,z,0)) fun y_3 =>
          obnd (czr ({ M:=0,S:=0 },y.snd,y_1.2.fst,y_3.2.fst,y_3.1)) fun y =>
           osum y (fun y=>some ({ M:=IntKind.i64.wrap y_3.2.fst.lo,S:=(↑(List.length y_1.2.fst):Int) },0)) fun y=>some (y.2,y.1))
        (obnd (cat y_1.fst y_1.2.fst) fun z =>
         obnd (czs ({ hi:=0,lo:=0,minus:=y.snd },decide (x=[45,48]),false,z,0)) fun y_3 =>
          obnd (czr ({ M:=0,S:=0 },y.snd,y_1.2.fst,y_3.2.fst,y_3.1)) fun y =>
           osum y (fun y=>some ({ M:=IntKind.i64.wrap y_3.2.fst.lo,S:=(↑(List.length y_1.2.fst):Int) },0)) fun y=>some (y.2,y.1)))
      (obnd (cat y_1.fst y_1.2.fst) fun z =>
       obnd (czs ({ hi:=0,lo:=0,minus:=y.snd },decide (x=[45,48]),false,z,0)) fun y_2 =>
        obnd (czr ({ M:=0,S:=0 },y.snd,y_1.2.fst,y_2.2.fst,y_2.1)) fun y =>
         osum y (fun y=>some ({ M:=IntKind.i64.wrap y_2.2.fst.lo,S:=(↑(List.length y_1.2.fst):Int) },0)) fun y=>some (y.2,y.1))))
def fz7:FSpec tb:=⟨[(0,.val 9)],[(0,.val 30),(1,.val 63)],szK⟩
theorem wz3:∀ x,evFn Tryz.prog tb kzN [ezK,dzr] Tryz.f176 fz7.ins fz7.outs x=fz7.f x:=fun x=>by kernel_rfl
theorem yzg:fnK Tryz.f176 fz7.ins fz7.outs=true:=by kernel_rfl
theorem wz4:azi ([ezK,dzr]:List (CutSpec tb)) (azL Tryz.f176)=[(68,.loop (azb 68 Tryz.f176)),(123,azx 123 Tryz.f176)]:=by kernel_rfl
theorem szP:azc Tryz.prog tb 176 fz7:=az8 mixed Tryz.func176 yzg kzg rfl wz4 (.cons rfl rzC rfl (.cons rfl rzB rfl .nil)) wz3
def jzk (x:Int):Option (Wide) :=
 brn (decide (x < 0)) (some { hi:=0,lo:=IntKind.u64.wrap (0 - IntKind.u64.wrap x),minus:=true }) (some { hi:=0,lo:=IntKind.u64.wrap x,minus:=false })
def fzK:FSpec tb:=⟨[(0,.val 2)],[(0,.val 154)],jzk⟩
theorem dec_of_eq:∀ x,evFn Tryz.prog tb [] [] Tryz.f94 fzK.ins fzK.outs x=fzK.f x:=fun x=>by kernel_rfl
theorem dec_of_k:fnK Tryz.f94 fzK.ins fzK.outs=true:=by kernel_rfl
theorem gzV:azc Tryz.prog tb 94 fzK:=azq mixed Tryz.func94 dec_of_k .nil rfl dec_of_eq
def jza (x:Int×Int):Option (List UInt8) :=
 obnd (dzJ x) fun y=>some y
def bzT:FSpec tb:=⟨[(0,.val 152),(1,.val 3)],[(0,.val 9)],jza⟩
theorem nzz:∀ x,evFn Tryz.prog tb [(256,izD)] [] Tryz.f229 bzT.ins bzT.outs x=bzT.f x:=fun x=>by kernel_rfl
theorem ozf:fnK Tryz.f229 bzT.ins bzT.outs=true:=by kernel_rfl
theorem lzT:azc Tryz.prog tb 229 bzT:=azq mixed Tryz.func229 ozf (.cons kzS .nil) rfl nzz
def vzy (x:Dec):Option (List UInt8) :=
 obnd (jzk x.M) fun y =>
  obnd (jza (y.lo,10)) fun y_1 =>
   brn (decide (0 < x.S))
    (obnd
     (fzh
      ([48],
       bif decide (IntKind.i64.wrap (IntKind.i64.wrap (x.S+1) - (↑(List.length y_1):Int)) < 0) then 0
       else IntKind.i64.wrap (IntKind.i64.wrap (x.S+1) - (↑(List.length y_1):Int))))
     fun y_2 =>
     obnd (cat y_2 y_1) fun z =>
      obnd (sub z 0 (IntKind.i64.wrap ((↑z.length:Int) - x.S))) fun z_1 =>
       obnd (cat z_1 [46]) fun z_2 =>
        obnd (sub z (IntKind.i64.wrap ((↑z.length:Int) - x.S)) (↑z.length:Int)) fun z =>
         obnd (cat z_2 z) fun z=>brn y.minus (obnd (cat [45] z) fun z=>some z) (some z))
    (brn y.minus (obnd (cat [45] y_1) fun z=>some z) (some y_1))
def gzU:FSpec tb:=⟨[(0,.val 30)],[(0,.val 9)],vzy⟩
theorem yzi:∀ x,evFn Tryz.prog tb [(94,fzK),(229,bzT),(157,izQ)] [] Tryz.f175 gzU.ins gzU.outs x=gzU.f x:=fun x=>by kernel_rfl
theorem zzi:fnK Tryz.f175 gzU.ins gzU.outs=true:=by kernel_rfl
theorem uzt:azc Tryz.prog tb 175 gzU:=azq mixed Tryz.func175 zzi (.cons gzV (.cons lzT (.cons izR .nil))) rfl yzi
def kzj (back:Int×Int×Int→Option (Int)) (x:Int×Int×Int):Option (Int) :=
 brn (decide (x.2.snd < x.2.fst)) (back (IntKind.u64.wrap (x.fst*10),x.2.fst,IntKind.i64.wrap (x.2.snd+1))) (some x.1)
def ozq:Int×Int×Int→Option (Int):=iter kzj big
def ezL:CutSpec tb:=⟨36,[(3,.val 152),(4,.val 3),(5,.val 3)],[((.exit 0),[(3,.val 152)])],[6,7,8,3,9,5],ozq⟩
theorem szS:∀ back x,azP Tryz.prog tb [] [] (azb 36 Tryz.f96) ezL.ins ezL.outs back x=kzj back x:=fun back x=>by kernel_rfl
theorem uzu:cutB Tryz.f96.ntmps ezL (azb 36 Tryz.f96)=true:=by kernel_rfl
theorem szT:azi ([]:List (CutSpec tb)) (azb 36 Tryz.f96)=[]:=by kernel_rfl
theorem rzD:azm Tryz.prog tb Tryz.f96.ntmps (.loop (azb 36 Tryz.f96)) ezL:=azR mixed uzu .nil rfl szT .nil kzj szS rfl
def ezZ (x:Int):Option (Int) :=
 obnd (ozq (1,x,0)) fun y=>some y
def czN:FSpec tb:=⟨[(0,.val 3)],[(0,.val 152)],ezZ⟩
theorem wz6:∀ x,evFn Tryz.prog tb [] [ezL] Tryz.f96 czN.ins czN.outs x=czN.f x:=fun x=>by kernel_rfl
theorem yzj:fnK Tryz.f96 czN.ins czN.outs=true:=by kernel_rfl
theorem wz7:azi ([ezL]:List (CutSpec tb)) (azL Tryz.f96)=[(36,.loop (azb 36 Tryz.f96))]:=by kernel_rfl
theorem ez0:azc Tryz.prog tb 96 czN:=az8 mixed Tryz.func96 yzj .nil rfl wz7 (.cons rfl rzD rfl .nil) wz6
def mzE (x:Int×Int):Option (Int×Int) :=
 some
  (IntKind.u64.wrap
   (IntKind.u64.wrap
    (IntKind.u64.wrap (x.fst.fdiv 4294967296*x.snd.fdiv 4294967296) +
     (IntKind.u64.wrap
      (IntKind.u64.wrap (x.fst.fdiv 4294967296*azN BinOp.and IntKind.u64 x.snd 4294967295) +
       (IntKind.u64.wrap (azN BinOp.and IntKind.u64 x.fst 4294967295*azN BinOp.and IntKind.u64 x.snd 4294967295)).fdiv 4294967296)).fdiv
      4294967296) +
    (IntKind.u64.wrap
     (azN BinOp.and IntKind.u64
      (IntKind.u64.wrap
       (IntKind.u64.wrap (x.fst.fdiv 4294967296*azN BinOp.and IntKind.u64 x.snd 4294967295) +
        (IntKind.u64.wrap (azN BinOp.and IntKind.u64 x.fst 4294967295*azN BinOp.and IntKind.u64 x.snd 4294967295)).fdiv 4294967296))
      4294967295 +
      IntKind.u64.wrap (azN BinOp.and IntKind.u64 x.fst 4294967295*x.snd.fdiv 4294967296))).fdiv
     4294967296),
   IntKind.u64.wrap (x.fst*x.snd))
def dzP:FSpec tb:=⟨[(0,.val 152),(1,.val 152)],[(0,.val 152),(1,.val 152)],mzE⟩
theorem vzZ:∀ x,evFn Tryz.prog tb [] [] Tryz.f98 dzP.ins dzP.outs x=dzP.f x:=fun x=>by kernel_rfl
theorem wzX:fnK Tryz.f98 dzP.ins dzP.outs=true:=by kernel_rfl
theorem lzd:azc Tryz.prog tb 98 dzP:=azq mixed Tryz.func98 wzX .nil rfl vzZ
def gzI (x:Wide×Int):Option (Wide) :=
 obnd (mzE (x.fst.lo,x.snd)) fun y=>some { hi:=IntKind.u64.wrap (IntKind.u64.wrap (x.fst.hi*x.snd)+y.fst),lo:=y.snd,minus:=x.fst.minus }
def bzV:FSpec tb:=⟨[(0,.val 154),(1,.val 152)],[(0,.val 154)],gzI⟩
theorem qzr:∀ x,evFn Tryz.prog tb [(98,dzP)] [] Tryz.f95 bzV.ins bzV.outs x=bzV.f x:=fun x=>by kernel_rfl
theorem rzH:fnK Tryz.f95 bzV.ins bzV.outs=true:=by kernel_rfl
theorem gzc:azc Tryz.prog tb 95 bzV:=azq mixed Tryz.func95 rzH (.cons lzd .nil) rfl qzr
def dzR (x:Dec):Option (Wide) :=
 obnd (jzk x.M) fun y=>obnd (ezZ (IntKind.i64.wrap (9 - x.S))) fun y_1=>obnd (gzI (y,y_1)) fun y=>some y
def czG:FSpec tb:=⟨[(0,.val 30)],[(0,.val 154)],dzR⟩
theorem vz6:∀ x,evFn Tryz.prog tb [(94,fzK),(96,czN),(95,bzV)] [] Tryz.f89 czG.ins czG.outs x=czG.f x:=fun x=>by kernel_rfl
theorem wz8:fnK Tryz.f89 czG.ins czG.outs=true:=by kernel_rfl
theorem gza:azc Tryz.prog tb 89 czG:=azq mixed Tryz.func89 wz8 (.cons gzV (.cons ez0 (.cons gzc .nil))) rfl vz6
def hz5 (x:Int):Option (Bool) :=
 some (bif decide (x=x) then false else true)
def czx:FSpec tb:=⟨[(0,.val 2)],[(0,.val 4)],hz5⟩
theorem oz9:∀ x,evFn Tryz.prog tb [] [] Tryz.f177 czx.ins czx.outs x=czx.f x:=fun x=>by kernel_rfl
theorem qzn:fnK Tryz.f177 czx.ins czx.outs=true:=by kernel_rfl
theorem mz6:azc Tryz.prog tb 177 czx:=azq mixed Tryz.func177 qzn .nil rfl oz9
def gzP (x:Int×Int):Option (Int) :=
 obnd (hz5 x.fst) fun y =>
  obnd (hz5 x.snd) fun y_1 =>
   brn y (brn y_1 (some 0) (some (-1))) (brn y_1 (some 1) (brn (decide (x.fst < x.snd)) (some (-1)) (brn (decide (x.snd < x.fst)) (some 1) (some 0))))
def bz2:FSpec tb:=⟨[(0,.val 2),(1,.val 2)],[(0,.val 3)],gzP⟩
theorem nzM:∀ x,evFn Tryz.prog tb [(177,czx)] [] Tryz.f90 bz2.ins bz2.outs x=bz2.f x:=fun x=>by kernel_rfl
theorem ozP:fnK Tryz.f90 bz2.ins bz2.outs=true:=by kernel_rfl
theorem lzW:azc Tryz.prog tb 90 bz2:=azq mixed Tryz.func90 ozP (.cons mz6 .nil) rfl nzM
def hzq (x:Int):Option (Bool) :=
 some (bif decide (x=x) then false else true)
def cz2:FSpec tb:=⟨[(0,.val 3)],[(0,.val 4)],hzq⟩
theorem rzx:∀ x,evFn Tryz.prog tb [] [] Tryz.f173 cz2.ins cz2.outs x=cz2.f x:=fun x=>by kernel_rfl
theorem szF:fnK Tryz.f173 cz2.ins cz2.outs=true:=by kernel_rfl
theorem ozR:azc Tryz.prog tb 173 cz2:=azq mixed Tryz.func173 szF .nil rfl rzx
def azO (x:Int×Int):Option (Int) :=
 obnd (hzq x.fst) fun y =>
  obnd (hzq x.snd) fun y_1 =>
   brn y (brn y_1 (some 0) (some (-1))) (brn y_1 (some 1) (brn (decide (x.fst < x.snd)) (some (-1)) (brn (decide (x.snd < x.fst)) (some 1) (some 0))))
def bzs:FSpec tb:=⟨[(0,.val 3),(1,.val 3)],[(0,.val 3)],azO⟩
theorem oz7:∀ x,evFn Tryz.prog tb [(173,cz2)] [] Tryz.f80 bzs.ins bzs.outs x=bzs.f x:=fun x=>by kernel_rfl
theorem qzl:fnK Tryz.f80 bzs.ins bzs.outs=true:=by kernel_rfl
theorem dzl:azc Tryz.prog tb 80 bzs:=azq mixed Tryz.func80 qzl (.cons ozR .nil) rfl oz7
def dz0 (x:Wide×Wide):Option (Bool) :=
 brn (decide (x.fst.hi < x.snd.hi)) (some true) (brn (decide (x.fst.hi=x.snd.hi)) (some (decide (x.fst.lo < x.snd.lo))) (some false))
def czC:FSpec tb:=⟨[(0,.val 154),(1,.val 154)],[(0,.val 4)],dz0⟩
theorem rzE:∀ x,evFn Tryz.prog tb [] [] Tryz.f91 czC.ins czC.outs x=czC.f x:=fun x=>by kernel_rfl
theorem szW:fnK Tryz.f91 czC.ins czC.outs=true:=by kernel_rfl
theorem iz5:azc Tryz.prog tb 91 czC:=azq mixed Tryz.func91 szW .nil rfl rzE
def gzR (x:Dec×Dec):Option (Int) :=
 obnd (dzR x.fst) fun y =>
  obnd (dzR x.snd) fun y_1 =>
   brn (!decide (y.minus=y_1.minus))
    (obnd (gzP (x.fst.M,0)) fun y=>obnd (gzP (x.snd.M,0)) fun y_2=>obnd (azO (y,y_2)) fun y=>some y)
    (brn y.minus (obnd (dz0 (y,y_1)) fun y_2=>brn y_2 (some 1) (obnd (dz0 (y_1,y)) fun y=>brn y (some (-1)) (some 0)))
     (obnd (dz0 (y,y_1)) fun y_2=>brn y_2 (some (-1)) (obnd (dz0 (y_1,y)) fun y=>brn y (some 1) (some 0))))
def czo:FSpec tb:=⟨[(0,.val 30),(1,.val 30)],[(0,.val 3)],gzR⟩
theorem uzn:∀ x,evFn Tryz.prog tb [(89,czG),(90,bz2),(80,bzs),(91,czC)] [] Tryz.f34 czo.ins czo.outs x=czo.f x:=fun x=>by kernel_rfl
theorem vz4:fnK Tryz.f34 czo.ins czo.outs=true:=by kernel_rfl
theorem fzD:azc Tryz.prog tb 34 czo:=azq mixed Tryz.func34 vz4 (.cons gza (.cons lzW (.cons dzl (.cons iz5 .nil)))) rfl uzn
def jzl (x:Wide×Wide):Option (Wide) :=
 brn (decide (x.fst.minus=x.snd.minus))
  (obnd (hzN (x.fst.lo,x.snd.lo,0)) fun y=>some { hi:=IntKind.u64.wrap (IntKind.u64.wrap (x.fst.hi+x.snd.hi)+y.snd),lo:=y.fst,minus:=x.fst.minus })
  (obnd (dz0 x) fun y =>
   brn y (obnd (hzO (x.snd.lo,x.fst.lo,0)) fun y=>some { hi:=IntKind.u64.wrap (IntKind.u64.wrap (x.snd.hi - x.fst.hi) - y.snd),lo:=y.fst,minus:=x.snd.minus })
    (obnd (hzO (x.fst.lo,x.snd.lo,0)) fun y=>some { hi:=IntKind.u64.wrap (IntKind.u64.wrap (x.fst.hi - x.snd.hi) - y.snd),lo:=y.fst,minus:=x.fst.minus }))
def czD:FSpec tb:=⟨[(0,.val 154),(1,.val 154)],[(0,.val 154)],jzl⟩
theorem rzF:∀ x,evFn Tryz.prog tb [(178,mzD),(91,czC),(179,qz0)] [] Tryz.f92 czD.ins czD.outs x=czD.f x:=fun x=>by kernel_rfl
theorem szX:fnK Tryz.f92 czD.ins czD.outs=true:=by kernel_rfl
theorem iz6:azc Tryz.prog tb 92 czD:=azq mixed Tryz.func92 szX (.consK lzc (.cons iz5 (.consK rzr .nil))) rfl rzF
abbrev jzM:List (Nat×FSpec tb):=[(260,izm)]
theorem jzc:azy Tryz.prog tb jzM:=(.cons kzL .nil)
def jzd (back:Int×Int×Int×Int×Int→Option (Int)) (x:Int×Int×Int×Int×Int):Option (Int) :=
 brn (decide (4294967296≤x.2.2.2.fst))
  (brn (decide (4294967296≤IntKind.u64.wrap (x.2.2.2.snd+x.fst))) (some (IntKind.u64.wrap (x.2.2.2.fst - 1)))
   (back (x.fst,x.2.fst,x.2.2.fst,IntKind.u64.wrap (x.2.2.2.fst - 1),IntKind.u64.wrap (x.2.2.2.snd+x.fst))))
  (brn (decide (IntKind.u64.wrap (IntKind.u64.wrap (4294967296*x.2.2.2.snd)+x.2.2.fst) < IntKind.u64.wrap (x.2.2.2.fst*x.2.fst)))
   (brn (decide (4294967296≤IntKind.u64.wrap (x.2.2.2.snd+x.fst))) (some (IntKind.u64.wrap (x.2.2.2.fst - 1)))
    (back (x.fst,x.2.fst,x.2.2.fst,IntKind.u64.wrap (x.2.2.2.fst - 1),IntKind.u64.wrap (x.2.2.2.snd+x.fst))))
   (some x.2.2.2.1))
def mz1:Int×Int×Int×Int×Int→Option (Int):=iter jzd big
def dzW:CutSpec tb:=⟨148,[(9,.val 152),(10,.val 152),(13,.val 152),(15,.val 152),(16,.val 152)],[((.exit 0),[(15,.val 152)])],[67,68,69,70,71,72,73,74,75,76,77,78,79,80,15,81,82,83,16,84,85],mz1⟩
theorem rzm:∀ back x,azP Tryz.prog tb jzM [] (azb 148 Tryz.f233) dzW.ins dzW.outs back x=jzd back x:=fun back x=>by kernel_rfl
theorem szB:cutB Tryz.f233.ntmps dzW (azb 148 Tryz.f233)=true:=by kernel_rfl
theorem rzn:azi ([]:List (CutSpec tb)) (azb 148 Tryz.f233)=[]:=by kernel_rfl
theorem qzj:azm Tryz.prog tb Tryz.f233.ntmps (.loop (azb 148 Tryz.f233)) dzW:=azR mixed szB jzc rfl rzn .nil jzd rzm rfl
def jze (back:Int×Int×Int×Int×Int→Option (Int)) (x:Int×Int×Int×Int×Int):Option (Int) :=
 brn (decide (4294967296≤x.2.2.2.snd))
  (brn (decide (4294967296≤IntKind.u64.wrap (x.2.2.2.fst+x.fst))) (some (IntKind.u64.wrap (x.2.2.2.snd - 1)))
   (back (x.fst,x.2.fst,x.2.2.fst,IntKind.u64.wrap (x.2.2.2.fst+x.fst),IntKind.u64.wrap (x.2.2.2.snd - 1))))
  (brn (decide (IntKind.u64.wrap (IntKind.u64.wrap (4294967296*x.2.2.2.fst)+x.2.2.fst) < IntKind.u64.wrap (x.2.2.2.snd*x.2.fst)))
   (brn (decide (4294967296≤IntKind.u64.wrap (x.2.2.2.fst+x.fst))) (some (IntKind.u64.wrap (x.2.2.2.snd - 1)))
    (back (x.fst,x.2.fst,x.2.2.fst,IntKind.u64.wrap (x.2.2.2.fst+x.fst),IntKind.u64.wrap (x.2.2.2.snd - 1))))
   (some x.2.2.2.2))
def mz2:Int×Int×Int×Int×Int→Option (Int):=iter jze big
def dzX:CutSpec tb:=⟨204,[(9,.val 152),(10,.val 152),(14,.val 152),(16,.val 152),(18,.val 152)],[((.exit 2),[(18,.val 152)])],[102,103,104,105,106,107,108,109,110,111,112,113,114,115,18,116,117,118,16,119,120],mz2⟩
theorem rzo:∀ back x,azP Tryz.prog tb jzM [] (azb 204 Tryz.f233) dzX.ins dzX.outs back x=jze back x:=fun back x=>by kernel_rfl
theorem szC:cutB Tryz.f233.ntmps dzX (azb 204 Tryz.f233)=true:=by kernel_rfl
theorem rzp:azi ([]:List (CutSpec tb)) (azb 204 Tryz.f233)=[]:=by kernel_rfl
theorem qzk:azm Tryz.prog tb Tryz.f233.ntmps (.loop (azb 204 Tryz.f233)) dzX:=azR mixed szC jzc rfl rzp .nil jze rzo rfl
def qzZ (x:Int×Int×Int):Option (Int×Int) :=
 brn (decide (x.2.snd=0)) none
  (brn (decide (x.2.snd≤x.fst)) none
   (brn (decide (x.fst=0)) (brn (decide (x.2.snd=0)) none (brn (decide (x.2.snd=0)) none (some (IntKind.u64.wrap (x.2.fst.tdiv x.2.snd),x.2.fst.tmod x.2.snd))))
    (obnd (izl x.2.snd) fun y =>
     brn (decide (IntKind.u64.wrap y < 0)) none
      (brn (decide (IntKind.u64.wrap y < 0)) none
       (brn (decide (IntKind.u64.wrap (64 - IntKind.u64.wrap y) < 0)) none
        (brn (decide (IntKind.u64.wrap y < 0)) none
         (brn (decide ((IntKind.u64.wrap (x.2.snd*2 ^ min (IntKind.u64.wrap y).toNat 64)).fdiv 4294967296=0)) none
          (obnd
           (mz1
            ((IntKind.u64.wrap (x.2.snd*2 ^ min (IntKind.u64.wrap y).toNat 64)).fdiv 4294967296,
             azN BinOp.and IntKind.u64 (IntKind.u64.wrap (x.2.snd*2 ^ min (IntKind.u64.wrap y).toNat 64)) 4294967295,
             (IntKind.u64.wrap (x.2.fst*2 ^ min (IntKind.u64.wrap y).toNat 64)).fdiv 4294967296,
             IntKind.u64.wrap
              ((azN BinOp.or IntKind.u64 (IntKind.u64.wrap (x.fst*2 ^ min (IntKind.u64.wrap y).toNat 64))
               (x.2.fst.fdiv (2 ^ min (IntKind.u64.wrap (64 - IntKind.u64.wrap y)).toNat 64))).tdiv
               ((IntKind.u64.wrap (x.2.snd*2 ^ min (IntKind.u64.wrap y).toNat 64)).fdiv 4294967296)),
             IntKind.u64.wrap
              (azN BinOp.or IntKind.u64 (IntKind.u64.wrap (x.fst*2 ^ min (IntKind.u64.wrap y).toNat 64))
               (x.2.fst.fdiv (2 ^ min (IntKind.u64.wrap (64 - IntKind.u64.wrap y)).toNat 64)) -
               IntKind.u64.wrap
                (IntKind.u64.wrap
                 ((azN BinOp.or IntKind.u64 (IntKind.u64.wrap (x.fst*2 ^ min (IntKind.u64.wrap y).toNat 64))
                  (x.2.fst.fdiv (2 ^ min (IntKind.u64.wrap (64 - IntKind.u64.wrap y)).toNat 64))).tdiv
                  ((IntKind.u64.wrap (x.2.snd*2 ^ min (IntKind.u64.wrap y).toNat 64)).fdiv 4294967296)) *
                 (IntKind.u64.wrap (x.2.snd*2 ^ min (IntKind.u64.wrap y).toNat 64)).fdiv 4294967296))))
           fun y_1 =>
           brn (decide ((IntKind.u64.wrap (x.2.snd*2 ^ min (IntKind.u64.wrap y).toNat 64)).fdiv 4294967296=0)) none
            (obnd
             (mz2
              ((IntKind.u64.wrap (x.2.snd*2 ^ min (IntKind.u64.wrap y).toNat 64)).fdiv 4294967296,
               azN BinOp.and IntKind.u64 (IntKind.u64.wrap (x.2.snd*2 ^ min (IntKind.u64.wrap y).toNat 64)) 4294967295,
               azN BinOp.and IntKind.u64 (IntKind.u64.wrap (x.2.fst*2 ^ min (IntKind.u64.wrap y).toNat 64)) 4294967295,
               IntKind.u64.wrap
                (IntKind.u64.wrap
                 (IntKind.u64.wrap
                  (IntKind.u64.wrap
                   (azN BinOp.or IntKind.u64 (IntKind.u64.wrap (x.fst*2 ^ min (IntKind.u64.wrap y).toNat 64))
                    (x.2.fst.fdiv (2 ^ min (IntKind.u64.wrap (64 - IntKind.u64.wrap y)).toNat 64)) *
                    4294967296) +
                   (IntKind.u64.wrap (x.2.fst*2 ^ min (IntKind.u64.wrap y).toNat 64)).fdiv 4294967296) -
                  IntKind.u64.wrap (y_1*IntKind.u64.wrap (x.2.snd*2 ^ min (IntKind.u64.wrap y).toNat 64))) -
                 IntKind.u64.wrap
                  (IntKind.u64.wrap
                   ((IntKind.u64.wrap
                    (IntKind.u64.wrap
                     (IntKind.u64.wrap
                      (azN BinOp.or IntKind.u64 (IntKind.u64.wrap (x.fst*2 ^ min (IntKind.u64.wrap y).toNat 64))
                       (x.2.fst.fdiv (2 ^ min (IntKind.u64.wrap (64 - IntKind.u64.wrap y)).toNat 64)) *
                       4294967296) +
                      (IntKind.u64.wrap (x.2.fst*2 ^ min (IntKind.u64.wrap y).toNat 64)).fdiv 4294967296) -
                     IntKind.u64.wrap (y_1*IntKind.u64.wrap (x.2.snd*2 ^ min (IntKind.u64.wrap y).toNat 64)))).tdiv
                    ((IntKind.u64.wrap (x.2.snd*2 ^ min (IntKind.u64.wrap y).toNat 64)).fdiv 4294967296)) *
                   (IntKind.u64.wrap (x.2.snd*2 ^ min (IntKind.u64.wrap y).toNat 64)).fdiv 4294967296)),
               IntKind.u64.wrap
                ((IntKind.u64.wrap
                 (IntKind.u64.wrap
                  (IntKind.u64.wrap
                   (azN BinOp.or IntKind.u64 (IntKind.u64.wrap (x.fst*2 ^ min (IntKind.u64.wrap y).toNat 64))
                    (x.2.fst.fdiv (2 ^ min (IntKind.u64.wrap (64 - IntKind.u64.wrap y)).toNat 64)) *
                    4294967296) +
                   (IntKind.u64.wrap (x.2.fst*2 ^ min (IntKind.u64.wrap y).toNat 64)).fdiv 4294967296) -
                  IntKind.u64.wrap (y_1*IntKind.u64.wrap (x.2.snd*2 ^ min (IntKind.u64.wrap y).toNat 64)))).tdiv
                 ((IntKind.u64.wrap (x.2.snd*2 ^ min (IntKind.u64.wrap y).toNat 64)).fdiv 4294967296))))
             fun y_2 =>
             brn (decide (IntKind.u64.wrap y < 0)) none
              (some
               (IntKind.u64.wrap (IntKind.u64.wrap (y_1*4294967296)+y_2),
                (IntKind.u64.wrap
                 (IntKind.u64.wrap
                  (IntKind.u64.wrap
                   (IntKind.u64.wrap
                    (IntKind.u64.wrap
                     (IntKind.u64.wrap
                      (azN BinOp.or IntKind.u64 (IntKind.u64.wrap (x.fst*2 ^ min (IntKind.u64.wrap y).toNat 64))
                       (x.2.fst.fdiv (2 ^ min (IntKind.u64.wrap (64 - IntKind.u64.wrap y)).toNat 64)) *
                       4294967296) +
                      (IntKind.u64.wrap (x.2.fst*2 ^ min (IntKind.u64.wrap y).toNat 64)).fdiv 4294967296) -
                     IntKind.u64.wrap (y_1*IntKind.u64.wrap (x.2.snd*2 ^ min (IntKind.u64.wrap y).toNat 64))) *
                    4294967296) +
                   azN BinOp.and IntKind.u64 (IntKind.u64.wrap (x.2.fst*2 ^ min (IntKind.u64.wrap y).toNat 64)) 4294967295) -
                  IntKind.u64.wrap (y_2*IntKind.u64.wrap (x.2.snd*2 ^ min (IntKind.u64.wrap y).toNat 64)))).fdiv
                 (2 ^ min (IntKind.u64.wrap y).toNat 64))))))))))))
def fzl:FSpec tb:=⟨[(0,.val 152),(1,.val 152),(2,.val 152)],[(0,.val 152),(1,.val 152)],qzZ⟩
theorem vzX:∀ x,evFn Tryz.prog tb jzM [dzW,dzX] Tryz.f233 fzl.ins fzl.outs x=fzl.f x:=fun x=>by kernel_rfl
theorem wzW:fnK Tryz.f233 fzl.ins fzl.outs=true:=by kernel_rfl
theorem vzY:azi ([dzW,dzX]:List (CutSpec tb)) (azL Tryz.f233)=[(148,.loop (azb 148 Tryz.f233)),(204,.loop (azb 204 Tryz.f233))]:=by kernel_rfl
theorem rzq:azc Tryz.prog tb 233 fzl:=az8 mixed Tryz.func233 wzW jzc rfl vzY (.cons rfl qzj rfl (.cons rfl qzk rfl .nil)) vzX
def lzh (x:Wide×Int):Option (Wide×Int) :=
 brn (decide (x.snd=0)) none
  (brn (decide (x.snd=0)) none
   (obnd (qzZ (x.fst.hi.tmod x.snd,x.fst.lo,x.snd)) fun y=>some ({ hi:=IntKind.u64.wrap (x.fst.hi.tdiv x.snd),lo:=y.fst,minus:=x.fst.minus },y.snd)))
def dze:FSpec tb:=⟨[(0,.val 154),(1,.val 152)],[(0,.val 154),(1,.val 152)],lzh⟩
theorem uzv:∀ x,evFn Tryz.prog tb [(233,fzl)] [] Tryz.f180 dze.ins dze.outs x=dze.f x:=fun x=>by kernel_rfl
theorem vz7:fnK Tryz.f180 dze.ins dze.outs=true:=by kernel_rfl
theorem kzF:azc Tryz.prog tb 180 dze:=azq mixed Tryz.func180 vz7 (.cons rzq .nil) rfl uzv
abbrev kzk:List (Nat×FSpec tb):=[(180,dze)]
theorem lzi:azy Tryz.prog tb kzk:=(.cons kzF .nil)
def hz6 (back:Int×Wide→Option ((Int)×Wide)) (x:Int×Wide):Option ((Int)×Wide) :=
 brn (decide (0 < x.fst)) (obnd (lzh (x.snd,10)) fun y=>brn (!decide (y.snd=0)) (some x) (back (IntKind.i64.wrap (x.fst - 1),y.fst))) (some x)
def lzj:Int×Wide→Option ((Int)×Wide):=iter hz6 big
def cz3:CutSpec tb:=⟨20,[(1,.val 3),(2,.ref 154)],[((.exit 0),[(1,.val 3)])],[8,9,11,12,10,13,14,6,7,15,16,17,18,19,1],lzj⟩
theorem pzc:∀ back x,azP Tryz.prog tb kzk [] (azb 20 Tryz.f93) cz3.ins cz3.outs back x=hz6 back x:=fun back x=>by kernel_rfl
theorem qzp:cutB Tryz.f93.ntmps cz3 (azb 20 Tryz.f93)=true:=by kernel_rfl
theorem pzd:azi ([]:List (CutSpec tb)) (azb 20 Tryz.f93)=[]:=by kernel_rfl
theorem ozS:azm Tryz.prog tb Tryz.f93.ntmps (.loop (azb 20 Tryz.f93)) cz3:=azR mixed qzp lzi rfl pzd .nil hz6 pzc rfl
def czW (x:Wide×Int):Option (Dec×Int) :=
 obnd (lzj (x.snd,x.fst)) fun y =>
  brn (!decide (y.2.hi=0)) (some ({ M:=0,S:=0 },8))
   (brn (decide (9223372036854775808 < y.2.lo)) (some ({ M:=0,S:=0 },8))
    (brn (decide (y.2.lo=9223372036854775808))
     (brn (!y.2.minus) (some ({ M:=0,S:=0 },8))
      (brn y.2.minus (some ({ M:=IntKind.i64.wrap (IntKind.u64.wrap (0 - y.2.lo)),S:=y.1 },0)) (some ({ M:=IntKind.i64.wrap y.2.lo,S:=y.1 },0))))
     (brn y.2.minus (some ({ M:=IntKind.i64.wrap (IntKind.u64.wrap (0 - y.2.lo)),S:=y.1 },0)) (some ({ M:=IntKind.i64.wrap y.2.lo,S:=y.1 },0)))))
def bzN:FSpec tb:=⟨[(0,.val 154),(1,.val 3)],[(0,.val 30),(1,.val 63)],czW⟩
theorem szU:∀ x,evFn Tryz.prog tb kzk [cz3] Tryz.f93 bzN.ins bzN.outs x=bzN.f x:=fun x=>by kernel_rfl
theorem uzw:fnK Tryz.f93 bzN.ins bzN.outs=true:=by kernel_rfl
theorem szV:azi ([cz3]:List (CutSpec tb)) (azL Tryz.f93)=[(20,.loop (azb 20 Tryz.f93))]:=by kernel_rfl
theorem dzf:azc Tryz.prog tb 93 bzN:=az8 mixed Tryz.func93 uzw lzi rfl szV (.cons rfl ozS rfl .nil) szU
def rzz (x:Dec×Dec):Option (Dec×Int) :=
 obnd (dzR x.fst) fun y=>obnd (dzR x.snd) fun y_1=>obnd (jzl (y,y_1)) fun y=>obnd (czW (y,9)) fun y=>some y
def gzQ:FSpec tb:=⟨[(0,.val 30),(1,.val 30)],[(0,.val 30),(1,.val 63)],rzz⟩
theorem zzc:∀ x,evFn Tryz.prog tb [(89,czG),(92,czD),(93,bzN)] [] Tryz.f87 gzQ.ins gzQ.outs x=gzQ.f x:=fun x=>by kernel_rfl
theorem dec_Add_k:fnK Tryz.f87 gzQ.ins gzQ.outs=true:=by kernel_rfl
theorem ozo:azc Tryz.prog tb 87 gzQ:=azq mixed Tryz.func87 dec_Add_k (.cons gza (.cons iz6 (.cons dzf .nil))) rfl zzc
def pze (x:Wide):Option (Wide) :=
 obnd (hzN (x.lo,1,0)) fun y=>some { hi:=IntKind.u64.wrap (x.hi+y.snd),lo:=y.fst,minus:=x.minus }
def ezc:FSpec tb:=⟨[(0,.val 154)],[(0,.val 154)],pze⟩
theorem uzx:∀ x,evFn Tryz.prog tb [(178,mzD)] [] Tryz.f181 ezc.ins ezc.outs x=ezc.f x:=fun x=>by kernel_rfl
theorem vz8:fnK Tryz.f181 ezc.ins ezc.outs=true:=by kernel_rfl
theorem qzs:azc Tryz.prog tb 181 ezc:=azq mixed Tryz.func181 vz8 (.consK lzc .nil) rfl uzx
def gzH (x:Wide×Int):Option (Wide) :=
 obnd (lzh x) fun y=>brn (decide (IntKind.u64.wrap (x.snd - y.snd)≤y.snd)) (obnd (pze y.fst) fun y=>some y) (some y.fst)
def bzU:FSpec tb:=⟨[(0,.val 154),(1,.val 152)],[(0,.val 154)],gzH⟩
theorem qzq:∀ x,evFn Tryz.prog tb [(180,dze),(181,ezc)] [] Tryz.f97 bzU.ins bzU.outs x=bzU.f x:=fun x=>by kernel_rfl
theorem rzG:fnK Tryz.f97 bzU.ins bzU.outs=true:=by kernel_rfl
theorem gzb:azc Tryz.prog tb 97 bzU:=azq mixed Tryz.func97 rzG (.cons kzF (.cons qzs .nil)) rfl qzq
def jzj (x:Dec×Dec):Option (Dec×Int) :=
 brn (decide (x.snd.M=0)) (some ({ M:=0,S:=0 },9))
  (obnd (jzk x.snd.M) fun y =>
   obnd (dzR x.fst) fun y_1 =>
    obnd (ezZ x.snd.S) fun y_2 =>
     obnd (gzI (y_1,y_2)) fun y_3 =>
      obnd (gzH ({ hi:=y_3.hi,lo:=y_3.lo,minus:=!decide (y_3.minus=y.minus) },y.lo)) fun y=>obnd (czW (y,9)) fun y=>some y)
def fzn:FSpec tb:=⟨[(0,.val 30),(1,.val 30)],[(0,.val 30),(1,.val 63)],jzj⟩
theorem zzd:∀ x,evFn Tryz.prog tb [(94,fzK),(89,czG),(96,czN),(95,bzV),(97,bzU),(93,bzN)] [] Tryz.f36 fzn.ins fzn.outs x=fzn.f x:=fun x=>by kernel_rfl
theorem dec_Div_k:fnK Tryz.f36 fzn.ins fzn.outs=true:=by kernel_rfl
theorem hzY:azc Tryz.prog tb 36 fzn:=azq mixed Tryz.func36 dec_Div_k (.cons gzV (.cons gza (.cons ez0 (.cons gzc (.cons gzb (.cons dzf .nil)))))) rfl zzd
def lzg (x:Dec×Dec):Option (Dec×Int) :=
 obnd (dzR x.snd) fun y =>
  obnd (dzR x.fst) fun y_1=>obnd (jzl (y_1,{ hi:=y.hi,lo:=y.lo,minus:=!y.minus })) fun y=>obnd (czW (y,9)) fun y=>some y
def fz9:FSpec tb:=⟨[(0,.val 30),(1,.val 30)],[(0,.val 30),(1,.val 63)],lzg⟩
theorem zzh:∀ x,evFn Tryz.prog tb [(89,czG),(92,czD),(93,bzN)] [] Tryz.f35 fz9.ins fz9.outs x=fz9.f x:=fun x=>by kernel_rfl
theorem dec_Sub_k:fnK Tryz.f35 fz9.ins fz9.outs=true:=by kernel_rfl
theorem kzi:azc Tryz.prog tb 35 fz9:=azq mixed Tryz.func35 dec_Sub_k (.cons gza (.cons iz6 (.cons dzf .nil))) rfl zzh
def szH (x:Dec):Option (Dec×Int) :=
 obnd (ezZ x.S) fun y =>
  brn (decide (IntKind.i64.wrap y=0)) none
   (obnd (ezZ x.S) fun y_1 =>
    brn (decide (IntKind.i64.wrap y_1=0)) none
     (brn (decide (x.M.tmod (IntKind.i64.wrap y_1) < 0)) (some ({ M:=IntKind.i64.wrap (IntKind.i64.wrap (x.M.tdiv (IntKind.i64.wrap y)) - 1),S:=0 },0))
      (some ({ M:=IntKind.i64.wrap (x.M.tdiv (IntKind.i64.wrap y)),S:=0 },0))))
def fz6:FSpec tb:=⟨[(0,.val 30)],[(0,.val 30),(1,.val 63)],szH⟩
theorem wz2:∀ x,evFn Tryz.prog tb [(96,czN)] [] Tryz.f151 fz6.ins fz6.outs x=fz6.f x:=fun x=>by kernel_rfl
theorem yzd:fnK Tryz.f151 fz6.ins fz6.outs=true:=by kernel_rfl
theorem szI:azc Tryz.prog tb 151 fz6:=azq mixed Tryz.func151 yzd (.cons ez0 .nil) rfl wz2
def lzf (back:Dec→Option ((Unit)×Dec)) (x:Dec):Option ((Unit)×Dec) :=
 brn (decide (0 < x.S)) (brn (decide (x.M.tmod 10=0)) (back { M:=IntKind.i64.wrap (x.M.tdiv 10),S:=IntKind.i64.wrap (x.S - 1) }) (some ((),x))) (some ((),x))
def pzb:Dec→Option ((Unit)×Dec):=iter lzf big
def fzJ:CutSpec tb:=⟨20,[(1,.ref 30)],[((.exit 0),[])],[3,4,5,6,7,8,9,10,11,12,13,14,15,16,17,18],pzb⟩
theorem uzo:∀ back x,azP Tryz.prog tb [] [] (azb 20 Tryz.f31) fzJ.ins fzJ.outs back x=lzf back x:=fun back x=>by kernel_rfl
theorem vz5:cutB Tryz.f31.ntmps fzJ (azb 20 Tryz.f31)=true:=by kernel_rfl
theorem uzp:azi ([]:List (CutSpec tb)) (azb 20 Tryz.f31)=[]:=by kernel_rfl
theorem szJ:azm Tryz.prog tb Tryz.f31.ntmps (.loop (azb 20 Tryz.f31)) fzJ:=azR mixed vz5 .nil rfl uzp .nil lzf uzo rfl
def lz8 (x:Dec):Option (Dec) :=
 obnd (pzb x) fun y=>some y.2
def gzT:FSpec tb:=⟨[(0,.val 30)],[(0,.val 30)],lz8⟩
theorem yze:∀ x,evFn Tryz.prog tb [] [fzJ] Tryz.f31 gzT.ins gzT.outs x=gzT.f x:=fun x=>by kernel_rfl
theorem zzg:fnK Tryz.f31 gzT.ins gzT.outs=true:=by kernel_rfl
theorem yzf:azi ([fzJ]:List (CutSpec tb)) (azL Tryz.f31)=[(20,.loop (azb 20 Tryz.f31))]:=by kernel_rfl
theorem uzq:azc Tryz.prog tb 31 gzT:=az8 mixed Tryz.func31 zzg .nil rfl yzf (.cons rfl szJ rfl .nil) yze
def szQ (x:Dec×Int):Option (Dec×Int) :=
 brn (decide (x.snd < -18)) (some ({ M:=0,S:=0 },1))
  (brn (decide (9 < x.snd)) (some ({ M:=0,S:=0 },1))
   (brn (decide (x.fst.S≤x.snd)) (some (x.fst,0))
    (obnd (jzk x.fst.M) fun y =>
     brn (decide (19 < IntKind.i64.wrap (x.fst.S - x.snd))) (some ({ M:=0,S:=0 },0))
      (obnd (ezZ (IntKind.i64.wrap (x.fst.S - x.snd))) fun y_1 =>
       obnd (gzH (y,y_1)) fun y =>
        brn (decide (x.snd < 0))
         (obnd (ezZ (IntKind.i64.wrap (0 - x.snd))) fun y_2=>obnd (gzI (y,y_2)) fun y=>obnd (czW (y,0)) fun y=>some y)
         (obnd (czW (y,x.snd)) fun y=>some y)))))
def fz8:FSpec tb:=⟨[(0,.val 30),(1,.val 3)],[(0,.val 30),(1,.val 63)],szQ⟩
theorem wz5:∀ x,evFn Tryz.prog tb [(94,fzK),(96,czN),(97,bzU),(95,bzV),(93,bzN)] [] Tryz.f153 fz8.ins fz8.outs x=fz8.f x:=fun x=>by kernel_rfl
theorem yzh:fnK Tryz.f153 fz8.ins fz8.outs=true:=by kernel_rfl
theorem szR:azc Tryz.prog tb 153 fz8:=azq mixed Tryz.func153 yzh (.cons gzV (.cons ez0 (.cons gzb (.cons gzc (.cons dzf .nil))))) rfl wz5
def izo (x:Int):Option (Bool) :=
 some (bif decide (x=x) then false else true)
def czK:FSpec tb:=⟨[(0,.val 21)],[(0,.val 4)],izo⟩
theorem qzo:∀ x,evFn Tryz.prog tb [] [] Tryz.f228 czK.ins czK.outs x=czK.f x:=fun x=>by kernel_rfl
theorem rzy:fnK Tryz.f228 czK.ins czK.outs=true:=by kernel_rfl
theorem nzN:azc Tryz.prog tb 228 czK:=azq mixed Tryz.func228 rzy .nil rfl qzo
def kzE (x:Int×Int):Option (Int) :=
 obnd (izo x.fst) fun y =>
  obnd (izo x.snd) fun y_1 =>
   brn y (brn y_1 (some 0) (some (-1))) (brn y_1 (some 1) (brn (decide (x.fst < x.snd)) (some (-1)) (brn (decide (x.snd < x.fst)) (some 1) (some 0))))
def czg:FSpec tb:=⟨[(0,.val 21),(1,.val 21)],[(0,.val 3)],kzE⟩
theorem ozQ:∀ x,evFn Tryz.prog tb [(228,czK)] [] Tryz.f174 czg.ins czg.outs x=czg.f x:=fun x=>by kernel_rfl
theorem oz8:fnK Tryz.f174 czg.ins czg.outs=true:=by kernel_rfl
theorem mzF:azc Tryz.prog tb 174 czg:=azq mixed Tryz.func174 oz8 (.cons nzN .nil) rfl ozQ
def rzA (x:Dec×Dec):Option (Dec×Int) :=
 obnd (jzk x.fst.M) fun y =>
  obnd (jzk x.snd.M) fun y_1 =>
   obnd (mzE (y.lo,y_1.lo)) fun y_2 =>
    brn (decide (9 < IntKind.i64.wrap (x.fst.S+x.snd.S)))
     (obnd (ezZ (IntKind.i64.wrap (IntKind.i64.wrap (x.fst.S+x.snd.S) - 9))) fun y_3 =>
      obnd (gzH ({ hi:=y_2.fst,lo:=y_2.snd,minus:=!decide (y.minus=y_1.minus) },y_3)) fun y=>obnd (czW (y,9)) fun y=>some y)
     (obnd (czW ({ hi:=y_2.fst,lo:=y_2.snd,minus:=!decide (y.minus=y_1.minus) },IntKind.i64.wrap (x.fst.S+x.snd.S))) fun y=>some y)
def gzS:FSpec tb:=⟨[(0,.val 30),(1,.val 30)],[(0,.val 30),(1,.val 63)],rzA⟩
theorem zzf:∀ x,evFn Tryz.prog tb [(94,fzK),(98,dzP),(96,czN),(97,bzU),(93,bzN)] [] Tryz.f37 gzS.ins gzS.outs x=gzS.f x:=fun x=>by kernel_rfl
theorem dec_Mul_k:fnK Tryz.f37 gzS.ins gzS.outs=true:=by kernel_rfl
theorem ozp:azc Tryz.prog tb 37 gzS:=azq mixed Tryz.func37 dec_Mul_k (.cons gzV (.cons lzd (.cons ez0 (.cons gzb (.cons dzf .nil))))) rfl zzf
end Go.Proofs.YtdgpkbnnljblmaaGreatDoor

/- U1 -/
namespace Go.Proofs
open Go.Shelf
def Tryz.lays196_ren:Go.Shelf.Ren:=⟨fun | 196=>182 | 259=>234 | n=>n,fun | 9=>9 | 4=>4 | 3=>3 | 5=>5 | 12=>12 | 119=>320 | 0=>0 | 46=>145 | 139=>323 | 138=>322 | 53=>152 | n=>n,fun | 3=>0 | 4=>1 | n=>n⟩
theorem Tryz.lays196:Go.Proofs.Lays.n196 Tryz.prog Tryz.lays196_ren where
 mixed:=by kernel_rfl
 f196:=Tryz.func182.trans (congrArg some (by kernel_rfl))
 f259:=Tryz.func234.trans (congrArg some (by kernel_rfl))
 t0:=Tryz.underlying0
 a0:=Tryz.isAgg0
 z0:=Tryz.sizeOf0
 v0:=Tryz.zeroValue0
 t3:=Tryz.underlying3
 a3:=Tryz.isAgg3
 z3:=Tryz.sizeOf3
 v3:=Tryz.zeroValue3
 t4:=Tryz.underlying4
 a4:=Tryz.isAgg4
 z4:=Tryz.sizeOf4
 v4:=Tryz.zeroValue4
 t5:=Tryz.underlying5
 a5:=Tryz.isAgg5
 z5:=Tryz.sizeOf5
 v5:=Tryz.zeroValue5
 t9:=Tryz.underlying9
 a9:=Tryz.isAgg9
 z9:=Tryz.sizeOf9
 v9:=Tryz.zeroValue9
 t12:=Tryz.underlying12
 a12:=Tryz.isAgg12
 z12:=Tryz.sizeOf12
 v12:=Tryz.zeroValue12
 t46:=Tryz.underlying145
 a46:=Tryz.isAgg145
 z46:=Tryz.sizeOf145
 v46:=Tryz.zeroValue145
 t53:=Tryz.underlying152
 a53:=Tryz.isAgg152
 z53:=Tryz.sizeOf152
 v53:=Tryz.zeroValue152
 t119:=Tryz.underlying320
 a119:=Tryz.isAgg320
 z119:=Tryz.sizeOf320
 t138:=Tryz.underlying322
 a138:=Tryz.isAgg322
 z138:=Tryz.sizeOf322
 v138:=Tryz.zeroValue322
 t139:=Tryz.underlying323
 a139:=Tryz.isAgg323
 z139:=Tryz.sizeOf323
 v139:=Tryz.zeroValue323
 g3:=by kernel_rfl
 g4:=by kernel_rfl
end Go.Proofs
namespace Go.Proofs.YtdgpkbnnljblmaaGreatDoor
open Go Go.Ev Go.RowKit
def kzH (x:List UInt8):Option Bool:=some (Lib.validD x)
def kzI:FSpec tb:=⟨[(0,.val 9)],[(0,.val 4)],kzH⟩
set_option maxRecDepth 100000 in
theorem mzX:azc Tryz.prog tb 182 kzI:=by
 refine qzc (enters_of (c:=azL Tryz.f182) Tryz.func182 (by kernel_rfl) (by kernel_rfl)) rfl fun g w (x:List UInt8) vs bs (y:Bool) hy hinv hh=>?_
 obtain ⟨v0,vs,b0,bs,rfl,rfl⟩:=azQ hh;have h0:=hh;obtain ⟨rfl,rfl⟩:vs=[]∧bs=[]:=by
  cases vs<;>cases bs<;>first | exact ⟨rfl,rfl⟩ | exact h0.elim
 obtain ⟨e0,r0⟩:=nz2 lza (kz6 _) h0.1;subst e0;have hy:=Option.some.inj (show some (Lib.validD x)=some y from hy);subst hy;refine ⟨_,[.bool (Lib.validD x)],rfl,fun g w=>⟨vzc notAgg4 (enc4_eq _),rfl⟩,?_⟩;refine (Any.utf8_ValidString Tryz.lays196 ⟨x.toArray⟩ w (by simp [ByteArray.size];unfold azY at r0;omega) hinv.2.2.1).mono ?_;rintro e w' ⟨rfl,hb⟩;exact ⟨rfl,mzR hb⟩
end Go.Proofs.YtdgpkbnnljblmaaGreatDoor

/- V1 -/
namespace Go.Proofs.YtdgpkbnnljblmaaGreatDoor
open Go Go.Ev
set_option linter.unusedVariables false
def gzD (x:Int):Option (Val) :=
 obnd (czy x) fun y=>some { Kind:=1,N:=y,S:=[],B:=false,E:=0 }
def gzE:FSpec tb:=⟨[(0,.val 2)],[(0,.val 32)],gzD⟩
theorem law9_N_eq:∀ x,evFn Tryz.prog tb [(33,czM)] [] Tryz.f26 gzE.ins gzE.outs x=gzE.f x:=fun x=>by kernel_rfl
theorem law9_N_k:fnK Tryz.f26 gzE.ins gzE.outs=true:=by kernel_rfl
theorem izG:azc Tryz.prog tb 26 gzE:=azq mixed Tryz.func26 law9_N_k (.cons czV .nil) rfl law9_N_eq
def azj (x:Int):Option (Val) :=
 some { Kind:=4,N:={ M:=0,S:=0 },S:=[],B:=false,E:=x }
def azK:FSpec tb:=⟨[(0,.val 3)],[(0,.val 32)],azj⟩
theorem xz1:∀ x,evFn Tryz.prog tb [] [] Tryz.f32 azK.ins azK.outs x=azK.f x:=fun x=>by kernel_rfl
theorem yz4:fnK Tryz.f32 azK.ins azK.outs=true:=by kernel_rfl
theorem azA:azc Tryz.prog tb 32 azK:=azq mixed Tryz.func32 yz4 .nil rfl xz1
def bzR (x:Val):Option (Dec×Val×Bool) :=
 brn (decide (x.Kind=1)) (some (x.N,{ Kind:=0,N:={ M:=0,S:=0 },S:=[],B:=false,E:=0 },true))
  (brn (decide (x.Kind=2))
   (obnd (szK x.S) fun y =>
    brn (decide (y.snd=0)) (some (y.fst,{ Kind:=0,N:={ M:=0,S:=0 },S:=[],B:=false,E:=0 },true))
     (obnd (azj 15) fun y=>some ({ M:=0,S:=0 },y,false)))
   (brn (decide (x.Kind=3))
    (brn x.B (obnd (czy 1) fun y=>some (y,{ Kind:=0,N:={ M:=0,S:=0 },S:=[],B:=false,E:=0 },true))
     (some ({ M:=0,S:=0 },{ Kind:=0,N:={ M:=0,S:=0 },S:=[],B:=false,E:=0 },true)))
    (brn (decide (x.Kind=4)) (some ({ M:=0,S:=0 },x,false)) (some ({ M:=0,S:=0 },{ Kind:=0,N:={ M:=0,S:=0 },S:=[],B:=false,E:=0 },true)))))
def bzG:FSpec tb:=⟨[(0,.val 32)],[(0,.val 30),(1,.val 32),(2,.val 4)],bzR⟩
theorem wzP:∀ x,evFn Tryz.prog tb [(176,fz7),(32,azK),(33,czM)] [] Tryz.f85 bzG.ins bzG.outs x=bzG.f x:=fun x=>by kernel_rfl
theorem xz2:fnK Tryz.f85 bzG.ins bzG.outs=true:=by kernel_rfl
theorem bz5:azc Tryz.prog tb 85 bzG:=azq mixed Tryz.func85 xz2 (.cons szP (.cons azA (.cons czV .nil))) rfl wzP
def gzw (x:Val):Option (Bool×Val×Bool) :=
 brn (decide (x.Kind=1)) (some (!decide (x.N.M=0),{ Kind:=0,N:={ M:=0,S:=0 },S:=[],B:=false,E:=0 },true))
  (brn (decide (x.Kind=2))
   (brn (!decide (x.S=[84,82,85,69]))
    (brn (!decide (x.S=U8s [70,65,76,83,69])) (obnd (azj 15) fun y=>some (false,y,false))
     (some (decide (x.S=[84,82,85,69]),{ Kind:=0,N:={ M:=0,S:=0 },S:=[],B:=false,E:=0 },true)))
    (some (decide (x.S=[84,82,85,69]),{ Kind:=0,N:={ M:=0,S:=0 },S:=[],B:=false,E:=0 },true)))
   (brn (decide (x.Kind=3)) (some (x.B,{ Kind:=0,N:={ M:=0,S:=0 },S:=[],B:=false,E:=0 },true))
    (brn (decide (x.Kind=4)) (some (false,x,false)) (some (false,{ Kind:=0,N:={ M:=0,S:=0 },S:=[],B:=false,E:=0 },true)))))
def dzO:FSpec tb:=⟨[(0,.val 32)],[(0,.val 4),(1,.val 32),(2,.val 4)],gzw⟩
theorem xz3:∀ x,evFn Tryz.prog tb [(32,azK)] [] Tryz.f65 dzO.ins dzO.outs x=dzO.f x:=fun x=>by kernel_rfl
theorem yz6:fnK Tryz.f65 dzO.ins dzO.outs=true:=by kernel_rfl
theorem izW:azc Tryz.prog tb 65 dzO:=azq mixed Tryz.func65 yz6 (.cons azA .nil) rfl xz3
def vzU (x:Int):Option (List UInt8) :=
 brn (decide (x=0)) (some (U8s [35,78,85,76,76,33]))
  (brn (decide (x=7)) (some (U8s [35,68,73,86,47,48,33]))
   (brn (decide (x=15)) (some (U8s [35,86,65,76,85,69,33]))
    (brn (decide (x=23)) (some (U8s [35,82,69,70,33]))
     (brn (decide (x=29)) (some (U8s [35,78,65,77,69,63]))
      (brn (decide (x=36)) (some (U8s [35,78,85,77,33])) (brn (decide (x=42)) (some [35,78,47,65]) (some [])))))))
def hzo:FSpec tb:=⟨[(0,.val 3)],[(0,.val 9)],vzU⟩
theorem yz8:∀ x,evFn Tryz.prog tb [] [] Tryz.f102 hzo.ins hzo.outs x=hzo.f x:=fun x=>by kernel_rfl
theorem zz7:fnK Tryz.f102 hzo.ins hzo.outs=true:=by kernel_rfl
theorem vzq:azc Tryz.prog tb 102 hzo:=azq mixed Tryz.func102 zz7 .nil rfl yz8
def mzz (x:Val):Option (List UInt8) :=
 brn (decide (x.Kind=1)) (obnd (vzy x.N) fun y=>some y)
  (brn (decide (x.Kind=2)) (some x.3)
   (brn (decide (x.Kind=3)) (brn x.B (some [84,82,85,69]) (some (U8s [70,65,76,83,69]))) (brn (decide (x.Kind=4)) (obnd (vzU x.E) fun y=>some y) (some []))))
def fz5:FSpec tb:=⟨[(0,.val 32)],[(0,.val 9)],mzz⟩
theorem yz5:∀ x,evFn Tryz.prog tb [(175,gzU),(102,hzo)] [] Tryz.f84 fz5.ins fz5.outs x=fz5.f x:=fun x=>by kernel_rfl
theorem zz6:fnK Tryz.f84 fz5.ins fz5.outs=true:=by kernel_rfl
theorem nzD:azc Tryz.prog tb 84 fz5:=azq mixed Tryz.func84 zz6 (.cons uzt (.cons vzq .nil)) rfl yz5
def izX (x:Val):Option (List UInt8×Val×Bool) :=
 brn (decide (x.Kind=4)) (some ([],x,false)) (obnd (mzz x) fun y=>some (y,{ Kind:=0,N:={ M:=0,S:=0 },S:=[],B:=false,E:=0 },true))
def fzj:FSpec tb:=⟨[(0,.val 32)],[(0,.val 9),(1,.val 32),(2,.val 4)],izX⟩
theorem xz4:∀ x,evFn Tryz.prog tb [(84,fz5)] [] Tryz.f142 fzj.ins fzj.outs x=fzj.f x:=fun x=>by kernel_rfl
theorem yz7:fnK Tryz.f142 fzj.ins fzj.outs=true:=by kernel_rfl
theorem mzA:azc Tryz.prog tb 142 fzj:=azq mixed Tryz.func142 yz7 (.cons nzD .nil) rfl xz4
def kzA (back:List (Int)×((List UInt8×Nat))→Option ((List (Int))×((List UInt8×Nat)))) (x:List (Int)×((List UInt8×Nat))):Option ((List (Int))×((List UInt8×Nat))) :=
 brn (decide (x.snd.snd < x.snd.fst.length))
  (brn (decide ((↑(rune x.snd.fst x.snd.snd).fst:Int) < 65536))
   (obnd (app 8 x.fst [IntKind.i64.wrap (↑(rune x.snd.fst x.snd.snd).fst:Int)]) fun zs=>back (zs,x.snd.fst,x.snd.snd+(rune x.snd.fst x.snd.snd).snd))
   (obnd
    (app 8 x.fst
     [IntKind.i64.wrap (55296+IntKind.i64.wrap ((IntKind.i32.wrap ((↑(rune x.snd.fst x.snd.snd).fst:Int) - 65536)).fdiv 1024)),
      IntKind.i64.wrap (56320+IntKind.i64.wrap (azN BinOp.and IntKind.i32 (IntKind.i32.wrap ((↑(rune x.snd.fst x.snd.snd).fst:Int) - 65536)) 1023))])
    fun zs=>back (zs,x.snd.fst,x.snd.snd+(rune x.snd.fst x.snd.snd).snd)))
  (some x)
def ozL:List (Int)×((List UInt8×Nat))→Option ((List (Int))×((List UInt8×Nat))):=iter kzA big
def ezU:CutSpec tb:=⟨36,[(3,.own 3),(7,.iter)],[((.exit 0),[(3,.own 3)])],[8,9,10,5,11,12,13,14,15,16,17,3,18,19,20,21,22,23,24,25,26,27,28,29,30],ozL⟩
set_option maxRecDepth 100000 in
theorem tz7:∀ back x,azP Tryz.prog tb [] [] (azb 36 Tryz.f183) ezU.ins ezU.outs back x=kzA back x:=fun back x=>by kernel_rfl
theorem vzm:cutB Tryz.f183.ntmps ezU (azb 36 Tryz.f183)=true:=by kernel_rfl
theorem tz8:azi ([]:List (CutSpec tb)) (azb 36 Tryz.f183)=[]:=by kernel_rfl
theorem szq:azm Tryz.prog tb Tryz.f183.ntmps (.loop (azb 36 Tryz.f183)) ezU:=azR mixed vzm .nil rfl tz8 .nil kzA tz7 rfl
def tz6 (x:List UInt8):Option (List (Int)) :=
 obnd (ozL ([],x,0)) fun y=>some y.1
def gzv:FSpec tb:=⟨[(0,.val 9)],[(0,.own 3)],tz6⟩
theorem xzX:∀ x,evFn Tryz.prog tb [] [ezU] Tryz.f183 gzv.ins gzv.outs x=gzv.f x:=fun x=>by kernel_rfl
theorem yz3:fnK Tryz.f183 gzv.ins gzv.outs=true:=by kernel_rfl
theorem xzY:azi ([ezU]:List (CutSpec tb)) (azL Tryz.f183)=[(36,.loop (azb 36 Tryz.f183))]:=by kernel_rfl
theorem tz9:azc Tryz.prog tb 183 gzv:=az8 mixed Tryz.func183 yz3 .nil rfl xzY (.cons rfl szq rfl .nil) xzX
def kz4 (x:List UInt8):Option (Int×Int) :=
 obnd (kzH x) fun y =>
  brn (!y) (some (0,2)) (obnd (tz6 x) fun y=>brn (decide (1000 < (↑(List.length y):Int))) (some (0,4)) (some ((↑(List.length y):Int),0)))
def fzg:FSpec tb:=⟨[(0,.val 9)],[(0,.val 3),(1,.val 63)],kz4⟩
theorem xzW:∀ x,evFn Tryz.prog tb [(182,kzI),(183,gzv)] [] Tryz.f101 fzg.ins fzg.outs x=fzg.f x:=fun x=>by kernel_rfl
theorem yz2:fnK Tryz.f101 fzg.ins fzg.outs=true:=by kernel_rfl
theorem mzw:azc Tryz.prog tb 101 fzg:=azq mixed Tryz.func101 yz2 (.cons mzX (.cons tz9 .nil)) rfl xzW
abbrev ozj:List (Nat×FSpec tb):=[(174,czg),(80,bzs)]
theorem ozN:azy Tryz.prog tb ozj:=(.cons mzF (.cons dzl .nil))
def kzD (back:List Int×Int×((List UInt8×Nat))→Option (((Int)×((List UInt8×Nat)))⊕((Int)×((List UInt8×Nat))))) (x:List Int×Int×((List UInt8×Nat))):Option (((Int)×((List UInt8×Nat)))⊕((Int)×((List UInt8×Nat)))) :=
 brn (decide (x.2.snd.snd < x.2.snd.fst.length))
  (brn (decide (x.2.fst=(↑x.fst.length:Int))) (some (Sum.inr (1,x.2.snd.fst,x.2.snd.snd+(rune x.2.snd.fst x.2.snd.snd).snd)))
   (obnd (idx x.fst x.2.fst) fun y =>
    brn (!decide ((↑(rune x.2.snd.fst x.2.snd.snd).fst:Int)=y))
     (obnd (idx x.fst x.2.fst) fun y =>
      obnd (kzE ((↑(rune x.2.snd.fst x.2.snd.snd).fst:Int),y)) fun y=>some (Sum.inr (y,x.2.snd.fst,x.2.snd.snd+(rune x.2.snd.fst x.2.snd.snd).snd)))
     (back (x.fst,IntKind.i64.wrap (x.2.fst+1),x.2.snd.fst,x.2.snd.snd+(rune x.2.snd.fst x.2.snd.snd).snd))))
  (some (Sum.inl x.2))
def ozO:List Int×Int×((List UInt8×Nat))→Option (((Int)×((List UInt8×Nat)))⊕((Int)×((List UInt8×Nat)))):=iter kzD big
def ezV:CutSpec tb:=⟨44,[(5,.val 45),(6,.val 3),(12,.iter)],[((.exit 0),[(6,.val 3)]),(.ret,[(4,.val 3)])],[13,14,15,8,16,17,18,19,4,20,21,22,23,24,25,26,27,28,29,30,31,32,33,6],ozO⟩
theorem uzd:∀ back x,azP Tryz.prog tb ozj [] (azb 44 Tryz.f81) ezV.ins ezV.outs back x=kzD back x:=fun back x=>by kernel_rfl
theorem vzr:cutB Tryz.f81.ntmps ezV (azb 44 Tryz.f81)=true:=by kernel_rfl
theorem uze:azi ([]:List (CutSpec tb)) (azb 44 Tryz.f81)=[]:=by kernel_rfl
theorem szu:azm Tryz.prog tb Tryz.f81.ntmps (.loop (azb 44 Tryz.f81)) ezV:=azR mixed vzr ozN rfl uze .nil kzD uzd rfl
def uzc (x:List UInt8×List UInt8):Option (Int) :=
 obnd (bif x.snd.length.ble 70368744177664 then some (ez9 x.snd x.snd.length 0) else none) fun rs =>
  obnd (ozO (rs,0,x.fst,0)) fun y=>osum y (fun y=>obnd (azO (y.1,(↑rs.length:Int))) fun y=>some y) fun y=>some y.1
def gzx:FSpec tb:=⟨[(0,.val 9),(1,.val 9)],[(0,.val 3)],uzc⟩
theorem xz6:∀ x,evFn Tryz.prog tb ozj [ezV] Tryz.f81 gzx.ins gzx.outs x=gzx.f x:=fun x=>by kernel_rfl
theorem yz9:fnK Tryz.f81 gzx.ins gzx.outs=true:=by kernel_rfl
theorem xz7:azi ([ezV]:List (CutSpec tb)) (azL Tryz.f81)=[(44,.loop (azb 44 Tryz.f81))]:=by kernel_rfl
theorem uzf:azc Tryz.prog tb 81 gzx:=az8 mixed Tryz.func81 yz9 ozN rfl xz7 (.cons rfl szu rfl .nil) xz6
def mzY (x:Bool):Option (Int) :=
 brn x (some 1) (some 0)
def fzC:FSpec tb:=⟨[(0,.val 4)],[(0,.val 3)],mzY⟩
theorem wzQ:∀ x,evFn Tryz.prog tb [] [] Tryz.f82 fzC.ins fzC.outs x=fzC.f x:=fun x=>by kernel_rfl
theorem xz5:fnK Tryz.f82 fzC.ins fzC.outs=true:=by kernel_rfl
theorem szt:azc Tryz.prog tb 82 fzC:=azq mixed Tryz.func82 xz5 .nil rfl wzQ
abbrev izU:List (Nat×FSpec tb):=[(80,bzs),(34,czo),(81,gzx),(82,fzC)]
theorem izV:azy Tryz.prog tb izU:=(.cons dzl (.cons fzD (.cons uzf (.cons szt .nil))))
def mzy (x:Val×Val):Option (Bool) :=
 brn (decide (x.fst.Kind=0)) (some (bif decide (x.snd.Kind=4) then false else true)) (some false)
def czR:CutSpec tb:=⟨16,[(2,.ro 32),(3,.ro 32)],[(.normal,[(12,.val 4)])],[5,6,7,8,9,10,11,12],mzy⟩
theorem qzT:∀ x,gzf Tryz.prog tb izU [] (azx 16 Tryz.f27) czR.ins czR.outs x=czR.J x:=fun x=>by kernel_rfl
theorem szr:cutB Tryz.f27.ntmps czR (azx 16 Tryz.f27)=true:=by kernel_rfl
theorem qzU:azi ([]:List (CutSpec tb)) (azx 16 Tryz.f27)=[]:=by kernel_rfl
theorem pz0:azm Tryz.prog tb Tryz.f27.ntmps (azx 16 Tryz.f27) czR:=gzy mixed szr izV rfl qzU .nil qzT
def czT (x:Val×Val×Int):Option ((Unit)⊕(Int)) :=
 brn (decide (x.2.snd=1)) (obnd (gzR (x.fst.N,x.2.fst.N)) fun y=>some (Sum.inr y))
  (brn (decide (x.2.snd=2)) (obnd (uzc (x.fst.S,x.2.fst.S)) fun y=>some (Sum.inr y))
   (brn (decide (x.2.snd=3)) (obnd (mzY x.fst.B) fun y=>obnd (mzY x.2.fst.B) fun y_1=>obnd (azO (y,y_1)) fun y=>some (Sum.inr y))
    (brn (decide (x.2.snd=4)) (obnd (azO (x.fst.E,x.2.fst.E)) fun y=>some (Sum.inr y)) (some (Sum.inl PUnit.unit)))))
def czS:CutSpec tb:=⟨75,[(2,.ro 32),(3,.ro 32),(38,.val 3)],[(.normal,[]),(.ret,[(4,.val 3)])],[40,39,41,42,43,44,45,4,47,46,48,49,50,51,52,54,53,55,56,57,58,59,60,61,63,62,64,65,66,67,68],czT⟩
theorem qzV:∀ x,gzf Tryz.prog tb izU [] (azx 75 Tryz.f27) czS.ins czS.outs x=czS.J x:=fun x=>by kernel_rfl
theorem szs:cutB Tryz.f27.ntmps czS (azx 75 Tryz.f27)=true:=by kernel_rfl
theorem qzW:azi ([]:List (CutSpec tb)) (azx 75 Tryz.f27)=[]:=by kernel_rfl
theorem pz1:azm Tryz.prog tb Tryz.f27.ntmps (azx 75 Tryz.f27) czS:=gzy mixed szs izV rfl qzW .nil qzV
def pzZ (x:Val×Val):Option (Int) :=
 obnd (mzy x) fun y =>
  brn y
   (brn (decide (x.snd.Kind=0))
    (brn (!decide (x.snd.Kind=4))
     (brn (!decide (x.snd.Kind=x.snd.Kind)) (obnd (azO (x.snd.Kind,x.snd.Kind)) fun y=>some y)
      (obnd
       (czT
        ({ Kind:=x.snd.Kind,N:={ M:=0,S:=0 },S:=[],B:=false,E:=0 },{ Kind:=x.snd.Kind,N:={ M:=0,S:=0 },S:=[],B:=false,E:=0 },
         x.snd.Kind))
       fun y=>osum y (fun y=>some 0) fun y=>some y))
     (brn (!decide (x.snd.Kind=x.snd.Kind)) (obnd (azO (x.snd.Kind,x.snd.Kind)) fun y=>some y)
      (obnd (czT ({ Kind:=x.snd.Kind,N:={ M:=0,S:=0 },S:=[],B:=false,E:=0 },x.snd,x.snd.Kind)) fun y =>
       osum y (fun y=>some 0) fun y=>some y)))
    (brn (!decide (x.snd.Kind=x.snd.Kind)) (obnd (azO (x.snd.Kind,x.snd.Kind)) fun y=>some y)
     (obnd (czT ({ Kind:=x.snd.Kind,N:={ M:=0,S:=0 },S:=[],B:=false,E:=0 },x.snd,x.snd.Kind)) fun y =>
      osum y (fun y=>some 0) fun y=>some y)))
   (brn (decide (x.snd.Kind=0))
    (brn (!decide (x.fst.Kind=4))
     (brn (!decide (x.fst.Kind=x.fst.Kind)) (obnd (azO (x.fst.Kind,x.fst.Kind)) fun y=>some y)
      (obnd (czT (x.fst,{ Kind:=x.fst.Kind,N:={ M:=0,S:=0 },S:=[],B:=false,E:=0 },x.fst.Kind)) fun y =>
       osum y (fun y=>some 0) fun y=>some y))
     (brn (!decide (x.fst.Kind=x.snd.Kind)) (obnd (azO (x.fst.Kind,x.snd.Kind)) fun y=>some y)
      (obnd (czT (x.fst,x.snd,x.fst.Kind)) fun y=>osum y (fun y=>some 0) fun y=>some y)))
    (brn (!decide (x.fst.Kind=x.snd.Kind)) (obnd (azO (x.fst.Kind,x.snd.Kind)) fun y=>some y)
     (obnd (czT (x.fst,x.snd,x.fst.Kind)) fun y=>osum y (fun y=>some 0) fun y=>some y)))
def ezA:FSpec tb:=⟨[(0,.val 32),(1,.val 32)],[(0,.val 3)],pzZ⟩
theorem vzo:∀ x,evFn Tryz.prog tb izU [czR,czS] Tryz.f27 ezA.ins ezA.outs x=ezA.f x:=fun x=>by kernel_rfl
theorem wzO:fnK Tryz.f27 ezA.ins ezA.outs=true:=by kernel_rfl
theorem vzp:azi ([czR,czS]:List (CutSpec tb)) (azL Tryz.f27)=[(16,azx 16 Tryz.f27),(75,azx 75 Tryz.f27)]:=by kernel_rfl
theorem qzX:azc Tryz.prog tb 27 ezA:=az8 mixed Tryz.func27 wzO izV rfl vzp (.cons rfl pz0 rfl (.cons rfl pz1 rfl .nil)) vzo
end Go.Proofs.YtdgpkbnnljblmaaGreatDoor

/- W2 -/
namespace Go.Proofs.YtdgpkbnnljblmaaGreatDoor
open Go Go.Ev Go.Proofs
theorem bldX:Builder.Extra Tryz.prog Tryz.lays105_ren where
 sizeBuilder:=by kernel_rfl
 liesBuilder:=by kernel_rfl
 t5:=Tryz.underlying5
 a5:=Tryz.isAgg5
 z5:=Tryz.sizeOf5
 v5:=Tryz.zeroValue5
 infoByte:=by kernel_rfl
 cellsByte:=by kernel_rfl
 sizeByte:=by kernel_rfl
 neB5:=by decide
def jzf (x:List UInt8×Unit):Option (List UInt8×Unit):=some (x.1,())
def jzg:FSpec tb:=⟨[(8589934592,.own 5),(0,.box 229638146)],[(8589967360,.own 5)],jzf⟩
theorem iz4:bzp Tryz.prog tb 218 jzg:=szG (ρ:=Tryz.lays105_ren) (tu:=5) { Tryz.lays105 with } bldX.toX72
def hzP (x:List UInt8×Unit):Option (List UInt8×Unit):=some (x.1,())
def jzN:FSpec tb:=⟨[(8589934592,.own 5),(0,.box 229638146)],[(0,.val 9)],hzP⟩
theorem bldStr:IsStr tb 5 9 (fun (xs:List UInt8)=>(xs:List UInt8)):=fun (xs:List UInt8)=>⟨xs,kz6 xs,rfl,fun _ x h=>⟨x,h,enc5_eq x⟩⟩
theorem hz4:bzp Tryz.prog tb 144 jzN :=
 xzZ (tb:=tb) (ρ:=Tryz.lays105_ren) (f:=fun (xs:List UInt8)=>(xs:List UInt8)) { Tryz.lays105 with } bldX bldStr lza
end Go.Proofs.YtdgpkbnnljblmaaGreatDoor

/- B1 -/
namespace Go.Proofs.YtdgpkbnnljblmaaGreatDoor
open Go Go.Ev
set_option linter.unusedVariables false
def fzZ (x:List (UInt8)×Unit×List UInt8):Option ((List (UInt8)×Int×Unit)×Unit) :=
 obnd (jzf (x.fst,())) fun y=>obnd (app 1 y.1 x.2.snd) fun zs=>some ((zs,(↑x.2.snd.length:Int),()),())
def az3:FSpec tb:=⟨[(8589934592,.own 5),(0,.box 229638146),(1,.val 9)],[(8589967360,.own 5),(0,.val 3),(1,.val 222)],fzZ⟩
theorem izP:∀ x,evFn Tryz.prog tb [(218,jzg)] [] Tryz.f143 az3.ins az3.outs x=az3.f x:=fun x=>by kernel_rfl
theorem iz0:fnK Tryz.f143 az3.ins az3.outs=true:=by kernel_rfl
theorem hzX:azc Tryz.prog tb 143 az3:=azq mixed Tryz.func143 iz0 (.consK iz4 .nil) rfl izP
def fz4 (x:Int×Bool):Option (Bool) :=
 brn x.snd (some x.2) (brn (decide (57343 < x.fst)) (some (decide (x.fst≤65535))) (some false))
def az7:CutSpec tb:=⟨58,[(5,.val 340),(25,.val 4)],[(.normal,[(25,.val 4)])],[28,29,30,31,32,33,25],fz4⟩
theorem iz1:∀ x,gzf Tryz.prog tb [] [] (azx 58 Tryz.f270) az7.ins az7.outs x=az7.J x:=fun x=>by kernel_rfl
theorem jzL:cutB Tryz.f270.ntmps az7 (azx 58 Tryz.f270)=true:=by kernel_rfl
theorem iz2:azi ([]:List (CutSpec tb)) (azx 58 Tryz.f270)=[]:=by kernel_rfl
theorem izS:azm Tryz.prog tb Tryz.f270.ntmps (azx 58 Tryz.f270) az7:=gzy mixed jzL .nil rfl iz2 .nil iz1
def hzn (x:List (UInt8)×Int):Option (List (UInt8)) :=
 brn (decide (IntKind.u32.wrap x.snd≤2047))
  (obnd
   (app 1 x.fst
    [UInt8.ofNat (azN BinOp.or IntKind.u8 192 (IntKind.u8.wrap (x.snd.fdiv 64))).toNat,
     UInt8.ofNat (azN BinOp.or IntKind.u8 128 (azN BinOp.and IntKind.u8 (IntKind.u8.wrap x.snd) 63)).toNat])
   fun zs=>some zs)
  (obnd (fz4 (IntKind.u32.wrap x.snd,decide (IntKind.u32.wrap x.snd < 55296))) fun y =>
   brn y
    (obnd
     (app 1 x.fst
      [UInt8.ofNat (azN BinOp.or IntKind.u8 224 (IntKind.u8.wrap (x.snd.fdiv 4096))).toNat,
       UInt8.ofNat (azN BinOp.or IntKind.u8 128 (azN BinOp.and IntKind.u8 (IntKind.u8.wrap (x.snd.fdiv 64)) 63)).toNat,
       UInt8.ofNat (azN BinOp.or IntKind.u8 128 (azN BinOp.and IntKind.u8 (IntKind.u8.wrap x.snd) 63)).toNat])
     fun zs=>some zs)
    (brn (decide (65535 < IntKind.u32.wrap x.snd))
     (brn (decide (IntKind.u32.wrap x.snd≤1114111))
      (obnd
       (app 1 x.fst
        [UInt8.ofNat (azN BinOp.or IntKind.u8 240 (IntKind.u8.wrap (x.snd.fdiv 262144))).toNat,
         UInt8.ofNat (azN BinOp.or IntKind.u8 128 (azN BinOp.and IntKind.u8 (IntKind.u8.wrap (x.snd.fdiv 4096)) 63)).toNat,
         UInt8.ofNat (azN BinOp.or IntKind.u8 128 (azN BinOp.and IntKind.u8 (IntKind.u8.wrap (x.snd.fdiv 64)) 63)).toNat,
         UInt8.ofNat (azN BinOp.or IntKind.u8 128 (azN BinOp.and IntKind.u8 (IntKind.u8.wrap x.snd) 63)).toNat])
       fun zs=>some zs)
      (obnd (app 1 x.fst [UInt8.ofNat 239,UInt8.ofNat 191,UInt8.ofNat 189]) fun zs=>some zs))
     (obnd (app 1 x.fst [UInt8.ofNat 239,UInt8.ofNat 191,UInt8.ofNat 189]) fun zs=>some zs)))
def bzf:FSpec tb:=⟨[(0,.own 5),(1,.val 21)],[(0,.own 5)],hzn⟩
theorem kzB:∀ x,evFn Tryz.prog tb [] [az7] Tryz.f270 bzf.ins bzf.outs x=bzf.f x:=fun x=>by kernel_rfl
theorem kz5:fnK Tryz.f270 bzf.ins bzf.outs=true:=by kernel_rfl
theorem kzC:azi ([az7]:List (CutSpec tb)) (azL Tryz.f270)=[(58,azx 58 Tryz.f270)]:=by kernel_rfl
theorem iz3:azc Tryz.prog tb 270 bzf:=az8 mixed Tryz.func270 kz5 .nil rfl kzC (.cons rfl izS rfl .nil) kzB
def lzU (x:List (UInt8)×Int):Option (List (UInt8)) :=
 brn (decide (IntKind.u32.wrap x.snd≤127)) (obnd (app 1 x.fst [UInt8.ofNat (IntKind.u8.wrap x.snd).toNat]) fun zs=>some zs) (obnd (hzn x) fun y=>some y)
def czA:FSpec tb:=⟨[(0,.own 5),(1,.val 21)],[(0,.own 5)],lzU⟩
theorem pzY:∀ x,evFn Tryz.prog tb [(270,bzf)] [] Tryz.f252 czA.ins czA.outs x=czA.f x:=fun x=>by kernel_rfl
theorem qzS:fnK Tryz.f252 czA.ins czA.outs=true:=by kernel_rfl
theorem nzC:azc Tryz.prog tb 252 czA:=azq mixed Tryz.func252 qzS (.cons iz3 .nil) rfl pzY
def azr (x:List (UInt8)×Unit×Int):Option ((List (UInt8)×Int×Unit)×Unit) :=
 obnd (jzf (x.fst,())) fun y =>
  obnd (lzU (y.1,x.2.snd)) fun y_1=>some ((y_1,IntKind.i64.wrap ((↑(List.length y_1):Int) - (↑(List.length y.1):Int)),()),())
def azZ:FSpec tb:=⟨[(8589934592,.own 5),(0,.box 229638146),(1,.val 21)],[(8589967360,.own 5),(0,.val 3),(1,.val 222)],azr⟩
theorem jzK:∀ x,evFn Tryz.prog tb [(218,jzg),(252,czA)] [] Tryz.f220 azZ.ins azZ.outs x=azZ.f x:=fun x=>by kernel_rfl
theorem kzd:fnK Tryz.f220 azZ.ins azZ.outs=true:=by kernel_rfl
theorem ezF:azc Tryz.prog tb 220 azZ:=azq mixed Tryz.func220 kzd (.consK iz4 (.cons nzC .nil)) rfl jzK
end Go.Proofs.YtdgpkbnnljblmaaGreatDoor

/- G1 -/
namespace Go.Proofs.YtdgpkbnnljblmaaGreatDoor
open Go Go.Ev
set_option linter.unusedVariables false
def rzX (x:Unit):Option (List (Function)) :=
 some
  [{ name:=[83,85,77],lo:=0,hi:=9223372036854775807 },{ name:=[77,73,78],lo:=0,hi:=9223372036854775807 },
   { name:=[77,65,88],lo:=0,hi:=9223372036854775807 },{ name:=U8s [67,79,85,78,84],lo:=0,hi:=9223372036854775807 },
   { name:=U8s [65,86,69,82,65,71,69],lo:=0,hi:=9223372036854775807 },{ name:=[65,66,83],lo:=1,hi:=1 },{ name:=[83,73,71,78],lo:=1,hi:=1 },
   { name:=[73,78,84],lo:=1,hi:=1 },{ name:=[77,79,68],lo:=2,hi:=2 },{ name:=U8s [82,79,85,78,68],lo:=2,hi:=2 },
   { name:=[73,70],lo:=2,hi:=3 },{ name:=[65,78,68],lo:=0,hi:=9223372036854775807 },{ name:=[79,82],lo:=0,hi:=9223372036854775807 },
   { name:=[78,79,84],lo:=1,hi:=1 },{ name:=[76,69,78],lo:=1,hi:=1 },{ name:=[76,69,70,84],lo:=1,hi:=2 },
   { name:=U8s [82,73,71,72,84],lo:=1,hi:=2 },{ name:=[77,73,68],lo:=3,hi:=3 },
   { name:=U8s [67,79,78,67,65,84],lo:=0,hi:=9223372036854775807 },{ name:=U8s [85,80,80,69,82],lo:=1,hi:=1 },
   { name:=U8s [76,79,87,69,82],lo:=1,hi:=1 },{ name:=U8s [73,83,66,76,65,78,75],lo:=1,hi:=1 },
   { name:=U8s [73,83,69,82,82,79,82],lo:=1,hi:=1 },{ name:=U8s [73,70,69,82,82,79,82],lo:=2,hi:=2 },
   { name:=U8s [73,78,68,69,88],lo:=2,hi:=2 },{ name:=U8s [67,72,79,79,83,69],lo:=2,hi:=9223372036854775807 },
   { name:=U8s [69,88,65,67,84],lo:=2,hi:=2 },{ name:=[82,69,80,84],lo:=2,hi:=2 },{ name:=[78,65],lo:=0,hi:=0 },
   { name:=[84,89,80,69],lo:=1,hi:=1 }]
def gz5:FSpec tb:=⟨[],[(0,.own 130)],rzX⟩
theorem zzG:∀ x,evFn Tryz.prog tb [] [] Tryz.f59 gz5.ins gz5.outs x=gz5.f x:=fun x=>by kernel_rfl
theorem fun_all_k:fnK Tryz.f59 gz5.ins gz5.outs=true:=by kernel_rfl
theorem ozx:azc Tryz.prog tb 59 gz5:=azq mixed Tryz.func59 fun_all_k .nil rfl zzG
def vzC (x:Int):Option (List UInt8×Bool) :=
 obnd (rzX ()) fun y=>brn (decide (x < 0)) (some ([],false)) (brn (decide ((↑(List.length y):Int)≤x)) (some ([],false)) (obnd (idx y x) fun y=>some (y.name,true)))
def gz3:FSpec tb:=⟨[(0,.val 3)],[(0,.val 9),(1,.val 4)],vzC⟩
theorem yzD:∀ x,evFn Tryz.prog tb [(59,gz5)] [] Tryz.f23 gz3.ins gz3.outs x=gz3.f x:=fun x=>by kernel_rfl
theorem zzE:fnK Tryz.f23 gz3.ins gz3.outs=true:=by kernel_rfl
theorem uzL:azc Tryz.prog tb 23 gz3:=azq mixed Tryz.func23 zzE (.cons ozx .nil) rfl yzD
def czi (x:Val):Option (Arg) :=
 some { Area:=false,L:=[x] }
def gz4:FSpec tb:=⟨[(0,.val 32)],[(0,.val 48)],czi⟩
theorem zzF:∀ x,evFn Tryz.prog tb [] [] Tryz.f25 gz4.ins gz4.outs x=gz4.f x:=fun x=>by kernel_rfl
theorem fun_One_k:fnK Tryz.f25 gz4.ins gz4.outs=true:=by kernel_rfl
theorem ozw:azc Tryz.prog tb 25 gz4:=azq mixed Tryz.func25 fun_One_k .nil rfl zzF
def qz9 (x:Arg):Option (Bool) :=
 brn (!x.Area) (some (bif decide ((↑x.L.length:Int)=1) then false else true)) (some false)
def fzu:FSpec tb:=⟨[(0,.val 48)],[(0,.val 4)],qz9⟩
theorem wzm:∀ x,evFn Tryz.prog tb [] [] Tryz.f138 fzu.ins fzu.outs x=fzu.f x:=fun x=>by kernel_rfl
theorem xzs:fnK Tryz.f138 fzu.ins fzu.outs=true:=by kernel_rfl
theorem rz3:azc Tryz.prog tb 138 fzu:=azq mixed Tryz.func138 xzs .nil rfl wzm
abbrev bzt:List (Nat×FSpec tb):=[(138,fzu)]
theorem bz7:azy Tryz.prog tb bzt:=(.cons rz3 .nil)
def bzg (back:List Arg×Unit×Int×Int→Option ((Unit)⊕(Int))) (x:List Arg×Unit×Int×Int):Option ((Unit)⊕(Int)) :=
 brn (decide (x.2.2.snd < x.2.2.fst))
  (obnd (idx x.fst x.2.2.snd) fun y=>obnd (qz9 y) fun y=>brn y (some (Sum.inr x.2.2.2)) (back (x.fst,(),x.2.2.fst,IntKind.i64.wrap (x.2.2.snd+1))))
  (some (Sum.inl PUnit.unit))
def bz8:List Arg×Unit×Int×Int→Option ((Unit)⊕(Int)):=iter bzg big
def azE:CutSpec tb:=⟨28,[(0,.val 34),(1,.fnp 138 0),(7,.val 3),(8,.val 3)],[((.exit 0),[]),(.ret,[(4,.val 3)])],[9,10,5,11,12,13,14,15,16,17,4,18,8],bz8⟩
theorem dz7:∀ back x,azP Tryz.prog tb bzt [] (azb 28 Tryz.f216) azE.ins azE.outs back x=bzg back x:=fun back x=>by kernel_rfl
theorem ezq:cutB Tryz.f216.ntmps azE (azb 28 Tryz.f216)=true:=by kernel_rfl
theorem dz8:azi ([]:List (CutSpec tb)) (azb 28 Tryz.f216)=[]:=by kernel_rfl
theorem dzM:azm Tryz.prog tb Tryz.f216.ntmps (.loop (azb 28 Tryz.f216)) azE:=azR mixed ezq bz7 rfl dz8 .nil bzg dz7 rfl
def czq (x:List Arg×Unit):Option (Int) :=
 obnd (bz8 (x.fst,(),(↑x.fst.length:Int),0)) fun y=>osum y (fun y=>some (-1)) fun y=>some y
def azz:FSpec tb:=⟨[(0,.val 34),(1,.fnp 138 0)],[(0,.val 3)],czq⟩
theorem ezG:∀ x,evFn Tryz.prog tb bzt [azE] Tryz.f216 azz.ins azz.outs x=azz.f x:=fun x=>by kernel_rfl
theorem fza:fnK Tryz.f216 azz.ins azz.outs=true:=by kernel_rfl
theorem ezH:azi ([azE]:List (CutSpec tb)) (azL Tryz.f216)=[(28,.loop (azb 28 Tryz.f216))]:=by kernel_rfl
theorem dz9:azc Tryz.prog tb 216 azz:=az8 mixed Tryz.func216 fza bz7 rfl ezH (.cons rfl dzM rfl .nil) ezG
def bz6 (x:List Arg×Unit):Option (Bool) :=
 obnd (czq (x.fst,())) fun y=>some (decide (0≤y))
def azu:FSpec tb:=⟨[(0,.val 34),(1,.fnp 138 0)],[(0,.val 4)],bz6⟩
theorem dz6:∀ x,evFn Tryz.prog tb [(216,azz)] [] Tryz.f137 azu.ins azu.outs x=azu.f x:=fun x=>by kernel_rfl
theorem ezn:fnK Tryz.f137 azu.ins azu.outs=true:=by kernel_rfl
theorem dzB:azc Tryz.prog tb 137 azu:=azq mixed Tryz.func137 ezn (.cons dz9 .nil) rfl dz6
abbrev izv:List (Nat×FSpec tb):=[(85,bzG)]
theorem izw:azy Tryz.prog tb izv:=(.cons bz5 .nil)
def izy (back:Int×Arg×List Val×Int×Int→Option (Int)) (x:Int×Arg×List Val×Int×Int):Option (Int) :=
 brn (decide (x.2.2.2.snd < x.2.2.2.fst))
  (obnd (idx x.2.2.fst x.2.2.2.snd) fun y =>
   obnd (bzR y) fun y_1 =>
    brn y_1.2.snd
     (brn (!x.2.fst.Area) (back (IntKind.i64.wrap (x.fst+1),x.2.fst,x.2.2.fst,x.2.2.2.fst,IntKind.i64.wrap (x.2.2.2.snd+1)))
      (brn (decide (y.Kind=1)) (back (IntKind.i64.wrap (x.fst+1),x.2.fst,x.2.2.fst,x.2.2.2.fst,IntKind.i64.wrap (x.2.2.2.snd+1)))
       (back (x.fst,x.2.fst,x.2.2.fst,x.2.2.2.fst,IntKind.i64.wrap (x.2.2.2.snd+1)))))
     (back (x.fst,x.2.fst,x.2.2.fst,x.2.2.2.fst,IntKind.i64.wrap (x.2.2.2.snd+1))))
  (some x.1)
def mze:Int×Arg×List Val×Int×Int→Option (Int):=iter izy big
def dzn:CutSpec tb:=⟨60,[(3,.val 3),(5,.ro 48),(18,.val 46),(19,.val 3),(20,.val 3)],[((.exit 2),[(3,.val 3)])],[21,22,23,7,25,26,24,27,28,29,8,9,10,30,31,32,33,34,35,36,37,38,39,40,41,42,3,43,20],mze⟩
theorem qzA:∀ back x,azP Tryz.prog tb izv [] (azb 60 Tryz.f139) dzn.ins dzn.outs back x=izy back x:=fun back x=>by kernel_rfl
theorem rz2:cutB Tryz.f139.ntmps dzn (azb 60 Tryz.f139)=true:=by kernel_rfl
theorem qzB:azi ([]:List (CutSpec tb)) (azb 60 Tryz.f139)=[]:=by kernel_rfl
theorem pzt:azm Tryz.prog tb Tryz.f139.ntmps (.loop (azb 60 Tryz.f139)) dzn:=azR mixed rz2 izw rfl qzB .nil izy qzA rfl
def izx (back:Int×List Arg×Int×Int→Option (Int)) (x:Int×List Arg×Int×Int):Option (Int) :=
 brn (decide (x.2.2.snd < x.2.2.fst))
  (obnd (idx x.2.fst x.2.2.snd) fun y=>obnd (mze (x.fst,y,y.L,(↑y.L.length:Int),0)) fun y=>back (y,x.2.fst,x.2.2.fst,IntKind.i64.wrap (x.2.2.snd+1)))
  (some x.1)
def mzd:Int×List Arg×Int×Int→Option (Int):=iter izx big
def dzm:CutSpec tb:=⟨36,[(3,.val 3),(11,.val 34),(12,.val 3),(13,.val 3)],[((.exit 0),[(3,.val 3)])],[14,15,16,5,17,18,19,20,21,22,23,7,25,26,24,27,28,29,8,9,10,30,31,32,33,34,35,36,37,38,39,40,41,42,3,43,44,13],mzd⟩
theorem qzy:∀ back x,azP Tryz.prog tb izv [dzn] (azb 36 Tryz.f139) dzm.ins dzm.outs back x=izx back x:=fun back x=>by kernel_rfl
theorem rz1:cutB Tryz.f139.ntmps dzm (azb 36 Tryz.f139)=true:=by kernel_rfl
theorem qzz:azi ([dzn]:List (CutSpec tb)) (azb 36 Tryz.f139)=[(60,.loop (azb 60 Tryz.f139))]:=by kernel_rfl
theorem pzs:azm Tryz.prog tb Tryz.f139.ntmps (.loop (azb 36 Tryz.f139)) dzm:=azR mixed rz1 izw rfl qzz (.cons rfl pzt rfl .nil) izx qzy rfl
def pzr (x:List Arg):Option (Int) :=
 obnd (mzd (0,x,(↑x.length:Int),0)) fun y=>some y
def ezg:FSpec tb:=⟨[(0,.val 34)],[(0,.val 3)],pzr⟩
theorem uzN:∀ x,evFn Tryz.prog tb izv [dzm] Tryz.f139 ezg.ins ezg.outs x=ezg.f x:=fun x=>by kernel_rfl
theorem wzj:fnK Tryz.f139 ezg.ins ezg.outs=true:=by kernel_rfl
theorem uzO:azi ([dzm]:List (CutSpec tb)) (azL Tryz.f139)=[(36,.loop (azb 36 Tryz.f139))]:=by kernel_rfl
theorem qzC:azc Tryz.prog tb 139 ezg:=az8 mixed Tryz.func139 wzj izw rfl uzO (.cons rfl pzs rfl .nil) uzN
def az6 (x:Dec×Int):Option (Val) :=
 brn (decide (x.snd=0)) (some { Kind:=1,N:=x.fst,S:=[],B:=false,E:=0 })
  (brn (decide (x.snd=9)) (obnd (azj 7) fun y=>some y) (obnd (azj 36) fun y=>some y))
def cz5:FSpec tb:=⟨[(0,.val 30),(1,.val 63)],[(0,.val 32)],az6⟩
theorem zzI:∀ x,evFn Tryz.prog tb [(32,azK)] [] Tryz.f86 cz5.ins cz5.outs x=cz5.f x:=fun x=>by kernel_rfl
theorem fun_num_k:fnK Tryz.f86 cz5.ins cz5.outs=true:=by kernel_rfl
theorem dzv:azc Tryz.prog tb 86 cz5:=azq mixed Tryz.func86 fun_num_k (.cons azA .nil) rfl zzI
def bzD (x:Int):Option (Val) :=
 obnd (czy x) fun y=>obnd (az6 (y,0)) fun y=>some y
def czp:FSpec tb:=⟨[(0,.val 3)],[(0,.val 32)],bzD⟩
theorem uzQ:∀ x,evFn Tryz.prog tb [(33,czM),(86,cz5)] [] Tryz.f64 czp.ins czp.outs x=czp.f x:=fun x=>by kernel_rfl
theorem wzl:fnK Tryz.f64 czp.ins czp.outs=true:=by kernel_rfl
theorem fzF:azc Tryz.prog tb 64 czp:=azq mixed Tryz.func64 wzl (.cons czV (.cons dzv .nil)) rfl uzQ
abbrev jzV:List (Nat×FSpec tb):=[(65,dzO)]
theorem jzq:azy Tryz.prog tb jzV:=(.cons izW .nil)
def jzs (back:Val×List (Bool)×Arg×List Val×Int×Int→Option (((List (Bool))×Val)⊕((List (Bool)×Bool)×Val))) (x:Val×List (Bool)×Arg×List Val×Int×Int):Option (((List (Bool))×Val)⊕((List (Bool)×Bool)×Val)) :=
 brn (decide (x.2.2.2.2.snd < x.2.2.2.2.fst))
  (obnd (idx x.2.2.2.fst x.2.2.2.2.snd) fun y =>
   brn x.2.2.fst.Area
    (brn (!decide (y.Kind=1))
     (brn (!decide (y.Kind=3))
      (brn (!decide (y.Kind=4)) (back (x.fst,x.2.fst,x.2.2.fst,x.2.2.2.fst,x.2.2.2.2.fst,IntKind.i64.wrap (x.2.2.2.2.snd+1)))
       (obnd (gzw y) fun y =>
        brn (!y.2.snd) (some (Sum.inr (([],false),y.2.fst)))
         (obnd (app 1 x.2.fst [y.fst]) fun zs=>back (x.fst,zs,x.2.2.fst,x.2.2.2.fst,x.2.2.2.2.fst,IntKind.i64.wrap (x.2.2.2.2.snd+1)))))
      (obnd (gzw y) fun y =>
       brn (!y.2.snd) (some (Sum.inr (([],false),y.2.fst)))
        (obnd (app 1 x.2.fst [y.fst]) fun zs=>back (x.fst,zs,x.2.2.fst,x.2.2.2.fst,x.2.2.2.2.fst,IntKind.i64.wrap (x.2.2.2.2.snd+1)))))
     (obnd (gzw y) fun y =>
      brn (!y.2.snd) (some (Sum.inr (([],false),y.2.fst)))
       (obnd (app 1 x.2.fst [y.fst]) fun zs=>back (x.fst,zs,x.2.2.fst,x.2.2.2.fst,x.2.2.2.2.fst,IntKind.i64.wrap (x.2.2.2.2.snd+1)))))
    (obnd (gzw y) fun y =>
     brn (!y.2.snd) (some (Sum.inr (([],false),y.2.fst)))
      (obnd (app 1 x.2.fst [y.fst]) fun zs=>back (x.fst,zs,x.2.2.fst,x.2.2.2.fst,x.2.2.2.2.fst,IntKind.i64.wrap (x.2.2.2.2.snd+1)))))
  (some (Sum.inl (x.2.fst,x.fst)))
def nzn:Val×List (Bool)×Arg×List Val×Int×Int→Option (((List (Bool))×Val)⊕((List (Bool)×Bool)×Val)):=iter jzs big
def dz4:CutSpec tb:=⟨60,[(3,.ref 32),(5,.own 4),(7,.ro 48),(20,.val 46),(21,.val 3),(22,.val 3)],[((.exit 2),[(5,.own 4)]),(.ret,[(2,.own 4),(4,.val 4)])],[23,24,25,9,26,27,28,29,30,31,32,33,34,35,36,37,38,39,40,41,42,44,45,43,46,47,48,11,10,12,49,50,51,2,4,52,53,54,55,5,56,22],nzn⟩
theorem szd:∀ back x,azP Tryz.prog tb jzV [] (azb 60 Tryz.f140) dz4.ins dz4.outs back x=jzs back x:=fun back x=>by kernel_rfl
theorem tzB:cutB Tryz.f140.ntmps dz4 (azb 60 Tryz.f140)=true:=by kernel_rfl
theorem sze:azi ([]:List (CutSpec tb)) (azb 60 Tryz.f140)=[]:=by kernel_rfl
theorem qzM:azm Tryz.prog tb Tryz.f140.ntmps (.loop (azb 60 Tryz.f140)) dz4:=azR mixed tzB jzq rfl sze .nil jzs szd rfl
def jzr (back:Val×List (Bool)×List Arg×Int×Int→Option (((List (Bool))×Val)⊕((List (Bool)×Bool)×Val))) (x:Val×List (Bool)×List Arg×Int×Int):Option (((List (Bool))×Val)⊕((List (Bool)×Bool)×Val)) :=
 brn (decide (x.2.2.2.snd < x.2.2.2.fst))
  (obnd (idx x.2.2.fst x.2.2.2.snd) fun y =>
   obnd (nzn (x.fst,x.2.fst,y,y.L,(↑y.L.length:Int),0)) fun y =>
    osum y (fun y=>back (y.2,y.1,x.2.2.fst,x.2.2.2.fst,IntKind.i64.wrap (x.2.2.2.snd+1))) fun y=>some (Sum.inr (y.1,y.2)))
  (some (Sum.inl (x.2.fst,x.fst)))
def nzm:Val×List (Bool)×List Arg×Int×Int→Option (((List (Bool))×Val)⊕((List (Bool)×Bool)×Val)):=iter jzr big
def dz3:CutSpec tb:=⟨36,[(3,.ref 32),(5,.own 4),(13,.val 34),(14,.val 3),(15,.val 3)],[((.exit 0),[(5,.own 4)]),(.ret,[(2,.own 4),(4,.val 4)])],[16,17,18,7,19,20,21,22,23,24,25,9,26,27,28,29,30,31,32,33,34,35,36,37,38,39,40,41,42,44,45,43,46,47,48,11,10,12,49,50,51,2,4,52,53,54,55,5,56,57,15],nzm⟩
theorem szb:∀ back x,azP Tryz.prog tb jzV [dz4] (azb 36 Tryz.f140) dz3.ins dz3.outs back x=jzr back x:=fun back x=>by kernel_rfl
theorem tzA:cutB Tryz.f140.ntmps dz3 (azb 36 Tryz.f140)=true:=by kernel_rfl
theorem szc:azi ([dz4]:List (CutSpec tb)) (azb 36 Tryz.f140)=[(60,.loop (azb 60 Tryz.f140))]:=by kernel_rfl
theorem qzL:azm Tryz.prog tb Tryz.f140.ntmps (.loop (azb 36 Tryz.f140)) dz3:=azR mixed tzA jzq rfl szc (.cons rfl qzM rfl .nil) jzr szb rfl
def mzQ (x:List Arg):Option (List (Bool)×Val×Bool) :=
 obnd (nzm ({ Kind:=0,N:={ M:=0,S:=0 },S:=[],B:=false,E:=0 },[],x,(↑x.length:Int),0)) fun y =>
  osum y (fun y=>some (y.1,{ Kind:=0,N:={ M:=0,S:=0 },S:=[],B:=false,E:=0 },decide (0 < (↑(List.length y.1):Int)))) fun y=>some (y.1.fst,y.2,y.1.snd)
def fzx:FSpec tb:=⟨[(0,.val 34)],[(0,.own 4),(1,.val 32),(2,.val 4)],mzQ⟩
theorem wzy:∀ x,evFn Tryz.prog tb jzV [dz3] Tryz.f140 fzx.ins fzx.outs x=fzx.f x:=fun x=>by kernel_rfl
theorem xzz:fnK Tryz.f140 fzx.ins fzx.outs=true:=by kernel_rfl
theorem wzz:azi ([dz3]:List (CutSpec tb)) (azL Tryz.f140)=[(36,.loop (azb 36 Tryz.f140))]:=by kernel_rfl
theorem szf:azc Tryz.prog tb 140 fzx:=az8 mixed Tryz.func140 xzz jzq rfl wzz (.cons rfl qzL rfl .nil) wzy
def dzD (back:List Bool×Bool×Int×Int→Option ((Unit)⊕(Int))) (x:List Bool×Bool×Int×Int):Option ((Unit)⊕(Int)) :=
 brn (decide (x.2.2.snd < x.2.2.fst))
  (obnd (idx x.fst x.2.2.snd) fun y=>brn (decide (x.2.fst=y)) (some (Sum.inr x.2.2.2)) (back (x.fst,x.2.fst,x.2.2.fst,IntKind.i64.wrap (x.2.2.snd+1))))
  (some (Sum.inl PUnit.unit))
def gzB:List Bool×Bool×Int×Int→Option ((Unit)⊕(Int)):=iter dzD big
def bzq:CutSpec tb:=⟨28,[(0,.val 147),(1,.val 4),(7,.val 3),(8,.val 3)],[((.exit 0),[]),(.ret,[(4,.val 3)])],[9,10,5,11,12,13,14,15,16,17,4,18,8],gzB⟩
theorem jzG:∀ back x,azP Tryz.prog tb [] [] (azb 28 Tryz.f217) bzq.ins bzq.outs back x=dzD back x:=fun back x=>by kernel_rfl
theorem kzc:cutB Tryz.f217.ntmps bzq (azb 28 Tryz.f217)=true:=by kernel_rfl
theorem jzH:azi ([]:List (CutSpec tb)) (azb 28 Tryz.f217)=[]:=by kernel_rfl
theorem izZ:azm Tryz.prog tb Tryz.f217.ntmps (.loop (azb 28 Tryz.f217)) bzq:=azR mixed kzc .nil rfl jzH .nil dzD jzG rfl
def hzJ (x:List Bool×Bool):Option (Int) :=
 obnd (gzB (x.fst,x.snd,(↑x.fst.length:Int),0)) fun y=>osum y (fun y=>some (-1)) fun y=>some y
def bzm:FSpec tb:=⟨[(0,.val 147),(1,.val 4)],[(0,.val 3)],hzJ⟩
theorem kz1:∀ x,evFn Tryz.prog tb [] [bzq] Tryz.f217 bzm.ins bzm.outs x=bzm.f x:=fun x=>by kernel_rfl
theorem lzS:fnK Tryz.f217 bzm.ins bzm.outs=true:=by kernel_rfl
theorem kz2:azi ([bzq]:List (CutSpec tb)) (azL Tryz.f217)=[(28,.loop (azb 28 Tryz.f217))]:=by kernel_rfl
theorem jzI:azc Tryz.prog tb 217 bzm:=az8 mixed Tryz.func217 lzS .nil rfl kz2 (.cons rfl izZ rfl .nil) kz1
def bzO (x:List Bool×Bool):Option (Bool) :=
 obnd (hzJ x) fun y=>some (decide (0≤y))
def az9:FSpec tb:=⟨[(0,.val 147),(1,.val 4)],[(0,.val 4)],bzO⟩
theorem jzF:∀ x,evFn Tryz.prog tb [(217,bzm)] [] Tryz.f141 az9.ins az9.outs x=az9.f x:=fun x=>by kernel_rfl
theorem kzb:fnK Tryz.f141 az9.ins az9.outs=true:=by kernel_rfl
theorem izj:azc Tryz.prog tb 141 az9:=azq mixed Tryz.func141 kzb (.cons jzI .nil) rfl jzF
def czu (x:Bool):Option (Val) :=
 some { Kind:=3,N:={ M:=0,S:=0 },S:=[],B:=x,E:=0 }
def czP:FSpec tb:=⟨[(0,.val 4)],[(0,.val 32)],czu⟩
theorem xzy:∀ x,evFn Tryz.prog tb [] [] Tryz.f63 czP.ins czP.outs x=czP.f x:=fun x=>by kernel_rfl
theorem yzN:fnK Tryz.f63 czP.ins czP.outs=true:=by kernel_rfl
theorem ez4:azc Tryz.prog tb 63 czP:=azq mixed Tryz.func63 yzN .nil rfl xzy
def dzg (x:List UInt8):Option (Val) :=
 obnd (kz4 x) fun y=>brn (!decide (y.snd=0)) (obnd (azj 15) fun y=>some y) (some { Kind:=2,N:={ M:=0,S:=0 },S:=x,B:=false,E:=0 })
def ez3:FSpec tb:=⟨[(0,.val 9)],[(0,.val 32)],dzg⟩
theorem yzM:∀ x,evFn Tryz.prog tb [(101,fzg),(32,azK)] [] Tryz.f83 ez3.ins ez3.outs x=ez3.f x:=fun x=>by kernel_rfl
theorem zzL:fnK Tryz.f83 ez3.ins ez3.outs=true:=by kernel_rfl
theorem jzp:azc Tryz.prog tb 83 ez3:=azq mixed Tryz.func83 zzL (.cons mzw (.cons azA .nil)) rfl yzM
abbrev izz:List (Nat×FSpec tb):=[(85,bzG)]
theorem izA:azy Tryz.prog tb izz:=(.cons bz5 .nil)
def izC (back:Val×List (Dec)×Arg×List Val×Int×Int→Option (((List (Dec))×Val)⊕((List (Dec)×Bool)×Val))) (x:Val×List (Dec)×Arg×List Val×Int×Int):Option (((List (Dec))×Val)⊕((List (Dec)×Bool)×Val)) :=
 brn (decide (x.2.2.2.2.snd < x.2.2.2.2.fst))
  (obnd (idx x.2.2.2.fst x.2.2.2.2.snd) fun y =>
   brn x.2.2.fst.Area
    (brn (!decide (y.Kind=1))
     (brn (!decide (y.Kind=4)) (back (x.fst,x.2.fst,x.2.2.fst,x.2.2.2.fst,x.2.2.2.2.fst,IntKind.i64.wrap (x.2.2.2.2.snd+1)))
      (obnd (bzR y) fun y =>
       brn (!y.2.snd) (some (Sum.inr (([],false),y.2.fst)))
        (obnd (app 16 x.2.fst [y.fst]) fun zs=>back (x.fst,zs,x.2.2.fst,x.2.2.2.fst,x.2.2.2.2.fst,IntKind.i64.wrap (x.2.2.2.2.snd+1)))))
     (obnd (bzR y) fun y =>
      brn (!y.2.snd) (some (Sum.inr (([],false),y.2.fst)))
       (obnd (app 16 x.2.fst [y.fst]) fun zs=>back (x.fst,zs,x.2.2.fst,x.2.2.2.fst,x.2.2.2.2.fst,IntKind.i64.wrap (x.2.2.2.2.snd+1)))))
    (obnd (bzR y) fun y =>
     brn (!y.2.snd) (some (Sum.inr (([],false),y.2.fst)))
      (obnd (app 16 x.2.fst [y.fst]) fun zs=>back (x.fst,zs,x.2.2.fst,x.2.2.2.fst,x.2.2.2.2.fst,IntKind.i64.wrap (x.2.2.2.2.snd+1)))))
  (some (Sum.inl (x.2.fst,x.fst)))
def mzg:Val×List (Dec)×Arg×List Val×Int×Int→Option (((List (Dec))×Val)⊕((List (Dec)×Bool)×Val)):=iter izC big
def dzp:CutSpec tb:=⟨60,[(3,.ref 32),(5,.own 30),(7,.ro 48),(20,.val 46),(21,.val 3),(22,.val 3)],[((.exit 2),[(5,.own 30)]),(.ret,[(2,.own 30),(4,.val 4)])],[23,24,25,9,26,27,28,29,30,31,32,33,34,35,36,37,39,40,38,41,42,43,10,11,12,44,45,46,2,4,47,48,49,50,5,51,22],mzg⟩
theorem qzG:∀ back x,azP Tryz.prog tb izz [] (azb 60 Tryz.f145) dzp.ins dzp.outs back x=izC back x:=fun back x=>by kernel_rfl
theorem rz5:cutB Tryz.f145.ntmps dzp (azb 60 Tryz.f145)=true:=by kernel_rfl
theorem qzH:azi ([]:List (CutSpec tb)) (azb 60 Tryz.f145)=[]:=by kernel_rfl
theorem pzB:azm Tryz.prog tb Tryz.f145.ntmps (.loop (azb 60 Tryz.f145)) dzp:=azR mixed rz5 izA rfl qzH .nil izC qzG rfl
def izB (back:Val×List (Dec)×List Arg×Int×Int→Option (((List (Dec))×Val)⊕((List (Dec)×Bool)×Val))) (x:Val×List (Dec)×List Arg×Int×Int):Option (((List (Dec))×Val)⊕((List (Dec)×Bool)×Val)) :=
 brn (decide (x.2.2.2.snd < x.2.2.2.fst))
  (obnd (idx x.2.2.fst x.2.2.2.snd) fun y =>
   obnd (mzg (x.fst,x.2.fst,y,y.L,(↑y.L.length:Int),0)) fun y =>
    osum y (fun y=>back (y.2,y.1,x.2.2.fst,x.2.2.2.fst,IntKind.i64.wrap (x.2.2.2.snd+1))) fun y=>some (Sum.inr (y.1,y.2)))
  (some (Sum.inl (x.2.fst,x.fst)))
def mzf:Val×List (Dec)×List Arg×Int×Int→Option (((List (Dec))×Val)⊕((List (Dec)×Bool)×Val)):=iter izB big
def dzo:CutSpec tb:=⟨36,[(3,.ref 32),(5,.own 30),(13,.val 34),(14,.val 3),(15,.val 3)],[((.exit 0),[(5,.own 30)]),(.ret,[(2,.own 30),(4,.val 4)])],[16,17,18,7,19,20,21,22,23,24,25,9,26,27,28,29,30,31,32,33,34,35,36,37,39,40,38,41,42,43,10,11,12,44,45,46,2,4,47,48,49,50,5,51,52,15],mzf⟩
theorem qzE:∀ back x,azP Tryz.prog tb izz [dzp] (azb 36 Tryz.f145) dzo.ins dzo.outs back x=izB back x:=fun back x=>by kernel_rfl
theorem rz4:cutB Tryz.f145.ntmps dzo (azb 36 Tryz.f145)=true:=by kernel_rfl
theorem qzF:azi ([dzp]:List (CutSpec tb)) (azb 36 Tryz.f145)=[(60,.loop (azb 60 Tryz.f145))]:=by kernel_rfl
theorem pzA:azm Tryz.prog tb Tryz.f145.ntmps (.loop (azb 36 Tryz.f145)) dzo:=azR mixed rz4 izA rfl qzF (.cons rfl pzB rfl .nil) izB qzE rfl
def pzz (x:List Arg):Option (List (Dec)×Val×Bool) :=
 obnd (mzf ({ Kind:=0,N:={ M:=0,S:=0 },S:=[],B:=false,E:=0 },[],x,(↑x.length:Int),0)) fun y =>
  osum y (fun y=>some (y.1,{ Kind:=0,N:={ M:=0,S:=0 },S:=[],B:=false,E:=0 },true)) fun y=>some (y.1.fst,y.2,y.1.snd)
def ezk:FSpec tb:=⟨[(0,.val 34)],[(0,.own 30),(1,.val 32),(2,.val 4)],pzz⟩
theorem uz2:∀ x,evFn Tryz.prog tb izz [dzo] Tryz.f145 ezk.ins ezk.outs x=ezk.f x:=fun x=>by kernel_rfl
theorem wzs:fnK Tryz.f145 ezk.ins ezk.outs=true:=by kernel_rfl
theorem uz3:azi ([dzo]:List (CutSpec tb)) (azL Tryz.f145)=[(36,.loop (azb 36 Tryz.f145))]:=by kernel_rfl
theorem qzI:azc Tryz.prog tb 145 ezk:=az8 mixed Tryz.func145 wzs izA rfl uz3 (.cons rfl pzA rfl .nil) uz2
abbrev bzy:List (Nat×FSpec tb):=[(34,czo)]
theorem cze:azy Tryz.prog tb bzy:=(.cons fzD .nil)
def bzo (back:List Dec×Unit×Dec×Int→Option ((Unit)×Dec)) (x:List Dec×Unit×Dec×Int):Option ((Unit)×Dec) :=
 brn (decide (x.2.2.snd < (↑x.fst.length:Int)))
  (obnd (idx x.fst x.2.2.snd) fun y =>
   obnd (gzR (y,x.2.2.fst)) fun y =>
    brn (decide (y < 0)) (obnd (idx x.fst x.2.2.snd) fun y=>back (x.fst,(),y,IntKind.i64.wrap (x.2.2.snd+1)))
     (back (x.fst,(),x.2.2.fst,IntKind.i64.wrap (x.2.2.snd+1))))
  (some ((),x.2.2.fst))
def czf:List Dec×Unit×Dec×Int→Option ((Unit)×Dec):=iter bzo big
def azH:CutSpec tb:=⟨52,[(0,.val 226),(1,.fnp 34 0),(5,.ref 30),(6,.val 3)],[((.exit 0),[])],[14,15,16,17,20,21,22,23,24,25,26,27,28,29,30,31,18,19,6],czf⟩
theorem ezw:∀ back x,azP Tryz.prog tb bzy [] (azb 52 Tryz.f146) azH.ins azH.outs back x=bzo back x:=fun back x=>by kernel_rfl
theorem ezE:cutB Tryz.f146.ntmps azH (azb 52 Tryz.f146)=true:=by kernel_rfl
theorem ezx:azi ([]:List (CutSpec tb)) (azb 52 Tryz.f146)=[]:=by kernel_rfl
theorem ezb:azm Tryz.prog tb Tryz.f146.ntmps (.loop (azb 52 Tryz.f146)) azH:=azR mixed ezE cze rfl ezx .nil bzo ezw rfl
def czw (x:List Dec×Unit):Option (Dec) :=
 brn (decide ((↑x.fst.length:Int) < 1)) none (obnd (idx x.fst 0) fun y=>obnd (czf (x.fst,(),y,1)) fun y=>some y.2)
def azC:FSpec tb:=⟨[(0,.val 226),(1,.fnp 34 0)],[(0,.val 30)],czw⟩
theorem fzd:∀ x,evFn Tryz.prog tb bzy [azH] Tryz.f146 azC.ins azC.outs x=azC.f x:=fun x=>by kernel_rfl
theorem fzB:fnK Tryz.f146 azC.ins azC.outs=true:=by kernel_rfl
theorem fze:azi ([azH]:List (CutSpec tb)) (azL Tryz.f146)=[(52,.loop (azb 52 Tryz.f146))]:=by kernel_rfl
theorem ezy:azc Tryz.prog tb 146 azC:=az8 mixed Tryz.func146 fzB cze rfl fze (.cons rfl ezb rfl .nil) fzd
abbrev bzx:List (Nat×FSpec tb):=[(34,czo)]
theorem czc:azy Tryz.prog tb bzx:=(.cons fzD .nil)
def bzn (back:List Dec×Unit×Dec×Int→Option ((Unit)×Dec)) (x:List Dec×Unit×Dec×Int):Option ((Unit)×Dec) :=
 brn (decide (x.2.2.snd < (↑x.fst.length:Int)))
  (obnd (idx x.fst x.2.2.snd) fun y =>
   obnd (gzR (y,x.2.2.fst)) fun y =>
    brn (decide (0 < y)) (obnd (idx x.fst x.2.2.snd) fun y=>back (x.fst,(),y,IntKind.i64.wrap (x.2.2.snd+1)))
     (back (x.fst,(),x.2.2.fst,IntKind.i64.wrap (x.2.2.snd+1))))
  (some ((),x.2.2.fst))
def czd:List Dec×Unit×Dec×Int→Option ((Unit)×Dec):=iter bzn big
def azG:CutSpec tb:=⟨52,[(0,.val 226),(1,.fnp 34 0),(5,.ref 30),(6,.val 3)],[((.exit 0),[])],[14,15,16,17,20,21,22,23,24,25,26,27,28,29,30,31,18,19,6],czd⟩
theorem ezt:∀ back x,azP Tryz.prog tb bzx [] (azb 52 Tryz.f147) azG.ins azG.outs back x=bzn back x:=fun back x=>by kernel_rfl
theorem ezD:cutB Tryz.f147.ntmps azG (azb 52 Tryz.f147)=true:=by kernel_rfl
theorem ezu:azi ([]:List (CutSpec tb)) (azb 52 Tryz.f147)=[]:=by kernel_rfl
theorem eza:azm Tryz.prog tb Tryz.f147.ntmps (.loop (azb 52 Tryz.f147)) azG:=azR mixed ezD czc rfl ezu .nil bzn ezt rfl
def bzw (x:List Dec×Unit):Option (Dec) :=
 brn (decide ((↑x.fst.length:Int) < 1)) none (obnd (idx x.fst 0) fun y=>obnd (czd (x.fst,(),y,1)) fun y=>some y.2)
def azB:FSpec tb:=⟨[(0,.val 226),(1,.fnp 34 0)],[(0,.val 30)],bzw⟩
theorem fzb:∀ x,evFn Tryz.prog tb bzx [azG] Tryz.f147 azB.ins azB.outs x=azB.f x:=fun x=>by kernel_rfl
theorem fzA:fnK Tryz.f147 azB.ins azB.outs=true:=by kernel_rfl
theorem fzc:azi ([azG]:List (CutSpec tb)) (azL Tryz.f147)=[(52,.loop (azb 52 Tryz.f147))]:=by kernel_rfl
theorem ezv:azc Tryz.prog tb 147 azB:=az8 mixed Tryz.func147 fzA czc rfl fzc (.cons rfl eza rfl .nil) fzb
abbrev gz6:List (Nat×FSpec tb):=[(137,azu),(32,azK),(139,ezg),(64,czp),(140,fzx),(141,az9),(63,czP),(142,fzj),(143,az3),(144,jzN),(83,ez3),(145,ezk),(146,azC),(86,cz5),(147,azB),(33,czM),(87,gzQ),(36,fzn)]
theorem fzP:azy Tryz.prog tb gz6:=(.cons dzB (.cons azA (.cons qzC (.cons fzF (.cons szf (.cons izj (.cons ez4 (.cons mzA (.cons hzX (.consK hz4 (.cons jzp (.cons qzI (.cons ezy (.cons dzv (.cons ezv (.cons czV (.cons ozo (.cons hzY .nil))))))))))))))))))
def lzu (back:List (UInt8)×Val×Unit×List Val×Int×Int→Option (((List (UInt8))×(Val×Unit))⊕((List (UInt8))×(Val×Unit)))) (x:List (UInt8)×Val×Unit×List Val×Int×Int):Option (((List (UInt8))×(Val×Unit))⊕((List (UInt8))×(Val×Unit))) :=
 brn (decide (x.2.2.2.2.snd < x.2.2.2.2.fst))
  (obnd (idx x.2.2.2.fst x.2.2.2.2.snd) fun y =>
   obnd (izX y) fun y =>
    brn (!y.2.snd) (some (Sum.inr (x.fst,y.2.fst,())))
     (obnd (fzZ (x.fst,(),y.fst)) fun y=>back (y.1.fst,x.2.fst,(),x.2.2.2.fst,x.2.2.2.2.fst,IntKind.i64.wrap (x.2.2.2.2.snd+1))))
  (some (Sum.inl (x.fst,x.2.fst,())))
def pzx:List (UInt8)×Val×Unit×List Val×Int×Int→Option (((List (UInt8))×(Val×Unit))⊕((List (UInt8))×(Val×Unit))):=iter lzu big
def fzR:CutSpec tb:=⟨172,[(8589934600,.own 5),(4,.ref 32),(8,.box 229638146),(71,.val 46),(72,.val 3),(73,.val 3)],[((.exit 4),[(8589934600,.own 5)]),(.ret,[(8589934600,.own 5)])],[74,75,76,12,78,79,77,80,81,82,14,13,15,83,84,85,86,87,88,73],pzx⟩
theorem uzX:∀ back x,azP Tryz.prog tb gz6 [] (azb 172 Tryz.f60) fzR.ins fzR.outs back x=lzu back x:=fun back x=>by kernel_rfl
theorem wzq:cutB Tryz.f60.ntmps fzR (azb 172 Tryz.f60)=true:=by kernel_rfl
theorem uzY:azi ([]:List (CutSpec tb)) (azb 172 Tryz.f60)=[]:=by kernel_rfl
theorem tzp:azm Tryz.prog tb Tryz.f60.ntmps (.loop (azb 172 Tryz.f60)) fzR:=azR mixed wzq fzP rfl uzY .nil lzu uzX rfl
def lzs (back:List (UInt8)×Val×Unit×List Arg×Int×Int→Option (((List (UInt8))×(Val×Unit))⊕((List (UInt8))×(Val×Unit)))) (x:List (UInt8)×Val×Unit×List Arg×Int×Int):Option (((List (UInt8))×(Val×Unit))⊕((List (UInt8))×(Val×Unit))) :=
 brn (decide (x.2.2.2.2.snd < x.2.2.2.2.fst))
  (obnd (idx x.2.2.2.fst x.2.2.2.2.snd) fun y =>
   obnd (pzx (x.fst,x.2.fst,(),y.L,(↑y.L.length:Int),0)) fun y =>
    osum y (fun y=>back (y.1,y.2.fst,(),x.2.2.2.fst,x.2.2.2.2.fst,IntKind.i64.wrap (x.2.2.2.2.snd+1))) fun y=>some (Sum.inr (y.1,y.2.fst,())))
  (some (Sum.inl (x.fst,x.2.fst,())))
def lzt:List (UInt8)×Val×Unit×List Arg×Int×Int→Option (((List (UInt8))×(Val×Unit))⊕((List (UInt8))×(Val×Unit))):=iter lzs big
def fzQ:CutSpec tb:=⟨148,[(8589934600,.own 5),(4,.ref 32),(8,.box 229638146),(64,.val 34),(65,.val 3),(66,.val 3)],[((.exit 2),[(8589934600,.own 5)]),(.ret,[(8589934600,.own 5)])],[67,68,69,10,70,71,72,73,74,75,76,12,78,79,77,80,81,82,14,13,15,83,84,85,86,87,88,89,66],lzt⟩
theorem uzV:∀ back x,azP Tryz.prog tb gz6 [fzR] (azb 148 Tryz.f60) fzQ.ins fzQ.outs back x=lzs back x:=fun back x=>by kernel_rfl
theorem wzp:cutB Tryz.f60.ntmps fzQ (azb 148 Tryz.f60)=true:=by kernel_rfl
theorem uzW:azi ([fzR]:List (CutSpec tb)) (azb 148 Tryz.f60)=[(172,.loop (azb 172 Tryz.f60))]:=by kernel_rfl
theorem tzo:azm Tryz.prog tb Tryz.f60.ntmps (.loop (azb 148 Tryz.f60)) fzQ:=azR mixed wzp fzP rfl uzW (.cons rfl tzp rfl .nil) lzs uzV rfl
def pzv (x:Int×List Arg×Val×Int):Option (((Unit)×Val)⊕((Unit)×Val)) :=
 brn (decide (x.2.2.snd=3)) (obnd (pzr x.2.fst) fun y=>obnd (bzD y) fun y=>some (Sum.inr ((),y)))
  (brn (decide (x.2.2.snd=11))
   (brn (decide (x.2.2.snd=11))
    (obnd (mzQ x.2.fst) fun y =>
     brn (!y.2.snd)
      (brn (!decide (y.2.fst.Kind=4)) (obnd (azj 15) fun y=>some (Sum.inr ((),y)))
       (brn (!y.2.snd) (some (Sum.inr ((),y.2.fst)))
        (obnd (bzO (y.fst,decide (x.fst=12))) fun y=>obnd (czu (decide (y=decide (x.fst=12)))) fun y=>some (Sum.inr ((),y)))))
      (brn (!y.2.snd) (some (Sum.inr ((),y.2.fst)))
       (obnd (bzO (y.fst,decide (x.fst=12))) fun y=>obnd (czu (decide (y=decide (x.fst=12)))) fun y=>some (Sum.inr ((),y)))))
    (brn (decide (x.2.2.snd=18))
     (obnd (lzt ([],x.2.2.fst,(),x.2.fst,(↑x.2.fst.length:Int),0)) fun y =>
      osum y (fun y=>obnd (hzP (y.1,())) fun y=>obnd (dzg y.1) fun y=>some (Sum.inr ((),y))) fun y=>some (Sum.inr ((),y.2.fst)))
     (some (Sum.inl ((),x.2.2.fst)))))
   (brn (decide (x.2.2.snd=12))
    (obnd (mzQ x.2.fst) fun y =>
     brn (!y.2.snd)
      (brn (!decide (y.2.fst.Kind=4)) (obnd (azj 15) fun y=>some (Sum.inr ((),y)))
       (brn (!y.2.snd) (some (Sum.inr ((),y.2.fst)))
        (obnd (bzO (y.fst,decide (x.fst=12))) fun y=>obnd (czu (decide (y=decide (x.fst=12)))) fun y=>some (Sum.inr ((),y)))))
      (brn (!y.2.snd) (some (Sum.inr ((),y.2.fst)))
       (obnd (bzO (y.fst,decide (x.fst=12))) fun y=>obnd (czu (decide (y=decide (x.fst=12)))) fun y=>some (Sum.inr ((),y)))))
    (brn (decide (x.2.2.snd=18))
     (obnd (lzt ([],x.2.2.fst,(),x.2.fst,(↑x.2.fst.length:Int),0)) fun y =>
      osum y (fun y=>obnd (hzP (y.1,())) fun y=>obnd (dzg y.1) fun y=>some (Sum.inr ((),y))) fun y=>some (Sum.inr ((),y.2.fst)))
     (some (Sum.inl ((),x.2.2.fst))))))
def ezi:CutSpec tb:=⟨43,[(0,.val 3),(1,.val 34),(4,.ref 32),(26,.val 3)],[(.normal,[]),(.ret,[])],[28,27,29,30,31,33,32,34,36,37,35,38,39,40,6,5,7,42,43,44,45,46,47,48,41,49,51,52,50,53,54,55,56,57,58,59,60,61,63,62,8,64,65,66,67,68,69,10,70,71,72,73,74,75,76,12,78,79,77,80,81,82,14,13,15,83,84,85,86,87,88,89,90,91],pzv⟩
theorem uzR:∀ x,gzf Tryz.prog tb gz6 [fzQ] (azx 43 Tryz.f60) ezi.ins ezi.outs x=ezi.J x:=fun x=>by kernel_rfl
theorem wzn:cutB Tryz.f60.ntmps ezi (azx 43 Tryz.f60)=true:=by kernel_rfl
theorem uzS:azi ([fzQ]:List (CutSpec tb)) (azx 43 Tryz.f60)=[(148,.loop (azb 148 Tryz.f60))]:=by kernel_rfl
theorem tzm:azm Tryz.prog tb Tryz.f60.ntmps (azx 43 Tryz.f60) ezi:=gzy mixed wzn fzP rfl uzS (.cons rfl tzo rfl .nil) uzR
def pzw (x:Int×Val×List Dec):Option (((Unit)×Val)⊕((Unit)×Val)) :=
 brn (decide (x.fst=1))
  (brn (decide (0 < (↑x.2.snd.length:Int))) (obnd (czw (x.2.snd,())) fun y=>obnd (az6 (y,0)) fun y=>some (Sum.inr ((),y)))
   (brn (decide (x.fst=2))
    (brn (decide (0 < (↑x.2.snd.length:Int))) (obnd (bzw (x.2.snd,())) fun y=>obnd (az6 (y,0)) fun y=>some (Sum.inr ((),y)))
     (brn (decide (x.fst=1)) (obnd (bzD 0) fun y=>some (Sum.inr ((),y)))
      (brn (decide (x.fst=2)) (obnd (bzD 0) fun y=>some (Sum.inr ((),y))) (some (Sum.inl ((),x.2.fst))))))
    (brn (decide (x.fst=1)) (obnd (bzD 0) fun y=>some (Sum.inr ((),y)))
     (brn (decide (x.fst=2)) (obnd (bzD 0) fun y=>some (Sum.inr ((),y))) (some (Sum.inl ((),x.2.fst)))))))
  (brn (decide (x.fst=2))
   (brn (decide (0 < (↑x.2.snd.length:Int))) (obnd (bzw (x.2.snd,())) fun y=>obnd (az6 (y,0)) fun y=>some (Sum.inr ((),y)))
    (brn (decide (x.fst=1)) (obnd (bzD 0) fun y=>some (Sum.inr ((),y)))
     (brn (decide (x.fst=2)) (obnd (bzD 0) fun y=>some (Sum.inr ((),y))) (some (Sum.inl ((),x.2.fst))))))
   (brn (decide (x.fst=1)) (obnd (bzD 0) fun y=>some (Sum.inr ((),y)))
    (brn (decide (x.fst=2)) (obnd (bzD 0) fun y=>some (Sum.inr ((),y))) (some (Sum.inl ((),x.2.fst))))))
def ezj:CutSpec tb:=⟨267,[(0,.val 3),(4,.ref 32),(16,.val 226)],[(.normal,[]),(.ret,[])],[102,103,104,105,106,107,108,101,109,110,111,113,114,115,116,117,118,119,112,120,121,122,124,125,126,127,128,129,123,130],pzw⟩
theorem uzT:∀ x,gzf Tryz.prog tb gz6 [] (azx 267 Tryz.f60) ezj.ins ezj.outs x=ezj.J x:=fun x=>by kernel_rfl
theorem wzo:cutB Tryz.f60.ntmps ezj (azx 267 Tryz.f60)=true:=by kernel_rfl
theorem uzU:azi ([]:List (CutSpec tb)) (azx 267 Tryz.f60)=[]:=by kernel_rfl
theorem tzn:azm Tryz.prog tb Tryz.f60.ntmps (azx 267 Tryz.f60) ezj:=gzy mixed wzo fzP rfl uzU .nil uzT
def lzv (back:Val×Dec×List Dec×Int×Int→Option (((Unit)×(Val×Dec))⊕((Unit)×(Val×Dec)))) (x:Val×Dec×List Dec×Int×Int):Option (((Unit)×(Val×Dec))⊕((Unit)×(Val×Dec))) :=
 brn (decide (x.2.2.2.snd < x.2.2.2.fst))
  (obnd (idx x.2.2.fst x.2.2.2.snd) fun y =>
   obnd (rzz (x.2.fst,y)) fun y =>
    brn (!decide (y.snd=0)) (obnd (az6 y) fun y_1=>some (Sum.inr ((),y_1,y.fst))) (back (x.fst,y.fst,x.2.2.fst,x.2.2.2.fst,IntKind.i64.wrap (x.2.2.2.snd+1))))
  (some (Sum.inl ((),x.fst,x.2.fst)))
def pzy:Val×Dec×List Dec×Int×Int→Option (((Unit)×(Val×Dec))⊕((Unit)×(Val×Dec))):=iter lzv big
def fzS:CutSpec tb:=⟨332,[(4,.ref 32),(19,.ref 30),(132,.val 226),(133,.val 3),(134,.val 3)],[((.exit 7),[]),(.ret,[])],[135,136,137,22,139,140,141,138,142,143,20,144,145,146,147,148,149,134],pzy⟩
theorem uzZ:∀ back x,azP Tryz.prog tb gz6 [] (azb 332 Tryz.f60) fzS.ins fzS.outs back x=lzv back x:=fun back x=>by kernel_rfl
theorem wzr:cutB Tryz.f60.ntmps fzS (azb 332 Tryz.f60)=true:=by kernel_rfl
theorem uz0:azi ([]:List (CutSpec tb)) (azb 332 Tryz.f60)=[]:=by kernel_rfl
theorem tzq:azm Tryz.prog tb Tryz.f60.ntmps (.loop (azb 332 Tryz.f60)) fzS:=azR mixed wzr fzP rfl uz0 .nil lzv uzZ rfl
def vzD (x:Int×List Arg):Option (Val) :=
 obnd (bz6 (x.snd,())) fun y =>
  brn y (obnd (azj 15) fun y=>some y)
   (obnd (pzv (x.fst,x.snd,{ Kind:=0,N:={ M:=0,S:=0 },S:=[],B:=false,E:=0 },x.fst)) fun y =>
    osum y
     (fun y =>
      obnd (pzz x.snd) fun y_1 =>
       brn (!y_1.2.snd) (some y_1.2.fst)
        (obnd (pzw (x.fst,y.2,y_1.fst)) fun y =>
         osum y
          (fun y =>
           obnd (czy 0) fun y_2 =>
            obnd (pzy (y.2,y_2,y_1.fst,(↑(List.length y_1.fst):Int),0)) fun y =>
             osum y
              (fun y =>
               brn (decide (x.fst=0)) (obnd (az6 (y.2.snd,0)) fun y=>some y)
                (obnd (czy (↑(List.length y_1.fst):Int)) fun y_3=>obnd (jzj (y.2.snd,y_3)) fun y=>obnd (az6 y) fun y=>some y))
              fun y=>some y.2.fst)
          fun y=>some y.2))
     fun y=>some y.2)
def gz7:FSpec tb:=⟨[(0,.val 3),(1,.val 34)],[(0,.val 32)],vzD⟩
theorem yzG:∀ x,evFn Tryz.prog tb gz6 [ezi,ezj,fzS] Tryz.f60 gz7.ins gz7.outs x=gz7.f x:=fun x=>by kernel_rfl
theorem zzH:fnK Tryz.f60 gz7.ins gz7.outs=true:=by kernel_rfl
theorem yzH:azi ([ezi,ezj,fzS]:List (CutSpec tb)) (azL Tryz.f60)=[(43,azx 43 Tryz.f60),(267,azx 267 Tryz.f60),(332,.loop (azb 332 Tryz.f60))]:=by kernel_rfl
theorem uz1:azc Tryz.prog tb 60 gz7:=az8 mixed Tryz.func60 zzH fzP rfl yzH (.cons rfl tzm rfl (.cons rfl tzn rfl (.cons rfl tzq rfl .nil))) yzG
def ozC (x:Arg):Option (Bool) :=
 brn x.Area (some true) (some (bif decide ((↑x.L.length:Int)=1) then false else true))
def dzx:FSpec tb:=⟨[(0,.val 48)],[(0,.val 4)],ozC⟩
theorem tzz:∀ x,evFn Tryz.prog tb [] [] Tryz.f150 dzx.ins dzx.outs x=dzx.f x:=fun x=>by kernel_rfl
theorem vza:fnK Tryz.f150 dzx.ins dzx.outs=true:=by kernel_rfl
theorem pzI:azc Tryz.prog tb 150 dzx:=azq mixed Tryz.func150 vza .nil rfl tzz
abbrev bzl:List (Nat×FSpec tb):=[(150,dzx)]
theorem bzZ:azy Tryz.prog tb bzl:=(.cons pzI .nil)
def bzb (back:List Arg×Unit×Int×Int→Option ((Unit)⊕(Int))) (x:List Arg×Unit×Int×Int):Option ((Unit)⊕(Int)) :=
 brn (decide (x.2.2.snd < x.2.2.fst))
  (obnd (idx x.fst x.2.2.snd) fun y=>obnd (ozC y) fun y=>brn y (some (Sum.inr x.2.2.2)) (back (x.fst,(),x.2.2.fst,IntKind.i64.wrap (x.2.2.snd+1))))
  (some (Sum.inl PUnit.unit))
def bz0:List Arg×Unit×Int×Int→Option ((Unit)⊕(Int)):=iter bzb big
def azD:CutSpec tb:=⟨28,[(0,.val 34),(1,.fnp 150 0),(7,.val 3),(8,.val 3)],[((.exit 0),[]),(.ret,[(4,.val 3)])],[9,10,5,11,12,13,14,15,16,17,4,18,8],bz0⟩
theorem dzG:∀ back x,azP Tryz.prog tb bzl [] (azb 28 Tryz.f216) azD.ins azD.outs back x=bzb back x:=fun back x=>by kernel_rfl
theorem dzN:cutB Tryz.f216.ntmps azD (azb 28 Tryz.f216)=true:=by kernel_rfl
theorem dzH:azi ([]:List (CutSpec tb)) (azb 28 Tryz.f216)=[]:=by kernel_rfl
theorem dzC:azm Tryz.prog tb Tryz.f216.ntmps (.loop (azb 28 Tryz.f216)) azD:=azR mixed dzN bzZ rfl dzH .nil bzb dzG rfl
def czb (x:List Arg×Unit):Option (Int) :=
 obnd (bz0 (x.fst,(),(↑x.fst.length:Int),0)) fun y=>osum y (fun y=>some (-1)) fun y=>some y
def azw:FSpec tb:=⟨[(0,.val 34),(1,.fnp 150 0)],[(0,.val 3)],czb⟩
theorem ezr:∀ x,evFn Tryz.prog tb bzl [azD] Tryz.f216 azw.ins azw.outs x=azw.f x:=fun x=>by kernel_rfl
theorem ezC:fnK Tryz.f216 azw.ins azw.outs=true:=by kernel_rfl
theorem ezs:azi ([azD]:List (CutSpec tb)) (azL Tryz.f216)=[(28,.loop (azb 28 Tryz.f216))]:=by kernel_rfl
theorem dzI:azc Tryz.prog tb 216 azw:=az8 mixed Tryz.func216 ezC bzZ rfl ezs (.cons rfl dzC rfl .nil) ezr
def bzY (x:List Arg×Unit):Option (Bool) :=
 obnd (czb (x.fst,())) fun y=>some (decide (0≤y))
def azt:FSpec tb:=⟨[(0,.val 34),(1,.fnp 150 0)],[(0,.val 4)],bzY⟩
theorem dzF:∀ x,evFn Tryz.prog tb [(216,azw)] [] Tryz.f137 azt.ins azt.outs x=azt.f x:=fun x=>by kernel_rfl
theorem dzL:fnK Tryz.f137 azt.ins azt.outs=true:=by kernel_rfl
theorem dzk:azc Tryz.prog tb 137 azt:=azq mixed Tryz.func137 dzL (.cons dzI .nil) rfl dzF
def jzU (x:List Arg):Option (Bool) :=
 obnd (bzY (x,())) fun y=>some (bif y then false else true)
def dzc:FSpec tb:=⟨[(0,.val 34)],[(0,.val 4)],jzU⟩
theorem wzw:∀ x,evFn Tryz.prog tb [(137,azt)] [] Tryz.f62 dzc.ins dzc.outs x=dzc.f x:=fun x=>by kernel_rfl
theorem xzw:fnK Tryz.f62 dzc.ins dzc.outs=true:=by kernel_rfl
theorem iza:azc Tryz.prog tb 62 dzc:=azq mixed Tryz.func62 xzw (.cons dzk .nil) rfl wzw
def pzu (x:List Arg):Option (Val) :=
 obnd (idx x 0) fun y =>
  brn (!y.Area) (obnd (azj 15) fun y=>some y)
   (obnd (sub x 1 (↑x.length:Int)) fun z =>
    obnd (jzU z) fun y =>
     brn (!y) (obnd (azj 15) fun y=>some y)
      (obnd (idx x 1) fun y =>
       obnd (idx y.L 0) fun y =>
        obnd (bzR y) fun y =>
         brn (!y.2.snd) (some y.2.fst)
          (brn (!decide (y.fst.S=0)) (obnd (azj 15) fun y=>some y)
           (brn (decide (y.fst.M < 1)) (obnd (azj 23) fun y=>some y)
            (obnd (idx x 0) fun y_1 =>
             brn (decide ((↑y_1.L.length:Int) < y.fst.M)) (obnd (azj 23) fun y=>some y)
              (obnd (idx x 0) fun y_2=>obnd (idx y_2.L (IntKind.i64.wrap (y.fst.M - 1))) fun y=>some y))))))
def ezh:FSpec tb:=⟨[(0,.val 34)],[(0,.val 32)],pzu⟩
theorem uzP:∀ x,evFn Tryz.prog tb [(62,dzc),(32,azK),(85,bzG)] [] Tryz.f148 ezh.ins ezh.outs x=ezh.f x:=fun x=>by kernel_rfl
theorem wzk:fnK Tryz.f148 ezh.ins ezh.outs=true:=by kernel_rfl
theorem qzD:azc Tryz.prog tb 148 ezh:=azq mixed Tryz.func148 wzk (.cons iza (.cons azA (.cons bz5 .nil))) rfl uzP
def hzT (x:Arg):Option (Val) :=
 brn x.Area (obnd (azj 15) fun y=>some y) (brn (!decide ((↑x.L.length:Int)=1)) (obnd (azj 15) fun y=>some y) (obnd (idx x.L 0) fun y=>some y))
def fzw:FSpec tb:=⟨[(0,.val 48)],[(0,.val 32)],hzT⟩
theorem wzx:∀ x,evFn Tryz.prog tb [(32,azK)] [] Tryz.f149 fzw.ins fzw.outs x=fzw.f x:=fun x=>by kernel_rfl
theorem xzx:fnK Tryz.f149 fzw.ins fzw.outs=true:=by kernel_rfl
theorem sza:azc Tryz.prog tb 149 fzw:=azq mixed Tryz.func149 xzx (.cons azA .nil) rfl wzx
def hzS (x:Int×List Arg):Option (Val) :=
 brn (decide (x.fst=24)) (obnd (pzu x.snd) fun y=>some y)
  (obnd (sub x.snd 0 1) fun z =>
   obnd (jzU z) fun y =>
    brn (!y) (obnd (azj 15) fun y=>some y)
     (obnd (idx x.snd 0) fun y =>
      obnd (idx y.L 0) fun y =>
       brn (decide (x.fst=23)) (brn (decide (y.Kind=4)) (obnd (idx x.snd 1) fun y=>obnd (hzT y) fun y=>some y) (some y))
        (brn (decide (x.fst=10))
         (obnd (gzw y) fun y =>
          brn (!y.2.snd) (some y.2.fst)
           (brn y.fst (obnd (idx x.snd 1) fun y=>obnd (hzT y) fun y=>some y)
            (brn (decide ((↑x.snd.length:Int)=2)) (obnd (czu false) fun y=>some y) (obnd (idx x.snd 2) fun y=>obnd (hzT y) fun y=>some y))))
         (obnd (bzR y) fun y =>
          brn (!y.2.snd) (some y.2.fst)
           (brn (!decide (y.fst.S=0)) (obnd (azj 15) fun y=>some y)
            (brn (decide (y.fst.M < 1)) (obnd (azj 15) fun y=>some y)
             (brn (decide ((↑x.snd.length:Int)≤y.fst.M)) (obnd (azj 15) fun y=>some y)
              (obnd (idx x.snd y.fst.M) fun y=>obnd (hzT y) fun y=>some y))))))))
def fzt:FSpec tb:=⟨[(0,.val 3),(1,.val 34)],[(0,.val 32)],hzS⟩
theorem wzi:∀ x,evFn Tryz.prog tb [(148,ezh),(62,dzc),(32,azK),(149,fzw),(65,dzO),(63,czP),(85,bzG)] [] Tryz.f61 fzt.ins fzt.outs x=fzt.f x:=fun x=>by kernel_rfl
theorem xzr:fnK Tryz.f61 fzt.ins fzt.outs=true:=by kernel_rfl
theorem rz0:azc Tryz.prog tb 61 fzt:=azq mixed Tryz.func61 xzr (.cons qzD (.cons iza (.cons azA (.cons sza (.cons izW (.cons ez4 (.cons bz5 .nil))))))) rfl wzi
def jzo (back:Int×Dec→Option (((Unit)×Dec)⊕((Int×Bool)×Dec))) (x:Int×Dec):Option (((Unit)×Dec)⊕((Int×Bool)×Dec)) :=
 brn (decide (x.snd.S < x.fst))
  (brn (!decide (IntKind.i64.wrap ((IntKind.i64.wrap (x.snd.M*10)).tdiv 10)=x.snd.M)) (some (Sum.inr ((0,false),x.snd)))
   (back (x.fst,{ M:=IntKind.i64.wrap (x.snd.M*10),S:=IntKind.i64.wrap (x.snd.S+1) })))
  (some (Sum.inl ((),x.snd)))
def nzl:Int×Dec→Option (((Unit)×Dec)⊕((Int×Bool)×Dec)):=iter jzo big
def dz2:CutSpec tb:=⟨20,[(1,.val 3),(2,.ref 30)],[((.exit 0),[]),(.ret,[(4,.val 2),(5,.val 4)])],[6,7,8,9,14,15,16,17,18,19,20,4,5,21,22,23,24,10,11,12,13],nzl⟩
theorem rz7:∀ back x,azP Tryz.prog tb [] [] (azb 20 Tryz.f219) dz2.ins dz2.outs back x=jzo back x:=fun back x=>by kernel_rfl
theorem tzy:cutB Tryz.f219.ntmps dz2 (azb 20 Tryz.f219)=true:=by kernel_rfl
theorem rz8:azi ([]:List (CutSpec tb)) (azb 20 Tryz.f219)=[]:=by kernel_rfl
theorem qzK:azm Tryz.prog tb Tryz.f219.ntmps (.loop (azb 20 Tryz.f219)) dz2:=azR mixed tzy .nil rfl rz8 .nil jzo rz7 rfl
def mzP (x:Dec×Int):Option (Int×Bool) :=
 obnd (nzl (x.snd,x.fst)) fun y=>osum y (fun y=>some (y.2.M,true)) fun y=>some y.1
def fzv:FSpec tb:=⟨[(0,.val 30),(1,.val 3)],[(0,.val 2),(1,.val 4)],mzP⟩
theorem wzu:∀ x,evFn Tryz.prog tb [] [dz2] Tryz.f219 fzv.ins fzv.outs x=fzv.f x:=fun x=>by kernel_rfl
theorem xzv:fnK Tryz.f219 fzv.ins fzv.outs=true:=by kernel_rfl
theorem wzv:azi ([dz2]:List (CutSpec tb)) (azL Tryz.f219)=[(20,.loop (azb 20 Tryz.f219))]:=by kernel_rfl
theorem rz9:azc Tryz.prog tb 219 fzv:=az8 mixed Tryz.func219 xzv .nil rfl wzv (.cons rfl qzK rfl .nil) wzu
def vzE (x:Dec×Dec):Option (Val) :=
 brn (decide (x.snd.M=0)) (obnd (azj 7) fun y=>some y)
  (obnd (mzP (x.fst,bif decide (x.fst.S < x.snd.S) then x.snd.S else x.fst.S)) fun y =>
   obnd (mzP (x.snd,bif decide (x.fst.S < x.snd.S) then x.snd.S else x.fst.S)) fun y_1 =>
    brn (!y.snd) (obnd (azj 36) fun y=>some y)
     (brn (!y_1.snd) (obnd (azj 36) fun y=>some y)
      (brn (decide (y_1.fst=0)) none
       (brn (!decide (Int.tmod y.fst y_1.fst=0))
        (brn (!decide (decide (Int.tmod y.fst y_1.fst < 0)=decide (y_1.fst < 0)))
         (obnd (lz8 { M:=IntKind.i64.wrap (Int.tmod y.fst y_1.fst+y_1.fst),S:=bif decide (x.fst.S < x.snd.S) then x.snd.S else x.fst.S }) fun y =>
          obnd (az6 (y,0)) fun y=>some y)
         (obnd (lz8 { M:=Int.tmod y.fst y_1.fst,S:=bif decide (x.fst.S < x.snd.S) then x.snd.S else x.fst.S }) fun y=>obnd (az6 (y,0)) fun y=>some y))
        (obnd (lz8 { M:=Int.tmod y.fst y_1.fst,S:=bif decide (x.fst.S < x.snd.S) then x.snd.S else x.fst.S }) fun y=>obnd (az6 (y,0)) fun y=>some y)))))
def gz9:FSpec tb:=⟨[(0,.val 30),(1,.val 30)],[(0,.val 32)],vzE⟩
theorem yzL:∀ x,evFn Tryz.prog tb [(32,azK),(219,fzv),(31,gzT),(86,cz5)] [] Tryz.f152 gz9.ins gz9.outs x=gz9.f x:=fun x=>by kernel_rfl
theorem zzK:fnK Tryz.f152 gz9.ins gz9.outs=true:=by kernel_rfl
theorem uz9:azc Tryz.prog tb 152 gz9:=azq mixed Tryz.func152 zzK (.cons azA (.cons rz9 (.cons uzq (.cons dzv .nil)))) rfl yzL
abbrev kzq:List (Nat×FSpec tb):=[(85,bzG),(33,czM),(34,czo),(35,fz9),(86,cz5),(64,czp),(151,fz6),(152,gz9),(32,azK),(153,fz8)]
theorem lzx:azy Tryz.prog tb kzq:=(.cons bz5 (.cons czV (.cons fzD (.cons kzi (.cons dzv (.cons fzF (.cons szI (.cons uz9 (.cons azA (.cons szR .nil))))))))))
def hz9 (back:Val×List (Dec)×List Val×Int×Int→Option (((List (Dec))×Val)⊕((Unit)×Val))) (x:Val×List (Dec)×List Val×Int×Int):Option (((List (Dec))×Val)⊕((Unit)×Val)) :=
 brn (decide (x.2.2.2.snd < x.2.2.2.fst))
  (obnd (idx x.2.2.fst x.2.2.2.snd) fun y =>
   obnd (bzR y) fun y =>
    brn (!y.2.snd) (some (Sum.inr ((),y.2.fst))) (obnd (app 16 x.2.fst [y.fst]) fun zs=>back (x.fst,zs,x.2.2.fst,x.2.2.2.fst,IntKind.i64.wrap (x.2.2.2.snd+1))))
  (some (Sum.inl (x.2.fst,x.fst)))
def lzy:Val×List (Dec)×List Val×Int×Int→Option (((List (Dec))×Val)⊕((Unit)×Val)):=iter hz9 big
def cz6:CutSpec tb:=⟨36,[(4,.ref 32),(5,.own 30),(12,.val 46),(13,.val 3),(14,.val 3)],[((.exit 0),[(5,.own 30)]),(.ret,[])],[15,16,17,7,19,20,18,21,22,23,8,9,10,24,25,26,27,28,29,30,5,31,14],lzy⟩
theorem pzF:∀ back x,azP Tryz.prog tb kzq [] (azb 36 Tryz.f66) cz6.ins cz6.outs back x=hz9 back x:=fun back x=>by kernel_rfl
theorem qzJ:cutB Tryz.f66.ntmps cz6 (azb 36 Tryz.f66)=true:=by kernel_rfl
theorem pzG:azi ([]:List (CutSpec tb)) (azb 36 Tryz.f66)=[]:=by kernel_rfl
theorem ozW:azm Tryz.prog tb Tryz.f66.ntmps (.loop (azb 36 Tryz.f66)) cz6:=azR mixed qzJ lzx rfl pzG .nil hz9 pzF rfl
def ezP (x:Int×List Val):Option (Val) :=
 obnd (lzy ({ Kind:=0,N:={ M:=0,S:=0 },S:=[],B:=false,E:=0 },[],x.snd,(↑x.snd.length:Int),0)) fun y =>
  osum y
   (fun y =>
    obnd (idx y.1 0) fun y_1 =>
     obnd (czy 0) fun y_2 =>
      obnd (gzR (y_1,y_2)) fun y_3 =>
       brn (decide (x.fst=5))
        (brn (decide (y_3 < 0)) (obnd (czy 0) fun y_4=>obnd (idx y.1 0) fun y=>obnd (lzg (y_4,y)) fun y=>obnd (az6 y) fun y=>some y)
         (obnd (idx y.1 0) fun y=>obnd (az6 (y,0)) fun y=>some y))
        (brn (decide (x.fst=6)) (obnd (bzD y_3) fun y=>some y)
         (brn (decide (x.fst=7)) (obnd (idx y.1 0) fun y=>obnd (szH y) fun y=>obnd (az6 y) fun y=>some y)
          (brn (decide (x.fst=8)) (obnd (idx y.1 0) fun y_4=>obnd (idx y.1 1) fun y=>obnd (vzE (y_4,y)) fun y=>some y)
           (obnd (idx y.1 1) fun y_4 =>
            brn (!decide (y_4.S=0)) (obnd (azj 36) fun y=>some y)
             (obnd (idx y.1 0) fun y_5=>obnd (idx y.1 1) fun y=>obnd (szQ (y_5,y.M)) fun y=>obnd (az6 y) fun y=>some y))))))
   fun y=>some y.2
def dzw:FSpec tb:=⟨[(0,.val 3),(1,.val 46)],[(0,.val 32)],ezP⟩
theorem tzw:∀ x,evFn Tryz.prog tb kzq [cz6] Tryz.f66 dzw.ins dzw.outs x=dzw.f x:=fun x=>by kernel_rfl
theorem uz8:fnK Tryz.f66 dzw.ins dzw.outs=true:=by kernel_rfl
theorem tzx:azi ([cz6]:List (CutSpec tb)) (azL Tryz.f66)=[(36,.loop (azb 36 Tryz.f66))]:=by kernel_rfl
theorem pzH:azc Tryz.prog tb 66 dzw:=az8 mixed Tryz.func66 uz8 lzx rfl tzx (.cons rfl ozW rfl .nil) tzw
abbrev nz0:List (Nat×FSpec tb):=[(220,azZ),(144,jzN)]
theorem ozy:azy Tryz.prog tb nz0:=(.cons ezF (.consK hz4 .nil))
def kzo (back:List (UInt8)×Bool×Unit×((List UInt8×Nat))→Option ((List (UInt8))×(Unit×((List UInt8×Nat))))) (x:List (UInt8)×Bool×Unit×((List UInt8×Nat))):Option ((List (UInt8))×(Unit×((List UInt8×Nat)))) :=
 brn (decide (x.2.2.snd.snd < x.2.2.snd.fst.length))
  (brn x.2.fst
   (brn (decide (97≤(↑(rune x.2.2.snd.fst x.2.2.snd.snd).fst:Int)))
    (brn (decide ((↑(rune x.2.2.snd.fst x.2.2.snd.snd).fst:Int)≤122))
     (obnd (azr (x.fst,(),IntKind.i32.wrap ((↑(rune x.2.2.snd.fst x.2.2.snd.snd).fst:Int)+-32))) fun y =>
      back (y.1.fst,x.2.fst,(),x.2.2.snd.fst,x.2.2.snd.snd+(rune x.2.2.snd.fst x.2.2.snd.snd).snd))
     (brn (!x.2.fst)
      (brn (decide (65≤(↑(rune x.2.2.snd.fst x.2.2.snd.snd).fst:Int)))
       (brn (decide ((↑(rune x.2.2.snd.fst x.2.2.snd.snd).fst:Int)≤90))
        (obnd (azr (x.fst,(),IntKind.i32.wrap ((↑(rune x.2.2.snd.fst x.2.2.snd.snd).fst:Int)+32))) fun y =>
         back (y.1.fst,x.2.fst,(),x.2.2.snd.fst,x.2.2.snd.snd+(rune x.2.2.snd.fst x.2.2.snd.snd).snd))
        (obnd (azr (x.fst,(),(↑(rune x.2.2.snd.fst x.2.2.snd.snd).fst:Int))) fun y =>
         back (y.1.fst,x.2.fst,(),x.2.2.snd.fst,x.2.2.snd.snd+(rune x.2.2.snd.fst x.2.2.snd.snd).snd)))
       (obnd (azr (x.fst,(),(↑(rune x.2.2.snd.fst x.2.2.snd.snd).fst:Int))) fun y =>
        back (y.1.fst,x.2.fst,(),x.2.2.snd.fst,x.2.2.snd.snd+(rune x.2.2.snd.fst x.2.2.snd.snd).snd)))
      (obnd (azr (x.fst,(),(↑(rune x.2.2.snd.fst x.2.2.snd.snd).fst:Int))) fun y =>
       back (y.1.fst,x.2.fst,(),x.2.2.snd.fst,x.2.2.snd.snd+(rune x.2.2.snd.fst x.2.2.snd.snd).snd))))
    (brn (!x.2.fst)
     (brn (decide (65≤(↑(rune x.2.2.snd.fst x.2.2.snd.snd).fst:Int)))
      (brn (decide ((↑(rune x.2.2.snd.fst x.2.2.snd.snd).fst:Int)≤90))
       (obnd (azr (x.fst,(),IntKind.i32.wrap ((↑(rune x.2.2.snd.fst x.2.2.snd.snd).fst:Int)+32))) fun y =>
        back (y.1.fst,x.2.fst,(),x.2.2.snd.fst,x.2.2.snd.snd+(rune x.2.2.snd.fst x.2.2.snd.snd).snd))
       (obnd (azr (x.fst,(),(↑(rune x.2.2.snd.fst x.2.2.snd.snd).fst:Int))) fun y =>
        back (y.1.fst,x.2.fst,(),x.2.2.snd.fst,x.2.2.snd.snd+(rune x.2.2.snd.fst x.2.2.snd.snd).snd)))
      (obnd (azr (x.fst,(),(↑(rune x.2.2.snd.fst x.2.2.snd.snd).fst:Int))) fun y =>
       back (y.1.fst,x.2.fst,(),x.2.2.snd.fst,x.2.2.snd.snd+(rune x.2.2.snd.fst x.2.2.snd.snd).snd)))
     (obnd (azr (x.fst,(),(↑(rune x.2.2.snd.fst x.2.2.snd.snd).fst:Int))) fun y =>
      back (y.1.fst,x.2.fst,(),x.2.2.snd.fst,x.2.2.snd.snd+(rune x.2.2.snd.fst x.2.2.snd.snd).snd))))
   (brn (!x.2.fst)
    (brn (decide (65≤(↑(rune x.2.2.snd.fst x.2.2.snd.snd).fst:Int)))
     (brn (decide ((↑(rune x.2.2.snd.fst x.2.2.snd.snd).fst:Int)≤90))
      (obnd (azr (x.fst,(),IntKind.i32.wrap ((↑(rune x.2.2.snd.fst x.2.2.snd.snd).fst:Int)+32))) fun y =>
       back (y.1.fst,x.2.fst,(),x.2.2.snd.fst,x.2.2.snd.snd+(rune x.2.2.snd.fst x.2.2.snd.snd).snd))
      (obnd (azr (x.fst,(),(↑(rune x.2.2.snd.fst x.2.2.snd.snd).fst:Int))) fun y =>
       back (y.1.fst,x.2.fst,(),x.2.2.snd.fst,x.2.2.snd.snd+(rune x.2.2.snd.fst x.2.2.snd.snd).snd)))
     (obnd (azr (x.fst,(),(↑(rune x.2.2.snd.fst x.2.2.snd.snd).fst:Int))) fun y =>
      back (y.1.fst,x.2.fst,(),x.2.2.snd.fst,x.2.2.snd.snd+(rune x.2.2.snd.fst x.2.2.snd.snd).snd)))
    (obnd (azr (x.fst,(),(↑(rune x.2.2.snd.fst x.2.2.snd.snd).fst:Int))) fun y =>
     back (y.1.fst,x.2.fst,(),x.2.2.snd.fst,x.2.2.snd.snd+(rune x.2.2.snd.fst x.2.2.snd.snd).snd))))
  (some (x.fst,(),x.2.2.snd))
def ozz:List (UInt8)×Bool×Unit×((List UInt8×Nat))→Option ((List (UInt8))×(Unit×((List UInt8×Nat)))):=iter kzo big
def ezN:CutSpec tb:=⟨36,[(8589934597,.own 5),(1,.val 4),(5,.box 229638146),(9,.iter)],[((.exit 0),[(8589934597,.own 5)])],[10,11,12,7,14,15,16,17,18,19,20,21,22,13,23,24,26,27,28,29,30,31,32,33,34,35,25,36,37,38,39],ozz⟩
theorem tzj:∀ back x,azP Tryz.prog tb nz0 [] (azb 36 Tryz.f154) ezN.ins ezN.outs back x=kzo back x:=fun back x=>by kernel_rfl
theorem uzM:cutB Tryz.f154.ntmps ezN (azb 36 Tryz.f154)=true:=by kernel_rfl
theorem tzk:azi ([]:List (CutSpec tb)) (azb 36 Tryz.f154)=[]:=by kernel_rfl
theorem rzZ:azm Tryz.prog tb Tryz.f154.ntmps (.loop (azb 36 Tryz.f154)) ezN:=azR mixed uzM ozy rfl tzk .nil kzo tzj rfl
def nzZ (x:List UInt8×Bool):Option (List UInt8) :=
 obnd (ozz ([],x.snd,(),x.fst,0)) fun y=>obnd (hzP (y.1,())) fun y=>some y.1
def gzm:FSpec tb:=⟨[(0,.val 9),(1,.val 4)],[(0,.val 9)],nzZ⟩
theorem xzp:∀ x,evFn Tryz.prog tb nz0 [ezN] Tryz.f154 gzm.ins gzm.outs x=gzm.f x:=fun x=>by kernel_rfl
theorem yzF:fnK Tryz.f154 gzm.ins gzm.outs=true:=by kernel_rfl
theorem xzq:azi ([ezN]:List (CutSpec tb)) (azL Tryz.f154)=[(36,.loop (azb 36 Tryz.f154))]:=by kernel_rfl
theorem tzl:azc Tryz.prog tb 154 gzm:=az8 mixed Tryz.func154 yzF ozy rfl xzq (.cons rfl rzZ rfl .nil) xzp
def jzT (x:Val×Int):Option (Int×Val×Bool) :=
 obnd (bzR x.fst) fun y =>
  brn (!y.2.snd) (some (0,y.2.fst,false))
   (brn (!decide (y.fst.S=0)) (obnd (azj 15) fun y=>some (0,y,false))
    (brn (decide (y.fst.M < x.snd)) (obnd (azj 15) fun y=>some (0,y,false))
     (some (y.fst.M,{ Kind:=0,N:={ M:=0,S:=0 },S:=[],B:=false,E:=0 },true))))
def fzs:FSpec tb:=⟨[(0,.val 32),(1,.val 2)],[(0,.val 2),(1,.val 32),(2,.val 4)],jzT⟩
theorem wzh:∀ x,evFn Tryz.prog tb [(85,bzG),(32,azK)] [] Tryz.f155 fzs.ins fzs.outs x=fzs.f x:=fun x=>by kernel_rfl
theorem xzo:fnK Tryz.f155 fzs.ins fzs.outs=true:=by kernel_rfl
theorem rzY:azc Tryz.prog tb 155 fzs:=azq mixed Tryz.func155 xzo (.cons bz5 (.cons azA .nil)) rfl wzh
abbrev pzC:List (Nat×FSpec tb):=[(220,azZ),(144,jzN)]
theorem pzD:azy Tryz.prog tb pzC:=(.cons ezF (.consK hz4 .nil))
def lzw (back:List (UInt8)×Int×Int×Unit×Int×((List UInt8×Nat))→Option ((List (UInt8))×(Unit×((List UInt8×Nat))))) (x:List (UInt8)×Int×Int×Unit×Int×((List UInt8×Nat))):Option ((List (UInt8))×(Unit×((List UInt8×Nat)))) :=
 brn (decide (x.2.2.2.2.snd.snd < x.2.2.2.2.snd.fst.length))
  (brn (decide (x.2.fst≤x.2.2.2.2.fst))
   (brn (decide (IntKind.i64.wrap (x.2.2.2.2.fst - x.2.fst) < x.2.2.fst))
    (obnd (azr (x.fst,(),(↑(rune x.2.2.2.2.snd.fst x.2.2.2.2.snd.snd).fst:Int))) fun y =>
     back (y.1.fst,x.2.fst,x.2.2.fst,(),IntKind.i64.wrap (x.2.2.2.2.fst+1),x.2.2.2.2.snd.fst,x.2.2.2.2.snd.snd+(rune x.2.2.2.2.snd.fst x.2.2.2.2.snd.snd).snd))
    (back (x.fst,x.2.fst,x.2.2.fst,(),IntKind.i64.wrap (x.2.2.2.2.fst+1),x.2.2.2.2.snd.fst,x.2.2.2.2.snd.snd+(rune x.2.2.2.2.snd.fst x.2.2.2.2.snd.snd).snd)))
   (back (x.fst,x.2.fst,x.2.2.fst,(),IntKind.i64.wrap (x.2.2.2.2.fst+1),x.2.2.2.2.snd.fst,x.2.2.2.2.snd.snd+(rune x.2.2.2.2.snd.fst x.2.2.2.2.snd.snd).snd)))
  (some (x.fst,(),x.2.2.2.2.snd))
def pzE:List (UInt8)×Int×Int×Unit×Int×((List UInt8×Nat))→Option ((List (UInt8))×(Unit×((List UInt8×Nat)))):=iter lzw big
def fzT:CutSpec tb:=⟨44,[(8589934599,.own 5),(1,.val 2),(2,.val 2),(7,.box 229638146),(8,.val 2),(12,.iter)],[((.exit 0),[(8589934599,.own 5)])],[13,14,15,10,16,17,18,19,20,21,22,23,24,25,26,27,28,29,8],pzE⟩
theorem uz4:∀ back x,azP Tryz.prog tb pzC [] (azb 44 Tryz.f156) fzT.ins fzT.outs back x=lzw back x:=fun back x=>by kernel_rfl
theorem wzt:cutB Tryz.f156.ntmps fzT (azb 44 Tryz.f156)=true:=by kernel_rfl
theorem uz5:azi ([]:List (CutSpec tb)) (azb 44 Tryz.f156)=[]:=by kernel_rfl
theorem tzr:azm Tryz.prog tb Tryz.f156.ntmps (.loop (azb 44 Tryz.f156)) fzT:=azR mixed wzt pzD rfl uz5 .nil lzw uz4 rfl
def mzh (x:List UInt8×Int×Int):Option (List UInt8) :=
 obnd (pzE ([],x.2.fst,x.2.snd,(),0,x.fst,0)) fun y=>obnd (hzP (y.1,())) fun y=>some y.1
def gz8:FSpec tb:=⟨[(0,.val 9),(1,.val 2),(2,.val 2)],[(0,.val 9)],mzh⟩
theorem yzI:∀ x,evFn Tryz.prog tb pzC [fzT] Tryz.f156 gz8.ins gz8.outs x=gz8.f x:=fun x=>by kernel_rfl
theorem zzJ:fnK Tryz.f156 gz8.ins gz8.outs=true:=by kernel_rfl
theorem yzJ:azi ([fzT]:List (CutSpec tb)) (azL Tryz.f156)=[(44,.loop (azb 44 Tryz.f156))]:=by kernel_rfl
theorem uz6:azc Tryz.prog tb 156 gz8:=az8 mixed Tryz.func156 zzJ pzD rfl yzJ (.cons rfl tzr rfl .nil) yzI
abbrev jzW:List (Nat×FSpec tb):=[(142,fzj),(101,fzg),(64,czp),(154,gzm),(83,ez3),(63,czP),(155,fzs),(156,gz8),(32,azK),(157,izQ),(1099511627844,mutS)]
theorem jzt:azy Tryz.prog tb jzW:=(.cons mzA (.cons mzw (.cons fzF (.cons tzl (.cons jzp (.cons ez4 (.cons rzY (.cons uz6 (.cons azA (.cons izR (.consK mut_sound .nil)))))))))))
def nzo (x:Int×List Val×Val×List UInt8×Int):Option (((Unit)×Val)⊕((Unit)×Val)) :=
 brn (decide (x.2.2.2.snd=14)) (obnd (kz4 x.2.2.2.fst) fun y=>obnd (bzD y.fst) fun y=>some (Sum.inr ((),y)))
  (brn (decide (x.2.2.2.snd=19))
   (brn (decide (x.2.2.2.snd=19)) (obnd (nzZ (x.2.2.2.fst,decide (x.fst=19))) fun y=>obnd (dzg y) fun y=>some (Sum.inr ((),y)))
    (brn (decide (x.2.2.2.snd=26))
     (obnd (idx x.2.fst 1) fun y =>
      obnd (izX y) fun y=>brn (!y.2.snd) (some (Sum.inr ((),y.2.fst))) (obnd (czu (decide (x.2.2.2.fst=y.fst))) fun y=>some (Sum.inr ((),y))))
     (some (Sum.inl ((),x.2.2.fst)))))
   (brn (decide (x.2.2.2.snd=20)) (obnd (nzZ (x.2.2.2.fst,decide (x.fst=19))) fun y=>obnd (dzg y) fun y=>some (Sum.inr ((),y)))
    (brn (decide (x.2.2.2.snd=26))
     (obnd (idx x.2.fst 1) fun y =>
      obnd (izX y) fun y=>brn (!y.2.snd) (some (Sum.inr ((),y.2.fst))) (obnd (czu (decide (x.2.2.2.fst=y.fst))) fun y=>some (Sum.inr ((),y))))
     (some (Sum.inl ((),x.2.2.fst))))))
def cz7:CutSpec tb:=⟨51,[(0,.val 3),(1,.val 46),(4,.ref 32),(5,.val 9),(33,.val 3)],[(.normal,[]),(.ret,[])],[35,34,37,38,36,39,40,8,9,41,42,44,43,45,46,47,48,49,50,52,51,54,55,56,57,53,58,59,60,11,10,12,61,62,63,64,65,66,67],nzo⟩
theorem szg:∀ x,gzf Tryz.prog tb jzW [] (azx 51 Tryz.f67) cz7.ins cz7.outs x=cz7.J x:=fun x=>by kernel_rfl
theorem tzC:cutB Tryz.f67.ntmps cz7 (azx 51 Tryz.f67)=true:=by kernel_rfl
theorem szh:azi ([]:List (CutSpec tb)) (azx 51 Tryz.f67)=[]:=by kernel_rfl
theorem qzN:azm Tryz.prog tb Tryz.f67.ntmps (azx 51 Tryz.f67) cz7:=gzy mixed tzC jzt rfl szh .nil szg
def jzu (back:Int×Val×List (Int)×List Val×Int×Int→Option (((List (Int))×Val)⊕((Unit)×Val))) (x:Int×Val×List (Int)×List Val×Int×Int):Option (((List (Int))×Val)⊕((Unit)×Val)) :=
 brn (decide (x.2.2.2.2.snd < x.2.2.2.2.fst))
  (obnd (idx x.2.2.2.fst x.2.2.2.2.snd) fun y =>
   brn (decide (x.fst=17))
    (brn (decide (x.2.2.2.2.snd=0))
     (obnd (jzT (y,1)) fun y =>
      brn (!y.2.snd) (some (Sum.inr ((),y.2.fst)))
       (obnd (inb x.2.2.fst.length x.2.2.2.2.snd) fun k =>
        obnd (nth x.2.2.fst k) fun y_1=>back (x.fst,x.2.fst,x.2.2.fst.set k y.fst,x.2.2.2.fst,x.2.2.2.2.fst,IntKind.i64.wrap (x.2.2.2.2.snd+1))))
     (obnd (jzT (y,0)) fun y =>
      brn (!y.2.snd) (some (Sum.inr ((),y.2.fst)))
       (obnd (inb x.2.2.fst.length x.2.2.2.2.snd) fun k =>
        obnd (nth x.2.2.fst k) fun y_1=>back (x.fst,x.2.fst,x.2.2.fst.set k y.fst,x.2.2.2.fst,x.2.2.2.2.fst,IntKind.i64.wrap (x.2.2.2.2.snd+1)))))
    (obnd (jzT (y,0)) fun y =>
     brn (!y.2.snd) (some (Sum.inr ((),y.2.fst)))
      (obnd (inb x.2.2.fst.length x.2.2.2.2.snd) fun k =>
       obnd (nth x.2.2.fst k) fun y_1=>back (x.fst,x.2.fst,x.2.2.fst.set k y.fst,x.2.2.2.fst,x.2.2.2.2.fst,IntKind.i64.wrap (x.2.2.2.2.snd+1)))))
  (some (Sum.inl (x.2.2.fst,x.2.fst)))
def nzp:Int×Val×List (Int)×List Val×Int×Int→Option (((List (Int))×Val)⊕((Unit)×Val)):=iter jzu big
def dz5:CutSpec tb:=⟨156,[(0,.val 3),(4,.ref 32),(13,.wr 2),(70,.val 46),(71,.val 3),(72,.val 3)],[((.exit 1),[(13,.own 2)]),(.ret,[])],[73,74,75,76,15,14,16,77,78,79,80,81,82,84,85,86,83,87,88,89,18,17,19,90,91,92,93,94,95,96,97,72],nzp⟩
theorem szi:∀ back x,azP Tryz.prog tb jzW [] (azb 156 Tryz.f67) dz5.ins dz5.outs back x=jzu back x:=fun back x=>by kernel_rfl
theorem tzD:cutB Tryz.f67.ntmps dz5 (azb 156 Tryz.f67)=true:=by kernel_rfl
theorem szj:azi ([]:List (CutSpec tb)) (azb 156 Tryz.f67)=[]:=by kernel_rfl
theorem qzO:azm Tryz.prog tb Tryz.f67.ntmps (.loop (azb 156 Tryz.f67)) dz5:=azR mixed tzD jzt rfl szj .nil jzu szi rfl
def rza (x:Int×List Val):Option (Val) :=
 obnd (idx x.snd 0) fun y =>
  obnd (izX y) fun y =>
   brn (!y.2.snd) (some y.2.fst)
    (obnd (nzo (x.fst,x.snd,{ Kind:=0,N:={ M:=0,S:=0 },S:=[],B:=false,E:=0 },y.fst,x.fst)) fun y_1 =>
     osum y_1
      (fun y_2 =>
       obnd (sub x.snd 1 (↑x.snd.length:Int)) fun z =>
        obnd (nzp (x.fst,y_2.2,[1,1],z,(↑z.length:Int),0)) fun y_3 =>
         osum y_3
          (fun y_4 =>
           brn (decide (x.fst=15)) (obnd (idx y_4.1 0) fun y_5=>obnd (mzh (y.fst,0,y_5)) fun y=>obnd (dzg y) fun y=>some y)
            (brn (decide (x.fst=16))
             (obnd (bif (List.length y.fst).ble 70368744177664 then some (ez9 y.fst (List.length y.fst) 0) else none) fun rs =>
              obnd (idx y_4.1 0) fun y_5 =>
               obnd (idx y_4.1 0) fun y_6 =>
                obnd (mzh (y.fst,bif decide (IntKind.i64.wrap ((↑rs.length:Int) - y_5) < 0) then 0 else IntKind.i64.wrap ((↑rs.length:Int) - y_5),y_6))
                 fun y=>obnd (dzg y) fun y=>some y)
             (brn (decide (x.fst=17))
              (obnd (idx y_4.1 0) fun y_5 =>
               obnd (idx y_4.1 1) fun y_6=>obnd (mzh (y.fst,IntKind.i64.wrap (y_5 - 1),y_6)) fun y=>obnd (dzg y) fun y=>some y)
              (obnd (kz4 y.fst) fun y_5 =>
               brn (decide (y_5.fst=0)) (obnd (dzg []) fun y=>some y)
                (obnd (idx y_4.1 0) fun y_6 =>
                 brn (decide (y_5.fst=0)) none
                  (brn (decide (IntKind.i64.wrap (Int.tdiv 1000 y_5.fst) < y_6)) (obnd (azj 15) fun y=>some y)
                   (obnd (idx y_4.1 0) fun y_7=>obnd (fzh (y.fst,y_7)) fun y=>obnd (dzg y) fun y=>some y)))))))
          fun y=>some y.2)
      fun y=>some y.2)
def fzy:FSpec tb:=⟨[(0,.val 3),(1,.val 46)],[(0,.val 32)],rza⟩
theorem wzA:∀ x,evFn Tryz.prog tb jzW [cz7,dz5] Tryz.f67 fzy.ins fzy.outs x=fzy.f x:=fun x=>by kernel_rfl
theorem xzA:fnK Tryz.f67 fzy.ins fzy.outs=true:=by kernel_rfl
theorem wzB:azi ([cz7,dz5]:List (CutSpec tb)) (azL Tryz.f67)=[(51,azx 51 Tryz.f67),(156,.loop (azb 156 Tryz.f67))]:=by kernel_rfl
theorem szk:azc Tryz.prog tb 67 fzy:=az8 mixed Tryz.func67 xzA jzt rfl wzB (.cons rfl qzN rfl (.cons rfl qzO rfl .nil)) wzA
abbrev hzy:List (Nat×FSpec tb):=[(59,gz5),(32,azK),(60,gz7),(61,fzt),(62,dzc),(63,czP),(64,czp),(65,dzO),(66,dzw),(67,fzy)]
theorem gzz:azy Tryz.prog tb hzy:=(.cons ozx (.cons azA (.cons uz1 (.cons rz0 (.cons iza (.cons ez4 (.cons fzF (.cons izW (.cons pzH (.cons szk .nil))))))))))
def czt (x:Int×List Arg×Val×Int×Bool):Option (((Unit)×Val)⊕((Unit)×Val)) :=
 brn x.2.2.2.snd (obnd (vzD (x.fst,x.2.fst)) fun y=>some (Sum.inr ((),y)))
  (brn (decide (x.2.2.2.fst=10))
   (brn (decide (x.2.2.2.fst=10)) (obnd (hzS (x.fst,x.2.fst)) fun y=>some (Sum.inr ((),y)))
    (brn (decide (x.2.2.2.fst=28)) (obnd (azj 42) fun y=>some (Sum.inr ((),y))) (some (Sum.inl ((),x.2.2.fst)))))
   (brn (decide (x.2.2.2.fst=23))
    (brn (decide (x.2.2.2.fst=23)) (obnd (hzS (x.fst,x.2.fst)) fun y=>some (Sum.inr ((),y)))
     (brn (decide (x.2.2.2.fst=28)) (obnd (azj 42) fun y=>some (Sum.inr ((),y))) (some (Sum.inl ((),x.2.2.fst)))))
    (brn (decide (x.2.2.2.fst=24))
     (brn (decide (x.2.2.2.fst=24)) (obnd (hzS (x.fst,x.2.fst)) fun y=>some (Sum.inr ((),y)))
      (brn (decide (x.2.2.2.fst=28)) (obnd (azj 42) fun y=>some (Sum.inr ((),y))) (some (Sum.inl ((),x.2.2.fst)))))
     (brn (decide (x.2.2.2.fst=25)) (obnd (hzS (x.fst,x.2.fst)) fun y=>some (Sum.inr ((),y)))
      (brn (decide (x.2.2.2.fst=28)) (obnd (azj 42) fun y=>some (Sum.inr ((),y))) (some (Sum.inl ((),x.2.2.fst))))))))
def dzt:CutSpec tb:=⟨114,[(0,.val 3),(1,.val 34),(4,.ref 32),(42,.val 3),(43,.val 4)],[(.normal,[]),(.ret,[])],[52,53,54,56,55,57,58,59,60,61,62,64,63,65],czt⟩
theorem sz9:∀ x,gzf Tryz.prog tb hzy [] (azx 114 Tryz.f19) dzt.ins dzt.outs x=dzt.J x:=fun x=>by kernel_rfl
theorem uzI:cutB Tryz.f19.ntmps dzt (azx 114 Tryz.f19)=true:=by kernel_rfl
theorem tza:azi ([]:List (CutSpec tb)) (azx 114 Tryz.f19)=[]:=by kernel_rfl
theorem rzR:azm Tryz.prog tb Tryz.f19.ntmps (azx 114 Tryz.f19) dzt:=gzy mixed uzI gzz rfl tza .nil sz9
def ozt (x:Int×List Arg×Val×Int):Option (((Unit)×Val)⊕((Unit)×Val)) :=
 brn (decide (x.2.2.snd=0))
  (obnd (czt (x.fst,x.2.fst,x.2.2.fst,x.2.2.snd,decide (x.2.2.snd=0))) fun y=>osum y (fun y=>some (Sum.inl ((),y.2))) fun y=>some (Sum.inr ((),y.2)))
  (brn (decide (x.2.2.snd=1))
   (obnd (czt (x.fst,x.2.fst,x.2.2.fst,x.2.2.snd,decide (x.2.2.snd=1))) fun y=>osum y (fun y=>some (Sum.inl ((),y.2))) fun y=>some (Sum.inr ((),y.2)))
   (brn (decide (x.2.2.snd=2))
    (obnd (czt (x.fst,x.2.fst,x.2.2.fst,x.2.2.snd,decide (x.2.2.snd=2))) fun y=>osum y (fun y=>some (Sum.inl ((),y.2))) fun y=>some (Sum.inr ((),y.2)))
    (brn (decide (x.2.2.snd=3))
     (obnd (czt (x.fst,x.2.fst,x.2.2.fst,x.2.2.snd,decide (x.2.2.snd=3))) fun y=>osum y (fun y=>some (Sum.inl ((),y.2))) fun y=>some (Sum.inr ((),y.2)))
     (brn (decide (x.2.2.snd=4))
      (obnd (czt (x.fst,x.2.fst,x.2.2.fst,x.2.2.snd,decide (x.2.2.snd=4))) fun y =>
       osum y (fun y=>some (Sum.inl ((),y.2))) fun y=>some (Sum.inr ((),y.2)))
      (brn (decide (x.2.2.snd=11))
       (obnd (czt (x.fst,x.2.fst,x.2.2.fst,x.2.2.snd,decide (x.2.2.snd=11))) fun y =>
        osum y (fun y=>some (Sum.inl ((),y.2))) fun y=>some (Sum.inr ((),y.2)))
       (brn (decide (x.2.2.snd=12))
        (obnd (czt (x.fst,x.2.fst,x.2.2.fst,x.2.2.snd,decide (x.2.2.snd=12))) fun y =>
         osum y (fun y=>some (Sum.inl ((),y.2))) fun y=>some (Sum.inr ((),y.2)))
        (obnd (czt (x.fst,x.2.fst,x.2.2.fst,x.2.2.snd,decide (x.2.2.snd=18))) fun y =>
         osum y (fun y=>some (Sum.inl ((),y.2))) fun y=>some (Sum.inr ((),y.2)))))))))
def dzs:CutSpec tb:=⟨51,[(0,.val 3),(1,.val 34),(4,.ref 32),(42,.val 3)],[(.normal,[]),(.ret,[])],[44,43,45,46,47,48,49,50,51,52,53,54,56,55,57,58,59,60,61,62,64,63,65],ozt⟩
theorem sz7:∀ x,gzf Tryz.prog tb hzy [dzt] (azx 51 Tryz.f19) dzs.ins dzs.outs x=dzs.J x:=fun x=>by kernel_rfl
theorem uzH:cutB Tryz.f19.ntmps dzs (azx 51 Tryz.f19)=true:=by kernel_rfl
theorem sz8:azi ([dzt]:List (CutSpec tb)) (azx 51 Tryz.f19)=[(114,azx 114 Tryz.f19)]:=by kernel_rfl
theorem rzQ:azm Tryz.prog tb Tryz.f19.ntmps (azx 51 Tryz.f19) dzs:=gzy mixed uzH gzz rfl sz8 (.cons rfl rzR rfl .nil) sz7
def kzn (back:List (Val)×List Arg×Int×Int→Option (List (Val))) (x:List (Val)×List Arg×Int×Int):Option (List (Val)) :=
 brn (decide (x.2.2.snd < x.2.2.fst))
  (obnd (idx x.2.fst x.2.2.snd) fun y=>obnd (idx y.L 0) fun y=>obnd (app 56 x.fst [y]) fun zs=>back (zs,x.2.fst,x.2.2.fst,IntKind.i64.wrap (x.2.2.snd+1))) (some x.1)
def ozv:List (Val)×List Arg×Int×Int→Option (List (Val)):=iter kzn big
def ezM:CutSpec tb:=⟨212,[(6,.own 32),(70,.val 34),(71,.val 3),(72,.val 3)],[((.exit 1),[(6,.own 32)])],[73,74,75,8,76,77,78,79,80,81,82,6,83,72],ozv⟩
theorem tzd:∀ back x,azP Tryz.prog tb hzy [] (azb 212 Tryz.f19) ezM.ins ezM.outs back x=kzn back x:=fun back x=>by kernel_rfl
theorem uzK:cutB Tryz.f19.ntmps ezM (azb 212 Tryz.f19)=true:=by kernel_rfl
theorem tze:azi ([]:List (CutSpec tb)) (azb 212 Tryz.f19)=[]:=by kernel_rfl
theorem rzT:azm Tryz.prog tb Tryz.f19.ntmps (.loop (azb 212 Tryz.f19)) ezM:=azR mixed uzK gzz rfl tze .nil kzn tzd rfl
def ozu (x:Int×Val×List Val×Int):Option (((Unit)×Val)⊕((Unit)×Val)) :=
 brn (decide (x.2.2.snd=21)) (obnd (idx x.2.2.fst 0) fun y=>obnd (czu (decide (y.Kind=0))) fun y=>some (Sum.inr ((),y)))
  (brn (decide (x.2.2.snd=22)) (obnd (idx x.2.2.fst 0) fun y=>obnd (czu (decide (y.Kind=4))) fun y=>some (Sum.inr ((),y)))
   (brn (decide (x.2.2.snd=29))
    (obnd (idx x.2.2.fst 0) fun y =>
     obnd (bzD (fzU keq3 0 y.Kind (hzA keq3 4 16 (hzA keq3 3 4 (hzA keq3 2 2 (hzA keq3 1 1 (hzA keq3 0 1 [])))))))
      fun y=>some (Sum.inr ((),y)))
    (brn (decide (x.2.2.snd=13))
     (obnd (idx x.2.2.fst 0) fun y=>obnd (gzw y) fun y=>brn (!y.2.snd) (some (Sum.inr ((),y.2.fst))) (obnd (czu !y.fst) fun y=>some (Sum.inr ((),y))))
     (brn (decide (x.2.2.snd=5)) (brn (decide (x.2.2.snd=5)) (obnd (ezP (x.fst,x.2.2.fst)) fun y=>some (Sum.inr ((),y))) (some (Sum.inl ((),x.2.fst))))
      (brn (decide (x.2.2.snd=6)) (brn (decide (x.2.2.snd=6)) (obnd (ezP (x.fst,x.2.2.fst)) fun y=>some (Sum.inr ((),y))) (some (Sum.inl ((),x.2.fst))))
       (brn (decide (x.2.2.snd=7)) (brn (decide (x.2.2.snd=7)) (obnd (ezP (x.fst,x.2.2.fst)) fun y=>some (Sum.inr ((),y))) (some (Sum.inl ((),x.2.fst))))
        (brn (decide (x.2.2.snd=8)) (brn (decide (x.2.2.snd=8)) (obnd (ezP (x.fst,x.2.2.fst)) fun y=>some (Sum.inr ((),y))) (some (Sum.inl ((),x.2.fst))))
         (brn (decide (x.2.2.snd=9)) (obnd (ezP (x.fst,x.2.2.fst)) fun y=>some (Sum.inr ((),y))) (some (Sum.inl ((),x.2.fst)))))))))))
def dzu:CutSpec tb:=⟨251,[(0,.val 3),(4,.ref 32),(6,.val 46),(84,.val 3)],[(.normal,[]),(.ret,[])],[86,85,87,88,89,90,91,92,94,93,95,96,97,98,99,100,102,101,103,104,105,106,107,108,109,110,112,111,114,115,116,117,113,118,119,120,10,9,11,121,122,123,124,125,126,128,127,129,130,131,132,133,134,135],ozu⟩
theorem tzb:∀ x,gzf Tryz.prog tb hzy [] (azx 251 Tryz.f19) dzu.ins dzu.outs x=dzu.J x:=fun x=>by kernel_rfl
theorem uzJ:cutB Tryz.f19.ntmps dzu (azx 251 Tryz.f19)=true:=by kernel_rfl
theorem tzc:azi ([]:List (CutSpec tb)) (azx 251 Tryz.f19)=[]:=by kernel_rfl
theorem rzS:azm Tryz.prog tb Tryz.f19.ntmps (azx 251 Tryz.f19) dzu:=gzy mixed uzJ gzz rfl tzc .nil tzb
def sz6 (x:Int×List Arg):Option (Val) :=
 obnd (rzX ()) fun y =>
  brn (decide (x.fst < 0)) (obnd (azj 15) fun y=>some y)
   (brn (decide ((↑(List.length y):Int)≤x.fst)) (obnd (azj 15) fun y=>some y)
    (obnd (idx y x.fst) fun y_1 =>
     brn (decide ((↑x.snd.length:Int) < y_1.lo)) (obnd (azj 15) fun y=>some y)
      (obnd (idx y x.fst) fun y =>
       brn (decide (y.hi < (↑x.snd.length:Int))) (obnd (azj 15) fun y=>some y)
        (obnd (ozt (x.fst,x.snd,{ Kind:=0,N:={ M:=0,S:=0 },S:=[],B:=false,E:=0 },x.fst)) fun y =>
         osum y
          (fun y =>
           obnd (jzU x.snd) fun y_2 =>
            brn (!y_2) (obnd (azj 15) fun y=>some y)
             (obnd (ozv ([],x.snd,(↑x.snd.length:Int),0)) fun y_3 =>
              obnd (ozu (x.fst,y.2,y_3,x.fst)) fun y=>osum y (fun y=>obnd (rza (x.fst,y_3)) fun y=>some y) fun y=>some y.2))
          fun y=>some y.2))))
def gzk:FSpec tb:=⟨[(0,.val 3),(1,.val 34)],[(0,.val 32)],sz6⟩
theorem xzk:∀ x,evFn Tryz.prog tb hzy [dzs,ezM,dzu] Tryz.f19 gzk.ins gzk.outs x=gzk.f x:=fun x=>by kernel_rfl
theorem yzC:fnK Tryz.f19 gzk.ins gzk.outs=true:=by kernel_rfl
theorem xzl:azi ([dzs,ezM,dzu]:List (CutSpec tb)) (azL Tryz.f19)=[(51,azx 51 Tryz.f19),(212,.loop (azb 212 Tryz.f19)),(251,azx 251 Tryz.f19)]:=by kernel_rfl
theorem tzf:azc Tryz.prog tb 19 gzk:=az8 mixed Tryz.func19 yzC gzz rfl xzl (.cons rfl rzQ rfl (.cons rfl rzT rfl (.cons rfl rzS rfl .nil))) xzk
abbrev nz1:List (Nat×FSpec tb):=[(32,azK),(33,czM),(37,gzS),(86,cz5),(36,fzn)]
theorem ozA:azy Tryz.prog tb nz1:=(.cons azA (.cons czV (.cons ozp (.cons dzv (.cons hzY .nil)))))
def kzp (back:Dec×Val×Dec×Int×Int→Option (((Unit)×(Val×Dec))⊕((Unit)×(Val×Dec)))) (x:Dec×Val×Dec×Int×Int):Option (((Unit)×(Val×Dec))⊕((Unit)×(Val×Dec))) :=
 brn (decide (x.2.2.2.snd < x.2.2.2.fst))
  (obnd (rzA (x.2.2.fst,x.fst)) fun y =>
   brn (!decide (y.snd=0)) (obnd (az6 y) fun y_1=>some (Sum.inr ((),y_1,y.fst))) (back (x.fst,x.2.fst,y.fst,x.2.2.2.fst,IntKind.i64.wrap (x.2.2.2.snd+1))))
  (some (Sum.inl ((),x.2.fst,x.2.2.fst)))
def ozB:Dec×Val×Dec×Int×Int→Option (((Unit)×(Val×Dec))⊕((Unit)×(Val×Dec))):=iter kzp big
def ezO:CutSpec tb:=⟨52,[(2,.ro 30),(4,.ref 32),(5,.ref 30),(27,.val 2),(28,.val 2)],[((.exit 0),[]),(.ret,[])],[29,31,32,33,30,34,35,6,36,37,38,39,40,41,28],ozB⟩
theorem tzt:∀ back x,azP Tryz.prog tb nz1 [] (azb 52 Tryz.f88) ezO.ins ezO.outs back x=kzp back x:=fun back x=>by kernel_rfl
theorem uz7:cutB Tryz.f88.ntmps ezO (azb 52 Tryz.f88)=true:=by kernel_rfl
theorem tzu:azi ([]:List (CutSpec tb)) (azb 52 Tryz.f88)=[]:=by kernel_rfl
theorem rz6:azm Tryz.prog tb Tryz.f88.ntmps (.loop (azb 52 Tryz.f88)) ezO:=azR mixed uz7 ozA rfl tzu .nil kzp tzt rfl
def tzs (x:Dec×Dec):Option (Val) :=
 brn (!decide (x.snd.S=0)) (obnd (azj 36) fun y=>some y)
  (brn (decide (x.snd.M < -64)) (obnd (azj 36) fun y=>some y)
   (brn (decide (64 < x.snd.M)) (obnd (azj 36) fun y=>some y)
    (obnd (czy 1) fun y =>
     obnd
      (ozB
       (x.fst,{ Kind:=0,N:={ M:=0,S:=0 },S:=[],B:=false,E:=0 },y,
        bif decide (x.snd.M < IntKind.i64.wrap (0 - x.snd.M)) then IntKind.i64.wrap (0 - x.snd.M) else x.snd.M,0))
      fun y =>
      osum y
       (fun y =>
        brn (decide (x.snd.M < 0)) (obnd (czy 1) fun y_1=>obnd (jzj (y_1,y.2.snd)) fun y=>obnd (az6 y) fun y=>some y)
         (obnd (az6 (y.2.snd,0)) fun y=>some y))
       fun y=>some y.2.fst)))
def gzn:FSpec tb:=⟨[(0,.val 30),(1,.val 30)],[(0,.val 32)],tzs⟩
theorem xzt:∀ x,evFn Tryz.prog tb nz1 [ezO] Tryz.f88 gzn.ins gzn.outs x=gzn.f x:=fun x=>by kernel_rfl
theorem yzK:fnK Tryz.f88 gzn.ins gzn.outs=true:=by kernel_rfl
theorem xzu:azi ([ezO]:List (CutSpec tb)) (azL Tryz.f88)=[(52,.loop (azb 52 Tryz.f88))]:=by kernel_rfl
theorem tzv:azc Tryz.prog tb 88 gzn:=az8 mixed Tryz.func88 yzK ozA rfl xzu (.cons rfl rz6 rfl .nil) xzt
abbrev mzO:List (Nat×FSpec tb):=[(32,azK),(84,fz5),(83,ez3),(27,ezA),(63,czP),(85,bzG),(87,gzQ),(86,cz5),(35,fz9),(37,gzS),(36,fzn),(88,gzn)]
theorem nzj:azy Tryz.prog tb mzO:=(.cons azA (.cons nzD (.cons jzp (.cons qzX (.cons ez4 (.cons bz5 (.cons ozo (.cons dzv (.cons kzi (.cons ozp (.cons hzY (.cons tzv .nil))))))))))))
def nzk (x:Int×Val×Val×Val):Option (((Unit)×Val)⊕((Unit)×Val)) :=
 brn (decide (x.2.fst.Kind=4)) (some (Sum.inr ((),x.2.fst)))
  (brn (decide (x.2.2.fst.Kind=4)) (some (Sum.inr ((),x.2.2.fst)))
   (brn (decide (x.fst < 1)) (obnd (azj 15) fun y=>some (Sum.inr ((),y)))
    (brn (decide (12 < x.fst)) (obnd (azj 15) fun y=>some (Sum.inr ((),y)))
     (brn (decide (x.fst=6))
      (obnd (mzz x.2.fst) fun y=>obnd (mzz x.2.2.fst) fun y_1=>obnd (cat y y_1) fun z=>obnd (dzg z) fun y=>some (Sum.inr ((),y)))
      (brn (decide (6 < x.fst))
       (obnd (pzZ (x.2.fst,x.2.2.fst)) fun y =>
        obnd (idx [decide (y=0),!decide (y=0),decide (y < 0),decide (y≤0),decide (0 < y),decide (0≤y)] (IntKind.i64.wrap (x.fst - 7))) fun y =>
         obnd (czu y) fun y=>some (Sum.inr ((),y)))
       (some (Sum.inl ((),x.2.2.snd))))))))
def cz4:CutSpec tb:=⟨19,[(0,.val 3),(4,.ro 32),(5,.ro 32),(6,.ref 32)],[(.normal,[]),(.ret,[])],[13,14,15,12,16,18,19,20,17,21,23,24,25,26,27,28,22,29,31,32,30,33,34,35,36,37,38,40,41,39,42,43,44,7,45,46,47,48,49,50,51,52,53,54,55,56,57,58,59,60,61,62],nzk⟩
theorem rzU:∀ x,gzf Tryz.prog tb mzO [] (azx 19 Tryz.f30) cz4.ins cz4.outs x=cz4.J x:=fun x=>by kernel_rfl
theorem tzg:cutB Tryz.f30.ntmps cz4 (azx 19 Tryz.f30)=true:=by kernel_rfl
theorem rzV:azi ([]:List (CutSpec tb)) (azx 19 Tryz.f30)=[]:=by kernel_rfl
theorem qzx:azm Tryz.prog tb Tryz.f30.ntmps (azx 19 Tryz.f30) cz4:=gzy mixed tzg nzj rfl rzV .nil rzU
def qz8 (x:Int×Val×Val):Option (Val) :=
 obnd (nzk (x.fst,x.2.fst,x.2.snd,{ Kind:=0,N:={ M:=0,S:=0 },S:=[],B:=false,E:=0 })) fun y =>
  osum y
   (fun y =>
    obnd (bzR x.2.fst) fun y =>
     brn (!y.2.snd) (some y.2.fst)
      (obnd (bzR x.2.snd) fun y_1 =>
       brn (!y_1.2.snd) (some y_1.2.fst)
        (brn (decide (x.fst=1)) (obnd (rzz (y.fst,y_1.fst)) fun y=>obnd (az6 y) fun y=>some y)
         (brn (decide (x.fst=2)) (obnd (lzg (y.fst,y_1.fst)) fun y=>obnd (az6 y) fun y=>some y)
          (brn (decide (x.fst=3)) (obnd (rzA (y.fst,y_1.fst)) fun y=>obnd (az6 y) fun y=>some y)
           (brn (decide (x.fst=4)) (obnd (jzj (y.fst,y_1.fst)) fun y=>obnd (az6 y) fun y=>some y)
            (obnd (tzs (y.fst,y_1.fst)) fun y=>some y)))))))
   fun y=>some y.2
def fzr:FSpec tb:=⟨[(0,.val 3),(1,.val 32),(2,.val 32)],[(0,.val 32)],qz8⟩
theorem wzf:∀ x,evFn Tryz.prog tb mzO [cz4] Tryz.f30 fzr.ins fzr.outs x=fzr.f x:=fun x=>by kernel_rfl
theorem xzm:fnK Tryz.f30 fzr.ins fzr.outs=true:=by kernel_rfl
theorem wzg:azi ([cz4]:List (CutSpec tb)) (azL Tryz.f30)=[(19,azx 19 Tryz.f30)]:=by kernel_rfl
theorem rzW:azc Tryz.prog tb 30 fzr:=az8 mixed Tryz.func30 xzm nzj rfl wzg (.cons rfl qzx rfl .nil) wzf
def tzh (x:Int×Val):Option (Val) :=
 brn (decide (x.fst=2)) (some x.snd)
  (brn (!decide (x.fst=1))
   (brn (!decide (x.fst=3)) (obnd (azj 15) fun y=>some y)
    (obnd (bzR x.snd) fun y =>
     brn (!y.2.snd) (some y.2.fst)
      (brn (decide (x.fst=1)) (obnd (czy 0) fun y_1=>obnd (lzg (y_1,y.fst)) fun y=>obnd (az6 y) fun y=>some y)
       (obnd (czy 100) fun y_1=>obnd (jzj (y.fst,y_1)) fun y=>obnd (az6 y) fun y=>some y))))
   (obnd (bzR x.snd) fun y =>
    brn (!y.2.snd) (some y.2.fst)
     (brn (decide (x.fst=1)) (obnd (czy 0) fun y_1=>obnd (lzg (y_1,y.fst)) fun y=>obnd (az6 y) fun y=>some y)
      (obnd (czy 100) fun y_1=>obnd (jzj (y.fst,y_1)) fun y=>obnd (az6 y) fun y=>some y))))
def gzl:FSpec tb:=⟨[(0,.val 3),(1,.val 32)],[(0,.val 32)],tzh⟩
theorem xzn:∀ x,evFn Tryz.prog tb [(32,azK),(85,bzG),(33,czM),(35,fz9),(86,cz5),(36,fzn)] [] Tryz.f40 gzl.ins gzl.outs x=gzl.f x:=fun x=>by kernel_rfl
theorem yzE:fnK Tryz.f40 gzl.ins gzl.outs=true:=by kernel_rfl
theorem tzi:azc Tryz.prog tb 40 gzl:=azq mixed Tryz.func40 yzE (.cons azA (.cons bz5 (.cons czV (.cons kzi (.cons dzv (.cons hzY .nil)))))) rfl xzn
end Go.Proofs.YtdgpkbnnljblmaaGreatDoor

/- E1 -/
namespace Go.Proofs.YtdgpkbnnljblmaaGreatDoor
open Go Go.Ev
set_option linter.unusedVariables false
noncomputable section
def lzH (x:Int×Int×Int):Option (Place) :=
 some { Sheet:=x.fst,At:={ Row:=x.2.fst,Col:=x.2.snd } }
def gzp:FSpec tb:=⟨[(0,.val 3),(1,.val 3),(2,.val 3)],[(0,.val 88)],lzH⟩
theorem zzR:∀ x,evFn Tryz.prog tb [] [] Tryz.f51 gzp.ins gzp.outs x=gzp.f x:=fun x=>by kernel_rfl
theorem law14_P_k:fnK Tryz.f51 gzp.ins gzp.outs=true:=by kernel_rfl
theorem kzs:azc Tryz.prog tb 51 gzp:=azq mixed Tryz.func51 law14_P_k .nil rfl zzR
def dzZ (back:Int×List Int×Int×Int→Option ((Unit)⊕(Int))) (x:Int×List Int×Int×Int):Option ((Unit)⊕(Int)) :=
 brn (decide (x.2.2.snd < x.2.2.fst))
  (obnd (idx x.2.fst x.2.2.snd) fun y=>brn (!decide (y=x.fst)) (some (Sum.inr y)) (back (x.fst,x.2.fst,x.2.2.fst,IntKind.i64.wrap (x.2.2.snd+1))))
  (some (Sum.inl PUnit.unit))
def jzh:Int×List Int×Int×Int→Option ((Unit)⊕(Int)):=iter dzZ big
def dzY:CutSpec tb:=⟨36,[(3,.val 3),(6,.val 53),(7,.val 3),(8,.val 3)],[((.exit 0),[]),(.ret,[(2,.val 3)])],[9,10,11,5,12,13,14,15,2,16,8],jzh⟩
theorem rzu:∀ back x,azP Tryz.prog tb [] [] (azb 36 Tryz.f268) (dzY).ins (dzY).outs back x=dzZ back x:=fun back x=>by kernel_rfl
theorem szE:cutB Tryz.f268.ntmps (dzY) (azb 36 Tryz.f268)=true:=by kernel_rfl
theorem rzv:azi ([]:List (CutSpec tb)) (azb 36 Tryz.f268)=[]:=by kernel_rfl
theorem qzm:azm Tryz.prog tb Tryz.f268.ntmps (.loop (azb 36 Tryz.f268)) (dzY):=azR mixed szE .nil rfl rzv .nil dzZ rzu rfl
def jzQ (x:List Int):Option (Int) :=
 obnd (jzh (0,x,(↑x.length:Int),0)) fun y=>osum y (fun y=>some 0) fun y=>some y
def fzm:FSpec tb:=⟨[(0,.val 53)],[(0,.val 3)],jzQ⟩
theorem vz2:∀ x,evFn Tryz.prog tb [] [dzY] Tryz.f268 fzm.ins fzm.outs x=fzm.f x:=fun x=>by kernel_rfl
theorem wz0:fnK Tryz.f268 fzm.ins fzm.outs=true:=by kernel_rfl
theorem vz3:azi ([dzY]:List (CutSpec tb)) (azL Tryz.f268)=[(36,.loop (azb 36 Tryz.f268))]:=by kernel_rfl
theorem rzw:azc Tryz.prog tb 268 fzm:=az8 mixed Tryz.func268 wz0 .nil rfl vz3 (.cons rfl qzm rfl .nil) vz2
def nzQ (x:Place×Place):Option (Int) :=
 obnd (azO (x.fst.Sheet,x.snd.Sheet)) fun y =>
  obnd (azO (x.fst.At.Row,x.snd.At.Row)) fun y_1=>obnd (azO (x.fst.At.Col,x.snd.At.Col)) fun y_2=>obnd (jzQ [y,y_1,y_2]) fun y=>some y
def gze:FSpec tb:=⟨[(0,.val 88),(1,.val 88)],[(0,.val 3)],nzQ⟩
theorem xza:∀ x,evFn Tryz.prog tb [(80,bzs),(268,fzm)] [] Tryz.f249 gze.ins gze.outs x=gze.f x:=fun x=>by kernel_rfl
theorem yzq:fnK Tryz.f249 gze.ins gze.outs=true:=by kernel_rfl
theorem sz1:azc Tryz.prog tb 249 gze:=azq mixed Tryz.func249 yzq (.cons dzl (.cons rzw .nil)) rfl xza
def jz5 (x:Place×Place):Option (Bool) :=
 obnd (nzQ x) fun y=>some (decide (y < 0))
def gzX:FSpec tb:=⟨[(0,.val 88),(1,.val 88)],[(0,.val 4)],jz5⟩
theorem yzm:∀ x,evFn Tryz.prog tb [(249,gze)] [] Tryz.f212 gzX.ins gzX.outs x=gzX.f x:=fun x=>by kernel_rfl
theorem zzn:fnK Tryz.f212 gzX.ins gzX.outs=true:=by kernel_rfl
theorem uzy:azc Tryz.prog tb 212 gzX:=azq mixed Tryz.func212 zzn (.cons sz1 .nil) rfl yzm
abbrev lz9:List (Nat×FSpec tb):=[(212,gzX)]
theorem lzl:azy Tryz.prog tb (lz9):=(.cons uzy .nil)
def hzu (back:List Slot×Place×Int×Int→Option (Int×Bool)) (x:List Slot×Place×Int×Int):Option (Int×Bool) :=
 brn (decide (x.2.2.fst=x.2.2.snd))
  (brn (decide (x.2.2.fst < (↑x.fst.length:Int)))
   (obnd (idx x.fst x.2.2.fst) fun y =>
    some
     (x.2.2.fst,
      bif false then !(decide (y.P.Sheet=x.2.fst.Sheet)&&(decide (y.P.At.Row=x.2.fst.At.Row)&&decide (y.P.At.Col=x.2.fst.At.Col)))
      else decide (y.P.Sheet=x.2.fst.Sheet)&&(decide (y.P.At.Row=x.2.fst.At.Row)&&decide (y.P.At.Col=x.2.fst.At.Col))))
   (some (x.2.2.fst,false)))
  (obnd (idx x.fst (IntKind.i64.wrap ((IntKind.i64.wrap (x.2.2.fst+x.2.2.snd)).tdiv 2))) fun y =>
   obnd (jz5 (y.P,x.2.fst)) fun y =>
    brn y (obnd (back (x.fst,x.2.fst,IntKind.i64.wrap (IntKind.i64.wrap ((IntKind.i64.wrap (x.2.2.fst+x.2.2.snd)).tdiv 2)+1),x.2.2.snd)) fun y=>some y)
     (obnd (back (x.fst,x.2.fst,x.2.2.fst,IntKind.i64.wrap ((IntKind.i64.wrap (x.2.2.fst+x.2.2.snd)).tdiv 2))) fun y=>some y))
def hzw:List Slot×Place×Int×Int→Option (Int×Bool):=iter hzu big
def fzM:CutSpec tb:=⟨33,[(0,.val 98),(3,.ro 88),(6,.val 3),(7,.val 3)],[(.ret,[(4,.val 3),(5,.val 4)])],[11,12,13,14,15,16,17,18,19,20,21,22,23,24,25,26,27,4,5,28,29,30,31,8,32,33,34,35,36,37,38,39,40,6,41,7],hzw⟩
theorem rzI:∀ back x,kz7 Tryz.prog tb lz9 [] [(0,(⟨33,[(0,.val 98),(3,.ro 88),(6,.val 3),(7,.val 3)],[(.ret,[(4,.val 3),(5,.val 4)])],[11,12,13,14,15,16,17,18,19,20,21,22,23,24,25,26,27,4,5,28,29,30,31,8,32,33,34,35,36,37,38,39,40,6,41,7],back⟩:CutSpec tb))] (restAt (hzC 21 Tryz.f130) 0) fzM.ins fzM.outs x=hzu back x:=fun back x=>by kernel_rfl
theorem szZ:cutB Tryz.f130.ntmps fzM (restAt (hzC 21 Tryz.f130) 0)=true:=by kernel_rfl
theorem rzJ:azi ([]:List (CutSpec tb)) (restAt (hzC 21 Tryz.f130) 0)=[]:=by kernel_rfl
theorem qzt:dzb Tryz.prog tb Tryz.f130.ntmps (hzC 21 Tryz.f130) 0 fzM:=label_it fun self hself=>label_ev mixed (by kernel_rfl) szZ lzl rfl rzJ .nil (.cons hself rfl .nil) (rzI self)
def lzm (x:List Slot×Place):Option ((Unit)⊕(Int×Bool)) :=
 brn (decide (0=(↑x.fst.length:Int)))
  (brn (decide (0 < (↑x.fst.length:Int)))
   (obnd (idx x.fst 0) fun y =>
    some
     (Sum.inr
      (0,
       bif false then !(decide (y.P.Sheet=x.snd.Sheet)&&(decide (y.P.At.Row=x.snd.At.Row)&&decide (y.P.At.Col=x.snd.At.Col)))
       else decide (y.P.Sheet=x.snd.Sheet)&&(decide (y.P.At.Row=x.snd.At.Row)&&decide (y.P.At.Col=x.snd.At.Col)))))
   (some (Sum.inr (0,false))))
  (obnd (idx x.fst (IntKind.i64.wrap ((IntKind.i64.wrap (0+(↑x.fst.length:Int))).tdiv 2))) fun y =>
   obnd (jz5 (y.P,x.snd)) fun y =>
    brn y
     (obnd (hzw (x.fst,x.snd,IntKind.i64.wrap (IntKind.i64.wrap ((IntKind.i64.wrap (0+(↑x.fst.length:Int))).tdiv 2)+1),(↑x.fst.length:Int))) fun y =>
      some (Sum.inr y))
     (obnd (hzw (x.fst,x.snd,0,IntKind.i64.wrap ((IntKind.i64.wrap (0+(↑x.fst.length:Int))).tdiv 2))) fun y=>some (Sum.inr y)))
def ezd:CutSpec tb:=⟨21,[(0,.val 98),(3,.ro 88)],[(.normal,[]),(.ret,[(4,.val 3),(5,.val 4)])],[9,10,6,7,8,11,12,13,14,15,16,17,18,19,20,21,22,23,24,25,26,27,4,5,28,29,30,31,32,33,34,35,36,37,38,39,40,41],lzm⟩
theorem uzz:∀ x,kz7 Tryz.prog tb lz9 [] [(0,fzM)] (hzC 21 Tryz.f130) ezd.ins ezd.outs x=ezd.J x:=fun x=>by kernel_rfl
theorem wzb:cutB Tryz.f130.ntmps ezd (hzC 21 Tryz.f130)=true:=by kernel_rfl
theorem uzA:azi ([]:List (CutSpec tb)) (hzC 21 Tryz.f130)=[]:=by kernel_rfl
theorem sz0:azm Tryz.prog tb Tryz.f130.ntmps (.scope (hzC 21 Tryz.f130)) ezd:=scope_ev mixed wzb lzl rfl uzA .nil (.cons qzt rfl .nil) uzz
def jz6 (x:List Slot×Place):Option (Int×Bool) :=
 obnd (lzm x) fun y=>osum y (fun y=>none) fun y=>some y
def fz3:FSpec tb:=⟨[(0,.val 98),(1,.val 88)],[(0,.val 3),(1,.val 4)],jz6⟩
theorem yzn:∀ x,evFn Tryz.prog tb lz9 [ezd] Tryz.f130 fz3.ins fz3.outs x=fz3.f x:=fun x=>by kernel_rfl
theorem zzp:fnK Tryz.f130 fz3.ins fz3.outs=true:=by kernel_rfl
theorem yzo:azi ([ezd]:List (CutSpec tb)) (azL Tryz.f130)=[(21,.scope (hzC 21 Tryz.f130))]:=by kernel_rfl
theorem mz7:azc Tryz.prog tb 130 fz3:=az8 mixed Tryz.func130 zzp lzl rfl yzo (.cons rfl sz0 rfl .nil) yzn
def bzP (x:List Slot):Option (List (Slot)) :=
 brn x.isEmpty (agree (some []) (obnd (app 80 [] x) fun zs=>some zs)) (obnd (app 80 [] x) fun zs=>some zs)
def azX:FSpec tb:=⟨[(0,.val 98)],[(0,.own 196)],bzP⟩
theorem hzU:∀ x,evFn Tryz.prog tb [] [] Tryz.f131 azX.ins azX.outs x=azX.f x:=fun x=>by kernel_rfl
theorem ize:fnK Tryz.f131 azX.ins azX.outs=true:=by kernel_rfl
theorem hzj:azc Tryz.prog tb 131 azX:=azq mixed Tryz.func131 ize .nil rfl hzU
def ezo (_:List Slot×Int×Int):Option (List (Slot)):=none
def ezp:FSpec tb:=⟨[(0,.val 98),(1,.val 3),(2,.val 3)],[(0,.own 196)],ezo⟩
theorem gzL:azc Tryz.prog tb 132 ezp:=uza (pzf Tryz.func132 (by kernel_rfl))
def jzJ (_:List Slot×Int):Option (Unit):=none
def fzY:FSpec tb:=⟨[(0,.val 98),(1,.val 3)],[],jzJ⟩
theorem hzW:azc Tryz.prog tb 214 fzY:=uza (pzf Tryz.func214 (by kernel_rfl))
def bzM (x:List (Slot)×Int×List Slot):Option (List Slot) :=
 obnd (sub x.fst x.2.fst (↑x.fst.length:Int)) fun z =>
  brn (decide ((↑x.2.snd.length:Int)=0)) (some x.1) (brn (decide (x.2.fst=(↑x.fst.length:Int))) (obnd (app 80 x.fst x.2.snd) fun zs=>some zs) none)
def azU:FSpec tb:=⟨[(0,.own 196),(1,.val 3),(2,.val 98)],[(0,.val 98)],bzM⟩
theorem hzL:∀ x,evFn Tryz.prog tb [(214,fzY)] [] Tryz.f133 azU.ins azU.outs x=azU.f x:=fun x=>by kernel_rfl
theorem hzV:fnK Tryz.f133 azU.ins azU.outs=true:=by kernel_rfl
theorem gzM:azc Tryz.prog tb 133 azU:=azq mixed Tryz.func133 hzV (.cons hzW .nil) rfl hzL
def nzP (x:Env×Place×Val):Option (Env) :=
 obnd (jz6 (x.fst.Slots,x.2.fst)) fun y =>
  obnd (bzP x.fst.Slots) fun y_1 =>
   brn y.snd
    (brn (decide (x.2.snd.Kind=0))
     (obnd (ezo (y_1,y.fst,IntKind.i64.wrap (y.fst+1))) fun y=>some { Sheets:=x.fst.Sheets,Slots:=y,Names:=x.fst.Names })
     (brn y.snd (obnd (idx y_1 y.fst) fun y=>none)
      (brn (!decide (x.2.snd.Kind=0))
       (obnd (bzM (y_1,y.fst,[{ P:=x.2.fst,V:=x.2.snd }])) fun y=>some { Sheets:=x.fst.Sheets,Slots:=y,Names:=x.fst.Names })
       (some { Sheets:=x.fst.Sheets,Slots:=y_1,Names:=x.fst.Names }))))
    (brn y.snd (obnd (idx y_1 y.fst) fun y=>none)
     (brn (!decide (x.2.snd.Kind=0))
      (obnd (bzM (y_1,y.fst,[{ P:=x.2.fst,V:=x.2.snd }])) fun y=>some { Sheets:=x.fst.Sheets,Slots:=y,Names:=x.fst.Names })
      (some { Sheets:=x.fst.Sheets,Slots:=y_1,Names:=x.fst.Names })))
def hz7:FSpec tb:=⟨[(0,.val 100),(1,.val 88),(2,.val 32)],[(0,.val 100)],nzP⟩
theorem zzo:∀ x,evFn Tryz.prog tb [(130,fz3),(131,azX),(132,ezp),(133,azU)] [] Tryz.f50 hz7.ins hz7.outs x=hz7.f x:=fun x=>by kernel_rfl
theorem env_Put_k:fnK Tryz.f50 hz7.ins hz7.outs=true:=by kernel_rfl
theorem wza:azc Tryz.prog tb 50 hz7:=azq mixed Tryz.func50 env_Put_k (.cons mz7 (.cons hzj (.cons gzL (.cons gzM .nil)))) rfl zzo
abbrev kzt:List (Nat×FSpec tb):=[(51,gzp),(26,gzE),(50,hz7)]
theorem lzI:azy Tryz.prog tb (kzt):=(.cons kzs (.cons izG (.cons wza .nil)))
def cz9 (back:Env×Int→Option ((Unit)×Env)) (x:Env×Int):Option ((Unit)×Env) :=
 brn (decide (x.snd < 3))
  (obnd (lzH (0,x.snd,0)) fun y=>obnd (gzD (IntKind.i64.wrap (x.snd+1))) fun y_1=>obnd (nzP (x.fst,y,y_1)) fun y=>back (y,IntKind.i64.wrap (x.snd+1)))
  (some ((),x.fst))
def izb:Env×Int→Option ((Unit)×Env):=iter cz9 big
def cz8:CutSpec tb:=⟨36,[(1,.ref 100),(2,.val 3)],[((.exit 0),[])],[4,5,8,9,10,11,12,13,14,6,7,2],izb⟩
theorem pzM:∀ back x,azP Tryz.prog tb kzt [] (azb 36 Tryz.f114) (cz8).ins (cz8).outs back x=cz9 back x:=fun back x=>by kernel_rfl
theorem qzP:cutB Tryz.f114.ntmps (cz8) (azb 36 Tryz.f114)=true:=by kernel_rfl
theorem pzN:azi ([]:List (CutSpec tb)) (azb 36 Tryz.f114)=[]:=by kernel_rfl
theorem oz0:azm Tryz.prog tb Tryz.f114.ntmps (.loop (azb 36 Tryz.f114)) (cz8):=azR mixed qzP lzI rfl pzN .nil cz9 pzM rfl
def hz0 (x:Unit):Option (Env) :=
 obnd (izb ({ Sheets:=2,Slots:=[],Names:=[] },0)) fun y=>some y.2
def dzz:FSpec tb:=⟨[],[(0,.val 100)],hz0⟩
theorem tzI:∀ x,evFn Tryz.prog tb kzt [cz8] Tryz.f114 dzz.ins dzz.outs x=dzz.f x:=fun x=>by kernel_rfl
theorem vzf:fnK Tryz.f114 dzz.ins dzz.outs=true:=by kernel_rfl
theorem tzJ:azi ([cz8]:List (CutSpec tb)) (azL Tryz.f114)=[(36,.loop (azb 36 Tryz.f114))]:=by kernel_rfl
theorem pzO:azc Tryz.prog tb 114 dzz:=az8 mixed Tryz.func114 vzf lzI rfl tzJ (.cons rfl oz0 rfl .nil) tzI
def mzT (x:Int×Int×Int):Option (Expr) :=
  some
    { Kind := 3, V := { Kind := 0, N := { M := 0, S := 0 }, S := [], B := false, E := 0 },
      A:={ A:={ Row:=x.fst,Col:=x.2.snd,RelRow:=false,RelCol:=false },B:={ Row:=x.2.fst,Col:=x.2.snd,RelRow:=false,RelCol:=false } },Sheet:=0,
      Op := 0, Kids := [] }
def fzz:FSpec tb:=⟨[(0,.val 3),(1,.val 3),(2,.val 3)],[(0,.val 96)],mzT⟩
theorem wzG:∀ x,evFn Tryz.prog tb [] [] Tryz.f53 fzz.ins fzz.outs x=fzz.f x:=fun x=>by kernel_rfl
theorem xzK:fnK Tryz.f53 fzz.ins fzz.outs=true:=by kernel_rfl
theorem szn:azc Tryz.prog tb 53 fzz:=azq mixed Tryz.func53 xzK .nil rfl wzG
def jzY (x:Int×List Expr):Option (Expr) :=
  some
    { Kind := 9, V := { Kind := 0, N := { M := 0, S := 0 }, S := [], B := false, E := 0 },
      A := { A := { Row := 0, Col := 0, RelRow := false, RelCol := false }, B := { Row := 0, Col := 0, RelRow := false, RelCol := false } }, Sheet := 0, Op := x.fst, Kids := x.snd }
def dzS:FSpec tb:=⟨[(0,.val 3),(1,.val 94)],[(0,.val 96)],jzY⟩
theorem wzF:∀ x,evFn Tryz.prog tb [] [] Tryz.f52 dzS.ins dzS.outs x=dzS.f x:=fun x=>by kernel_rfl
theorem xzI:fnK Tryz.f52 dzS.ins dzS.outs=true:=by kernel_rfl
theorem lzG:azc Tryz.prog tb 52 dzS:=azq mixed Tryz.func52 xzI .nil rfl wzF
def kzY (x:Int):Option (Expr) :=
  obnd (gzD x) fun y =>
    some
      { Kind := 1, V := y, A := { A := { Row := 0, Col := 0, RelRow := false, RelCol := false }, B := { Row := 0, Col := 0, RelRow := false, RelCol := false } }, Sheet := 0, Op := 0,
        Kids := [] }
def ez7:FSpec tb:=⟨[(0,.val 2)],[(0,.val 96)],kzY⟩
theorem xzJ:∀ x,evFn Tryz.prog tb [(26,gzE)] [] Tryz.f55 ez7.ins ez7.outs x=ez7.f x:=fun x=>by kernel_rfl
theorem yzR:fnK Tryz.f55 ez7.ins ez7.outs=true:=by kernel_rfl
theorem mzm:azc Tryz.prog tb 55 ez7:=azq mixed Tryz.func55 yzR (.cons izG .nil) rfl xzJ
def izE (x:Int×Expr×Expr):Option (Expr) :=
  some
    { Kind := 8, V := { Kind := 0, N := { M := 0, S := 0 }, S := [], B := false, E := 0 },
      A:={ A:={ Row:=0,Col:=0,RelRow:=false,RelCol:=false },B:={ Row:=0,Col:=0,RelRow:=false,RelCol:=false } },Sheet:=0,Op:=x.fst,
      Kids := [bzW x.2.fst, bzW x.2.snd] }
def ez6:FSpec tb:=⟨[(0,.val 3),(1,.val 96),(2,.val 96)],[(0,.val 96)],izE⟩
theorem xzH:∀ x,evFn Tryz.prog tb [] [] Tryz.f54 ez6.ins ez6.outs x=ez6.f x:=fun x=>by kernel_rfl
theorem yzQ:fnK Tryz.f54 ez6.ins ez6.outs=true:=by kernel_rfl
theorem mzl:azc Tryz.prog tb 54 ez6:=azq mixed Tryz.func54 yzQ .nil rfl xzH
def jzD (x:Int×Int):Option (Int) :=
 brn (decide (x.snd=0)) none (brn (decide (x.snd=0)) none (some ((IntKind.i64.wrap (x.fst.tmod x.snd+x.snd)).tmod x.snd)))
def hzg:FSpec tb:=⟨[(0,.val 3),(1,.val 3)],[(0,.val 3)],jzD⟩
theorem zz0:∀ x,evFn Tryz.prog tb [] [] Tryz.f264 hzg.ins hzg.outs x=hzg.f x:=fun x=>by kernel_rfl
theorem ref_mod_k:fnK Tryz.f264 hzg.ins hzg.outs=true:=by kernel_rfl
theorem ozI:azc Tryz.prog tb 264 hzg:=azq mixed Tryz.func264 ref_mod_k .nil rfl zz0
def ozc (x:Int×Int×Int):Option (Int) :=
 obnd (jzD (x.fst,x.2.snd)) fun y=>obnd (jzD x.2) fun y_1=>obnd (jzD (IntKind.i64.wrap (y+y_1),x.2.snd)) fun y=>some y
def izd:FSpec tb:=⟨[(0,.val 3),(1,.val 3),(2,.val 3)],[(0,.val 3)],ozc⟩
theorem zz1:∀ x,evFn Tryz.prog tb [(264,hzg)] [] Tryz.f265 izd.ins izd.outs x=izd.f x:=fun x=>by kernel_rfl
theorem ref_sum_k:fnK Tryz.f265 izd.ins izd.outs=true:=by kernel_rfl
theorem wzK:azc Tryz.prog tb 265 izd:=azq mixed Tryz.func265 ref_sum_k (.cons ozI .nil) rfl zz1
def nzx (x:Ref×Cell):Option (Cell) :=
 obnd (jzD (x.fst.Row,65536)) fun y =>
  obnd (jzD (x.fst.Col,256)) fun y_1 =>
   brn x.fst.RelRow
    (obnd (ozc (x.fst.Row,x.snd.Row,65536)) fun y =>
     brn x.fst.RelCol (obnd (ozc (x.fst.Col,x.snd.Col,256)) fun y_2=>some { Row:=y,Col:=y_2 }) (some { Row:=y,Col:=y_1 }))
    (brn x.fst.RelCol (obnd (ozc (x.fst.Col,x.snd.Col,256)) fun y_2=>some { Row:=y,Col:=y_2 }) (some { Row:=y,Col:=y_1 }))
def izh:FSpec tb:=⟨[(0,.val 91),(1,.val 86)],[(0,.val 86)],nzx⟩
theorem ref_At_eq:∀ x,evFn Tryz.prog tb [(264,hzg),(265,izd)] [] Tryz.f240 izh.ins izh.outs x=izh.f x:=fun x=>by kernel_rfl
theorem ref_At_k:fnK Tryz.f240 izh.ins izh.outs=true:=by kernel_rfl
theorem pzV:azc Tryz.prog tb 240 izh:=azq mixed Tryz.func240 ref_At_k (.cons ozI (.cons wzK .nil)) rfl ref_At_eq
def vzM (x:Cell):Option (Bool) :=
 brn (decide (0≤x.Row)) (brn (decide (x.Row < 65536)) (brn (decide (0≤x.Col)) (some (decide (x.Col < 256))) (some false)) (some false)) (some false)
def hzf:FSpec tb:=⟨[(0,.val 86)],[(0,.val 4)],vzM⟩
theorem yzX:∀ x,evFn Tryz.prog tb [] [] Tryz.f279 hzf.ins hzf.outs x=hzf.f x:=fun x=>by kernel_rfl
theorem zzZ:fnK Tryz.f279 hzf.ins hzf.outs=true:=by kernel_rfl
theorem vzl:azc Tryz.prog tb 279 hzf:=azq mixed Tryz.func279 zzZ .nil rfl yzX
def vzz (x:Env×Place):Option (Bool) :=
 brn (decide (0≤x.snd.Sheet)) (brn (decide (x.snd.Sheet < x.fst.Sheets)) (obnd (vzM x.snd.At) fun y=>some y) (some false)) (some false)
def gzY:FSpec tb:=⟨[(0,.val 100),(1,.val 88)],[(0,.val 4)],vzz⟩
theorem yzp:∀ x,evFn Tryz.prog tb [(279,hzf)] [] Tryz.f263 gzY.ins gzY.outs x=gzY.f x:=fun x=>by kernel_rfl
theorem zzq:fnK Tryz.f263 gzY.ins gzY.outs=true:=by kernel_rfl
theorem uzB:azc Tryz.prog tb 263 gzY:=azq mixed Tryz.func263 zzq (.cons vzl .nil) rfl yzp
def lzk (x:Env×Place):Option (Val) :=
 obnd (vzz x) fun y =>
  brn (!y) (obnd (azj 23) fun y=>some y)
   (obnd (jz6 (x.fst.Slots,x.snd)) fun y =>
    brn y.snd (obnd (idx x.fst.Slots y.fst) fun y=>some y.V) (some { Kind:=0,N:={ M:=0,S:=0 },S:=[],B:=false,E:=0 }))
def gzW:FSpec tb:=⟨[(0,.val 100),(1,.val 88)],[(0,.val 32)],lzk⟩
theorem zzm:∀ x,evFn Tryz.prog tb [(263,gzY),(32,azK),(130,fz3)] [] Tryz.f239 gzW.ins gzW.outs x=gzW.f x:=fun x=>by kernel_rfl
theorem env_Get_k:fnK Tryz.f239 gzW.ins gzW.outs=true:=by kernel_rfl
theorem ozr:azc Tryz.prog tb 239 gzW:=azq mixed Tryz.func239 env_Get_k (.cons uzB (.cons azA (.cons mz7 .nil))) rfl zzm
def mzW (x:Area×Cell):Option (Cell×Cell) :=
 obnd (nzx (x.fst.A,x.snd)) fun y =>
  obnd (nzx (x.fst.B,x.snd)) fun y_1 =>
   some
    ({ Row:=bif decide (y_1.Row < y.Row) then y_1.Row else y.Row,Col:=bif decide (y_1.Col < y.Col) then y_1.Col else y.Col },
     { Row:=bif decide (y.Row < y_1.Row) then y_1.Row else y.Row,Col:=bif decide (y.Col < y_1.Col) then y_1.Col else y.Col })
def dzT:FSpec tb:=⟨[(0,.val 93),(1,.val 86)],[(0,.val 86),(1,.val 86)],mzW⟩
theorem wzJ:∀ x,evFn Tryz.prog tb [(240,izh)] [] Tryz.f267 dzT.ins dzT.outs x=dzT.f x:=fun x=>by kernel_rfl
theorem xzR:fnK Tryz.f267 dzT.ins dzT.outs=true:=by kernel_rfl
theorem lzM:azc Tryz.prog tb 267 dzT:=azq mixed Tryz.func267 xzR (.cons pzV .nil) rfl wzJ
abbrev kz0:List (Nat×FSpec tb):=[(267,dzT)]
theorem kzu:azy Tryz.prog tb (kz0):=(.cons lzM .nil)
def kzw (back:Cell×List (Cell)×Int×Int→Option (List (Cell))) (x:Cell×List (Cell)×Int×Int):Option (List (Cell)) :=
 brn (decide (x.2.2.snd≤x.fst.Col)) (obnd (app 16 x.2.fst [{ Row:=x.2.2.fst,Col:=x.2.2.snd }]) fun zs=>back (x.fst,zs,x.2.2.fst,IntKind.i64.wrap (x.2.2.snd+1)))
  (some x.2.1)
def ozH:Cell×List (Cell)×Int×Int→Option (List (Cell)):=iter kzw big
def ezS:CutSpec tb:=⟨84,[(6,.ro 86),(7,.own 86),(8,.val 3),(9,.val 3)],[((.exit 2),[(7,.own 86)])],[40,41,42,43,46,47,48,49,50,51,7,44,45,9],ozH⟩
theorem tzY:∀ back x,azP Tryz.prog tb kz0 [] (azb 84 Tryz.f266) (ezS).ins (ezS).outs back x=kzw back x:=fun back x=>by kernel_rfl
theorem vzk:cutB Tryz.f266.ntmps (ezS) (azb 84 Tryz.f266)=true:=by kernel_rfl
theorem tzZ:azi ([]:List (CutSpec tb)) (azb 84 Tryz.f266)=[]:=by kernel_rfl
theorem szp:azm Tryz.prog tb Tryz.f266.ntmps (.loop (azb 84 Tryz.f266)) (ezS):=azR mixed vzk kzu rfl tzZ .nil kzw tzY rfl
def kzv (back:Cell×Cell×List (Cell)×Int→Option (List (Cell))) (x:Cell×Cell×List (Cell)×Int):Option (List (Cell)) :=
 brn (decide (x.2.2.snd≤x.2.fst.Row)) (obnd (ozH (x.2.fst,x.2.2.fst,x.2.2.snd,x.fst.Col)) fun y=>back (x.fst,x.2.fst,y,IntKind.i64.wrap (x.2.2.snd+1)))
  (some x.2.2.1)
def ozG:Cell×Cell×List (Cell)×Int→Option (List (Cell)):=iter kzv big
def ezR:CutSpec tb:=⟨60,[(5,.ro 86),(6,.ro 86),(7,.own 86),(8,.val 3)],[((.exit 0),[(7,.own 86)])],[32,33,34,35,38,39,9,40,41,42,43,46,47,48,49,50,51,7,44,45,36,37,8],ozG⟩
theorem tzW:∀ back x,azP Tryz.prog tb kz0 [ezS] (azb 60 Tryz.f266) (ezR).ins (ezR).outs back x=kzv back x:=fun back x=>by kernel_rfl
theorem vzj:cutB Tryz.f266.ntmps (ezR) (azb 60 Tryz.f266)=true:=by kernel_rfl
theorem tzX:azi ([ezS]:List (CutSpec tb)) (azb 60 Tryz.f266)=[(84,.loop (azb 84 Tryz.f266))]:=by kernel_rfl
theorem szo:azm Tryz.prog tb Tryz.f266.ntmps (.loop (azb 60 Tryz.f266)) (ezR):=azR mixed vzj kzu rfl tzX (.cons rfl szp rfl .nil) kzv tzW rfl
def tzV (x:Area×Cell):Option (List (Cell)) :=
 obnd (mzW x) fun y =>
  brn (decide (4096 < IntKind.i64.wrap (IntKind.i64.wrap (IntKind.i64.wrap (y.snd.Row - y.fst.Row)+1)*IntKind.i64.wrap (IntKind.i64.wrap (y.snd.Col - y.fst.Col)+1))))
   (some []) (obnd (ozG (y.fst,y.snd,[],y.fst.Row)) fun y=>some y)
def gzt:FSpec tb:=⟨[(0,.val 93),(1,.val 86)],[(0,.own 86)],tzV⟩
theorem xzS:∀ x,evFn Tryz.prog tb kz0 [ezR] Tryz.f266 gzt.ins gzt.outs x=gzt.f x:=fun x=>by kernel_rfl
theorem yzW:fnK Tryz.f266 gzt.ins gzt.outs=true:=by kernel_rfl
theorem xzT:azi ([ezR]:List (CutSpec tb)) (azL Tryz.f266)=[(60,.loop (azb 60 Tryz.f266))]:=by kernel_rfl
theorem tz0:azc Tryz.prog tb 266 gzt:=az8 mixed Tryz.func266 yzW kzu rfl xzT (.cons rfl szo rfl .nil) xzS
abbrev fzE:List (Nat×FSpec tb):=[(266,gzt),(32,azK),(25,gz4),(267,dzT),(239,gzW)]
theorem gzg:azy Tryz.prog tb (fzE):=(.cons tz0 (.cons azA (.cons ozw (.cons lzM (.cons ozr .nil)))))
def gzh (x:Int×Worker×Area×Arg×List Cell×Bool):Option (((Unit)×Arg)⊕((Unit)×Arg)) :=
 brn x.2.2.2.2.snd
  (obnd (mzW (x.2.2.fst,x.2.fst.at_.At)) fun y =>
   brn (!decide (IntKind.i64.wrap (IntKind.i64.wrap (y.snd.Row - y.fst.Row)+1)=x.2.fst.rows)) (obnd (azj 15) fun y=>obnd (czi y) fun y=>some (Sum.inr ((),y)))
    (brn (!decide (IntKind.i64.wrap (IntKind.i64.wrap (y.snd.Col - y.fst.Col)+1)=x.2.fst.cols))
     (obnd (azj 15) fun y=>obnd (czi y) fun y=>some (Sum.inr ((),y)))
     (obnd (idx x.2.2.2.2.fst x.2.fst.cell) fun y=>obnd (lzk (x.2.fst.v,{ Sheet:=x.fst,At:=y })) fun y=>obnd (czi y) fun y=>some (Sum.inr ((),y)))))
  (some (Sum.inl ((),x.2.2.2.fst)))
def bzL:CutSpec tb:=⟨50,[(1,.val 3),(4,.ro 190),(6,.ro 93),(8,.ref 48),(9,.val 349),(42,.val 4)],[(.normal,[]),(.ret,[])],[44,45,46,47,48,43,49,50,10,11,51,52,53,54,55,56,57,58,59,60,61,62,63,64,65,66,67,68,69,70,71,72,73,74,75,76,77,78,79,80,81,82,83],(gzh)⟩
theorem mzH:∀ x,gzf Tryz.prog tb fzE [] (azx 50 Tryz.f241) (bzL).ins (bzL).outs x=(bzL).J x:=fun x=>by kernel_rfl
theorem nzc:cutB Tryz.f241.ntmps (bzL) (azx 50 Tryz.f241)=true:=by kernel_rfl
theorem mzI:azi ([]:List (CutSpec tb)) (azx 50 Tryz.f241)=[]:=by kernel_rfl
theorem lzX:azm Tryz.prog tb Tryz.f241.ntmps (azx 50 Tryz.f241) (bzL):=gzy mixed nzc gzg rfl mzI .nil mzH
def gzi (back:List (Val)×Int×Worker×Arg×List Cell×Int×Int→Option ((List (Val))×Arg)) (x:List (Val)×Int×Worker×Arg×List Cell×Int×Int):Option ((List (Val))×Arg) :=
 brn (decide (x.2.2.2.2.2.snd < x.2.2.2.2.2.fst))
  (obnd (idx x.2.2.2.2.fst x.2.2.2.2.2.snd) fun y =>
   obnd (lzk (x.2.2.fst.v,{ Sheet:=x.2.fst,At:=y })) fun y =>
    obnd (app 56 x.fst [y]) fun zs =>
     back (zs,x.2.fst,x.2.2.fst,{ Area:=x.2.2.2.fst.Area,L:=zs },x.2.2.2.2.fst,x.2.2.2.2.2.fst,IntKind.i64.wrap (x.2.2.2.2.2.snd+1)))
  (some (x.fst,{ Area:=x.2.2.2.fst.Area,L:=x.fst }))
def gzj:List (Val)×Int×Worker×Arg×List Cell×Int×Int→Option ((List (Val))×Arg):=iter gzi big
def cza:CutSpec tb:=⟨100,[(8589934604,.own 32),(1,.val 3),(4,.ro 190),(12,.ref 48),(85,.val 349),(86,.val 3),(87,.val 3)],[((.exit 0),[(8589934604,.own 32)])],[88,89,90,14,91,92,93,94,95,96,97,98,99,100,101,102,87],gzj⟩
theorem mzJ:∀ back x,azP Tryz.prog tb fzE [] (azb 100 Tryz.f241) (cza).ins (cza).outs back x=gzi back x:=fun back x=>by kernel_rfl
theorem nzd:cutB Tryz.f241.ntmps (cza) (azb 100 Tryz.f241)=true:=by kernel_rfl
theorem mzK:azi ([]:List (CutSpec tb)) (azb 100 Tryz.f241)=[]:=by kernel_rfl
theorem lzY:azm Tryz.prog tb Tryz.f241.ntmps (.loop (azb 100 Tryz.f241)) (cza):=azR mixed nzd gzg rfl mzK .nil gzi mzJ rfl
def hzK (x:Worker×Int×Area×Bool):Option (Arg) :=
 obnd (tzV (x.2.2.fst,x.fst.at_.At)) fun y =>
  brn (decide ((↑(List.length y):Int)=0)) (obnd (azj 23) fun y=>obnd (czi y) fun y=>some y)
   (brn (decide (x.2.fst < 0)) (obnd (azj 23) fun y=>obnd (czi y) fun y=>some y)
    (brn (decide (x.fst.v.Sheets≤x.2.fst)) (obnd (azj 23) fun y=>obnd (czi y) fun y=>some y)
     (brn (decide (0 < x.fst.rows))
      (obnd (gzh (x.2.fst,x.fst,x.2.2.fst,{ Area:=false,L:=[] },y,!x.2.2.snd)) fun y_1 =>
       osum y_1
        (fun y_2=>obnd (gzj ([],x.2.fst,x.fst,{ Area:=true,L:=[] },y,(↑(List.length y):Int),0)) fun y=>some { Area:=y.2.Area,L:=y.1 })
        fun y=>some y.2)
      (obnd (gzh (x.2.fst,x.fst,x.2.2.fst,{ Area:=false,L:=[] },y,false)) fun y_1 =>
       osum y_1
        (fun y_2=>obnd (gzj ([],x.2.fst,x.fst,{ Area:=true,L:=[] },y,(↑(List.length y):Int),0)) fun y=>some { Area:=y.2.Area,L:=y.1 })
        fun y=>some y.2))))
def czh:FSpec tb:=⟨[(0,.val 190),(1,.val 3),(2,.val 93),(3,.val 4)],[(0,.val 48)],hzK⟩
theorem ozT:∀ x,evFn Tryz.prog tb fzE [bzL,cza] Tryz.f241 czh.ins czh.outs x=czh.f x:=fun x=>by kernel_rfl
theorem pzl:fnK Tryz.f241 czh.ins czh.outs=true:=by kernel_rfl
theorem ozU:azi ([bzL,cza]:List (CutSpec tb)) (azL Tryz.f241)=[(50,azx 50 Tryz.f241),(100,.loop (azb 100 Tryz.f241))]:=by kernel_rfl
theorem mzL:azc Tryz.prog tb 241 czh:=az8 mixed Tryz.func241 pzl gzg rfl ozU (.cons rfl lzX rfl (.cons rfl lzY rfl .nil)) ozT
def pzk (x:Int):Option (Bool) :=
 obnd (vzC x) fun y =>
  brn (decide (y.fst=[83,85,77])) (brn (decide (y.fst=[83,85,77])) (some true) (some false))
   (brn (decide (y.fst=[77,73,78])) (brn (decide (y.fst=[77,73,78])) (some true) (some false))
    (brn (decide (y.fst=[77,65,88])) (brn (decide (y.fst=[77,65,88])) (some true) (some false))
     (brn (decide (y.fst=U8s [67,79,85,78,84])) (brn (decide (y.fst=U8s [67,79,85,78,84])) (some true) (some false))
      (brn (decide (y.fst=U8s [65,86,69,82,65,71,69])) (brn (decide (y.fst=U8s [65,86,69,82,65,71,69])) (some true) (some false))
       (brn (decide (y.fst=[65,78,68])) (brn (decide (y.fst=[65,78,68])) (some true) (some false))
        (brn (decide (y.fst=[79,82])) (brn (decide (y.fst=[79,82])) (some true) (some false))
         (brn (decide (y.fst=U8s [67,79,78,67,65,84])) (brn (decide (y.fst=U8s [67,79,78,67,65,84])) (some true) (some false))
          (brn (decide (y.fst=U8s [73,78,68,69,88])) (some true) (some false)))))))))
def eze:FSpec tb:=⟨[(0,.val 3)],[(0,.val 4)],pzk⟩
theorem uzF:∀ x,evFn Tryz.prog tb [(23,gz3)] [] Tryz.f242 eze.ins eze.outs x=eze.f x:=fun x=>by kernel_rfl
theorem wze:fnK Tryz.f242 eze.ins eze.outs=true:=by kernel_rfl
theorem qzv:azc Tryz.prog tb 242 eze:=azq mixed Tryz.func242 wze (.cons uzL .nil) rfl uzF
def azT (self:Worker×Expr×Bool→Option (Arg)):FSpec tb:=⟨[(0,.val 190),(1,.val 96),(2,.val 4)],[(0,.val 48)],self⟩
abbrev fzO (self:Worker×Expr×Bool→Option (Arg)):List (Nat×FSpec tb):=[(204,(azT self))]
theorem gz0 (self:Worker×Expr×Bool→Option (Arg)) (hself:azc Tryz.prog tb 204 (azT self)):azy Tryz.prog tb (fzO self):=(.cons hself .nil)
def ezf (self:Worker×Expr×Bool→Option (Arg)) (back:Worker×List (Val)×Bool×List Expr×Int×Int→Option (List (Val)×Bool)) (x:Worker×List (Val)×Bool×List Expr×Int×Int):Option (List (Val)×Bool) :=
 brn (decide (x.2.2.2.2.snd < x.2.2.2.2.fst))
  (obnd (idx x.2.2.2.fst x.2.2.2.2.snd) fun y =>
   obnd (self (x.fst,bzW y,false)) fun y =>
    brn y.Area (back (x.fst,x.2.fst,false,x.2.2.2.fst,x.2.2.2.2.fst,IntKind.i64.wrap (x.2.2.2.2.snd+1)))
     (obnd (idx y.L 0) fun y=>obnd (app 56 x.2.fst [y]) fun zs=>back (x.fst,zs,x.2.2.fst,x.2.2.2.fst,x.2.2.2.2.fst,IntKind.i64.wrap (x.2.2.2.2.snd+1))))
  (some (x.2.fst,x.2.2.fst))
def gz1 (self:Worker×Expr×Bool→Option (Arg)):Worker×List (Val)×Bool×List Expr×Int×Int→Option (List (Val)×Bool):=iter (ezf self) big
def bzC (self:Worker×Expr×Bool→Option (Arg)):CutSpec tb:=⟨44,[(2,.ro 190),(6,.own 32),(7,.val 4),(11,.val 94),(12,.val 3),(13,.val 3)],[((.exit 0),[(6,.own 32),(7,.val 4)])],[14,15,16,9,17,18,19,10,20,21,7,22,23,24,25,26,27,28,6,29,13],(gz1 self)⟩
theorem kzl (self:Worker×Expr×Bool→Option (Arg)):∀ back x,azP Tryz.prog tb (fzO self) [] (azb 44 Tryz.f243) (bzC self).ins (bzC self).outs back x=ezf self back x:=fun back x=>by kernel_rfl
theorem kzP (self:Worker×Expr×Bool→Option (Arg)):cutB Tryz.f243.ntmps (bzC self) (azb 44 Tryz.f243)=true:=by kernel_rfl
theorem kzm (self:Worker×Expr×Bool→Option (Arg)):azi ([]:List (CutSpec tb)) (azb 44 Tryz.f243)=[]:=by kernel_rfl
theorem jz7 (self:Worker×Expr×Bool→Option (Arg)) (hself:azc Tryz.prog tb 204 (azT self)):azm Tryz.prog tb Tryz.f243.ntmps (.loop (azb 44 Tryz.f243)) (bzC self):=azR mixed (kzP self) (gz0 self hself) rfl (kzm self) .nil (ezf self) (kzl self) rfl
def izf (self:Worker×Expr×Bool→Option (Arg)) (x:Worker×List Expr):Option (List (Val)×Bool) :=
 obnd ((gz1 self) (x.fst,[],true,x.snd,(↑x.snd.length:Int),0)) fun y=>some y
def bzB (self:Worker×Expr×Bool→Option (Arg)):FSpec tb:=⟨[(0,.val 190),(1,.val 94)],[(0,.own 32),(1,.val 4)],izf self⟩
theorem lzZ (self:Worker×Expr×Bool→Option (Arg)):∀ x,evFn Tryz.prog tb (fzO self) [(bzC self)] Tryz.f243 (bzB self).ins (bzB self).outs x=(bzB self).f x:=fun x=>by kernel_rfl
theorem mzN (self:Worker×Expr×Bool→Option (Arg)):fnK Tryz.f243 (bzB self).ins (bzB self).outs=true:=by kernel_rfl
theorem lz0 (self:Worker×Expr×Bool→Option (Arg)):azi ([(bzC self)]:List (CutSpec tb)) (azL Tryz.f243)=[(44,.loop (azb 44 Tryz.f243))]:=by kernel_rfl
theorem kzQ (self:Worker×Expr×Bool→Option (Arg)) (hself:azc Tryz.prog tb 204 (azT self)):azc Tryz.prog tb 243 (bzB self):=az8 mixed Tryz.func243 (mzN self) (gz0 self hself) rfl (lz0 self) (.cons rfl (jz7 self hself) rfl .nil) (lzZ self)
abbrev hz8 (self:Worker×Expr×Bool→Option (Arg)):List (Nat×FSpec tb):=[(25,gz4),(240,izh),(239,gzW),(241,czh),(32,azK),(204,(azT self)),(242,eze),(19,gzk),(243,(bzB self)),(40,gzl),(30,fzr)]
theorem iz7 (self:Worker×Expr×Bool→Option (Arg)) (hself:azc Tryz.prog tb 204 (azT self)):azy Tryz.prog tb (hz8 self):=(.cons ozw (.cons pzV (.cons ozr (.cons mzL (.cons azA (.cons hself (.cons qzv (.cons tzf (.cons (kzQ self hself) (.cons tzi (.cons rzW .nil)))))))))))
def gzG (self:Worker×Expr×Bool→Option (Arg)) (back:Worker×Expr×List (Arg)×List Expr×Int×Int→Option (List (Arg))) (x:Worker×Expr×List (Arg)×List Expr×Int×Int):Option (List (Arg)) :=
 brn (decide (x.2.2.2.2.snd < x.2.2.2.2.fst))
  (obnd (idx x.2.2.2.fst x.2.2.2.2.snd) fun y =>
   obnd (pzk x.2.fst.Op) fun y_1 =>
    obnd (self (x.fst,bzW y,y_1)) fun y =>
     obnd (app 32 x.2.2.fst [y]) fun zs=>back (x.fst,bzW x.2.fst,zs,x.2.2.2.fst,x.2.2.2.2.fst,IntKind.i64.wrap (x.2.2.2.2.snd+1)))
  (some x.2.2.1)
def iz8 (self:Worker×Expr×Bool→Option (Arg)):Worker×Expr×List (Arg)×List Expr×Int×Int→Option (List (Arg)):=iter (gzG self) big
def czn (self:Worker×Expr×Bool→Option (Arg)):CutSpec tb:=⟨180,[(3,.ro 190),(4,.ro 96),(7,.own 48),(109,.val 94),(110,.val 3),(111,.val 3)],[((.exit 1),[(7,.own 48)])],[112,113,114,9,115,116,117,118,119,120,121,122,123,7,124,111],(iz8 self)⟩
theorem nze (self:Worker×Expr×Bool→Option (Arg)):∀ back x,azP Tryz.prog tb (hz8 self) [] (azb 180 Tryz.f204) (czn self).ins (czn self).outs back x=gzG self back x:=fun back x=>by kernel_rfl
theorem nzT (self:Worker×Expr×Bool→Option (Arg)):cutB Tryz.f204.ntmps (czn self) (azb 180 Tryz.f204)=true:=by kernel_rfl
theorem nzf (self:Worker×Expr×Bool→Option (Arg)):azi ([]:List (CutSpec tb)) (azb 180 Tryz.f204)=[]:=by kernel_rfl
theorem mzM (self:Worker×Expr×Bool→Option (Arg)) (hself:azc Tryz.prog tb 204 (azT self)):azm Tryz.prog tb Tryz.f204.ntmps (.loop (azb 180 Tryz.f204)) (czn self):=azR mixed (nzT self) (iz7 self hself) rfl (nzf self) .nil (gzG self) (nze self) rfl
def czz (self:Worker×Expr×Bool→Option (Arg)) (x:Worker×Expr×Bool):Option (Arg) :=
 brn (decide (x.2.fst.Kind=1)) (obnd (czi x.2.fst.V) fun y=>some y)
  (brn (decide (x.2.fst.Kind=2))
   (obnd (nzx (x.2.fst.A.A,x.fst.at_.At)) fun y=>obnd (lzk (x.fst.v,{ Sheet:=x.fst.at_.Sheet,At:=y })) fun y=>obnd (czi y) fun y=>some y)
   (brn (decide (x.2.fst.Kind=4))
    (obnd (nzx (x.2.fst.A.A,x.fst.at_.At)) fun y=>obnd (lzk (x.fst.v,{ Sheet:=x.2.fst.Sheet,At:=y })) fun y=>obnd (czi y) fun y=>some y)
    (brn (decide (x.2.fst.Kind=3)) (obnd (hzK (x.fst,x.fst.at_.Sheet,x.2.fst.A,x.2.snd)) fun y=>some y)
     (brn (decide (x.2.fst.Kind=5)) (obnd (hzK (x.fst,x.2.fst.Sheet,x.2.fst.A,x.2.snd)) fun y=>some y)
      (brn (decide (x.2.fst.Kind=6))
       (brn (decide (x.2.fst.Op < 0)) (obnd (azj 29) fun y=>obnd (czi y) fun y=>some y)
        (brn (decide ((↑x.fst.v.Names.length:Int)≤x.2.fst.Op)) (obnd (azj 29) fun y=>obnd (czi y) fun y=>some y)
         (obnd (idx x.fst.v.Names x.2.fst.Op) fun y=>obnd (self (x.fst,bzW y,x.2.snd)) fun y=>some y)))
       (brn (decide (x.2.fst.Kind=10)) (obnd (idx x.2.fst.Kids 0) fun y=>obnd (self (x.fst,bzW y,x.2.snd)) fun y=>some y)
        (brn (decide (x.2.fst.Kind=9))
         (obnd ((iz8 self) (x.fst,bzW x.2.fst,[],x.2.fst.Kids,(↑x.2.fst.Kids.length:Int),0)) fun y =>
          obnd (sz6 (x.2.fst.Op,y)) fun y=>obnd (czi y) fun y=>some y)
         (obnd ((izf self) (x.fst,x.2.fst.Kids)) fun y =>
          brn (!y.snd) (obnd (azj 15) fun y=>obnd (czi y) fun y=>some y)
           (brn (decide (x.2.fst.Kind=7)) (obnd (idx y.fst 0) fun y=>obnd (tzh (x.2.fst.Op,y)) fun y=>obnd (czi y) fun y=>some y)
            (obnd (idx y.fst 0) fun y_1=>obnd (idx y.fst 1) fun y=>obnd (qz8 (x.2.fst.Op,y_1,y)) fun y=>obnd (czi y) fun y=>some y))))))))))
theorem pzm (self:Worker×Expr×Bool→Option (Arg)):∀ x,evFn Tryz.prog tb (hz8 self) [(czn self)] Tryz.f204 (azT (czz self)).ins (azT (czz self)).outs x=(azT (czz self)).f x:=fun x=>by kernel_rfl
theorem qzw (self:Worker×Expr×Bool→Option (Arg)):fnK Tryz.f204 (azT (czz self)).ins (azT (czz self)).outs=true:=by kernel_rfl
theorem pzn (self:Worker×Expr×Bool→Option (Arg)):azi ([(czn self)]:List (CutSpec tb)) (azL Tryz.f204)=[(180,.loop (azb 180 Tryz.f204))]:=by kernel_rfl
theorem nzU (self:Worker×Expr×Bool→Option (Arg)) (hself:azc Tryz.prog tb 204 (azT self)):azc Tryz.prog tb 204 (azT (czz self)):=az8 mixed Tryz.func204 (qzw self) (iz7 self hself) rfl (pzn self) (.cons rfl (mzM self hself) rfl .nil) (pzm self)
def lzn:Worker×Expr×Bool→Option (Arg):=iter czz big
def lzo:FSpec tb:=azT lzn
theorem nzg:azc Tryz.prog tb 204 lzo:=fn_it (pzf Tryz.func204 (by kernel_rfl)) nzU
def gz2 (x:Worker×Expr):Option (Val) :=
 obnd (lzn (x.fst,bzW x.snd,false)) fun y =>
  brn y.Area (obnd (azj 15) fun y=>some y)
   (obnd (idx y.L 0) fun y_1 =>
    brn (decide (y_1.Kind=0)) (obnd (czy 0) fun y=>some { Kind:=1,N:=y,S:=[],B:=false,E:=0 }) (obnd (idx y.L 0) fun y=>some y))
def bzI:FSpec tb:=⟨[(0,.val 190),(1,.val 96)],[(0,.val 32)],gz2⟩
theorem nzV:∀ x,evFn Tryz.prog tb [(204,lzo),(32,azK),(33,czM)] [] Tryz.f123 bzI.ins bzI.outs x=bzI.f x:=fun x=>by kernel_rfl
theorem ozV:fnK Tryz.f123 bzI.ins bzI.outs=true:=by kernel_rfl
theorem hzE:azc Tryz.prog tb 123 bzI:=azq mixed Tryz.func123 ozV (.cons nzg (.cons azA (.cons czV .nil))) rfl nzV
abbrev mzG:List (Nat×FSpec tb):=[(123,bzI)]
theorem nza:azy Tryz.prog tb (mzG):=(.cons hzE .nil)
def jzn (back:Int×Int×Expr×Env×Place×List (Val)×Int×Int→Option (List (Val))) (x:Int×Int×Expr×Env×Place×List (Val)×Int×Int):Option (List (Val)) :=
 brn (decide (x.2.2.2.2.2.2.snd < x.2.2.2.2.2.2.fst))
  (obnd (gz2 ({ v:=x.2.2.2.fst,at_:=x.2.2.2.2.fst,rows:=x.fst,cols:=x.2.fst,cell:=x.2.2.2.2.2.2.snd },bzW x.2.2.fst)) fun y =>
   obnd (app 56 x.2.2.2.2.2.fst [y]) fun zs=>back (x.fst,x.2.fst,bzW x.2.2.fst,x.2.2.2.fst,x.2.2.2.2.fst,zs,x.2.2.2.2.2.2.fst,IntKind.i64.wrap (x.2.2.2.2.2.2.snd+1)))
  (some x.2.2.2.2.2.1)
def nzb:Int×Int×Expr×Env×Place×List (Val)×Int×Int→Option (List (Val)):=iter jzn big
def dz1:CutSpec tb:=⟨52,[(3,.val 3),(4,.val 3),(5,.ro 96),(6,.ro 100),(7,.ro 88),(11,.own 32),(27,.val 3),(28,.val 3)],[((.exit 0),[(11,.own 32)])],[29,30,12,31,32,33,34,35,36,37,38,39,40,41,11,42,28],nzb⟩
theorem rzN:∀ back x,azP Tryz.prog tb mzG [] (azb 52 Tryz.f115) (dz1).ins (dz1).outs back x=jzn back x:=fun back x=>by kernel_rfl
theorem sz3:cutB Tryz.f115.ntmps (dz1) (azb 52 Tryz.f115)=true:=by kernel_rfl
theorem rzO:azi ([]:List (CutSpec tb)) (azb 52 Tryz.f115)=[]:=by kernel_rfl
theorem qzu:azm Tryz.prog tb Tryz.f115.ntmps (.loop (azb 52 Tryz.f115)) (dz1):=azR mixed sz3 nza rfl rzO .nil jzn rzN rfl
def jzS (x:Expr×Env×Place×Int×Int):Option (List (Val)) :=
 brn (decide (x.2.2.2.fst < 1)) (some [])
  (brn (decide (x.2.2.2.snd < 1)) (some [])
   (brn (decide (x.2.2.2.snd=0)) none
    (brn (decide (IntKind.i64.wrap (Int.tdiv 4096 x.2.2.2.snd) < x.2.2.2.fst)) (some [])
     (obnd (nzb (x.2.2.2.fst,x.2.2.2.snd,bzW x.fst,x.2.fst,x.2.2.fst,[],IntKind.i64.wrap (x.2.2.2.fst*x.2.2.2.snd),0)) fun y=>some y))))
def fzp:FSpec tb:=⟨[(0,.val 96),(1,.val 100),(2,.val 88),(3,.val 3),(4,.val 3)],[(0,.own 32)],jzS⟩
theorem wzc:∀ x,evFn Tryz.prog tb mzG [dz1] Tryz.f115 fzp.ins fzp.outs x=fzp.f x:=fun x=>by kernel_rfl
theorem xzf:fnK Tryz.f115 fzp.ins fzp.outs=true:=by kernel_rfl
theorem wzd:azi ([dz1]:List (CutSpec tb)) (azL Tryz.f115)=[(52,.loop (azb 52 Tryz.f115))]:=by kernel_rfl
theorem rzP:azc Tryz.prog tb 115 fzp:=az8 mixed Tryz.func115 xzf nza rfl wzd (.cons rfl qzu rfl .nil) wzc
def czO (x:Expr×Env×Place):Option (Val) :=
 obnd (gz2 ({ v:=x.2.fst,at_:=x.2.snd,rows:=0,cols:=0,cell:=0 },bzW x.fst)) fun y=>some y
def ez2:FSpec tb:=⟨[(0,.val 96),(1,.val 100),(2,.val 88)],[(0,.val 32)],czO⟩
theorem xzg:∀ x,evFn Tryz.prog tb [(123,bzI)] [] Tryz.f44 ez2.ins ez2.outs x=ez2.f x:=fun x=>by kernel_rfl
theorem yzB:fnK Tryz.f44 ez2.ins ez2.outs=true:=by kernel_rfl
theorem mzb:azc Tryz.prog tb 44 ez2:=azq mixed Tryz.func44 yzB (.cons hzE .nil) rfl xzg
def vzG (x:Int×Int):Option (Expr) :=
  some
    { Kind := 2, V := { Kind := 0, N := { M := 0, S := 0 }, S := [], B := false, E := 0 },
      A := { A := { Row := x.fst, Col := x.snd, RelRow := false, RelCol := false }, B := { Row := 0, Col := 0, RelRow := false, RelCol := false } }, Sheet := 0, Op := 0, Kids := [] }
def hza:FSpec tb:=⟨[(0,.val 3),(1,.val 3)],[(0,.val 96)],vzG⟩
theorem yzP:∀ x,evFn Tryz.prog tb [] [] Tryz.f116 hza.ins hza.outs x=hza.f x:=fun x=>by kernel_rfl
theorem zzQ:fnK Tryz.f116 hza.ins hza.outs=true:=by kernel_rfl
theorem vze:azc Tryz.prog tb 116 hza:=azq mixed Tryz.func116 zzQ .nil rfl yzP
end
end Go.Proofs.YtdgpkbnnljblmaaGreatDoor

/- Y0 -/
namespace Go.Proofs.YtdgpkbnnljblmaaGreatDoor
open Go Go.Ev Go.Lib
def foldX {A S Y:Type} (step:S→A→S⊕Y) (fin:S→Y):S→List A→Y
 | s,[]=>fin s
 | s,a :: l=>match step s a with
  | .inl s'=>foldX step fin s' l
  | .inr y=>y
def contX {S Y Z:Type} (b:S→Option Z) (g:Y→Z):S⊕Y→Option Z
 | .inl s=>b s
 | .inr y=>some (g y)
theorem fold_loop {A S X Y Z:Type} {F:(X→Option Z)→X→Option Z} (mk:S→Nat→X) (g:Y→Z) (l:List A) (step:S→A→S⊕Y) (fin:S→Y) (Pre:S→Nat→Prop)
 (hl:l.length≤1000000000)
 (h:∀ back s i (hi:i < l.length),Pre s i→F back (mk s i)=contX (fun s'=>back (mk s' (i+1))) g (step s l[i]))
 (hp:∀ s i (hi:i < l.length) s',Pre s i→step s l[i] = .inl s'→Pre s' (i+1))
 (hend:∀ back s,Pre s l.length→F back (mk s l.length)=some (g (fin s))) (s:S) (h0:Pre s 0):iter F big (mk s 0)=some (g (foldX step fin s l)):=by
 have key:∀ k n i s,i+k=l.length→k < n→Pre s i→iter F n (mk s i)=some (g (foldX step fin s (l.drop i))):=by
  intro k;induction k with
  | zero =>
   intro n i s hi hn hs;obtain ⟨m,rfl⟩:∃ m,n=m+1:=⟨n - 1,by omega⟩;have:i=l.length:=by omega
   subst this;rw [ez5,hend _ _ hs,List.drop_length];rfl
  | succ k ih =>
   intro n i s hi hn hs;obtain ⟨m,rfl⟩:∃ m,n=m+1:=⟨n - 1,by omega⟩;have hlt:i < l.length:=by omega
   rw [ez5,h _ _ _ hlt hs,List.drop_eq_getElem_cons hlt];simp only [foldX];cases hst:step s l[i] with
   | inl s'=>exact ih m (i+1) s' (by omega) (by omega) (hp _ _ hlt _ hs hst)
   | inr y=>rfl
 have:=key l.length big 0 s (by omega) (by rw [uzh];omega) h0;simpa using this
theorem find_loop {A X Z:Type} {F:(X→Option Z)→X→Option Z} (mk:Nat→X) (g:Option Nat→Z) (l:List A) (p:A→Bool) (hl:l.length≤1000000000)
 (h:∀ back i (hi:i < l.length),F back (mk i)=bif p l[i] then some (g (some i)) else back (mk (i+1)))
 (hend:∀ back,F back (mk l.length)=some (g none)):iter F big (mk 0)=some (g (l.findIdx? p)):=by
 have key:∀ k n i,i+k=l.length→k < n→iter F n (mk i)=some (g (((l.drop i).findIdx? p).map (·+i))):=by
  intro k;induction k with
  | zero =>
   intro n i hi hn;obtain ⟨m,rfl⟩:∃ m,n=m+1:=⟨n - 1,by omega⟩;have:i=l.length:=by omega
   subst this;rw [ez5,hend,List.drop_length];rfl
  | succ k ih =>
   intro n i hi hn;obtain ⟨m,rfl⟩:∃ m,n=m+1:=⟨n - 1,by omega⟩;have hlt:i < l.length:=by omega
   rw [ez5,h _ _ hlt,List.drop_eq_getElem_cons hlt,List.findIdx?_cons];cases hpl:p l[i] with
   | true=>simp
   | false =>
    simp only [cond_false];rw [ih m (i+1) (by omega) (by omega)];simp only [Bool.false_eq_true,if_false,Option.map_map];congr 3;funext j;simp only [Function.comp];omega
 have:=key l.length big 0 (by omega) (by rw [uzh];omega);simpa using this
theorem idxG {A:Type} {l:List A} {i:Nat} (hi:i < l.length):idx l (i:Int)=some l[i]:=by simp [idx,hi]
theorem wr1 {i:Nat} (h:i < 1000000000):IntKind.i64.wrap ((i:Int)+1)=((i+1:Nat):Int):=by
 simp [IntKind.wrap,IntKind.bits,IntKind.signed];omega
theorem ltT {i n:Nat} (h:i < n):decide ((i:Int) < (n:Int))=true:=decide_eq_true (by omega)
theorem ltF {n:Nat}:decide ((n:Int) < (n:Int))=false:=decide_eq_false (by omega)
end Go.Proofs.YtdgpkbnnljblmaaGreatDoor

/- PP -/
namespace Go.Proofs.YtdgpkbnnljblmaaGreatDoor
open Go Go.Ev
def V (d:Dec):Int:=d.M*10 ^ (9 - d.S.toNat)
def I64 (n:Int):Prop:=-9223372036854775808≤n∧n≤9223372036854775807
instance (n:Int):Decidable (I64 n):=inferInstanceAs (Decidable (_∧_))
def cmpV (x y:Int):Int:=if x < y then -1 else if y < x then 1 else 0
theorem u64 (n:Int):IntKind.u64.wrap n=n % 18446744073709551616:=by simp [IntKind.wrap,IntKind.bits,IntKind.signed]
theorem i64 (n:Int):IntKind.i64.wrap n=(n+9223372036854775808) % 18446744073709551616 - 9223372036854775808:=IntKind.wrap_i64 n
theorem i64_in {n:Int} (h0:-9223372036854775808≤n) (h1:n≤9223372036854775807):IntKind.i64.wrap n=n:=by rw [i64];omega
def W (v:Int) (m:Bool):Wide:=⟨v / 18446744073709551616,v % 18446744073709551616,m⟩
theorem uzk (x y:Int):azO (x,y)=some (cmpV x y):=by
 unfold azO hzq cmpV;simp only [decide_true,cond_true,azJ,bzz];by_cases h:x < y
 ·simp [h]
 ·by_cases h2:y < x<;>simp [h,h2]
end Go.Proofs.YtdgpkbnnljblmaaGreatDoor

/- QQ -/
namespace Go.Proofs.YtdgpkbnnljblmaaGreatDoor
open Go Go.Ev
section
variable {M N:Int} {s t:Nat} (hM:I64 M) (hN:I64 N) (hs:s≤9) (ht:t≤9)
include hM hN hs ht
end
section
variable {M N:Int} {s t:Nat} (hM:I64 M) (hN:I64 N) (hs:s≤9) (ht:t≤9)
include hM hN hs ht
end
end Go.Proofs.YtdgpkbnnljblmaaGreatDoor

/- X1 -/
namespace Go.Proofs.YtdgpkbnnljblmaaGreatDoor
open Go Go.Ev
def chr (d:Int):UInt8:=UInt8.ofNat (48+d.toNat)
def vzs (D:List Int):List UInt8:=(D.map chr).reverse
end Go.Proofs.YtdgpkbnnljblmaaGreatDoor

/- X2 -/
namespace Go.Proofs.YtdgpkbnnljblmaaGreatDoor
open Go Go.Ev
def pre (D:List Int) (s i:Nat):List UInt8:=if s=0∨i≤s then vzs (D.take i) else vzs ((D.take i).drop s)++46 :: vzs (D.take s)
end Go.Proofs.YtdgpkbnnljblmaaGreatDoor

/- XO -/
namespace Go.Proofs.YtdgpkbnnljblmaaGreatDoor
open Go Go.Ev Go.Lib
def rl:Nat→List UInt8→List Int
 | 0,_=>[]
 | n+1,l=>if l=[] then [] else ((decodeL l).1:Int) :: rl n (l.drop (decodeL l).2)
def rs (l:List UInt8):List Int:=rl l.length l
structure Ord (α:Type) (c:α→α→Int):Prop where
 vals:∀ a b,c a b = -1∨c a b=0∨c a b=1
 swap:∀ a b,c b a = - c a b
 same:∀ a b,c a b=0↔a=b
 less:∀ a b d,c a b = -1→c b d = -1→c a d = -1
end Go.Proofs.YtdgpkbnnljblmaaGreatDoor

/- X3 -/
namespace Go.Proofs.YtdgpkbnnljblmaaGreatDoor
open Go Go.Ev
def isD (c:UInt8):Bool:=decide (48≤c.toNat)&&decide (c.toNat≤57)
def dv (c:UInt8):Int:=((c.toNat - 48:Nat):Int)
def rd9 (l:List UInt8):List Int:=(l.map dv).reverse
end Go.Proofs.YtdgpkbnnljblmaaGreatDoor

/- X4 -/
namespace Go.Proofs.YtdgpkbnnljblmaaGreatDoor
open Go Go.Ev
end Go.Proofs.YtdgpkbnnljblmaaGreatDoor

/- X5 -/
namespace Go.Proofs.YtdgpkbnnljblmaaGreatDoor
open Go Go.Ev
inductive At' (t:List UInt8) (g:Nat):Nat→Int→List Int→Prop
 | front (j:Nat) (h:j≤t.length) (hd:(t.take j).all isD=true):At' t g j (-1) (rd9 (t.take j))
 | behind (w b:List UInt8) (j:Nat) (ht:t=w++46 :: b) (hw:w≠[]) (hd:w.all isD=true) (hj:j≤b.length) (hb:(b.take j).all isD=true):At' t g (w.length+1+j) ((w.length+g:Nat):Int) (rd9 (w++b.take j))
end Go.Proofs.YtdgpkbnnljblmaaGreatDoor

/- X6 -/
namespace Go.Proofs.YtdgpkbnnljblmaaGreatDoor
open Go Go.Ev
end Go.Proofs.YtdgpkbnnljblmaaGreatDoor

/- X8 -/
namespace Go.Proofs.YtdgpkbnnljblmaaGreatDoor
open Go Go.Ev Go.Lib
theorem appN {A:Type} {B:Nat} {xs ys:List A} (h:(xs.length+ys.length)*B≤140737488355328):app B xs ys=some (xs++ys):=by
 have:Nat.ble ((xs.length+ys.length)*B) 140737488355328=true:=Nat.ble_eq_true_of_le h;simp [app,this]
def more:List UInt8→Nat→Nat→Option Nat
 | _,0,v=>some v
 | [],_+1,_=>none
 | d :: l,n+1,v=>if d.toNat / 64=2 then more l n (v*64+d.toNat % 64) else none
end Go.Proofs.YtdgpkbnnljblmaaGreatDoor

/- PA -/
namespace Go.Proofs.YtdgpkbnnljblmaaGreatDoor
open Go Go.Ev Go.Lib
def ltP (a b:Place):Bool:=decide (a.Sheet < b.Sheet)||decide (a.Sheet=b.Sheet)&&(decide (a.At.Row < b.At.Row)||decide (a.At.Row=b.At.Row)&&decide (a.At.Col < b.At.Col))
def eqP (a b:Place):Bool:=decide (a.Sheet=b.Sheet)&&(decide (a.At.Row=b.At.Row)&&decide (a.At.Col=b.At.Col))
theorem or3 (a b c:Int):jzQ [a,b,c]=some (if a≠0 then a else if b≠0 then b else c):=by
 unfold jzQ;have this:jzh (0,[a,b,c],(([a,b,c]:List Int).length:Int),0)=some ((fun (r:Option Nat)=>match r with | some i=>.inr (([a,b,c]:List Int).getD i 0) | none=>.inl ()) _) :=
  find_loop (F:=dzZ) (fun i=>(0,[a,b,c],(([a,b,c]:List Int).length:Int),(i:Int))) (fun r=>match r with | some i=>.inr (([a,b,c]:List Int).getD i 0) | none=>.inl ()) [a,b,c] (fun y=>!decide (y=0)) (by simp)
  (fun back i hi=>by
   unfold dzZ;simp only;rw [ltT hi,czJ,idxG hi,azJ,wr1 (by simp only [List.length_cons,List.length_nil] at hi;omega)];have hg:([a,b,c]:List Int).getD i 0=([a,b,c]:List Int)[i]:=by rw [List.getD_eq_getElem?_getD,List.getElem?_eq_getElem hi];rfl
   rw [hg];cases decide (([a,b,c]:List Int)[i]=0)<;>rfl)
  (fun back=>by
   unfold dzZ;simp only;rw [ltF,bzz])
 rw [this,azJ];by_cases h1:a=0
 ·by_cases h2:b=0
  ·by_cases h3:c=0<;>simp [h1,h2,h3,List.findIdx?_cons,osum]
  ·simp [h1,h2,List.findIdx?_cons,osum]
 ·simp [h1,List.findIdx?_cons,osum]
theorem xzL (a b:Place):jz5 (a,b)=some (ltP a b):=by
 unfold jz5 nzQ;simp only;rw [uzk,azJ,uzk,azJ,uzk,azJ,or3,azJ,azJ];unfold ltP cmpV;congr 1;rcases Int.lt_trichotomy a.Sheet b.Sheet with h1 | h1 | h1
 ·simp [h1]
 ·rcases Int.lt_trichotomy a.At.Row b.At.Row with h2 | h2 | h2
  ·simp [h1,h2]
  ·rcases Int.lt_trichotomy a.At.Col b.At.Col with h3 | h3 | h3
   ·simp [h1,h2,h3]
   ·simp [h1,h2,h3]
   ·simp [h1,h2,h3];omega
  ·have n1:¬ a.At.Row < b.At.Row:=by omega
   have n2:¬ a.At.Row=b.At.Row:=by omega
   simp [h1,h2,n1,n2]
 ·have n1:¬ a.Sheet < b.Sheet:=by omega
  have n2:¬ a.Sheet=b.Sheet:=by omega
  simp [h1,n1,n2]
def jz8 (l:List Slot) (p:Place) (k:Nat):Bool:=match l[k]? with | some s=>eqP s.P p | none=>false
theorem half_is {a b:Nat} (h:a+b < 1000000000):IntKind.i64.wrap ((IntKind.i64.wrap ((a:Int)+(b:Int))).tdiv 2)=(((a+b) / 2:Nat):Int):=by
 rw [i64_in (n:=(a:Int)+b) (by omega) (by omega)];have:((a:Int)+b).tdiv 2=(((a+b) / 2:Nat):Int):=by
  rw [show (a:Int)+b=((a+b:Nat):Int) by omega];rfl
 rw [this,i64_in (by omega) (by omega)]
theorem found_eq (l:List Slot) (p:Place) (k:Nat):brn (decide ((k:Int) < (l.length:Int))) (obnd (idx l (k:Int)) fun y=>some ((k:Int),bif false then !(decide (y.P.Sheet=p.Sheet)&&(decide (y.P.At.Row=p.At.Row)&&decide (y.P.At.Col=p.At.Col))) else decide (y.P.Sheet=p.Sheet)&&(decide (y.P.At.Row=p.At.Row)&&decide (y.P.At.Col=p.At.Col)))) (some ((k:Int),false))=some ((k:Int),jz8 l p k):=by
 unfold jz8;by_cases h:k < l.length
 ·rw [ltT h,czJ,idxG h,azJ,List.getElem?_eq_getElem h];rfl
 ·rw [decide_eq_false (by omega),bzz,List.getElem?_eq_none (by omega)]
theorem find_at {l:List Slot} {p:Place} {k:Nat} (hl:l.length≤100000000) (hk:k≤l.length) (h1:∀ i (h:i < l.length),i < k→ltP l[i].P p=true) (h2:∀ i (h:i < l.length),k≤i→ltP l[i].P p=false) :
 jz6 (l,p)=some ((k:Int),jz8 l p k):=by
 have key:∀ lo hi:Nat,lo≤k→k≤hi→hi≤l.length→hzw (l,p,(lo:Int),(hi:Int))=some ((k:Int),jz8 l p k):=by
  intro lo hi a1 a2 a3;refine iter_big (F:=hzu) (fun x=>(x.2.2.2 - x.2.2.1).toNat) (fun x=>∃ lo hi:Nat,x=(l,p,(lo:Int),(hi:Int))∧lo≤k∧k≤hi∧hi≤l.length) (fun _=>((k:Int),jz8 l p k)) ?_ _ ⟨lo,hi,rfl,a1,a2,a3⟩ (by simp only;omega);rintro back _ ⟨lo,hi,rfl,a1,a2,a3⟩ hb;unfold hzu;simp only;by_cases h:lo=hi
  ·subst h;have:lo=k:=by omega
   subst this;rw [decide_eq_true rfl,czJ,found_eq]
  ·rw [decide_eq_false (by omega),bzz,half_is (by omega)];have hm:(lo+hi) / 2 < l.length:=by omega
   rw [idxG hm,azJ,xzL,azJ];by_cases hlt:(lo+hi) / 2 < k
   ·rw [h1 _ hm hlt,czJ,wr1 (by omega),hb (l,p,(((lo+hi) / 2+1:Nat):Int),(hi:Int)) ⟨_,_,rfl,by omega,by omega,by omega⟩ (by simp only;omega)];rfl
   ·rw [h2 _ hm (by omega),bzz,hb (l,p,(lo:Int),(((lo+hi) / 2:Nat):Int)) ⟨_,_,rfl,by omega,by omega,by omega⟩ (by simp only;omega)];rfl
 unfold jz6 lzm;simp only;by_cases h:l.length=0
 ·have:k=0:=by omega
  subst this;rw [h,decide_eq_true (by rfl),czJ];unfold jz8;rw [List.getElem?_eq_none (by omega)];rfl
 ·have hw:=half_is (a:=0) (b:=l.length) (by omega);simp only [Int.cast_ofNat_Int,Nat.zero_add] at hw;rw [decide_eq_false (by omega),bzz,hw];have hm:l.length / 2 < l.length:=by omega
  rw [idxG hm,azJ,xzL,azJ];by_cases hlt:l.length / 2 < k
  ·rw [h1 _ hm hlt,czJ,wr1 (by omega),key _ _ (by omega) (by omega) (by omega)];rfl
  ·have:=key 0 (l.length / 2) (by omega) (by omega) (by omega);simp only [Int.cast_ofNat_Int] at this;rw [h2 _ hm (by omega),bzz,this];rfl
theorem clone_is {l:List Slot} (hl:l.length≤100000000):bzP l=some l:=by
 unfold bzP;rw [appN (by simp only [List.length_nil];omega),azJ];cases l with
 | nil=>simp [Ev.agree]
 | cons a l=>rfl
theorem put_end {e:Env} {p:Place} {v:Val} (hl:e.Slots.length≤1000000) (h:∀ s∈e.Slots,ltP s.P p=true) (hv:v.Kind≠0):nzP (e,p,v)=some { e with Slots:=e.Slots++[⟨p,v⟩] }:=by
 unfold nzP;simp only;rw [find_at (k:=e.Slots.length) (by omega) (Nat.le_refl _) (fun i hi _=>h _ (List.getElem_mem hi)) (fun i hi hk=>by omega),azJ,clone_is (by omega),azJ];have:jz8 e.Slots p e.Slots.length=false:=by unfold jz8;rw [List.getElem?_eq_none (by omega)]
 simp only [this,bzz];rw [decide_eq_false hv];simp only [Bool.not_false,czJ];unfold bzM;simp only;have hs:sub e.Slots (e.Slots.length:Int) (e.Slots.length:Int)=some []:=by simp [sub]
 rw [hs,azJ,decide_eq_false (by simp),bzz,decide_true,czJ,appN (by simp only [List.length_singleton];omega)];rfl
end Go.Proofs.YtdgpkbnnljblmaaGreatDoor

/- X9 -/
namespace Go.Proofs.YtdgpkbnnljblmaaGreatDoor
open Go Go.Ev Go.Lib
set_option linter.unusedSimpArgs false
end Go.Proofs.YtdgpkbnnljblmaaGreatDoor

/- XA -/
namespace Go.Proofs.YtdgpkbnnljblmaaGreatDoor
open Go Go.Ev Go.Lib
end Go.Proofs.YtdgpkbnnljblmaaGreatDoor

/- X7 -/
namespace Go.Proofs.YtdgpkbnnljblmaaGreatDoor
open Go Go.Ev Go.Lib
def vN (d:Dec):Val:=⟨1,d,[],false,0⟩
def key (v:Val):List Int:=v.Kind :: (if v.Kind=1 then [V v.N] else if v.Kind=2 then rs v.S else if v.Kind=3 then [if v.B then 1 else 0] else [v.E])
end Go.Proofs.YtdgpkbnnljblmaaGreatDoor

/- XB -/
namespace Go.Proofs.YtdgpkbnnljblmaaGreatDoor
open Go Go.Ev Go.Lib
def good (l:List UInt8):Prop:=¬ ((decodeL l).1=65533∧(decodeL l).2=1)
end Go.Proofs.YtdgpkbnnljblmaaGreatDoor

/- XC -/
namespace Go.Proofs.YtdgpkbnnljblmaaGreatDoor
open Go Go.Ev Go.Lib
set_option linter.unusedSimpArgs false
end Go.Proofs.YtdgpkbnnljblmaaGreatDoor

/- H1 -/
namespace Go.Proofs.YtdgpkbnnljblmaaGreatDoor
open Go Go.Ev
set_option linter.unusedVariables false
end Go.Proofs.YtdgpkbnnljblmaaGreatDoor

/- Y1 -/
namespace Go.Proofs.YtdgpkbnnljblmaaGreatDoor
open Go Go.Ev Go.Lib
def v0:Val:=⟨0,⟨0,0⟩,[],false,0⟩
end Go.Proofs.YtdgpkbnnljblmaaGreatDoor

/- Y2 -/
namespace Go.Proofs.YtdgpkbnnljblmaaGreatDoor
open Go Go.Ev Go.Lib
end Go.Proofs.YtdgpkbnnljblmaaGreatDoor

/- Y3 -/
namespace Go.Proofs.YtdgpkbnnljblmaaGreatDoor
open Go Go.Ev Go.Lib
end Go.Proofs.YtdgpkbnnljblmaaGreatDoor

/- Y4 -/
namespace Go.Proofs.YtdgpkbnnljblmaaGreatDoor
open Go Go.Ev Go.Lib
theorem good_of {a:List UInt8} (ha:a≠[]) (h:validD a=true):good a∧validD (a.drop (decodeL a).2)=true:=by
 rw [validD_step a ha] at h;unfold good;by_cases c:(decodeL a).1=65533∧(decodeL a).2=1
 ·rw [if_pos c] at h;cases h
 ·rw [if_neg c] at h;exact ⟨c,h⟩
end Go.Proofs.YtdgpkbnnljblmaaGreatDoor

/- Y5 -/
namespace Go.Proofs.YtdgpkbnnljblmaaGreatDoor
open Go Go.Ev Go.Lib
end Go.Proofs.YtdgpkbnnljblmaaGreatDoor

/- Y6 -/
namespace Go.Proofs.YtdgpkbnnljblmaaGreatDoor
open Go Go.Ev Go.Lib
end Go.Proofs.YtdgpkbnnljblmaaGreatDoor

/- Y7 -/
namespace Go.Proofs.YtdgpkbnnljblmaaGreatDoor
open Go Go.Ev Go.Lib
end Go.Proofs.YtdgpkbnnljblmaaGreatDoor

/- Y8 -/
namespace Go.Proofs.YtdgpkbnnljblmaaGreatDoor
open Go Go.Ev Go.Lib
def one (v:Val):Arg:=⟨false,[v]⟩
end Go.Proofs.YtdgpkbnnljblmaaGreatDoor

/- Y9 -/
namespace Go.Proofs.YtdgpkbnnljblmaaGreatDoor
open Go Go.Ev Go.Lib
end Go.Proofs.YtdgpkbnnljblmaaGreatDoor

/- E0 -/
namespace Go.Proofs.YtdgpkbnnljblmaaGreatDoor
open Go Go.Ev
set_option linter.unusedVariables false
noncomputable section
def izF (x:Unit):Option (Bool) :=
  obnd (hz0 ()) fun y =>
    obnd (lzH (0,0,5)) fun y_1 =>
      obnd (mzT (0,2,0)) fun y_2 =>
        obnd (jzY (0,[bzW y_2])) fun y_3 =>
          obnd (mzT (0,2,0)) fun y_4 =>
            obnd (kzY 10) fun y_5 =>
              obnd (izE (3,bzW y_4,bzW y_5)) fun y_6 =>
                obnd (jzS (bzW y_6,y,y_1,3,1)) fun y_7 =>
                  obnd (jzS (bzW y_3,y,y_1,2,1)) fun y_8 =>
                    brn (!decide ((↑(List.length y_7):Int)=3)) (some false)
                      (brn (!decide ((↑(List.length y_8):Int)=2)) (some false)
                        (obnd (czO (bzW y_3,y,y_1)) fun y_9 =>
                          obnd (gzD 6) fun y_10 =>
                            brn
                              (bif false then
                                !(decide (y_9.Kind = y_10.Kind) &&
                                    (decide (y_9.N.M=y_10.N.M) &&
                                      (decide (y_9.N.S=y_10.N.S)&&(decide (y_9.S=y_10.S)&&(decide (y_9.B=y_10.B)&&decide (y_9.E=y_10.E))))))
                              else
                                decide (y_9.Kind=y_10.Kind) &&
                                  (decide (y_9.N.M=y_10.N.M)&&(decide (y_9.N.S=y_10.N.S)&&(decide (y_9.S=y_10.S)&&(decide (y_9.B=y_10.B)&&decide (y_9.E=y_10.E))))))
                              (obnd (czO (bzW y_6,y,y_1)) fun y_11 =>
                                obnd (azj 15) fun y_12 =>
                                  brn
                                    (bif false then
                                      !(decide (y_11.Kind = y_12.Kind) &&
                                          (decide (y_11.N.M=y_12.N.M) &&
                                            (decide (y_11.N.S=y_12.N.S)&&(decide (y_11.S=y_12.S)&&(decide (y_11.B=y_12.B)&&decide (y_11.E=y_12.E))))))
                                    else
                                      decide (y_11.Kind=y_12.Kind) &&
                                        (decide (y_11.N.M=y_12.N.M) &&
                                          (decide (y_11.N.S=y_12.N.S)&&(decide (y_11.S=y_12.S)&&(decide (y_11.B=y_12.B)&&decide (y_11.E=y_12.E))))))
                                    (obnd (vzG (7,7)) fun y_13 =>
                                      obnd (czO (bzW y_13,y,y_1)) fun y_14 =>
                                        obnd (gzD 0) fun y_15 =>
                                          brn
                                            (bif false then
                                              !(decide (y_14.Kind = y_15.Kind) &&
                                                  (decide (y_14.N.M=y_15.N.M) &&
                                                    (decide (y_14.N.S=y_15.N.S)&&(decide (y_14.S=y_15.S)&&(decide (y_14.B=y_15.B)&&decide (y_14.E=y_15.E))))))
                                            else
                                              decide (y_14.Kind=y_15.Kind) &&
                                                (decide (y_14.N.M=y_15.N.M) &&
                                                  (decide (y_14.N.S=y_15.N.S)&&(decide (y_14.S=y_15.S)&&(decide (y_14.B=y_15.B)&&decide (y_14.E=y_15.E))))))
                                            (obnd
                                              (czO
                                                ({ Kind := 6, V := { Kind := 0, N := { M := 0, S := 0 }, S := [], B := false, E := 0 },
                                                    A :=
                                                      { A := { Row := 0, Col := 0, RelRow := false, RelCol := false },
                                                        B := { Row := 0, Col := 0, RelRow := false, RelCol := false } },
                                                    Sheet := 0, Op := 0, Kids := [] },
                                                  y,y_1))
                                              fun y_16 =>
                                              obnd (azj 29) fun y_17 =>
                                                brn
                                                  (bif false then
                                                    !(decide (y_16.Kind = y_17.Kind) &&
                                                        (decide (y_16.N.M=y_17.N.M) &&
                                                          (decide (y_16.N.S=y_17.N.S)&&(decide (y_16.S=y_17.S)&&(decide (y_16.B=y_17.B)&&decide (y_16.E=y_17.E))))))
                                                  else
                                                    decide (y_16.Kind=y_17.Kind) &&
                                                      (decide (y_16.N.M=y_17.N.M) &&
                                                        (decide (y_16.N.S=y_17.N.S)&&(decide (y_16.S=y_17.S)&&(decide (y_16.B=y_17.B)&&decide (y_16.E=y_17.E))))))
                                                  (obnd (idx y_7 2) fun y_18 =>
                                                    obnd (gzD 30) fun y_19 =>
                                                      brn
                                                        (bif false then
                                                          !(decide (y_18.Kind = y_19.Kind) &&
                                                              (decide (y_18.N.M=y_19.N.M) &&
                                                                (decide (y_18.N.S=y_19.N.S) &&
                                                                  (decide (y_18.S=y_19.S)&&(decide (y_18.B=y_19.B)&&decide (y_18.E=y_19.E))))))
                                                        else
                                                          decide (y_18.Kind=y_19.Kind) &&
                                                            (decide (y_18.N.M=y_19.N.M) &&
                                                              (decide (y_18.N.S=y_19.N.S)&&(decide (y_18.S=y_19.S)&&(decide (y_18.B=y_19.B)&&decide (y_18.E=y_19.E))))))
                                                        (obnd (idx y_8 0) fun y_20 =>
                                                          obnd (gzD 6) fun y_21 =>
                                                            brn
                                                              (bif false then
                                                                !(decide (y_20.Kind = y_21.Kind) &&
                                                                    (decide (y_20.N.M=y_21.N.M) &&
                                                                      (decide (y_20.N.S=y_21.N.S) &&
                                                                        (decide (y_20.S=y_21.S)&&(decide (y_20.B=y_21.B)&&decide (y_20.E=y_21.E))))))
                                                              else
                                                                decide (y_20.Kind=y_21.Kind) &&
                                                                  (decide (y_20.N.M=y_21.N.M) &&
                                                                    (decide (y_20.N.S=y_21.N.S) &&
                                                                      (decide (y_20.S=y_21.S)&&(decide (y_20.B=y_21.B)&&decide (y_20.E=y_21.E))))))
                                                              (obnd (idx y_8 1) fun y_22 =>
                                                                obnd (gzD 6) fun y_23 =>
                                                                  brn
                                                                    (bif false then
                                                                      !(decide (y_22.Kind = y_23.Kind) &&
                                                                          (decide (y_22.N.M=y_23.N.M) &&
                                                                            (decide (y_22.N.S=y_23.N.S) &&
                                                                              (decide (y_22.S=y_23.S)&&(decide (y_22.B=y_23.B)&&decide (y_22.E=y_23.E))))))
                                                                    else
                                                                      decide (y_22.Kind=y_23.Kind) &&
                                                                        (decide (y_22.N.M=y_23.N.M) &&
                                                                          (decide (y_22.N.S=y_23.N.S) &&
                                                                            (decide (y_22.S=y_23.S)&&(decide (y_22.B=y_23.B)&&decide (y_22.E=y_23.E))))))
                                                                    (obnd (jzS (bzW y_6,y,y_1,0,1)) fun y_24 =>
                                                                      brn (decide ((↑(List.length y_24):Int)=0))
                                                                        (obnd
                                                                          (czO
                                                                            ({ Kind := 4, V := { Kind := 0, N := { M := 0, S := 0 }, S := [], B := false, E := 0 },
                                                                                A :=
                                                                                  { A := { Row := 0, Col := 0, RelRow := false, RelCol := false },
                                                                                    B := { Row := 0, Col := 0, RelRow := false, RelCol := false } },
                                                                                Sheet := 2, Op := 0, Kids := [] },
                                                                              y,y_1))
                                                                          fun y =>
                                                                          obnd (azj 23) fun y_25 =>
                                                                            some
                                                                              (match decide (y.Kind=y_25.Kind) with
                                                                              | false=>false
                                                                              | true =>
                                                                                decide (y.N.M=y_25.N.M) &&
                                                                                  (decide (y.N.S=y_25.N.S) &&
                                                                                    (decide (y.S=y_25.S)&&(decide (y.B=y_25.B)&&decide (y.E=y_25.E))))))
                                                                        (some false))
                                                                    (some false))
                                                              (some false))
                                                        (some false))
                                                  (some false))
                                            (some false))
                                    (some false))
                              (some false)))
def ezl:FSpec tb:=⟨[],[(0,.val 4)],izF⟩
theorem vzg:∀ x,evFn Tryz.prog tb [(114,dzz),(51,gzp),(53,fzz),(52,dzS),(55,ez7),(54,ez6),(115,fzp),(44,ez2),(26,gzE),(32,azK),(116,hza)] [] Tryz.f42 ezl.ins ezl.outs x=ezl.f x:=fun x=>by kernel_rfl
theorem wzH:fnK Tryz.f42 ezl.ins ezl.outs=true:=by kernel_rfl
theorem qzQ:azc Tryz.prog tb 42 ezl:=azq mixed Tryz.func42 wzH (.cons pzO (.cons kzs (.cons szn (.cons lzG (.cons mzm (.cons mzl (.cons rzP (.cons mzb (.cons izG (.cons azA (.cons vze .nil))))))))))) rfl vzg
end
end Go.Proofs.YtdgpkbnnljblmaaGreatDoor

/- KA -/
namespace Go.Proofs.YtdgpkbnnljblmaaGreatDoor
open Go Go.Ev
set_option linter.unusedVariables false
noncomputable section
def czk (x:UInt8×UInt8×UInt8):Option (Bool) :=
  obnd (izF ()) fun y =>
    brn (!y) (some false)
      (obnd (idx [0,7,15,23,29,36,42] (IntKind.i64.wrap ((↑x.fst.toNat:Int).tmod 7))) fun y =>
        obnd (azj y) fun y =>
          obnd (idx [0,7,15,23,29,36,42] (IntKind.i64.wrap ((↑x.2.fst.toNat:Int).tmod 7))) fun y_1 =>
            obnd (azj y_1) fun y_2 =>
              obnd (lzH (0,0,0)) fun y_3 =>
                obnd
                  (izE
                    (IntKind.i64.wrap (1+IntKind.i64.wrap ((↑x.2.snd.toNat:Int).tmod 12)),
                      { Kind := 1, V := y, A := { A := { Row := 0, Col := 0, RelRow := false, RelCol := false }, B := { Row := 0, Col := 0, RelRow := false, RelCol := false } },
                        Sheet := 0, Op := 0, Kids := [] },
                      { Kind := 1, V := y_2, A := { A := { Row := 0, Col := 0, RelRow := false, RelCol := false }, B := { Row := 0, Col := 0, RelRow := false, RelCol := false } },
                        Sheet := 0, Op := 0, Kids := [] }))
                  fun y_4 =>
                  obnd (czO (bzW y_4,{ Sheets:=1,Slots:=[],Names:=[] },y_3)) fun y_5 =>
                    brn
                      (bif false then
                        !(decide (y_5.Kind = y.Kind) &&
                            (decide (y_5.N.M=y.N.M)&&(decide (y_5.N.S=y.N.S)&&(decide (y_5.S=y.S)&&(decide (y_5.B=y.B)&&decide (y_5.E=y.E))))))
                      else
                        decide (y_5.Kind=y.Kind) &&
                          (decide (y_5.N.M=y.N.M)&&(decide (y_5.N.S=y.N.S)&&(decide (y_5.S=y.S)&&(decide (y_5.B=y.B)&&decide (y_5.E=y.E))))))
                      (obnd (kzY 1) fun y_6 =>
                        obnd
                          (izE
                            (IntKind.i64.wrap (1+IntKind.i64.wrap ((↑x.2.snd.toNat:Int).tmod 12)),bzW y_6,
                              { Kind := 1, V := y_2,
                                A:={ A:={ Row:=0,Col:=0,RelRow:=false,RelCol:=false },B:={ Row:=0,Col:=0,RelRow:=false,RelCol:=false } },Sheet:=0,
                                Op := 0, Kids := [] }))
                          fun y_7 =>
                          obnd (czO (bzW y_7,{ Sheets:=1,Slots:=[],Names:=[] },y_3)) fun y_8 =>
                            brn
                              (bif false then
                                !(decide (y_8.Kind = y_2.Kind) &&
                                    (decide (y_8.N.M=y_2.N.M)&&(decide (y_8.N.S=y_2.N.S)&&(decide (y_8.S=y_2.S)&&(decide (y_8.B=y_2.B)&&decide (y_8.E=y_2.E))))))
                              else
                                decide (y_8.Kind=y_2.Kind) &&
                                  (decide (y_8.N.M=y_2.N.M)&&(decide (y_8.N.S=y_2.N.S)&&(decide (y_8.S=y_2.S)&&(decide (y_8.B=y_2.B)&&decide (y_8.E=y_2.E))))))
                              (obnd
                                (czO
                                  ({ Kind := 7, V := { Kind := 0, N := { M := 0, S := 0 }, S := [], B := false, E := 0 },
                                      A:={ A:={ Row:=0,Col:=0,RelRow:=false,RelCol:=false },B:={ Row:=0,Col:=0,RelRow:=false,RelCol:=false } },
                                      Sheet:=0,Op:=IntKind.i64.wrap (1+IntKind.i64.wrap ((↑x.2.snd.toNat:Int).tmod 3)),
                                      Kids :=
                                        [{ Kind := 1, V := y,
                                            A:={ A:={ Row:=0,Col:=0,RelRow:=false,RelCol:=false },B:={ Row:=0,Col:=0,RelRow:=false,RelCol:=false } },
                                            Sheet := 0, Op := 0, Kids := [] }] },
                                    { Sheets:=1,Slots:=[],Names:=[] },y_3))
                                fun y_9 =>
                                brn
                                  (bif false then
                                    !(decide (y_9.Kind = y.Kind) &&
                                        (decide (y_9.N.M=y.N.M)&&(decide (y_9.N.S=y.N.S)&&(decide (y_9.S=y.S)&&(decide (y_9.B=y.B)&&decide (y_9.E=y.E))))))
                                  else
                                    decide (y_9.Kind=y.Kind) &&
                                      (decide (y_9.N.M=y.N.M)&&(decide (y_9.N.S=y.N.S)&&(decide (y_9.S=y.S)&&(decide (y_9.B=y.B)&&decide (y_9.E=y.E))))))
                                  (obnd
                                    (izE
                                      (IntKind.i64.wrap (1+IntKind.i64.wrap ((↑x.2.snd.toNat:Int).tmod 12)),
                                        { Kind := 1, V := y,
                                          A:={ A:={ Row:=0,Col:=0,RelRow:=false,RelCol:=false },B:={ Row:=0,Col:=0,RelRow:=false,RelCol:=false } },
                                          Sheet := 0, Op := 0, Kids := [] },
                                        { Kind := 1, V := y_2,
                                          A:={ A:={ Row:=0,Col:=0,RelRow:=false,RelCol:=false },B:={ Row:=0,Col:=0,RelRow:=false,RelCol:=false } },
                                          Sheet := 0, Op := 0, Kids := [] }))
                                    fun y_10 =>
                                    obnd (kzY 7) fun y_11 =>
                                      obnd (jzY (23,[bzW y_10,bzW y_11])) fun y_12 =>
                                        obnd (czO (bzW y_12,{ Sheets:=1,Slots:=[],Names:=[] },y_3)) fun y_13 =>
                                          obnd (gzD 7) fun y_14 =>
                                            brn
                                              (bif false then
                                                !(decide (y_13.Kind = y_14.Kind) &&
                                                    (decide (y_13.N.M=y_14.N.M) &&
                                                      (decide (y_13.N.S=y_14.N.S)&&(decide (y_13.S=y_14.S)&&(decide (y_13.B=y_14.B)&&decide (y_13.E=y_14.E))))))
                                              else
                                                decide (y_13.Kind=y_14.Kind) &&
                                                  (decide (y_13.N.M=y_14.N.M) &&
                                                    (decide (y_13.N.S=y_14.N.S)&&(decide (y_13.S=y_14.S)&&(decide (y_13.B=y_14.B)&&decide (y_13.E=y_14.E))))))
                                              (obnd
                                                (jzY
                                                  (22,
                                                    [{ Kind := 1, V := y,
                                                        A :=
                                                          { A := { Row := 0, Col := 0, RelRow := false, RelCol := false },
                                                            B := { Row := 0, Col := 0, RelRow := false, RelCol := false } },
                                                        Sheet := 0, Op := 0, Kids := [] }]))
                                                fun y =>
                                                obnd (czO (bzW y,{ Sheets:=1,Slots:=[],Names:=[] },y_3)) fun y =>
                                                  some
                                                    (match decide (y.Kind=3) with
                                                    | false=>false
                                                    | true=>decide (y.N.M=0)&&(decide (y.N.S=0)&&(decide (y.S=[])&&(decide (y.B=true)&&decide (y.E=0))))))
                                              (some false))
                                  (some false))
                              (some false))
                      (some false))
def czl:FSpec tb:=⟨[(0,.val 5),(1,.val 5),(2,.val 5)],[(0,.val 4)],czk⟩
theorem ozY:∀ x,evFn Tryz.prog tb [(42,ezl),(32,azK),(51,gzp),(54,ez6),(44,ez2),(55,ez7),(52,dzS),(26,gzE)] [] Tryz.f15 czl.ins czl.outs x=czl.f x:=fun x=>by kernel_rfl
theorem pzL:fnK Tryz.f15 czl.ins czl.outs=true:=by kernel_rfl
theorem mzU:azc Tryz.prog tb 15 czl:=azq mixed Tryz.func15 pzL (.cons qzQ (.cons azA (.cons kzs (.cons mzl (.cons mzb (.cons mzm (.cons lzG (.cons izG .nil)))))))) rfl ozY
end
end Go.Proofs.YtdgpkbnnljblmaaGreatDoor

/- PD -/
namespace Go.Proofs.YtdgpkbnnljblmaaGreatDoor
open Go Go.Ev Go.Lib
def colE:Env:=⟨2,[⟨⟨0,⟨0,0⟩⟩,vN ⟨1,0⟩⟩,⟨⟨0,⟨1,0⟩⟩,vN ⟨2,0⟩⟩,⟨⟨0,⟨2,0⟩⟩,vN ⟨3,0⟩⟩],[]⟩
theorem column_is:hz0 ()=some colE:=by
 have this:izb (⟨2,[],[]⟩,((0:Nat):Int))=some ((fun e:Env=>((),e)) _):=fold_loop (F:=cz9) (fun (e:Env) (i:Nat)=>(e,(i:Int))) (fun e=>((),e)) [0,1,2] (fun (e:Env) (i:Nat)=>.inl { e with Slots:=e.Slots++[⟨⟨0,⟨(i:Int),0⟩⟩,vN ⟨(i:Int)+1,0⟩⟩] }) id
  (fun e i=>e.Slots.length≤i∧∀ s∈e.Slots,s.P.Sheet=0∧s.P.At.Row < (i:Int)) (by simp)
  (fun back e i hi hp=>by
   have hi':i < 3:=by simpa using hi
   have hg:([0,1,2]:List Nat)[i]=i:=by
    match i,hi' with
    | 0,_=>rfl
    | 1,_=>rfl
    | 2,_=>rfl
   unfold cz9;simp only;rw [decide_eq_true (by omega),czJ,show lzH (0,(i:Int),0)=some ⟨0,⟨(i:Int),0⟩⟩ from rfl,azJ,wr1 (by omega),show gzD ((i+1:Nat):Int)=some (vN ⟨((i+1:Nat):Int),0⟩) from rfl,azJ,
    put_end (by omega) (fun s hs=>by
     obtain ⟨h1,h2⟩:=hp.2 s hs;unfold ltP;simp [h1,h2]) (show (1:Int)≠0 by decide),azJ,hg]
   simp [contX])
  (fun e i hi e' hp h=>by
   have hi':i < 3:=by simpa using hi
   have hg:([0,1,2]:List Nat)[i]=i:=by
    match i,hi' with
    | 0,_=>rfl
    | 1,_=>rfl
    | 2,_=>rfl
   rw [hg] at h;cases h;refine ⟨by simp only [List.length_append,List.length_singleton];omega,fun s hs=>?_⟩;rcases List.mem_append.1 hs with hs | hs
   ·obtain ⟨h1,h2⟩:=hp.2 s hs;exact ⟨h1,by omega⟩
   ·rw [List.mem_singleton] at hs;subst hs;exact ⟨rfl,by simp only;omega⟩)
  (fun back e _=>by
   unfold cz9;simp only;rw [decide_eq_false (by simp),bzz];rfl) ⟨2,[],[]⟩ ⟨by simp,by simp⟩
 unfold hz0;rw [show (0:Int)=((0:Nat):Int) from rfl,this];rfl
theorem zzP:izF ()=some true:=by
 unfold izF;rw [column_is,azJ];kernel_rfl
theorem zzB:∀ a,a < 7→∀ b,b < 7→∀ k,k < 12→czk (UInt8.ofNat a,UInt8.ofNat b,UInt8.ofNat k)=some true:=by
 unfold czk;rw [zzP];simp only [azJ];decide +kernel
theorem qzi (a:UInt8) {n:Nat} (hn:0 < n) (hn2:n≤256):(UInt8.ofNat (a.toNat % n)).toNat=a.toNat % n:=by
 have:=Nat.mod_lt a.toNat hn;simp only [UInt8.toNat_ofNat'];exact Nat.mod_eq_of_lt (by omega)
theorem mzx (a:Nat) (n:Nat):(a:Int).tmod (n:Int)=((a % n:Nat):Int):=rfl
theorem szy (a b c:UInt8):czk (a,b,c)=some true:=by
 have h:=zzB (a.toNat % 7) (Nat.mod_lt _ (by decide)) (b.toNat % 7) (Nat.mod_lt _ (by decide)) (c.toNat % 12) (Nat.mod_lt _ (by decide));have e:czk (a,b,c)=czk (UInt8.ofNat (a.toNat % 7),UInt8.ofNat (b.toNat % 7),UInt8.ofNat (c.toNat % 12)):=by
  have h1:((UInt8.ofNat (a.toNat % 7)).toNat:Int).tmod 7=((a.toNat:Int)).tmod 7:=by
   rw [qzi a (by decide) (by decide)]
   show (((a.toNat % 7):Nat):Int).tmod ((7:Nat):Int)=(a.toNat:Int).tmod ((7:Nat):Int)
   rw [mzx,mzx,Nat.mod_mod]
  have h2:((UInt8.ofNat (b.toNat % 7)).toNat:Int).tmod 7=((b.toNat:Int)).tmod 7:=by
   rw [qzi b (by decide) (by decide)]
   show (((b.toNat % 7):Nat):Int).tmod ((7:Nat):Int)=(b.toNat:Int).tmod ((7:Nat):Int)
   rw [mzx,mzx,Nat.mod_mod]
  have h3:((UInt8.ofNat (c.toNat % 12)).toNat:Int).tmod 12=((c.toNat:Int)).tmod 12:=by
   rw [qzi c (by decide) (by decide)]
   show (((c.toNat % 12):Nat):Int).tmod ((12:Nat):Int)=(c.toNat:Int).tmod ((12:Nat):Int)
   rw [mzx,mzx,Nat.mod_mod]
  have h4:((UInt8.ofNat (c.toNat % 12)).toNat:Int).tmod 3=((c.toNat:Int)).tmod 3:=by
   rw [qzi c (by decide) (by decide)]
   show (((c.toNat % 12):Nat):Int).tmod ((3:Nat):Int)=(c.toNat:Int).tmod ((3:Nat):Int)
   rw [mzx,mzx];omega
  unfold czk;simp only [h1,h2,h3,h4]
 rw [e,h]
end Go.Proofs.YtdgpkbnnljblmaaGreatDoor

/- RW -/
namespace Go.Proofs.YtdgpkbnnljblmaaGreatDoor
open Go Go.Ev
theorem own:ownKnob Tryz.prog.godebug=none:=by kernel_rfl
theorem laidOut:laidOutB Tryz.prog=true:=by kernel_rfl
theorem and2 {a b:Bool} (h:a=true) (k:b=true):(a&&b)=true:=by rw [h,k];rfl
theorem main_is:Tryz.pinned.checked.prog.mainIs=some (true, "77b88d5647d88579fe249790164f29ba538a169e38f55a49c9c0a729a43cbb40".toList):=by kernel_rfl
theorem looks_is:false=Tryz.pinned.checked.prog.looks []:=by kernel_rfl
theorem zzU:mapsRowed Tryz.prog=true:=by kernel_rfl
theorem zzX:(Rows.evalFaultsRow.plainKeys == Tryz.prog.plainKeys)=true:=by kernel_rfl
theorem yz1:Tryz.prog.stopsHeard=true:=by kernel_rfl
theorem may_enter:Tryz.prog.mayEnter=true:=by kernel_rfl
theorem lifts_is:(Rows.evalFaultsRow.lifted == Tryz.prog.liftsFinal)=true:=by kernel_rfl
theorem make_is:(Tryz.prog.make == some Rows.evalFaultsRow.make)=true:=by kernel_rfl
def rd:RdTab Tryz.prog tb:=⟨[5,114,111],20,fun t ht=>by
 simp only [List.mem_cons,List.not_mem_nil,or_false] at ht;rcases ht with rfl | rfl | rfl
 ·exact vzi (ks:=[.int .u8]) (by kernel_rfl) rfl (fun _=>rfl)
 ·exact vzi (ks:=[.int .i16]) (by kernel_rfl) rfl (fun _=>rfl)
 ·exact vzi (ks:=[.sl 114]) (by kernel_rfl) (by kernel_rfl) (fun _=>rfl)⟩
theorem readable:∀ t∈[5,111],Tryz.prog.readableRec t=true∧t < Tryz.prog.types.size:=by
 intro t ht;simp only [List.mem_cons,List.not_mem_nil,or_false] at ht;rcases ht with rfl | rfl<;>exact ⟨by kernel_rfl,of_decide_eq_true (by kernel_rfl)⟩
abbrev laidL:List (String×DataW Unit):=[("math/bits.deBruijn32tab",Rows.laid_math_bits_deBruijn32tab),("math/bits.deBruijn64tab",Rows.laid_math_bits_deBruijn64tab),("internal/strconv.uint64pow10",Rows.laid_internal_strconv_uint64pow10),("unicode/utf8.acceptRanges",Rows.laid_unicode_utf8_acceptRanges),("unicode/utf8.first",Rows.laid_unicode_utf8_first)]
theorem extra:Go.Proofs.U8Extra Tryz.prog Tryz.lays196_ren:=⟨by kernel_rfl,by kernel_rfl,by kernel_rfl,by kernel_rfl,by kernel_rfl,by kernel_rfl,by kernel_rfl⟩
theorem first_is:(Rows.laid_unicode_utf8_first:DataW Unit)=Lib.firstData:=by kernel_rfl
theorem accept_is:(Rows.laid_unicode_utf8_acceptRanges:DataW Unit)=Lib.acceptData:=by kernel_rfl
theorem inv_of {W:World} (h:laidMetH Tryz.prog laidL W):tb.inv (fun _=>.con) W:=by
 rw [MakeChecks.laidMetH_plain _ _ _ (by kernel_rfl)] at h;have h3:=Lib.laidMet.reads h (n := "unicode/utf8.first") (d:=Rows.laid_unicode_utf8_first) (by simp);have h4:=Lib.laidMet.reads h (n := "unicode/utf8.acceptRanges") (d:=Rows.laid_unicode_utf8_acceptRanges) (by simp);rw [first_is] at h3;rw [accept_is] at h4;obtain ⟨g2,t2,cs2,f2,p2,hg2,ht2,hv2,hd2⟩:=Lib.laidMet.reads h (n := "internal/strconv.uint64pow10") (d:=Rows.laid_internal_strconv_uint64pow10) (by simp);obtain rfl:=Option.some.inj ((show Tryz.prog.globalNamed "internal/strconv.uint64pow10" = some 5 by kernel_rfl).symm.trans hg2);obtain rfl:=Option.some.inj ((show (Tryz.prog.globals[5]?).map (·.type)=some 362 by kernel_rfl).symm.trans ht2);refine ⟨rfl,rfl,Go.Proofs.utf8Tabs_of_readsT (.of196 Tryz.lays196) extra h3 h4,5,by kernel_rfl,rfl,?_⟩;have:=Lib.cells_of_tab (k:=.u64) (zs:=Lib.pow10Tab) (n:=20) Tryz.underlying362 Tryz.underlying152 (by kernel_rfl) (by kernel_rfl) (show DataW.trod _ _ _ _ _ _ _ _ _=some (Lib.tabData .u64 Lib.pow10Tab,_) from hd2);unfold Lib.TabIs;rw [hv2,← this]
theorem true_out {P:Program}:∀ g w us cs v,azS P tb g w [(0,.val 4)] true us cs→RetV [(0,.val 4)] us v→azF P 4=false→v = .bool true:=by
 intro g w us cs v h hr ha;cases us with
 | nil=>cases cs<;>exact h.elim
 | cons u us =>
  cases us with
  | cons _ _=>cases cs<;>exact h.elim
  | nil =>
   cases cs with
   | nil=>exact h.elim
   | cons c cs =>
    cases cs with
    | cons _ _=>exact h.elim
    | nil =>
     have hr:v=u:=hr;subst hr;obtain ⟨h1,_⟩:=h;unfold azM at h1;simp only [ha,Bool.false_eq_true,if_false] at h1;obtain ⟨c,hc,hrep⟩:=h1;have hc:[CV.bool true]=[c]:=hc;simp only [List.cons.injEq,and_true] at hc;subst hc;cases hrep;rfl
end Go.Proofs.YtdgpkbnnljblmaaGreatDoor

/- DA -/
namespace Go.Proofs.YtdgpkbnnljblmaaGreatDoor
open Go Go.Ev Go.ChangeShapes Go.WideShapes Go.RowKit
theorem nzs:vzu Tryz.prog tb czl:=fun x hx=>by
 obtain ⟨a,b,c⟩:=x;exact ⟨true,szy a b c,fun g w us cs v h hr=>true_out g w us cs v h hr notAgg4⟩
set_option maxRecDepth 100000 in
theorem lz2 (os:Os) (started:os.Started) (H:Type) (enc:TypeId×Value→H) :
 ReturnsInHanded {} Tryz.checked os 15 .any (fun w args=>(Rows.evalFaultsSpec.pre enc Tryz.prog Tryz.f15 [] false w args∧laidMetH Tryz.prog laidL w)∧sizedMet enc Tryz.prog Tryz.f15 (OpenSpec.ofChange Rows.evalFaultsSpec) false w args)
  (Rows.evalFaultsSpec.post enc Tryz.prog Tryz.f15 false true false false):=by
 refine returnsInHanded_of_change_and (C:=Tryz.checked) (X:=fun w _=>laidMetH Tryz.prog laidL w) (fun _ _ _ hh h=>h.of_heap hh) own started (by kernel_rfl) Tryz.func15
  (ChangeSpec.witness_shaped (enc:=enc) (C:=Tryz.checked) (os:=os) (X:=fun w _=>laidMetH Tryz.prog laidL w) false (World.laidAll Tryz.prog os laidL) #[.int .u8 0,.int .u8 0,.int .u8 0] 8 (World.laidAll_os _ _ _) (World.shaped_of_ZipB (by kernel_rfl) (by kernel_rfl)) (by kernel_rfl) (by kernel_rfl) (by kernel_rfl) (by rw [MakeChecks.laidMetH_plain _ _ _ (by kernel_rfl)];exact laidMet_laidAll _ (by kernel_rfl) (by kernel_rfl))) ?_
 intro W base args ds gs before hval hW _ hz hL _;exact law_calls (P:=Tryz.prog) (tb:=tb) rd (ts:=[5,5,5]) (rb:=4) mzU nzs (by rw [Tryz.params15]) rfl (fun t ht=>by revert t;decide) rfl Tryz.underlying4 rfl (fun ds h=>by
  match ds,h with
  | [d0,d1,d2],_=>rfl) laidOut (fun t ht=>readable t (by revert t;decide)) hval hW hz (inv_of hL)
theorem ozZ:(Rows.evalFaultsRow.inPlace == Tryz.prog.inPlace 15)=true:=by kernel_rfl
theorem nz4:(Rows.evalFaultsRow.unfollowed == Tryz.prog.unfollowed 15)=true:=by kernel_rfl
theorem nz5:(Rows.evalFaultsRow.recurses == Tryz.prog.recurses 15)=true:=by kernel_rfl
theorem nz6:(Rows.evalFaultsRow.named == Tryz.prog.varsNamed 15)=true:=by kernel_rfl
theorem lz1:joinedFacts Tryz.pinned.checked.prog 15 Tryz.f15 Rows.evalFaultsSpec Rows.evalFaultsRow=true :=
 and2 (and2 (and2 (and2 (and2 (and2 (and2 (and2 (and2 (and2 (and2 (and2 (and2 (and2 (and2 (and2 (and2 (and2 (and2 (and2 (and2 (and2 (and2 (and2 (and2 (and2 (and2 (and2 (and2 (and2 (and2 (by kernel_rfl) laidOut) zzU) (by kernel_rfl)) (by kernel_rfl)) (by kernel_rfl)) (by kernel_rfl)) (by kernel_rfl)) (by kernel_rfl)) ozZ) nz4) nz5) nz6) (by kernel_rfl)) (by kernel_rfl)) (by kernel_rfl)) (by kernel_rfl)) (by kernel_rfl)) (by kernel_rfl)) (by kernel_rfl)) (by kernel_rfl)) (by kernel_rfl)) zzX) (by kernel_rfl)) yz1) may_enter) lifts_is) make_is) (by kernel_rfl)) (by kernel_rfl)) (by kernel_rfl)) (by kernel_rfl)
theorem law15_EvalFaults_holds:Rows.EvalFaultsSaid :=
 OpenClaim.holds_of_wide 15 Tryz.f15 rfl rfl rfl rfl rfl rfl rfl ⟨rfl,rfl,rfl,rfl,rfl⟩ rfl rfl rfl rfl rfl (by kernel_rfl) Tryz.func15 lz1
  (of_decide_eq_true (by kernel_rfl)) (by unfold Func.isWrapper;first | (rw [if_pos (by decide +kernel)];kernel_rfl) | (rw [if_neg (by decide +kernel)];exact ⟨rfl,rfl⟩))
  (fun os started H enc _=>lz2 os started H enc)
theorem nzr:false=Rows.evalFaultsRow.goesBy Tryz.pinned.checked.prog:=by kernel_rfl
theorem law15_EvalFaults_card:Rows.EvalFaultsCardSaid :=
 Claim7.holds_tied_plain_at .later [] [.data,.data,.data,.data,.pinned] true (true, "77b88d5647d88579fe249790164f29ba538a169e38f55a49c9c0a729a43cbb40") false
  law15_EvalFaults_holds (fun _ h=>by cases h) (by kernel_rfl) (fun _ h=>by cases h) evalFaults_row_tie rfl ⟨rfl,rfl⟩ main_is rfl
  (fun f fn hf hfn=>by
   obtain rfl:f=15:=Option.some.inj ((show Tryz.prog.funcNamed "cashbook/cashbooklaw15.EvalFaults" = some 15 by kernel_rfl).symm.trans hf) |>.symm;obtain rfl:fn=Tryz.f15:=(Option.some.inj (Tryz.func15.symm.trans hfn)).symm;exact ⟨looks_is,fun j t ht=>by
    rw [Tryz.params15] at ht;have hm:t∈[5,5,5]:=by simpa using Array.mem_of_getElem? ht
    have hall:([5,5,5].all fun u=>!Tryz.prog.wantsStandIn u)=true:=by kernel_rfl
    exact (show Tryz.prog.wantsStandIn t=false by simpa using List.all_eq_true.1 hall t hm)⟩)
  nzr
end Go.Proofs.YtdgpkbnnljblmaaGreatDoor
