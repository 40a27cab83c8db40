import Derived.Test.YtdgpkbnnljblmaaGreatDoorT1
import Derived.Shelf.Spec.BitsCarry
import Derived.Lib.Bytealg
import Derived.Shelf.Small.Bits
import Derived.Shelf.Strings.Repeat
import Derived.Test.YtdgpkbnnljblmaaGreatDoorChecked
import Derived.Shelf.LaysM
import Derived.Shelf.Strconv.Itoa1
import Derived.Shelf.Strconv.Itoa2
import Derived.Lib.Walk
import Derived.Lib.ItoaMem
import Derived.Lib.AppendIntMem
import Derived.WalkKit
import Derived.BigCall
import Derived.BigGuard
import Derived.Shelf.Unicode.ValidAny
import Derived.Lib.ItoaNum
/- L1 -/
namespace Go.Proofs
open Go.Shelf
def Tryz.lays134_ren:Go.Shelf.Ren:=⟨fun | 134=>260 | 129=>277 | n=>n,fun | 53=>152 | 3=>3 | 4=>4 | 46=>145 | 5=>5 | 9=>9 | n=>n,fun | n=>n⟩
theorem Tryz.lays134:Go.Proofs.Lays.n134 Tryz.prog Tryz.lays134_ren where
 mixed:=by kernel_rfl
 f129:=Tryz.func277.trans (congrArg some (by kernel_rfl))
 f134:=Tryz.func260.trans (congrArg some (by kernel_rfl))
 t3:=Tryz.underlying3
 a3:=Tryz.isAgg3
 z3:=Tryz.sizeOf3
 v3:=Tryz.zeroValue3
 t4:=Tryz.underlying4
 a4:=Tryz.isAgg4
 z4:=Tryz.sizeOf4
 v4:=Tryz.zeroValue4
 t5:=Tryz.underlying5
 a5:=Tryz.isAgg5
 z5:=Tryz.sizeOf5
 v5:=Tryz.zeroValue5
 t9:=Tryz.underlying9
 a9:=Tryz.isAgg9
 z9:=Tryz.sizeOf9
 v9:=Tryz.zeroValue9
 t46:=Tryz.underlying145
 a46:=Tryz.isAgg145
 z46:=Tryz.sizeOf145
 v46:=Tryz.zeroValue145
 t53:=Tryz.underlying152
 a53:=Tryz.isAgg152
 z53:=Tryz.sizeOf152
 v53:=Tryz.zeroValue152
end Go.Proofs
namespace Go.Proofs.YtdgpkbnnljblmaaGreatDoor
open Go Go.Ev
theorem czu:azC Tryz.prog 152=false:=by kernel_rfl
theorem jzu:azC Tryz.prog 9=false:=by kernel_rfl
theorem notAgg5:azC Tryz.prog 5=false:=by kernel_rfl
theorem pzp:azC Tryz.prog 3=false:=by kernel_rfl
theorem notAgg4:azC Tryz.prog 4=false:=by kernel_rfl
def ezf (x:Int×Int×Int):Option (Int×Int) :=
 bif decide (x.2.2=0)||decide (x.2.2=1) then some ((x.1+x.2.1+x.2.2) % 18446744073709551616,(x.1+x.2.1+x.2.2) / 18446744073709551616) else none
def vzU:FSpec tb:=⟨[(0,.val 152),(1,.val 152),(2,.val 152)],[(0,.val 152),(1,.val 152)],ezf⟩
set_option maxRecDepth 100000 in
theorem jzy:bzd Tryz.prog tb 178 vzU:=by
 refine mzx rfl fun g w (x:Int×Int×Int) vs bs (y:Int×Int) hy hinv hh=>?_
 obtain ⟨a,b,c⟩:=x;obtain ⟨v0,vs,b0,bs,rfl,rfl⟩:=azM hh;obtain ⟨v1,vs,b1,bs,rfl,rfl⟩:=azM hh.2;obtain ⟨v2,vs,b2,bs,rfl,rfl⟩:=azM hh.2.2;obtain ⟨h0,h1,h2⟩:=hh;obtain ⟨rfl,rfl⟩:vs=[]∧bs=[]:=by
  cases vs<;>cases bs<;>first | exact ⟨rfl,rfl⟩ | exact h2.elim
 obtain ⟨e0,r0⟩:=czn czu (czt _) h0.1;obtain ⟨e1,r1⟩:=czn czu (czt _) h1.1;obtain ⟨e2,r2⟩:=czn czu (czt _) h2.1;subst e0;subst e1;subst e2;simp only [Ev.inR,lo,hi] at r0 r1 r2;have hy:ezf (a,b,c)=some y:=hy;unfold ezf at hy;simp only at hy;cases hc:(decide (c=0)||decide (c=1)) with
 | false=>rw [hc] at hy;cases hy
 | true =>
  rw [hc] at hy;have hy:=Option.some.inj hy;subst hy;simp only [Bool.or_eq_true,decide_eq_true_eq] at hc;refine ⟨_,[.int .u64 ((a+b+c) % 18446744073709551616),.int .u64 ((a+b+c) / 18446744073709551616)],rfl,fun g w=>⟨⟨dzO czu (czt _) (by simp only [Ev.inR,lo,hi];omega),rfl⟩,⟨dzO czu (czt _) (by simp only [Ev.inR,lo,hi];omega),rfl⟩⟩,?_⟩;obtain ⟨a,rfl⟩:=Int.eq_ofNat_of_zero_le r0.1;obtain ⟨b,rfl⟩:=Int.eq_ofNat_of_zero_le r1.1;obtain ⟨c,rfl⟩:=Int.eq_ofNat_of_zero_le r2.1
  show (callFunc 178 #[.int .u64 a,.int .u64 b,.int .u64 c]).run Tryz.prog w=_
  rw [run_callFunc_extern Tryz.func178 (by kernel_rfl) (by kernel_rfl) (by kernel_rfl) (e:=add64Entry) (by kernel_rfl),run_add64 a b c (by omega) (by omega) (by omega) (by omega)];simp only [Result.andThen]
def fzd (x:Int×Int×Int):Option (Int×Int) :=
 bif decide (x.2.2=0)||decide (x.2.2=1) then some ((x.1 - x.2.1 - x.2.2) % 18446744073709551616,bif decide (x.1 < x.2.1+x.2.2) then 1 else 0) else none
def vzY:FSpec tb:=⟨[(0,.val 152),(1,.val 152),(2,.val 152)],[(0,.val 152),(1,.val 152)],fzd⟩
set_option maxRecDepth 100000 in
theorem qzA:bzd Tryz.prog tb 179 vzY:=by
 refine mzx rfl fun g w (x:Int×Int×Int) vs bs (y:Int×Int) hy hinv hh=>?_
 obtain ⟨a,b,c⟩:=x;obtain ⟨v0,vs,b0,bs,rfl,rfl⟩:=azM hh;obtain ⟨v1,vs,b1,bs,rfl,rfl⟩:=azM hh.2;obtain ⟨v2,vs,b2,bs,rfl,rfl⟩:=azM hh.2.2;obtain ⟨h0,h1,h2⟩:=hh;obtain ⟨rfl,rfl⟩:vs=[]∧bs=[]:=by
  cases vs<;>cases bs<;>first | exact ⟨rfl,rfl⟩ | exact h2.elim
 obtain ⟨e0,r0⟩:=czn czu (czt _) h0.1;obtain ⟨e1,r1⟩:=czn czu (czt _) h1.1;obtain ⟨e2,r2⟩:=czn czu (czt _) h2.1;subst e0;subst e1;subst e2;simp only [Ev.inR,lo,hi] at r0 r1 r2;have hy:fzd (a,b,c)=some y:=hy;unfold fzd at hy;simp only at hy;cases hc:(decide (c=0)||decide (c=1)) with
 | false=>rw [hc] at hy;cases hy
 | true =>
  rw [hc] at hy;have hy:=Option.some.inj hy;subst hy;simp only [Bool.or_eq_true,decide_eq_true_eq] at hc;refine ⟨_,[.int .u64 ((a - b - c) % 18446744073709551616),.int .u64 (bif decide (a < b+c) then 1 else 0)],rfl,fun g w=>⟨⟨dzO czu (czt _) (by simp only [Ev.inR,lo,hi];omega),rfl⟩,⟨dzO czu (czt _) (by cases decide (a < b+c)<;>simp [Ev.inR,lo,hi]),rfl⟩⟩,?_⟩;obtain ⟨a,rfl⟩:=Int.eq_ofNat_of_zero_le r0.1;obtain ⟨b,rfl⟩:=Int.eq_ofNat_of_zero_le r1.1;obtain ⟨c,rfl⟩:=Int.eq_ofNat_of_zero_le r2.1
  show (callFunc 179 #[.int .u64 a,.int .u64 b,.int .u64 c]).run Tryz.prog w=_
  rw [run_callFunc_extern Tryz.func179 (by kernel_rfl) (by kernel_rfl) (by kernel_rfl) (e:=sub64Entry) (by kernel_rfl),run_sub64 a b c (by omega)];simp only [Result.andThen];have e1:(((a+18446744073709551616 - b - c) % 18446744073709551616:Nat):Int)=((a:Int) - b - c) % 18446744073709551616:=by omega
  have e2:((if a < b+c then 1 else 0:Nat):Int)=(bif decide ((a:Int) < b+c) then 1 else 0):=by
   by_cases h:a < b+c
   ·have:(a:Int) < b+c:=by omega
    simp [h,this]
   ·have:¬ (a:Int) < b+c:=by omega
    simp [h,this]
  rw [e1,e2]
def dzq (x:List UInt8×UInt8):Option Int:=some (Lib.indexByte x.1 x.2)
def jzA:FSpec tb:=⟨[(0,.val 9),(1,.val 5)],[(0,.val 3)],dzq⟩
theorem uzN:∀ (s:List UInt8) (c:UInt8),-1≤Lib.indexByte s c∧Lib.indexByte s c < (s.length:Int)+1:=by
 intro s c;induction s with
 | nil=>simp [Lib.indexByte]
 | cons b l ih =>
  unfold Lib.indexByte;simp only [List.length_cons];split
  ·omega
  ·split<;>omega
set_option maxRecDepth 100000 in
theorem hzy:bzd Tryz.prog tb 290 jzA:=by
 refine mzx rfl fun g w (x:List UInt8×UInt8) vs bs (y:Int) hy hinv hh=>?_
 obtain ⟨s,c⟩:=x;obtain ⟨v0,vs,b0,bs,rfl,rfl⟩:=azM hh;obtain ⟨v1,vs,b1,bs,rfl,rfl⟩:=azM hh.2;obtain ⟨h0,h1⟩:=hh;obtain ⟨rfl,rfl⟩:vs=[]∧bs=[]:=by
  cases vs<;>cases bs<;>first | exact ⟨rfl,rfl⟩ | exact h1.elim
 obtain ⟨e0,r0⟩:=mzB jzu (jzr _) h0.1;obtain ⟨e1,r1⟩:=czn notAgg5 (enc5_eq _) h1.1;subst e0;subst e1;have hy:=Option.some.inj (show some (Lib.indexByte s c)=some y from hy);subst hy;have hl:=uzN s c;unfold azR at r0;refine ⟨_,[.int .i64 (Lib.indexByte s c)],rfl,fun g w=>⟨dzO pzp (pzg _) (by simp only [Ev.inR,lo,hi];omega),rfl⟩,?_⟩
 show (callFunc 290 #[.string ⟨s.toArray⟩,.int .u8 (c.toNat:Int)]).run Tryz.prog w=_
 rw [run_callFunc_extern Tryz.func290 (by kernel_rfl) (by kernel_rfl) (by kernel_rfl) (e:=Extern.BytealgIndexByte.indexByte) (by kernel_rfl),Lib.run_indexByteString];simp only [Result.andThen];congr 3;simp
def dza (x:Int):Option Int:=some (64 - (Lib.bitLen x.toNat:Int))
def gzJ:FSpec tb:=⟨[(0,.val 152)],[(0,.val 3)],dza⟩
set_option maxRecDepth 100000 in
theorem jzb:aze Tryz.prog tb 260 gzJ:=by
 refine pzm (enters_of (c:=azE Tryz.f260) Tryz.func260 (by kernel_rfl) (by kernel_rfl)) rfl fun g w (x:Int) vs bs (y:Int) hy hinv hh=>?_
 obtain ⟨v0,vs,b0,bs,rfl,rfl⟩:=azM hh;have h0:=hh;obtain ⟨rfl,rfl⟩:vs=[]∧bs=[]:=by
  cases vs<;>cases bs<;>first | exact ⟨rfl,rfl⟩ | exact h0.elim
 obtain ⟨e0,r0⟩:=czn czu (czt _) h0.1;subst e0;simp only [Ev.inR,lo,hi] at r0;have hy:=Option.some.inj (show some (64 - (Lib.bitLen x.toNat:Int))=some y from hy);subst hy;have hl:=Any.bitLen_le64 x (by omega) (by omega);refine ⟨_,[.int .i64 (64 - (Lib.bitLen x.toNat:Int))],rfl,fun g w=>⟨dzO pzp (pzg _) (by simp only [Ev.inR,lo,hi];omega),rfl⟩,?_⟩;refine (Any.bits_LeadingZeros64 Tryz.lays134 x w (by omega) (by omega)).mono ?_;rintro e w' ⟨rfl,rfl⟩;exact ⟨rfl,iz9.refl _⟩
end Go.Proofs.YtdgpkbnnljblmaaGreatDoor

/- R1 -/
namespace Go.Proofs
open Go.Shelf
def Tryz.lays105_ren:Go.Shelf.Ren:=⟨fun | 105=>157 | 212=>221 | 99=>222 | 165=>223 | 166=>143 | 170=>224 | 169=>144 | 263=>253 | 264=>98 | 206=>254 | 240=>218 | 241=>255 | 276=>251 | 277=>271 | n=>n,fun | 9=>9 | 3=>3 | 4=>4 | 20=>20 | 0=>0 | 46=>145 | 109=>305 | 5=>5 | 72=>218 | 76=>223 | 51=>340 | 146=>341 | 53=>152 | 148=>163 | 70=>215 | 37=>216 | 75=>222 | 127=>301 | 164=>337 | 80=>225 | n=>n,fun | n=>n⟩
theorem Tryz.lays105:Go.Proofs.Lays.n105 Tryz.prog Tryz.lays105_ren where
 mixed:=by kernel_rfl
 f99:=Tryz.func222.trans (congrArg some (by kernel_rfl))
 f105:=Tryz.func157.trans (congrArg some (by kernel_rfl))
 f165:=Tryz.func223.trans (congrArg some (by kernel_rfl))
 f166:=Tryz.func143.trans (congrArg some (by kernel_rfl))
 f169:=Tryz.func144.trans (congrArg some (by kernel_rfl))
 f170:=Tryz.func224.trans (congrArg some (by kernel_rfl))
 f206:=Tryz.func254.trans (congrArg some (by kernel_rfl))
 f212:=Tryz.func221.trans (congrArg some (by kernel_rfl))
 f240:=Tryz.func218.trans (congrArg some (by kernel_rfl))
 f241:=Tryz.func255.trans (congrArg some (by kernel_rfl))
 f263:=Tryz.func253.trans (congrArg some (by kernel_rfl))
 f264:=Tryz.func98.trans (congrArg some (by kernel_rfl))
 f276:=Tryz.func251.trans (congrArg some (by kernel_rfl))
 f277:=Tryz.func271.trans (congrArg some (by kernel_rfl))
 t0:=Tryz.underlying0
 a0:=Tryz.isAgg0
 z0:=Tryz.sizeOf0
 v0:=Tryz.zeroValue0
 t3:=Tryz.underlying3
 a3:=Tryz.isAgg3
 z3:=Tryz.sizeOf3
 v3:=Tryz.zeroValue3
 t4:=Tryz.underlying4
 a4:=Tryz.isAgg4
 z4:=Tryz.sizeOf4
 v4:=Tryz.zeroValue4
 t5:=Tryz.underlying5
 a5:=Tryz.isAgg5
 z5:=Tryz.sizeOf5
 v5:=Tryz.zeroValue5
 t9:=Tryz.underlying9
 a9:=Tryz.isAgg9
 z9:=Tryz.sizeOf9
 v9:=Tryz.zeroValue9
 t20:=Tryz.underlying20
 a20:=Tryz.isAgg20
 z20:=Tryz.sizeOf20
 v20:=Tryz.zeroValue20
 t37:=Tryz.underlying216
 a37:=Tryz.isAgg216
 z37:=Tryz.sizeOf216
 v37:=Tryz.zeroValue216
 t46:=Tryz.underlying145
 a46:=Tryz.isAgg145
 z46:=Tryz.sizeOf145
 v46:=Tryz.zeroValue145
 t51:=Tryz.underlying340
 a51:=Tryz.isAgg340
 z51:=Tryz.sizeOf340
 v51:=Tryz.zeroValue340
 t53:=Tryz.underlying152
 a53:=Tryz.isAgg152
 z53:=Tryz.sizeOf152
 v53:=Tryz.zeroValue152
 t70:=Tryz.underlying215
 a70:=Tryz.isAgg215
 z70:=Tryz.sizeOf215
 v70:=Tryz.zeroValue215
 t72:=Tryz.underlying218
 a72:=Tryz.isAgg218
 z72:=Tryz.sizeOf218
 v72:=Tryz.zeroValue218
 t75:=Tryz.underlying222
 a75:=Tryz.isAgg222
 z75:=Tryz.sizeOf222
 v75:=Tryz.zeroValue222
 t76:=Tryz.underlying223
 a76:=Tryz.isAgg223
 z76:=Tryz.sizeOf223
 v76:=Tryz.zeroValue223
 t109:=Tryz.underlying305
 a109:=Tryz.isAgg305
 z109:=Tryz.sizeOf305
 v109:=Tryz.zeroValue305
 t127:=Tryz.underlying301
 a127:=Tryz.isAgg301
 z127:=Tryz.sizeOf301
 v127:=Tryz.zeroValue301
 t146:=Tryz.underlying341
 a146:=Tryz.isAgg341
 z146:=Tryz.sizeOf341
 v146:=Tryz.zeroValue341
 t148:=Tryz.underlying163
 a148:=Tryz.isAgg163
 z148:=Tryz.sizeOf163
 v148:=Tryz.zeroValue163
 t164:=Tryz.underlying337
 a164:=Tryz.isAgg337
 z164:=Tryz.sizeOf337
 v164:=Tryz.zeroValue337
theorem Tryz.builder105:Builder.Extra Tryz.prog Tryz.lays105_ren where
 sizeBuilder:=by kernel_rfl
 liesBuilder:=by kernel_rfl
 t5:=Tryz.underlying5
 a5:=Tryz.isAgg5
 z5:=Tryz.sizeOf5
 v5:=Tryz.zeroValue5
 infoByte:=by kernel_rfl
 cellsByte:=by kernel_rfl
 sizeByte:=by kernel_rfl
 neB5:=by decide
end Go.Proofs
namespace Go.Proofs.YtdgpkbnnljblmaaGreatDoor
open Go Go.Ev Go.RowKit
theorem lze {w w':World} (h:Below w.heap.size w w'):iz9 w w':=⟨h.os,h.tape,h.output,h.size,h.block⟩
def ezc (x:List UInt8×Int):Option (List UInt8) :=
 bif decide (0≤x.2)&&decide ((x.1.length:Int)*x.2≤140737488355328) then some (Lib.repeatL x.1 x.2.toNat) else none
def kzW:FSpec tb:=⟨[(0,.val 9),(1,.val 3)],[(0,.val 9)],ezc⟩
set_option maxRecDepth 100000 in
theorem hzp:aze Tryz.prog tb 157 kzW:=by
 refine pzm (enters_of (c:=azE Tryz.f157) Tryz.func157 (by kernel_rfl) (by kernel_rfl)) rfl fun g w (x:List UInt8×Int) vs bs (y:List UInt8) hy hinv hh=>?_
 obtain ⟨s,c⟩:=x;obtain ⟨v0,vs,b0,bs,rfl,rfl⟩:=azM hh;obtain ⟨v1,vs,b1,bs,rfl,rfl⟩:=azM hh.2;obtain ⟨h0,h1⟩:=hh;obtain ⟨rfl,rfl⟩:vs=[]∧bs=[]:=by
  cases vs<;>cases bs<;>first | exact ⟨rfl,rfl⟩ | exact h1.elim
 obtain ⟨e0,r0⟩:=mzB jzu (jzr _) h0.1;obtain ⟨e1,r1⟩:=czn pzp (pzg _) h1.1;subst e0;subst e1;simp only [Ev.inR,lo,hi] at r1;have hy:ezc (s,c)=some y:=hy;unfold ezc at hy;simp only at hy;cases hc:(decide (0≤c)&&decide ((s.length:Int)*c≤140737488355328)) with
 | false=>rw [hc] at hy;cases hy
 | true =>
  rw [hc] at hy;have hy:=Option.some.inj hy;subst hy;simp only [Bool.and_eq_true,decide_eq_true_eq] at hc;obtain ⟨c,rfl⟩:=Int.eq_ofNat_of_zero_le hc.1;have hlen:s.length*c≤140737488355328:=by
   have:=hc.2;rw [← Int.natCast_mul] at this;omega
  refine ⟨_,[.string ⟨(Lib.repeatL s (c:Int).toNat).toArray⟩],rfl,fun g w=>⟨nzt jzu (jzr _) (by rw [Lib.repeatL_length,Int.toNat_natCast,Nat.mul_comm];unfold azR;omega),rfl⟩,?_⟩;have:=Any.strings_Repeat Tryz.lays105 Tryz.builder105 ⟨s.toArray⟩ c w (by omega) (by simpa [ByteArray.size] using hlen);refine this.mono ?_;rintro e w' ⟨rfl,hb⟩;exact ⟨by simp,lze hb⟩
end Go.Proofs.YtdgpkbnnljblmaaGreatDoor

/- U2 -/
namespace Go.Proofs
open Go.Shelf
def Tryz.lays283_ren:Go.Shelf.Ren:=⟨fun | 283=>272 | n=>n,fun | 3=>3 | 9=>9 | 4=>4 | n=>n,fun | n=>n⟩
theorem Tryz.lays283:Go.Proofs.Lays.n283 Tryz.prog Tryz.lays283_ren where
 mixed:=by kernel_rfl
 f283:=Tryz.func272.trans (congrArg some (by kernel_rfl))
 t3:=Tryz.underlying3
 a3:=Tryz.isAgg3
 z3:=Tryz.sizeOf3
 v3:=Tryz.zeroValue3
 t4:=Tryz.underlying4
 a4:=Tryz.isAgg4
 z4:=Tryz.sizeOf4
 v4:=Tryz.zeroValue4
 t9:=Tryz.underlying9
 a9:=Tryz.isAgg9
 z9:=Tryz.sizeOf9
 v9:=Tryz.zeroValue9
def Tryz.lays284_ren:Go.Shelf.Ren:=⟨fun | 284=>273 | 129=>277 | 317=>280 | 318=>281 | n=>n,fun | 53=>152 | 3=>3 | 212=>362 | 0=>0 | 4=>4 | 46=>145 | 5=>5 | 9=>9 | n=>n,fun | 17=>5 | n=>n⟩
theorem Tryz.lays284:Go.Proofs.LaysM.n284 Tryz.prog Tryz.lays284_ren where
 mixed:=by kernel_rfl
 f129:=Tryz.func277.trans (congrArg some (by kernel_rfl))
 f284:=Tryz.func273.trans (congrArg some (by kernel_rfl))
 f317:=Tryz.func280.trans (congrArg some (by kernel_rfl))
 f318:=Tryz.func281.trans (congrArg some (by kernel_rfl))
 t0:=Tryz.underlying0
 a0:=Tryz.isAgg0
 z0:=Tryz.sizeOf0
 v0:=Tryz.zeroValue0
 t3:=Tryz.underlying3
 a3:=Tryz.isAgg3
 z3:=Tryz.sizeOf3
 v3:=Tryz.zeroValue3
 t4:=Tryz.underlying4
 a4:=Tryz.isAgg4
 z4:=Tryz.sizeOf4
 v4:=Tryz.zeroValue4
 t5:=Tryz.underlying5
 a5:=Tryz.isAgg5
 z5:=Tryz.sizeOf5
 v5:=Tryz.zeroValue5
 t9:=Tryz.underlying9
 a9:=Tryz.isAgg9
 z9:=Tryz.sizeOf9
 v9:=Tryz.zeroValue9
 t46:=Tryz.underlying145
 a46:=Tryz.isAgg145
 z46:=Tryz.sizeOf145
 v46:=Tryz.zeroValue145
 t53:=Tryz.underlying152
 a53:=Tryz.isAgg152
 z53:=Tryz.sizeOf152
 v53:=Tryz.zeroValue152
 t212:=Tryz.underlying362
 a212:=Tryz.isAgg362
 z212:=Tryz.sizeOf362
 v212:=Tryz.zeroValue362
 g17:=by kernel_rfl
 i0:=by kernel_rfl
 i3:=by kernel_rfl
 i4:=by kernel_rfl
 i5:=by kernel_rfl
 i9:=by kernel_rfl
 i46:=by kernel_rfl
 i53:=by kernel_rfl
 i212:=by kernel_rfl
 m17:=by kernel_rfl
def Tryz.lays285_ren:Go.Shelf.Ren:=⟨fun | 285=>274 | n=>n,fun | 37=>216 | 53=>152 | 3=>3 | 4=>4 | 51=>340 | 9=>9 | 5=>5 | 0=>0 | n=>n,fun | n=>n⟩
theorem Tryz.lays285:Go.Proofs.Lays.n285 Tryz.prog Tryz.lays285_ren where
 mixed:=by kernel_rfl
 f285:=Tryz.func274.trans (congrArg some (by kernel_rfl))
 t0:=Tryz.underlying0
 a0:=Tryz.isAgg0
 z0:=Tryz.sizeOf0
 v0:=Tryz.zeroValue0
 t3:=Tryz.underlying3
 a3:=Tryz.isAgg3
 z3:=Tryz.sizeOf3
 v3:=Tryz.zeroValue3
 t4:=Tryz.underlying4
 a4:=Tryz.isAgg4
 z4:=Tryz.sizeOf4
 v4:=Tryz.zeroValue4
 t5:=Tryz.underlying5
 a5:=Tryz.isAgg5
 z5:=Tryz.sizeOf5
 v5:=Tryz.zeroValue5
 t9:=Tryz.underlying9
 a9:=Tryz.isAgg9
 z9:=Tryz.sizeOf9
 v9:=Tryz.zeroValue9
 t37:=Tryz.underlying216
 a37:=Tryz.isAgg216
 z37:=Tryz.sizeOf216
 v37:=Tryz.zeroValue216
 t51:=Tryz.underlying340
 a51:=Tryz.isAgg340
 z51:=Tryz.sizeOf340
 v51:=Tryz.zeroValue340
 t53:=Tryz.underlying152
 a53:=Tryz.isAgg152
 z53:=Tryz.sizeOf152
 v53:=Tryz.zeroValue152
end Go.Proofs
namespace Go.Proofs.YtdgpkbnnljblmaaGreatDoor
open Go Go.Shelf Go.RowKit Go.Sort Go.Lib Go.Proofs
set_option maxHeartbeats 6400000 in
set_option maxRecDepth 100000 in
theorem uzw (u:Nat) (hu64:u < 18446744073709551616) (w:World) (htab:Lib.TabIs Tryz.prog w "internal/strconv.uint64pow10" .u64 Lib.pow10Tab) :
 Calls Tryz.prog 256 #[.int .u64 (u:Int),.int .i64 10] w fun e w'=>e = .returned (.string ⟨(Lib.decDigits u).toArray⟩)∧Below w.heap.size w w':=by
 have e104:∀ args w,(callFunc 272 args).run Tryz.prog w = .ok (.enter 272 args) w:=enters_of Tryz.func272 (by kernel_rfl) rfl;have e105:∀ args w,(callFunc 273 args).run Tryz.prog w = .ok (.enter 273 args) w:=enters_of Tryz.func273 (by kernel_rfl) rfl;have e106:∀ args w,(callFunc 274 args).run Tryz.prog w = .ok (.enter 274 args) w:=enters_of Tryz.func274 (by kernel_rfl) rfl;by_cases hs:u < 100
 ·have hi:(u:Int) < 100:=by omega
  go_enter Tryz.func256,Tryz.ntmps256
  go_wp2_with (go_at_fn 272;refine (Any.internal_strconv_small Tryz.lays283 u hs _).mono ?_;rintro e w' ⟨rfl,rfl⟩)
  go_ret
  exact ⟨rfl,Below.refl _ _⟩
 ·have hu1:1≤u:=by omega
  have hnd20:Lib.nDigits u≤20:=by have:=Lib.numDigits_eq u hu1 hu64;split at this<;>omega
  have hal:Tryz.prog.arrayLen 355=24:=by simp [Program.arrayLen,Tryz.underlying355]
  have hsl:∀ W,(Instr.sliceAt 355 (.pointer (some ⟨w.heap.size,0,none⟩)) none (some (.int .i64 (Lib.nDigits u:Int))) none).run Tryz.prog W = .ok (.slice (some ⟨w.heap.size,0,none⟩) (Lib.nDigits u) 24) W:=fun W=>by
   rw [run_sliceAt_array_h W 355 ⟨w.heap.size,0,none⟩ (by simp [Program.arrayLen,Program.elem,Tryz.underlying355]) .i64 (Lib.nDigits u:Int) (by omega) (by rw [hal];omega)]
   go_simp
  have hH0:=Lib.holds_zero0 w 355 (Lib.nDigits u) (by omega);have hfmt:=Any.internal_strconv_formatBase10 Tryz.lays285 w.heap.size 0 24 u (Array.replicate (Lib.nDigits u) 0) (w.alloc (.cells Lib.zeros24 355)) hH0 (by rw [Array.size_replicate];exact Lib.lt_pow_nDigits u) hu64 (by rw [Array.size_replicate];omega);rw [Array.size_replicate] at hfmt;have HH0:=Lib.hid hH0;have iu:(100:Int)≤(u:Int):=by omega
  clear hH0 hal
  go_enter Tryz.func256,Tryz.ntmps256
  go_wp2_with (first
   | (go_at_fn 273;refine (Any.internal_strconv_numDigits Tryz.lays284 u hu1 hu64 _ (Lib.tabIs_alloc htab _)).mono ?_;rintro e w' ⟨rfl,rfl⟩))
  go_at_fn 274
  refine hfmt.mono ?_;rintro e w' ⟨rfl,k,v',dk,rfl,hF⟩;have hcv:(convert 216 9 (.slice (some ⟨w.heap.size,0,none⟩) (Lib.nDigits u) 24)).run Tryz.prog ((putRow (fun (b:UInt8)=>Value.int .u8 (b.toNat:Int)) (w.alloc (.cells Lib.zeros24 355)) w.heap.size 0 dk).drewN k) = .ok (.string ⟨(Lib.decDigits u).toArray⟩) ((putRow (fun (b:UInt8)=>Value.int .u8 (b.toNat:Int)) (w.alloc (.cells Lib.zeros24 355)) w.heap.size 0 dk).drewN k):=by
   have h:=run_convert_bytes_back (P:=Tryz.prog) ((putRow (fun (b:UInt8)=>Value.int .u8 (b.toNat:Int)) (w.alloc (.cells Lib.zeros24 355)) w.heap.size 0 dk).drewN k) 216 9 5 ⟨w.heap.size,0,none⟩ 24 (Lib.decDigits u) Tryz.underlying216 Tryz.underlying5 Tryz.underlying9 (fun j hj=>by
    rw [Lib.row_is_numeral hF j hj,Lib.add_plain,World.cell?_drewN];exact cell?_putRow (fun (b:UInt8)=>Value.int .u8 (b.toNat:Int)) _ w.heap.size 0 _ dk HH0.out (by rw [hF.size,Array.size_replicate]) j (by rw [hF.size];rw [Lib.decDigits_length] at hj;exact hj))
   rw [Lib.decDigits_length] at h;exact h
  go_wp2
  go_ret
  obtain ⟨os,eo⟩:=Lib.fin_at w (.cells Lib.zeros24 355) dk k 0;exact ⟨rfl,by rw [eo];exact Lib.below_grow w.heap.size w (Nat.le_refl _) k os⟩
end Go.Proofs.YtdgpkbnnljblmaaGreatDoor

/- U3 -/
namespace Go.Proofs.YtdgpkbnnljblmaaGreatDoor
open Go Go.Ev
def dzd (x:Int×Int):Option (List UInt8):=bif decide (x.2=10) then some (Lib.decDigits x.1.toNat) else none
def mzC:FSpec tb:=⟨[(0,.val 152),(1,.val 3)],[(0,.val 9)],dzd⟩
theorem digits_le {u:Nat} (h:u < 18446744073709551616):(Lib.decDigits u).length≤20:=by
 rw [Lib.decDigits_length];by_cases h0:u=0
 ·subst h0;rw [Lib.nDigits_small (by omega)];omega
 ·have:=Lib.numDigits_eq u (by omega) h;split at this<;>omega
set_option maxRecDepth 100000 in
theorem jzi:aze Tryz.prog tb 256 mzC:=by
 refine pzm (enters_of (c:=azE Tryz.f256) Tryz.func256 (by kernel_rfl) (by kernel_rfl)) rfl fun g w (x:Int×Int) vs bs (y:List UInt8) hy hinv hh=>?_
 obtain ⟨n,c⟩:=x;obtain ⟨v0,vs,b0,bs,rfl,rfl⟩:=azM hh;obtain ⟨v1,vs,b1,bs,rfl,rfl⟩:=azM hh.2;obtain ⟨h0,h1⟩:=hh;obtain ⟨rfl,rfl⟩:vs=[]∧bs=[]:=by
  cases vs<;>cases bs<;>first | exact ⟨rfl,rfl⟩ | exact h1.elim
 obtain ⟨e0,r0⟩:=czn czu (czt _) h0.1;obtain ⟨e1,r1⟩:=czn pzp (pzg _) h1.1;subst e0;subst e1;simp only [Ev.inR,lo,hi] at r0;have hy:dzd (n,c)=some y:=hy;unfold dzd at hy;simp only at hy;cases hc:decide (c=10) with
 | false=>rw [hc] at hy;cases hy
 | true =>
  rw [hc] at hy;have hy:=Option.some.inj hy;subst hy;have hc:=of_decide_eq_true hc;subst hc;obtain ⟨u,rfl⟩:=Int.eq_ofNat_of_zero_le (show 0≤n by omega);have hu:u < 18446744073709551616:=by omega
  have hl:=digits_le hu;rw [Int.toNat_natCast];refine ⟨_,[.string ⟨(Lib.decDigits u).toArray⟩],rfl,fun g w=>⟨nzt jzu (jzr _) (by unfold azR;omega),rfl⟩,?_⟩;have htab:=hinv.2.2.2;obtain ⟨b,hb1,hb2,hb3⟩:=htab;refine (uzw u hu w hb3).mono ?_;rintro e w' ⟨rfl,hb⟩;exact ⟨rfl,lze hb⟩
end Go.Proofs.YtdgpkbnnljblmaaGreatDoor

/- F1 -/
namespace Go.Proofs.YtdgpkbnnljblmaaGreatDoor
open Go Go.Ev
set_option linter.unusedVariables false
theorem mixed:Tryz.prog.follows .mixedOrders=true:=by kernel_rfl
def bzA (x:Int):Option (Dec) :=
 some { M:=x,S:=0 }
def mzq:FSpec tb:=⟨[(0,.val 2)],[(0,.val 30)],bzA⟩
theorem czs:aze Tryz.prog tb 33 mzq:=azt mixed Tryz.func33 (by kernel_rfl) .nil rfl (fun x=>by kernel_rfl)
def dzF (x:List UInt8×List UInt8):Option (Bool) :=
 brn (decide ((↑x.snd.length:Int)≤(↑x.fst.length:Int))) (obnd (sub x.fst 0 (↑x.snd.length:Int)) fun z=>some (decide (z=x.snd))) (some false)
def kzn:FSpec tb:=⟨[(0,.val 9),(1,.val 9)],[(0,.val 4)],dzF⟩
theorem hzZ:aze Tryz.prog tb 254 kzn:=azt mixed Tryz.func254 (by kernel_rfl) .nil rfl (fun x=>by kernel_rfl)
def dzE (x:List UInt8×List UInt8):Option (List UInt8×Bool) :=
 obnd (dzF x) fun y=>brn (!y) (some (x.fst,false)) (obnd (sub x.fst (↑x.snd.length:Int) (↑x.fst.length:Int)) fun z=>some (z,true))
def kzm:FSpec tb:=⟨[(0,.val 9),(1,.val 9)],[(0,.val 9),(1,.val 4)],dzE⟩
theorem hzY:aze Tryz.prog tb 257 kzm:=azt mixed Tryz.func257 (by kernel_rfl) (.cons hzZ .nil) rfl (fun x=>by kernel_rfl)
def ezb (x:List UInt8×List UInt8):Option (List UInt8×Bool) :=
 obnd (dzE x) fun y=>some y
def izG:FSpec tb:=⟨[(0,.val 9),(1,.val 9)],[(0,.val 9),(1,.val 4)],ezb⟩
theorem kzr:aze Tryz.prog tb 230 izG:=azt mixed Tryz.func230 (by kernel_rfl) (.cons hzY .nil) rfl (fun x=>by kernel_rfl)
def dzH (x:List UInt8×UInt8):Option (Int) :=
 obnd (dzq (x.fst,UInt8.ofNat (↑x.snd.toNat:Int).toNat)) fun y=>some y
def kzp:FSpec tb:=⟨[(0,.val 9),(1,.val 5)],[(0,.val 3)],dzH⟩
theorem hz3:aze Tryz.prog tb 284 kzp:=azt mixed Tryz.func284 (by kernel_rfl) (.consK hzy .nil) rfl (fun x=>by kernel_rfl)
def dzC (x:List UInt8×List UInt8):Option (Int) :=
 brn (decide ((↑x.snd.length:Int)=0)) (some 0)
  (brn (decide (x.snd=x.fst)) (some 0)
   (brn (decide ((↑x.snd.length:Int)=1)) (obnd (idx x.snd 0) fun y=>obnd (dzH (x.fst,UInt8.ofNat (↑y.toNat:Int).toNat)) fun y=>some y)
    (brn (decide ((↑x.fst.length:Int)≤(↑x.snd.length:Int))) (some (-1)) none)))
def nzQ:FSpec tb:=⟨[(0,.val 9),(1,.val 9)],[(0,.val 3)],dzC⟩
theorem jzT:aze Tryz.prog tb 276 nzQ:=azt mixed Tryz.func276 (by kernel_rfl) (.cons hz3 .nil) rfl (fun x=>by kernel_rfl)
def fzV (x:List UInt8×List UInt8):Option (List UInt8×List UInt8×Bool) :=
 obnd (dzC x) fun y =>
  brn (decide (0≤y)) (obnd (sub x.fst 0 y) fun z=>obnd (sub x.fst (IntKind.i64.wrap (y+(↑x.snd.length:Int))) (↑x.fst.length:Int)) fun z_1=>some (z,z_1,true))
   (some (x.fst,[],false))
def pzP:FSpec tb:=⟨[(0,.val 9),(1,.val 9)],[(0,.val 9),(1,.val 9),(2,.val 4)],fzV⟩
theorem lzf:aze Tryz.prog tb 258 pzP:=azt mixed Tryz.func258 (by kernel_rfl) (.cons jzT .nil) rfl (fun x=>by kernel_rfl)
def hzo (x:List UInt8×List UInt8):Option (List UInt8×List UInt8×Bool) :=
 obnd (fzV x) fun y=>some (y.fst,y.2)
def oz0:FSpec tb:=⟨[(0,.val 9),(1,.val 9)],[(0,.val 9),(1,.val 9),(2,.val 4)],hzo⟩
theorem pzT:aze Tryz.prog tb 231 oz0:=azt mixed Tryz.func231 (by kernel_rfl) (.cons lzf .nil) rfl (fun x=>by kernel_rfl)
def dzG (x:List UInt8×List UInt8):Option (Bool) :=
 brn (decide ((↑x.snd.length:Int)≤(↑x.fst.length:Int)))
  (obnd (sub x.fst (IntKind.i64.wrap ((↑x.fst.length:Int) - (↑x.snd.length:Int))) (↑x.fst.length:Int)) fun z=>some (decide (z=x.snd))) (some false)
def kzo:FSpec tb:=⟨[(0,.val 9),(1,.val 9)],[(0,.val 4)],dzG⟩
theorem hz0:aze Tryz.prog tb 259 kzo:=azt mixed Tryz.func259 (by kernel_rfl) .nil rfl (fun x=>by kernel_rfl)
def czQ (x:List UInt8×List UInt8):Option (Bool) :=
 obnd (dzG x) fun y=>some y
def izH:FSpec tb:=⟨[(0,.val 9),(1,.val 9)],[(0,.val 4)],czQ⟩
theorem kzs:aze Tryz.prog tb 232 izH:=azt mixed Tryz.func232 (by kernel_rfl) (.cons hz0 .nil) rfl (fun x=>by kernel_rfl)
abbrev wzM:List (Nat×FSpec tb):=[(230,izG),(231,oz0),(232,izH)]
theorem izJ:azz Tryz.prog tb wzM:=(.cons kzr (.cons pzT (.cons kzs .nil)))
def gzh (back:Wide×Bool×Bool×((List UInt8×Nat))→Option ((Bool×Bool)×(Wide×((List UInt8×Nat))))) (x:Wide×Bool×Bool×((List UInt8×Nat))):Option ((Bool×Bool)×(Wide×((List UInt8×Nat)))) :=
  brn (decide (x.2.2.snd.snd < x.2.2.snd.fst.length))
    (brn (decide ((↑(rune x.2.2.snd.fst x.2.2.snd.snd).fst:Int) < 48)) (back (x.fst,true,x.2.2.fst,x.2.2.snd.fst,x.2.2.snd.snd+(rune x.2.2.snd.fst x.2.2.snd.snd).snd))
      (brn (decide (57 < (↑(rune x.2.2.snd.fst x.2.2.snd.snd).fst:Int))) (back (x.fst,true,x.2.2.fst,x.2.2.snd.fst,x.2.2.snd.snd+(rune x.2.2.snd.fst x.2.2.snd.snd).snd))
        (brn x.2.2.fst (back (x.fst,x.2.fst,true,x.2.2.snd.fst,x.2.2.snd.snd+(rune x.2.2.snd.fst x.2.2.snd.snd).snd))
          (brn (!decide (1844674407370955160 < x.fst.lo))
            (back
              ({ hi := x.fst.hi,
                  lo:=IntKind.u64.wrap (IntKind.u64.wrap (x.fst.lo*10)+IntKind.u64.wrap (IntKind.i32.wrap ((↑(rune x.2.2.snd.fst x.2.2.snd.snd).fst:Int) - 48))),
                  minus := x.fst.minus },
                x.2.fst,decide (1844674407370955160 < x.fst.lo),x.2.2.snd.fst,x.2.2.snd.snd+(rune x.2.2.snd.fst x.2.2.snd.snd).snd))
            (back (x.fst,x.2.fst,decide (1844674407370955160 < x.fst.lo),x.2.2.snd.fst,x.2.2.snd.snd+(rune x.2.2.snd.fst x.2.2.snd.snd).snd))))))
    (some ((x.2.fst,x.2.2.fst),x.fst,x.2.2.snd))
def bzl:Wide×Bool×Bool×((List UInt8×Nat))→Option ((Bool×Bool)×(Wide×((List UInt8×Nat)))):=iter gzh big
def mz5:CutSpec tb:=⟨68,[(9,.ref 154),(10,.val 4),(11,.val 4),(53,.iter)],[((.exit 0),[(10,.val 4),(11,.val 4)])],[54,55,56,13,57,58,59,60,61,62,10,63,64,65,66,67,68,11,69,70,71,72,73,74,75,76,77,78],bzl⟩
theorem rzO:azl ([]:List (CutSpec tb)) (azk 68 Tryz.f176)=[]:=by kernel_rfl
theorem qzM:azo Tryz.prog tb Tryz.f176.ntmps (.loop (azk 68 Tryz.f176)) mz5:=azJ mixed (by kernel_rfl) izJ rfl rzO .nil gzh (fun back x=>by kernel_rfl) rfl
def bzu (x:Dec×Bool×List UInt8×Wide×Bool×Bool):Option (((Unit)×Dec)⊕((Int)×Dec)) :=
 brn x.2.2.2.2.fst (some (Sum.inr (2,{ M:=0,S:=0 })))
  (brn x.2.2.2.2.snd (some (Sum.inr (8,{ M:=0,S:=0 })))
   (brn (decide (9223372036854775808 < x.2.2.2.fst.lo)) (some (Sum.inr (8,{ M:=0,S:=0 })))
    (brn (decide (x.2.2.2.fst.lo=9223372036854775808))
     (brn (!x.2.fst) (some (Sum.inr (8,{ M:=0,S:=0 })))
      (brn (decide (9 < (↑x.2.2.fst.length:Int))) (some (Sum.inr (1,{ M:=0,S:=0 })))
       (obnd (czQ (x.2.2.fst,[48])) fun y =>
        brn y (some (Sum.inr (1,{ M:=0,S:=0 })))
         (brn x.2.fst (some (Sum.inr (0,{ M:=IntKind.i64.wrap (IntKind.u64.wrap (0 - x.2.2.2.fst.lo)),S:=(↑x.2.2.fst.length:Int) })))
          (some (Sum.inl ((),x.fst)))))))
     (brn (decide (9 < (↑x.2.2.fst.length:Int))) (some (Sum.inr (1,{ M:=0,S:=0 })))
      (obnd (czQ (x.2.2.fst,[48])) fun y =>
       brn y (some (Sum.inr (1,{ M:=0,S:=0 })))
        (brn x.2.fst (some (Sum.inr (0,{ M:=IntKind.i64.wrap (IntKind.u64.wrap (0 - x.2.2.2.fst.lo)),S:=(↑x.2.2.fst.length:Int) })))
         (some (Sum.inl ((),x.fst)))))))))
def mz4:CutSpec tb:=⟨123,[(2,.ref 30),(5,.val 4),(7,.val 9),(9,.ro 154),(10,.val 4),(11,.val 4)],[(.normal,[]),(.ret,[(3,.val 63)])],[80,79,81,3,83,84,85,86,87,88,89,90,91,92,93,94,95,96,97,82,98,100,101,102,103,104,105,106,99,107,109,108,110,111,112,113,114,115,116],bzu⟩
theorem rzN:azl ([]:List (CutSpec tb)) (azZ 123 Tryz.f176)=[]:=by kernel_rfl
theorem qzL:azo Tryz.prog tb Tryz.f176.ntmps (azZ 123 Tryz.f176) mz4:=ez2 mixed (by kernel_rfl) izJ rfl rzN .nil (fun x=>by kernel_rfl)
def jze (x:List UInt8):Option (Dec×Int) :=
 obnd (ezb (x,[45])) fun y =>
  obnd (hzo (y.fst,[46])) fun y_1 =>
   brn (decide (y_1.fst=[]))
    (obnd (cat y_1.fst y_1.2.fst) fun z =>
     obnd (bzl ({ hi:=0,lo:=0,minus:=y.snd },true,false,z,0)) fun y_2 =>
      obnd (bzu ({ M:=0,S:=0 },y.snd,y_1.2.fst,y_2.2.fst,y_2.1)) fun y =>
       osum y (fun y=>some ({ M:=IntKind.i64.wrap y_2.2.fst.lo,S:=(↑(List.length y_1.2.fst):Int) },0)) fun y=>some (y.2,y.1))
    (brn y_1.2.snd
     (brn (decide (y_1.2.fst=[]))
      (obnd (cat y_1.fst y_1.2.fst) fun z =>
       obnd (bzl ({ hi:=0,lo:=0,minus:=y.snd },true,false,z,0)) fun y_2 =>
        obnd (bzu ({ M:=0,S:=0 },y.snd,y_1.2.fst,y_2.2.fst,y_2.1)) fun y =>
         osum y (fun y=>some ({ M:=IntKind.i64.wrap y_2.2.fst.lo,S:=(↑(List.length y_1.2.fst):Int) },0)) fun y=>some (y.2,y.1))
      (brn (decide (1 < (↑(List.length y_1.fst):Int)))
       (obnd (idx y_1.fst 0) fun y_2 =>
        brn (decide ((↑y_2.toNat:Int)=48))
         (obnd (cat y_1.fst y_1.2.fst) fun z =>
          obnd (bzl ({ hi:=0,lo:=0,minus:=y.snd },true,false,z,0)) fun y_3 =>
           obnd (bzu ({ M:=0,S:=0 },y.snd,y_1.2.fst,y_3.2.fst,y_3.1)) fun y =>
            osum y (fun y=>some ({ M:=IntKind.i64.wrap y_3.2.fst.lo,S:=(↑(List.length y_1.2.fst):Int) },0)) fun y=>some (y.2,y.1))
         (obnd (cat y_1.fst y_1.2.fst) fun z =>
          obnd (bzl ({ hi:=0,lo:=0,minus:=y.snd },decide (x=[45,48]),false,z,0)) fun y_3 =>
           obnd (bzu ({ M:=0,S:=0 },y.snd,y_1.2.fst,y_3.2.fst,y_3.1)) fun y =>
            osum y (fun y=>some ({ M:=IntKind.i64.wrap y_3.2.fst.lo,S:=(↑(List.length y_1.2.fst):Int) },0)) fun y=>some (y.2,y.1)))
       (obnd (cat y_1.fst y_1.2.fst) fun z =>
        obnd (bzl ({ hi:=0,lo:=0,minus:=y.snd },decide (x=[45,48]),false,z,0)) fun y_2 =>
         obnd (bzu ({ M:=0,S:=0 },y.snd,y_1.2.fst,y_2.2.fst,y_2.1)) fun y =>
          osum y (fun y=>some ({ M:=IntKind.i64.wrap y_2.2.fst.lo,S:=(↑(List.length y_1.2.fst):Int) },0)) fun y=>some (y.2,y.1))))
     (brn (decide (1 < (↑(List.length y_1.fst):Int)))
      (obnd (idx y_1.fst 0) fun y_2 =>
       brn (decide ((↑y_2.toNat:Int)=48))
        (obnd (cat y_1.fst y_1.2.fst) fun z =>
         obnd (bzl ({ hi:=0,lo:=0,minus:=y.snd },true,false,z,0)) fun y_3 =>
          obnd (bzu ({ M:=0,S:=0 },y.snd,y_1.2.fst,y_3.2.fst,y_3.1)) fun y =>
           osum y (fun y=>some ({ M:=IntKind.i64.wrap y_3.2.fst.lo,S:=(↑(List.length y_1.2.fst):Int) },0)) fun y=>some (y.2,y.1))
        (obnd (cat y_1.fst y_1.2.fst) fun z =>
         obnd (bzl ({ hi:=0,lo:=0,minus:=y.snd },decide (x=[45,48]),false,z,0)) fun y_3 =>
          obnd (bzu ({ M:=0,S:=0 },y.snd,y_1.2.fst,y_3.2.fst,y_3.1)) fun y =>
           osum y (fun y=>some ({ M:=IntKind.i64.wrap y_3.2.fst.lo,S:=(↑(List.length y_1.2.fst):Int) },0)) fun y=>some (y.2,y.1)))
      (obnd (cat y_1.fst y_1.2.fst) fun z =>
       obnd (bzl ({ hi:=0,lo:=0,minus:=y.snd },decide (x=[45,48]),false,z,0)) fun y_2 =>
        obnd (bzu ({ M:=0,S:=0 },y.snd,y_1.2.fst,y_2.2.fst,y_2.1)) fun y =>
         osum y (fun y=>some ({ M:=IntKind.i64.wrap y_2.2.fst.lo,S:=(↑(List.length y_1.2.fst):Int) },0)) fun y=>some (y.2,y.1))))
def wzN:FSpec tb:=⟨[(0,.val 9)],[(0,.val 30),(1,.val 63)],jze⟩
theorem uz4:azl ([mz5,mz4]:List (CutSpec tb)) (azE Tryz.f176)=[(68,.loop (azk 68 Tryz.f176)),(123,azZ 123 Tryz.f176)]:=by kernel_rfl
theorem rzP:aze Tryz.prog tb 176 wzN:=az2 mixed Tryz.func176 (by kernel_rfl) izJ rfl uz4 (.cons rfl qzM rfl (.cons rfl qzL rfl .nil)) (fun x=>by kernel_rfl)
def fzM (x:Int):Option (Wide) :=
 brn (decide (x < 0)) (some { hi:=0,lo:=IntKind.u64.wrap (0 - IntKind.u64.wrap x),minus:=true }) (some { hi:=0,lo:=IntKind.u64.wrap x,minus:=false })
def dec_ofS:FSpec tb:=⟨[(0,.val 2)],[(0,.val 154)],fzM⟩
theorem fzo:aze Tryz.prog tb 94 dec_ofS:=azt mixed Tryz.func94 (by kernel_rfl) .nil rfl (fun x=>by kernel_rfl)
def hzH (x:Int×Int):Option (List UInt8) :=
 obnd (dzd x) fun y=>some y
def nzV:FSpec tb:=⟨[(0,.val 152),(1,.val 3)],[(0,.val 9)],hzH⟩
theorem kze:aze Tryz.prog tb 229 nzV:=azt mixed Tryz.func229 (by kernel_rfl) (.cons jzi .nil) rfl (fun x=>by kernel_rfl)
def tzZ (x:Dec):Option (List UInt8) :=
 obnd (fzM x.M) fun y =>
  obnd (hzH (y.lo,10)) fun y_1 =>
   brn (decide (0 < x.S))
    (obnd
     (ezc
      ([48],
       bif decide (IntKind.i64.wrap (IntKind.i64.wrap (x.S+1) - (↑(List.length y_1):Int)) < 0) then 0
       else IntKind.i64.wrap (IntKind.i64.wrap (x.S+1) - (↑(List.length y_1):Int))))
     fun y_2 =>
     obnd (cat y_2 y_1) fun z =>
      obnd (sub z 0 (IntKind.i64.wrap ((↑z.length:Int) - x.S))) fun z_1 =>
       obnd (cat z_1 [46]) fun z_2 =>
        obnd (sub z (IntKind.i64.wrap ((↑z.length:Int) - x.S)) (↑z.length:Int)) fun z =>
         obnd (cat z_2 z) fun z=>brn y.minus (obnd (cat [45] z) fun z=>some z) (some z))
    (brn y.minus (obnd (cat [45] y_1) fun z=>some z) (some y_1))
def dec_TextS:FSpec tb:=⟨[(0,.val 30)],[(0,.val 9)],tzZ⟩
theorem tzi:aze Tryz.prog tb 175 dec_TextS:=azt mixed Tryz.func175 (by kernel_rfl) (.cons fzo (.cons kze (.cons hzp .nil))) rfl (fun x=>by kernel_rfl)
def gzi (back:Int×Int×Int→Option (Int)) (x:Int×Int×Int):Option (Int) :=
 brn (decide (x.2.snd < x.2.fst)) (back (IntKind.u64.wrap (x.fst*10),x.2.fst,IntKind.i64.wrap (x.2.snd+1))) (some x.1)
def izL:Int×Int×Int→Option (Int):=iter gzi big
def mz6:CutSpec tb:=⟨36,[(3,.val 152),(4,.val 3),(5,.val 3)],[((.exit 0),[(3,.val 152)])],[6,7,8,3,9,5],izL⟩
theorem rzT:azl ([]:List (CutSpec tb)) (azk 36 Tryz.f96)=[]:=by kernel_rfl
theorem qzO:azo Tryz.prog tb Tryz.f96.ntmps (.loop (azk 36 Tryz.f96)) mz6:=azJ mixed (by kernel_rfl) .nil rfl rzT .nil gzi (fun back x=>by kernel_rfl) rfl
def czD (x:Int):Option (Int) :=
 obnd (izL (1,x,0)) fun y=>some y
def wzO:FSpec tb:=⟨[(0,.val 3)],[(0,.val 152)],czD⟩
theorem uz5:azl ([mz6]:List (CutSpec tb)) (azE Tryz.f96)=[(36,.loop (azk 36 Tryz.f96))]:=by kernel_rfl
theorem dzV:aze Tryz.prog tb 96 wzO:=az2 mixed Tryz.func96 (by kernel_rfl) .nil rfl uz5 (.cons rfl qzO rfl .nil) (fun x=>by kernel_rfl)
def fz3 (x:Int×Int):Option (Int×Int) :=
 some
  (IntKind.u64.wrap
   (IntKind.u64.wrap
    (IntKind.u64.wrap (x.fst.fdiv 4294967296*x.snd.fdiv 4294967296) +
     (IntKind.u64.wrap
      (IntKind.u64.wrap (x.fst.fdiv 4294967296*azA BinOp.and IntKind.u64 x.snd 4294967295) +
       (IntKind.u64.wrap (azA BinOp.and IntKind.u64 x.fst 4294967295*azA BinOp.and IntKind.u64 x.snd 4294967295)).fdiv 4294967296)).fdiv
      4294967296) +
    (IntKind.u64.wrap
     (azA BinOp.and IntKind.u64
      (IntKind.u64.wrap
       (IntKind.u64.wrap (x.fst.fdiv 4294967296*azA BinOp.and IntKind.u64 x.snd 4294967295) +
        (IntKind.u64.wrap (azA BinOp.and IntKind.u64 x.fst 4294967295*azA BinOp.and IntKind.u64 x.snd 4294967295)).fdiv 4294967296))
      4294967295 +
      IntKind.u64.wrap (azA BinOp.and IntKind.u64 x.fst 4294967295*x.snd.fdiv 4294967296))).fdiv
     4294967296),
   IntKind.u64.wrap (x.fst*x.snd))
def vzX:FSpec tb:=⟨[(0,.val 152),(1,.val 152)],[(0,.val 152),(1,.val 152)],fz3⟩
theorem jzz:aze Tryz.prog tb 98 vzX:=azt mixed Tryz.func98 (by kernel_rfl) .nil rfl (fun x=>by kernel_rfl)
def czS (x:Wide×Int):Option (Wide) :=
 obnd (fz3 (x.fst.lo,x.snd)) fun y=>some { hi:=IntKind.u64.wrap (IntKind.u64.wrap (x.fst.hi*x.snd)+y.fst),lo:=y.snd,minus:=x.fst.minus }
def rzW:FSpec tb:=⟨[(0,.val 154),(1,.val 152)],[(0,.val 154)],czS⟩
theorem ezP:aze Tryz.prog tb 95 rzW:=azt mixed Tryz.func95 (by kernel_rfl) (.cons jzz .nil) rfl (fun x=>by kernel_rfl)
def cze (x:Dec):Option (Wide) :=
 obnd (fzM x.M) fun y=>obnd (czD (IntKind.i64.wrap (9 - x.S))) fun y_1=>obnd (czS (y,y_1)) fun y=>some y
def vz5:FSpec tb:=⟨[(0,.val 30)],[(0,.val 154)],cze⟩
theorem ezN:aze Tryz.prog tb 89 vz5:=azt mixed Tryz.func89 (by kernel_rfl) (.cons fzo (.cons dzV (.cons ezP .nil))) rfl (fun x=>by kernel_rfl)
def ezM (x:Int):Option (Bool) :=
 some (bif decide (x=x) then false else true)
def qzF:FSpec tb:=⟨[(0,.val 2)],[(0,.val 4)],ezM⟩
theorem lzv:aze Tryz.prog tb 177 qzF:=azt mixed Tryz.func177 (by kernel_rfl) .nil rfl (fun x=>by kernel_rfl)
def czF (x:Int×Int):Option (Int) :=
 obnd (ezM x.fst) fun y =>
  obnd (ezM x.snd) fun y_1 =>
   brn y (brn y_1 (some 0) (some (-1))) (brn y_1 (some 1) (brn (decide (x.fst < x.snd)) (some (-1)) (brn (decide (x.snd < x.fst)) (some 1) (some 0))))
def nzZ:FSpec tb:=⟨[(0,.val 2),(1,.val 2)],[(0,.val 3)],czF⟩
theorem kzi:aze Tryz.prog tb 90 nzZ:=azt mixed Tryz.func90 (by kernel_rfl) (.cons lzv .nil) rfl (fun x=>by kernel_rfl)
def fzK (x:Int):Option (Bool) :=
 some (bif decide (x=x) then false else true)
def tzd:FSpec tb:=⟨[(0,.val 3)],[(0,.val 4)],fzK⟩
theorem nzM:aze Tryz.prog tb 173 tzd:=azt mixed Tryz.func173 (by kernel_rfl) .nil rfl (fun x=>by kernel_rfl)
def azK (x:Int×Int):Option (Int) :=
 obnd (fzK x.fst) fun y =>
  obnd (fzK x.snd) fun y_1 =>
   brn y (brn y_1 (some 0) (some (-1))) (brn y_1 (some 1) (brn (decide (x.fst < x.snd)) (some (-1)) (brn (decide (x.snd < x.fst)) (some 1) (some 0))))
def gzr:FSpec tb:=⟨[(0,.val 3),(1,.val 3)],[(0,.val 3)],azK⟩
theorem czR:aze Tryz.prog tb 80 gzr:=azt mixed Tryz.func80 (by kernel_rfl) (.cons nzM .nil) rfl (fun x=>by kernel_rfl)
def czb (x:Wide×Wide):Option (Bool) :=
 brn (decide (x.fst.hi < x.snd.hi)) (some true) (brn (decide (x.fst.hi=x.snd.hi)) (some (decide (x.fst.lo < x.snd.lo))) (some false))
def tzj:FSpec tb:=⟨[(0,.val 154),(1,.val 154)],[(0,.val 4)],czb⟩
theorem hzD:aze Tryz.prog tb 91 tzj:=azt mixed Tryz.func91 (by kernel_rfl) .nil rfl (fun x=>by kernel_rfl)
def czj (x:Dec×Dec):Option (Int) :=
 obnd (cze x.fst) fun y =>
  obnd (cze x.snd) fun y_1 =>
   brn (!decide (y.minus=y_1.minus))
    (obnd (czF (x.fst.M,0)) fun y=>obnd (czF (x.snd.M,0)) fun y_2=>obnd (azK (y,y_2)) fun y=>some y)
    (brn y.minus (obnd (czb (y,y_1)) fun y_2=>brn y_2 (some 1) (obnd (czb (y_1,y)) fun y=>brn y (some (-1)) (some 0)))
     (obnd (czb (y,y_1)) fun y_2=>brn y_2 (some (-1)) (obnd (czb (y_1,y)) fun y=>brn y (some 1) (some 0))))
def fzn:FSpec tb:=⟨[(0,.val 30),(1,.val 30)],[(0,.val 3)],czj⟩
theorem ezo:aze Tryz.prog tb 34 fzn:=azt mixed Tryz.func34 (by kernel_rfl) (.cons ezN (.cons kzi (.cons czR (.cons hzD .nil)))) rfl (fun x=>by kernel_rfl)
def ezw (x:Wide×Wide):Option (Wide) :=
 brn (decide (x.fst.minus=x.snd.minus))
  (obnd (ezf (x.fst.lo,x.snd.lo,0)) fun y=>some { hi:=IntKind.u64.wrap (IntKind.u64.wrap (x.fst.hi+x.snd.hi)+y.snd),lo:=y.fst,minus:=x.fst.minus })
  (obnd (czb x) fun y =>
   brn y (obnd (fzd (x.snd.lo,x.fst.lo,0)) fun y=>some { hi:=IntKind.u64.wrap (IntKind.u64.wrap (x.snd.hi - x.fst.hi) - y.snd),lo:=y.fst,minus:=x.snd.minus })
    (obnd (fzd (x.fst.lo,x.snd.lo,0)) fun y=>some { hi:=IntKind.u64.wrap (IntKind.u64.wrap (x.fst.hi - x.snd.hi) - y.snd),lo:=y.fst,minus:=x.fst.minus }))
def tzk:FSpec tb:=⟨[(0,.val 154),(1,.val 154)],[(0,.val 154)],ezw⟩
theorem hzE:aze Tryz.prog tb 92 tzk:=azt mixed Tryz.func92 (by kernel_rfl) (.consK jzy (.cons hzD (.consK qzA .nil))) rfl (fun x=>by kernel_rfl)
abbrev vzV:List (Nat×FSpec tb):=[(260,gzJ)]
theorem hzJ:azz Tryz.prog tb vzV:=(.cons jzb .nil)
def ezt (back:Int×Int×Int×Int×Int→Option (Int)) (x:Int×Int×Int×Int×Int):Option (Int) :=
 brn (decide (4294967296≤x.2.2.2.fst))
  (brn (decide (4294967296≤IntKind.u64.wrap (x.2.2.2.snd+x.fst))) (some (IntKind.u64.wrap (x.2.2.2.fst - 1)))
   (back (x.fst,x.2.fst,x.2.2.fst,IntKind.u64.wrap (x.2.2.2.fst - 1),IntKind.u64.wrap (x.2.2.2.snd+x.fst))))
  (brn (decide (IntKind.u64.wrap (IntKind.u64.wrap (4294967296*x.2.2.2.snd)+x.2.2.fst) < IntKind.u64.wrap (x.2.2.2.fst*x.2.fst)))
   (brn (decide (4294967296≤IntKind.u64.wrap (x.2.2.2.snd+x.fst))) (some (IntKind.u64.wrap (x.2.2.2.fst - 1)))
    (back (x.fst,x.2.fst,x.2.2.fst,IntKind.u64.wrap (x.2.2.2.fst - 1),IntKind.u64.wrap (x.2.2.2.snd+x.fst))))
   (some x.2.2.2.1))
def fzI:Int×Int×Int×Int×Int→Option (Int):=iter ezt big
def lzp:CutSpec tb:=⟨148,[(9,.val 152),(10,.val 152),(13,.val 152),(15,.val 152),(16,.val 152)],[((.exit 0),[(15,.val 152)])],[67,68,69,70,71,72,73,74,75,76,77,78,79,80,15,81,82,83,16,84,85],fzI⟩
theorem qzx:azl ([]:List (CutSpec tb)) (azk 148 Tryz.f233)=[]:=by kernel_rfl
theorem pzu:azo Tryz.prog tb Tryz.f233.ntmps (.loop (azk 148 Tryz.f233)) lzp:=azJ mixed (by kernel_rfl) hzJ rfl qzx .nil ezt (fun back x=>by kernel_rfl) rfl
def ezu (back:Int×Int×Int×Int×Int→Option (Int)) (x:Int×Int×Int×Int×Int):Option (Int) :=
 brn (decide (4294967296≤x.2.2.2.snd))
  (brn (decide (4294967296≤IntKind.u64.wrap (x.2.2.2.fst+x.fst))) (some (IntKind.u64.wrap (x.2.2.2.snd - 1)))
   (back (x.fst,x.2.fst,x.2.2.fst,IntKind.u64.wrap (x.2.2.2.fst+x.fst),IntKind.u64.wrap (x.2.2.2.snd - 1))))
  (brn (decide (IntKind.u64.wrap (IntKind.u64.wrap (4294967296*x.2.2.2.fst)+x.2.2.fst) < IntKind.u64.wrap (x.2.2.2.snd*x.2.fst)))
   (brn (decide (4294967296≤IntKind.u64.wrap (x.2.2.2.fst+x.fst))) (some (IntKind.u64.wrap (x.2.2.2.snd - 1)))
    (back (x.fst,x.2.fst,x.2.2.fst,IntKind.u64.wrap (x.2.2.2.fst+x.fst),IntKind.u64.wrap (x.2.2.2.snd - 1))))
   (some x.2.2.2.2))
def fzJ:Int×Int×Int×Int×Int→Option (Int):=iter ezu big
def lzq:CutSpec tb:=⟨204,[(9,.val 152),(10,.val 152),(14,.val 152),(16,.val 152),(18,.val 152)],[((.exit 2),[(18,.val 152)])],[102,103,104,105,106,107,108,109,110,111,112,113,114,115,18,116,117,118,16,119,120],fzJ⟩
theorem qzy:azl ([]:List (CutSpec tb)) (azk 204 Tryz.f233)=[]:=by kernel_rfl
theorem pzv:azo Tryz.prog tb Tryz.f233.ntmps (.loop (azk 204 Tryz.f233)) lzq:=azJ mixed (by kernel_rfl) hzJ rfl qzy .nil ezu (fun back x=>by kernel_rfl) rfl
def fz0 (x:Int×Int×Int):Option (Int×Int) :=
 brn (decide (x.2.snd=0)) none
  (brn (decide (x.2.snd≤x.fst)) none
   (brn (decide (x.fst=0)) (brn (decide (x.2.snd=0)) none (brn (decide (x.2.snd=0)) none (some (IntKind.u64.wrap (x.2.fst.tdiv x.2.snd),x.2.fst.tmod x.2.snd))))
    (obnd (dza x.2.snd) fun y =>
     brn (decide (IntKind.u64.wrap y < 0)) none
      (brn (decide (IntKind.u64.wrap y < 0)) none
       (brn (decide (IntKind.u64.wrap (64 - IntKind.u64.wrap y) < 0)) none
        (brn (decide (IntKind.u64.wrap y < 0)) none
         (brn (decide ((IntKind.u64.wrap (x.2.snd*2 ^ min (IntKind.u64.wrap y).toNat 64)).fdiv 4294967296=0)) none
          (obnd
           (fzI
            ((IntKind.u64.wrap (x.2.snd*2 ^ min (IntKind.u64.wrap y).toNat 64)).fdiv 4294967296,
             azA BinOp.and IntKind.u64 (IntKind.u64.wrap (x.2.snd*2 ^ min (IntKind.u64.wrap y).toNat 64)) 4294967295,
             (IntKind.u64.wrap (x.2.fst*2 ^ min (IntKind.u64.wrap y).toNat 64)).fdiv 4294967296,
             IntKind.u64.wrap
              ((azA BinOp.or IntKind.u64 (IntKind.u64.wrap (x.fst*2 ^ min (IntKind.u64.wrap y).toNat 64))
               (x.2.fst.fdiv (2 ^ min (IntKind.u64.wrap (64 - IntKind.u64.wrap y)).toNat 64))).tdiv
               ((IntKind.u64.wrap (x.2.snd*2 ^ min (IntKind.u64.wrap y).toNat 64)).fdiv 4294967296)),
             IntKind.u64.wrap
              (azA BinOp.or IntKind.u64 (IntKind.u64.wrap (x.fst*2 ^ min (IntKind.u64.wrap y).toNat 64))
               (x.2.fst.fdiv (2 ^ min (IntKind.u64.wrap (64 - IntKind.u64.wrap y)).toNat 64)) -
               IntKind.u64.wrap
                (IntKind.u64.wrap
                 ((azA BinOp.or IntKind.u64 (IntKind.u64.wrap (x.fst*2 ^ min (IntKind.u64.wrap y).toNat 64))
                  (x.2.fst.fdiv (2 ^ min (IntKind.u64.wrap (64 - IntKind.u64.wrap y)).toNat 64))).tdiv
                  ((IntKind.u64.wrap (x.2.snd*2 ^ min (IntKind.u64.wrap y).toNat 64)).fdiv 4294967296)) *
                 (IntKind.u64.wrap (x.2.snd*2 ^ min (IntKind.u64.wrap y).toNat 64)).fdiv 4294967296))))
           fun y_1 =>
           brn (decide ((IntKind.u64.wrap (x.2.snd*2 ^ min (IntKind.u64.wrap y).toNat 64)).fdiv 4294967296=0)) none
            (obnd
             (fzJ
              ((IntKind.u64.wrap (x.2.snd*2 ^ min (IntKind.u64.wrap y).toNat 64)).fdiv 4294967296,
               azA BinOp.and IntKind.u64 (IntKind.u64.wrap (x.2.snd*2 ^ min (IntKind.u64.wrap y).toNat 64)) 4294967295,
               azA BinOp.and IntKind.u64 (IntKind.u64.wrap (x.2.fst*2 ^ min (IntKind.u64.wrap y).toNat 64)) 4294967295,
               IntKind.u64.wrap
                (IntKind.u64.wrap
                 (IntKind.u64.wrap
                  (IntKind.u64.wrap
                   (azA BinOp.or IntKind.u64 (IntKind.u64.wrap (x.fst*2 ^ min (IntKind.u64.wrap y).toNat 64))
                    (x.2.fst.fdiv (2 ^ min (IntKind.u64.wrap (64 - IntKind.u64.wrap y)).toNat 64)) *
                    4294967296) +
                   (IntKind.u64.wrap (x.2.fst*2 ^ min (IntKind.u64.wrap y).toNat 64)).fdiv 4294967296) -
                  IntKind.u64.wrap (y_1*IntKind.u64.wrap (x.2.snd*2 ^ min (IntKind.u64.wrap y).toNat 64))) -
                 IntKind.u64.wrap
                  (IntKind.u64.wrap
                   ((IntKind.u64.wrap
                    (IntKind.u64.wrap
                     (IntKind.u64.wrap
                      (azA BinOp.or IntKind.u64 (IntKind.u64.wrap (x.fst*2 ^ min (IntKind.u64.wrap y).toNat 64))
                       (x.2.fst.fdiv (2 ^ min (IntKind.u64.wrap (64 - IntKind.u64.wrap y)).toNat 64)) *
                       4294967296) +
                      (IntKind.u64.wrap (x.2.fst*2 ^ min (IntKind.u64.wrap y).toNat 64)).fdiv 4294967296) -
                     IntKind.u64.wrap (y_1*IntKind.u64.wrap (x.2.snd*2 ^ min (IntKind.u64.wrap y).toNat 64)))).tdiv
                    ((IntKind.u64.wrap (x.2.snd*2 ^ min (IntKind.u64.wrap y).toNat 64)).fdiv 4294967296)) *
                   (IntKind.u64.wrap (x.2.snd*2 ^ min (IntKind.u64.wrap y).toNat 64)).fdiv 4294967296)),
               IntKind.u64.wrap
                ((IntKind.u64.wrap
                 (IntKind.u64.wrap
                  (IntKind.u64.wrap
                   (azA BinOp.or IntKind.u64 (IntKind.u64.wrap (x.fst*2 ^ min (IntKind.u64.wrap y).toNat 64))
                    (x.2.fst.fdiv (2 ^ min (IntKind.u64.wrap (64 - IntKind.u64.wrap y)).toNat 64)) *
                    4294967296) +
                   (IntKind.u64.wrap (x.2.fst*2 ^ min (IntKind.u64.wrap y).toNat 64)).fdiv 4294967296) -
                  IntKind.u64.wrap (y_1*IntKind.u64.wrap (x.2.snd*2 ^ min (IntKind.u64.wrap y).toNat 64)))).tdiv
                 ((IntKind.u64.wrap (x.2.snd*2 ^ min (IntKind.u64.wrap y).toNat 64)).fdiv 4294967296))))
             fun y_2 =>
             brn (decide (IntKind.u64.wrap y < 0)) none
              (some
               (IntKind.u64.wrap (IntKind.u64.wrap (y_1*4294967296)+y_2),
                (IntKind.u64.wrap
                 (IntKind.u64.wrap
                  (IntKind.u64.wrap
                   (IntKind.u64.wrap
                    (IntKind.u64.wrap
                     (IntKind.u64.wrap
                      (azA BinOp.or IntKind.u64 (IntKind.u64.wrap (x.fst*2 ^ min (IntKind.u64.wrap y).toNat 64))
                       (x.2.fst.fdiv (2 ^ min (IntKind.u64.wrap (64 - IntKind.u64.wrap y)).toNat 64)) *
                       4294967296) +
                      (IntKind.u64.wrap (x.2.fst*2 ^ min (IntKind.u64.wrap y).toNat 64)).fdiv 4294967296) -
                     IntKind.u64.wrap (y_1*IntKind.u64.wrap (x.2.snd*2 ^ min (IntKind.u64.wrap y).toNat 64))) *
                    4294967296) +
                   azA BinOp.and IntKind.u64 (IntKind.u64.wrap (x.2.fst*2 ^ min (IntKind.u64.wrap y).toNat 64)) 4294967295) -
                  IntKind.u64.wrap (y_2*IntKind.u64.wrap (x.2.snd*2 ^ min (IntKind.u64.wrap y).toNat 64)))).fdiv
                 (2 ^ min (IntKind.u64.wrap y).toNat 64))))))))))))
def vzW:FSpec tb:=⟨[(0,.val 152),(1,.val 152),(2,.val 152)],[(0,.val 152),(1,.val 152)],fz0⟩
theorem uzx:azl ([lzp,lzq]:List (CutSpec tb)) (azE Tryz.f233)=[(148,.loop (azk 148 Tryz.f233)),(204,.loop (azk 204 Tryz.f233))]:=by kernel_rfl
theorem qzz:aze Tryz.prog tb 233 vzW:=az2 mixed Tryz.func233 (by kernel_rfl) hzJ rfl uzx (.cons rfl pzu rfl (.cons rfl pzv rfl .nil)) (fun x=>by kernel_rfl)
def fzp (x:Wide×Int):Option (Wide×Int) :=
 brn (decide (x.snd=0)) none
  (brn (decide (x.snd=0)) none
   (obnd (fz0 (x.fst.hi.tmod x.snd,x.fst.lo,x.snd)) fun y=>some ({ hi:=IntKind.u64.wrap (x.fst.hi.tdiv x.snd),lo:=y.fst,minus:=x.fst.minus },y.snd)))
def nz4:FSpec tb:=⟨[(0,.val 154),(1,.val 152)],[(0,.val 154),(1,.val 152)],fzp⟩
theorem iz5:aze Tryz.prog tb 180 nz4:=azt mixed Tryz.func180 (by kernel_rfl) (.cons qzz .nil) rfl (fun x=>by kernel_rfl)
abbrev uzB:List (Nat×FSpec tb):=[(180,nz4)]
theorem jzD:azz Tryz.prog tb uzB:=(.cons iz5 .nil)
def gzs (back:Int×Wide→Option ((Int)×Wide)) (x:Int×Wide):Option ((Int)×Wide) :=
 brn (decide (0 < x.fst)) (obnd (fzp (x.snd,10)) fun y=>brn (!decide (y.snd=0)) (some x) (back (IntKind.i64.wrap (x.fst - 1),y.fst))) (some x)
def gzt:Int×Wide→Option ((Int)×Wide):=iter gzs big
def jzE:CutSpec tb:=⟨20,[(1,.val 3),(2,.ref 154)],[((.exit 0),[(1,.val 3)])],[8,9,11,12,10,13,14,6,7,15,16,17,18,19,1],gzt⟩
theorem nz5:azl ([]:List (CutSpec tb)) (azk 20 Tryz.f93)=[]:=by kernel_rfl
theorem nzN:azo Tryz.prog tb Tryz.f93.ntmps (.loop (azk 20 Tryz.f93)) jzE:=azJ mixed (by kernel_rfl) jzD rfl nz5 .nil gzs (fun back x=>by kernel_rfl) rfl
def bzP (x:Wide×Int):Option (Dec×Int) :=
 obnd (gzt (x.snd,x.fst)) fun y =>
  brn (!decide (y.2.hi=0)) (some ({ M:=0,S:=0 },8))
   (brn (decide (9223372036854775808 < y.2.lo)) (some ({ M:=0,S:=0 },8))
    (brn (decide (y.2.lo=9223372036854775808))
     (brn (!y.2.minus) (some ({ M:=0,S:=0 },8))
      (brn y.2.minus (some ({ M:=IntKind.i64.wrap (IntKind.u64.wrap (0 - y.2.lo)),S:=y.1 },0)) (some ({ M:=IntKind.i64.wrap y.2.lo,S:=y.1 },0))))
     (brn y.2.minus (some ({ M:=IntKind.i64.wrap (IntKind.u64.wrap (0 - y.2.lo)),S:=y.1 },0)) (some ({ M:=IntKind.i64.wrap y.2.lo,S:=y.1 },0)))))
def uzC:FSpec tb:=⟨[(0,.val 154),(1,.val 3)],[(0,.val 30),(1,.val 63)],bzP⟩
theorem rzU:azl ([jzE]:List (CutSpec tb)) (azE Tryz.f93)=[(20,.loop (azk 20 Tryz.f93))]:=by kernel_rfl
theorem czH:aze Tryz.prog tb 93 uzC:=az2 mixed Tryz.func93 (by kernel_rfl) jzD rfl rzU (.cons rfl nzN rfl .nil) (fun x=>by kernel_rfl)
def hzN (x:Dec×Dec):Option (Dec×Int) :=
 obnd (cze x.fst) fun y=>obnd (cze x.snd) fun y_1=>obnd (ezw (y,y_1)) fun y=>obnd (bzP (y,9)) fun y=>some y
def qzI:FSpec tb:=⟨[(0,.val 30),(1,.val 30)],[(0,.val 30),(1,.val 63)],hzN⟩
theorem mz2:aze Tryz.prog tb 87 qzI:=azt mixed Tryz.func87 (by kernel_rfl) (.cons ezN (.cons hzE (.cons czH .nil))) rfl (fun x=>by kernel_rfl)
def gzN (x:Wide):Option (Wide) :=
 obnd (ezf (x.lo,1,0)) fun y=>some { hi:=IntKind.u64.wrap (x.hi+y.snd),lo:=y.fst,minus:=x.minus }
def uz6:FSpec tb:=⟨[(0,.val 154)],[(0,.val 154)],gzN⟩
theorem pzx:aze Tryz.prog tb 181 uz6:=azt mixed Tryz.func181 (by kernel_rfl) (.consK jzy .nil) rfl (fun x=>by kernel_rfl)
def czk (x:Wide×Int):Option (Wide) :=
 obnd (fzp x) fun y=>brn (decide (IntKind.u64.wrap (x.snd - y.snd)≤y.snd)) (obnd (gzN y.fst) fun y=>some y) (some y.fst)
def rzV:FSpec tb:=⟨[(0,.val 154),(1,.val 152)],[(0,.val 154)],czk⟩
theorem ezO:aze Tryz.prog tb 97 rzV:=azt mixed Tryz.func97 (by kernel_rfl) (.cons iz5 (.cons pzx .nil)) rfl (fun x=>by kernel_rfl)
def czW (x:Dec×Dec):Option (Dec×Int) :=
 brn (decide (x.snd.M=0)) (some ({ M:=0,S:=0 },9))
  (obnd (fzM x.snd.M) fun y =>
   obnd (cze x.fst) fun y_1 =>
    obnd (czD x.snd.S) fun y_2 =>
     obnd (czS (y_1,y_2)) fun y_3 =>
      obnd (czk ({ hi:=y_3.hi,lo:=y_3.lo,minus:=!decide (y_3.minus=y.minus) },y.lo)) fun y=>obnd (bzP (y,9)) fun y=>some y)
def mzp:FSpec tb:=⟨[(0,.val 30),(1,.val 30)],[(0,.val 30),(1,.val 63)],czW⟩
theorem gzg:aze Tryz.prog tb 36 mzp:=azt mixed Tryz.func36 (by kernel_rfl) (.cons fzo (.cons ezN (.cons dzV (.cons ezP (.cons ezO (.cons czH .nil)))))) rfl (fun x=>by kernel_rfl)
def jzC (x:Dec×Dec):Option (Dec×Int) :=
 obnd (cze x.snd) fun y =>
  obnd (cze x.fst) fun y_1=>obnd (ezw (y_1,{ hi:=y.hi,lo:=y.lo,minus:=!y.minus })) fun y=>obnd (bzP (y,9)) fun y=>some y
def qzN:FSpec tb:=⟨[(0,.val 30),(1,.val 30)],[(0,.val 30),(1,.val 63)],jzC⟩
theorem izK:aze Tryz.prog tb 35 qzN:=azt mixed Tryz.func35 (by kernel_rfl) (.cons ezN (.cons hzE (.cons czH .nil))) rfl (fun x=>by kernel_rfl)
def rzJ (x:Dec):Option (Dec×Int) :=
 obnd (czD x.S) fun y =>
  brn (decide (IntKind.i64.wrap y=0)) none
   (obnd (czD x.S) fun y_1 =>
    brn (decide (IntKind.i64.wrap y_1=0)) none
     (brn (decide (x.M.tmod (IntKind.i64.wrap y_1) < 0)) (some ({ M:=IntKind.i64.wrap (IntKind.i64.wrap (x.M.tdiv (IntKind.i64.wrap y)) - 1),S:=0 },0))
      (some ({ M:=IntKind.i64.wrap (x.M.tdiv (IntKind.i64.wrap y)),S:=0 },0))))
def rzK:FSpec tb:=⟨[(0,.val 30)],[(0,.val 30),(1,.val 63)],rzJ⟩
theorem rzL:aze Tryz.prog tb 151 rzK:=azt mixed Tryz.func151 (by kernel_rfl) (.cons dzV .nil) rfl (fun x=>by kernel_rfl)
def nz2 (back:Dec→Option ((Unit)×Dec)) (x:Dec):Option ((Unit)×Dec) :=
 brn (decide (0 < x.S)) (brn (decide (x.M.tmod 10=0)) (back { M:=IntKind.i64.wrap (x.M.tdiv 10),S:=IntKind.i64.wrap (x.S - 1) }) (some ((),x))) (some ((),x))
def nz3:Dec→Option ((Unit)×Dec):=iter nz2 big
def nz1:CutSpec tb:=⟨20,[(1,.ref 30)],[((.exit 0),[])],[3,4,5,6,7,8,9,10,11,12,13,14,15,16,17,18],nz3⟩
theorem tzg:azl ([]:List (CutSpec tb)) (azk 20 Tryz.f31)=[]:=by kernel_rfl
theorem rzM:azo Tryz.prog tb Tryz.f31.ntmps (.loop (azk 20 Tryz.f31)) nz1:=azJ mixed (by kernel_rfl) .nil rfl tzg .nil nz2 (fun back x=>by kernel_rfl) rfl
def kzw (x:Dec):Option (Dec) :=
 obnd (nz3 x) fun y=>some y.2
def dec_NormS:FSpec tb:=⟨[(0,.val 30)],[(0,.val 30)],kzw⟩
theorem vz4:azl ([nz1]:List (CutSpec tb)) (azE Tryz.f31)=[(20,.loop (azk 20 Tryz.f31))]:=by kernel_rfl
theorem tzh:aze Tryz.prog tb 31 dec_NormS:=az2 mixed Tryz.func31 (by kernel_rfl) .nil rfl vz4 (.cons rfl rzM rfl .nil) (fun x=>by kernel_rfl)
def rzQ (x:Dec×Int):Option (Dec×Int) :=
 brn (decide (x.snd < -18)) (some ({ M:=0,S:=0 },1))
  (brn (decide (9 < x.snd)) (some ({ M:=0,S:=0 },1))
   (brn (decide (x.fst.S≤x.snd)) (some (x.fst,0))
    (obnd (fzM x.fst.M) fun y =>
     brn (decide (19 < IntKind.i64.wrap (x.fst.S - x.snd))) (some ({ M:=0,S:=0 },0))
      (obnd (czD (IntKind.i64.wrap (x.fst.S - x.snd))) fun y_1 =>
       obnd (czk (y,y_1)) fun y =>
        brn (decide (x.snd < 0))
         (obnd (czD (IntKind.i64.wrap (0 - x.snd))) fun y_2=>obnd (czS (y,y_2)) fun y=>obnd (bzP (y,0)) fun y=>some y)
         (obnd (bzP (y,x.snd)) fun y=>some y)))))
def rzR:FSpec tb:=⟨[(0,.val 30),(1,.val 3)],[(0,.val 30),(1,.val 63)],rzQ⟩
theorem rzS:aze Tryz.prog tb 153 rzR:=azt mixed Tryz.func153 (by kernel_rfl) (.cons fzo (.cons dzV (.cons ezO (.cons ezP (.cons czH .nil))))) rfl (fun x=>by kernel_rfl)
def gzL (x:Int):Option (Bool) :=
 some (bif decide (x=x) then false else true)
def rzF:FSpec tb:=⟨[(0,.val 21)],[(0,.val 4)],gzL⟩
theorem mzn:aze Tryz.prog tb 228 rzF:=azt mixed Tryz.func228 (by kernel_rfl) .nil rfl (fun x=>by kernel_rfl)
def iz3 (x:Int×Int):Option (Int) :=
 obnd (gzL x.fst) fun y =>
  obnd (gzL x.snd) fun y_1 =>
   brn y (brn y_1 (some 0) (some (-1))) (brn y_1 (some 1) (brn (decide (x.fst < x.snd)) (some (-1)) (brn (decide (x.snd < x.fst)) (some 1) (some 0))))
def iz4:FSpec tb:=⟨[(0,.val 21),(1,.val 21)],[(0,.val 3)],iz3⟩
theorem kz5:aze Tryz.prog tb 174 iz4:=azt mixed Tryz.func174 (by kernel_rfl) (.cons mzn .nil) rfl (fun x=>by kernel_rfl)
def qzJ (x:Dec×Dec):Option (Dec×Int) :=
 obnd (fzM x.fst.M) fun y =>
  obnd (fzM x.snd.M) fun y_1 =>
   obnd (fz3 (y.lo,y_1.lo)) fun y_2 =>
    brn (decide (9 < IntKind.i64.wrap (x.fst.S+x.snd.S)))
     (obnd (czD (IntKind.i64.wrap (IntKind.i64.wrap (x.fst.S+x.snd.S) - 9))) fun y_3 =>
      obnd (czk ({ hi:=y_2.fst,lo:=y_2.snd,minus:=!decide (y.minus=y_1.minus) },y_3)) fun y=>obnd (bzP (y,9)) fun y=>some y)
     (obnd (bzP ({ hi:=y_2.fst,lo:=y_2.snd,minus:=!decide (y.minus=y_1.minus) },IntKind.i64.wrap (x.fst.S+x.snd.S))) fun y=>some y)
def qzK:FSpec tb:=⟨[(0,.val 30),(1,.val 30)],[(0,.val 30),(1,.val 63)],qzJ⟩
theorem mz3:aze Tryz.prog tb 37 qzK:=azt mixed Tryz.func37 (by kernel_rfl) (.cons fzo (.cons jzz (.cons dzV (.cons ezO (.cons czH .nil))))) rfl (fun x=>by kernel_rfl)
end Go.Proofs.YtdgpkbnnljblmaaGreatDoor

/- U1 -/
namespace Go.Proofs
open Go.Shelf
def Tryz.lays196_ren:Go.Shelf.Ren:=⟨fun | 196=>182 | 259=>234 | n=>n,fun | 9=>9 | 4=>4 | 3=>3 | 5=>5 | 12=>12 | 119=>320 | 0=>0 | 46=>145 | 139=>323 | 138=>322 | 53=>152 | n=>n,fun | 3=>0 | 4=>1 | n=>n⟩
theorem Tryz.lays196:Go.Proofs.Lays.n196 Tryz.prog Tryz.lays196_ren where
 mixed:=by kernel_rfl
 f196:=Tryz.func182.trans (congrArg some (by kernel_rfl))
 f259:=Tryz.func234.trans (congrArg some (by kernel_rfl))
 t0:=Tryz.underlying0
 a0:=Tryz.isAgg0
 z0:=Tryz.sizeOf0
 v0:=Tryz.zeroValue0
 t3:=Tryz.underlying3
 a3:=Tryz.isAgg3
 z3:=Tryz.sizeOf3
 v3:=Tryz.zeroValue3
 t4:=Tryz.underlying4
 a4:=Tryz.isAgg4
 z4:=Tryz.sizeOf4
 v4:=Tryz.zeroValue4
 t5:=Tryz.underlying5
 a5:=Tryz.isAgg5
 z5:=Tryz.sizeOf5
 v5:=Tryz.zeroValue5
 t9:=Tryz.underlying9
 a9:=Tryz.isAgg9
 z9:=Tryz.sizeOf9
 v9:=Tryz.zeroValue9
 t12:=Tryz.underlying12
 a12:=Tryz.isAgg12
 z12:=Tryz.sizeOf12
 v12:=Tryz.zeroValue12
 t46:=Tryz.underlying145
 a46:=Tryz.isAgg145
 z46:=Tryz.sizeOf145
 v46:=Tryz.zeroValue145
 t53:=Tryz.underlying152
 a53:=Tryz.isAgg152
 z53:=Tryz.sizeOf152
 v53:=Tryz.zeroValue152
 t119:=Tryz.underlying320
 a119:=Tryz.isAgg320
 z119:=Tryz.sizeOf320
 t138:=Tryz.underlying322
 a138:=Tryz.isAgg322
 z138:=Tryz.sizeOf322
 v138:=Tryz.zeroValue322
 t139:=Tryz.underlying323
 a139:=Tryz.isAgg323
 z139:=Tryz.sizeOf323
 v139:=Tryz.zeroValue323
 g3:=by kernel_rfl
 g4:=by kernel_rfl
end Go.Proofs
namespace Go.Proofs.YtdgpkbnnljblmaaGreatDoor
open Go Go.Ev Go.RowKit
def iz8 (x:List UInt8):Option Bool:=some (Lib.validD x)
def pzU:FSpec tb:=⟨[(0,.val 9)],[(0,.val 4)],iz8⟩
set_option maxRecDepth 100000 in
theorem lzj:aze Tryz.prog tb 182 pzU:=by
 refine pzm (enters_of (c:=azE Tryz.f182) Tryz.func182 (by kernel_rfl) (by kernel_rfl)) rfl fun g w (x:List UInt8) vs bs (y:Bool) hy hinv hh=>?_
 obtain ⟨v0,vs,b0,bs,rfl,rfl⟩:=azM hh;have h0:=hh;obtain ⟨rfl,rfl⟩:vs=[]∧bs=[]:=by
  cases vs<;>cases bs<;>first | exact ⟨rfl,rfl⟩ | exact h0.elim
 obtain ⟨e0,r0⟩:=mzB jzu (jzr _) h0.1;subst e0;have hy:=Option.some.inj (show some (Lib.validD x)=some y from hy);subst hy;refine ⟨_,[.bool (Lib.validD x)],rfl,fun g w=>⟨tzH notAgg4 (enc4_eq _),rfl⟩,?_⟩;refine (Any.utf8_ValidString Tryz.lays196 ⟨x.toArray⟩ w (by simp [ByteArray.size];unfold azR at r0;omega) hinv.2.2.1).mono ?_;rintro e w' ⟨rfl,hb⟩;exact ⟨rfl,lze hb⟩
end Go.Proofs.YtdgpkbnnljblmaaGreatDoor

/- V1 -/
namespace Go.Proofs.YtdgpkbnnljblmaaGreatDoor
open Go Go.Ev
set_option linter.unusedVariables false
def czq (x:Int):Option (Val) :=
 obnd (bzA x) fun y=>some { Kind:=1,N:=y,S:=[],B:=false,E:=0 }
def tzK:FSpec tb:=⟨[(0,.val 2)],[(0,.val 32)],czq⟩
theorem gz8:aze Tryz.prog tb 26 tzK:=azt mixed Tryz.func26 (by kernel_rfl) (.cons czs .nil) rfl (fun x=>by kernel_rfl)
def azm (x:Int):Option (Val) :=
 some { Kind:=4,N:={ M:=0,S:=0 },S:=[],B:=false,E:=x }
def dzg:FSpec tb:=⟨[(0,.val 3)],[(0,.val 32)],azm⟩
theorem azB:aze Tryz.prog tb 32 dzg:=azt mixed Tryz.func32 (by kernel_rfl) .nil rfl (fun x=>by kernel_rfl)
def azX (x:Val):Option (Dec×Val×Bool) :=
 brn (decide (x.Kind=1)) (some (x.N,{ Kind:=0,N:={ M:=0,S:=0 },S:=[],B:=false,E:=0 },true))
  (brn (decide (x.Kind=2))
   (obnd (jze x.S) fun y =>
    brn (decide (y.snd=0)) (some (y.fst,{ Kind:=0,N:={ M:=0,S:=0 },S:=[],B:=false,E:=0 },true))
     (obnd (azm 15) fun y=>some ({ M:=0,S:=0 },y,false)))
   (brn (decide (x.Kind=3))
    (brn x.B (obnd (bzA 1) fun y=>some (y,{ Kind:=0,N:={ M:=0,S:=0 },S:=[],B:=false,E:=0 },true))
     (some ({ M:=0,S:=0 },{ Kind:=0,N:={ M:=0,S:=0 },S:=[],B:=false,E:=0 },true)))
    (brn (decide (x.Kind=4)) (some ({ M:=0,S:=0 },x,false)) (some ({ M:=0,S:=0 },{ Kind:=0,N:={ M:=0,S:=0 },S:=[],B:=false,E:=0 },true)))))
def gzf:FSpec tb:=⟨[(0,.val 32)],[(0,.val 30),(1,.val 32),(2,.val 4)],azX⟩
theorem bzO:aze Tryz.prog tb 85 gzf:=azt mixed Tryz.func85 (by kernel_rfl) (.cons rzP (.cons azB (.cons czs .nil))) rfl (fun x=>by kernel_rfl)
def ez1 (x:Val):Option (Bool×Val×Bool) :=
 brn (decide (x.Kind=1)) (some (!decide (x.N.M=0),{ Kind:=0,N:={ M:=0,S:=0 },S:=[],B:=false,E:=0 },true))
  (brn (decide (x.Kind=2))
   (brn (!decide (x.S=[84,82,85,69]))
    (brn (!decide (x.S=U8s [70,65,76,83,69])) (obnd (azm 15) fun y=>some (false,y,false))
     (some (decide (x.S=[84,82,85,69]),{ Kind:=0,N:={ M:=0,S:=0 },S:=[],B:=false,E:=0 },true)))
    (some (decide (x.S=[84,82,85,69]),{ Kind:=0,N:={ M:=0,S:=0 },S:=[],B:=false,E:=0 },true)))
   (brn (decide (x.Kind=3)) (some (x.B,{ Kind:=0,N:={ M:=0,S:=0 },S:=[],B:=false,E:=0 },true))
    (brn (decide (x.Kind=4)) (some (false,x,false)) (some (false,{ Kind:=0,N:={ M:=0,S:=0 },S:=[],B:=false,E:=0 },true)))))
def mzV:FSpec tb:=⟨[(0,.val 32)],[(0,.val 4),(1,.val 32),(2,.val 4)],ez1⟩
theorem hzw:aze Tryz.prog tb 65 mzV:=azt mixed Tryz.func65 (by kernel_rfl) (.cons azB .nil) rfl (fun x=>by kernel_rfl)
def uzt (x:Int):Option (List UInt8) :=
 brn (decide (x=0)) (some (U8s [35,78,85,76,76,33]))
  (brn (decide (x=7)) (some (U8s [35,68,73,86,47,48,33]))
   (brn (decide (x=15)) (some (U8s [35,86,65,76,85,69,33]))
    (brn (decide (x=23)) (some (U8s [35,82,69,70,33]))
     (brn (decide (x=29)) (some (U8s [35,78,65,77,69,63]))
      (brn (decide (x=36)) (some (U8s [35,78,85,77,33])) (brn (decide (x=42)) (some [35,78,47,65]) (some [])))))))
def val_nameS:FSpec tb:=⟨[(0,.val 3)],[(0,.val 9)],uzt⟩
theorem tzR:aze Tryz.prog tb 102 val_nameS:=azt mixed Tryz.func102 (by kernel_rfl) .nil rfl (fun x=>by kernel_rfl)
def kz0 (x:Val):Option (List UInt8) :=
 brn (decide (x.Kind=1)) (obnd (tzZ x.N) fun y=>some y)
  (brn (decide (x.Kind=2)) (some x.3)
   (brn (decide (x.Kind=3)) (brn x.B (some [84,82,85,69]) (some (U8s [70,65,76,83,69]))) (brn (decide (x.Kind=4)) (obnd (uzt x.E) fun y=>some y) (some []))))
def uzs:FSpec tb:=⟨[(0,.val 32)],[(0,.val 9)],kz0⟩
theorem mzd:aze Tryz.prog tb 84 uzs:=azt mixed Tryz.func84 (by kernel_rfl) (.cons tzi (.cons tzR .nil)) rfl (fun x=>by kernel_rfl)
def hzx (x:Val):Option (List UInt8×Val×Bool) :=
 brn (decide (x.Kind=4)) (some ([],x,false)) (obnd (kz0 x) fun y=>some (y,{ Kind:=0,N:={ M:=0,S:=0 },S:=[],B:=false,E:=0 },true))
def mzW:FSpec tb:=⟨[(0,.val 32)],[(0,.val 9),(1,.val 32),(2,.val 4)],hzx⟩
theorem kz1:aze Tryz.prog tb 142 mzW:=azt mixed Tryz.func142 (by kernel_rfl) (.cons mzd .nil) rfl (fun x=>by kernel_rfl)
def iz1 (back:List (Int)×((List UInt8×Nat))→Option ((List (Int))×((List UInt8×Nat)))) (x:List (Int)×((List UInt8×Nat))):Option ((List (Int))×((List UInt8×Nat))) :=
 brn (decide (x.snd.snd < x.snd.fst.length))
  (brn (decide ((↑(rune x.snd.fst x.snd.snd).fst:Int) < 65536))
   (obnd (app 8 x.fst [IntKind.i64.wrap (↑(rune x.snd.fst x.snd.snd).fst:Int)]) fun zs=>back (zs,x.snd.fst,x.snd.snd+(rune x.snd.fst x.snd.snd).snd))
   (obnd
    (app 8 x.fst
     [IntKind.i64.wrap (55296+IntKind.i64.wrap ((IntKind.i32.wrap ((↑(rune x.snd.fst x.snd.snd).fst:Int) - 65536)).fdiv 1024)),
      IntKind.i64.wrap (56320+IntKind.i64.wrap (azA BinOp.and IntKind.i32 (IntKind.i32.wrap ((↑(rune x.snd.fst x.snd.snd).fst:Int) - 65536)) 1023))])
    fun zs=>back (zs,x.snd.fst,x.snd.snd+(rune x.snd.fst x.snd.snd).snd)))
  (some x)
def nzG:List (Int)×((List UInt8×Nat))→Option ((List (Int))×((List UInt8×Nat))):=iter iz1 big
def gzp:CutSpec tb:=⟨36,[(3,.own 3),(7,.iter)],[((.exit 0),[(3,.own 3)])],[8,9,10,5,11,12,13,14,15,16,17,3,18,19,20,21,22,23,24,25,26,27,28,29,30],nzG⟩
set_option maxRecDepth 100000 in
theorem szW:∀ back x,izy Tryz.prog tb [] [] (azk 36 Tryz.f183) gzp.ins gzp.outs back x=iz1 back x:=fun back x=>by kernel_rfl
theorem szX:azl ([]:List (CutSpec tb)) (azk 36 Tryz.f183)=[]:=by kernel_rfl
theorem rzt:azo Tryz.prog tb Tryz.f183.ntmps (.loop (azk 36 Tryz.f183)) gzp:=azJ mixed (by kernel_rfl) .nil rfl szX .nil iz1 szW rfl
def szV (x:List UInt8):Option (List (Int)) :=
 obnd (nzG ([],x,0)) fun y=>some y.1
def xzy:FSpec tb:=⟨[(0,.val 9)],[(0,.own 3)],szV⟩
theorem vzK:azl ([gzp]:List (CutSpec tb)) (azE Tryz.f183)=[(36,.loop (azk 36 Tryz.f183))]:=by kernel_rfl
theorem szY:aze Tryz.prog tb 183 xzy:=az2 mixed Tryz.func183 (by kernel_rfl) .nil rfl vzK (.cons rfl rzt rfl .nil) (fun x=>by kernel_rfl)
def jzp (x:List UInt8):Option (Int×Int) :=
 obnd (iz8 x) fun y =>
  brn (!y) (some (0,2)) (obnd (szV x) fun y=>brn (decide (1000 < (↑(List.length y):Int))) (some (0,4)) (some ((↑(List.length y):Int),0)))
def szU:FSpec tb:=⟨[(0,.val 9)],[(0,.val 3),(1,.val 63)],jzp⟩
theorem kzV:aze Tryz.prog tb 101 szU:=azt mixed Tryz.func101 (by kernel_rfl) (.cons lzj (.cons szY .nil)) rfl (fun x=>by kernel_rfl)
abbrev xzC:List (Nat×FSpec tb):=[(174,iz4),(80,gzr)]
theorem nzI:azz Tryz.prog tb xzC:=(.cons kz5 (.cons czR .nil))
def nzK (back:List Int×Int×((List UInt8×Nat))→Option (((Int)×((List UInt8×Nat)))⊕((Int)×((List UInt8×Nat))))) (x:List Int×Int×((List UInt8×Nat))):Option (((Int)×((List UInt8×Nat)))⊕((Int)×((List UInt8×Nat)))) :=
 brn (decide (x.2.snd.snd < x.2.snd.fst.length))
  (brn (decide (x.2.fst=(↑x.fst.length:Int))) (some (Sum.inr (1,x.2.snd.fst,x.2.snd.snd+(rune x.2.snd.fst x.2.snd.snd).snd)))
   (obnd (idx x.fst x.2.fst) fun y =>
    brn (!decide ((↑(rune x.2.snd.fst x.2.snd.snd).fst:Int)=y))
     (obnd (idx x.fst x.2.fst) fun y =>
      obnd (iz3 ((↑(rune x.2.snd.fst x.2.snd.snd).fst:Int),y)) fun y=>some (Sum.inr (y,x.2.snd.fst,x.2.snd.snd+(rune x.2.snd.fst x.2.snd.snd).snd)))
     (back (x.fst,IntKind.i64.wrap (x.2.fst+1),x.2.snd.fst,x.2.snd.snd+(rune x.2.snd.fst x.2.snd.snd).snd))))
  (some (Sum.inl x.2))
def nzL:List Int×Int×((List UInt8×Nat))→Option (((Int)×((List UInt8×Nat)))⊕((Int)×((List UInt8×Nat)))):=iter nzK big
def nzJ:CutSpec tb:=⟨44,[(5,.val 45),(6,.val 3),(12,.iter)],[((.exit 0),[(6,.val 3)]),(.ret,[(4,.val 3)])],[13,14,15,8,16,17,18,19,4,20,21,22,23,24,25,26,27,28,29,30,31,32,33,6],nzL⟩
theorem sz7:azl ([]:List (CutSpec tb)) (azk 44 Tryz.f81)=[]:=by kernel_rfl
theorem rzx:azo Tryz.prog tb Tryz.f81.ntmps (.loop (azk 44 Tryz.f81)) nzJ:=azJ mixed (by kernel_rfl) nzI rfl sz7 .nil nzK (fun back x=>by kernel_rfl) rfl
def sz5 (x:List UInt8×List UInt8):Option (Int) :=
 obnd (bif x.snd.length.ble 70368744177664 then some (dz7 x.snd x.snd.length 0) else none) fun rs =>
  obnd (nzL (rs,0,x.fst,0)) fun y=>osum y (fun y=>obnd (azK (y.1,(↑rs.length:Int))) fun y=>some y) fun y=>some y.1
def sz6:FSpec tb:=⟨[(0,.val 9),(1,.val 9)],[(0,.val 3)],sz5⟩
theorem vzQ:azl ([nzJ]:List (CutSpec tb)) (azE Tryz.f81)=[(44,.loop (azk 44 Tryz.f81))]:=by kernel_rfl
theorem sz8:aze Tryz.prog tb 81 sz6:=az2 mixed Tryz.func81 (by kernel_rfl) nzI rfl vzQ (.cons rfl rzx rfl .nil) (fun x=>by kernel_rfl)
def lzl (x:Bool):Option (Int) :=
 brn x (some 1) (some 0)
def qzv:FSpec tb:=⟨[(0,.val 4)],[(0,.val 3)],lzl⟩
theorem rzw:aze Tryz.prog tb 82 qzv:=azt mixed Tryz.func82 (by kernel_rfl) .nil rfl (fun x=>by kernel_rfl)
abbrev vzP:List (Nat×FSpec tb):=[(80,gzr),(34,fzn),(81,sz6),(82,qzv)]
theorem hzu:azz Tryz.prog tb vzP:=(.cons czR (.cons ezo (.cons sz8 (.cons rzw .nil))))
def kzY (x:Val×Val):Option (Bool) :=
 brn (decide (x.fst.Kind=0)) (some (bif decide (x.snd.Kind=4) then false else true)) (some false)
def kzX:CutSpec tb:=⟨16,[(2,.ro 32),(3,.ro 32)],[(.normal,[(12,.val 4)])],[5,6,7,8,9,10,11,12],kzY⟩
theorem pzV:azl ([]:List (CutSpec tb)) (azZ 16 Tryz.f27)=[]:=by kernel_rfl
theorem oz6:azo Tryz.prog tb Tryz.f27.ntmps (azZ 16 Tryz.f27) kzX:=ez2 mixed (by kernel_rfl) hzu rfl pzV .nil (fun x=>by kernel_rfl)
def czo (x:Val×Val×Int):Option ((Unit)⊕(Int)) :=
 brn (decide (x.2.snd=1)) (obnd (czj (x.fst.N,x.2.fst.N)) fun y=>some (Sum.inr y))
  (brn (decide (x.2.snd=2)) (obnd (sz5 (x.fst.S,x.2.fst.S)) fun y=>some (Sum.inr y))
   (brn (decide (x.2.snd=3)) (obnd (lzl x.fst.B) fun y=>obnd (lzl x.2.fst.B) fun y_1=>obnd (azK (y,y_1)) fun y=>some (Sum.inr y))
    (brn (decide (x.2.snd=4)) (obnd (azK (x.fst.E,x.2.fst.E)) fun y=>some (Sum.inr y)) (some (Sum.inl PUnit.unit)))))
def kzZ:CutSpec tb:=⟨75,[(2,.ro 32),(3,.ro 32),(38,.val 3)],[(.normal,[]),(.ret,[(4,.val 3)])],[40,39,41,42,43,44,45,4,47,46,48,49,50,51,52,54,53,55,56,57,58,59,60,61,63,62,64,65,66,67,68],czo⟩
theorem pzW:azl ([]:List (CutSpec tb)) (azZ 75 Tryz.f27)=[]:=by kernel_rfl
theorem oz7:azo Tryz.prog tb Tryz.f27.ntmps (azZ 75 Tryz.f27) kzZ:=ez2 mixed (by kernel_rfl) hzu rfl pzW .nil (fun x=>by kernel_rfl)
def oz4 (x:Val×Val):Option (Int) :=
 obnd (kzY x) fun y =>
  brn y
   (brn (decide (x.snd.Kind=0))
    (brn (!decide (x.snd.Kind=4))
     (brn (!decide (x.snd.Kind=x.snd.Kind)) (obnd (azK (x.snd.Kind,x.snd.Kind)) fun y=>some y)
      (obnd
       (czo
        ({ Kind:=x.snd.Kind,N:={ M:=0,S:=0 },S:=[],B:=false,E:=0 },{ Kind:=x.snd.Kind,N:={ M:=0,S:=0 },S:=[],B:=false,E:=0 },
         x.snd.Kind))
       fun y=>osum y (fun y=>some 0) fun y=>some y))
     (brn (!decide (x.snd.Kind=x.snd.Kind)) (obnd (azK (x.snd.Kind,x.snd.Kind)) fun y=>some y)
      (obnd (czo ({ Kind:=x.snd.Kind,N:={ M:=0,S:=0 },S:=[],B:=false,E:=0 },x.snd,x.snd.Kind)) fun y =>
       osum y (fun y=>some 0) fun y=>some y)))
    (brn (!decide (x.snd.Kind=x.snd.Kind)) (obnd (azK (x.snd.Kind,x.snd.Kind)) fun y=>some y)
     (obnd (czo ({ Kind:=x.snd.Kind,N:={ M:=0,S:=0 },S:=[],B:=false,E:=0 },x.snd,x.snd.Kind)) fun y =>
      osum y (fun y=>some 0) fun y=>some y)))
   (brn (decide (x.snd.Kind=0))
    (brn (!decide (x.fst.Kind=4))
     (brn (!decide (x.fst.Kind=x.fst.Kind)) (obnd (azK (x.fst.Kind,x.fst.Kind)) fun y=>some y)
      (obnd (czo (x.fst,{ Kind:=x.fst.Kind,N:={ M:=0,S:=0 },S:=[],B:=false,E:=0 },x.fst.Kind)) fun y =>
       osum y (fun y=>some 0) fun y=>some y))
     (brn (!decide (x.fst.Kind=x.snd.Kind)) (obnd (azK (x.fst.Kind,x.snd.Kind)) fun y=>some y)
      (obnd (czo (x.fst,x.snd,x.fst.Kind)) fun y=>osum y (fun y=>some 0) fun y=>some y)))
    (brn (!decide (x.fst.Kind=x.snd.Kind)) (obnd (azK (x.fst.Kind,x.snd.Kind)) fun y=>some y)
     (obnd (czo (x.fst,x.snd,x.fst.Kind)) fun y=>osum y (fun y=>some 0) fun y=>some y)))
def oz5:FSpec tb:=⟨[(0,.val 32),(1,.val 32)],[(0,.val 3)],oz4⟩
theorem tzQ:azl ([kzX,kzZ]:List (CutSpec tb)) (azE Tryz.f27)=[(16,azZ 16 Tryz.f27),(75,azZ 75 Tryz.f27)]:=by kernel_rfl
theorem pzX:aze Tryz.prog tb 27 oz5:=az2 mixed Tryz.func27 (by kernel_rfl) hzu rfl tzQ (.cons rfl oz6 rfl (.cons rfl oz7 rfl .nil)) (fun x=>by kernel_rfl)
def ozU (x:Int):Option (Val) :=
 some { Kind:=4,N:={ M:=0,S:=0 },S:=[],B:=false,E:=x }
def izW (back:Big×Int→Option (Int)) (x:Big×Int):Option (Int) :=
 brn (decide (0 < x.snd)) (obnd (idx x.fst.D (IntKind.i64.wrap (x.snd - 1))) fun y=>brn (decide (y=0)) (back (x.fst,IntKind.i64.wrap (x.snd - 1))) (some x.2)) (some x.2)
def nzz:Big×Int→Option (Int):=iter izW big
def bzs (x:Big):Option (Big) :=
 obnd (nzz (x,(↑x.D.length:Int))) fun y=>obnd (sub x.D 0 y) fun z=>brn (decide (y=0)) (some { Minus:=false,D:=z }) (some { Minus:=x.Minus,D:=z })
def hz8 (back:Int×Big→Option ((Int)×Big)) (x:Int×Big):Option ((Int)×Big) :=
 brn (decide (0 < x.fst))
  (brn (decide ((↑x.snd.D.length:Int)=0))
   (brn (decide (0 < (↑x.snd.D.length:Int))) (obnd (sub x.snd.D 1 (↑x.snd.D.length:Int)) fun z=>back (IntKind.i64.wrap (x.fst - 1),{ Minus:=x.snd.Minus,D:=z }))
    (back (IntKind.i64.wrap (x.fst - 1),x.snd)))
   (obnd (idx x.snd.D 0) fun y =>
    brn (decide (y=0))
     (brn (decide (0 < (↑x.snd.D.length:Int))) (obnd (sub x.snd.D 1 (↑x.snd.D.length:Int)) fun z=>back (IntKind.i64.wrap (x.fst - 1),{ Minus:=x.snd.Minus,D:=z }))
      (back (IntKind.i64.wrap (x.fst - 1),x.snd)))
     (some x)))
  (some x)
def lz6:Int×Big→Option ((Int)×Big):=iter hz8 big
def hz9 (back:Big×Int×Int→Option (Int)) (x:Big×Int×Int):Option (Int) :=
 brn (decide (0≤x.2.snd))
  (obnd (idx x.fst.D x.2.snd) fun y=>back (x.fst,IntKind.u64.wrap (IntKind.u64.wrap (10*x.2.fst)+IntKind.u64.wrap y),IntKind.i64.wrap (x.2.snd - 1))) (some x.2.1)
def lz7:Big×Int×Int→Option (Int):=iter hz9 big
def czE (x:Big×Int):Option (Dec×Int) :=
 obnd (lz6 (x.snd,x.fst)) fun y =>
  brn (decide (19 < (↑y.2.D.length:Int))) (some ({ M:=0,S:=0 },8))
   (obnd (lz7 (y.2,0,IntKind.i64.wrap ((↑y.2.D.length:Int) - 1))) fun y_1 =>
    brn y.2.Minus (brn (decide (9223372036854775808 < y_1)) (some ({ M:=0,S:=0 },8)) (some ({ M:=IntKind.i64.wrap (IntKind.u64.wrap (0 - y_1)),S:=y.1 },0)))
     (brn (decide (9223372036854775807 < y_1)) (some ({ M:=0,S:=0 },8)) (some ({ M:=IntKind.i64.wrap y_1,S:=y.1 },0))))
def fzW (x:List UInt8):Option (Bool) :=
 brn (decide (0 < (↑x.length:Int))) (obnd (idx x 0) fun y=>some (decide ((↑y.toNat:Int)=45))) (some false)
def fzX (x:Big×Int×Bool):Option ((Int)×Big) :=
 brn x.2.snd (some (IntKind.i64.wrap (x.2.fst+1),{ Minus:=true,D:=x.fst.D })) (some (x.2.fst,x.fst))
def fzY (back:List UInt8×Dec×Big×Int×Int×Int→Option (((Int)×(Dec×Big))⊕((Int)×(Dec×Big)))) (x:List UInt8×Dec×Big×Int×Int×Int):Option (((Int)×(Dec×Big))⊕((Int)×(Dec×Big))) :=
 brn (decide (x.2.2.2.2.snd < (↑x.fst.length:Int)))
  (obnd (idx x.fst x.2.2.2.2.snd) fun y =>
   brn (decide ((↑y.toNat:Int)=46))
    (brn (decide (x.2.2.2.2.fst < 0))
     (brn (decide (x.2.2.2.fst < x.2.2.2.2.snd)) (back (x.fst,x.2.fst,x.2.2.fst,x.2.2.2.fst,x.2.2.2.2.snd,IntKind.i64.wrap (x.2.2.2.2.snd+1)))
      (obnd (idx x.fst x.2.2.2.2.snd) fun y =>
       brn (decide (48≤(↑y.toNat:Int)))
        (obnd (idx x.fst x.2.2.2.2.snd) fun y =>
         brn (decide ((↑y.toNat:Int)≤57))
          (obnd (idx x.fst x.2.2.2.2.snd) fun y =>
           obnd (app 8 [IntKind.i64.wrap (IntKind.u8.wrap ((↑y.toNat:Int) - 48))] x.2.2.fst.D) fun zs =>
            back (x.fst,x.2.fst,{ Minus:=x.2.2.fst.Minus,D:=zs },x.2.2.2.fst,x.2.2.2.2.fst,IntKind.i64.wrap (x.2.2.2.2.snd+1)))
          (some (Sum.inr (2,{ M:=0,S:=0 },x.2.2.fst))))
        (some (Sum.inr (2,{ M:=0,S:=0 },x.2.2.fst)))))
     (obnd (idx x.fst x.2.2.2.2.snd) fun y =>
      brn (decide (48≤(↑y.toNat:Int)))
       (obnd (idx x.fst x.2.2.2.2.snd) fun y =>
        brn (decide ((↑y.toNat:Int)≤57))
         (obnd (idx x.fst x.2.2.2.2.snd) fun y =>
          obnd (app 8 [IntKind.i64.wrap (IntKind.u8.wrap ((↑y.toNat:Int) - 48))] x.2.2.fst.D) fun zs =>
           back (x.fst,x.2.fst,{ Minus:=x.2.2.fst.Minus,D:=zs },x.2.2.2.fst,x.2.2.2.2.fst,IntKind.i64.wrap (x.2.2.2.2.snd+1)))
         (some (Sum.inr (2,{ M:=0,S:=0 },x.2.2.fst))))
       (some (Sum.inr (2,{ M:=0,S:=0 },x.2.2.fst)))))
    (obnd (idx x.fst x.2.2.2.2.snd) fun y =>
     brn (decide (48≤(↑y.toNat:Int)))
      (obnd (idx x.fst x.2.2.2.2.snd) fun y =>
       brn (decide ((↑y.toNat:Int)≤57))
        (obnd (idx x.fst x.2.2.2.2.snd) fun y =>
         obnd (app 8 [IntKind.i64.wrap (IntKind.u8.wrap ((↑y.toNat:Int) - 48))] x.2.2.fst.D) fun zs =>
          back (x.fst,x.2.fst,{ Minus:=x.2.2.fst.Minus,D:=zs },x.2.2.2.fst,x.2.2.2.2.fst,IntKind.i64.wrap (x.2.2.2.2.snd+1)))
        (some (Sum.inr (2,{ M:=0,S:=0 },x.2.2.fst))))
      (some (Sum.inr (2,{ M:=0,S:=0 },x.2.2.fst)))))
  (some (Sum.inl (x.2.2.2.2.fst,x.2.fst,x.2.2.fst)))
def iz7:List UInt8×Dec×Big×Int×Int×Int→Option (((Int)×(Dec×Big))⊕((Int)×(Dec×Big))):=iter fzY big
def cz6 (x:Int×Int×Int×Bool):Option (Int) :=
 brn x.2.2.snd (some (IntKind.i64.wrap (x.2.fst - x.fst))) (some x.2.2.1)
def cz7 (x:List UInt8×Int×Int×Int):Option (Bool) :=
 brn (decide (x.2.2.snd=0)) (some true)
  (brn (decide (x.2.2.fst=IntKind.i64.wrap ((↑x.fst.length:Int) - 1))) (some true)
   (obnd (idx x.fst x.2.fst) fun y=>brn (decide ((↑y.toNat:Int)=48)) (some (decide (1 < x.2.2.snd))) (some false)))
def czr (x:Int×Bool×Big):Option (Bool) :=
 brn (decide ((↑x.2.snd.D.length:Int)=0)) (brn x.2.fst (some (decide (x.fst=0))) (some false)) (some false)
def hz6 (x:List UInt8):Option (Dec×Int) :=
 obnd (fzW x) fun y =>
  obnd (fzX ({ Minus:=false,D:=[] },0,y)) fun y =>
   obnd (iz7 (x,{ M:=0,S:=0 },y.2,y.1,-1,y.1)) fun y_1 =>
    osum y_1
     (fun y_2 =>
      obnd (cz6 (y.1,y_2.1,IntKind.i64.wrap ((↑x.length:Int) - y.1),decide (0≤y_2.1))) fun y_3 =>
       obnd (cz7 (x,y.1,y_2.1,y_3)) fun y =>
        brn y (some ({ M:=0,S:=0 },2))
         (brn (decide (0≤y_2.1))
          (obnd (bzs y_2.2.snd) fun y =>
           obnd (czr (IntKind.i64.wrap (IntKind.i64.wrap ((↑x.length:Int) - y_2.1) - 1),y_2.2.snd.Minus,y)) fun y_4 =>
            brn y_4 (some ({ M:=0,S:=0 },2))
             (obnd (czE (y,0)) fun y =>
              brn (!decide (y.snd=0)) (some ({ M:=0,S:=0 },y.snd))
               (brn (decide (9 < IntKind.i64.wrap (IntKind.i64.wrap ((↑x.length:Int) - y_2.1) - 1))) (some ({ M:=0,S:=0 },1))
                (brn (decide (0 < IntKind.i64.wrap (IntKind.i64.wrap ((↑x.length:Int) - y_2.1) - 1)))
                 (obnd (idx x (IntKind.i64.wrap ((↑x.length:Int) - 1))) fun y_5 =>
                  brn (decide ((↑y_5.toNat:Int)=48)) (some ({ M:=0,S:=0 },1))
                   (some ({ M:=y.fst.M,S:=IntKind.i64.wrap (IntKind.i64.wrap ((↑x.length:Int) - y_2.1) - 1) },0)))
                 (some ({ M:=y.fst.M,S:=IntKind.i64.wrap (IntKind.i64.wrap ((↑x.length:Int) - y_2.1) - 1) },0))))))
          (obnd (bzs y_2.2.snd) fun y =>
           obnd (czr (0,y_2.2.snd.Minus,y)) fun y_4 =>
            brn y_4 (some ({ M:=0,S:=0 },2))
             (obnd (czE (y,0)) fun y=>brn (!decide (y.snd=0)) (some ({ M:=0,S:=0 },y.snd)) (some ({ M:=y.fst.M,S:=0 },0))))))
     fun y=>some (y.2.fst,y.1)
def izR (x:Val):Option (Dec×Val×Bool) :=
 brn (decide (x.Kind=1)) (some (x.N,{ Kind:=0,N:={ M:=0,S:=0 },S:=[],B:=false,E:=0 },true))
  (brn (decide (x.Kind=3))
   (brn x.B (some ({ M:=1,S:=0 },{ Kind:=0,N:={ M:=0,S:=0 },S:=[],B:=false,E:=0 },true))
    (some ({ M:=0,S:=0 },{ Kind:=0,N:={ M:=0,S:=0 },S:=[],B:=false,E:=0 },true)))
   (brn (decide (x.Kind=2))
    (obnd (hz6 x.S) fun y =>
     brn (!decide (y.snd=0)) (obnd (ozU 15) fun y=>some ({ M:=0,S:=0 },y,false))
      (some (y.fst,{ Kind:=0,N:={ M:=0,S:=0 },S:=[],B:=false,E:=0 },true)))
    (brn (decide (x.Kind=4)) (some ({ M:=0,S:=0 },x,false)) (some ({ M:=0,S:=0 },{ Kind:=0,N:={ M:=0,S:=0 },S:=[],B:=false,E:=0 },true)))))
def jz5 (back:List (Int)×Big×Int→Option ((List (Int))×Big)) (x:List (Int)×Big×Int):Option ((List (Int))×Big) :=
 brn (decide (0 < x.2.snd)) (obnd (app 8 x.fst [IntKind.i64.wrap (x.2.snd.tmod 10)]) fun zs=>back (zs,{ Minus:=x.2.fst.Minus,D:=zs },IntKind.u64.wrap (x.2.snd.tdiv 10)))
  (some (x.fst,{ Minus:=x.2.fst.Minus,D:=x.fst }))
def jz6:List (Int)×Big×Int→Option ((List (Int))×Big):=iter jz5 big
def ozV (x:Int):Option (List (Int)×Big) :=
 brn (decide (x < 0))
  (obnd (jz6 ([],{ Minus:=decide (x < 0),D:=[] },IntKind.u64.wrap (0 - IntKind.u64.wrap x))) fun y=>some (y.1,{ Minus:=y.2.Minus,D:=y.1 }))
  (obnd (jz6 ([],{ Minus:=decide (x < 0),D:=[] },IntKind.u64.wrap x)) fun y=>some (y.1,{ Minus:=y.2.Minus,D:=y.1 }))
def jzm (x:Int):Option (Big):=obnd (ozV x) fun y=>some y.2
def lzh (back:List (Int)×Int×Big×Int→Option ((List (Int))×Big)) (x:List (Int)×Int×Big×Int):Option ((List (Int))×Big) :=
 brn (decide (x.2.2.snd < x.2.fst)) (obnd (app 8 x.fst [0]) fun zs=>back (zs,x.2.fst,{ Minus:=x.2.2.fst.Minus,D:=zs },IntKind.i64.wrap (x.2.2.snd+1)))
  (some (x.fst,{ Minus:=x.2.2.fst.Minus,D:=x.fst }))
def qzp:List (Int)×Int×Big×Int→Option ((List (Int))×Big):=iter lzh big
def jz7 (x:Big×Int):Option (Big) :=
 brn (decide ((↑x.fst.D.length:Int)=0)) (some x.fst)
  (obnd (qzp ([],x.snd,{ Minus:=x.fst.Minus,D:=[] },0)) fun y=>obnd (app 8 y.1 x.fst.D) fun zs=>some { Minus:=y.2.Minus,D:=zs })
def gzc (x:Dec×Dec):Option (Big×Big×Int) :=
 obnd (jzm x.fst.M) fun y =>
  obnd (jzm x.snd.M) fun y_1 =>
   brn (decide (x.fst.S < x.snd.S)) (obnd (jz7 (y,IntKind.i64.wrap (x.snd.S - x.fst.S))) fun y=>some (y,y_1,x.snd.S))
    (obnd (jz7 (y_1,IntKind.i64.wrap (x.fst.S - x.snd.S))) fun y_2=>some (y,y_2,x.fst.S))
def ez5 (x:List Int×List Int×List (Int)×Int×Int):Option (List (Int)×Int) :=
 brn (decide (x.2.2.2.snd < (↑x.fst.length:Int)))
  (obnd (idx x.fst x.2.2.2.snd) fun y =>
   brn (decide (x.2.2.2.snd < (↑x.2.fst.length:Int)))
    (obnd (idx x.2.fst x.2.2.2.snd) fun y_1 =>
     obnd (app 8 x.2.2.fst [(IntKind.i64.wrap (IntKind.i64.wrap (x.2.2.2.fst+y)+y_1)).tmod 10]) fun zs =>
      some (zs,IntKind.i64.wrap ((IntKind.i64.wrap (IntKind.i64.wrap (x.2.2.2.fst+y)+y_1)).tdiv 10)))
    (obnd (app 8 x.2.2.fst [(IntKind.i64.wrap (x.2.2.2.fst+y)).tmod 10]) fun zs=>some (zs,IntKind.i64.wrap ((IntKind.i64.wrap (x.2.2.2.fst+y)).tdiv 10))))
  (brn (decide (x.2.2.2.snd < (↑x.2.fst.length:Int)))
   (obnd (idx x.2.fst x.2.2.2.snd) fun y =>
    obnd (app 8 x.2.2.fst [(IntKind.i64.wrap (x.2.2.2.fst+y)).tmod 10]) fun zs=>some (zs,IntKind.i64.wrap ((IntKind.i64.wrap (x.2.2.2.fst+y)).tdiv 10)))
   (obnd (app 8 x.2.2.fst [x.2.2.2.fst.tmod 10]) fun zs=>some (zs,IntKind.i64.wrap (x.2.2.2.fst.tdiv 10))))
def izV (back:List Int×List Int×List (Int)×Int×Int→Option (List (Int))) (x:List Int×List Int×List (Int)×Int×Int):Option (List (Int)) :=
 brn (decide (x.2.2.2.snd < (↑x.fst.length:Int)))
  (obnd (ez5 (x.fst,x.2.fst,x.2.2.fst,x.2.2.2)) fun y=>back (x.fst,x.2.fst,y.fst,y.snd,IntKind.i64.wrap (x.2.2.2.snd+1)))
  (brn (decide (x.2.2.2.snd < (↑x.2.fst.length:Int)))
   (obnd (ez5 (x.fst,x.2.fst,x.2.2.fst,x.2.2.2)) fun y=>back (x.fst,x.2.fst,y.fst,y.snd,IntKind.i64.wrap (x.2.2.2.snd+1)))
   (brn (decide (0 < x.2.2.2.fst)) (obnd (ez5 (x.fst,x.2.fst,x.2.2.fst,x.2.2.2)) fun y=>back (x.fst,x.2.fst,y.fst,y.snd,IntKind.i64.wrap (x.2.2.2.snd+1)))
    (some x.2.2.1)))
def nzy:List Int×List Int×List (Int)×Int×Int→Option (List (Int)):=iter izV big
def hzj (x:List Int×List Int):Option (List (Int)) :=
 obnd (nzy (x.fst,x.snd,[],0,0)) fun y=>some y
def izS (back:List Int×List Int×Int→Option ((Unit)⊕(Bool))) (x:List Int×List Int×Int):Option ((Unit)⊕(Bool)) :=
 brn (decide (0≤x.2.snd))
  (obnd (idx x.fst x.2.snd) fun y =>
   obnd (idx x.2.fst x.2.snd) fun y_1 =>
    brn (!decide (y=y_1)) (obnd (idx x.fst x.2.snd) fun y=>obnd (idx x.2.fst x.2.snd) fun y_2=>some (Sum.inr (decide (y < y_2))))
     (back (x.fst,x.2.fst,IntKind.i64.wrap (x.2.snd - 1))))
  (some (Sum.inl PUnit.unit))
def nzv:List Int×List Int×Int→Option ((Unit)⊕(Bool)):=iter izS big
def hzh (x:List Int×List Int):Option (Bool) :=
 brn (!decide ((↑x.fst.length:Int)=(↑x.snd.length:Int))) (some (decide ((↑x.fst.length:Int) < (↑x.snd.length:Int))))
  (obnd (nzv (x.fst,x.snd,IntKind.i64.wrap ((↑x.fst.length:Int) - 1))) fun y=>osum y (fun y=>some false) fun y=>some y)
def hz7 (back:List Int×List Int×List (Int)×Int×Int→Option (List (Int))) (x:List Int×List Int×List (Int)×Int×Int):Option (List (Int)) :=
 brn (decide (x.2.2.2.snd < (↑x.fst.length:Int)))
  (obnd (idx x.fst x.2.2.2.snd) fun y =>
   brn (decide (x.2.2.2.snd < (↑x.2.fst.length:Int)))
    (obnd (idx x.2.fst x.2.2.2.snd) fun y_1 =>
     brn (decide (IntKind.i64.wrap (IntKind.i64.wrap (y - x.2.2.2.fst) - y_1) < 0))
      (obnd (app 8 x.2.2.fst [IntKind.i64.wrap (IntKind.i64.wrap (IntKind.i64.wrap (y - x.2.2.2.fst) - y_1)+10)]) fun zs =>
       back (x.fst,x.2.fst,zs,1,IntKind.i64.wrap (x.2.2.2.snd+1)))
      (obnd (app 8 x.2.2.fst [IntKind.i64.wrap (IntKind.i64.wrap (y - x.2.2.2.fst) - y_1)]) fun zs=>back (x.fst,x.2.fst,zs,0,IntKind.i64.wrap (x.2.2.2.snd+1))))
    (brn (decide (IntKind.i64.wrap (y - x.2.2.2.fst) < 0))
     (obnd (app 8 x.2.2.fst [IntKind.i64.wrap (IntKind.i64.wrap (y - x.2.2.2.fst)+10)]) fun zs=>back (x.fst,x.2.fst,zs,1,IntKind.i64.wrap (x.2.2.2.snd+1)))
     (obnd (app 8 x.2.2.fst [IntKind.i64.wrap (y - x.2.2.2.fst)]) fun zs=>back (x.fst,x.2.fst,zs,0,IntKind.i64.wrap (x.2.2.2.snd+1)))))
  (some x.2.2.1)
def lz5:List Int×List Int×List (Int)×Int×Int→Option (List (Int)):=iter hz7 big
def fzf (x:List Int×List Int):Option (List (Int)) :=
 obnd (lz5 (x.fst,x.snd,[],0,0)) fun y=>some y
def dz6 (x:Big×Big):Option (Big) :=
 brn (decide (x.fst.Minus=x.snd.Minus)) (obnd (hzj (x.fst.D,x.snd.D)) fun y=>obnd (bzs { Minus:=x.fst.Minus,D:=y }) fun y=>some y)
  (obnd (hzh (x.fst.D,x.snd.D)) fun y =>
   brn y (obnd (fzf (x.snd.D,x.fst.D)) fun y=>obnd (bzs { Minus:=x.snd.Minus,D:=y }) fun y=>some y)
    (obnd (fzf (x.fst.D,x.snd.D)) fun y=>obnd (bzs { Minus:=x.fst.Minus,D:=y }) fun y=>some y))
def ezY (x:Dec×Dec):Option (Int) :=
 obnd (gzc x) fun y =>
  brn (!y.2.fst.Minus)
   (obnd (dz6 (y.fst,{ Minus:=decide (0 < (↑y.2.fst.D.length:Int)),D:=y.2.fst.D })) fun y =>
    brn (decide ((↑y.D.length:Int)=0)) (some 0) (brn y.Minus (some (-1)) (some 1)))
   (obnd (dz6 (y.fst,{ Minus:=false,D:=y.2.fst.D })) fun y=>brn (decide ((↑y.D.length:Int)=0)) (some 0) (brn y.Minus (some (-1)) (some 1)))
def jz4 (x:Dec×Dec):Option (Dec×Int) :=
 obnd (gzc x) fun y=>obnd (dz6 (y.fst,y.2.fst)) fun y_1=>obnd (czE (y_1,y.2.snd)) fun y=>some y
def izU (back:List Int×List Int×Int→Option (List Int×Int)) (x:List Int×List Int×Int):Option (List Int×Int) :=
 obnd (hzh (x.2.fst,x.fst)) fun y =>
  brn (!y) (obnd (fzf (x.2.fst,x.fst)) fun y=>obnd (bzs { Minus:=false,D:=y }) fun y=>back (x.fst,y.D,IntKind.i64.wrap (x.2.snd+1))) (some x.2)
def nzx:List Int×List Int×Int→Option (List Int×Int):=iter izU big
def izT (back:List Int×List Int×List (Int)×List Int×Int→Option (List (Int)×List Int)) (x:List Int×List Int×List (Int)×List Int×Int):Option (List (Int)×List Int) :=
 brn (decide (0≤x.2.2.2.snd))
  (obnd (idx x.fst x.2.2.2.snd) fun y =>
   obnd (app 8 [y] x.2.2.2.fst) fun zs =>
    obnd (bzs { Minus:=false,D:=zs }) fun y =>
     obnd (nzx (x.2.fst,y.D,0)) fun y=>obnd (app 8 [y.snd] x.2.2.fst) fun zs=>back (x.fst,x.2.fst,zs,y.fst,IntKind.i64.wrap (x.2.2.2.snd - 1)))
  (some (x.2.2.fst,x.2.2.2.fst))
def nzw:List Int×List Int×List (Int)×List Int×Int→Option (List (Int)×List Int):=iter izT big
def mzM (x:List Int×List Int):Option (List Int×Bool×Bool) :=
 obnd (nzw (x.fst,x.snd,[],[],IntKind.i64.wrap ((↑x.fst.length:Int) - 1))) fun y =>
  obnd (bzs { Minus:=false,D:=y.fst }) fun y_1 =>
   obnd (hzj (y.snd,y.snd)) fun y_2=>obnd (hzh (y_2,x.snd)) fun y_3=>some (y_1.D,!y_3,decide (0 < (↑(List.length y.snd):Int)))
def fzA (x:Dec×Dec):Option (Dec×Int) :=
 brn (decide (x.snd.M=0)) (some ({ M:=0,S:=0 },9))
  (obnd (gzc x) fun y =>
   obnd (jz7 (y.fst,9)) fun y_1 =>
    obnd (mzM (y_1.D,y.2.fst.D)) fun y_2 =>
     brn y_2.2.fst
      (obnd (hzj (y_2.fst,[1])) fun y_3 =>
       obnd (bzs { Minus:=!decide (y.fst.Minus=y.2.fst.Minus),D:=y_3 }) fun y=>obnd (czE (y,9)) fun y=>some y)
      (obnd (bzs { Minus:=!decide (y.fst.Minus=y.2.fst.Minus),D:=y_2.fst }) fun y=>obnd (czE (y,9)) fun y=>some y))
end Go.Proofs.YtdgpkbnnljblmaaGreatDoor

/- W2 -/
namespace Go.Proofs.YtdgpkbnnljblmaaGreatDoor
open Go Go.Ev Go.Proofs
theorem bldX:Builder.Extra Tryz.prog Tryz.lays105_ren where
 sizeBuilder:=by kernel_rfl
 liesBuilder:=by kernel_rfl
 t5:=Tryz.underlying5
 a5:=Tryz.isAgg5
 z5:=Tryz.sizeOf5
 v5:=Tryz.zeroValue5
 infoByte:=by kernel_rfl
 cellsByte:=by kernel_rfl
 sizeByte:=by kernel_rfl
 neB5:=by decide
def hzK (x:List UInt8×Unit):Option (List UInt8×Unit):=some (x.1,())
def tzc:FSpec tb:=⟨[(8589934592,.own 5),(0,.box 229638146)],[(8589967360,.own 5)],hzK⟩
theorem hzC:bzd Tryz.prog tb 218 tzc:=rzG (ρ:=Tryz.lays105_ren) (tu:=5) { Tryz.lays105 with } bldX.toX72
def fz4 (x:List UInt8×Unit):Option (List UInt8×Unit):=some (x.1,())
def izg:FSpec tb:=⟨[(8589934592,.own 5),(0,.box 229638146)],[(0,.val 9)],fz4⟩
theorem bldStr:IsStr tb 5 9 (fun (xs:List UInt8)=>(xs:List UInt8)):=fun (xs:List UInt8)=>⟨xs,jzr xs,rfl,fun _ x h=>⟨x,h,enc5_eq x⟩⟩
theorem gzq:bzd Tryz.prog tb 144 izg :=
 vzL (tb:=tb) (ρ:=Tryz.lays105_ren) (f:=fun (xs:List UInt8)=>(xs:List UInt8)) { Tryz.lays105 with } bldX bldStr jzu
end Go.Proofs.YtdgpkbnnljblmaaGreatDoor

/- B1 -/
namespace Go.Proofs.YtdgpkbnnljblmaaGreatDoor
open Go Go.Ev
set_option linter.unusedVariables false
def ezF (x:List (UInt8)×Unit×List UInt8):Option ((List (UInt8)×Int×Unit)×Unit) :=
 obnd (hzK (x.fst,())) fun y=>obnd (app 1 y.1 x.2.snd) fun zs=>some ((zs,(↑x.2.snd.length:Int),()),())
def ezG:FSpec tb:=⟨[(8589934592,.own 5),(0,.box 229638146),(1,.val 9)],[(8589967360,.own 5),(0,.val 3),(1,.val 222)],ezF⟩
theorem gze:aze Tryz.prog tb 143 ezG:=azt mixed Tryz.func143 (by kernel_rfl) (.consK hzC .nil) rfl (fun x=>by kernel_rfl)
def ezL (x:Int×Bool):Option (Bool) :=
 brn x.snd (some x.2) (brn (decide (57343 < x.fst)) (some (decide (x.fst≤65535))) (some false))
def ezK:CutSpec tb:=⟨58,[(5,.val 340),(25,.val 4)],[(.normal,[(25,.val 4)])],[28,29,30,31,32,33,25],ezL⟩
theorem hzA:azl ([]:List (CutSpec tb)) (azZ 58 Tryz.f270)=[]:=by kernel_rfl
theorem hzq:azo Tryz.prog tb Tryz.f270.ntmps (azZ 58 Tryz.f270) ezK:=ez2 mixed (by kernel_rfl) .nil rfl hzA .nil (fun x=>by kernel_rfl)
def fzG (x:List (UInt8)×Int):Option (List (UInt8)) :=
 brn (decide (IntKind.u32.wrap x.snd≤2047))
  (obnd
   (app 1 x.fst
    [UInt8.ofNat (azA BinOp.or IntKind.u8 192 (IntKind.u8.wrap (x.snd.fdiv 64))).toNat,
     UInt8.ofNat (azA BinOp.or IntKind.u8 128 (azA BinOp.and IntKind.u8 (IntKind.u8.wrap x.snd) 63)).toNat])
   fun zs=>some zs)
  (obnd (ezL (IntKind.u32.wrap x.snd,decide (IntKind.u32.wrap x.snd < 55296))) fun y =>
   brn y
    (obnd
     (app 1 x.fst
      [UInt8.ofNat (azA BinOp.or IntKind.u8 224 (IntKind.u8.wrap (x.snd.fdiv 4096))).toNat,
       UInt8.ofNat (azA BinOp.or IntKind.u8 128 (azA BinOp.and IntKind.u8 (IntKind.u8.wrap (x.snd.fdiv 64)) 63)).toNat,
       UInt8.ofNat (azA BinOp.or IntKind.u8 128 (azA BinOp.and IntKind.u8 (IntKind.u8.wrap x.snd) 63)).toNat])
     fun zs=>some zs)
    (brn (decide (65535 < IntKind.u32.wrap x.snd))
     (brn (decide (IntKind.u32.wrap x.snd≤1114111))
      (obnd
       (app 1 x.fst
        [UInt8.ofNat (azA BinOp.or IntKind.u8 240 (IntKind.u8.wrap (x.snd.fdiv 262144))).toNat,
         UInt8.ofNat (azA BinOp.or IntKind.u8 128 (azA BinOp.and IntKind.u8 (IntKind.u8.wrap (x.snd.fdiv 4096)) 63)).toNat,
         UInt8.ofNat (azA BinOp.or IntKind.u8 128 (azA BinOp.and IntKind.u8 (IntKind.u8.wrap (x.snd.fdiv 64)) 63)).toNat,
         UInt8.ofNat (azA BinOp.or IntKind.u8 128 (azA BinOp.and IntKind.u8 (IntKind.u8.wrap x.snd) 63)).toNat])
       fun zs=>some zs)
      (obnd (app 1 x.fst [UInt8.ofNat 239,UInt8.ofNat 191,UInt8.ofNat 189]) fun zs=>some zs))
     (obnd (app 1 x.fst [UInt8.ofNat 239,UInt8.ofNat 191,UInt8.ofNat 189]) fun zs=>some zs)))
def kzg:FSpec tb:=⟨[(0,.own 5),(1,.val 21)],[(0,.own 5)],fzG⟩
theorem iz2:azl ([ezK]:List (CutSpec tb)) (azE Tryz.f270)=[(58,azZ 58 Tryz.f270)]:=by kernel_rfl
theorem hzB:aze Tryz.prog tb 270 kzg:=az2 mixed Tryz.func270 (by kernel_rfl) .nil rfl iz2 (.cons rfl hzq rfl .nil) (fun x=>by kernel_rfl)
def kzf (x:List (UInt8)×Int):Option (List (UInt8)) :=
 brn (decide (IntKind.u32.wrap x.snd≤127)) (obnd (app 1 x.fst [UInt8.ofNat (IntKind.u8.wrap x.snd).toNat]) fun zs=>some zs) (obnd (fzG x) fun y=>some y)
def rzv:FSpec tb:=⟨[(0,.own 5),(1,.val 21)],[(0,.own 5)],kzf⟩
theorem mzc:aze Tryz.prog tb 252 rzv:=azt mixed Tryz.func252 (by kernel_rfl) (.cons hzB .nil) rfl (fun x=>by kernel_rfl)
def azu (x:List (UInt8)×Unit×Int):Option ((List (UInt8)×Int×Unit)×Unit) :=
 obnd (hzK (x.fst,())) fun y =>
  obnd (kzf (y.1,x.2.snd)) fun y_1=>some ((y_1,IntKind.i64.wrap ((↑(List.length y_1):Int) - (↑(List.length y.1):Int)),()),())
def cz3:FSpec tb:=⟨[(8589934592,.own 5),(0,.box 229638146),(1,.val 21)],[(8589967360,.own 5),(0,.val 3),(1,.val 222)],azu⟩
theorem dzD:aze Tryz.prog tb 220 cz3:=azt mixed Tryz.func220 (by kernel_rfl) (.consK hzC (.cons mzc .nil)) rfl (fun x=>by kernel_rfl)
end Go.Proofs.YtdgpkbnnljblmaaGreatDoor

/- G1 -/
namespace Go.Proofs.YtdgpkbnnljblmaaGreatDoor
open Go Go.Ev
set_option linter.unusedVariables false
def jzK (x:Unit):Option (List (Function)) :=
 some
  [{ name:=[83,85,77],lo:=0,hi:=9223372036854775807 },{ name:=[77,73,78],lo:=0,hi:=9223372036854775807 },
   { name:=[77,65,88],lo:=0,hi:=9223372036854775807 },{ name:=U8s [67,79,85,78,84],lo:=0,hi:=9223372036854775807 },
   { name:=U8s [65,86,69,82,65,71,69],lo:=0,hi:=9223372036854775807 },{ name:=[65,66,83],lo:=1,hi:=1 },{ name:=[83,73,71,78],lo:=1,hi:=1 },
   { name:=[73,78,84],lo:=1,hi:=1 },{ name:=[77,79,68],lo:=2,hi:=2 },{ name:=U8s [82,79,85,78,68],lo:=2,hi:=2 },
   { name:=[73,70],lo:=2,hi:=3 },{ name:=[65,78,68],lo:=0,hi:=9223372036854775807 },{ name:=[79,82],lo:=0,hi:=9223372036854775807 },
   { name:=[78,79,84],lo:=1,hi:=1 },{ name:=[76,69,78],lo:=1,hi:=1 },{ name:=[76,69,70,84],lo:=1,hi:=2 },
   { name:=U8s [82,73,71,72,84],lo:=1,hi:=2 },{ name:=[77,73,68],lo:=3,hi:=3 },
   { name:=U8s [67,79,78,67,65,84],lo:=0,hi:=9223372036854775807 },{ name:=U8s [85,80,80,69,82],lo:=1,hi:=1 },
   { name:=U8s [76,79,87,69,82],lo:=1,hi:=1 },{ name:=U8s [73,83,66,76,65,78,75],lo:=1,hi:=1 },
   { name:=U8s [73,83,69,82,82,79,82],lo:=1,hi:=1 },{ name:=U8s [73,70,69,82,82,79,82],lo:=2,hi:=2 },
   { name:=U8s [73,78,68,69,88],lo:=2,hi:=2 },{ name:=U8s [67,72,79,79,83,69],lo:=2,hi:=9223372036854775807 },
   { name:=U8s [69,88,65,67,84],lo:=2,hi:=2 },{ name:=[82,69,80,84],lo:=2,hi:=2 },{ name:=[78,65],lo:=0,hi:=0 },
   { name:=[84,89,80,69],lo:=1,hi:=1 }]
def vzi:FSpec tb:=⟨[],[(0,.own 130)],jzK⟩
theorem nzg:aze Tryz.prog tb 59 vzi:=azt mixed Tryz.func59 (by kernel_rfl) .nil rfl (fun x=>by kernel_rfl)
def tz6 (x:Int):Option (List UInt8×Bool) :=
 obnd (jzK ()) fun y=>brn (decide (x < 0)) (some ([],false)) (brn (decide ((↑(List.length y):Int)≤x)) (some ([],false)) (obnd (idx y x) fun y=>some (y.name,true)))
def fun_NameS:FSpec tb:=⟨[(0,.val 3)],[(0,.val 9),(1,.val 4)],tz6⟩
theorem tzu:aze Tryz.prog tb 23 fun_NameS:=azt mixed Tryz.func23 (by kernel_rfl) (.cons nzg .nil) rfl (fun x=>by kernel_rfl)
def bz2 (x:Val):Option (Arg) :=
 some { Area:=false,L:=[x] }
def qz5:FSpec tb:=⟨[(0,.val 32)],[(0,.val 48)],bz2⟩
theorem nzf:aze Tryz.prog tb 25 qz5:=azt mixed Tryz.func25 (by kernel_rfl) .nil rfl (fun x=>by kernel_rfl)
def izo (x:Arg):Option (Bool) :=
 brn (!x.Area) (some (bif decide ((↑x.L.length:Int)=1) then false else true)) (some false)
def qza:FSpec tb:=⟨[(0,.val 48)],[(0,.val 4)],izo⟩
theorem qz9:aze Tryz.prog tb 138 qza:=azt mixed Tryz.func138 (by kernel_rfl) .nil rfl (fun x=>by kernel_rfl)
abbrev ezk:List (Nat×FSpec tb):=[(138,qza)]
theorem bzS:azz Tryz.prog tb ezk:=(.cons qz9 .nil)
def azF (back:List Arg×Unit×Int×Int→Option ((Unit)⊕(Int))) (x:List Arg×Unit×Int×Int):Option ((Unit)⊕(Int)) :=
 brn (decide (x.2.2.snd < x.2.2.fst))
  (obnd (idx x.fst x.2.2.snd) fun y=>obnd (izo y) fun y=>brn y (some (Sum.inr x.2.2.2)) (back (x.fst,(),x.2.2.fst,IntKind.i64.wrap (x.2.2.snd+1))))
  (some (Sum.inl PUnit.unit))
def bza:List Arg×Unit×Int×Int→Option ((Unit)⊕(Int)):=iter azF big
def bzT:CutSpec tb:=⟨28,[(0,.val 34),(1,.fnp 138 0),(7,.val 3),(8,.val 3)],[((.exit 0),[]),(.ret,[(4,.val 3)])],[9,10,5,11,12,13,14,15,16,17,4,18,8],bza⟩
theorem dzm:azl ([]:List (CutSpec tb)) (azk 28 Tryz.f216)=[]:=by kernel_rfl
theorem dzf:azo Tryz.prog tb Tryz.f216.ntmps (.loop (azk 28 Tryz.f216)) bzT:=azJ mixed (by kernel_rfl) bzS rfl dzm .nil azF (fun back x=>by kernel_rfl) rfl
def bzh (x:List Arg×Unit):Option (Int) :=
 obnd (bza (x.fst,(),(↑x.fst.length:Int),0)) fun y=>osum y (fun y=>some (-1)) fun y=>some y
def ezl:FSpec tb:=⟨[(0,.val 34),(1,.fnp 138 0)],[(0,.val 3)],bzh⟩
theorem dzI:azl ([bzT]:List (CutSpec tb)) (azE Tryz.f216)=[(28,.loop (azk 28 Tryz.f216))]:=by kernel_rfl
theorem dzn:aze Tryz.prog tb 216 ezl:=az2 mixed Tryz.func216 (by kernel_rfl) bzS rfl dzI (.cons rfl dzf rfl .nil) (fun x=>by kernel_rfl)
def azT (x:List Arg×Unit):Option (Bool) :=
 obnd (bzh (x.fst,())) fun y=>some (decide (0≤y))
def bzR:FSpec tb:=⟨[(0,.val 34),(1,.fnp 138 0)],[(0,.val 4)],azT⟩
theorem cz1:aze Tryz.prog tb 137 bzR:=azt mixed Tryz.func137 (by kernel_rfl) (.cons dzn .nil) rfl (fun x=>by kernel_rfl)
abbrev vzk:List (Nat×FSpec tb):=[(85,gzf)]
theorem gzY:azz Tryz.prog tb vzk:=(.cons bzO .nil)
def dzZ (back:Int×Arg×List Val×Int×Int→Option (Int)) (x:Int×Arg×List Val×Int×Int):Option (Int) :=
 brn (decide (x.2.2.2.snd < x.2.2.2.fst))
  (obnd (idx x.2.2.fst x.2.2.2.snd) fun y =>
   obnd (azX y) fun y_1 =>
    brn y_1.2.snd
     (brn (!x.2.fst.Area) (back (IntKind.i64.wrap (x.fst+1),x.2.fst,x.2.2.fst,x.2.2.2.fst,IntKind.i64.wrap (x.2.2.2.snd+1)))
      (brn (decide (y.Kind=1)) (back (IntKind.i64.wrap (x.fst+1),x.2.fst,x.2.2.fst,x.2.2.2.fst,IntKind.i64.wrap (x.2.2.2.snd+1)))
       (back (x.fst,x.2.fst,x.2.2.fst,x.2.2.2.fst,IntKind.i64.wrap (x.2.2.2.snd+1)))))
     (back (x.fst,x.2.fst,x.2.2.fst,x.2.2.2.fst,IntKind.i64.wrap (x.2.2.2.snd+1))))
  (some x.1)
def gz0:Int×Arg×List Val×Int×Int→Option (Int):=iter dzZ big
def kzB:CutSpec tb:=⟨60,[(3,.val 3),(5,.ro 48),(18,.val 46),(19,.val 3),(20,.val 3)],[((.exit 2),[(3,.val 3)])],[21,22,23,7,25,26,24,27,28,29,8,9,10,30,31,32,33,34,35,36,37,38,39,40,41,42,3,43,20],gz0⟩
theorem pzE:azl ([]:List (CutSpec tb)) (azk 60 Tryz.f139)=[]:=by kernel_rfl
theorem ozk:azo Tryz.prog tb Tryz.f139.ntmps (.loop (azk 60 Tryz.f139)) kzB:=azJ mixed (by kernel_rfl) gzY rfl pzE .nil dzZ (fun back x=>by kernel_rfl) rfl
def dzY (back:Int×List Arg×Int×Int→Option (Int)) (x:Int×List Arg×Int×Int):Option (Int) :=
 brn (decide (x.2.2.snd < x.2.2.fst))
  (obnd (idx x.2.fst x.2.2.snd) fun y=>obnd (gz0 (x.fst,y,y.L,(↑y.L.length:Int),0)) fun y=>back (y,x.2.fst,x.2.2.fst,IntKind.i64.wrap (x.2.2.snd+1)))
  (some x.1)
def gzZ:Int×List Arg×Int×Int→Option (Int):=iter dzY big
def kzA:CutSpec tb:=⟨36,[(3,.val 3),(11,.val 34),(12,.val 3),(13,.val 3)],[((.exit 0),[(3,.val 3)])],[14,15,16,5,17,18,19,20,21,22,23,7,25,26,24,27,28,29,8,9,10,30,31,32,33,34,35,36,37,38,39,40,41,42,3,43,44,13],gzZ⟩
theorem pzD:azl ([kzB]:List (CutSpec tb)) (azk 36 Tryz.f139)=[(60,.loop (azk 60 Tryz.f139))]:=by kernel_rfl
theorem ozj:azo Tryz.prog tb Tryz.f139.ntmps (.loop (azk 36 Tryz.f139)) kzA:=azJ mixed (by kernel_rfl) gzY rfl pzD (.cons rfl ozk rfl .nil) dzY (fun back x=>by kernel_rfl) rfl
def gzX (x:List Arg):Option (Int) :=
 obnd (gzZ (0,x,(↑x.length:Int),0)) fun y=>some y
def ozi:FSpec tb:=⟨[(0,.val 34)],[(0,.val 3)],gzX⟩
theorem tzv:azl ([kzA]:List (CutSpec tb)) (azE Tryz.f139)=[(36,.loop (azk 36 Tryz.f139))]:=by kernel_rfl
theorem pzF:aze Tryz.prog tb 139 ozi:=az2 mixed Tryz.func139 (by kernel_rfl) gzY rfl tzv (.cons rfl ozj rfl .nil) (fun x=>by kernel_rfl)
def azU (x:Dec×Int):Option (Val) :=
 brn (decide (x.snd=0)) (some { Kind:=1,N:=x.fst,S:=[],B:=false,E:=0 })
  (brn (decide (x.snd=9)) (obnd (azm 7) fun y=>some y) (obnd (azm 36) fun y=>some y))
def jzN:FSpec tb:=⟨[(0,.val 30),(1,.val 63)],[(0,.val 32)],azU⟩
theorem czY:aze Tryz.prog tb 86 jzN:=azt mixed Tryz.func86 (by kernel_rfl) (.cons azB .nil) rfl (fun x=>by kernel_rfl)
def az8 (x:Int):Option (Val) :=
 obnd (bzA x) fun y=>obnd (azU (y,0)) fun y=>some y
def fzt:FSpec tb:=⟨[(0,.val 3)],[(0,.val 32)],az8⟩
theorem ezp:aze Tryz.prog tb 64 fzt:=azt mixed Tryz.func64 (by kernel_rfl) (.cons czs (.cons czY .nil)) rfl (fun x=>by kernel_rfl)
abbrev wzr:List (Nat×FSpec tb):=[(65,mzV)]
theorem hzU:azz Tryz.prog tb wzr:=(.cons hzw .nil)
def lzR (back:Val×List (Bool)×Arg×List Val×Int×Int→Option (((List (Bool))×Val)⊕((List (Bool)×Bool)×Val))) (x:Val×List (Bool)×Arg×List Val×Int×Int):Option (((List (Bool))×Val)⊕((List (Bool)×Bool)×Val)) :=
 brn (decide (x.2.2.2.2.snd < x.2.2.2.2.fst))
  (obnd (idx x.2.2.2.fst x.2.2.2.2.snd) fun y =>
   brn x.2.2.fst.Area
    (brn (!decide (y.Kind=1))
     (brn (!decide (y.Kind=3))
      (brn (!decide (y.Kind=4)) (back (x.fst,x.2.fst,x.2.2.fst,x.2.2.2.fst,x.2.2.2.2.fst,IntKind.i64.wrap (x.2.2.2.2.snd+1)))
       (obnd (ez1 y) fun y =>
        brn (!y.2.snd) (some (Sum.inr (([],false),y.2.fst)))
         (obnd (app 1 x.2.fst [y.fst]) fun zs=>back (x.fst,zs,x.2.2.fst,x.2.2.2.fst,x.2.2.2.2.fst,IntKind.i64.wrap (x.2.2.2.2.snd+1)))))
      (obnd (ez1 y) fun y =>
       brn (!y.2.snd) (some (Sum.inr (([],false),y.2.fst)))
        (obnd (app 1 x.2.fst [y.fst]) fun zs=>back (x.fst,zs,x.2.2.fst,x.2.2.2.fst,x.2.2.2.2.fst,IntKind.i64.wrap (x.2.2.2.2.snd+1)))))
     (obnd (ez1 y) fun y =>
      brn (!y.2.snd) (some (Sum.inr (([],false),y.2.fst)))
       (obnd (app 1 x.2.fst [y.fst]) fun zs=>back (x.fst,zs,x.2.2.fst,x.2.2.2.fst,x.2.2.2.2.fst,IntKind.i64.wrap (x.2.2.2.2.snd+1)))))
    (obnd (ez1 y) fun y =>
     brn (!y.2.snd) (some (Sum.inr (([],false),y.2.fst)))
      (obnd (app 1 x.2.fst [y.fst]) fun zs=>back (x.fst,zs,x.2.2.fst,x.2.2.2.fst,x.2.2.2.2.fst,IntKind.i64.wrap (x.2.2.2.2.snd+1)))))
  (some (Sum.inl (x.2.fst,x.fst)))
def lzS:Val×List (Bool)×Arg×List Val×Int×Int→Option (((List (Bool))×Val)⊕((List (Bool)×Bool)×Val)):=iter lzR big
def lzQ:CutSpec tb:=⟨60,[(3,.ref 32),(5,.own 4),(7,.ro 48),(20,.val 46),(21,.val 3),(22,.val 3)],[((.exit 2),[(5,.own 4)]),(.ret,[(2,.own 4),(4,.val 4)])],[23,24,25,9,26,27,28,29,30,31,32,33,34,35,36,37,38,39,40,41,42,44,45,43,46,47,48,11,10,12,49,50,51,2,4,52,53,54,55,5,56,22],lzS⟩
theorem rzf:azl ([]:List (CutSpec tb)) (azk 60 Tryz.f140)=[]:=by kernel_rfl
theorem pzM:azo Tryz.prog tb Tryz.f140.ntmps (.loop (azk 60 Tryz.f140)) lzQ:=azJ mixed (by kernel_rfl) hzU rfl rzf .nil lzR (fun back x=>by kernel_rfl) rfl
def lzO (back:Val×List (Bool)×List Arg×Int×Int→Option (((List (Bool))×Val)⊕((List (Bool)×Bool)×Val))) (x:Val×List (Bool)×List Arg×Int×Int):Option (((List (Bool))×Val)⊕((List (Bool)×Bool)×Val)) :=
 brn (decide (x.2.2.2.snd < x.2.2.2.fst))
  (obnd (idx x.2.2.fst x.2.2.2.snd) fun y =>
   obnd (lzS (x.fst,x.2.fst,y,y.L,(↑y.L.length:Int),0)) fun y =>
    osum y (fun y=>back (y.2,y.1,x.2.2.fst,x.2.2.2.fst,IntKind.i64.wrap (x.2.2.2.snd+1))) fun y=>some (Sum.inr (y.1,y.2)))
  (some (Sum.inl (x.2.fst,x.fst)))
def lzP:Val×List (Bool)×List Arg×Int×Int→Option (((List (Bool))×Val)⊕((List (Bool)×Bool)×Val)):=iter lzO big
def lzN:CutSpec tb:=⟨36,[(3,.ref 32),(5,.own 4),(13,.val 34),(14,.val 3),(15,.val 3)],[((.exit 0),[(5,.own 4)]),(.ret,[(2,.own 4),(4,.val 4)])],[16,17,18,7,19,20,21,22,23,24,25,9,26,27,28,29,30,31,32,33,34,35,36,37,38,39,40,41,42,44,45,43,46,47,48,11,10,12,49,50,51,2,4,52,53,54,55,5,56,57,15],lzP⟩
theorem rze:azl ([lzQ]:List (CutSpec tb)) (azk 36 Tryz.f140)=[(60,.loop (azk 60 Tryz.f140))]:=by kernel_rfl
theorem pzL:azo Tryz.prog tb Tryz.f140.ntmps (.loop (azk 36 Tryz.f140)) lzN:=azJ mixed (by kernel_rfl) hzU rfl rze (.cons rfl pzM rfl .nil) lzO (fun back x=>by kernel_rfl) rfl
def lzc (x:List Arg):Option (List (Bool)×Val×Bool) :=
 obnd (lzP ({ Kind:=0,N:={ M:=0,S:=0 },S:=[],B:=false,E:=0 },[],x,(↑x.length:Int),0)) fun y =>
  osum y (fun y=>some (y.1,{ Kind:=0,N:={ M:=0,S:=0 },S:=[],B:=false,E:=0 },decide (0 < (↑(List.length y.1):Int)))) fun y=>some (y.1.fst,y.2,y.1.snd)
def qzc:FSpec tb:=⟨[(0,.val 34)],[(0,.own 4),(1,.val 32),(2,.val 4)],lzc⟩
theorem uzJ:azl ([lzN]:List (CutSpec tb)) (azE Tryz.f140)=[(36,.loop (azk 36 Tryz.f140))]:=by kernel_rfl
theorem rzg:aze Tryz.prog tb 140 qzc:=az2 mixed Tryz.func140 (by kernel_rfl) hzU rfl uzJ (.cons rfl pzL rfl .nil) (fun x=>by kernel_rfl)
def fza (back:List Bool×Bool×Int×Int→Option ((Unit)⊕(Int))) (x:List Bool×Bool×Int×Int):Option ((Unit)⊕(Int)) :=
 brn (decide (x.2.2.snd < x.2.2.fst))
  (obnd (idx x.fst x.2.2.snd) fun y=>brn (decide (x.2.fst=y)) (some (Sum.inr x.2.2.2)) (back (x.fst,x.2.fst,x.2.2.fst,IntKind.i64.wrap (x.2.2.snd+1))))
  (some (Sum.inl PUnit.unit))
def fzb:List Bool×Bool×Int×Int→Option ((Unit)⊕(Int)):=iter fza big
def ez9:CutSpec tb:=⟨28,[(0,.val 147),(1,.val 4),(7,.val 3),(8,.val 3)],[((.exit 0),[]),(.ret,[(4,.val 3)])],[9,10,5,11,12,13,14,15,16,17,4,18,8],fzb⟩
theorem izc:azl ([]:List (CutSpec tb)) (azk 28 Tryz.f217)=[]:=by kernel_rfl
theorem hzz:azo Tryz.prog tb Tryz.f217.ntmps (.loop (azk 28 Tryz.f217)) ez9:=azJ mixed (by kernel_rfl) .nil rfl izc .nil fza (fun back x=>by kernel_rfl) rfl
def fzU (x:List Bool×Bool):Option (Int) :=
 obnd (fzb (x.fst,x.snd,(↑x.fst.length:Int),0)) fun y=>osum y (fun y=>some (-1)) fun y=>some y
def kzq:FSpec tb:=⟨[(0,.val 147),(1,.val 4)],[(0,.val 3)],fzU⟩
theorem jzn:azl ([ez9]:List (CutSpec tb)) (azE Tryz.f217)=[(28,.loop (azk 28 Tryz.f217))]:=by kernel_rfl
theorem izd:aze Tryz.prog tb 217 kzq:=az2 mixed Tryz.func217 (by kernel_rfl) .nil rfl jzn (.cons rfl hzz rfl .nil) (fun x=>by kernel_rfl)
def bzv (x:List Bool×Bool):Option (Bool) :=
 obnd (fzU x) fun y=>some (decide (0≤y))
def ez8:FSpec tb:=⟨[(0,.val 147),(1,.val 4)],[(0,.val 4)],bzv⟩
theorem gzH:aze Tryz.prog tb 141 ez8:=azt mixed Tryz.func141 (by kernel_rfl) (.cons izd .nil) rfl (fun x=>by kernel_rfl)
def bz6 (x:Bool):Option (Val) :=
 some { Kind:=3,N:={ M:=0,S:=0 },S:=[],B:=x,E:=0 }
def gz4:FSpec tb:=⟨[(0,.val 4)],[(0,.val 32)],bz6⟩
theorem dz2:aze Tryz.prog tb 63 gz4:=azt mixed Tryz.func63 (by kernel_rfl) .nil rfl (fun x=>by kernel_rfl)
def czK (x:List UInt8):Option (Val) :=
 obnd (jzp x) fun y=>brn (!decide (y.snd=0)) (obnd (azm 15) fun y=>some y) (some { Kind:=2,N:={ M:=0,S:=0 },S:=x,B:=false,E:=0 })
def kzF:FSpec tb:=⟨[(0,.val 9)],[(0,.val 32)],czK⟩
theorem hzT:aze Tryz.prog tb 83 kzF:=azt mixed Tryz.func83 (by kernel_rfl) (.cons kzV (.cons azB .nil)) rfl (fun x=>by kernel_rfl)
abbrev vzm:List (Nat×FSpec tb):=[(85,gzf)]
theorem gz2:azz Tryz.prog tb vzm:=(.cons bzO .nil)
def dz1 (back:Val×List (Dec)×Arg×List Val×Int×Int→Option (((List (Dec))×Val)⊕((List (Dec)×Bool)×Val))) (x:Val×List (Dec)×Arg×List Val×Int×Int):Option (((List (Dec))×Val)⊕((List (Dec)×Bool)×Val)) :=
 brn (decide (x.2.2.2.2.snd < x.2.2.2.2.fst))
  (obnd (idx x.2.2.2.fst x.2.2.2.2.snd) fun y =>
   brn x.2.2.fst.Area
    (brn (!decide (y.Kind=1))
     (brn (!decide (y.Kind=4)) (back (x.fst,x.2.fst,x.2.2.fst,x.2.2.2.fst,x.2.2.2.2.fst,IntKind.i64.wrap (x.2.2.2.2.snd+1)))
      (obnd (azX y) fun y =>
       brn (!y.2.snd) (some (Sum.inr (([],false),y.2.fst)))
        (obnd (app 16 x.2.fst [y.fst]) fun zs=>back (x.fst,zs,x.2.2.fst,x.2.2.2.fst,x.2.2.2.2.fst,IntKind.i64.wrap (x.2.2.2.2.snd+1)))))
     (obnd (azX y) fun y =>
      brn (!y.2.snd) (some (Sum.inr (([],false),y.2.fst)))
       (obnd (app 16 x.2.fst [y.fst]) fun zs=>back (x.fst,zs,x.2.2.fst,x.2.2.2.fst,x.2.2.2.2.fst,IntKind.i64.wrap (x.2.2.2.2.snd+1)))))
    (obnd (azX y) fun y =>
     brn (!y.2.snd) (some (Sum.inr (([],false),y.2.fst)))
      (obnd (app 16 x.2.fst [y.fst]) fun zs=>back (x.fst,zs,x.2.2.fst,x.2.2.2.fst,x.2.2.2.2.fst,IntKind.i64.wrap (x.2.2.2.2.snd+1)))))
  (some (Sum.inl (x.2.fst,x.fst)))
def gz3:Val×List (Dec)×Arg×List Val×Int×Int→Option (((List (Dec))×Val)⊕((List (Dec)×Bool)×Val)):=iter dz1 big
def kzD:CutSpec tb:=⟨60,[(3,.ref 32),(5,.own 30),(7,.ro 48),(20,.val 46),(21,.val 3),(22,.val 3)],[((.exit 2),[(5,.own 30)]),(.ret,[(2,.own 30),(4,.val 4)])],[23,24,25,9,26,27,28,29,30,31,32,33,34,35,36,37,39,40,38,41,42,43,10,11,12,44,45,46,2,4,47,48,49,50,5,51,22],gz3⟩
theorem pzI:azl ([]:List (CutSpec tb)) (azk 60 Tryz.f145)=[]:=by kernel_rfl
theorem ozw:azo Tryz.prog tb Tryz.f145.ntmps (.loop (azk 60 Tryz.f145)) kzD:=azJ mixed (by kernel_rfl) gz2 rfl pzI .nil dz1 (fun back x=>by kernel_rfl) rfl
def dz0 (back:Val×List (Dec)×List Arg×Int×Int→Option (((List (Dec))×Val)⊕((List (Dec)×Bool)×Val))) (x:Val×List (Dec)×List Arg×Int×Int):Option (((List (Dec))×Val)⊕((List (Dec)×Bool)×Val)) :=
 brn (decide (x.2.2.2.snd < x.2.2.2.fst))
  (obnd (idx x.2.2.fst x.2.2.2.snd) fun y =>
   obnd (gz3 (x.fst,x.2.fst,y,y.L,(↑y.L.length:Int),0)) fun y =>
    osum y (fun y=>back (y.2,y.1,x.2.2.fst,x.2.2.2.fst,IntKind.i64.wrap (x.2.2.2.snd+1))) fun y=>some (Sum.inr (y.1,y.2)))
  (some (Sum.inl (x.2.fst,x.fst)))
def fzi:Val×List (Dec)×List Arg×Int×Int→Option (((List (Dec))×Val)⊕((List (Dec)×Bool)×Val)):=iter dz0 big
def kzC:CutSpec tb:=⟨36,[(3,.ref 32),(5,.own 30),(13,.val 34),(14,.val 3),(15,.val 3)],[((.exit 0),[(5,.own 30)]),(.ret,[(2,.own 30),(4,.val 4)])],[16,17,18,7,19,20,21,22,23,24,25,9,26,27,28,29,30,31,32,33,34,35,36,37,39,40,38,41,42,43,10,11,12,44,45,46,2,4,47,48,49,50,5,51,52,15],fzi⟩
theorem pzH:azl ([kzD]:List (CutSpec tb)) (azk 36 Tryz.f145)=[(60,.loop (azk 60 Tryz.f145))]:=by kernel_rfl
theorem ozv:azo Tryz.prog tb Tryz.f145.ntmps (.loop (azk 36 Tryz.f145)) kzC:=azJ mixed (by kernel_rfl) gz2 rfl pzH (.cons rfl ozw rfl .nil) dz0 (fun back x=>by kernel_rfl) rfl
def gz1 (x:List Arg):Option (List (Dec)×Val×Bool) :=
 obnd (fzi ({ Kind:=0,N:={ M:=0,S:=0 },S:=[],B:=false,E:=0 },[],x,(↑x.length:Int),0)) fun y =>
  osum y (fun y=>some (y.1,{ Kind:=0,N:={ M:=0,S:=0 },S:=[],B:=false,E:=0 },true)) fun y=>some (y.1.fst,y.2,y.1.snd)
def ozu:FSpec tb:=⟨[(0,.val 34)],[(0,.own 30),(1,.val 32),(2,.val 4)],gz1⟩
theorem tzC:azl ([kzC]:List (CutSpec tb)) (azE Tryz.f145)=[(36,.loop (azk 36 Tryz.f145))]:=by kernel_rfl
theorem pzJ:aze Tryz.prog tb 145 ozu:=az2 mixed Tryz.func145 (by kernel_rfl) gz2 rfl tzC (.cons rfl ozv rfl .nil) (fun x=>by kernel_rfl)
abbrev ezn:List (Nat×FSpec tb):=[(34,fzn)]
theorem bz0:azz Tryz.prog tb ezn:=(.cons ezo .nil)
def azI (back:List Dec×Unit×Dec×Int→Option ((Unit)×Dec)) (x:List Dec×Unit×Dec×Int):Option ((Unit)×Dec) :=
 brn (decide (x.2.2.snd < (↑x.fst.length:Int)))
  (obnd (idx x.fst x.2.2.snd) fun y =>
   obnd (czj (y,x.2.2.fst)) fun y =>
    brn (decide (y < 0)) (obnd (idx x.fst x.2.2.snd) fun y=>back (x.fst,(),y,IntKind.i64.wrap (x.2.2.snd+1)))
     (back (x.fst,(),x.2.2.fst,IntKind.i64.wrap (x.2.2.snd+1))))
  (some ((),x.2.2.fst))
def bzc:List Dec×Unit×Dec×Int→Option ((Unit)×Dec):=iter azI big
def bz1:CutSpec tb:=⟨52,[(0,.val 226),(1,.fnp 34 0),(5,.ref 30),(6,.val 3)],[((.exit 0),[])],[14,15,16,17,20,21,22,23,24,25,26,27,28,29,30,31,18,19,6],bzc⟩
theorem dzy:azl ([]:List (CutSpec tb)) (azk 52 Tryz.f146)=[]:=by kernel_rfl
theorem dzp:azo Tryz.prog tb Tryz.f146.ntmps (.loop (azk 52 Tryz.f146)) bz1:=azJ mixed (by kernel_rfl) bz0 rfl dzy .nil azI (fun back x=>by kernel_rfl) rfl
def az3 (x:List Dec×Unit):Option (Dec) :=
 brn (decide ((↑x.fst.length:Int) < 1)) none (obnd (idx x.fst 0) fun y=>obnd (bzc (x.fst,(),y,1)) fun y=>some y.2)
def bz9:FSpec tb:=⟨[(0,.val 226),(1,.fnp 34 0)],[(0,.val 30)],az3⟩
theorem dz9:azl ([bz1]:List (CutSpec tb)) (azE Tryz.f146)=[(52,.loop (azk 52 Tryz.f146))]:=by kernel_rfl
theorem dzz:aze Tryz.prog tb 146 bz9:=az2 mixed Tryz.func146 (by kernel_rfl) bz0 rfl dz9 (.cons rfl dzp rfl .nil) (fun x=>by kernel_rfl)
abbrev ezm:List (Nat×FSpec tb):=[(34,fzn)]
theorem bzY:azz Tryz.prog tb ezm:=(.cons ezo .nil)
def azH (back:List Dec×Unit×Dec×Int→Option ((Unit)×Dec)) (x:List Dec×Unit×Dec×Int):Option ((Unit)×Dec) :=
 brn (decide (x.2.2.snd < (↑x.fst.length:Int)))
  (obnd (idx x.fst x.2.2.snd) fun y =>
   obnd (czj (y,x.2.2.fst)) fun y =>
    brn (decide (0 < y)) (obnd (idx x.fst x.2.2.snd) fun y=>back (x.fst,(),y,IntKind.i64.wrap (x.2.2.snd+1)))
     (back (x.fst,(),x.2.2.fst,IntKind.i64.wrap (x.2.2.snd+1))))
  (some ((),x.2.2.fst))
def bzb:List Dec×Unit×Dec×Int→Option ((Unit)×Dec):=iter azH big
def bzZ:CutSpec tb:=⟨52,[(0,.val 226),(1,.fnp 34 0),(5,.ref 30),(6,.val 3)],[((.exit 0),[])],[14,15,16,17,20,21,22,23,24,25,26,27,28,29,30,31,18,19,6],bzb⟩
theorem dzw:azl ([]:List (CutSpec tb)) (azk 52 Tryz.f147)=[]:=by kernel_rfl
theorem dzo:azo Tryz.prog tb Tryz.f147.ntmps (.loop (azk 52 Tryz.f147)) bzZ:=azJ mixed (by kernel_rfl) bzY rfl dzw .nil azH (fun back x=>by kernel_rfl) rfl
def azO (x:List Dec×Unit):Option (Dec) :=
 brn (decide ((↑x.fst.length:Int) < 1)) none (obnd (idx x.fst 0) fun y=>obnd (bzb (x.fst,(),y,1)) fun y=>some y.2)
def bz8:FSpec tb:=⟨[(0,.val 226),(1,.fnp 34 0)],[(0,.val 30)],azO⟩
theorem dz8:azl ([bzZ]:List (CutSpec tb)) (azE Tryz.f147)=[(52,.loop (azk 52 Tryz.f147))]:=by kernel_rfl
theorem dzx:aze Tryz.prog tb 147 bz8:=az2 mixed Tryz.func147 (by kernel_rfl) bzY rfl dz8 (.cons rfl dzo rfl .nil) (fun x=>by kernel_rfl)
abbrev fun_manyG:List (Nat×FSpec tb):=[(137,bzR),(32,dzg),(139,ozi),(64,fzt),(140,qzc),(141,ez8),(63,gz4),(142,mzW),(143,ezG),(144,izg),(83,kzF),(145,ozu),(146,bz9),(86,jzN),(147,bz8),(33,mzq),(87,qzI),(36,mzp)]
theorem ezA:azz Tryz.prog tb fun_manyG:=(.cons cz1 (.cons azB (.cons pzF (.cons ezp (.cons rzg (.cons gzH (.cons dz2 (.cons kz1 (.cons gze (.consK gzq (.cons hzT (.cons pzJ (.cons dzz (.cons czY (.cons dzx (.cons czs (.cons mz2 (.cons gzg .nil))))))))))))))))))
def ozr (back:List (UInt8)×Val×Unit×List Val×Int×Int→Option (((List (UInt8))×(Val×Unit))⊕((List (UInt8))×(Val×Unit)))) (x:List (UInt8)×Val×Unit×List Val×Int×Int):Option (((List (UInt8))×(Val×Unit))⊕((List (UInt8))×(Val×Unit))) :=
 brn (decide (x.2.2.2.2.snd < x.2.2.2.2.fst))
  (obnd (idx x.2.2.2.fst x.2.2.2.2.snd) fun y =>
   obnd (hzx y) fun y =>
    brn (!y.2.snd) (some (Sum.inr (x.fst,y.2.fst,())))
     (obnd (ezF (x.fst,(),y.fst)) fun y=>back (y.1.fst,x.2.fst,(),x.2.2.2.fst,x.2.2.2.2.fst,IntKind.i64.wrap (x.2.2.2.2.snd+1))))
  (some (Sum.inl (x.fst,x.2.fst,())))
def ozs:List (UInt8)×Val×Unit×List Val×Int×Int→Option (((List (UInt8))×(Val×Unit))⊕((List (UInt8))×(Val×Unit))):=iter ozr big
def ozq:CutSpec tb:=⟨172,[(8589934600,.own 5),(4,.ref 32),(8,.box 229638146),(71,.val 46),(72,.val 3),(73,.val 3)],[((.exit 4),[(8589934600,.own 5)]),(.ret,[(8589934600,.own 5)])],[74,75,76,12,78,79,77,80,81,82,14,13,15,83,84,85,86,87,88,73],ozs⟩
theorem tzz:azl ([]:List (CutSpec tb)) (azk 172 Tryz.f60)=[]:=by kernel_rfl
theorem szj:azo Tryz.prog tb Tryz.f60.ntmps (.loop (azk 172 Tryz.f60)) ozq:=azJ mixed (by kernel_rfl) ezA rfl tzz .nil ozr (fun back x=>by kernel_rfl) rfl
def ozp (back:List (UInt8)×Val×Unit×List Arg×Int×Int→Option (((List (UInt8))×(Val×Unit))⊕((List (UInt8))×(Val×Unit)))) (x:List (UInt8)×Val×Unit×List Arg×Int×Int):Option (((List (UInt8))×(Val×Unit))⊕((List (UInt8))×(Val×Unit))) :=
 brn (decide (x.2.2.2.2.snd < x.2.2.2.2.fst))
  (obnd (idx x.2.2.2.fst x.2.2.2.2.snd) fun y =>
   obnd (ozs (x.fst,x.2.fst,(),y.L,(↑y.L.length:Int),0)) fun y =>
    osum y (fun y=>back (y.1,y.2.fst,(),x.2.2.2.fst,x.2.2.2.2.fst,IntKind.i64.wrap (x.2.2.2.2.snd+1))) fun y=>some (Sum.inr (y.1,y.2.fst,())))
  (some (Sum.inl (x.fst,x.2.fst,())))
def jzL:List (UInt8)×Val×Unit×List Arg×Int×Int→Option (((List (UInt8))×(Val×Unit))⊕((List (UInt8))×(Val×Unit))):=iter ozp big
def ozo:CutSpec tb:=⟨148,[(8589934600,.own 5),(4,.ref 32),(8,.box 229638146),(64,.val 34),(65,.val 3),(66,.val 3)],[((.exit 2),[(8589934600,.own 5)]),(.ret,[(8589934600,.own 5)])],[67,68,69,10,70,71,72,73,74,75,76,12,78,79,77,80,81,82,14,13,15,83,84,85,86,87,88,89,66],jzL⟩
theorem tzy:azl ([ozq]:List (CutSpec tb)) (azk 148 Tryz.f60)=[(172,.loop (azk 172 Tryz.f60))]:=by kernel_rfl
theorem szi:azo Tryz.prog tb Tryz.f60.ntmps (.loop (azk 148 Tryz.f60)) ozo:=azJ mixed (by kernel_rfl) ezA rfl tzy (.cons rfl szj rfl .nil) ozp (fun back x=>by kernel_rfl) rfl
def fzu (x:Int×List Arg×Val×Int):Option (((Unit)×Val)⊕((Unit)×Val)) :=
 brn (decide (x.2.2.snd=3)) (obnd (gzX x.2.fst) fun y=>obnd (az8 y) fun y=>some (Sum.inr ((),y)))
  (brn (decide (x.2.2.snd=11))
   (brn (decide (x.2.2.snd=11))
    (obnd (lzc x.2.fst) fun y =>
     brn (!y.2.snd)
      (brn (!decide (y.2.fst.Kind=4)) (obnd (azm 15) fun y=>some (Sum.inr ((),y)))
       (brn (!y.2.snd) (some (Sum.inr ((),y.2.fst)))
        (obnd (bzv (y.fst,decide (x.fst=12))) fun y=>obnd (bz6 (decide (y=decide (x.fst=12)))) fun y=>some (Sum.inr ((),y)))))
      (brn (!y.2.snd) (some (Sum.inr ((),y.2.fst)))
       (obnd (bzv (y.fst,decide (x.fst=12))) fun y=>obnd (bz6 (decide (y=decide (x.fst=12)))) fun y=>some (Sum.inr ((),y)))))
    (brn (decide (x.2.2.snd=18))
     (obnd (jzL ([],x.2.2.fst,(),x.2.fst,(↑x.2.fst.length:Int),0)) fun y =>
      osum y (fun y=>obnd (fz4 (y.1,())) fun y=>obnd (czK y.1) fun y=>some (Sum.inr ((),y))) fun y=>some (Sum.inr ((),y.2.fst)))
     (some (Sum.inl ((),x.2.2.fst)))))
   (brn (decide (x.2.2.snd=12))
    (obnd (lzc x.2.fst) fun y =>
     brn (!y.2.snd)
      (brn (!decide (y.2.fst.Kind=4)) (obnd (azm 15) fun y=>some (Sum.inr ((),y)))
       (brn (!y.2.snd) (some (Sum.inr ((),y.2.fst)))
        (obnd (bzv (y.fst,decide (x.fst=12))) fun y=>obnd (bz6 (decide (y=decide (x.fst=12)))) fun y=>some (Sum.inr ((),y)))))
      (brn (!y.2.snd) (some (Sum.inr ((),y.2.fst)))
       (obnd (bzv (y.fst,decide (x.fst=12))) fun y=>obnd (bz6 (decide (y=decide (x.fst=12)))) fun y=>some (Sum.inr ((),y)))))
    (brn (decide (x.2.2.snd=18))
     (obnd (jzL ([],x.2.2.fst,(),x.2.fst,(↑x.2.fst.length:Int),0)) fun y =>
      osum y (fun y=>obnd (fz4 (y.1,())) fun y=>obnd (czK y.1) fun y=>some (Sum.inr ((),y))) fun y=>some (Sum.inr ((),y.2.fst)))
     (some (Sum.inl ((),x.2.2.fst))))))
def ozm:CutSpec tb:=⟨43,[(0,.val 3),(1,.val 34),(4,.ref 32),(26,.val 3)],[(.normal,[]),(.ret,[])],[28,27,29,30,31,33,32,34,36,37,35,38,39,40,6,5,7,42,43,44,45,46,47,48,41,49,51,52,50,53,54,55,56,57,58,59,60,61,63,62,8,64,65,66,67,68,69,10,70,71,72,73,74,75,76,12,78,79,77,80,81,82,14,13,15,83,84,85,86,87,88,89,90,91],fzu⟩
theorem tzw:azl ([ozo]:List (CutSpec tb)) (azZ 43 Tryz.f60)=[(148,.loop (azk 148 Tryz.f60))]:=by kernel_rfl
theorem szg:azo Tryz.prog tb Tryz.f60.ntmps (azZ 43 Tryz.f60) ozm:=ez2 mixed (by kernel_rfl) ezA rfl tzw (.cons rfl szi rfl .nil) (fun x=>by kernel_rfl)
def czJ (x:Int×Val×List Dec):Option (((Unit)×Val)⊕((Unit)×Val)) :=
 brn (decide (x.fst=1))
  (brn (decide (0 < (↑x.2.snd.length:Int))) (obnd (az3 (x.2.snd,())) fun y=>obnd (azU (y,0)) fun y=>some (Sum.inr ((),y)))
   (brn (decide (x.fst=2))
    (brn (decide (0 < (↑x.2.snd.length:Int))) (obnd (azO (x.2.snd,())) fun y=>obnd (azU (y,0)) fun y=>some (Sum.inr ((),y)))
     (brn (decide (x.fst=1)) (obnd (az8 0) fun y=>some (Sum.inr ((),y)))
      (brn (decide (x.fst=2)) (obnd (az8 0) fun y=>some (Sum.inr ((),y))) (some (Sum.inl ((),x.2.fst))))))
    (brn (decide (x.fst=1)) (obnd (az8 0) fun y=>some (Sum.inr ((),y)))
     (brn (decide (x.fst=2)) (obnd (az8 0) fun y=>some (Sum.inr ((),y))) (some (Sum.inl ((),x.2.fst)))))))
  (brn (decide (x.fst=2))
   (brn (decide (0 < (↑x.2.snd.length:Int))) (obnd (azO (x.2.snd,())) fun y=>obnd (azU (y,0)) fun y=>some (Sum.inr ((),y)))
    (brn (decide (x.fst=1)) (obnd (az8 0) fun y=>some (Sum.inr ((),y)))
     (brn (decide (x.fst=2)) (obnd (az8 0) fun y=>some (Sum.inr ((),y))) (some (Sum.inl ((),x.2.fst))))))
   (brn (decide (x.fst=1)) (obnd (az8 0) fun y=>some (Sum.inr ((),y)))
    (brn (decide (x.fst=2)) (obnd (az8 0) fun y=>some (Sum.inr ((),y))) (some (Sum.inl ((),x.2.fst))))))
def ozn:CutSpec tb:=⟨267,[(0,.val 3),(4,.ref 32),(16,.val 226)],[(.normal,[]),(.ret,[])],[102,103,104,105,106,107,108,101,109,110,111,113,114,115,116,117,118,119,112,120,121,122,124,125,126,127,128,129,123,130],czJ⟩
theorem tzx:azl ([]:List (CutSpec tb)) (azZ 267 Tryz.f60)=[]:=by kernel_rfl
theorem szh:azo Tryz.prog tb Tryz.f60.ntmps (azZ 267 Tryz.f60) ozn:=ez2 mixed (by kernel_rfl) ezA rfl tzx .nil (fun x=>by kernel_rfl)
def fzv (back:Val×Dec×List Dec×Int×Int→Option (((Unit)×(Val×Dec))⊕((Unit)×(Val×Dec)))) (x:Val×Dec×List Dec×Int×Int):Option (((Unit)×(Val×Dec))⊕((Unit)×(Val×Dec))) :=
 brn (decide (x.2.2.2.snd < x.2.2.2.fst))
  (obnd (idx x.2.2.fst x.2.2.2.snd) fun y =>
   obnd (hzN (x.2.fst,y)) fun y =>
    brn (!decide (y.snd=0)) (obnd (azU y) fun y_1=>some (Sum.inr ((),y_1,y.fst))) (back (x.fst,y.fst,x.2.2.fst,x.2.2.2.fst,IntKind.i64.wrap (x.2.2.2.snd+1))))
  (some (Sum.inl ((),x.fst,x.2.fst)))
def jzM:Val×Dec×List Dec×Int×Int→Option (((Unit)×(Val×Dec))⊕((Unit)×(Val×Dec))):=iter fzv big
def ozt:CutSpec tb:=⟨332,[(4,.ref 32),(19,.ref 30),(132,.val 226),(133,.val 3),(134,.val 3)],[((.exit 7),[]),(.ret,[])],[135,136,137,22,139,140,141,138,142,143,20,144,145,146,147,148,149,134],jzM⟩
theorem tzA:azl ([]:List (CutSpec tb)) (azk 332 Tryz.f60)=[]:=by kernel_rfl
theorem szk:azo Tryz.prog tb Tryz.f60.ntmps (.loop (azk 332 Tryz.f60)) ozt:=azJ mixed (by kernel_rfl) ezA rfl tzA .nil fzv (fun back x=>by kernel_rfl) rfl
def bzz (x:Int×List Arg):Option (Val) :=
 obnd (azT (x.snd,())) fun y =>
  brn y (obnd (azm 15) fun y=>some y)
   (obnd (fzu (x.fst,x.snd,{ Kind:=0,N:={ M:=0,S:=0 },S:=[],B:=false,E:=0 },x.fst)) fun y =>
    osum y
     (fun y =>
      obnd (gz1 x.snd) fun y_1 =>
       brn (!y_1.2.snd) (some y_1.2.fst)
        (obnd (czJ (x.fst,y.2,y_1.fst)) fun y =>
         osum y
          (fun y =>
           obnd (bzA 0) fun y_2 =>
            obnd (jzM (y.2,y_2,y_1.fst,(↑(List.length y_1.fst):Int),0)) fun y =>
             osum y
              (fun y =>
               brn (decide (x.fst=0)) (obnd (azU (y.2.snd,0)) fun y=>some y)
                (obnd (bzA (↑(List.length y_1.fst):Int)) fun y_3=>obnd (czW (y.2.snd,y_3)) fun y=>obnd (azU y) fun y=>some y))
              fun y=>some y.2.fst)
          fun y=>some y.2))
     fun y=>some y.2)
def tz7:FSpec tb:=⟨[(0,.val 3),(1,.val 34)],[(0,.val 32)],bzz⟩
theorem wzn:azl ([ozm,ozn,ozt]:List (CutSpec tb)) (azE Tryz.f60)=[(43,azZ 43 Tryz.f60),(267,azZ 267 Tryz.f60),(332,.loop (azk 332 Tryz.f60))]:=by kernel_rfl
theorem tzB:aze Tryz.prog tb 60 tz7:=az2 mixed Tryz.func60 (by kernel_rfl) ezA rfl wzn (.cons rfl szg rfl (.cons rfl szh rfl (.cons rfl szk rfl .nil))) (fun x=>by kernel_rfl)
def nzq (x:Arg):Option (Bool) :=
 brn x.Area (some true) (some (bif decide ((↑x.L.length:Int)=1) then false else true))
def nzr:FSpec tb:=⟨[(0,.val 48)],[(0,.val 4)],nzq⟩
theorem ozD:aze Tryz.prog tb 150 nzr:=azt mixed Tryz.func150 (by kernel_rfl) .nil rfl (fun x=>by kernel_rfl)
abbrev dzJ:List (Nat×FSpec tb):=[(150,nzr)]
theorem bzG:azz Tryz.prog tb dzJ:=(.cons ozD .nil)
def bzI (back:List Arg×Unit×Int×Int→Option ((Unit)⊕(Int))) (x:List Arg×Unit×Int×Int):Option ((Unit)⊕(Int)) :=
 brn (decide (x.2.2.snd < x.2.2.fst))
  (obnd (idx x.fst x.2.2.snd) fun y=>obnd (nzq y) fun y=>brn y (some (Sum.inr x.2.2.2)) (back (x.fst,(),x.2.2.fst,IntKind.i64.wrap (x.2.2.snd+1))))
  (some (Sum.inl PUnit.unit))
def bzJ:List Arg×Unit×Int×Int→Option ((Unit)⊕(Int)):=iter bzI big
def bzH:CutSpec tb:=⟨28,[(0,.val 34),(1,.fnp 150 0),(7,.val 3),(8,.val 3)],[((.exit 0),[]),(.ret,[(4,.val 3)])],[9,10,5,11,12,13,14,15,16,17,4,18,8],bzJ⟩
theorem cz8:azl ([]:List (CutSpec tb)) (azk 28 Tryz.f216)=[]:=by kernel_rfl
theorem cz2:azo Tryz.prog tb Tryz.f216.ntmps (.loop (azk 28 Tryz.f216)) bzH:=azJ mixed (by kernel_rfl) bzG rfl cz8 .nil bzI (fun back x=>by kernel_rfl) rfl
def bzX (x:List Arg×Unit):Option (Int) :=
 obnd (bzJ (x.fst,(),(↑x.fst.length:Int),0)) fun y=>osum y (fun y=>some (-1)) fun y=>some y
def dzK:FSpec tb:=⟨[(0,.val 34),(1,.fnp 150 0)],[(0,.val 3)],bzX⟩
theorem dzv:azl ([bzH]:List (CutSpec tb)) (azE Tryz.f216)=[(28,.loop (azk 28 Tryz.f216))]:=by kernel_rfl
theorem cz9:aze Tryz.prog tb 216 dzK:=az2 mixed Tryz.func216 (by kernel_rfl) bzG rfl dzv (.cons rfl cz2 rfl .nil) (fun x=>by kernel_rfl)
def bzF (x:List Arg×Unit):Option (Bool) :=
 obnd (bzX (x.fst,())) fun y=>some (decide (0≤y))
def dzl:FSpec tb:=⟨[(0,.val 34),(1,.fnp 150 0)],[(0,.val 4)],bzF⟩
theorem czP:aze Tryz.prog tb 137 dzl:=azt mixed Tryz.func137 (by kernel_rfl) (.cons cz9 .nil) rfl (fun x=>by kernel_rfl)
def fz9 (x:List Arg):Option (Bool) :=
 obnd (bzF (x,())) fun y=>some (bif y then false else true)
def qzb:FSpec tb:=⟨[(0,.val 34)],[(0,.val 4)],fz9⟩
theorem gzw:aze Tryz.prog tb 62 qzb:=azt mixed Tryz.func62 (by kernel_rfl) (.cons czP .nil) rfl (fun x=>by kernel_rfl)
def ozl (x:List Arg):Option (Val) :=
 obnd (idx x 0) fun y =>
  brn (!y.Area) (obnd (azm 15) fun y=>some y)
   (obnd (sub x 1 (↑x.length:Int)) fun z =>
    obnd (fz9 z) fun y =>
     brn (!y) (obnd (azm 15) fun y=>some y)
      (obnd (idx x 1) fun y =>
       obnd (idx y.L 0) fun y =>
        obnd (azX y) fun y =>
         brn (!y.2.snd) (some y.2.fst)
          (brn (!decide (y.fst.S=0)) (obnd (azm 15) fun y=>some y)
           (brn (decide (y.fst.M < 1)) (obnd (azm 23) fun y=>some y)
            (obnd (idx x 0) fun y_1 =>
             brn (decide ((↑y_1.L.length:Int) < y.fst.M)) (obnd (azm 23) fun y=>some y)
              (obnd (idx x 0) fun y_2=>obnd (idx y_2.L (IntKind.i64.wrap (y.fst.M - 1))) fun y=>some y))))))
def vzl:FSpec tb:=⟨[(0,.val 34)],[(0,.val 32)],ozl⟩
theorem pzG:aze Tryz.prog tb 148 vzl:=azt mixed Tryz.func148 (by kernel_rfl) (.cons gzw (.cons azB (.cons bzO .nil))) rfl (fun x=>by kernel_rfl)
def gza (x:Arg):Option (Val) :=
 brn x.Area (obnd (azm 15) fun y=>some y) (brn (!decide ((↑x.L.length:Int)=1)) (obnd (azm 15) fun y=>some y) (obnd (idx x.L 0) fun y=>some y))
def wzq:FSpec tb:=⟨[(0,.val 48)],[(0,.val 32)],gza⟩
theorem rzd:aze Tryz.prog tb 149 wzq:=azt mixed Tryz.func149 (by kernel_rfl) (.cons azB .nil) rfl (fun x=>by kernel_rfl)
def fz8 (x:Int×List Arg):Option (Val) :=
 brn (decide (x.fst=24)) (obnd (ozl x.snd) fun y=>some y)
  (obnd (sub x.snd 0 1) fun z =>
   obnd (fz9 z) fun y =>
    brn (!y) (obnd (azm 15) fun y=>some y)
     (obnd (idx x.snd 0) fun y =>
      obnd (idx y.L 0) fun y =>
       brn (decide (x.fst=23)) (brn (decide (y.Kind=4)) (obnd (idx x.snd 1) fun y=>obnd (gza y) fun y=>some y) (some y))
        (brn (decide (x.fst=10))
         (obnd (ez1 y) fun y =>
          brn (!y.2.snd) (some y.2.fst)
           (brn y.fst (obnd (idx x.snd 1) fun y=>obnd (gza y) fun y=>some y)
            (brn (decide ((↑x.snd.length:Int)=2)) (obnd (bz6 false) fun y=>some y) (obnd (idx x.snd 2) fun y=>obnd (gza y) fun y=>some y))))
         (obnd (azX y) fun y =>
          brn (!y.2.snd) (some y.2.fst)
           (brn (!decide (y.fst.S=0)) (obnd (azm 15) fun y=>some y)
            (brn (decide (y.fst.M < 1)) (obnd (azm 15) fun y=>some y)
             (brn (decide ((↑x.snd.length:Int)≤y.fst.M)) (obnd (azm 15) fun y=>some y)
              (obnd (idx x.snd y.fst.M) fun y=>obnd (gza y) fun y=>some y))))))))
def pz9:FSpec tb:=⟨[(0,.val 3),(1,.val 34)],[(0,.val 32)],fz8⟩
theorem qz8:aze Tryz.prog tb 61 pz9:=azt mixed Tryz.func61 (by kernel_rfl) (.cons pzG (.cons gzw (.cons azB (.cons rzd (.cons hzw (.cons dz2 (.cons bzO .nil))))))) rfl (fun x=>by kernel_rfl)
def lzL (back:Int×Dec→Option (((Unit)×Dec)⊕((Int×Bool)×Dec))) (x:Int×Dec):Option (((Unit)×Dec)⊕((Int×Bool)×Dec)) :=
 brn (decide (x.snd.S < x.fst))
  (brn (!decide (IntKind.i64.wrap ((IntKind.i64.wrap (x.snd.M*10)).tdiv 10)=x.snd.M)) (some (Sum.inr ((0,false),x.snd)))
   (back (x.fst,{ M:=IntKind.i64.wrap (x.snd.M*10),S:=IntKind.i64.wrap (x.snd.S+1) })))
  (some (Sum.inl ((),x.snd)))
def lzM:Int×Dec→Option (((Unit)×Dec)⊕((Int×Bool)×Dec)):=iter lzL big
def lzK:CutSpec tb:=⟨20,[(1,.val 3),(2,.ref 30)],[((.exit 0),[]),(.ret,[(4,.val 2),(5,.val 4)])],[6,7,8,9,14,15,16,17,18,19,20,4,5,21,22,23,24,10,11,12,13],lzM⟩
theorem rzb:azl ([]:List (CutSpec tb)) (azk 20 Tryz.f219)=[]:=by kernel_rfl
theorem pzK:azo Tryz.prog tb Tryz.f219.ntmps (.loop (azk 20 Tryz.f219)) lzK:=azJ mixed (by kernel_rfl) .nil rfl rzb .nil lzL (fun back x=>by kernel_rfl) rfl
def lzb (x:Dec×Int):Option (Int×Bool) :=
 obnd (lzM (x.snd,x.fst)) fun y=>osum y (fun y=>some (y.2.M,true)) fun y=>some y.1
def wzp:FSpec tb:=⟨[(0,.val 30),(1,.val 3)],[(0,.val 2),(1,.val 4)],lzb⟩
theorem uzI:azl ([lzK]:List (CutSpec tb)) (azE Tryz.f219)=[(20,.loop (azk 20 Tryz.f219))]:=by kernel_rfl
theorem rzc:aze Tryz.prog tb 219 wzp:=az2 mixed Tryz.func219 (by kernel_rfl) .nil rfl uzI (.cons rfl pzK rfl .nil) (fun x=>by kernel_rfl)
def tz9 (x:Dec×Dec):Option (Val) :=
 brn (decide (x.snd.M=0)) (obnd (azm 7) fun y=>some y)
  (obnd (lzb (x.fst,bif decide (x.fst.S < x.snd.S) then x.snd.S else x.fst.S)) fun y =>
   obnd (lzb (x.snd,bif decide (x.fst.S < x.snd.S) then x.snd.S else x.fst.S)) fun y_1 =>
    brn (!y.snd) (obnd (azm 36) fun y=>some y)
     (brn (!y_1.snd) (obnd (azm 36) fun y=>some y)
      (brn (decide (y_1.fst=0)) none
       (brn (!decide (Int.tmod y.fst y_1.fst=0))
        (brn (!decide (decide (Int.tmod y.fst y_1.fst < 0)=decide (y_1.fst < 0)))
         (obnd (kzw { M:=IntKind.i64.wrap (Int.tmod y.fst y_1.fst+y_1.fst),S:=bif decide (x.fst.S < x.snd.S) then x.snd.S else x.fst.S }) fun y =>
          obnd (azU (y,0)) fun y=>some y)
         (obnd (kzw { M:=Int.tmod y.fst y_1.fst,S:=bif decide (x.fst.S < x.snd.S) then x.snd.S else x.fst.S }) fun y=>obnd (azU (y,0)) fun y=>some y))
        (obnd (kzw { M:=Int.tmod y.fst y_1.fst,S:=bif decide (x.fst.S < x.snd.S) then x.snd.S else x.fst.S }) fun y=>obnd (azU (y,0)) fun y=>some y)))))
def uza:FSpec tb:=⟨[(0,.val 30),(1,.val 30)],[(0,.val 32)],tz9⟩
theorem tzF:aze Tryz.prog tb 152 uza:=azt mixed Tryz.func152 (by kernel_rfl) (.cons azB (.cons rzc (.cons tzh (.cons czY .nil)))) rfl (fun x=>by kernel_rfl)
abbrev uzH:List (Nat×FSpec tb):=[(85,gzf),(33,mzq),(34,fzn),(35,qzN),(86,jzN),(64,fzt),(151,rzK),(152,uza),(32,dzg),(153,rzR)]
theorem jzO:azz Tryz.prog tb uzH:=(.cons bzO (.cons czs (.cons ezo (.cons izK (.cons czY (.cons ezp (.cons rzL (.cons tzF (.cons azB (.cons rzS .nil))))))))))
def jzQ (back:Val×List (Dec)×List Val×Int×Int→Option (((List (Dec))×Val)⊕((Unit)×Val))) (x:Val×List (Dec)×List Val×Int×Int):Option (((List (Dec))×Val)⊕((Unit)×Val)) :=
 brn (decide (x.2.2.2.snd < x.2.2.2.fst))
  (obnd (idx x.2.2.fst x.2.2.2.snd) fun y =>
   obnd (azX y) fun y =>
    brn (!y.2.snd) (some (Sum.inr ((),y.2.fst))) (obnd (app 16 x.2.fst [y.fst]) fun zs=>back (x.fst,zs,x.2.2.fst,x.2.2.2.fst,IntKind.i64.wrap (x.2.2.2.snd+1))))
  (some (Sum.inl (x.2.fst,x.fst)))
def jzR:Val×List (Dec)×List Val×Int×Int→Option (((List (Dec))×Val)⊕((Unit)×Val)):=iter jzQ big
def jzP:CutSpec tb:=⟨36,[(4,.ref 32),(5,.own 30),(12,.val 46),(13,.val 3),(14,.val 3)],[((.exit 0),[(5,.own 30)]),(.ret,[])],[15,16,17,7,19,20,18,21,22,23,8,9,10,24,25,26,27,28,29,30,5,31,14],jzR⟩
theorem ozB:azl ([]:List (CutSpec tb)) (azk 36 Tryz.f66)=[]:=by kernel_rfl
theorem nzP:azo Tryz.prog tb Tryz.f66.ntmps (.loop (azk 36 Tryz.f66)) jzP:=azJ mixed (by kernel_rfl) jzO rfl ozB .nil jzQ (fun back x=>by kernel_rfl) rfl
def dzN (x:Int×List Val):Option (Val) :=
 obnd (jzR ({ Kind:=0,N:={ M:=0,S:=0 },S:=[],B:=false,E:=0 },[],x.snd,(↑x.snd.length:Int),0)) fun y =>
  osum y
   (fun y =>
    obnd (idx y.1 0) fun y_1 =>
     obnd (bzA 0) fun y_2 =>
      obnd (czj (y_1,y_2)) fun y_3 =>
       brn (decide (x.fst=5))
        (brn (decide (y_3 < 0)) (obnd (bzA 0) fun y_4=>obnd (idx y.1 0) fun y=>obnd (jzC (y_4,y)) fun y=>obnd (azU y) fun y=>some y)
         (obnd (idx y.1 0) fun y=>obnd (azU (y,0)) fun y=>some y))
        (brn (decide (x.fst=6)) (obnd (az8 y_3) fun y=>some y)
         (brn (decide (x.fst=7)) (obnd (idx y.1 0) fun y=>obnd (rzJ y) fun y=>obnd (azU y) fun y=>some y)
          (brn (decide (x.fst=8)) (obnd (idx y.1 0) fun y_4=>obnd (idx y.1 1) fun y=>obnd (tz9 (y_4,y)) fun y=>some y)
           (obnd (idx y.1 1) fun y_4 =>
            brn (!decide (y_4.S=0)) (obnd (azm 36) fun y=>some y)
             (obnd (idx y.1 0) fun y_5=>obnd (idx y.1 1) fun y=>obnd (rzQ (y_5,y.M)) fun y=>obnd (azU y) fun y=>some y))))))
   fun y=>some y.2
def nzp:FSpec tb:=⟨[(0,.val 3),(1,.val 46)],[(0,.val 32)],dzN⟩
theorem szq:azl ([jzP]:List (CutSpec tb)) (azE Tryz.f66)=[(36,.loop (azk 36 Tryz.f66))]:=by kernel_rfl
theorem ozC:aze Tryz.prog tb 66 nzp:=az2 mixed Tryz.func66 (by kernel_rfl) jzO rfl szq (.cons rfl nzP rfl .nil) (fun x=>by kernel_rfl)
abbrev wz6:List (Nat×FSpec tb):=[(220,cz3),(144,izg)]
theorem nzh:azz Tryz.prog tb wz6:=(.cons dzD (.consK gzq .nil))
def nzj (back:List (UInt8)×Bool×Unit×((List UInt8×Nat))→Option ((List (UInt8))×(Unit×((List UInt8×Nat))))) (x:List (UInt8)×Bool×Unit×((List UInt8×Nat))):Option ((List (UInt8))×(Unit×((List UInt8×Nat)))) :=
 brn (decide (x.2.2.snd.snd < x.2.2.snd.fst.length))
  (brn x.2.fst
   (brn (decide (97≤(↑(rune x.2.2.snd.fst x.2.2.snd.snd).fst:Int)))
    (brn (decide ((↑(rune x.2.2.snd.fst x.2.2.snd.snd).fst:Int)≤122))
     (obnd (azu (x.fst,(),IntKind.i32.wrap ((↑(rune x.2.2.snd.fst x.2.2.snd.snd).fst:Int)+-32))) fun y =>
      back (y.1.fst,x.2.fst,(),x.2.2.snd.fst,x.2.2.snd.snd+(rune x.2.2.snd.fst x.2.2.snd.snd).snd))
     (brn (!x.2.fst)
      (brn (decide (65≤(↑(rune x.2.2.snd.fst x.2.2.snd.snd).fst:Int)))
       (brn (decide ((↑(rune x.2.2.snd.fst x.2.2.snd.snd).fst:Int)≤90))
        (obnd (azu (x.fst,(),IntKind.i32.wrap ((↑(rune x.2.2.snd.fst x.2.2.snd.snd).fst:Int)+32))) fun y =>
         back (y.1.fst,x.2.fst,(),x.2.2.snd.fst,x.2.2.snd.snd+(rune x.2.2.snd.fst x.2.2.snd.snd).snd))
        (obnd (azu (x.fst,(),(↑(rune x.2.2.snd.fst x.2.2.snd.snd).fst:Int))) fun y =>
         back (y.1.fst,x.2.fst,(),x.2.2.snd.fst,x.2.2.snd.snd+(rune x.2.2.snd.fst x.2.2.snd.snd).snd)))
       (obnd (azu (x.fst,(),(↑(rune x.2.2.snd.fst x.2.2.snd.snd).fst:Int))) fun y =>
        back (y.1.fst,x.2.fst,(),x.2.2.snd.fst,x.2.2.snd.snd+(rune x.2.2.snd.fst x.2.2.snd.snd).snd)))
      (obnd (azu (x.fst,(),(↑(rune x.2.2.snd.fst x.2.2.snd.snd).fst:Int))) fun y =>
       back (y.1.fst,x.2.fst,(),x.2.2.snd.fst,x.2.2.snd.snd+(rune x.2.2.snd.fst x.2.2.snd.snd).snd))))
    (brn (!x.2.fst)
     (brn (decide (65≤(↑(rune x.2.2.snd.fst x.2.2.snd.snd).fst:Int)))
      (brn (decide ((↑(rune x.2.2.snd.fst x.2.2.snd.snd).fst:Int)≤90))
       (obnd (azu (x.fst,(),IntKind.i32.wrap ((↑(rune x.2.2.snd.fst x.2.2.snd.snd).fst:Int)+32))) fun y =>
        back (y.1.fst,x.2.fst,(),x.2.2.snd.fst,x.2.2.snd.snd+(rune x.2.2.snd.fst x.2.2.snd.snd).snd))
       (obnd (azu (x.fst,(),(↑(rune x.2.2.snd.fst x.2.2.snd.snd).fst:Int))) fun y =>
        back (y.1.fst,x.2.fst,(),x.2.2.snd.fst,x.2.2.snd.snd+(rune x.2.2.snd.fst x.2.2.snd.snd).snd)))
      (obnd (azu (x.fst,(),(↑(rune x.2.2.snd.fst x.2.2.snd.snd).fst:Int))) fun y =>
       back (y.1.fst,x.2.fst,(),x.2.2.snd.fst,x.2.2.snd.snd+(rune x.2.2.snd.fst x.2.2.snd.snd).snd)))
     (obnd (azu (x.fst,(),(↑(rune x.2.2.snd.fst x.2.2.snd.snd).fst:Int))) fun y =>
      back (y.1.fst,x.2.fst,(),x.2.2.snd.fst,x.2.2.snd.snd+(rune x.2.2.snd.fst x.2.2.snd.snd).snd))))
   (brn (!x.2.fst)
    (brn (decide (65≤(↑(rune x.2.2.snd.fst x.2.2.snd.snd).fst:Int)))
     (brn (decide ((↑(rune x.2.2.snd.fst x.2.2.snd.snd).fst:Int)≤90))
      (obnd (azu (x.fst,(),IntKind.i32.wrap ((↑(rune x.2.2.snd.fst x.2.2.snd.snd).fst:Int)+32))) fun y =>
       back (y.1.fst,x.2.fst,(),x.2.2.snd.fst,x.2.2.snd.snd+(rune x.2.2.snd.fst x.2.2.snd.snd).snd))
      (obnd (azu (x.fst,(),(↑(rune x.2.2.snd.fst x.2.2.snd.snd).fst:Int))) fun y =>
       back (y.1.fst,x.2.fst,(),x.2.2.snd.fst,x.2.2.snd.snd+(rune x.2.2.snd.fst x.2.2.snd.snd).snd)))
     (obnd (azu (x.fst,(),(↑(rune x.2.2.snd.fst x.2.2.snd.snd).fst:Int))) fun y =>
      back (y.1.fst,x.2.fst,(),x.2.2.snd.fst,x.2.2.snd.snd+(rune x.2.2.snd.fst x.2.2.snd.snd).snd)))
    (obnd (azu (x.fst,(),(↑(rune x.2.2.snd.fst x.2.2.snd.snd).fst:Int))) fun y =>
     back (y.1.fst,x.2.fst,(),x.2.2.snd.fst,x.2.2.snd.snd+(rune x.2.2.snd.fst x.2.2.snd.snd).snd))))
  (some (x.fst,(),x.2.2.snd))
def nzk:List (UInt8)×Bool×Unit×((List UInt8×Nat))→Option ((List (UInt8))×(Unit×((List UInt8×Nat)))):=iter nzj big
def nzi:CutSpec tb:=⟨36,[(8589934597,.own 5),(1,.val 4),(5,.box 229638146),(9,.iter)],[((.exit 0),[(8589934597,.own 5)])],[10,11,12,7,14,15,16,17,18,19,20,21,22,13,23,24,26,27,28,29,30,31,32,33,34,35,25,36,37,38,39],nzk⟩
theorem sze:azl ([]:List (CutSpec tb)) (azk 36 Tryz.f154)=[]:=by kernel_rfl
theorem qz7:azo Tryz.prog tb Tryz.f154.ntmps (.loop (azk 36 Tryz.f154)) nzi:=azJ mixed (by kernel_rfl) nzh rfl sze .nil nzj (fun back x=>by kernel_rfl) rfl
def mzz (x:List UInt8×Bool):Option (List UInt8) :=
 obnd (nzk ([],x.snd,(),x.fst,0)) fun y=>obnd (fz4 (y.1,())) fun y=>some y.1
def szd:FSpec tb:=⟨[(0,.val 9),(1,.val 4)],[(0,.val 9)],mzz⟩
theorem vzj:azl ([nzi]:List (CutSpec tb)) (azE Tryz.f154)=[(36,.loop (azk 36 Tryz.f154))]:=by kernel_rfl
theorem szf:aze Tryz.prog tb 154 szd:=az2 mixed Tryz.func154 (by kernel_rfl) nzh rfl vzj (.cons rfl qz7 rfl .nil) (fun x=>by kernel_rfl)
def izn (x:Val×Int):Option (Int×Val×Bool) :=
 obnd (azX x.fst) fun y =>
  brn (!y.2.snd) (some (0,y.2.fst,false))
   (brn (!decide (y.fst.S=0)) (obnd (azm 15) fun y=>some (0,y,false))
    (brn (decide (y.fst.M < x.snd)) (obnd (azm 15) fun y=>some (0,y,false))
     (some (y.fst.M,{ Kind:=0,N:={ M:=0,S:=0 },S:=[],B:=false,E:=0 },true))))
def pz8:FSpec tb:=⟨[(0,.val 32),(1,.val 2)],[(0,.val 2),(1,.val 32),(2,.val 4)],izn⟩
theorem qz6:aze Tryz.prog tb 155 pz8:=azt mixed Tryz.func155 (by kernel_rfl) (.cons bzO (.cons azB .nil)) rfl (fun x=>by kernel_rfl)
abbrev fun_partG:List (Nat×FSpec tb):=[(220,cz3),(144,izg)]
theorem ozx:azz Tryz.prog tb fun_partG:=(.cons dzD (.consK gzq .nil))
def ozz (back:List (UInt8)×Int×Int×Unit×Int×((List UInt8×Nat))→Option ((List (UInt8))×(Unit×((List UInt8×Nat))))) (x:List (UInt8)×Int×Int×Unit×Int×((List UInt8×Nat))):Option ((List (UInt8))×(Unit×((List UInt8×Nat)))) :=
 brn (decide (x.2.2.2.2.snd.snd < x.2.2.2.2.snd.fst.length))
  (brn (decide (x.2.fst≤x.2.2.2.2.fst))
   (brn (decide (IntKind.i64.wrap (x.2.2.2.2.fst - x.2.fst) < x.2.2.fst))
    (obnd (azu (x.fst,(),(↑(rune x.2.2.2.2.snd.fst x.2.2.2.2.snd.snd).fst:Int))) fun y =>
     back (y.1.fst,x.2.fst,x.2.2.fst,(),IntKind.i64.wrap (x.2.2.2.2.fst+1),x.2.2.2.2.snd.fst,x.2.2.2.2.snd.snd+(rune x.2.2.2.2.snd.fst x.2.2.2.2.snd.snd).snd))
    (back (x.fst,x.2.fst,x.2.2.fst,(),IntKind.i64.wrap (x.2.2.2.2.fst+1),x.2.2.2.2.snd.fst,x.2.2.2.2.snd.snd+(rune x.2.2.2.2.snd.fst x.2.2.2.2.snd.snd).snd)))
   (back (x.fst,x.2.fst,x.2.2.fst,(),IntKind.i64.wrap (x.2.2.2.2.fst+1),x.2.2.2.2.snd.fst,x.2.2.2.2.snd.snd+(rune x.2.2.2.2.snd.fst x.2.2.2.2.snd.snd).snd)))
  (some (x.fst,(),x.2.2.2.2.snd))
def ozA:List (UInt8)×Int×Int×Unit×Int×((List UInt8×Nat))→Option ((List (UInt8))×(Unit×((List UInt8×Nat)))):=iter ozz big
def ozy:CutSpec tb:=⟨44,[(8589934599,.own 5),(1,.val 2),(2,.val 2),(7,.box 229638146),(8,.val 2),(12,.iter)],[((.exit 0),[(8589934599,.own 5)])],[13,14,15,10,16,17,18,19,20,21,22,23,24,25,26,27,28,29,8],ozA⟩
theorem tzD:azl ([]:List (CutSpec tb)) (azk 44 Tryz.f156)=[]:=by kernel_rfl
theorem szl:azo Tryz.prog tb Tryz.f156.ntmps (.loop (azk 44 Tryz.f156)) ozy:=azJ mixed (by kernel_rfl) ozx rfl tzD .nil ozz (fun back x=>by kernel_rfl) rfl
def kzE (x:List UInt8×Int×Int):Option (List UInt8) :=
 obnd (ozA ([],x.2.fst,x.2.snd,(),0,x.fst,0)) fun y=>obnd (fz4 (y.1,())) fun y=>some y.1
def tz8:FSpec tb:=⟨[(0,.val 9),(1,.val 2),(2,.val 2)],[(0,.val 9)],kzE⟩
theorem wzo:azl ([ozy]:List (CutSpec tb)) (azE Tryz.f156)=[(44,.loop (azk 44 Tryz.f156))]:=by kernel_rfl
theorem tzE:aze Tryz.prog tb 156 tz8:=az2 mixed Tryz.func156 (by kernel_rfl) ozx rfl wzo (.cons rfl szl rfl .nil) (fun x=>by kernel_rfl)
abbrev wzs:List (Nat×FSpec tb):=[(142,mzW),(101,szU),(64,fzt),(154,szd),(83,kzF),(63,gz4),(155,pz8),(156,tz8),(32,dzg),(157,kzW),(1099511627844,mutS)]
theorem hzV:azz Tryz.prog tb wzs:=(.cons kz1 (.cons kzV (.cons ezp (.cons szf (.cons hzT (.cons dz2 (.cons qz6 (.cons tzE (.cons azB (.cons hzp (.consK mut_sound .nil)))))))))))
def lzU (x:Int×List Val×Val×List UInt8×Int):Option (((Unit)×Val)⊕((Unit)×Val)) :=
 brn (decide (x.2.2.2.snd=14)) (obnd (jzp x.2.2.2.fst) fun y=>obnd (az8 y.fst) fun y=>some (Sum.inr ((),y)))
  (brn (decide (x.2.2.2.snd=19))
   (brn (decide (x.2.2.2.snd=19)) (obnd (mzz (x.2.2.2.fst,decide (x.fst=19))) fun y=>obnd (czK y) fun y=>some (Sum.inr ((),y)))
    (brn (decide (x.2.2.2.snd=26))
     (obnd (idx x.2.fst 1) fun y =>
      obnd (hzx y) fun y=>brn (!y.2.snd) (some (Sum.inr ((),y.2.fst))) (obnd (bz6 (decide (x.2.2.2.fst=y.fst))) fun y=>some (Sum.inr ((),y))))
     (some (Sum.inl ((),x.2.2.fst)))))
   (brn (decide (x.2.2.2.snd=20)) (obnd (mzz (x.2.2.2.fst,decide (x.fst=19))) fun y=>obnd (czK y) fun y=>some (Sum.inr ((),y)))
    (brn (decide (x.2.2.2.snd=26))
     (obnd (idx x.2.fst 1) fun y =>
      obnd (hzx y) fun y=>brn (!y.2.snd) (some (Sum.inr ((),y.2.fst))) (obnd (bz6 (decide (x.2.2.2.fst=y.fst))) fun y=>some (Sum.inr ((),y))))
     (some (Sum.inl ((),x.2.2.fst))))))
def lzT:CutSpec tb:=⟨51,[(0,.val 3),(1,.val 46),(4,.ref 32),(5,.val 9),(33,.val 3)],[(.normal,[]),(.ret,[])],[35,34,37,38,36,39,40,8,9,41,42,44,43,45,46,47,48,49,50,52,51,54,55,56,57,53,58,59,60,11,10,12,61,62,63,64,65,66,67],lzU⟩
theorem rzh:azl ([]:List (CutSpec tb)) (azZ 51 Tryz.f67)=[]:=by kernel_rfl
theorem pzN:azo Tryz.prog tb Tryz.f67.ntmps (azZ 51 Tryz.f67) lzT:=ez2 mixed (by kernel_rfl) hzV rfl rzh .nil (fun x=>by kernel_rfl)
def lzW (back:Int×Val×List (Int)×List Val×Int×Int→Option (((List (Int))×Val)⊕((Unit)×Val))) (x:Int×Val×List (Int)×List Val×Int×Int):Option (((List (Int))×Val)⊕((Unit)×Val)) :=
 brn (decide (x.2.2.2.2.snd < x.2.2.2.2.fst))
  (obnd (idx x.2.2.2.fst x.2.2.2.2.snd) fun y =>
   brn (decide (x.fst=17))
    (brn (decide (x.2.2.2.2.snd=0))
     (obnd (izn (y,1)) fun y =>
      brn (!y.2.snd) (some (Sum.inr ((),y.2.fst)))
       (obnd (inb x.2.2.fst.length x.2.2.2.2.snd) fun k =>
        obnd (nth x.2.2.fst k) fun y_1=>back (x.fst,x.2.fst,x.2.2.fst.set k y.fst,x.2.2.2.fst,x.2.2.2.2.fst,IntKind.i64.wrap (x.2.2.2.2.snd+1))))
     (obnd (izn (y,0)) fun y =>
      brn (!y.2.snd) (some (Sum.inr ((),y.2.fst)))
       (obnd (inb x.2.2.fst.length x.2.2.2.2.snd) fun k =>
        obnd (nth x.2.2.fst k) fun y_1=>back (x.fst,x.2.fst,x.2.2.fst.set k y.fst,x.2.2.2.fst,x.2.2.2.2.fst,IntKind.i64.wrap (x.2.2.2.2.snd+1)))))
    (obnd (izn (y,0)) fun y =>
     brn (!y.2.snd) (some (Sum.inr ((),y.2.fst)))
      (obnd (inb x.2.2.fst.length x.2.2.2.2.snd) fun k =>
       obnd (nth x.2.2.fst k) fun y_1=>back (x.fst,x.2.fst,x.2.2.fst.set k y.fst,x.2.2.2.fst,x.2.2.2.2.fst,IntKind.i64.wrap (x.2.2.2.2.snd+1)))))
  (some (Sum.inl (x.2.2.fst,x.2.fst)))
def lzX:Int×Val×List (Int)×List Val×Int×Int→Option (((List (Int))×Val)⊕((Unit)×Val)):=iter lzW big
def lzV:CutSpec tb:=⟨156,[(0,.val 3),(4,.ref 32),(13,.wr 2),(70,.val 46),(71,.val 3),(72,.val 3)],[((.exit 1),[(13,.own 2)]),(.ret,[])],[73,74,75,76,15,14,16,77,78,79,80,81,82,84,85,86,83,87,88,89,18,17,19,90,91,92,93,94,95,96,97,72],lzX⟩
theorem rzi:azl ([]:List (CutSpec tb)) (azk 156 Tryz.f67)=[]:=by kernel_rfl
theorem pzO:azo Tryz.prog tb Tryz.f67.ntmps (.loop (azk 156 Tryz.f67)) lzV:=azJ mixed (by kernel_rfl) hzV rfl rzi .nil lzW (fun back x=>by kernel_rfl) rfl
def lzd (x:Int×List Val):Option (Val) :=
 obnd (idx x.snd 0) fun y =>
  obnd (hzx y) fun y =>
   brn (!y.2.snd) (some y.2.fst)
    (obnd (lzU (x.fst,x.snd,{ Kind:=0,N:={ M:=0,S:=0 },S:=[],B:=false,E:=0 },y.fst,x.fst)) fun y_1 =>
     osum y_1
      (fun y_2 =>
       obnd (sub x.snd 1 (↑x.snd.length:Int)) fun z =>
        obnd (lzX (x.fst,y_2.2,[1,1],z,(↑z.length:Int),0)) fun y_3 =>
         osum y_3
          (fun y_4 =>
           brn (decide (x.fst=15)) (obnd (idx y_4.1 0) fun y_5=>obnd (kzE (y.fst,0,y_5)) fun y=>obnd (czK y) fun y=>some y)
            (brn (decide (x.fst=16))
             (obnd (bif (List.length y.fst).ble 70368744177664 then some (dz7 y.fst (List.length y.fst) 0) else none) fun rs =>
              obnd (idx y_4.1 0) fun y_5 =>
               obnd (idx y_4.1 0) fun y_6 =>
                obnd (kzE (y.fst,bif decide (IntKind.i64.wrap ((↑rs.length:Int) - y_5) < 0) then 0 else IntKind.i64.wrap ((↑rs.length:Int) - y_5),y_6))
                 fun y=>obnd (czK y) fun y=>some y)
             (brn (decide (x.fst=17))
              (obnd (idx y_4.1 0) fun y_5 =>
               obnd (idx y_4.1 1) fun y_6=>obnd (kzE (y.fst,IntKind.i64.wrap (y_5 - 1),y_6)) fun y=>obnd (czK y) fun y=>some y)
              (obnd (jzp y.fst) fun y_5 =>
               brn (decide (y_5.fst=0)) (obnd (czK []) fun y=>some y)
                (obnd (idx y_4.1 0) fun y_6 =>
                 brn (decide (y_5.fst=0)) none
                  (brn (decide (IntKind.i64.wrap (Int.tdiv 1000 y_5.fst) < y_6)) (obnd (azm 15) fun y=>some y)
                   (obnd (idx y_4.1 0) fun y_7=>obnd (ezc (y.fst,y_7)) fun y=>obnd (czK y) fun y=>some y)))))))
          fun y=>some y.2)
      fun y=>some y.2)
def qzd:FSpec tb:=⟨[(0,.val 3),(1,.val 46)],[(0,.val 32)],lzd⟩
theorem uzK:azl ([lzT,lzV]:List (CutSpec tb)) (azE Tryz.f67)=[(51,azZ 51 Tryz.f67),(156,.loop (azk 156 Tryz.f67))]:=by kernel_rfl
theorem rzj:aze Tryz.prog tb 67 qzd:=az2 mixed Tryz.func67 (by kernel_rfl) hzV rfl uzK (.cons rfl pzN rfl (.cons rfl pzO rfl .nil)) (fun x=>by kernel_rfl)
abbrev wz5:List (Nat×FSpec tb):=[(59,vzi),(32,dzg),(60,tz7),(61,pz9),(62,qzb),(63,gz4),(64,fzt),(65,mzV),(66,nzp),(67,qzd)]
theorem ez3:azz Tryz.prog tb wz5:=(.cons nzg (.cons azB (.cons tzB (.cons qz8 (.cons gzw (.cons dz2 (.cons ezp (.cons hzw (.cons ozC (.cons rzj .nil))))))))))
def bzQ (x:Int×List Arg×Val×Int×Bool):Option (((Unit)×Val)⊕((Unit)×Val)) :=
 brn x.2.2.2.snd (obnd (bzz (x.fst,x.2.fst)) fun y=>some (Sum.inr ((),y)))
  (brn (decide (x.2.2.2.fst=10))
   (brn (decide (x.2.2.2.fst=10)) (obnd (fz8 (x.fst,x.2.fst)) fun y=>some (Sum.inr ((),y)))
    (brn (decide (x.2.2.2.fst=28)) (obnd (azm 42) fun y=>some (Sum.inr ((),y))) (some (Sum.inl ((),x.2.2.fst)))))
   (brn (decide (x.2.2.2.fst=23))
    (brn (decide (x.2.2.2.fst=23)) (obnd (fz8 (x.fst,x.2.fst)) fun y=>some (Sum.inr ((),y)))
     (brn (decide (x.2.2.2.fst=28)) (obnd (azm 42) fun y=>some (Sum.inr ((),y))) (some (Sum.inl ((),x.2.2.fst)))))
    (brn (decide (x.2.2.2.fst=24))
     (brn (decide (x.2.2.2.fst=24)) (obnd (fz8 (x.fst,x.2.fst)) fun y=>some (Sum.inr ((),y)))
      (brn (decide (x.2.2.2.fst=28)) (obnd (azm 42) fun y=>some (Sum.inr ((),y))) (some (Sum.inl ((),x.2.2.fst)))))
     (brn (decide (x.2.2.2.fst=25)) (obnd (fz8 (x.fst,x.2.fst)) fun y=>some (Sum.inr ((),y)))
      (brn (decide (x.2.2.2.fst=28)) (obnd (azm 42) fun y=>some (Sum.inr ((),y))) (some (Sum.inl ((),x.2.2.fst))))))))
def nzb:CutSpec tb:=⟨114,[(0,.val 3),(1,.val 34),(4,.ref 32),(42,.val 3),(43,.val 4)],[(.normal,[]),(.ret,[])],[52,53,54,56,55,57,58,59,60,61,62,64,63,65],bzQ⟩
theorem rz6:azl ([]:List (CutSpec tb)) (azZ 114 Tryz.f19)=[]:=by kernel_rfl
theorem qz0:azo Tryz.prog tb Tryz.f19.ntmps (azZ 114 Tryz.f19) nzb:=ez2 mixed (by kernel_rfl) ez3 rfl rz6 .nil (fun x=>by kernel_rfl)
def gzk (x:Int×List Arg×Val×Int):Option (((Unit)×Val)⊕((Unit)×Val)) :=
 brn (decide (x.2.2.snd=0))
  (obnd (bzQ (x.fst,x.2.fst,x.2.2.fst,x.2.2.snd,decide (x.2.2.snd=0))) fun y=>osum y (fun y=>some (Sum.inl ((),y.2))) fun y=>some (Sum.inr ((),y.2)))
  (brn (decide (x.2.2.snd=1))
   (obnd (bzQ (x.fst,x.2.fst,x.2.2.fst,x.2.2.snd,decide (x.2.2.snd=1))) fun y=>osum y (fun y=>some (Sum.inl ((),y.2))) fun y=>some (Sum.inr ((),y.2)))
   (brn (decide (x.2.2.snd=2))
    (obnd (bzQ (x.fst,x.2.fst,x.2.2.fst,x.2.2.snd,decide (x.2.2.snd=2))) fun y=>osum y (fun y=>some (Sum.inl ((),y.2))) fun y=>some (Sum.inr ((),y.2)))
    (brn (decide (x.2.2.snd=3))
     (obnd (bzQ (x.fst,x.2.fst,x.2.2.fst,x.2.2.snd,decide (x.2.2.snd=3))) fun y=>osum y (fun y=>some (Sum.inl ((),y.2))) fun y=>some (Sum.inr ((),y.2)))
     (brn (decide (x.2.2.snd=4))
      (obnd (bzQ (x.fst,x.2.fst,x.2.2.fst,x.2.2.snd,decide (x.2.2.snd=4))) fun y =>
       osum y (fun y=>some (Sum.inl ((),y.2))) fun y=>some (Sum.inr ((),y.2)))
      (brn (decide (x.2.2.snd=11))
       (obnd (bzQ (x.fst,x.2.fst,x.2.2.fst,x.2.2.snd,decide (x.2.2.snd=11))) fun y =>
        osum y (fun y=>some (Sum.inl ((),y.2))) fun y=>some (Sum.inr ((),y.2)))
       (brn (decide (x.2.2.snd=12))
        (obnd (bzQ (x.fst,x.2.fst,x.2.2.fst,x.2.2.snd,decide (x.2.2.snd=12))) fun y =>
         osum y (fun y=>some (Sum.inl ((),y.2))) fun y=>some (Sum.inr ((),y.2)))
        (obnd (bzQ (x.fst,x.2.fst,x.2.2.fst,x.2.2.snd,decide (x.2.2.snd=18))) fun y =>
         osum y (fun y=>some (Sum.inl ((),y.2))) fun y=>some (Sum.inr ((),y.2)))))))))
def nza:CutSpec tb:=⟨51,[(0,.val 3),(1,.val 34),(4,.ref 32),(42,.val 3)],[(.normal,[]),(.ret,[])],[44,43,45,46,47,48,49,50,51,52,53,54,56,55,57,58,59,60,61,62,64,63,65],gzk⟩
theorem rz5:azl ([nzb]:List (CutSpec tb)) (azZ 51 Tryz.f19)=[(114,azZ 114 Tryz.f19)]:=by kernel_rfl
theorem qzZ:azo Tryz.prog tb Tryz.f19.ntmps (azZ 51 Tryz.f19) nza:=ez2 mixed (by kernel_rfl) ez3 rfl rz5 (.cons rfl qz0 rfl .nil) (fun x=>by kernel_rfl)
def nze (back:List (Val)×List Arg×Int×Int→Option (List (Val))) (x:List (Val)×List Arg×Int×Int):Option (List (Val)) :=
 brn (decide (x.2.2.snd < x.2.2.fst))
  (obnd (idx x.2.fst x.2.2.snd) fun y=>obnd (idx y.L 0) fun y=>obnd (app 56 x.fst [y]) fun zs=>back (zs,x.2.fst,x.2.2.fst,IntKind.i64.wrap (x.2.2.snd+1))) (some x.1)
def izO:List (Val)×List Arg×Int×Int→Option (List (Val)):=iter nze big
def nzd:CutSpec tb:=⟨212,[(6,.own 32),(70,.val 34),(71,.val 3),(72,.val 3)],[((.exit 1),[(6,.own 32)])],[73,74,75,8,76,77,78,79,80,81,82,6,83,72],izO⟩
theorem rz8:azl ([]:List (CutSpec tb)) (azk 212 Tryz.f19)=[]:=by kernel_rfl
theorem qz2:azo Tryz.prog tb Tryz.f19.ntmps (.loop (azk 212 Tryz.f19)) nzd:=azJ mixed (by kernel_rfl) ez3 rfl rz8 .nil nze (fun back x=>by kernel_rfl) rfl
def izN (x:Int×Val×List Val×Int):Option (((Unit)×Val)⊕((Unit)×Val)) :=
 brn (decide (x.2.2.snd=21)) (obnd (idx x.2.2.fst 0) fun y=>obnd (bz6 (decide (y.Kind=0))) fun y=>some (Sum.inr ((),y)))
  (brn (decide (x.2.2.snd=22)) (obnd (idx x.2.2.fst 0) fun y=>obnd (bz6 (decide (y.Kind=4))) fun y=>some (Sum.inr ((),y)))
   (brn (decide (x.2.2.snd=29))
    (obnd (idx x.2.2.fst 0) fun y =>
     obnd (az8 (ezB keq3 0 y.Kind (fzQ keq3 4 16 (fzQ keq3 3 4 (fzQ keq3 2 2 (fzQ keq3 1 1 (fzQ keq3 0 1 [])))))))
      fun y=>some (Sum.inr ((),y)))
    (brn (decide (x.2.2.snd=13))
     (obnd (idx x.2.2.fst 0) fun y=>obnd (ez1 y) fun y=>brn (!y.2.snd) (some (Sum.inr ((),y.2.fst))) (obnd (bz6 !y.fst) fun y=>some (Sum.inr ((),y))))
     (brn (decide (x.2.2.snd=5)) (brn (decide (x.2.2.snd=5)) (obnd (dzN (x.fst,x.2.2.fst)) fun y=>some (Sum.inr ((),y))) (some (Sum.inl ((),x.2.fst))))
      (brn (decide (x.2.2.snd=6)) (brn (decide (x.2.2.snd=6)) (obnd (dzN (x.fst,x.2.2.fst)) fun y=>some (Sum.inr ((),y))) (some (Sum.inl ((),x.2.fst))))
       (brn (decide (x.2.2.snd=7)) (brn (decide (x.2.2.snd=7)) (obnd (dzN (x.fst,x.2.2.fst)) fun y=>some (Sum.inr ((),y))) (some (Sum.inl ((),x.2.fst))))
        (brn (decide (x.2.2.snd=8)) (brn (decide (x.2.2.snd=8)) (obnd (dzN (x.fst,x.2.2.fst)) fun y=>some (Sum.inr ((),y))) (some (Sum.inl ((),x.2.fst))))
         (brn (decide (x.2.2.snd=9)) (obnd (dzN (x.fst,x.2.2.fst)) fun y=>some (Sum.inr ((),y))) (some (Sum.inl ((),x.2.fst)))))))))))
def nzc:CutSpec tb:=⟨251,[(0,.val 3),(4,.ref 32),(6,.val 46),(84,.val 3)],[(.normal,[]),(.ret,[])],[86,85,87,88,89,90,91,92,94,93,95,96,97,98,99,100,102,101,103,104,105,106,107,108,109,110,112,111,114,115,116,117,113,118,119,120,10,9,11,121,122,123,124,125,126,128,127,129,130,131,132,133,134,135],izN⟩
theorem rz7:azl ([]:List (CutSpec tb)) (azZ 251 Tryz.f19)=[]:=by kernel_rfl
theorem qz1:azo Tryz.prog tb Tryz.f19.ntmps (azZ 251 Tryz.f19) nzc:=ez2 mixed (by kernel_rfl) ez3 rfl rz7 .nil (fun x=>by kernel_rfl)
def dzc (x:Int×List Arg):Option (Val) :=
 obnd (jzK ()) fun y =>
  brn (decide (x.fst < 0)) (obnd (azm 15) fun y=>some y)
   (brn (decide ((↑(List.length y):Int)≤x.fst)) (obnd (azm 15) fun y=>some y)
    (obnd (idx y x.fst) fun y_1 =>
     brn (decide ((↑x.snd.length:Int) < y_1.lo)) (obnd (azm 15) fun y=>some y)
      (obnd (idx y x.fst) fun y =>
       brn (decide (y.hi < (↑x.snd.length:Int))) (obnd (azm 15) fun y=>some y)
        (obnd (gzk (x.fst,x.snd,{ Kind:=0,N:={ M:=0,S:=0 },S:=[],B:=false,E:=0 },x.fst)) fun y =>
         osum y
          (fun y =>
           obnd (fz9 x.snd) fun y_2 =>
            brn (!y_2) (obnd (azm 15) fun y=>some y)
             (obnd (izO ([],x.snd,(↑x.snd.length:Int),0)) fun y_3 =>
              obnd (izN (x.fst,y.2,y_3,x.fst)) fun y=>osum y (fun y=>obnd (lzd (x.fst,y_3)) fun y=>some y) fun y=>some y.2))
          fun y=>some y.2))))
def rz4:FSpec tb:=⟨[(0,.val 3),(1,.val 34)],[(0,.val 32)],dzc⟩
theorem vzh:azl ([nza,nzd,nzc]:List (CutSpec tb)) (azE Tryz.f19)=[(51,azZ 51 Tryz.f19),(212,.loop (azk 212 Tryz.f19)),(251,azZ 251 Tryz.f19)]:=by kernel_rfl
theorem rz9:aze Tryz.prog tb 19 rz4:=az2 mixed Tryz.func19 (by kernel_rfl) ez3 rfl vzh (.cons rfl qzZ rfl (.cons rfl qz2 rfl (.cons rfl qz1 rfl .nil))) (fun x=>by kernel_rfl)
abbrev wz7:List (Nat×FSpec tb):=[(32,dzg),(33,mzq),(37,qzK),(86,jzN),(36,mzp)]
theorem nzl:azz Tryz.prog tb wz7:=(.cons azB (.cons czs (.cons mz3 (.cons czY (.cons gzg .nil)))))
def nzn (back:Dec×Val×Dec×Int×Int→Option (((Unit)×(Val×Dec))⊕((Unit)×(Val×Dec)))) (x:Dec×Val×Dec×Int×Int):Option (((Unit)×(Val×Dec))⊕((Unit)×(Val×Dec))) :=
 brn (decide (x.2.2.2.snd < x.2.2.2.fst))
  (obnd (qzJ (x.2.2.fst,x.fst)) fun y =>
   brn (!decide (y.snd=0)) (obnd (azU y) fun y_1=>some (Sum.inr ((),y_1,y.fst))) (back (x.fst,x.2.fst,y.fst,x.2.2.2.fst,IntKind.i64.wrap (x.2.2.2.snd+1))))
  (some (Sum.inl ((),x.2.fst,x.2.2.fst)))
def nzo:Dec×Val×Dec×Int×Int→Option (((Unit)×(Val×Dec))⊕((Unit)×(Val×Dec))):=iter nzn big
def nzm:CutSpec tb:=⟨52,[(2,.ro 30),(4,.ref 32),(5,.ref 30),(27,.val 2),(28,.val 2)],[((.exit 0),[]),(.ret,[])],[29,31,32,33,30,34,35,6,36,37,38,39,40,41,28],nzo⟩
theorem szo:azl ([]:List (CutSpec tb)) (azk 52 Tryz.f88)=[]:=by kernel_rfl
theorem rza:azo Tryz.prog tb Tryz.f88.ntmps (.loop (azk 52 Tryz.f88)) nzm:=azJ mixed (by kernel_rfl) nzl rfl szo .nil nzn (fun back x=>by kernel_rfl) rfl
def szm (x:Dec×Dec):Option (Val) :=
 brn (!decide (x.snd.S=0)) (obnd (azm 36) fun y=>some y)
  (brn (decide (x.snd.M < -64)) (obnd (azm 36) fun y=>some y)
   (brn (decide (64 < x.snd.M)) (obnd (azm 36) fun y=>some y)
    (obnd (bzA 1) fun y =>
     obnd
      (nzo
       (x.fst,{ Kind:=0,N:={ M:=0,S:=0 },S:=[],B:=false,E:=0 },y,
        bif decide (x.snd.M < IntKind.i64.wrap (0 - x.snd.M)) then IntKind.i64.wrap (0 - x.snd.M) else x.snd.M,0))
      fun y =>
      osum y
       (fun y =>
        brn (decide (x.snd.M < 0)) (obnd (bzA 1) fun y_1=>obnd (czW (y_1,y.2.snd)) fun y=>obnd (azU y) fun y=>some y)
         (obnd (azU (y.2.snd,0)) fun y=>some y))
       fun y=>some y.2.fst)))
def szn:FSpec tb:=⟨[(0,.val 30),(1,.val 30)],[(0,.val 32)],szm⟩
theorem vzn:azl ([nzm]:List (CutSpec tb)) (azE Tryz.f88)=[(52,.loop (azk 52 Tryz.f88))]:=by kernel_rfl
theorem szp:aze Tryz.prog tb 88 szn:=az2 mixed Tryz.func88 (by kernel_rfl) nzl rfl vzn (.cons rfl rza rfl .nil) (fun x=>by kernel_rfl)
abbrev wzm:List (Nat×FSpec tb):=[(32,dzg),(84,uzs),(83,kzF),(27,oz5),(63,gz4),(85,gzf),(87,qzI),(86,jzN),(35,qzN),(37,qzK),(36,mzp),(88,szn)]
theorem lzI:azz Tryz.prog tb wzm:=(.cons azB (.cons mzd (.cons hzT (.cons pzX (.cons dz2 (.cons bzO (.cons mz2 (.cons czY (.cons izK (.cons mz3 (.cons gzg (.cons szp .nil))))))))))))
def hzS (x:Int×Val×Val×Val):Option (((Unit)×Val)⊕((Unit)×Val)) :=
 brn (decide (x.2.fst.Kind=4)) (some (Sum.inr ((),x.2.fst)))
  (brn (decide (x.2.2.fst.Kind=4)) (some (Sum.inr ((),x.2.2.fst)))
   (brn (decide (x.fst < 1)) (obnd (azm 15) fun y=>some (Sum.inr ((),y)))
    (brn (decide (12 < x.fst)) (obnd (azm 15) fun y=>some (Sum.inr ((),y)))
     (brn (decide (x.fst=6))
      (obnd (kz0 x.2.fst) fun y=>obnd (kz0 x.2.2.fst) fun y_1=>obnd (cat y y_1) fun z=>obnd (czK z) fun y=>some (Sum.inr ((),y)))
      (brn (decide (6 < x.fst))
       (obnd (oz4 (x.2.fst,x.2.2.fst)) fun y =>
        obnd (idx [decide (y=0),!decide (y=0),decide (y < 0),decide (y≤0),decide (0 < y),decide (0≤y)] (IntKind.i64.wrap (x.fst - 7))) fun y =>
         obnd (bz6 y) fun y=>some (Sum.inr ((),y)))
       (some (Sum.inl ((),x.2.2.snd))))))))
def lzJ:CutSpec tb:=⟨19,[(0,.val 3),(4,.ro 32),(5,.ro 32),(6,.ref 32)],[(.normal,[]),(.ret,[])],[13,14,15,12,16,18,19,20,17,21,23,24,25,26,27,28,22,29,31,32,30,33,34,35,36,37,38,40,41,39,42,43,44,7,45,46,47,48,49,50,51,52,53,54,55,56,57,58,59,60,61,62],hzS⟩
theorem qz3:azl ([]:List (CutSpec tb)) (azZ 19 Tryz.f30)=[]:=by kernel_rfl
theorem pzC:azo Tryz.prog tb Tryz.f30.ntmps (azZ 19 Tryz.f30) lzJ:=ez2 mixed (by kernel_rfl) lzI rfl qz3 .nil (fun x=>by kernel_rfl)
def fz7 (x:Int×Val×Val):Option (Val) :=
 obnd (hzS (x.fst,x.2.fst,x.2.snd,{ Kind:=0,N:={ M:=0,S:=0 },S:=[],B:=false,E:=0 })) fun y =>
  osum y
   (fun y =>
    obnd (azX x.2.fst) fun y =>
     brn (!y.2.snd) (some y.2.fst)
      (obnd (azX x.2.snd) fun y_1 =>
       brn (!y_1.2.snd) (some y_1.2.fst)
        (brn (decide (x.fst=1)) (obnd (hzN (y.fst,y_1.fst)) fun y=>obnd (azU y) fun y=>some y)
         (brn (decide (x.fst=2)) (obnd (jzC (y.fst,y_1.fst)) fun y=>obnd (azU y) fun y=>some y)
          (brn (decide (x.fst=3)) (obnd (qzJ (y.fst,y_1.fst)) fun y=>obnd (azU y) fun y=>some y)
           (brn (decide (x.fst=4)) (obnd (czW (y.fst,y_1.fst)) fun y=>obnd (azU y) fun y=>some y)
            (obnd (szm (y.fst,y_1.fst)) fun y=>some y)))))))
   fun y=>some y.2
def pz7:FSpec tb:=⟨[(0,.val 3),(1,.val 32),(2,.val 32)],[(0,.val 32)],fz7⟩
theorem uzG:azl ([lzJ]:List (CutSpec tb)) (azE Tryz.f30)=[(19,azZ 19 Tryz.f30)]:=by kernel_rfl
theorem qz4:aze Tryz.prog tb 30 pz7:=az2 mixed Tryz.func30 (by kernel_rfl) lzI rfl uzG (.cons rfl pzC rfl .nil) (fun x=>by kernel_rfl)
def sza (x:Int×Val):Option (Val) :=
 brn (decide (x.fst=2)) (some x.snd)
  (brn (!decide (x.fst=1))
   (brn (!decide (x.fst=3)) (obnd (azm 15) fun y=>some y)
    (obnd (azX x.snd) fun y =>
     brn (!y.2.snd) (some y.2.fst)
      (brn (decide (x.fst=1)) (obnd (bzA 0) fun y_1=>obnd (jzC (y_1,y.fst)) fun y=>obnd (azU y) fun y=>some y)
       (obnd (bzA 100) fun y_1=>obnd (czW (y.fst,y_1)) fun y=>obnd (azU y) fun y=>some y))))
   (obnd (azX x.snd) fun y =>
    brn (!y.2.snd) (some y.2.fst)
     (brn (decide (x.fst=1)) (obnd (bzA 0) fun y_1=>obnd (jzC (y_1,y.fst)) fun y=>obnd (azU y) fun y=>some y)
      (obnd (bzA 100) fun y_1=>obnd (czW (y.fst,y_1)) fun y=>obnd (azU y) fun y=>some y))))
def szb:FSpec tb:=⟨[(0,.val 3),(1,.val 32)],[(0,.val 32)],sza⟩
theorem szc:aze Tryz.prog tb 40 szb:=azt mixed Tryz.func40 (by kernel_rfl) (.cons azB (.cons bzO (.cons czs (.cons izK (.cons czY (.cons gzg .nil)))))) rfl (fun x=>by kernel_rfl)
end Go.Proofs.YtdgpkbnnljblmaaGreatDoor

/- E1 -/
namespace Go.Proofs.YtdgpkbnnljblmaaGreatDoor
open Go Go.Ev
set_option linter.unusedVariables false
noncomputable section
def fzw (x:Int×Int×Int):Option (Place) :=
 some { Sheet:=x.fst,At:={ Row:=x.2.fst,Col:=x.2.snd } }
def rzn:FSpec tb:=⟨[(0,.val 3),(1,.val 3),(2,.val 3)],[(0,.val 88)],fzw⟩
theorem izQ:aze Tryz.prog tb 51 rzn:=azt mixed Tryz.func51 (by kernel_rfl) .nil rfl (fun x=>by kernel_rfl)
def ezv (back:Int×List Int×Int×Int→Option ((Unit)⊕(Int))) (x:Int×List Int×Int×Int):Option ((Unit)⊕(Int)) :=
 brn (decide (x.2.2.snd < x.2.2.fst))
  (obnd (idx x.2.fst x.2.2.snd) fun y=>brn (!decide (y=x.fst)) (some (Sum.inr y)) (back (x.fst,x.2.fst,x.2.2.fst,IntKind.i64.wrap (x.2.2.snd+1))))
  (some (Sum.inl PUnit.unit))
def hzL:Int×List Int×Int×Int→Option ((Unit)⊕(Int)):=iter ezv big
def lzu:CutSpec tb:=⟨36,[(3,.val 3),(6,.val 53),(7,.val 3),(8,.val 3)],[((.exit 0),[]),(.ret,[(2,.val 3)])],[9,10,11,5,12,13,14,15,2,16,8],hzL⟩
theorem qzD:azl ([]:List (CutSpec tb)) (azk 36 Tryz.f268)=[]:=by kernel_rfl
theorem pzw:azo Tryz.prog tb Tryz.f268.ntmps (.loop (azk 36 Tryz.f268)) (lzu):=azJ mixed (by kernel_rfl) .nil rfl qzD .nil ezv (fun back x=>by kernel_rfl) rfl
def izj (x:List Int):Option (Int) :=
 obnd (hzL (0,x,(↑x.length:Int),0)) fun y=>osum y (fun y=>some 0) fun y=>some y
def vz3:FSpec tb:=⟨[(0,.val 53)],[(0,.val 3)],izj⟩
theorem uzA:azl ([lzu]:List (CutSpec tb)) (azE Tryz.f268)=[(36,.loop (azk 36 Tryz.f268))]:=by kernel_rfl
theorem qzE:aze Tryz.prog tb 268 vz3:=az2 mixed Tryz.func268 (by kernel_rfl) .nil rfl uzA (.cons rfl pzw rfl .nil) (fun x=>by kernel_rfl)
def mzr (x:Place×Place):Option (Int) :=
 obnd (azK (x.fst.Sheet,x.snd.Sheet)) fun y =>
  obnd (azK (x.fst.At.Row,x.snd.At.Row)) fun y_1=>obnd (azK (x.fst.At.Col,x.snd.At.Col)) fun y_2=>obnd (izj [y,y_1,y_2]) fun y=>some y
def wzS:FSpec tb:=⟨[(0,.val 88),(1,.val 88)],[(0,.val 3)],mzr⟩
theorem rzZ:aze Tryz.prog tb 249 wzS:=azt mixed Tryz.func249 (by kernel_rfl) (.cons czR (.cons qzE .nil)) rfl (fun x=>by kernel_rfl)
def izw (x:Place×Place):Option (Bool) :=
 obnd (mzr x) fun y=>some (decide (y < 0))
def tz2:FSpec tb:=⟨[(0,.val 88),(1,.val 88)],[(0,.val 4)],izw⟩
theorem tzl:aze Tryz.prog tb 212 tz2:=azt mixed Tryz.func212 (by kernel_rfl) (.cons rzZ .nil) rfl (fun x=>by kernel_rfl)
abbrev env_findG:List (Nat×FSpec tb):=[(212,tz2)]
theorem jzF:azz Tryz.prog tb (env_findG):=(.cons tzl .nil)
def hzR (back:List Slot×Place×Int×Int→Option (Int×Bool)) (x:List Slot×Place×Int×Int):Option (Int×Bool) :=
 brn (decide (x.2.2.fst=x.2.2.snd))
  (brn (decide (x.2.2.fst < (↑x.fst.length:Int)))
   (obnd (idx x.fst x.2.2.fst) fun y =>
    some
     (x.2.2.fst,
      bif false then !(decide (y.P.Sheet=x.2.fst.Sheet)&&(decide (y.P.At.Row=x.2.fst.At.Row)&&decide (y.P.At.Col=x.2.fst.At.Col)))
      else decide (y.P.Sheet=x.2.fst.Sheet)&&(decide (y.P.At.Row=x.2.fst.At.Row)&&decide (y.P.At.Col=x.2.fst.At.Col))))
   (some (x.2.2.fst,false)))
  (obnd (idx x.fst (IntKind.i64.wrap ((IntKind.i64.wrap (x.2.2.fst+x.2.2.snd)).tdiv 2))) fun y =>
   obnd (izw (y.P,x.2.fst)) fun y =>
    brn y (obnd (back (x.fst,x.2.fst,IntKind.i64.wrap (IntKind.i64.wrap ((IntKind.i64.wrap (x.2.2.fst+x.2.2.snd)).tdiv 2)+1),x.2.2.snd)) fun y=>some y)
     (obnd (back (x.fst,x.2.fst,x.2.2.fst,IntKind.i64.wrap ((IntKind.i64.wrap (x.2.2.fst+x.2.2.snd)).tdiv 2))) fun y=>some y))
def fzN:List Slot×Place×Int×Int→Option (Int×Bool):=iter hzR big
def tzm:CutSpec tb:=⟨33,[(0,.val 98),(3,.ro 88),(6,.val 3),(7,.val 3)],[(.ret,[(4,.val 3),(5,.val 4)])],[11,12,13,14,15,16,17,18,19,20,21,22,23,24,25,26,27,4,5,28,29,30,31,8,32,33,34,35,36,37,38,39,40,6,41,7],fzN⟩
theorem qzR:azl ([]:List (CutSpec tb)) (restAt (lz8 21 Tryz.f130) 0)=[]:=by kernel_rfl
theorem pzy:czB Tryz.prog tb Tryz.f130.ntmps (lz8 21 Tryz.f130) 0 tzm:=label_it fun self hself=>label_ev mixed (by kernel_rfl) (by kernel_rfl) jzF rfl qzR .nil (.cons hself rfl .nil) (fun x=>by kernel_rfl)
def jzG (x:List Slot×Place):Option ((Unit)⊕(Int×Bool)) :=
 brn (decide (0=(↑x.fst.length:Int)))
  (brn (decide (0 < (↑x.fst.length:Int)))
   (obnd (idx x.fst 0) fun y =>
    some
     (Sum.inr
      (0,
       bif false then !(decide (y.P.Sheet=x.snd.Sheet)&&(decide (y.P.At.Row=x.snd.At.Row)&&decide (y.P.At.Col=x.snd.At.Col)))
       else decide (y.P.Sheet=x.snd.Sheet)&&(decide (y.P.At.Row=x.snd.At.Row)&&decide (y.P.At.Col=x.snd.At.Col)))))
   (some (Sum.inr (0,false))))
  (obnd (idx x.fst (IntKind.i64.wrap ((IntKind.i64.wrap (0+(↑x.fst.length:Int))).tdiv 2))) fun y =>
   obnd (izw (y.P,x.snd)) fun y =>
    brn y
     (obnd (fzN (x.fst,x.snd,IntKind.i64.wrap (IntKind.i64.wrap ((IntKind.i64.wrap (0+(↑x.fst.length:Int))).tdiv 2)+1),(↑x.fst.length:Int))) fun y =>
      some (Sum.inr y))
     (obnd (fzN (x.fst,x.snd,0,IntKind.i64.wrap ((IntKind.i64.wrap (0+(↑x.fst.length:Int))).tdiv 2))) fun y=>some (Sum.inr y)))
def nz7:CutSpec tb:=⟨21,[(0,.val 98),(3,.ro 88)],[(.normal,[]),(.ret,[(4,.val 3),(5,.val 4)])],[9,10,6,7,8,11,12,13,14,15,16,17,18,19,20,21,22,23,24,25,26,27,4,5,28,29,30,31,32,33,34,35,36,37,38,39,40,41],jzG⟩
theorem tzn:azl ([]:List (CutSpec tb)) (lz8 21 Tryz.f130)=[]:=by kernel_rfl
theorem rzY:azo Tryz.prog tb Tryz.f130.ntmps (.scope (lz8 21 Tryz.f130)) nz7:=scope_ev mixed (by kernel_rfl) jzF rfl tzn .nil (.cons pzy rfl .nil) (fun x=>by kernel_rfl)
def izx (x:List Slot×Place):Option (Int×Bool) :=
 obnd (jzG x) fun y=>osum y (fun y=>none) fun y=>some y
def env_findS:FSpec tb:=⟨[(0,.val 98),(1,.val 88)],[(0,.val 3),(1,.val 4)],izx⟩
theorem vz9:azl ([nz7]:List (CutSpec tb)) (azE Tryz.f130)=[(21,.scope (lz8 21 Tryz.f130))]:=by kernel_rfl
theorem lzw:aze Tryz.prog tb 130 env_findS:=az2 mixed Tryz.func130 (by kernel_rfl) jzF rfl vz9 (.cons rfl rzY rfl .nil) (fun x=>by kernel_rfl)
def bzw (x:List Slot):Option (List (Slot)) :=
 brn x.isEmpty (agree (some []) (obnd (app 80 [] x) fun zs=>some zs)) (obnd (app 80 [] x) fun zs=>some zs)
def gzG:FSpec tb:=⟨[(0,.val 98)],[(0,.own 196)],bzw⟩
theorem fzD:aze Tryz.prog tb 131 gzG:=azt mixed Tryz.func131 (by kernel_rfl) .nil rfl (fun x=>by kernel_rfl)
def dzu (_:List Slot×Int×Int):Option (List (Slot)):=none
def gzz:FSpec tb:=⟨[(0,.val 98),(1,.val 3),(2,.val 3)],[(0,.own 196)],dzu⟩
theorem fzl:aze Tryz.prog tb 132 gzz:=sz1 (nz6 Tryz.func132 (by kernel_rfl))
def ize (_:List Slot×Int):Option (Unit):=none
def izf:FSpec tb:=⟨[(0,.val 98),(1,.val 3)],[],ize⟩
theorem gzd:aze Tryz.prog tb 214 izf:=sz1 (nz6 Tryz.func214 (by kernel_rfl))
def bzt (x:List (Slot)×Int×List Slot):Option (List Slot) :=
 obnd (sub x.fst x.2.fst (↑x.fst.length:Int)) fun z =>
  brn (decide ((↑x.2.snd.length:Int)=0)) (some x.1) (brn (decide (x.2.fst=(↑x.fst.length:Int))) (obnd (app 80 x.fst x.2.snd) fun zs=>some zs) none)
def gzA:FSpec tb:=⟨[(0,.own 196),(1,.val 3),(2,.val 98)],[(0,.val 98)],bzt⟩
theorem fzm:aze Tryz.prog tb 133 gzA:=azt mixed Tryz.func133 (by kernel_rfl) (.cons gzd .nil) rfl (fun x=>by kernel_rfl)
def hzQ (x:Env×Place×Val):Option (Env) :=
 obnd (izx (x.fst.Slots,x.2.fst)) fun y =>
  obnd (bzw x.fst.Slots) fun y_1 =>
   brn y.snd
    (brn (decide (x.2.snd.Kind=0))
     (obnd (dzu (y_1,y.fst,IntKind.i64.wrap (y.fst+1))) fun y=>some { Sheets:=x.fst.Sheets,Slots:=y,Names:=x.fst.Names })
     (brn y.snd (obnd (idx y_1 y.fst) fun y=>none)
      (brn (!decide (x.2.snd.Kind=0))
       (obnd (bzt (y_1,y.fst,[{ P:=x.2.fst,V:=x.2.snd }])) fun y=>some { Sheets:=x.fst.Sheets,Slots:=y,Names:=x.fst.Names })
       (some { Sheets:=x.fst.Sheets,Slots:=y_1,Names:=x.fst.Names }))))
    (brn y.snd (obnd (idx y_1 y.fst) fun y=>none)
     (brn (!decide (x.2.snd.Kind=0))
      (obnd (bzt (y_1,y.fst,[{ P:=x.2.fst,V:=x.2.snd }])) fun y=>some { Sheets:=x.fst.Sheets,Slots:=y,Names:=x.fst.Names })
      (some { Sheets:=x.fst.Sheets,Slots:=y_1,Names:=x.fst.Names })))
def qzQ:FSpec tb:=⟨[(0,.val 100),(1,.val 88),(2,.val 32)],[(0,.val 100)],hzQ⟩
theorem mz8:aze Tryz.prog tb 50 qzQ:=azt mixed Tryz.func50 (by kernel_rfl) (.cons lzw (.cons fzD (.cons fzl (.cons fzm .nil)))) rfl (fun x=>by kernel_rfl)
abbrev uzO:List (Nat×FSpec tb):=[(51,rzn),(26,tzK),(50,qzQ)]
theorem jzX:azz Tryz.prog tb (uzO):=(.cons izQ (.cons gz8 (.cons mz8 .nil)))
def dzs (back:Env×Int→Option ((Unit)×Env)) (x:Env×Int):Option ((Unit)×Env) :=
 brn (decide (x.snd < 3))
  (obnd (fzw (0,x.snd,0)) fun y=>obnd (czq (IntKind.i64.wrap (x.snd+1))) fun y_1=>obnd (hzQ (x.fst,y,y_1)) fun y=>back (y,IntKind.i64.wrap (x.snd+1)))
  (some ((),x.fst))
def gzx:Env×Int→Option ((Unit)×Env):=iter dzs big
def jzY:CutSpec tb:=⟨36,[(1,.ref 100),(2,.val 3)],[((.exit 0),[])],[4,5,8,9,10,11,12,13,14,6,7,2],gzx⟩
theorem ozI:azl ([]:List (CutSpec tb)) (azk 36 Tryz.f114)=[]:=by kernel_rfl
theorem nzT:azo Tryz.prog tb Tryz.f114.ntmps (.loop (azk 36 Tryz.f114)) (jzY):=azJ mixed (by kernel_rfl) jzX rfl ozI .nil dzs (fun back x=>by kernel_rfl) rfl
def gzl (x:Unit):Option (Env) :=
 obnd (gzx ({ Sheets:=2,Slots:=[],Names:=[] },0)) fun y=>some y.2
def uzP:FSpec tb:=⟨[],[(0,.val 100)],gzl⟩
theorem szz:azl ([jzY]:List (CutSpec tb)) (azE Tryz.f114)=[(36,.loop (azk 36 Tryz.f114))]:=by kernel_rfl
theorem ozJ:aze Tryz.prog tb 114 uzP:=az2 mixed Tryz.func114 (by kernel_rfl) jzX rfl szz (.cons rfl nzT rfl .nil) (fun x=>by kernel_rfl)
def czf (x:Int×Int×Int):Option (Expr) :=
  some
    { Kind := 3, V := { Kind := 0, N := { M := 0, S := 0 }, S := [], B := false, E := 0 },
      A:={ A:={ Row:=x.fst,Col:=x.2.snd,RelRow:=false,RelCol:=false },B:={ Row:=x.2.fst,Col:=x.2.snd,RelRow:=false,RelCol:=false } },Sheet:=0,
      Op := 0, Kids := [] }
def qzg:FSpec tb:=⟨[(0,.val 3),(1,.val 3),(2,.val 3)],[(0,.val 96)],czf⟩
theorem jzW:aze Tryz.prog tb 53 qzg:=azt mixed Tryz.func53 (by kernel_rfl) .nil rfl (fun x=>by kernel_rfl)
def ezj (x:Int×List Expr):Option (Expr) :=
  some
    { Kind := 9, V := { Kind := 0, N := { M := 0, S := 0 }, S := [], B := false, E := 0 },
      A := { A := { Row := 0, Col := 0, RelRow := false, RelCol := false }, B := { Row := 0, Col := 0, RelRow := false, RelCol := false } }, Sheet := 0, Op := x.fst, Kids := x.snd }
def qzf:FSpec tb:=⟨[(0,.val 3),(1,.val 94)],[(0,.val 96)],ezj⟩
theorem jzV:aze Tryz.prog tb 52 qzf:=azt mixed Tryz.func52 (by kernel_rfl) .nil rfl (fun x=>by kernel_rfl)
def szw (x:Int):Option (Expr) :=
  obnd (czq x) fun y =>
    some
      { Kind := 1, V := y, A := { A := { Row := 0, Col := 0, RelRow := false, RelCol := false }, B := { Row := 0, Col := 0, RelRow := false, RelCol := false } }, Sheet := 0, Op := 0,
        Kids := [] }
def xzc:FSpec tb:=⟨[(0,.val 2)],[(0,.val 96)],szw⟩
theorem szx:aze Tryz.prog tb 55 xzc:=azt mixed Tryz.func55 (by kernel_rfl) (.cons gz8 .nil) rfl (fun x=>by kernel_rfl)
def jzk (x:Int×Expr×Expr):Option (Expr) :=
  some
    { Kind := 8, V := { Kind := 0, N := { M := 0, S := 0 }, S := [], B := false, E := 0 },
      A:={ A:={ Row:=0,Col:=0,RelRow:=false,RelCol:=false },B:={ Row:=0,Col:=0,RelRow:=false,RelCol:=false } },Sheet:=0,Op:=x.fst,
      Kids := [bzf x.2.fst, bzf x.2.snd] }
def szv:FSpec tb:=⟨[(0,.val 3),(1,.val 96),(2,.val 96)],[(0,.val 96)],jzk⟩
theorem kzJ:aze Tryz.prog tb 54 szv:=azt mixed Tryz.func54 (by kernel_rfl) .nil rfl (fun x=>by kernel_rfl)
def fzB (x:Int×Int):Option (Int) :=
 brn (decide (x.snd=0)) none (brn (decide (x.snd=0)) none (some ((IntKind.i64.wrap (x.fst.tmod x.snd+x.snd)).tmod x.snd)))
def ref_modS:FSpec tb:=⟨[(0,.val 3),(1,.val 3)],[(0,.val 3)],fzB⟩
theorem nzC:aze Tryz.prog tb 264 ref_modS:=azt mixed Tryz.func264 (by kernel_rfl) .nil rfl (fun x=>by kernel_rfl)
def mzN (x:Int×Int×Int):Option (Int) :=
 obnd (fzB (x.fst,x.2.snd)) fun y=>obnd (fzB x.2) fun y_1=>obnd (fzB (IntKind.i64.wrap (y+y_1),x.2.snd)) fun y=>some y
def ref_sumS:FSpec tb:=⟨[(0,.val 3),(1,.val 3),(2,.val 3)],[(0,.val 3)],mzN⟩
theorem uzS:aze Tryz.prog tb 265 ref_sumS:=azt mixed Tryz.func265 (by kernel_rfl) (.cons nzC .nil) rfl (fun x=>by kernel_rfl)
def iza (x:Ref×Cell):Option (Cell) :=
 obnd (fzB (x.fst.Row,65536)) fun y =>
  obnd (fzB (x.fst.Col,256)) fun y_1 =>
   brn x.fst.RelRow
    (obnd (mzN (x.fst.Row,x.snd.Row,65536)) fun y =>
     brn x.fst.RelCol (obnd (mzN (x.fst.Col,x.snd.Col,256)) fun y_2=>some { Row:=y,Col:=y_2 }) (some { Row:=y,Col:=y_1 }))
    (brn x.fst.RelCol (obnd (mzN (x.fst.Col,x.snd.Col,256)) fun y_2=>some { Row:=y,Col:=y_2 }) (some { Row:=y,Col:=y_1 }))
def ref_AtS:FSpec tb:=⟨[(0,.val 91),(1,.val 86)],[(0,.val 86)],iza⟩
theorem ozW:aze Tryz.prog tb 240 ref_AtS:=azt mixed Tryz.func240 (by kernel_rfl) (.cons nzC (.cons uzS .nil)) rfl (fun x=>by kernel_rfl)
def ozX (x:Cell):Option (Bool) :=
 brn (decide (0≤x.Row)) (brn (decide (x.Row < 65536)) (brn (decide (0≤x.Col)) (some (decide (x.Col < 256))) (some false)) (some false)) (some false)
def ref_GoodS:FSpec tb:=⟨[(0,.val 86)],[(0,.val 4)],ozX⟩
theorem tzO:aze Tryz.prog tb 279 ref_GoodS:=azt mixed Tryz.func279 (by kernel_rfl) .nil rfl (fun x=>by kernel_rfl)
def nz8 (x:Env×Place):Option (Bool) :=
 brn (decide (0≤x.snd.Sheet)) (brn (decide (x.snd.Sheet < x.fst.Sheets)) (obnd (ozX x.snd.At) fun y=>some y) (some false)) (some false)
def env_goodS:FSpec tb:=⟨[(0,.val 100),(1,.val 88)],[(0,.val 4)],nz8⟩
theorem tzo:aze Tryz.prog tb 263 env_goodS:=azt mixed Tryz.func263 (by kernel_rfl) (.cons tzO .nil) rfl (fun x=>by kernel_rfl)
def ezR (x:Env×Place):Option (Val) :=
 obnd (nz8 x) fun y =>
  brn (!y) (obnd (azm 23) fun y=>some y)
   (obnd (izx (x.fst.Slots,x.snd)) fun y =>
    brn y.snd (obnd (idx x.fst.Slots y.fst) fun y=>some y.V) (some { Kind:=0,N:={ M:=0,S:=0 },S:=[],B:=false,E:=0 }))
def qzP:FSpec tb:=⟨[(0,.val 100),(1,.val 88)],[(0,.val 32)],ezR⟩
theorem mz7:aze Tryz.prog tb 239 qzP:=azt mixed Tryz.func239 (by kernel_rfl) (.cons tzo (.cons azB (.cons lzw .nil))) rfl (fun x=>by kernel_rfl)
def fzg (x:Area×Cell):Option (Cell×Cell) :=
 obnd (iza (x.fst.A,x.snd)) fun y =>
  obnd (iza (x.fst.B,x.snd)) fun y_1 =>
   some
    ({ Row:=bif decide (y_1.Row < y.Row) then y_1.Row else y.Row,Col:=bif decide (y_1.Col < y.Col) then y_1.Col else y.Col },
     { Row:=bif decide (y.Row < y_1.Row) then y_1.Row else y.Row,Col:=bif decide (y.Col < y_1.Col) then y_1.Col else y.Col })
def lzi:FSpec tb:=⟨[(0,.val 93),(1,.val 86)],[(0,.val 86),(1,.val 86)],fzg⟩
theorem jz8:aze Tryz.prog tb 267 lzi:=azt mixed Tryz.func267 (by kernel_rfl) (.cons ozW .nil) rfl (fun x=>by kernel_rfl)
abbrev xzs:List (Nat×FSpec tb):=[(267,lzi)]
theorem izX:azz Tryz.prog tb (xzs):=(.cons jz8 .nil)
def ez7 (back:Cell×List (Cell)×Int×Int→Option (List (Cell))) (x:Cell×List (Cell)×Int×Int):Option (List (Cell)) :=
 brn (decide (x.2.2.snd≤x.fst.Col)) (obnd (app 16 x.2.fst [{ Row:=x.2.2.fst,Col:=x.2.2.snd }]) fun zs=>back (x.fst,zs,x.2.2.fst,IntKind.i64.wrap (x.2.2.snd+1)))
  (some x.2.1)
def gzo:Cell×List (Cell)×Int×Int→Option (List (Cell)):=iter ez7 big
def nzB:CutSpec tb:=⟨84,[(6,.ro 86),(7,.own 86),(8,.val 3),(9,.val 3)],[((.exit 2),[(7,.own 86)])],[40,41,42,43,46,47,48,49,50,51,7,44,45,9],gzo⟩
theorem szN:azl ([]:List (CutSpec tb)) (azk 84 Tryz.f266)=[]:=by kernel_rfl
theorem rzr:azo Tryz.prog tb Tryz.f266.ntmps (.loop (azk 84 Tryz.f266)) (nzB):=azJ mixed (by kernel_rfl) izX rfl szN .nil ez7 (fun back x=>by kernel_rfl) rfl
def ez6 (back:Cell×Cell×List (Cell)×Int→Option (List (Cell))) (x:Cell×Cell×List (Cell)×Int):Option (List (Cell)) :=
 brn (decide (x.2.2.snd≤x.2.fst.Row)) (obnd (gzo (x.2.fst,x.2.2.fst,x.2.2.snd,x.fst.Col)) fun y=>back (x.fst,x.2.fst,y,IntKind.i64.wrap (x.2.2.snd+1)))
  (some x.2.2.1)
def gzn:Cell×Cell×List (Cell)×Int→Option (List (Cell)):=iter ez6 big
def nzA:CutSpec tb:=⟨60,[(5,.ro 86),(6,.ro 86),(7,.own 86),(8,.val 3)],[((.exit 0),[(7,.own 86)])],[32,33,34,35,38,39,9,40,41,42,43,46,47,48,49,50,51,7,44,45,36,37,8],gzn⟩
theorem szM:azl ([nzB]:List (CutSpec tb)) (azk 60 Tryz.f266)=[(84,.loop (azk 84 Tryz.f266))]:=by kernel_rfl
theorem rzq:azo Tryz.prog tb Tryz.f266.ntmps (.loop (azk 60 Tryz.f266)) (nzA):=azJ mixed (by kernel_rfl) izX rfl szM (.cons rfl rzr rfl .nil) ez6 (fun back x=>by kernel_rfl) rfl
def hzk (x:Area×Cell):Option (List (Cell)) :=
 obnd (fzg x) fun y =>
  brn (decide (4096 < IntKind.i64.wrap (IntKind.i64.wrap (IntKind.i64.wrap (y.snd.Row - y.fst.Row)+1)*IntKind.i64.wrap (IntKind.i64.wrap (y.snd.Col - y.fst.Col)+1))))
   (some []) (obnd (gzn (y.fst,y.snd,[],y.fst.Row)) fun y=>some y)
def szL:FSpec tb:=⟨[(0,.val 93),(1,.val 86)],[(0,.own 86)],hzk⟩
theorem vzG:azl ([nzA]:List (CutSpec tb)) (azE Tryz.f266)=[(60,.loop (azk 60 Tryz.f266))]:=by kernel_rfl
theorem szO:aze Tryz.prog tb 266 szL:=az2 mixed Tryz.func266 (by kernel_rfl) izX rfl vzG (.cons rfl rzq rfl .nil) (fun x=>by kernel_rfl)
abbrev pzB:List (Nat×FSpec tb):=[(266,szL),(32,dzg),(25,qz5),(267,lzi),(239,qzP)]
theorem ezS:azz Tryz.prog tb (pzB):=(.cons szO (.cons azB (.cons nzf (.cons jz8 (.cons mz7 .nil)))))
def dzb (x:Int×Worker×Area×Arg×List Cell×Bool):Option (((Unit)×Arg)⊕((Unit)×Arg)) :=
 brn x.2.2.2.2.snd
  (obnd (fzg (x.2.2.fst,x.2.fst.at_.At)) fun y =>
   brn (!decide (IntKind.i64.wrap (IntKind.i64.wrap (y.snd.Row - y.fst.Row)+1)=x.2.fst.rows)) (obnd (azm 15) fun y=>obnd (bz2 y) fun y=>some (Sum.inr ((),y)))
    (brn (!decide (IntKind.i64.wrap (IntKind.i64.wrap (y.snd.Col - y.fst.Col)+1)=x.2.fst.cols))
     (obnd (azm 15) fun y=>obnd (bz2 y) fun y=>some (Sum.inr ((),y)))
     (obnd (idx x.2.2.2.2.fst x.2.fst.cell) fun y=>obnd (ezR (x.2.fst.v,{ Sheet:=x.fst,At:=y })) fun y=>obnd (bz2 y) fun y=>some (Sum.inr ((),y)))))
  (some (Sum.inl ((),x.2.2.2.fst)))
def gzT:CutSpec tb:=⟨50,[(1,.val 3),(4,.ro 190),(6,.ro 93),(8,.ref 48),(9,.val 349),(42,.val 4)],[(.normal,[]),(.ret,[])],[44,45,46,47,48,43,49,50,10,11,51,52,53,54,55,56,57,58,59,60,61,62,63,64,65,66,67,68,69,70,71,72,73,74,75,76,77,78,79,80,81,82,83],(dzb)⟩
theorem kz7:azl ([]:List (CutSpec tb)) (azZ 50 Tryz.f241)=[]:=by kernel_rfl
theorem kzj:azo Tryz.prog tb Tryz.f241.ntmps (azZ 50 Tryz.f241) (gzT):=ez2 mixed (by kernel_rfl) ezS rfl kz7 .nil (fun x=>by kernel_rfl)
def czl (back:List (Val)×Int×Worker×Arg×List Cell×Int×Int→Option ((List (Val))×Arg)) (x:List (Val)×Int×Worker×Arg×List Cell×Int×Int):Option ((List (Val))×Arg) :=
 brn (decide (x.2.2.2.2.2.snd < x.2.2.2.2.2.fst))
  (obnd (idx x.2.2.2.2.fst x.2.2.2.2.2.snd) fun y =>
   obnd (ezR (x.2.2.fst.v,{ Sheet:=x.2.fst,At:=y })) fun y =>
    obnd (app 56 x.fst [y]) fun zs =>
     back (zs,x.2.fst,x.2.2.fst,{ Area:=x.2.2.2.fst.Area,L:=zs },x.2.2.2.2.fst,x.2.2.2.2.2.fst,IntKind.i64.wrap (x.2.2.2.2.2.snd+1)))
  (some (x.fst,{ Area:=x.2.2.2.fst.Area,L:=x.fst }))
def czm:List (Val)×Int×Worker×Arg×List Cell×Int×Int→Option ((List (Val))×Arg):=iter czl big
def gzU:CutSpec tb:=⟨100,[(8589934604,.own 32),(1,.val 3),(4,.ro 190),(12,.ref 48),(85,.val 349),(86,.val 3),(87,.val 3)],[((.exit 0),[(8589934604,.own 32)])],[88,89,90,14,91,92,93,94,95,96,97,98,99,100,101,102,87],czm⟩
theorem kz8:azl ([]:List (CutSpec tb)) (azk 100 Tryz.f241)=[]:=by kernel_rfl
theorem kzk:azo Tryz.prog tb Tryz.f241.ntmps (.loop (azk 100 Tryz.f241)) (gzU):=azJ mixed (by kernel_rfl) ezS rfl kz8 .nil czl (fun back x=>by kernel_rfl) rfl
def cz4 (x:Worker×Int×Area×Bool):Option (Arg) :=
 obnd (hzk (x.2.2.fst,x.fst.at_.At)) fun y =>
  brn (decide ((↑(List.length y):Int)=0)) (obnd (azm 23) fun y=>obnd (bz2 y) fun y=>some y)
   (brn (decide (x.2.fst < 0)) (obnd (azm 23) fun y=>obnd (bz2 y) fun y=>some y)
    (brn (decide (x.fst.v.Sheets≤x.2.fst)) (obnd (azm 23) fun y=>obnd (bz2 y) fun y=>some y)
     (brn (decide (0 < x.fst.rows))
      (obnd (dzb (x.2.fst,x.fst,x.2.2.fst,{ Area:=false,L:=[] },y,!x.2.2.snd)) fun y_1 =>
       osum y_1
        (fun y_2=>obnd (czm ([],x.2.fst,x.fst,{ Area:=true,L:=[] },y,(↑(List.length y):Int),0)) fun y=>some { Area:=y.2.Area,L:=y.1 })
        fun y=>some y.2)
      (obnd (dzb (x.2.fst,x.fst,x.2.2.fst,{ Area:=false,L:=[] },y,false)) fun y_1 =>
       osum y_1
        (fun y_2=>obnd (czm ([],x.2.fst,x.fst,{ Area:=true,L:=[] },y,(↑(List.length y):Int),0)) fun y=>some { Area:=y.2.Area,L:=y.1 })
        fun y=>some y.2))))
def iz6:FSpec tb:=⟨[(0,.val 190),(1,.val 3),(2,.val 93),(3,.val 4)],[(0,.val 48)],cz4⟩
theorem nzO:azl ([gzT,gzU]:List (CutSpec tb)) (azE Tryz.f241)=[(50,azZ 50 Tryz.f241),(100,.loop (azk 100 Tryz.f241))]:=by kernel_rfl
theorem kz9:aze Tryz.prog tb 241 iz6:=az2 mixed Tryz.func241 (by kernel_rfl) ezS rfl nzO (.cons rfl kzj rfl (.cons rfl kzk rfl .nil)) (fun x=>by kernel_rfl)
def ezz (x:Int):Option (Bool) :=
 obnd (tz6 x) fun y =>
  brn (decide (y.fst=[83,85,77])) (brn (decide (y.fst=[83,85,77])) (some true) (some false))
   (brn (decide (y.fst=[77,73,78])) (brn (decide (y.fst=[77,73,78])) (some true) (some false))
    (brn (decide (y.fst=[77,65,88])) (brn (decide (y.fst=[77,65,88])) (some true) (some false))
     (brn (decide (y.fst=U8s [67,79,85,78,84])) (brn (decide (y.fst=U8s [67,79,85,78,84])) (some true) (some false))
      (brn (decide (y.fst=U8s [65,86,69,82,65,71,69])) (brn (decide (y.fst=U8s [65,86,69,82,65,71,69])) (some true) (some false))
       (brn (decide (y.fst=[65,78,68])) (brn (decide (y.fst=[65,78,68])) (some true) (some false))
        (brn (decide (y.fst=[79,82])) (brn (decide (y.fst=[79,82])) (some true) (some false))
         (brn (decide (y.fst=U8s [67,79,78,67,65,84])) (brn (decide (y.fst=U8s [67,79,78,67,65,84])) (some true) (some false))
          (brn (decide (y.fst=U8s [73,78,68,69,88])) (some true) (some false)))))))))
def ozd:FSpec tb:=⟨[(0,.val 3)],[(0,.val 4)],ezz⟩
theorem pzA:aze Tryz.prog tb 242 ozd:=azt mixed Tryz.func242 (by kernel_rfl) (.cons tzu .nil) rfl (fun x=>by kernel_rfl)
def bzg (self:Worker×Expr×Bool→Option (Arg)):FSpec tb:=⟨[(0,.val 190),(1,.val 96),(2,.val 4)],[(0,.val 48)],self⟩
abbrev lzF (self:Worker×Expr×Bool→Option (Arg)):List (Nat×FSpec tb):=[(204,(bzg self))]
theorem fzr (self:Worker×Expr×Bool→Option (Arg)) (hself:aze Tryz.prog tb 204 (bzg self)):azz Tryz.prog tb (lzF self):=(.cons hself .nil)
def bzM (self:Worker×Expr×Bool→Option (Arg)) (back:Worker×List (Val)×Bool×List Expr×Int×Int→Option (List (Val)×Bool)) (x:Worker×List (Val)×Bool×List Expr×Int×Int):Option (List (Val)×Bool) :=
 brn (decide (x.2.2.2.2.snd < x.2.2.2.2.fst))
  (obnd (idx x.2.2.2.fst x.2.2.2.2.snd) fun y =>
   obnd (self (x.fst,bzf y,false)) fun y =>
    brn y.Area (back (x.fst,x.2.fst,false,x.2.2.2.fst,x.2.2.2.2.fst,IntKind.i64.wrap (x.2.2.2.2.snd+1)))
     (obnd (idx y.L 0) fun y=>obnd (app 56 x.2.fst [y]) fun zs=>back (x.fst,zs,x.2.2.fst,x.2.2.2.fst,x.2.2.2.2.fst,IntKind.i64.wrap (x.2.2.2.2.snd+1))))
  (some (x.2.fst,x.2.2.fst))
def dzr (self:Worker×Expr×Bool→Option (Arg)):Worker×List (Val)×Bool×List Expr×Int×Int→Option (List (Val)×Bool):=iter (bzM self) big
def fzs (self:Worker×Expr×Bool→Option (Arg)):CutSpec tb:=⟨44,[(2,.ro 190),(6,.own 32),(7,.val 4),(11,.val 94),(12,.val 3),(13,.val 3)],[((.exit 0),[(6,.own 32),(7,.val 4)])],[14,15,16,9,17,18,19,10,20,21,7,22,23,24,25,26,27,28,6,29,13],(dzr self)⟩
theorem izM (self:Worker×Expr×Bool→Option (Arg)):azl ([]:List (CutSpec tb)) (azk 44 Tryz.f243)=[]:=by kernel_rfl
theorem izz (self:Worker×Expr×Bool→Option (Arg)) (hself:aze Tryz.prog tb 204 (bzg self)):azo Tryz.prog tb Tryz.f243.ntmps (.loop (azk 44 Tryz.f243)) (fzs self):=azJ mixed (by kernel_rfl) (fzr self hself) rfl (izM self) .nil (bzM self) (fun back x=>by kernel_rfl) rfl
def czT (self:Worker×Expr×Bool→Option (Arg)) (x:Worker×List Expr):Option (List (Val)×Bool) :=
 obnd ((dzr self) (x.fst,[],true,x.snd,(↑x.snd.length:Int),0)) fun y=>some y
def gzB (self:Worker×Expr×Bool→Option (Arg)):FSpec tb:=⟨[(0,.val 190),(1,.val 94)],[(0,.own 32),(1,.val 4)],czT self⟩
theorem kzl (self:Worker×Expr×Bool→Option (Arg)):azl ([(fzs self)]:List (CutSpec tb)) (azE Tryz.f243)=[(44,.loop (azk 44 Tryz.f243))]:=by kernel_rfl
theorem jzg (self:Worker×Expr×Bool→Option (Arg)) (hself:aze Tryz.prog tb 204 (bzg self)):aze Tryz.prog tb 243 (gzB self):=az2 mixed Tryz.func243 (by kernel_rfl) (fzr self hself) rfl (kzl self) (.cons rfl (izz self hself) rfl .nil) (fun x=>by kernel_rfl)
abbrev qzX (self:Worker×Expr×Bool→Option (Arg)):List (Nat×FSpec tb):=[(25,qz5),(240,ref_AtS),(239,qzP),(241,iz6),(32,dzg),(204,(bzg self)),(242,ozd),(19,rz4),(243,(gzB self)),(40,szb),(30,pz7)]
theorem hzF (self:Worker×Expr×Bool→Option (Arg)) (hself:aze Tryz.prog tb 204 (bzg self)):azz Tryz.prog tb (qzX self):=(.cons nzf (.cons ozW (.cons mz7 (.cons kz9 (.cons azB (.cons hself (.cons pzA (.cons rz9 (.cons (jzg self hself) (.cons szc (.cons qz4 .nil)))))))))))
def czx (self:Worker×Expr×Bool→Option (Arg)) (back:Worker×Expr×List (Arg)×List Expr×Int×Int→Option (List (Arg))) (x:Worker×Expr×List (Arg)×List Expr×Int×Int):Option (List (Arg)) :=
 brn (decide (x.2.2.2.2.snd < x.2.2.2.2.fst))
  (obnd (idx x.2.2.2.fst x.2.2.2.2.snd) fun y =>
   obnd (ezz x.2.fst.Op) fun y_1 =>
    obnd (self (x.fst,bzf y,y_1)) fun y =>
     obnd (app 32 x.2.2.fst [y]) fun zs=>back (x.fst,bzf x.2.fst,zs,x.2.2.2.fst,x.2.2.2.2.fst,IntKind.i64.wrap (x.2.2.2.2.snd+1)))
  (some x.2.2.1)
def dzB (self:Worker×Expr×Bool→Option (Arg)):Worker×Expr×List (Arg)×List Expr×Int×Int→Option (List (Arg)):=iter (czx self) big
def hzG (self:Worker×Expr×Bool→Option (Arg)):CutSpec tb:=⟨180,[(3,.ro 190),(4,.ro 96),(7,.own 48),(109,.val 94),(110,.val 3),(111,.val 3)],[((.exit 1),[(7,.own 48)])],[112,113,114,9,115,116,117,118,119,120,121,122,123,7,124,111],(dzB self)⟩
theorem lzD (self:Worker×Expr×Bool→Option (Arg)):azl ([]:List (CutSpec tb)) (azk 180 Tryz.f204)=[]:=by kernel_rfl
theorem lza (self:Worker×Expr×Bool→Option (Arg)) (hself:aze Tryz.prog tb 204 (bzg self)):azo Tryz.prog tb Tryz.f204.ntmps (.loop (azk 180 Tryz.f204)) (hzG self):=azJ mixed (by kernel_rfl) (hzF self hself) rfl (lzD self) .nil (czx self) (fun back x=>by kernel_rfl) rfl
def azL (self:Worker×Expr×Bool→Option (Arg)) (x:Worker×Expr×Bool):Option (Arg) :=
 brn (decide (x.2.fst.Kind=1)) (obnd (bz2 x.2.fst.V) fun y=>some y)
  (brn (decide (x.2.fst.Kind=2))
   (obnd (iza (x.2.fst.A.A,x.fst.at_.At)) fun y=>obnd (ezR (x.fst.v,{ Sheet:=x.fst.at_.Sheet,At:=y })) fun y=>obnd (bz2 y) fun y=>some y)
   (brn (decide (x.2.fst.Kind=4))
    (obnd (iza (x.2.fst.A.A,x.fst.at_.At)) fun y=>obnd (ezR (x.fst.v,{ Sheet:=x.2.fst.Sheet,At:=y })) fun y=>obnd (bz2 y) fun y=>some y)
    (brn (decide (x.2.fst.Kind=3)) (obnd (cz4 (x.fst,x.fst.at_.Sheet,x.2.fst.A,x.2.snd)) fun y=>some y)
     (brn (decide (x.2.fst.Kind=5)) (obnd (cz4 (x.fst,x.2.fst.Sheet,x.2.fst.A,x.2.snd)) fun y=>some y)
      (brn (decide (x.2.fst.Kind=6))
       (brn (decide (x.2.fst.Op < 0)) (obnd (azm 29) fun y=>obnd (bz2 y) fun y=>some y)
        (brn (decide ((↑x.fst.v.Names.length:Int)≤x.2.fst.Op)) (obnd (azm 29) fun y=>obnd (bz2 y) fun y=>some y)
         (obnd (idx x.fst.v.Names x.2.fst.Op) fun y=>obnd (self (x.fst,bzf y,x.2.snd)) fun y=>some y)))
       (brn (decide (x.2.fst.Kind=10)) (obnd (idx x.2.fst.Kids 0) fun y=>obnd (self (x.fst,bzf y,x.2.snd)) fun y=>some y)
        (brn (decide (x.2.fst.Kind=9))
         (obnd ((dzB self) (x.fst,bzf x.2.fst,[],x.2.fst.Kids,(↑x.2.fst.Kids.length:Int),0)) fun y =>
          obnd (dzc (x.2.fst.Op,y)) fun y=>obnd (bz2 y) fun y=>some y)
         (obnd ((czT self) (x.fst,x.2.fst.Kids)) fun y =>
          brn (!y.snd) (obnd (azm 15) fun y=>obnd (bz2 y) fun y=>some y)
           (brn (decide (x.2.fst.Kind=7)) (obnd (idx y.fst 0) fun y=>obnd (sza (x.2.fst.Op,y)) fun y=>obnd (bz2 y) fun y=>some y)
            (obnd (idx y.fst 0) fun y_1=>obnd (idx y.fst 1) fun y=>obnd (fz7 (x.2.fst.Op,y_1,y)) fun y=>obnd (bz2 y) fun y=>some y))))))))))
theorem oze (self:Worker×Expr×Bool→Option (Arg)):azl ([(hzG self)]:List (CutSpec tb)) (azE Tryz.f204)=[(180,.loop (azk 180 Tryz.f204))]:=by kernel_rfl
theorem mzu (self:Worker×Expr×Bool→Option (Arg)) (hself:aze Tryz.prog tb 204 (bzg self)):aze Tryz.prog tb 204 (bzg (azL self)):=az2 mixed Tryz.func204 (by kernel_rfl) (hzF self hself) rfl (oze self) (.cons rfl (lza self hself) rfl .nil) (fun x=>by kernel_rfl)
def gzv:Worker×Expr×Bool→Option (Arg):=iter azL big
def qzY:FSpec tb:=bzg gzv
theorem lzE:aze Tryz.prog tb 204 qzY:=fn_it (nz6 Tryz.func204 (by kernel_rfl)) mzu
def dzX (x:Worker×Expr):Option (Val) :=
 obnd (gzv (x.fst,bzf x.snd,false)) fun y =>
  brn y.Area (obnd (azm 15) fun y=>some y)
   (obnd (idx y.L 0) fun y_1 =>
    brn (decide (y_1.Kind=0)) (obnd (bzA 0) fun y=>some { Kind:=1,N:=y,S:=[],B:=false,E:=0 }) (obnd (idx y.L 0) fun y=>some y))
def izA:FSpec tb:=⟨[(0,.val 190),(1,.val 96)],[(0,.val 32)],dzX⟩
theorem fzT:aze Tryz.prog tb 123 izA:=azt mixed Tryz.func123 (by kernel_rfl) (.cons lzE (.cons azB (.cons czs .nil))) rfl (fun x=>by kernel_rfl)
abbrev wzk:List (Nat×FSpec tb):=[(123,izA)]
theorem lzz:azz Tryz.prog tb (wzk):=(.cons fzT .nil)
def lzB (back:Int×Int×Expr×Env×Place×List (Val)×Int×Int→Option (List (Val))) (x:Int×Int×Expr×Env×Place×List (Val)×Int×Int):Option (List (Val)) :=
 brn (decide (x.2.2.2.2.2.2.snd < x.2.2.2.2.2.2.fst))
  (obnd (dzX ({ v:=x.2.2.2.fst,at_:=x.2.2.2.2.fst,rows:=x.fst,cols:=x.2.fst,cell:=x.2.2.2.2.2.2.snd },bzf x.2.2.fst)) fun y =>
   obnd (app 56 x.2.2.2.2.2.fst [y]) fun zs=>back (x.fst,x.2.fst,bzf x.2.2.fst,x.2.2.2.fst,x.2.2.2.2.fst,zs,x.2.2.2.2.2.2.fst,IntKind.i64.wrap (x.2.2.2.2.2.2.snd+1)))
  (some x.2.2.2.2.2.1)
def lzC:Int×Int×Expr×Env×Place×List (Val)×Int×Int→Option (List (Val)):=iter lzB big
def lzA:CutSpec tb:=⟨52,[(3,.val 3),(4,.val 3),(5,.ro 96),(6,.ro 100),(7,.ro 88),(11,.own 32),(27,.val 3),(28,.val 3)],[((.exit 0),[(11,.own 32)])],[29,30,12,31,32,33,34,35,36,37,38,39,40,41,11,42,28],lzC⟩
theorem qzV:azl ([]:List (CutSpec tb)) (azk 52 Tryz.f115)=[]:=by kernel_rfl
theorem pzz:azo Tryz.prog tb Tryz.f115.ntmps (.loop (azk 52 Tryz.f115)) (lzA):=azJ mixed (by kernel_rfl) lzz rfl qzV .nil lzB (fun back x=>by kernel_rfl) rfl
def izm (x:Expr×Env×Place×Int×Int):Option (List (Val)) :=
 brn (decide (x.2.2.2.fst < 1)) (some [])
  (brn (decide (x.2.2.2.snd < 1)) (some [])
   (brn (decide (x.2.2.2.snd=0)) none
    (brn (decide (IntKind.i64.wrap (Int.tdiv 4096 x.2.2.2.snd) < x.2.2.2.fst)) (some [])
     (obnd (lzC (x.2.2.2.fst,x.2.2.2.snd,bzf x.fst,x.2.fst,x.2.2.fst,[],IntKind.i64.wrap (x.2.2.2.fst*x.2.2.2.snd),0)) fun y=>some y))))
def wzl:FSpec tb:=⟨[(0,.val 96),(1,.val 100),(2,.val 88),(3,.val 3),(4,.val 3)],[(0,.own 32)],izm⟩
theorem uzF:azl ([lzA]:List (CutSpec tb)) (azE Tryz.f115)=[(52,.loop (azk 52 Tryz.f115))]:=by kernel_rfl
theorem qzW:aze Tryz.prog tb 115 wzl:=az2 mixed Tryz.func115 (by kernel_rfl) lzz rfl uzF (.cons rfl pzz rfl .nil) (fun x=>by kernel_rfl)
def bzB (x:Expr×Env×Place):Option (Val) :=
 obnd (dzX ({ v:=x.2.fst,at_:=x.2.snd,rows:=0,cols:=0,cell:=0 },bzf x.fst)) fun y=>some y
def rz1:FSpec tb:=⟨[(0,.val 96),(1,.val 100),(2,.val 88)],[(0,.val 32)],bzB⟩
theorem kzy:aze Tryz.prog tb 44 rz1:=azt mixed Tryz.func44 (by kernel_rfl) (.cons fzT .nil) rfl (fun x=>by kernel_rfl)
def uzc (x:Int×Int):Option (Expr) :=
  some
    { Kind := 2, V := { Kind := 0, N := { M := 0, S := 0 }, S := [], B := false, E := 0 },
      A := { A := { Row := x.fst, Col := x.snd, RelRow := false, RelCol := false }, B := { Row := 0, Col := 0, RelRow := false, RelCol := false } }, Sheet := 0, Op := 0, Kids := [] }
def law10_AtS:FSpec tb:=⟨[(0,.val 3),(1,.val 3)],[(0,.val 96)],uzc⟩
theorem tzJ:aze Tryz.prog tb 116 law10_AtS:=azt mixed Tryz.func116 (by kernel_rfl) .nil rfl (fun x=>by kernel_rfl)
end
end Go.Proofs.YtdgpkbnnljblmaaGreatDoor

/- Y0 -/
namespace Go.Proofs.YtdgpkbnnljblmaaGreatDoor
open Go Go.Ev Go.Lib
def bzC {A S Y:Type} (step:S→A→S⊕Y) (fin:S→Y):S→List A→Y
 | s,[]=>fin s
 | s,a :: l=>match step s a with
  | .inl s'=>bzC step fin s' l
  | .inr y=>y
def jzc {S Y Z:Type} (b:S→Option Z) (g:Y→Z):S⊕Y→Option Z
 | .inl s=>b s
 | .inr y=>some (g y)
theorem bz3 {A S X Y Z:Type} {F:(X→Option Z)→X→Option Z} (mk:S→Nat→X) (g:Y→Z) (l:List A) (step:S→A→S⊕Y) (fin:S→Y) (Pre:S→Nat→Prop)
 (hl:l.length≤1000000000)
 (h:∀ back s i (hi:i < l.length),Pre s i→F back (mk s i)=jzc (fun s'=>back (mk s' (i+1))) g (step s l[i]))
 (hp:∀ s i (hi:i < l.length) s',Pre s i→step s l[i] = .inl s'→Pre s' (i+1))
 (hend:∀ back s,Pre s l.length→F back (mk s l.length)=some (g (fin s))) (s:S) (h0:Pre s 0):iter F big (mk s 0)=some (g (bzC step fin s l)):=by
 have key:∀ k n i s,i+k=l.length→k < n→Pre s i→iter F n (mk s i)=some (g (bzC step fin s (l.drop i))):=by
  intro k;induction k with
  | zero =>
   intro n i s hi hn hs;obtain ⟨m,rfl⟩:∃ m,n=m+1:=⟨n - 1,by omega⟩;have:i=l.length:=by omega
   subst this;rw [bzN,hend _ _ hs,List.drop_length];rfl
  | succ k ih =>
   intro n i s hi hn hs;obtain ⟨m,rfl⟩:∃ m,n=m+1:=⟨n - 1,by omega⟩;have hlt:i < l.length:=by omega
   rw [bzN,h _ _ _ hlt hs,List.drop_eq_getElem_cons hlt];simp only [bzC];cases hst:step s l[i] with
   | inl s'=>exact ih m (i+1) s' (by omega) (by omega) (hp _ _ hlt _ hs hst)
   | inr y=>rfl
 have:=key l.length big 0 s (by omega) (by rw [lzo];omega) h0;simpa using this
theorem tz5 {A X Z:Type} {F:(X→Option Z)→X→Option Z} (mk:Nat→X) (g:Option Nat→Z) (l:List A) (p:A→Bool) (hl:l.length≤1000000000)
 (h:∀ back i (hi:i < l.length),F back (mk i)=bif p l[i] then some (g (some i)) else back (mk (i+1)))
 (hend:∀ back,F back (mk l.length)=some (g none)):iter F big (mk 0)=some (g (l.findIdx? p)):=by
 have key:∀ k n i,i+k=l.length→k < n→iter F n (mk i)=some (g (((l.drop i).findIdx? p).map (·+i))):=by
  intro k;induction k with
  | zero =>
   intro n i hi hn;obtain ⟨m,rfl⟩:∃ m,n=m+1:=⟨n - 1,by omega⟩;have:i=l.length:=by omega
   subst this;rw [bzN,hend,List.drop_length];rfl
  | succ k ih =>
   intro n i hi hn;obtain ⟨m,rfl⟩:∃ m,n=m+1:=⟨n - 1,by omega⟩;have hlt:i < l.length:=by omega
   rw [bzN,h _ _ hlt,List.drop_eq_getElem_cons hlt,List.findIdx?_cons];cases hpl:p l[i] with
   | true=>simp
   | false =>
    simp only [cond_false];rw [ih m (i+1) (by omega) (by omega)];simp only [Bool.false_eq_true,if_false,Option.map_map];congr 3;funext j;simp only [Function.comp];omega
 have:=key l.length big 0 (by omega) (by rw [lzo];omega);simpa using this
theorem idxG {A:Type} {l:List A} {i:Nat} (hi:i < l.length):idx l (i:Int)=some l[i]:=by simp [idx,hi]
theorem idxZ {A:Type} {a:A} {l:List A}:idx (a :: l) 0=some a:=rfl
theorem wr1 {i:Nat} (h:i < 1000000000):IntKind.i64.wrap ((i:Int)+1)=((i+1:Nat):Int):=by
 simp [IntKind.wrap,IntKind.bits,IntKind.signed];omega
theorem ltT {i n:Nat} (h:i < n):decide ((i:Int) < (n:Int))=true:=decide_eq_true (by omega)
theorem ltF {n:Nat}:decide ((n:Int) < (n:Int))=false:=decide_eq_false (by omega)
theorem vzS {A:Type} (p:A→Bool) (l:List A):(l.findIdx? p).isSome=l.any p:=by
 simp [List.findIdx?_isSome]
end Go.Proofs.YtdgpkbnnljblmaaGreatDoor

/- PP -/
namespace Go.Proofs.YtdgpkbnnljblmaaGreatDoor
open Go Go.Ev
def azy:Int→Nat→Int×Nat
 | v,0=>(v,0)
 | v,p+1=>if v % 10=0 then azy (v / 10) p else (v,p+1)
theorem mzT:∀ (p:Nat) (v:Int),(azy v p).2≤p
 | 0,_=>Nat.le_refl _
 | p+1,v=>by
  unfold azy;split
  ·have:=mzT p (v / 10);omega
  ·exact Nat.le_refl _
theorem uzp:∀ (p:Nat) (v:Int),(azy v p).1*10 ^ (p - (azy v p).2)=v
 | 0,v=>by simp [azy]
 | p+1,v=>by
  unfold azy;split
  ·rename_i h;have h1:=uzp p (v / 10);have h2:=mzT p (v / 10);rw [show p+1 - (azy (v / 10) p).2=(p - (azy (v / 10) p).2)+1 by omega,Int.pow_succ,← Int.mul_assoc,h1];omega
  ·simp
theorem szZ:∀ (p:Nat) (v:Int),0 < (azy v p).2→¬ (azy v p).1 % 10=0
 | 0,v,h=>by simp [azy] at h
 | p+1,v,h=>by
  unfold azy at h ⊢;split
  ·rename_i h0;rw [if_pos h0] at h;exact szZ p (v / 10) h
  ·assumption
theorem xzz:∀ (s:Nat) (m:Int),(0 < s→¬ m % 10=0)→azy m s=(m,s)
 | 0,m,_=>rfl
 | s+1,m,h=>by
  unfold azy;rw [if_neg (h (by omega))]
theorem vzM:∀ (k s:Nat) (m:Int),(0 < s→¬ m % 10=0)→azy (m*10 ^ k) (s+k)=(m,s)
 | 0,s,m,h=>by simpa using xzz s m h
 | k+1,s,m,h=>by
  have e:m*10 ^ (k+1)=(m*10 ^ k)*10:=by rw [Int.pow_succ,Int.mul_assoc]
  rw [e,← Nat.add_assoc];unfold azy;rw [if_pos (by omega),show m*10 ^ k*10 / 10=m*10 ^ k by omega];exact vzM k s m h
def okD (d:Dec):Prop:=0≤d.S∧d.S≤9∧(0 < d.S→¬ d.M % 10=0)
def V (d:Dec):Int:=d.M*10 ^ (9 - d.S.toNat)
def I64 (n:Int):Prop:=-9223372036854775808≤n∧n≤9223372036854775807
instance (n:Int):Decidable (I64 n):=inferInstanceAs (Decidable (_∧_))
def decV (v:Int) (p:Nat):Dec×Int:=if I64 (azy v p).1 then (⟨(azy v p).1,((azy v p).2:Int)⟩,0) else (⟨0,0⟩,8)
theorem V_strip (v:Int) (p:Nat) (hp:p≤9):V ⟨(azy v p).1,((azy v p).2:Int)⟩=v*10 ^ (9 - p):=by
 unfold V;simp only [Int.toNat_natCast];have h1:=mzT p v;have h2:=uzp p v;rw [show 9 - (azy v p).2=(p - (azy v p).2)+(9 - p) by omega,Int.pow_add,← Int.mul_assoc,h2]
theorem ok_strip (v:Int) (p:Nat) (hp:p≤9):okD ⟨(azy v p).1,((azy v p).2:Int)⟩:=by
 have h1:=mzT p v;have h2:=szZ p v;refine ⟨by simp,by simp only;omega,fun h=>h2 (by simp only at h;omega)⟩
theorem strip_V {d:Dec} (h:okD d):azy (V d) 9=(d.M,d.S.toNat):=by
 obtain ⟨h1,h2,h3⟩:=h;unfold V;have:=vzM (9 - d.S.toNat) d.S.toNat d.M (fun h=>h3 (by omega));rwa [show d.S.toNat+(9 - d.S.toNat)=9 by omega] at this
theorem decV_V {d:Dec} (h:okD d) (hm:I64 d.M):decV (V d) 9=(d,0):=by
 unfold decV;rw [strip_V h];simp only;rw [if_pos hm,Int.toNat_of_nonneg h.1]
theorem decV_ok {v:Int} {p:Nat} {d:Dec} (hp:p≤9) (h:decV v p=(d,0)):okD d∧I64 d.M∧V d=v*10 ^ (9 - p):=by
 unfold decV at h;split at h
 ·rename_i hi;simp only [Prod.mk.injEq,and_true] at h;subst h;exact ⟨ok_strip v p hp,hi,V_strip v p hp⟩
 ·simp at h
theorem uzo:∀ (p:Nat) (v:Int),-v.natAbs≤(azy v p).1∧(azy v p).1≤v.natAbs
 | 0,v=>by simp only [azy];omega
 | p+1,v=>by
  unfold azy;split
  ·have:=uzo p (v / 10);omega
  ·omega
def rdiv (v n:Int):Int:=if n≤2*(v % n) then v / n+1 else v / n
def cmpV (x y:Int):Int:=if x < y then -1 else if y < x then 1 else 0
theorem u64 (n:Int):IntKind.u64.wrap n=n % 18446744073709551616:=by simp [IntKind.wrap,IntKind.bits,IntKind.signed]
theorem i64 (n:Int):IntKind.i64.wrap n=(n+9223372036854775808) % 18446744073709551616 - 9223372036854775808:=IntKind.wrap_i64 n
theorem azS {n:Int} (h0:0≤n) (h1:n < 18446744073709551616):IntKind.u64.wrap n=n:=by rw [u64];omega
theorem azw {n:Int} (h0:-9223372036854775808≤n) (h1:n≤9223372036854775807):IntKind.i64.wrap n=n:=by rw [i64];omega
theorem and32 {x:Int} (h0:0≤x) (h1:x < 18446744073709551616):azA .and .u64 x 4294967295=x % 4294967296:=by
 obtain ⟨n,rfl⟩:=Int.eq_ofNat_of_zero_le h0;simp only [azA];rw [BitVec.toNat_and,show (4294967295:Int)=((4294967295:Nat):Int) from rfl,BitVec.ofInt_natCast,BitVec.ofInt_natCast,BitVec.toNat_ofNat,BitVec.toNat_ofNat,u64];have e1:n % 2 ^ IntKind.u64.bits=n:=Nat.mod_eq_of_lt (by simp only [IntKind.bits];omega);have e2:4294967295 % 2 ^ IntKind.u64.bits=2 ^ 32 - 1:=by decide
 rw [e1,e2,Nat.and_two_pow_sub_one_eq_mod];omega
theorem or_low {a b:Int} {s:Nat} (ha:0≤a) (hb:0≤b) (hb2:b < 2 ^ s) (h:a*2 ^ s+b < 18446744073709551616):azA .or .u64 (a*2 ^ s) b=a*2 ^ s+b:=by
 obtain ⟨m,rfl⟩:=Int.eq_ofNat_of_zero_le ha;obtain ⟨n,rfl⟩:=Int.eq_ofNat_of_zero_le hb;have c:((2:Int) ^ s)=((2 ^ s:Nat):Int):=by simp
 rw [c] at *;have hb3:n < 2 ^ s:=Int.ofNat_lt.1 hb2;simp only [azA];rw [BitVec.toNat_or,← Int.natCast_mul,BitVec.ofInt_natCast,BitVec.ofInt_natCast,BitVec.toNat_ofNat,BitVec.toNat_ofNat,u64];have h':((m*2 ^ s:Nat):Int)+n < 18446744073709551616:=by rw [Int.natCast_mul];simpa using h
 generalize hp:m*2 ^ s=p at *;have e1:p % 2 ^ IntKind.u64.bits=p:=Nat.mod_eq_of_lt (by simp only [IntKind.bits];omega);have e2:n % 2 ^ IntKind.u64.bits=n:=Nat.mod_eq_of_lt (by simp only [IntKind.bits];omega);rw [e1,e2,← hp,← Nat.shiftLeft_eq,← Nat.shiftLeft_add_eq_or_of_lt hb3,Nat.shiftLeft_eq,hp];omega
theorem hza {a b c d:Int} (ha:0≤a) (hb:0≤b) (h1:a≤c) (h2:b≤d):a*b≤c*d :=
 Int.le_trans (Int.mul_le_mul_of_nonneg_right h1 hb) (Int.mul_le_mul_of_nonneg_left h2 (by omega))
theorem fzx {a b:Int} (ha:0≤a) (hb:0≤b):0≤a*b:=Int.mul_nonneg ha hb
theorem mul_core (p11 p10 p01 p00:Int) :
 (p11+(p10+p00 / 4294967296) / 4294967296+((p10+p00 / 4294967296) % 4294967296+p01) / 4294967296) =
  (p11*18446744073709551616+(p10+p01)*4294967296+p00) / 18446744073709551616:=by omega
theorem Mul64_is {x y:Int} (hx0:0≤x) (hx:x < 18446744073709551616) (hy0:0≤y) (hy:y < 18446744073709551616) :
 fz3 (x,y)=some (x*y / 18446744073709551616,x*y % 18446744073709551616):=by
 unfold fz3;simp only [and32 hx0 hx,and32 hy0 hy];rw [Int.fdiv_eq_ediv_of_nonneg x (by omega),Int.fdiv_eq_ediv_of_nonneg y (by omega)];obtain ⟨x1,e1⟩:∃ n,x / 4294967296=n:=⟨_,rfl⟩;obtain ⟨x0,e0⟩:∃ n,x % 4294967296=n:=⟨_,rfl⟩;obtain ⟨y1,f1⟩:∃ n,y / 4294967296=n:=⟨_,rfl⟩;obtain ⟨y0,f0⟩:∃ n,y % 4294967296=n:=⟨_,rfl⟩;have hxe:x=x1*4294967296+x0:=by omega
 have hye:y=y1*4294967296+y0:=by omega
 have bx1:0≤x1∧x1≤4294967295:=by omega
 have bx0:0≤x0∧x0≤4294967295:=by omega
 have by1:0≤y1∧y1≤4294967295:=by omega
 have by0:0≤y0∧y0≤4294967295:=by omega
 rw [e1,e0,f1,f0];have hxy:x*y=x1*y1*18446744073709551616+(x1*y0+x0*y1)*4294967296+x0*y0:=by
  rw [hxe,hye,Int.add_mul,Int.mul_add,Int.mul_add,Int.add_mul];have a1:x1*4294967296*(y1*4294967296)=x1*y1*18446744073709551616:=by
   rw [Int.mul_assoc,Int.mul_left_comm 4294967296,← Int.mul_assoc];rfl
  have a2:x1*4294967296*y0=x1*y0*4294967296:=by rw [Int.mul_assoc,Int.mul_comm 4294967296,← Int.mul_assoc]
  have a3:x0*(y1*4294967296)=x0*y1*4294967296:=by rw [Int.mul_assoc]
  rw [a1,a2,a3];omega
 have k11:x1*y1≤4294967295*4294967295:=hza bx1.1 by1.1 bx1.2 by1.2;have k10:x1*y0≤4294967295*4294967295:=hza bx1.1 by0.1 bx1.2 by0.2;have k01:x0*y1≤4294967295*4294967295:=hza bx0.1 by1.1 bx0.2 by1.2;have k00:x0*y0≤4294967295*4294967295:=hza bx0.1 by0.1 bx0.2 by0.2;have n11:=fzx bx1.1 by1.1;have n10:=fzx bx1.1 by0.1;have n01:=fzx bx0.1 by1.1;have n00:=fzx bx0.1 by0.1;rw [hxy];generalize x1*y1=p11 at *;generalize x1*y0=p10 at *;generalize x0*y1=p01 at *;generalize x0*y0=p00 at *;have hc:=mul_core p11 p10 p01 p00;have w00:IntKind.u64.wrap p00=p00:=azS n00 (by omega);have w10:IntKind.u64.wrap p10=p10:=azS n10 (by omega);have w01:IntKind.u64.wrap p01=p01:=azS n01 (by omega);have w11:IntKind.u64.wrap p11=p11:=azS n11 (by omega);rw [w00,w10,w01,w11,Int.fdiv_eq_ediv_of_nonneg p00 (by omega)];have t0:IntKind.u64.wrap (p10+p00 / 4294967296)=p10+p00 / 4294967296:=azS (by omega) (by omega);rw [t0,and32 (by omega) (by omega),Int.fdiv_eq_ediv_of_nonneg (p10+p00 / 4294967296) (by omega)];have t1:IntKind.u64.wrap ((p10+p00 / 4294967296) % 4294967296+p01)=(p10+p00 / 4294967296) % 4294967296+p01:=azS (by omega) (by omega);rw [t1,Int.fdiv_eq_ediv_of_nonneg ((p10+p00 / 4294967296) % 4294967296+p01) (by omega)];have t2:IntKind.u64.wrap (p11+(p10+p00 / 4294967296) / 4294967296)=p11+(p10+p00 / 4294967296) / 4294967296:=azS (by omega) (by omega);rw [t2,hc,azS (by omega) (by omega),u64]
theorem vzq {F:(Int×Int→Option Int)→Int×Int→Option Int} {u d y1 y0:Int}
 (hu0:0≤u) (hd0:0≤d) (hd:d < 4294967296) (hy1:2147483648≤y1) (hy1':y1 < 4294967296) (hy0:0≤y0) (hy0':y0 < 4294967296) (hu:u < y1*4294967296+y0)
 (hF:∀ back q r,0≤q→q≤4294967297→0≤r→r < 4294967296→F back (q,r) =
  if 4294967296≤q∨4294967296*r+d < q*y0 then (if 4294967296≤r+y1 then some (q - 1) else back (q - 1,r+y1)) else some q) :
 iter F big (u / y1,u % y1)=some ((u*4294967296+d) / (y1*4294967296+y0)):=by
 have hyn:0 < y1*4294967296+y0:=by omega
 obtain ⟨Q,hQ⟩:∃ Q,(u*4294967296+d) / (y1*4294967296+y0)=Q:=⟨_,rfl⟩;have hQ1:Q*(y1*4294967296+y0)≤u*4294967296+d:=by rw [← hQ];exact Int.ediv_mul_le _ (by omega)
 have hQ0:0≤Q:=by rw [← hQ];exact Int.ediv_nonneg (by omega) (by omega)
 have hQB:Q < 4294967296:=by rw [← hQ];exact (Int.ediv_lt_iff_lt_mul hyn).2 (by omega)
 have hle:∀ q:Int,q*(y1*4294967296+y0)≤u*4294967296+d→q≤Q:=fun q h=>by
  rw [← hQ];exact (Int.le_ediv_iff_mul_le hyn).2 h
 have ex:∀ q:Int,q*(y1*4294967296+y0)=q*y1*4294967296+q*y0:=fun q=>by rw [Int.mul_add,Int.mul_assoc]
 rw [hQ];refine mzD (fun x=>x.1.toNat) (fun x=>x.2=u - x.1*y1∧0≤x.2∧x.2 < 4294967296∧Q≤x.1∧x.1≤4294967297) (fun _=>Q) ?_ _ ?_ ?_
 ·intro back x hp hback;obtain ⟨q,r⟩:=x;obtain ⟨h1,h2,h3,h4,h5⟩:=hp;simp only at h1 h2 h3 h4 h5 hback;rw [hF back q r (by omega) h5 h2 h3];by_cases hc:4294967296≤q∨4294967296*r+d < q*y0
  ·have hlt:Q < q:=by
    rcases hc with hc | hc
    ·omega
    ·by_cases h:Q < q
     ·exact h
     ·have hqQ:q=Q:=by omega
      subst hqQ;rw [ex] at hQ1;omega
   rw [if_pos hc];have hs:(q - 1)*y1=q*y1 - y1:=by rw [Int.sub_mul];omega
   by_cases hr:4294967296≤r+y1
   ·rw [if_pos hr];have:q - 1≤Q:=by
     apply hle;rw [ex,hs];have:(q - 1)*y0≤4294967296*4294967296:=hza (by omega) hy0 (by omega) (by omega);omega
    simp only [Option.some.injEq];omega
   ·rw [if_neg hr];exact hback (q - 1,r+y1) ⟨by simp only;omega,by simp only;omega,by simp only;omega,by simp only;omega,by simp only;omega⟩ (by simp only;omega)
  ·rw [if_neg hc];have:q≤Q:=by
    apply hle;rw [ex];omega
   simp only [Option.some.injEq];omega
 ·have hm:=Int.emod_nonneg u (show y1≠0 by omega);have hm2:=Int.emod_lt_of_pos u (show 0 < y1 by omega);have hdm:=Int.mul_ediv_add_emod u y1;have hc:=Int.mul_comm y1 (u / y1);refine ⟨by simp only;omega,hm,by simp only;omega,?_,?_⟩
  ·refine (Int.le_ediv_iff_mul_le (by omega)).2 ?_;rw [ex] at hQ1;have:=fzx hQ0 hy0;omega
  ·have:u / y1 < 4294967298:=(Int.ediv_lt_iff_lt_mul (by omega)).2 (by omega);simp only;omega
 ·have:u / y1 < 4294967298:=(Int.ediv_lt_iff_lt_mul (by omega)).2 (by omega);simp only;omega
theorem l1_is {back:Int×Int×Int×Int×Int→Option Int} {y1 y0 d q r:Int} (hd0:0≤d) (hd:d < 4294967296) (_:2147483648≤y1) (hy1':y1 < 4294967296) (hy0:0≤y0) (hy0':y0 < 4294967296)
 (hq0:0≤q) (hq:q≤4294967297) (hr0:0≤r) (hr:r < 4294967296) :
 ezt back (y1,y0,d,q,r)=if 4294967296≤q∨4294967296*r+d < q*y0 then (if 4294967296≤r+y1 then some (q - 1) else back (y1,y0,d,q - 1,r+y1)) else some q:=by
 unfold ezt;simp only;rw [azS (n:=r+y1) (by omega) (by omega)];by_cases h:4294967296≤q
 ·rw [azS (n:=q - 1) (by omega) (by omega)];simp only [h,decide_true,azc,true_or,if_true];by_cases h2:4294967296≤r+y1<;>simp [h2]
 ·have:q*y0≤4294967295*4294967295:=hza hq0 hy0 (by omega) (by omega);have n:=fzx hq0 hy0;simp only [h,decide_false,azb,false_or];rw [azS (n:=4294967296*r) (by omega) (by omega),azS (n:=4294967296*r+d) (by omega) (by omega),azS (n:=q*y0) n (by omega)];by_cases h3:4294967296*r+d < q*y0
  ·have:q≠0:=fun h0=>by subst h0;omega
   rw [azS (n:=q - 1) (by omega) (by omega)];simp only [h3,decide_true,azc,if_true];by_cases h2:4294967296≤r+y1<;>simp [h2]
  ·simp [h3]
theorem l2_is {back:Int×Int×Int×Int×Int→Option Int} {y1 y0 d q r:Int} (hd0:0≤d) (hd:d < 4294967296) (_:2147483648≤y1) (hy1':y1 < 4294967296) (hy0:0≤y0) (hy0':y0 < 4294967296)
 (hq0:0≤q) (hq:q≤4294967297) (hr0:0≤r) (hr:r < 4294967296) :
 ezu back (y1,y0,d,r,q)=if 4294967296≤q∨4294967296*r+d < q*y0 then (if 4294967296≤r+y1 then some (q - 1) else back (y1,y0,d,r+y1,q - 1)) else some q:=by
 unfold ezu;simp only;rw [azS (n:=r+y1) (by omega) (by omega)];by_cases h:4294967296≤q
 ·rw [azS (n:=q - 1) (by omega) (by omega)];simp only [h,decide_true,azc,true_or,if_true];by_cases h2:4294967296≤r+y1<;>simp [h2]
 ·have:q*y0≤4294967295*4294967295:=hza hq0 hy0 (by omega) (by omega);have n:=fzx hq0 hy0;simp only [h,decide_false,azb,false_or];rw [azS (n:=4294967296*r) (by omega) (by omega),azS (n:=4294967296*r+d) (by omega) (by omega),azS (n:=q*y0) n (by omega)];by_cases h3:4294967296*r+d < q*y0
  ·have:q≠0:=fun h0=>by subst h0;omega
   rw [azS (n:=q - 1) (by omega) (by omega)];simp only [h3,decide_true,azc,if_true];by_cases h2:4294967296≤r+y1<;>simp [h2]
  ·simp [h3]
theorem rzk {X Y Z:Type} {F:(X→Option Y)→X→Option Y} {G:(Z→Option Y)→Z→Option Y} (e:Z→X) (ok:Z→Prop)
 (h:∀ back back' z,ok z→(∀ z',ok z'→back (e z')=back' z')→F back (e z)=G back' z):∀ n z,ok z→iter F n (e z)=iter G n z
 | 0,z,_=>by rw [gzD,gzD]
 | n+1,z,hz=>by
  rw [bzN,bzN];exact h _ _ z hz fun z' hz'=>rzk e ok h n z' hz'
def guess (y1 y0 d:Int) (back:Int×Int→Option Int) (z:Int×Int):Option Int :=
 if 0≤z.1∧z.1≤4294967297∧0≤z.2∧z.2 < 4294967296 then
  if 4294967296≤z.1∨4294967296*z.2+d < z.1*y0 then (if 4294967296≤z.2+y1 then some (z.1 - 1) else back (z.1 - 1,z.2+y1)) else some z.1
 else none
theorem mzA {y1 y0 d:Int} {back:Int×Int→Option Int} {z:Int×Int} (h:0≤z.1∧z.1≤4294967297∧0≤z.2∧z.2 < 4294967296):guess y1 y0 d back z =
 if 4294967296≤z.1∨4294967296*z.2+d < z.1*y0 then (if 4294967296≤z.2+y1 then some (z.1 - 1) else back (z.1 - 1,z.2+y1)) else some z.1:=if_pos h
theorem l1_guess {u d y1 y0:Int} (hu0:0≤u) (hd0:0≤d) (hd:d < 4294967296) (hy1:2147483648≤y1) (hy1':y1 < 4294967296) (hy0:0≤y0) (hy0':y0 < 4294967296) (hu:u < y1*4294967296+y0) :
 fzI (y1,y0,d,u / y1,u % y1)=some ((u*4294967296+d) / (y1*4294967296+y0)):=by
 have h:=vzq (F:=guess y1 y0 d) hu0 hd0 hd hy1 hy1' hy0 hy0' hu fun back q r h1 h2 h3 h4=>by
  rw [mzA ⟨h1,h2,h3,h4⟩]
 have hlt:u / y1 < 4294967298:=(Int.ediv_lt_iff_lt_mul (by omega)).2 (by omega);have hnn:0≤u / y1:=Int.ediv_nonneg hu0 (by omega);have hm:=Int.emod_nonneg u (show y1≠0 by omega);have hm2:=Int.emod_lt_of_pos u (show 0 < y1 by omega);rw [← h];refine rzk (F:=ezt) (fun z:Int×Int=>(y1,y0,d,z.1,z.2)) (fun z=>0≤z.1∧z.1≤4294967297∧0≤z.2∧z.2 < 4294967296) ?_ big (u / y1,u % y1) ⟨hnn,by simp only;omega,hm,by simp only;omega⟩;intro back back' z hz hb;obtain ⟨h1,h2,h3,h4⟩:=hz;rw [l1_is hd0 hd hy1 hy1' hy0 hy0' h1 h2 h3 h4];rw [mzA ⟨h1,h2,h3,h4⟩];by_cases hc:4294967296≤z.1∨4294967296*z.2+d < z.1*y0
 ·rw [if_pos hc,if_pos hc];by_cases hr:4294967296≤z.2+y1
  ·rw [if_pos hr,if_pos hr]
  ·rw [if_neg hr,if_neg hr];refine hb (z.1 - 1,z.2+y1) ⟨?_,by simp only;omega,by simp only;omega,by simp only;omega⟩;rcases hc with hc | hc
   ·simp only;omega
   ·by_cases h0:z.1=0
    ·rw [h0] at hc;omega
    ·simp only;omega
 ·rw [if_neg hc,if_neg hc]
theorem l2_guess {u d y1 y0:Int} (hu0:0≤u) (hd0:0≤d) (hd:d < 4294967296) (hy1:2147483648≤y1) (hy1':y1 < 4294967296) (hy0:0≤y0) (hy0':y0 < 4294967296) (hu:u < y1*4294967296+y0) :
 fzJ (y1,y0,d,u % y1,u / y1)=some ((u*4294967296+d) / (y1*4294967296+y0)):=by
 have h:=vzq (F:=guess y1 y0 d) hu0 hd0 hd hy1 hy1' hy0 hy0' hu fun back q r h1 h2 h3 h4=>by
  rw [mzA ⟨h1,h2,h3,h4⟩]
 have hlt:u / y1 < 4294967298:=(Int.ediv_lt_iff_lt_mul (by omega)).2 (by omega);have hnn:0≤u / y1:=Int.ediv_nonneg hu0 (by omega);have hm:=Int.emod_nonneg u (show y1≠0 by omega);have hm2:=Int.emod_lt_of_pos u (show 0 < y1 by omega);rw [← h];refine rzk (F:=ezu) (fun z:Int×Int=>(y1,y0,d,z.2,z.1)) (fun z=>0≤z.1∧z.1≤4294967297∧0≤z.2∧z.2 < 4294967296) ?_ big (u / y1,u % y1) ⟨hnn,by simp only;omega,hm,by simp only;omega⟩;intro back back' z hz hb;obtain ⟨h1,h2,h3,h4⟩:=hz;rw [l2_is hd0 hd hy1 hy1' hy0 hy0' h1 h2 h3 h4];rw [mzA ⟨h1,h2,h3,h4⟩];by_cases hc:4294967296≤z.1∨4294967296*z.2+d < z.1*y0
 ·rw [if_pos hc,if_pos hc];by_cases hr:4294967296≤z.2+y1
  ·rw [if_pos hr,if_pos hr]
  ·rw [if_neg hr,if_neg hr];refine hb (z.1 - 1,z.2+y1) ⟨?_,by simp only;omega,by simp only;omega,by simp only;omega⟩;rcases hc with hc | hc
   ·simp only;omega
   ·by_cases h0:z.1=0
    ·rw [h0] at hc;omega
    ·simp only;omega
 ·rw [if_neg hc,if_neg hc]
def izk (yn u t q:Int):Int:=IntKind.u64.wrap (IntKind.u64.wrap (IntKind.u64.wrap (u*4294967296)+t.fdiv 4294967296) - IntKind.u64.wrap (q*yn))
def tz1 (yn u t:Int) (S:Int):Option (Int×Int) :=
 obnd (fzI (yn.fdiv 4294967296,azA BinOp.and IntKind.u64 yn 4294967295,t.fdiv 4294967296,IntKind.u64.wrap (u.tdiv (yn.fdiv 4294967296)),
  IntKind.u64.wrap (u - IntKind.u64.wrap (IntKind.u64.wrap (u.tdiv (yn.fdiv 4294967296))*yn.fdiv 4294967296)))) fun q1 =>
  (obnd (fzJ (yn.fdiv 4294967296,azA BinOp.and IntKind.u64 yn 4294967295,azA BinOp.and IntKind.u64 t 4294967295,
   IntKind.u64.wrap (izk yn u t q1 - IntKind.u64.wrap (IntKind.u64.wrap ((izk yn u t q1).tdiv (yn.fdiv 4294967296))*yn.fdiv 4294967296)),
   IntKind.u64.wrap ((izk yn u t q1).tdiv (yn.fdiv 4294967296)))) fun q0 =>
   some (IntKind.u64.wrap (IntKind.u64.wrap (q1*4294967296)+q0),
    (IntKind.u64.wrap (IntKind.u64.wrap (IntKind.u64.wrap (izk yn u t q1*4294967296)+azA BinOp.and IntKind.u64 t 4294967295) - IntKind.u64.wrap (q0*yn))).fdiv S))
theorem tzP {a b:Int} (ha:0≤a):a.tdiv b=a / b:=Int.tdiv_eq_ediv_of_nonneg ha
theorem rest_is {u d:Int} (hu:0≤u) (hu':u < 18446744073709551616) (hd:0 < d):IntKind.u64.wrap (u.tdiv d)=u / d∧IntKind.u64.wrap (u - IntKind.u64.wrap (IntKind.u64.wrap (u.tdiv d)*d))=u % d:=by
 rw [tzP hu];have h1:0≤u / d:=Int.ediv_nonneg hu (by omega);have h2:u / d≤u:=Int.ediv_le_self _ hu;have h3:=Int.mul_ediv_add_emod u d;have h4:=Int.emod_nonneg u (show d≠0 by omega);have h5:=Int.mul_comm d (u / d);have h6:=fzx h1 (show 0≤d by omega);rw [azS h1 (by omega),azS h6 (by omega),azS (by omega) (by omega)];exact ⟨rfl,by omega⟩
theorem div_v_is {yn u t q:Int} (hq:q=(u*4294967296+t / 4294967296) / yn) (hyn:0 < yn) (hyn':yn < 18446744073709551616) :
 izk yn u t q=u*4294967296+t / 4294967296 - q*yn∧0≤izk yn u t q∧izk yn u t q < yn:=by
 have h3:=Int.mul_ediv_add_emod (u*4294967296+t / 4294967296) yn;have h4:=Int.emod_nonneg (u*4294967296+t / 4294967296) (show yn≠0 by omega);have h5:=Int.emod_lt_of_pos (u*4294967296+t / 4294967296) hyn;rw [← hq,Int.mul_comm] at h3;have e:izk yn u t q=u*4294967296+t / 4294967296 - q*yn:=by
  unfold izk;rw [Int.fdiv_eq_ediv_of_nonneg t (by omega)];simp only [u64];omega
 rw [e];refine ⟨rfl,by omega,by omega⟩
theorem uz7 {yn u t S:Int} (hyn:9223372036854775808≤yn) (hyn':yn < 18446744073709551616) (hu:0≤u) (hu':u < yn) (ht:0≤t) (ht':t < 18446744073709551616) (hS:0 < S) :
 tz1 yn u t S=some ((u*18446744073709551616+t) / yn,(u*18446744073709551616+t) % yn / S):=by
 unfold tz1;rw [Int.fdiv_eq_ediv_of_nonneg yn (by omega),Int.fdiv_eq_ediv_of_nonneg t (by omega),and32 (x:=yn) (by omega) hyn',and32 (x:=t) ht ht'];obtain ⟨r1,r2⟩:=rest_is (u:=u) (d:=yn / 4294967296) hu (by omega) (by omega);rw [r2,r1,l1_guess hu (by omega) (by omega) (by omega) (by omega) (by omega) (by omega) (by omega),aza];have hyne:yn / 4294967296*4294967296+yn % 4294967296=yn:=by omega
 rw [hyne];obtain ⟨q1,hq1⟩:∃ q,(u*4294967296+t / 4294967296) / yn=q:=⟨_,rfl⟩;rw [hq1];obtain ⟨v1,v2,v3⟩:=div_v_is hq1.symm (by omega) hyn';obtain ⟨v,hv⟩:∃ v,izk yn u t q1=v:=⟨_,rfl⟩;rw [hv] at v1 v2 v3 ⊢;obtain ⟨s1,s2⟩:=rest_is (u:=v) (d:=yn / 4294967296) v2 (by omega) (by omega);rw [s2,s1,l2_guess v2 (by omega) (by omega) (by omega) (by omega) (by omega) (by omega) (by omega),aza,hyne];obtain ⟨q0,hq0⟩:∃ q,(v*4294967296+t % 4294967296) / yn=q:=⟨_,rfl⟩;rw [hq0];have h3:=Int.mul_ediv_add_emod (v*4294967296+t % 4294967296) yn;have h4:=Int.emod_nonneg (v*4294967296+t % 4294967296) (show yn≠0 by omega);have h5:=Int.emod_lt_of_pos (v*4294967296+t % 4294967296) (show 0 < yn by omega);rw [hq0,Int.mul_comm] at h3;have b1:q1 < 4294967296:=by rw [← hq1];exact (Int.ediv_lt_iff_lt_mul (by omega)).2 (by omega)
 have b1':0≤q1:=by rw [← hq1];exact Int.ediv_nonneg (by omega) (by omega)
 have b0:q0 < 4294967296:=by rw [← hq0];exact (Int.ediv_lt_iff_lt_mul (by omega)).2 (by omega)
 have b0':0≤q0:=by rw [← hq0];exact Int.ediv_nonneg (by omega) (by omega)
 have key:u*18446744073709551616+t=(v*4294967296+t % 4294967296) % yn+yn*(q1*4294967296+q0):=by
  have e1:yn*(q1*4294967296+q0)=q1*yn*4294967296+q0*yn:=by
   rw [Int.mul_add,Int.mul_comm yn q0,← Int.mul_assoc,Int.mul_comm yn q1]
  rw [e1];omega
 have kq:(u*18446744073709551616+t) / yn=q1*4294967296+q0:=by
  rw [key,Int.add_mul_ediv_left _ _ (show yn≠0 by omega),Int.ediv_eq_zero_of_lt h4 h5,Int.zero_add]
 have kr:(u*18446744073709551616+t) % yn=(v*4294967296+t % 4294967296) % yn:=by
  rw [key,Int.add_mul_emod_self_left,Int.emod_emod]
 have er:IntKind.u64.wrap (IntKind.u64.wrap (IntKind.u64.wrap (v*4294967296)+t % 4294967296) - IntKind.u64.wrap (q0*yn))=(v*4294967296+t % 4294967296) % yn:=by
  simp only [u64];omega
 rw [kq,kr,er,Int.fdiv_eq_ediv_of_nonneg _ (by omega),azS (n:=q1*4294967296) (by omega) (by omega),azS (by omega) (by omega)]
set_option maxHeartbeats 1000000 in
theorem Div64_is {hi lo y:Int} (h0:0≤hi) (h1:hi < y) (hl0:0≤lo) (hl:lo < 18446744073709551616) (hy:y < 18446744073709551616) :
 fz0 (hi,lo,y)=some ((hi*18446744073709551616+lo) / y,(hi*18446744073709551616+lo) % y):=by
 have f1:decide (y=0)=false:=decide_eq_false (by omega);have f2:decide (y≤hi)=false:=decide_eq_false (by omega);by_cases hz:hi=0
 ·subst hz;unfold fz0;simp only [f1,f2,azb,decide_true,azc];rw [tzP hl0,Int.tmod_eq_emod_of_nonneg hl0,Int.zero_mul,Int.zero_add];have:=Int.ediv_le_self y hl0;have:=Int.ediv_nonneg hl0 (show 0≤y by omega);rw [azS this (by omega)]
 have f3:decide (hi=0)=false:=decide_eq_false hz;obtain ⟨Y,rfl⟩:=Int.eq_ofNat_of_zero_le (show 0≤y by omega);obtain ⟨b1,b2,b3⟩:=Lib.bitLenAux_bounds 64 Y (by omega) (by omega);have b4:Lib.bitLenAux 64 Y≤64:=by
  refine Nat.le_of_not_lt fun h=>?_
  have:=Nat.pow_le_pow_right (show 0 < 2 by omega) (show 64≤Lib.bitLenAux 64 Y - 1 by omega);omega
 obtain ⟨b,hb⟩:∃ b,Lib.bitLenAux 64 Y=b:=⟨_,rfl⟩;rw [hb] at b1 b2 b3 b4;obtain ⟨s,hs⟩:∃ s,s+b=64:=⟨64 - b,by omega⟩;have hST:(2:Int) ^ s*2 ^ b=18446744073709551616:=by rw [← Int.pow_add,hs];rfl
 have hS0:(0:Int) < 2 ^ s:=Int.pow_pos (by omega);have hT0:(0:Int) < 2 ^ b:=Int.pow_pos (by omega);have hYT:(Y:Int) < 2 ^ b:=by
  have:=Int.ofNat_lt.2 b3;simpa using this
 have hYS:(Y:Int)*2 ^ s < 18446744073709551616:=by
  rw [← hST,Int.mul_comm ((2:Int) ^ s)];exact Int.mul_lt_mul_of_pos_right hYT hS0
 have hYS2:(9223372036854775808:Int)≤Y*2 ^ s:=by
  have h2:((2 ^ (b - 1):Nat):Int)≤Y:=Int.ofNat_le.2 b2;have h3:=Int.mul_le_mul_of_nonneg_right h2 (Int.le_of_lt hS0);have h4:((2 ^ (b - 1):Nat):Int)*2 ^ s=9223372036854775808:=by
   rw [Int.natCast_pow]
   show (2:Int) ^ (b - 1)*2 ^ s=_
   rw [← Int.pow_add,show b - 1+s=63 by omega];rfl
  omega
 have hlT:lo / 2 ^ b < 2 ^ s:=(Int.ediv_lt_iff_lt_mul hT0).2 (by rw [hST];exact hl);have hlT0:0≤lo / 2 ^ b:=Int.ediv_nonneg hl0 (Int.le_of_lt hT0);have hhi:hi*2 ^ s+2 ^ s≤Y*2 ^ s:=by
  have:=Int.mul_le_mul_of_nonneg_right (show hi+1≤(Y:Int) by omega) (Int.le_of_lt hS0);rw [Int.add_mul] at this;omega
 have hhi0:0≤hi*2 ^ s:=fzx h0 (Int.le_of_lt hS0);have w1:dza (Y:Int)=some (s:Int):=by
  unfold dza;have e:Lib.bitLen (Y:Int).toNat=b:=hb;rw [e,show (64 - (b:Int))=s by omega]
 have w2:IntKind.u64.wrap (s:Int)=s:=azS (by omega) (by omega);have w3:IntKind.u64.wrap (64 - (s:Int))=b:=by rw [show (64 - (s:Int))=b by omega];exact azS (by omega) (by omega)
 have m1:min s 64=s:=by omega
 have m2:min b 64=b:=by omega
 have n1:decide ((s:Int) < 0)=false:=decide_eq_false (by omega);have n2:decide ((b:Int) < 0)=false:=decide_eq_false (by omega);have wy:IntKind.u64.wrap ((Y:Int)*2 ^ s)=Y*2 ^ s:=azS (by omega) hYS;have wh:IntKind.u64.wrap (hi*2 ^ s)=hi*2 ^ s:=azS hhi0 (by omega);have wf:lo.fdiv (2 ^ b)=lo / 2 ^ b:=Int.fdiv_eq_ediv_of_nonneg lo (Int.le_of_lt hT0);have wo:azA .or .u64 (hi*2 ^ s) (lo / 2 ^ b)=hi*2 ^ s+lo / 2 ^ b:=or_low h0 hlT0 hlT (by omega);have nd:decide (((Y:Int)*2 ^ s).fdiv 4294967296=0)=false:=by
  rw [Int.fdiv_eq_ediv_of_nonneg _ (by omega)];exact decide_eq_false (by omega)
 unfold fz0;simp only [f1,f2,f3,azb,w1,aza,w2,w3,n1,n2,Int.toNat_natCast,m1,m2,wy,wh,wf,wo,nd];have hd:=uz7 (yn:=(Y:Int)*2 ^ s) (u:=hi*2 ^ s+lo / 2 ^ b) (t:=IntKind.u64.wrap (lo*2 ^ s)) (S:=2 ^ s) hYS2 hYS (by omega) (by omega)
  (by rw [u64];omega) (by rw [u64];omega) hS0
 refine Eq.trans hd ?_;have e1:(hi*2 ^ s+lo / 2 ^ b)*18446744073709551616+IntKind.u64.wrap (lo*2 ^ s)=2 ^ s*(hi*18446744073709551616+lo):=by
  have h1:lo*2 ^ s / 18446744073709551616=lo / 2 ^ b:=by
   rw [← hST,Int.mul_comm ((2:Int) ^ s) (2 ^ b)];exact Int.mul_ediv_mul_of_pos_left lo (2 ^ b) hS0
  rw [u64,← h1,Int.mul_add,Int.mul_comm ((2:Int) ^ s) lo,← Int.mul_assoc,Int.mul_comm ((2:Int) ^ s) hi];omega
 rw [e1,Int.mul_comm (Y:Int) (2 ^ s),Int.mul_ediv_mul_of_pos _ _ hS0,Int.mul_emod_mul_of_pos _ _ hS0,Int.mul_ediv_cancel_left _ (by omega)]
def W (v:Int) (m:Bool):Wide:=⟨v / 18446744073709551616,v % 18446744073709551616,m⟩
def sw (v:Int) (m:Bool):Int:=bif m then -v else v
def inW (v:Int):Prop:=0≤v∧v < 340282366920938463463374607431768211456
theorem of_is {n:Int} (h:I64 n):fzM n=some (W n.natAbs (decide (n < 0))):=by
 unfold I64 at h;unfold fzM W;by_cases h0:n < 0
 ·simp only [h0,decide_true,azc,u64,Option.some.injEq,Wide.mk.injEq,and_true];omega
 ·simp only [h0,decide_false,azb,u64,Option.some.injEq,Wide.mk.injEq,and_true];omega
theorem pow10:∀ n:Fin 20,(1:Int)≤10 ^ n.val∧(10:Int) ^ n.val≤10000000000000000000:=by decide
theorem jz0 {n:Nat} (h:n≤19):(1:Int)≤10 ^ n∧(10:Int) ^ n≤10000000000000000000:=pow10 ⟨n,by omega⟩
theorem vzE {n:Nat} (h:n≤19):czD (n:Int)=some (10 ^ n):=by
 have h2:izL (1,(n:Int),0)=some (10 ^ n):=by
  refine mzD (F:=gzi) (fun x:Int×Int×Int=>((n:Int) - x.2.2).toNat) (fun x:Int×Int×Int=>0≤x.2.2∧x.2.2≤n∧x.2.1=n∧x.1=10 ^ x.2.2.toNat) (fun _=>10 ^ n) ?_ _ ⟨by simp,by simp,rfl,rfl⟩ (by simp only;omega);intro back x hp hb;obtain ⟨a,m,i⟩:=x;obtain ⟨h1,h2,h3,h4⟩:=hp;simp only at h1 h2 h3 h4 hb;subst h3 h4;obtain ⟨i,rfl⟩:=Int.eq_ofNat_of_zero_le h1;unfold gzi;simp only [Int.toNat_natCast] at *;by_cases hi:i < n
  ·have hp1:=(jz0 (show i+1≤19 by omega));rw [decide_eq_true (show (i:Int) < n by omega),azc,← Int.pow_succ,azS (by omega) (by omega),azw (by omega) (by omega)];exact hb _ ⟨by simp only;omega,by simp only;omega,rfl,by simp only;rw [show ((i:Int)+1).toNat=i+1 by omega]⟩ (by simp only;omega)
  ·rw [decide_eq_false (show ¬ (i:Int) < n by omega),azb,show i=n by omega]
 unfold czD;rw [h2];rfl
theorem vzO {v n:Int} {m:Bool} (hv:inW v) (hn:0≤n) (hn2:n < 18446744073709551616) (h:inW (v*n)):czS (W v m,n)=some (W (v*n) m):=by
 unfold inW at *;unfold czS W;simp only;rw [Mul64_is (by omega) (by omega) hn hn2];simp only [aza];have e:v*n=v / 18446744073709551616*n*18446744073709551616+v % 18446744073709551616*n:=by
  have h1:v=v / 18446744073709551616*18446744073709551616+v % 18446744073709551616:=by omega
  have h2:v*n=(v / 18446744073709551616*18446744073709551616+v % 18446744073709551616)*n:=by rw [← h1]
  rw [h2,Int.add_mul,Int.mul_right_comm]
 have p1:=fzx (show 0≤v / 18446744073709551616 by omega) hn;have p2:=fzx (show 0≤v % 18446744073709551616 by omega) hn;rw [e] at h ⊢;generalize v / 18446744073709551616*n=a at *;generalize v % 18446744073709551616*n=b at *;simp only [u64,Option.some.injEq,Wide.mk.injEq,and_true];omega
theorem tzL {v w:Int} {m m':Bool} (_:inW v) (_:inW w):czb (W v m,W w m')=some (decide (v < w)):=by
 unfold inW at *;unfold czb W;simp only;by_cases h1:v / 18446744073709551616 < w / 18446744073709551616
 ·rw [decide_eq_true h1,azc,decide_eq_true (show v < w by omega)]
 ·rw [decide_eq_false h1,azb];by_cases h2:v / 18446744073709551616=w / 18446744073709551616
  ·rw [decide_eq_true h2,azc];simp only [Option.some.injEq,decide_eq_decide];omega
  ·rw [decide_eq_false h2,azb,decide_eq_false (show ¬ v < w by omega)]
theorem plus_is {v w:Int} {m m':Bool} (hv:inW v) (hw:inW w) (h:inW (v+w)) :
 ∃ z b,ezw (W v m,W w m')=some (W z b)∧inW z∧sw z b=sw v m+sw w m':=by
 have hvw:=tzL (m:=m) (m':=m') hv hw;unfold inW at *;unfold ezw;rw [hvw];by_cases hm:m=m'
 ·subst hm;refine ⟨v+w,m,?_,h,by cases m<;>simp only [sw,cond_true,cond_false]<;>omega⟩;unfold ezf W;simp only [decide_true,azc,Bool.true_or,cond_true,aza,u64,Option.some.injEq,Wide.mk.injEq,and_true];omega
 ·rw [decide_eq_false (show ¬ (W v m).minus=(W w m').minus from hm),azb,aza];have hm2:m' = !m:=by cases m<;>cases m'<;>simp at hm ⊢
  subst hm2;unfold fzd W;by_cases hl:v < w
  ·refine ⟨w - v,!m,?_,by omega,by cases m<;>simp only [sw,cond_true,cond_false,Bool.not_true,Bool.not_false]<;>omega⟩;rw [decide_eq_true hl,azc];simp only [decide_true,Bool.true_or,cond_true,aza,u64,Option.some.injEq,Wide.mk.injEq,and_true,Int.add_zero,Int.sub_zero];by_cases hb:w % 18446744073709551616 < v % 18446744073709551616
   ·rw [decide_eq_true hb,cond_true];omega
   ·rw [decide_eq_false hb,cond_false];omega
  ·refine ⟨v - w,m,?_,by omega,by cases m<;>simp only [sw,cond_true,cond_false,Bool.not_true,Bool.not_false]<;>omega⟩;rw [decide_eq_false hl,azb];simp only [decide_true,Bool.true_or,cond_true,aza,u64,Option.some.injEq,Wide.mk.injEq,and_true,Int.add_zero,Int.sub_zero];by_cases hb:v % 18446744073709551616 < w % 18446744073709551616
   ·rw [decide_eq_true hb,cond_true];omega
   ·rw [decide_eq_false hb,cond_false];omega
theorem by_is {v n:Int} {m:Bool} (hv:inW v) (hn:0 < n) (hn2:n < 18446744073709551616):fzp (W v m,n)=some (W (v / n) m,v % n):=by
 unfold inW at *;unfold fzp W;simp only;have hh:0≤v / 18446744073709551616:=by omega
 rw [decide_eq_false (show ¬ n=0 by omega),azb,azb,Int.tmod_eq_emod_of_nonneg hh,tzP hh];have r0:=Int.emod_nonneg (v / 18446744073709551616) (show n≠0 by omega);have r1:=Int.emod_lt_of_pos (v / 18446744073709551616) hn;rw [Div64_is r0 r1 (by omega) (by omega) hn2,aza];obtain ⟨q,hq⟩:∃ q,v / 18446744073709551616 / n=q:=⟨_,rfl⟩;obtain ⟨r,hr⟩:∃ r,v / 18446744073709551616 % n=r:=⟨_,rfl⟩;have hqr:=Int.mul_ediv_add_emod (v / 18446744073709551616) n;rw [hq,hr] at hqr;rw [hr] at r0 r1;rw [hr,hq];have hq0:0≤q:=by rw [← hq];exact Int.ediv_nonneg hh (by omega)
 have hq1:q < 18446744073709551616:=by have:=Int.ediv_le_self n hh;omega
 have e:v=r*18446744073709551616+v % 18446744073709551616+n*(q*18446744073709551616):=by
  rw [← Int.mul_assoc];omega
 obtain ⟨d,hd⟩:∃ d,r*18446744073709551616+v % 18446744073709551616=d:=⟨_,rfl⟩;rw [hd] at e ⊢;have d0:0≤d / n:=Int.ediv_nonneg (by omega) (by omega);have d1:d / n < 18446744073709551616:=(Int.ediv_lt_iff_lt_mul hn).2 (by omega);have e1:v / n=d / n+q*18446744073709551616:=by
  rw [e,Int.add_mul_ediv_left _ _ (show n≠0 by omega)]
 have e2:v % n=d % n:=by rw [e,Int.add_mul_emod_self_left]
 rw [e1,e2];simp only [u64,Option.some.injEq,Prod.mk.injEq,Wide.mk.injEq,and_true];omega
theorem up_is {v:Int} {m:Bool} (hv:inW v) (h:inW (v+1)):gzN (W v m)=some (W (v+1) m):=by
 unfold inW at *;unfold gzN ezf W;simp only [decide_true,Bool.true_or,cond_true,aza,u64,Option.some.injEq,Wide.mk.injEq,and_true];omega
theorem rdiv_le {v n:Int} (hv:0≤v) (hn:0 < n):0≤rdiv v n∧rdiv v n≤v / n+1∧v / n≤v:=by
 have h1:=Int.ediv_nonneg hv (show 0≤n by omega);have h2:=Int.ediv_le_self n hv;unfold rdiv;split<;>omega
theorem vzH {v n:Int} {m:Bool} (hv:0≤v) (hv2:v < 340282366920938463463374607431768211455) (hn:0 < n) (hn2:n < 18446744073709551616):czk (W v m,n)=some (W (rdiv v n) m)∧inW (rdiv v n):=by
 have hw:inW v:=⟨hv,by omega⟩;obtain ⟨h1,h2,h3⟩:=rdiv_le hv hn;have r0:=Int.emod_nonneg v (show n≠0 by omega);have r1:=Int.emod_lt_of_pos v hn;have r2:=Int.ediv_nonneg hv (show 0≤n by omega);refine ⟨?_,h1,by omega⟩;unfold czk;rw [by_is hw hn hn2,aza];simp only;rw [azS (by omega) (by omega)];unfold rdiv;by_cases h:n - v % n≤v % n
 ·rw [decide_eq_true h,azc,if_pos (by omega),up_is ⟨r2,by omega⟩ ⟨by omega,by omega⟩];rfl
 ·rw [decide_eq_false h,azb,if_neg (by omega)]
theorem rzu:∀ (p:Nat) {v:Int},0≤v→0≤(azy v p).1
 | 0,_,h=>h
 | p+1,v,h=>by
  unfold azy;split
  ·exact rzu p (by omega)
  ·exact h
theorem oz1:∀ (p:Nat) (v:Int),azy (-v) p=(-(azy v p).1,(azy v p).2)
 | 0,_=>rfl
 | p+1,v=>by
  unfold azy;by_cases h:v % 10=0
  ·rw [if_pos (by omega),if_pos h,show -v / 10 = -(v / 10) by omega,oz1 p]
  ·rw [if_neg (by omega),if_neg h]
theorem dec_l1_is {v:Int} {m:Bool} {p:Nat} (hv:inW v) (hp:p≤18):gzt ((p:Int),W v m)=some (((azy v p).2:Int),W (azy v p).1 m):=by
 refine mzD (fun x=>x.1.toNat) (fun x=>∃ (p:Nat) (v:Int),p≤18∧inW v∧x=((p:Int),W v m)∧True)
  (fun x=>(((azy (x.2.hi*18446744073709551616+x.2.lo) x.1.toNat).2:Int),W (azy (x.2.hi*18446744073709551616+x.2.lo) x.1.toNat).1 m)) ?_ _ ⟨p,v,hp,hv,rfl,trivial⟩ (by simp only;omega) |>.trans ?_
 ·intro back x hx hb;obtain ⟨p,v,hp,hv,rfl,-⟩:=hx;have ev:∀ {v:Int},v / 18446744073709551616*18446744073709551616+v % 18446744073709551616=v:=fun {v}=>by omega
  unfold gzs;simp only [W,Int.toNat_natCast,ev] at hb ⊢;cases p with
  | zero=>simp only [Int.ofNat_zero,Int.lt_irrefl,decide_false,azb,azy]
  | succ p =>
   have hby:=by_is (v:=v) (n:=10) (m:=m) hv (by omega) (by omega);simp only [W] at hby
   rw [decide_eq_true (show (0:Int) < ((p+1:Nat):Int) by omega),azc,hby,aza];unfold azy;by_cases h0:v % 10=0
   ·simp only [h0,decide_true,Bool.not_true,azb,if_true];rw [azw (by omega) (by omega),show (((p+1:Nat):Int) - 1)=(p:Int) by omega];have:=hb ((p:Int),⟨v / 10 / 18446744073709551616,v / 10 % 18446744073709551616,m⟩) ⟨p,v / 10,by omega,⟨by have:=hv.1;omega,by have:=hv.1;have:=hv.2;omega⟩,rfl,trivial⟩ (by simp only [Int.toNat_natCast];omega);simpa only [ev,Int.toNat_natCast] using this
   ·simp only [h0,decide_false,Bool.not_false,azc,if_false]
 ·have ev:v / 18446744073709551616*18446744073709551616+v % 18446744073709551616=v:=by omega
  simp only [W,ev,Int.toNat_natCast]
theorem wdec_is {v:Int} {m:Bool} {p:Nat} (hv:inW v) (hp:p≤18):bzP (W v m,(p:Int))=some (decV (sw v m) p):=by
 unfold bzP;simp only;rw [dec_l1_is hv hp,aza];have h0:=rzu p hv.1;have h1:=uzo p v;have hs:azy (sw v m) p=(sw (azy v p).1 m,(azy v p).2):=by
  cases m
  ·rfl
  ·exact oz1 p v
 have hd:decV (sw v m) p=if I64 (sw (azy v p).1 m) then (⟨sw (azy v p).1 m,((azy v p).2:Int)⟩,0) else (⟨0,0⟩,8):=by
  unfold decV;rw [hs]
 rw [hd];have hv1:=hv.1;have hv2:=hv.2;generalize (azy v p).1=u at *;generalize ((azy v p).2)=s at *;unfold W;simp only [u64,i64];by_cases c1:u / 18446744073709551616=0
 ·by_cases c2:9223372036854775808 < u % 18446744073709551616
  ·rw [if_neg (by unfold I64 sw;cases m<;>simp only [cond_true,cond_false]<;>omega)];simp [c1,c2]
  ·by_cases c3:u % 18446744073709551616=9223372036854775808
   ·cases m
    ·rw [if_neg (by unfold I64 sw;simp only [cond_false];omega)];simp [c1,c3]
    ·rw [if_pos (by unfold I64 sw;simp only [cond_true];omega)];simp only [c1,c3,sw,decide_true,decide_false,Bool.not_true,azc,azb,cond_true,Option.some.injEq,Prod.mk.injEq,Dec.mk.injEq,and_true,Int.lt_irrefl];omega
   ·cases m
    ·rw [if_pos (by unfold I64 sw;simp only [cond_false];omega)];simp only [c1,c2,c3,sw,decide_true,decide_false,Bool.not_true,azb,cond_false,Option.some.injEq,Prod.mk.injEq,Dec.mk.injEq,and_true];omega
    ·rw [if_pos (by unfold I64 sw;simp only [cond_true];omega)];simp only [c1,c2,c3,sw,decide_true,decide_false,Bool.not_true,azc,azb,cond_true,Option.some.injEq,Prod.mk.injEq,Dec.mk.injEq,and_true];omega
 ·rw [if_neg (by unfold I64 sw;cases m<;>simp only [cond_true,cond_false]<;>omega)];simp [c1]
theorem ozO (n:Int):sw n.natAbs (decide (n < 0))=n:=by
 unfold sw;by_cases h:n < 0
 ·rw [decide_eq_true h,cond_true];omega
 ·rw [decide_eq_false h,cond_false];omega
theorem pzY (n:Int) (k:Nat):(n.natAbs:Int)*10 ^ k=((n*10 ^ k).natAbs:Int):=by
 have h:(1:Int)≤10 ^ k:=by
  have:=Int.pow_pos (n:=(10:Int)) (m:=k) (by omega);omega
 by_cases h0:n < 0
 ·have e1:(n.natAbs:Int) = -n:=by omega
  have e2:n*10 ^ k≤0:=by
   have:=Int.mul_nonneg (show 0≤-n by omega) (show (0:Int)≤10 ^ k by omega);rw [Int.neg_mul] at this;omega
  rw [e1,Int.neg_mul];omega
 ·have e1:(n.natAbs:Int)=n:=by omega
  have:=Int.mul_nonneg (show 0≤n by omega) (show (0:Int)≤10 ^ k by omega);rw [e1];omega
theorem qzi (n:Int) (k:Nat):decide (n*10 ^ k < 0)=decide (n < 0):=by
 have h:(0:Int) < 10 ^ k:=Int.pow_pos (by omega);rw [decide_eq_decide];constructor
 ·intro h1;refine Int.not_le.1 fun h2=>?_
  have:=Int.mul_nonneg h2 (Int.le_of_lt h);omega
 ·intro h1;have:=Int.mul_pos (show 0 < -n by omega) h;rw [Int.neg_mul] at this;omega
theorem V_le {d:Dec} (hm:I64 d.M):(V d).natAbs≤9223372036854775808000000000:=by
 have h:=pzY d.M (9 - d.S.toNat);have h2:=jz0 (show 9 - d.S.toNat≤19 by omega);have h3:(10:Int) ^ (9 - d.S.toNat)≤10 ^ 9:=by
  have:=Nat.pow_le_pow_right (show 0 < 10 by omega) (show 9 - d.S.toNat≤9 by omega);have h:=Int.ofNat_le.2 this;simpa using h
 unfold I64 at hm;have h4:(d.M.natAbs:Int)*10 ^ (9 - d.S.toNat)≤9223372036854775808*10 ^ 9:=hza (by omega) (by omega) (by omega) h3;unfold V;omega
theorem inV {d:Dec} (hm:I64 d.M):inW (V d).natAbs:=by
 have:=V_le hm;unfold inW;omega
theorem izF {d:Dec} (hm:I64 d.M) (h0:0≤d.S) (h9:d.S≤9):cze d=some (W (V d).natAbs (decide (V d < 0))):=by
 unfold cze;have e:d.M.natAbs*(10:Int) ^ (9 - d.S.toNat)=((V d).natAbs:Int):=pzY d.M (9 - d.S.toNat);have hp:=jz0 (show 9 - d.S.toNat≤19 by omega);rw [of_is hm,aza,azw (by omega) (by omega),show (9 - d.S:Int)=((9 - d.S.toNat:Nat):Int) by omega,vzE (by omega),aza,
  vzO (by unfold I64 at hm;unfold inW;omega) (by omega) (by omega) (by rw [e];exact inV hm),e,aza]
 unfold V;rw [qzi]
theorem Add_is {a b:Dec} (ha:I64 a.M) (hb:I64 b.M) (oa:okD a) (ob:okD b):hzN (a,b)=some (decV (V a+V b) 9):=by
 unfold hzN;simp only;rw [izF ha oa.1 oa.2.1,izF hb ob.1 ob.2.1,aza,aza];have h1:=V_le ha;have h2:=V_le hb;obtain ⟨z,m,e,hz,es⟩:=plus_is (m:=decide (V a < 0)) (m':=decide (V b < 0)) (inV ha) (inV hb) (by unfold inW;omega);rw [e,aza,show (9:Int)=((9:Nat):Int) from rfl,wdec_is hz (by omega),es,ozO,ozO];rfl
theorem cmp_is (x y:Int):czF (x,y)=some (cmpV x y):=by
 unfold czF ezM cmpV;simp only [decide_true,cond_true,aza,azb];by_cases h:x < y
 ·simp [h]
 ·by_cases h2:y < x<;>simp [h,h2]
theorem pzc (x y:Int):azK (x,y)=some (cmpV x y):=by
 unfold azK fzK cmpV;simp only [decide_true,cond_true,aza,azb];by_cases h:x < y
 ·simp [h]
 ·by_cases h2:y < x<;>simp [h,h2]
theorem V_neg (d:Dec):decide (V d < 0)=decide (d.M < 0):=qzi d.M _
theorem wzF {a b:Dec} (ha:I64 a.M) (hb:I64 b.M) (h0:0≤a.S) (h9:a.S≤9) (k0:0≤b.S) (k9:b.S≤9):czj (a,b)=some (cmpV (V a) (V b)):=by
 unfold czj;simp only;rw [izF ha h0 h9,izF hb k0 k9,aza,aza,tzL (inV ha) (inV hb),tzL (inV hb) (inV ha),cmp_is,cmp_is,aza,aza,pzc]
 show brn (!decide (decide (V a < 0)=decide (V b < 0))) _ (brn (decide (V a < 0)) _ _)=_
 have na:=V_neg a;have nb:=V_neg b;simp only [decide_eq_decide] at na nb;by_cases h1:V a < 0<;>by_cases h2:V b < 0
 ·simp only [h1,h2,decide_true,Bool.not_true,azb,azc,aza];unfold cmpV;by_cases c1:(V a).natAbs < (V b).natAbs
  ·rw [decide_eq_true (by omega),azc,if_neg (by omega),if_pos (by omega)]
  ·rw [decide_eq_false (by omega),azb];by_cases c2:(V b).natAbs < (V a).natAbs
   ·rw [decide_eq_true (by omega),azc,if_pos (by omega)]
   ·rw [decide_eq_false (by omega),azb,if_neg (by omega),if_neg (by omega)]
 ·have m1:=na.1 h1;have m2:=mt nb.2 h2;simp only [h1,h2,decide_true,decide_false,Bool.true_eq_false,Bool.not_false,azc,aza];unfold cmpV;rw [if_pos (show V a < V b by omega),if_pos m1,if_neg m2];split<;>rfl
 ·have m1:=mt na.2 h1;have m2:=nb.1 h2;simp only [h1,h2,decide_true,decide_false,Bool.false_eq_true,Bool.not_false,azc,aza];unfold cmpV;rw [if_neg (show ¬ V a < V b by omega),if_pos (show V b < V a by omega),if_neg m1,if_pos m2];split<;>rfl
 ·simp only [h1,h2,decide_true,decide_false,Bool.not_true,azb,aza];unfold cmpV;by_cases c1:(V a).natAbs < (V b).natAbs
  ·rw [decide_eq_true (by omega),azc,if_pos (by omega)]
  ·rw [decide_eq_false (by omega),azb];by_cases c2:(V b).natAbs < (V a).natAbs
   ·rw [decide_eq_true (by omega),azc,if_neg (by omega),if_pos (by omega)]
   ·rw [decide_eq_false (by omega),azb,if_neg (by omega),if_neg (by omega)]
end Go.Proofs.YtdgpkbnnljblmaaGreatDoor
